/-
  Part 6 of 7: laws and walks for elfWritesUpto_holds; no condition of its own.
-/
import Derived.Test.YtgjoimcgiofinaaEw5
import Derived.OrdersHeld
import Derived.Deep.DeepCutAuto
namespace Go.Proofs.Ytgjoimcgiofinaa
open Go.RowKit Go.Fd
set_option maxHeartbeats 4000000 in
set_option maxRecDepth 100000 in
theorem elfSame_any (e f : ElfM) (L M : List (SecM × Value)) (sv gv su gu : Value) (w : World) (h : ElfAt w e L sv gv) (h' : ElfAt w f M su gu) (hl : L.length ≤ 1000000000) (hm : M.length ≤ 1000000000) (hg : e.segs.length ≤ 1000000000) (hg' : f.segs.length ≤ 1000000000) :
    Calls Try.prog 49 #[elfV e sv gv, elfV f su gu] w fun r w' => r = .returned (.bool (decide (e = f))) ∧ Below w.heap.size w w' := by
  have HQ1 := Lib.hid (fun w' (hb : Below w.heap.size w w') => secsEq_any L M sv su w' hl hm (h.rd.mono hb) (h'.rd.mono hb) (fun p hp => (h.data p hp).mono hb) (fun p hp => (h'.data p hp).mono hb))
  have HQ2 := Lib.hid (fun w' (hb : Below w.heap.size w w') => segsEq_any e.segs f.segs gv gu w' hg hg' (h.segs.mono hb) (h'.segs.mono hb))
  have hs1 := h.secs
  have hs2 := h'.secs
  rw [← hs1, ← hs2] at HQ1
  clear h h' hl hm hg hg' hs1 hs2
  obtain ⟨t1, m1, f1, n1, s1, g1⟩ := e
  obtain ⟨t2, m2, f2, n2, s2, g2⟩ := f
  dsimp only at *
  have HR : Hid (decide ((⟨t1, m1, f1, n1, s1, g1⟩ : ElfM) = ⟨t2, m2, f2, n2, s2, g2⟩) = ((t1 == t2) && (m1 == m2) && ((f1 : Int) == (f2 : Int)) && ((n1 : Int) == (n2 : Int)) && decide (s1 = s2) && decide (g1 = g2))) := by
    show _ = _
    rw [Bool.eq_iff_iff]
    simp only [decide_eq_true_eq, ElfM.mk.injEq, Bool.and_eq_true, beq_iff_eq, Int.natCast_inj]
    constructor
    · rintro ⟨h1, h2, h3, h4, h5, h6⟩
      exact ⟨⟨⟨⟨⟨h1, h2⟩, h3⟩, h4⟩, h5⟩, h6⟩
    · rintro ⟨⟨⟨⟨⟨h1, h2⟩, h3⟩, h4⟩, h5⟩, h6⟩
      exact ⟨h1, h2, h3, h4, h5, h6⟩
  generalize decide ((⟨t1, m1, f1, n1, s1, g1⟩ : ElfM) = ⟨t2, m2, f2, n2, s2, g2⟩) = q at *
  cases hq0 : (t1 == t2) with
  | false =>
    rw [hq0] at HR
    (try simp only [Bool.false_and] at HR)
    go_enter Try.func49, Try.ntmps49
    go_wp2_with (first
      | ((with_reducible show wpList _ _ _ (⟨some 2, .box _ _, _, _, _, _⟩ :: _) _ _); go_must (refine wpList_box rfl ?_; intro w1 hx1 hb1 hs1; have HX1 := Lib.hid hx1; have HB1 := Lib.hid hb1; clear hx1 hb1))
      | ((with_reducible show wpList _ _ _ (⟨some 3, .box _ _, _, _, _, _⟩ :: _) _ _); go_must (refine wpList_box rfl ?_; intro w2 hx2 hb2 hs2; have HB2 := Lib.hid (HB1.out.trans (hb2.mono HB1.out.size)); have HX1' := Lib.hid (heap_below hb2 HX1.out); have HX2 := Lib.hid hx2; obtain ⟨c0, c1, c2, c3, c4, c5⟩ := elf_box (e := ⟨t1, m1, f1, n1, s1, g1⟩) HX1'.out; obtain ⟨z0, z1, z2, z3, z4, z5⟩ := elf_box (e := ⟨t2, m2, f2, n2, s2, g2⟩) hx2; clear hx2 hb2)))
    go_ret
    exact ⟨by rw [HR.out]; rfl, HB2.out⟩
  | true =>
    rw [hq0] at HR
    (try simp only [Bool.true_and] at HR)
    cases hq1 : (m1 == m2) with
    | false =>
      rw [hq1] at HR
      (try simp only [Bool.false_and] at HR)
      go_enter Try.func49, Try.ntmps49
      go_wp2_with (first
        | ((with_reducible show wpList _ _ _ (⟨some 2, .box _ _, _, _, _, _⟩ :: _) _ _); go_must (refine wpList_box rfl ?_; intro w1 hx1 hb1 hs1; have HX1 := Lib.hid hx1; have HB1 := Lib.hid hb1; clear hx1 hb1))
        | ((with_reducible show wpList _ _ _ (⟨some 3, .box _ _, _, _, _, _⟩ :: _) _ _); go_must (refine wpList_box rfl ?_; intro w2 hx2 hb2 hs2; have HB2 := Lib.hid (HB1.out.trans (hb2.mono HB1.out.size)); have HX1' := Lib.hid (heap_below hb2 HX1.out); have HX2 := Lib.hid hx2; obtain ⟨c0, c1, c2, c3, c4, c5⟩ := elf_box (e := ⟨t1, m1, f1, n1, s1, g1⟩) HX1'.out; obtain ⟨z0, z1, z2, z3, z4, z5⟩ := elf_box (e := ⟨t2, m2, f2, n2, s2, g2⟩) hx2; clear hx2 hb2)))
      go_ret
      exact ⟨by rw [HR.out]; rfl, HB2.out⟩
    | true =>
      rw [hq1] at HR
      (try simp only [Bool.true_and] at HR)
      cases hq2 : ((f1 : Int) == (f2 : Int)) with
      | false =>
        rw [hq2] at HR
        (try simp only [Bool.false_and] at HR)
        go_enter Try.func49, Try.ntmps49
        go_wp2_with (first
          | ((with_reducible show wpList _ _ _ (⟨some 2, .box _ _, _, _, _, _⟩ :: _) _ _); go_must (refine wpList_box rfl ?_; intro w1 hx1 hb1 hs1; have HX1 := Lib.hid hx1; have HB1 := Lib.hid hb1; clear hx1 hb1))
          | ((with_reducible show wpList _ _ _ (⟨some 3, .box _ _, _, _, _, _⟩ :: _) _ _); go_must (refine wpList_box rfl ?_; intro w2 hx2 hb2 hs2; have HB2 := Lib.hid (HB1.out.trans (hb2.mono HB1.out.size)); have HX1' := Lib.hid (heap_below hb2 HX1.out); have HX2 := Lib.hid hx2; obtain ⟨c0, c1, c2, c3, c4, c5⟩ := elf_box (e := ⟨t1, m1, f1, n1, s1, g1⟩) HX1'.out; obtain ⟨z0, z1, z2, z3, z4, z5⟩ := elf_box (e := ⟨t2, m2, f2, n2, s2, g2⟩) hx2; clear hx2 hb2)))
        go_ret
        exact ⟨by rw [HR.out]; rfl, HB2.out⟩
      | true =>
        rw [hq2] at HR
        (try simp only [Bool.true_and] at HR)
        cases hq3 : ((n1 : Int) == (n2 : Int)) with
        | false =>
          rw [hq3] at HR
          (try simp only [Bool.false_and] at HR)
          go_enter Try.func49, Try.ntmps49
          go_wp2_with (first
            | ((with_reducible show wpList _ _ _ (⟨some 2, .box _ _, _, _, _, _⟩ :: _) _ _); go_must (refine wpList_box rfl ?_; intro w1 hx1 hb1 hs1; have HX1 := Lib.hid hx1; have HB1 := Lib.hid hb1; clear hx1 hb1))
            | ((with_reducible show wpList _ _ _ (⟨some 3, .box _ _, _, _, _, _⟩ :: _) _ _); go_must (refine wpList_box rfl ?_; intro w2 hx2 hb2 hs2; have HB2 := Lib.hid (HB1.out.trans (hb2.mono HB1.out.size)); have HX1' := Lib.hid (heap_below hb2 HX1.out); have HX2 := Lib.hid hx2; obtain ⟨c0, c1, c2, c3, c4, c5⟩ := elf_box (e := ⟨t1, m1, f1, n1, s1, g1⟩) HX1'.out; obtain ⟨z0, z1, z2, z3, z4, z5⟩ := elf_box (e := ⟨t2, m2, f2, n2, s2, g2⟩) hx2; clear hx2 hb2)))
          go_ret
          exact ⟨by rw [HR.out]; rfl, HB2.out⟩
        | true =>
          rw [hq3] at HR
          (try simp only [Bool.true_and] at HR)
          cases hq4 : decide (s1 = s2) with
          | false =>
            rw [hq4] at HR HQ1
            clear hq4
            (try simp only [Bool.false_and] at HR)
            go_enter Try.func49, Try.ntmps49
            go_wp2_with (first
              | ((with_reducible show wpList _ _ _ (⟨some 2, .box _ _, _, _, _, _⟩ :: _) _ _); go_must (refine wpList_box rfl ?_; intro w1 hx1 hb1 hs1; have HX1 := Lib.hid hx1; have HB1 := Lib.hid hb1; clear hx1 hb1))
              | ((with_reducible show wpList _ _ _ (⟨some 3, .box _ _, _, _, _, _⟩ :: _) _ _); go_must (refine wpList_box rfl ?_; intro w2 hx2 hb2 hs2; have HB2 := Lib.hid (HB1.out.trans (hb2.mono HB1.out.size)); have HX1' := Lib.hid (heap_below hb2 HX1.out); have HX2 := Lib.hid hx2; obtain ⟨c0, c1, c2, c3, c4, c5⟩ := elf_box (e := ⟨t1, m1, f1, n1, s1, g1⟩) HX1'.out; obtain ⟨z0, z1, z2, z3, z4, z5⟩ := elf_box (e := ⟨t2, m2, f2, n2, s2, g2⟩) hx2; clear hx2 hb2))
              | (go_at_call 87; refine (HQ1.out _ HB2.out).mono ?_; rintro r w3 ⟨rfl, hb3⟩; have HB3 := Lib.hid (HB2.out.trans (hb3.mono HB2.out.size)); obtain ⟨p0, p1, p2, p3, p4, p5⟩ := elf_box (e := ⟨t1, m1, f1, n1, s1, g1⟩) (heap_below hb3 HX1'.out); obtain ⟨y0, y1, y2, y3, y4, y5⟩ := elf_box (e := ⟨t2, m2, f2, n2, s2, g2⟩) (heap_below hb3 HX2.out); clear hb3))
            go_ret
            exact ⟨by rw [HR.out]; rfl, HB3.out⟩
          | true =>
            rw [hq4] at HR HQ1
            clear hq4
            (try simp only [Bool.true_and] at HR)
            cases hq5 : decide (g1 = g2) with
            | false =>
              rw [hq5] at HR HQ2
              clear hq5
              (try simp only [Bool.and_false, Bool.false_and, Bool.true_and, Bool.and_true] at HR)
              go_enter Try.func49, Try.ntmps49
              go_wp2_with (first
                | ((with_reducible show wpList _ _ _ (⟨some 2, .box _ _, _, _, _, _⟩ :: _) _ _); go_must (refine wpList_box rfl ?_; intro w1 hx1 hb1 hs1; have HX1 := Lib.hid hx1; have HB1 := Lib.hid hb1; clear hx1 hb1))
                | ((with_reducible show wpList _ _ _ (⟨some 3, .box _ _, _, _, _, _⟩ :: _) _ _); go_must (refine wpList_box rfl ?_; intro w2 hx2 hb2 hs2; have HB2 := Lib.hid (HB1.out.trans (hb2.mono HB1.out.size)); have HX1' := Lib.hid (heap_below hb2 HX1.out); have HX2 := Lib.hid hx2; obtain ⟨c0, c1, c2, c3, c4, c5⟩ := elf_box (e := ⟨t1, m1, f1, n1, s1, g1⟩) HX1'.out; obtain ⟨z0, z1, z2, z3, z4, z5⟩ := elf_box (e := ⟨t2, m2, f2, n2, s2, g2⟩) hx2; clear hx2 hb2))
                | (go_at_call 87; refine (HQ1.out _ HB2.out).mono ?_; rintro r w3 ⟨rfl, hb3⟩; have HB3 := Lib.hid (HB2.out.trans (hb3.mono HB2.out.size)); obtain ⟨p0, p1, p2, p3, p4, p5⟩ := elf_box (e := ⟨t1, m1, f1, n1, s1, g1⟩) (heap_below hb3 HX1'.out); obtain ⟨y0, y1, y2, y3, y4, y5⟩ := elf_box (e := ⟨t2, m2, f2, n2, s2, g2⟩) (heap_below hb3 HX2.out); clear hb3)
                | (go_at_call 88; refine (HQ2.out _ HB3.out).mono ?_; rintro r w4 ⟨rfl, hb4⟩; have HB4 := Lib.hid (HB3.out.trans (hb4.mono HB3.out.size))))
              go_ret
              exact ⟨by rw [HR.out]; rfl, HB4.out⟩
            | true =>
              rw [hq5] at HR HQ2
              clear hq5
              (try simp only [Bool.true_and] at HR)
              go_enter Try.func49, Try.ntmps49
              go_wp2_with (first
                | ((with_reducible show wpList _ _ _ (⟨some 2, .box _ _, _, _, _, _⟩ :: _) _ _); go_must (refine wpList_box rfl ?_; intro w1 hx1 hb1 hs1; have HX1 := Lib.hid hx1; have HB1 := Lib.hid hb1; clear hx1 hb1))
                | ((with_reducible show wpList _ _ _ (⟨some 3, .box _ _, _, _, _, _⟩ :: _) _ _); go_must (refine wpList_box rfl ?_; intro w2 hx2 hb2 hs2; have HB2 := Lib.hid (HB1.out.trans (hb2.mono HB1.out.size)); have HX1' := Lib.hid (heap_below hb2 HX1.out); have HX2 := Lib.hid hx2; obtain ⟨c0, c1, c2, c3, c4, c5⟩ := elf_box (e := ⟨t1, m1, f1, n1, s1, g1⟩) HX1'.out; obtain ⟨z0, z1, z2, z3, z4, z5⟩ := elf_box (e := ⟨t2, m2, f2, n2, s2, g2⟩) hx2; clear hx2 hb2))
                | (go_at_call 87; refine (HQ1.out _ HB2.out).mono ?_; rintro r w3 ⟨rfl, hb3⟩; have HB3 := Lib.hid (HB2.out.trans (hb3.mono HB2.out.size)); obtain ⟨p0, p1, p2, p3, p4, p5⟩ := elf_box (e := ⟨t1, m1, f1, n1, s1, g1⟩) (heap_below hb3 HX1'.out); obtain ⟨y0, y1, y2, y3, y4, y5⟩ := elf_box (e := ⟨t2, m2, f2, n2, s2, g2⟩) (heap_below hb3 HX2.out); clear hb3)
                | (go_at_call 88; refine (HQ2.out _ HB3.out).mono ?_; rintro r w4 ⟨rfl, hb4⟩; have HB4 := Lib.hid (HB3.out.trans (hb4.mono HB3.out.size))))
              go_ret
              exact ⟨by rw [HR.out]; rfl, HB4.out⟩
end Go.Proofs.Ytgjoimcgiofinaa
namespace Go.Proofs.Ytgjoimcgiofinaa
open Go.RowKit Go.Fd
abbrev elf1 : ElfM := ⟨1, 1, 0, 0, [], []⟩
abbrev sec2 : SecM := ⟨[97], 1, 0, 0, 8, 1, 0, 0, 0, [1]⟩
abbrev elf2 : ElfM := ⟨1, 2, 0, 0, [sec2], []⟩
set_option maxRecDepth 100000 in
theorem elf1_may : mayE elf1 = true ∧ (fileB elf1).length = 208 := by decide +kernel
set_option maxRecDepth 100000 in
theorem elf2_may : mayE elf2 = true ∧ (placesOf elf2).1 = [64] := by decide +kernel
set_option maxRecDepth 100000 in
theorem elf0_may : mayE elf0 = false := by decide +kernel
theorem elf1_ok : ElfOk elf1 := ⟨⟨by decide, by decide, by decide, by decide, (fun s hs => by cases hs), (fun s hs => by cases hs)⟩, by decide, (fun s hs => by cases hs), by decide, by decide⟩
theorem elf0_ok : ElfOk elf0 := ⟨⟨by decide, by decide, by decide, by decide, (fun s hs => by cases hs), (fun s hs => by cases hs)⟩, by decide, (fun s hs => by cases hs), by decide, by decide⟩
theorem elf2_ok : ElfOk elf2 :=
  ⟨⟨by decide, by decide, by decide, by decide, (fun s hs => by rw [List.mem_singleton] at hs; subst hs; exact ⟨by decide, by decide, by decide, by decide, by decide, by decide, by decide, by decide⟩), (fun s hs => by cases hs)⟩, by decide, (fun s hs => by rw [List.mem_singleton] at hs; subst hs; exact (by decide)), by decide, by decide⟩
theorem nil_at (w : World) (t g : Int) : ElfAt w ⟨t, g, 0, 0, [], []⟩ [] (.slice none 0 0) (.slice none 0 0) := ⟨rfl, RdR.nil _ _ _, (fun p hp => by cases hp), RdR.nil _ _ _⟩
theorem wpList_litB1 {ops : Array Oper} {rest : List Oper} {Q : Exit → Act → World → Prop} {a : Act} {w : World} {d : Option Tmp} {ty : TypeId} {pos : String} {aft : Array Edge}
    (h : ∀ w1, w1.heap[w.heap.size]? = some (.cells #[.int .u8 1] 5 (0, 0)) → Below w.heap.size w w1 → w.heap.size < w1.heap.size → wpList Try.prog ops Q rest (a.put d (.slice (some ⟨w.heap.size, 0, none⟩) 1 1)) w1) :
    wpList Try.prog ops Q (⟨d, .buildSlice 23 1 #[(0, .const (.int .u8 1))], ty, pos, aft, none⟩ :: rest) a w :=
  wpList_val rfl (by kernel_rfl) (h (w.alloc (.cells #[.int .u8 1] 5)) (heap_alloc_last w _) (below_alloc w _) (by rw [World.size_alloc]; omega))
theorem wpList_oneSec {ops : Array Oper} {rest : List Oper} {Q : Exit → Act → World → Prop} {x : Operand} {s : SecM} {p : Option Addr} {m c : Nat} {a : Act} {w : World} {d : Option Tmp} {ty : TypeId} {pos : String} {aft : Array Edge} (hx : a.eval x = secV (s, .slice p m c))
    (h : ∀ w1, w1.heap[w.heap.size]? = some (.cells (encSec (s, .slice p m c)).toArray 69 (0, 0)) → Below w.heap.size w w1 → w.heap.size < w1.heap.size → wpList Try.prog ops Q rest (a.put d (.slice (some ⟨w.heap.size, 0, none⟩) 1 1)) w1) :
    wpList Try.prog ops Q (⟨d, .buildSlice 58 1 #[(0, x)], ty, pos, aft, none⟩ :: rest) a w :=
  wpList_val rfl (run_oneSec hx) (h _ (heap_alloc_last w _) (below_alloc w _) (by rw [World.size_alloc]; omega))
set_option maxHeartbeats 4000000 in
set_option maxRecDepth 100000 in
theorem begun4_any (w : World) : Calls Try.prog 43 #[] w fun e w' => e = .returned (.bool true) ∧ Below w.heap.size w w' := by
  have HW := Lib.hid (fun w => writeE_any elf1 [] (.slice none 0 0) (.slice none 0 0) w (nil_at w 1 1) elf1_ok)
  rw [fileW_ok elf1_may.1] at HW
  have HLB := Lib.hid elf1_may.2
  have HRB := Lib.hid (read_back elf1_may.1 elf1_ok.fits)
  generalize fileB elf1 = B at *
  have HM1 := Lib.hid (fun w => may_any elf1 [] (.slice none 0 0) (.slice none 0 0) w (nil_at w 1 1) elf1_ok)
  rw [elf1_may.1] at HM1
  have HM0 := Lib.hid (fun w => may_any elf0 [] (.slice none 0 0) (.slice none 0 0) w (nil_at w 0 0) elf0_ok)
  rw [elf0_may] at HM0
  go_enter Try.func43, Try.ntmps43
  go_wp2_with (first
    | ((with_reducible show wpList _ _ _ (⟨some 1, .alloc _, _, _, _, _⟩ :: _) _ _); go_must (refine wpList_allocElf ?_; intro w1 hx1 hb1 hs1; have HX1 := Lib.hid hx1; have HB1 := Lib.hid hb1; clear hx1 hb1))
    | ((with_reducible show wpList _ _ _ (⟨none, .store _ (.tmp 1) _, _, _, _, _⟩ :: _) _ _); go_must (refine wpList_storeElfS HX1.out rfl rfl rfl rfl (by simp [Value.oneCell']) ?_; intro w2 hh2 hs2; have HH2 := Lib.hid hh2; have HB2 := Lib.hid (HB1.out.trans (hs2.below HB1.out.size (fun j hj => by rw [hj]; exact Nat.le_refl _))); obtain ⟨c0, c1, c2, c3, c4, c5⟩ := elf_box (e := elf1) (sv := .slice none 0 0) (gv := .slice none 0 0) HH2.out; clear hh2 hs2)))
  refine (HW.out _).mono ?_
  rintro e w3 ⟨v1, rfl, hv1, hb3⟩
  have HR := Lib.hid (readE_any B v1 w3 (by have := HLB.out; omega) hv1.bs)
  have HH3 := Lib.hid (heap_below hb3 HH2.out)
  have HB3 := Lib.hid (HB2.out.trans (hb3.mono HB2.out.size))
  have HL3 := Lib.hid hb3.size
  obtain ⟨m1, a1, q1, hm1, rfl, _, _⟩ := hv1.shape
  obtain rfl : m1 = 208 := by have := hm1.out; have := HLB.out; omega
  clear hv1 hb3 c0 c1 c2 c3 c4 c5
  obtain ⟨c0, c1, c2, c3, c4, c5⟩ := elf_box (e := elf1) (sv := .slice none 0 0) (gv := .slice none 0 0) HH3.out
  go_wp2_with fail
  refine HR.out.mono ?_
  rintro e w4 ⟨⟨L, sv, gv, he, hown⟩, hb4⟩
  rw [HRB.out] at he hown
  subst he
  have HOWN := Lib.hid hown
  have HH4 := Lib.hid (heap_below hb4 HH3.out)
  have HB4 := Lib.hid (HB3.out.trans (hb4.mono HB3.out.size))
  obtain ⟨sn, sa, sc, -, rfl, _, _⟩ := hown.so.shape
  obtain ⟨gn, ga, gc, -, rfl, _, _⟩ := hown.go.shape
  clear hown hb4 c0 c1 c2 c3 c4 c5 HR
  go_wp2_with (first
    | ((with_reducible show wpList _ _ _ (⟨some 4, .alloc _, _, _, _, _⟩ :: _) _ _); go_must (refine wpList_allocElf ?_; intro w5 hx5 hb5 hs5; have HX5 := Lib.hid hx5; have HH5 := Lib.hid (heap_below hb5 HH4.out); have HOW5 := Lib.hid (show ElfAt w5 elf1 L (.slice sa sn sc) (.slice ga gn gc) from HOWN.out.at.mono hb5); have HB5 := Lib.hid (HB4.out.trans (hb5.mono HB4.out.size)); have HL5 := Lib.hid hb5; clear hx5 hb5))
    | ((with_reducible show wpList _ _ _ (⟨none, .store _ (.tmp 4) _, _, _, _, _⟩ :: _) _ _); go_must (refine wpList_storeElf HX5.out rfl rfl rfl rfl (by simp [Value.oneCell']) (Nat.le_refl _) (Nat.le_of_lt hs5) ?_; intro w6 hh6 hb6; have HH6 := Lib.hid hh6; have HB46 := Lib.hid (HL5.out.trans hb6); have HB6 := Lib.hid (HB4.out.trans (HB46.out.mono HB4.out.size)); clear hh6 hb6))
    | ((with_reducible show wpList _ _ _ (⟨some 20, _, _, _, _, _⟩ :: _) _ _); go_must (refine wpList_litB1 ?_; intro w7 hx7 hb7 hs7; have HX7 := Lib.hid hx7; have HH67 := Lib.hid (heap_below hb7 HH6.out); have HB47 := Lib.hid (HB46.out.trans (hb7.mono HB46.out.size)); clear hx7 hb7))
    | ((with_reducible show wpList _ _ _ (⟨some 22, _, _, _, _, _⟩ :: _) _ _); go_must (refine wpList_oneSec (s := sec2) rfl ?_; intro w8 hx8 hb8 hs8; have HX8 := Lib.hid hx8; have HX78 := Lib.hid (heap_below hb8 HX7.out); have HH68 := Lib.hid (heap_below hb8 HH67.out); have HB48 := Lib.hid (HB47.out.trans (hb8.mono HB47.out.size)); clear hx8 hb8)))
  have HPL := Lib.hid (elfPlaces_any elf2 [(sec2, .slice (some ⟨w6.heap.size, 0, none⟩) 1 1)] (.slice (some ⟨w7.heap.size, 0, none⟩) 1 1) (.slice none 0 0) w8 ⟨rfl, rd_one rfl HX8.out rfl, (fun p hp => by rw [List.mem_singleton] at hp; rw [hp]; exact bs_heap (l := [1]) HX78.out rfl rfl), RdR.nil _ _ _⟩ elf2_ok)
  rw [if_pos elf2_may.1, if_pos elf2_may.1, elf2_may.2] at HPL
  refine HPL.out.mono ?_
  rintro e w9 ⟨v9, rfl, hv9, hb9⟩
  have HV9 := Lib.hid hv9
  have HB49 := Lib.hid (HB48.out.trans (hb9.mono HB48.out.size))
  have HH69 := Lib.hid (heap_below hb9 HH68.out)
  have hst : ∀ b o, w4.heap[b]? = some o → w9.heap[b]? = some o := fun b o h => heap_below HB49.out h
  have HH9 := Lib.hid (hst _ _ HH4.out)
  have HX9 := Lib.hid (show w9.heap[w4.heap.size]? = some (.cells #[.int .i64 1, .int .i64 1, .int .u32 0, .int .u64 0, .slice sa sn sc, .slice ga gn gc] 61 (0, 0)) from HH69.out)
  have HB9 := Lib.hid (HB4.out.trans (HB49.out.mono HB4.out.size))
  have HOW9 := Lib.hid (HOWN.out.at.mono HB49.out)
  have hL : L = [] := by have := HOWN.out.secs; exact List.map_eq_nil_iff.1 this.symm
  have HLN := Lib.hid hL
  obtain ⟨pg, pc, rfl, -, -, -, hcl, -⟩ := hv9.open 0 (by decide)
  have p0 : w9.cell? ⟨pg, 0, none⟩ = some (.int .i64 64) := hcl 0 (by decide)
  have HP0 := Lib.hid p0
  have HSM := Lib.hid (fun w' (hb : Below w9.heap.size w9 w') => elfSame_any elf1 elf1 L [] (.slice sa sn sc) (.slice ga gn gc) (.slice none 0 0) (.slice none 0 0) w' (HOW9.out.mono hb) (nil_at w' 1 1) (by rw [HLN.out]; decide) (by decide) (by decide) (by decide))
  rw [show decide (elf1 = elf1) = true by decide] at HSM
  obtain ⟨c0, c1, c2, c3, c4, c5⟩ := elf_box (e := elf1) (sv := .slice none 0 0) (gv := .slice none 0 0) HH9.out
  clear hst hv9 hb9 hL hcl p0 HV9
  go_wp2_with fail
  refine (HM1.out w9).mono ?_
  rintro e wa ⟨rfl, hba⟩
  have HBA := Lib.hid hba
  clear hba
  go_wp2_with fail
  refine (HM0.out wa).mono ?_
  rintro e wb ⟨rfl, hbb⟩
  have HBB := Lib.hid (HBA.out.trans (hbb.mono HBA.out.size))
  clear hbb c0 c1 c2 c3 c4 c5
  obtain ⟨c0, c1, c2, c3, c4, c5⟩ := elf_box (e := elf1) (sv := .slice none 0 0) (gv := .slice none 0 0) (heap_below HBB.out HH9.out)
  obtain ⟨d0, d1, d2, d3, d4, d5⟩ := elf_box (e := elf1) (sv := .slice sa sn sc) (gv := .slice ga gn gc) (heap_below HBB.out HX9.out)
  go_wp2_with fail
  refine (HSM.out wb HBB.out).mono ?_
  rintro e wd ⟨rfl, hbd⟩
  have HBD := Lib.hid (HBB.out.trans (hbd.mono HBB.out.size))
  have p0 : wd.cell? ⟨pg, 0, none⟩ = some (.int .i64 64) := (HBD.out.cell (p := ⟨pg, 0, none⟩) (block_lt HP0.out)).trans HP0.out
  clear hbd c0 c1 c2 c3 c4 c5 d0 d1 d2 d3 d4 d5
  go_wp2
  go_ret
  exact ⟨rfl, HB9.out.trans (HBD.out.mono HB9.out.size)⟩
end Go.Proofs.Ytgjoimcgiofinaa
namespace Go.Fd
open Go.RowKit
section
variable {P : Program} {L : List Oper} {Q : Exit → Act → World → Prop} {w0 : World} {fuel i : Nat} {listed : Array Bool} {a : Act} {w : World} {o : Oper}
abbrev SAb (w0 : World) : World → Prop := fun w => Below w0.heap.size w0 w
/-- An operation that reads, taken first. -/
theorem held_quiet (hi : L[i]? = some o) (hB : (Region.noSelect L.toArray && Region.free .any L.toArray listed i && (Region.ready .any L.toArray listed).contains i) = true) (hw : Region.wanted o (yielded L.toArray a.tmps) = true) (hv : valB o = true)
    (hQ : ∀ v c a w, Q (.panic c) (a.put o.dst v) w → Q (.panic c) a w) (hb : Below w0.heap.size w0 w)
    (h : ∀ K : Act → Prop, (∀ a, wpAnyH P .any L.toArray Q (SAb w0) fuel (listed.setIfInBounds i true) a w → K a) → o.quiet P a (fun w => ∃ x : Above w0, w = x.w) K) : wpAnyH P .any L.toArray Q (SAb w0) (fuel + 1) listed a w := by
  simp only [Bool.and_eq_true] at hB
  obtain ⟨⟨h1, h2⟩, h3⟩ := hB
  obtain ⟨v, k1, k2⟩ := h (fun a => wpAnyH P .any L.toArray Q (SAb w0) fuel (listed.setIfInBounds i true) a w) (fun _ h => h)
  refine wpAnyH_take (i := i) (oi := o) (v := v) (by simpa using hi) h1 h2 h3 (hQ v) (.inl ⟨hw, fun w' hw' => ?_⟩) hb k2
  have := k1 w' ⟨⟨w', hw'⟩, rfl⟩
  unfold Oper.quietAt at this
  generalize hr : (execOp a.eval o).run P w' = res at this
  cases res with
  | halt x w2 => exact this.elim
  | ok n w2 =>
    obtain ⟨u, rfl⟩ := valB_spec hv hr
    obtain ⟨rfl, rfl⟩ := (this : w2 = w' ∧ u = v)
    rfl
theorem wpOp_of_list {ops : Array Oper} {K : Act → World → Prop} (hi : ops[i]? = some o) (h : wpList P ops (Exit.then K Q) [o] a w) : wpOp P ops Q i K a w := by
  unfold wpOp
  rw [hi]
  simp only [wpList] at h
  split at h
  · next hw =>
    simp only [hw, if_true]
    rcases h with h | ⟨h1, a1, w1, h2⟩
    · left
      unfold Oper.wp at *
      generalize (execOp a.eval o).run P w = r at *
      cases r with
      | ok n w' =>
        cases n <;> simp only [Oper.upon] at h ⊢ <;>
          first
            | exact h
            | exact Calls.mono h (fun e w'' he => by
                cases e with
                | returned v => exact he
                | panicked c => exact he
                | outgrown => obtain ⟨a0, w0, h0⟩ := (he : LetsOut _); exact ⟨a0, w0, h0⟩)
      | halt x w' => cases x <;> simp only [Oper.upon] at h ⊢ <;> exact h
    · right
      exact ⟨h1, a1, w1, h2⟩
  · next hw =>
    simp only [hw]
    exact h
end
end Go.Fd
namespace Go.Proofs.Ytgjoimcgiofinaa
open Go.RowKit Go.Fd
theorem elf_ext {e f : ElfM} (h1 : e.typ = f.typ) (h2 : e.target = f.target) (h3 : e.flags = f.flags) (h4 : e.entry = f.entry) (h5 : e.secs = f.secs) (h6 : e.segs = f.segs) : e = f := by
  cases e; cases f; simp_all
theorem take_all {α : Type} {l m : List α} {k : Nat} (h : l.take k = m.take k) (hl : l.length ≤ k) (hm : m.length ≤ k) : l = m := by
  rwa [List.take_of_length_le hl, List.take_of_length_le hm] at h
theorem take_diff {α : Type} {l m : List α} {k : Nat} {x y : α} (h1 : l[k]? = some x) (h2 : m[k]? = some y) (h : x ≠ y) : l ≠ m := by
  rintro rfl
  rw [h1] at h2
  exact h (Option.some.inj h2)
set_option maxHeartbeats 16000000 in
set_option maxRecDepth 100000 in
theorem ref4Same_any (e f : ElfM) (L M : List (SecM × Value)) (sv gv su gu : Value) (w : World) (h : ElfAt w e L sv gv) (h' : ElfAt w f M su gu) (ho : ElfOk e) (ho' : ElfOk f) :
    Calls Try.prog 50 #[elfV e sv gv, elfV f su gu] w fun r w' => r = .returned (.bool (decide (e = f))) ∧ Below w.heap.size w w' := by
  have HA := Lib.hid h
  have HA' := Lib.hid h'
  obtain ⟨sm, sa, sc, hsm, rfl, _, _⟩ := h.rd.shape
  obtain ⟨gm, ga, gc, hgm, rfl, _, _⟩ := h.segs.shape
  obtain ⟨um, ua, uc, hum, rfl, _, _⟩ := h'.rd.shape
  obtain ⟨vm, va, vc, hvm, rfl, _, _⟩ := h'.segs.shape
  have HEL := Lib.hid (show e.secs.length = sm by rw [h.secs, List.length_map, hsm.out])
  have HFL := Lib.hid (show f.secs.length = um by rw [h'.secs, List.length_map, hum.out])
  have hsm9 : sm ≤ 1000000000 := by have := HEL.out; have := ho.secs; omega
  have hgm9 : gm ≤ 1000000000 := by have := hgm.out; have := ho.segs; omega
  have hum9 : um ≤ 1000000000 := by have := HFL.out; have := ho'.secs; omega
  have hvm9 : vm ≤ 1000000000 := by have := hvm.out; have := ho'.segs; omega
  have HSE := Lib.hid (fun k x (hk : L[k]? = some x) => sec_of h.secs hk)
  have HSF := Lib.hid (fun k x (hk : M[k]? = some x) => sec_of h'.secs hk)
  clear h h' ho ho'
  cases hq0 : (e.typ == f.typ) with
  | false =>
    have HN : Hid (decide (e = f) = false) := Lib.hid (by
      rw [decide_eq_false_iff_not]
      intro hef
      have hq : e.typ ≠ f.typ := by simpa using hq0
      exact hq (by rw [hef]))
    have hn0 : (e.typ != f.typ) = true := by rw [bne, hq0]; rfl
    clear HA HA' HEL HFL HSE HSF
    go_enter Try.func50, Try.ntmps50
    go_wp2_with (first
      | ((with_reducible show wpList _ _ _ (⟨some 2, .box _ _, _, _, _, _⟩ :: _) _ _); go_must (refine wpList_box rfl ?_; intro w1 hx1 hb1 hs1; have HX1 := Lib.hid hx1; have HB1 := Lib.hid hb1; clear hx1 hb1))
      | ((with_reducible show wpList _ _ _ (⟨some 3, .box _ _, _, _, _, _⟩ :: _) _ _); go_must (refine wpList_box rfl ?_; intro w2 hx2 hb2 hs2; have HX2 := Lib.hid hx2; have HX12 := Lib.hid (heap_below hb2 HX1.out); have HB2 := Lib.hid (HB1.out.trans (hb2.mono HB1.out.size)); obtain ⟨c0, c1, c2, c3, c4, c5⟩ := elf_box (e := e) (sv := .slice sa sm sc) (gv := .slice ga gm gc) HX12.out; obtain ⟨d0, d1, d2, d3, d4, d5⟩ := elf_box (e := f) (sv := .slice ua um uc) (gv := .slice va vm vc) HX2.out; clear hx2 hb2)))
    go_ret
    exact ⟨by rw [HN.out]; rfl, HB2.out⟩
  | true =>
    have hn0 : (e.typ != f.typ) = false := by rw [bne, hq0]; rfl
    cases hq1 : (e.target == f.target) with
    | false =>
      have HN : Hid (decide (e = f) = false) := Lib.hid (by
        rw [decide_eq_false_iff_not]
        intro hef
        have hq : e.target ≠ f.target := by simpa using hq1
        exact hq (by rw [hef]))
      have hn1 : (e.target != f.target) = true := by rw [bne, hq1]; rfl
      clear HA HA' HEL HFL HSE HSF
      go_enter Try.func50, Try.ntmps50
      go_wp2_with (first
        | ((with_reducible show wpList _ _ _ (⟨some 2, .box _ _, _, _, _, _⟩ :: _) _ _); go_must (refine wpList_box rfl ?_; intro w1 hx1 hb1 hs1; have HX1 := Lib.hid hx1; have HB1 := Lib.hid hb1; clear hx1 hb1))
        | ((with_reducible show wpList _ _ _ (⟨some 3, .box _ _, _, _, _, _⟩ :: _) _ _); go_must (refine wpList_box rfl ?_; intro w2 hx2 hb2 hs2; have HX2 := Lib.hid hx2; have HX12 := Lib.hid (heap_below hb2 HX1.out); have HB2 := Lib.hid (HB1.out.trans (hb2.mono HB1.out.size)); obtain ⟨c0, c1, c2, c3, c4, c5⟩ := elf_box (e := e) (sv := .slice sa sm sc) (gv := .slice ga gm gc) HX12.out; obtain ⟨d0, d1, d2, d3, d4, d5⟩ := elf_box (e := f) (sv := .slice ua um uc) (gv := .slice va vm vc) HX2.out; clear hx2 hb2)))
      go_ret
      exact ⟨by rw [HN.out]; rfl, HB2.out⟩
    | true =>
      have hn1 : (e.target != f.target) = false := by rw [bne, hq1]; rfl
      cases hq2 : ((e.flags : Int) == (f.flags : Int)) with
      | false =>
        have HN : Hid (decide (e = f) = false) := Lib.hid (by
          rw [decide_eq_false_iff_not]
          intro hef
          have hq : (e.flags : Int) ≠ (f.flags : Int) := by simpa using hq2
          exact hq (by rw [hef]))
        have hn2 : ((e.flags : Int) != (f.flags : Int)) = true := by rw [bne, hq2]; rfl
        clear HA HA' HEL HFL HSE HSF
        go_enter Try.func50, Try.ntmps50
        go_wp2_with (first
          | ((with_reducible show wpList _ _ _ (⟨some 2, .box _ _, _, _, _, _⟩ :: _) _ _); go_must (refine wpList_box rfl ?_; intro w1 hx1 hb1 hs1; have HX1 := Lib.hid hx1; have HB1 := Lib.hid hb1; clear hx1 hb1))
          | ((with_reducible show wpList _ _ _ (⟨some 3, .box _ _, _, _, _, _⟩ :: _) _ _); go_must (refine wpList_box rfl ?_; intro w2 hx2 hb2 hs2; have HX2 := Lib.hid hx2; have HX12 := Lib.hid (heap_below hb2 HX1.out); have HB2 := Lib.hid (HB1.out.trans (hb2.mono HB1.out.size)); obtain ⟨c0, c1, c2, c3, c4, c5⟩ := elf_box (e := e) (sv := .slice sa sm sc) (gv := .slice ga gm gc) HX12.out; obtain ⟨d0, d1, d2, d3, d4, d5⟩ := elf_box (e := f) (sv := .slice ua um uc) (gv := .slice va vm vc) HX2.out; clear hx2 hb2)))
        go_ret
        exact ⟨by rw [HN.out]; rfl, HB2.out⟩
      | true =>
        have hn2 : ((e.flags : Int) != (f.flags : Int)) = false := by rw [bne, hq2]; rfl
        cases hq3 : ((e.entry : Int) == (f.entry : Int)) with
        | false =>
          have HN : Hid (decide (e = f) = false) := Lib.hid (by
            rw [decide_eq_false_iff_not]
            intro hef
            have hq : (e.entry : Int) ≠ (f.entry : Int) := by simpa using hq3
            exact hq (by rw [hef]))
          have hn3 : ((e.entry : Int) != (f.entry : Int)) = true := by rw [bne, hq3]; rfl
          clear HA HA' HEL HFL HSE HSF
          go_enter Try.func50, Try.ntmps50
          go_wp2_with (first
            | ((with_reducible show wpList _ _ _ (⟨some 2, .box _ _, _, _, _, _⟩ :: _) _ _); go_must (refine wpList_box rfl ?_; intro w1 hx1 hb1 hs1; have HX1 := Lib.hid hx1; have HB1 := Lib.hid hb1; clear hx1 hb1))
            | ((with_reducible show wpList _ _ _ (⟨some 3, .box _ _, _, _, _, _⟩ :: _) _ _); go_must (refine wpList_box rfl ?_; intro w2 hx2 hb2 hs2; have HX2 := Lib.hid hx2; have HX12 := Lib.hid (heap_below hb2 HX1.out); have HB2 := Lib.hid (HB1.out.trans (hb2.mono HB1.out.size)); obtain ⟨c0, c1, c2, c3, c4, c5⟩ := elf_box (e := e) (sv := .slice sa sm sc) (gv := .slice ga gm gc) HX12.out; obtain ⟨d0, d1, d2, d3, d4, d5⟩ := elf_box (e := f) (sv := .slice ua um uc) (gv := .slice va vm vc) HX2.out; clear hx2 hb2)))
          go_ret
          exact ⟨by rw [HN.out]; rfl, HB2.out⟩
        | true =>
          have hn3 : ((e.entry : Int) != (f.entry : Int)) = false := by rw [bne, hq3]; rfl
          cases hq4 : ((sm : Int) == (um : Int)) with
          | false =>
            have HN : Hid (decide (e = f) = false) := Lib.hid (by
              rw [decide_eq_false_iff_not]
              intro hef
              have hq : (sm : Int) ≠ (um : Int) := by simpa using hq4
              have h1 := HEL.out; have h2 := HFL.out; rw [hef] at h1; exact hq (by omega))
            have hn4 : ((sm : Int) != (um : Int)) = true := by rw [bne, hq4]; rfl
            clear HA HA' HEL HFL HSE HSF
            go_enter Try.func50, Try.ntmps50
            go_wp2_with (first
              | ((with_reducible show wpList _ _ _ (⟨some 2, .box _ _, _, _, _, _⟩ :: _) _ _); go_must (refine wpList_box rfl ?_; intro w1 hx1 hb1 hs1; have HX1 := Lib.hid hx1; have HB1 := Lib.hid hb1; clear hx1 hb1))
              | ((with_reducible show wpList _ _ _ (⟨some 3, .box _ _, _, _, _, _⟩ :: _) _ _); go_must (refine wpList_box rfl ?_; intro w2 hx2 hb2 hs2; have HX2 := Lib.hid hx2; have HX12 := Lib.hid (heap_below hb2 HX1.out); have HB2 := Lib.hid (HB1.out.trans (hb2.mono HB1.out.size)); obtain ⟨c0, c1, c2, c3, c4, c5⟩ := elf_box (e := e) (sv := .slice sa sm sc) (gv := .slice ga gm gc) HX12.out; obtain ⟨d0, d1, d2, d3, d4, d5⟩ := elf_box (e := f) (sv := .slice ua um uc) (gv := .slice va vm vc) HX2.out; clear hx2 hb2)))
            go_ret
            exact ⟨by rw [HN.out]; rfl, HB2.out⟩
          | true =>
            have hn4 : ((sm : Int) != (um : Int)) = false := by rw [bne, hq4]; rfl
            cases hq5 : ((gm : Int) == (vm : Int)) with
            | false =>
              have HN : Hid (decide (e = f) = false) := Lib.hid (by
                rw [decide_eq_false_iff_not]
                intro hef
                have hq : (gm : Int) ≠ (vm : Int) := by simpa using hq5
                have h1 := hgm.out; have h2 := hvm.out; rw [hef] at h1; exact hq (by omega))
              have hn5 : ((gm : Int) != (vm : Int)) = true := by rw [bne, hq5]; rfl
              clear HA HA' HEL HFL HSE HSF
              go_enter Try.func50, Try.ntmps50
              go_wp2_with (first
                | ((with_reducible show wpList _ _ _ (⟨some 2, .box _ _, _, _, _, _⟩ :: _) _ _); go_must (refine wpList_box rfl ?_; intro w1 hx1 hb1 hs1; have HX1 := Lib.hid hx1; have HB1 := Lib.hid hb1; clear hx1 hb1))
                | ((with_reducible show wpList _ _ _ (⟨some 3, .box _ _, _, _, _, _⟩ :: _) _ _); go_must (refine wpList_box rfl ?_; intro w2 hx2 hb2 hs2; have HX2 := Lib.hid hx2; have HX12 := Lib.hid (heap_below hb2 HX1.out); have HB2 := Lib.hid (HB1.out.trans (hb2.mono HB1.out.size)); obtain ⟨c0, c1, c2, c3, c4, c5⟩ := elf_box (e := e) (sv := .slice sa sm sc) (gv := .slice ga gm gc) HX12.out; obtain ⟨d0, d1, d2, d3, d4, d5⟩ := elf_box (e := f) (sv := .slice ua um uc) (gv := .slice va vm vc) HX2.out; clear hx2 hb2)))
              go_ret
              exact ⟨by rw [HN.out]; rfl, HB2.out⟩
            | true =>
              have hn5 : ((gm : Int) != (vm : Int)) = false := by rw [bne, hq5]; rfl
              have HTY := Lib.hid (show e.typ = f.typ by simpa using hq0)
              have HTG := Lib.hid (show e.target = f.target by simpa using hq1)
              have HFG := Lib.hid (show e.flags = f.flags by
                have h9 : (e.flags : Int) = f.flags := by simpa using hq2
                omega)
              have HEN := Lib.hid (show e.entry = f.entry by
                have h9 : (e.entry : Int) = f.entry := by simpa using hq3
                omega)
              obtain rfl : um = sm := by
                have h9 : (sm : Int) = um := by simpa using hq4
                omega
              obtain rfl : vm = gm := by
                have h9 : (gm : Int) = vm := by simpa using hq5
                omega
              clear hq4 hq5 hn4 hn5
              go_enter Try.func50, Try.ntmps50
              go_wp2_with (first
                | ((with_reducible show wpList _ _ _ (⟨some 2, .box _ _, _, _, _, _⟩ :: _) _ _); go_must (refine wpList_box rfl ?_; intro w1 hx1 hb1 hs1; have HX1 := Lib.hid hx1; have HB1 := Lib.hid hb1; clear hx1 hb1))
                | ((with_reducible show wpList _ _ _ (⟨some 3, .box _ _, _, _, _, _⟩ :: _) _ _); go_must (refine wpList_box rfl ?_; intro w2 hx2 hb2 hs2; have HX2 := Lib.hid hx2; have HX12 := Lib.hid (heap_below hb2 HX1.out); have HB2 := Lib.hid (HB1.out.trans (hb2.mono HB1.out.size)); obtain ⟨c0, c1, c2, c3, c4, c5⟩ := elf_box (e := e) (sv := .slice sa um sc) (gv := .slice ga vm gc) HX12.out; obtain ⟨d0, d1, d2, d3, d4, d5⟩ := elf_box (e := f) (sv := .slice ua um uc) (gv := .slice va vm vc) HX2.out; clear hx2 hb2)))
              clear hq0 hq1 hq2 hq3 hn0 hn1 hn2 hn3 c0 c1 c2 c3 c4 c5 d0 d1 d2 d3 d4 d5
              go_loopw [5] (fun i wr => ∃ k : Nat, i = .int .i64 k ∧ k ≤ vm ∧ Hid (e.segs.take k = f.segs.take k) ∧ Hid (Below w2.heap.size w2 wr)) (fun i _ => vm - (intOf i).toNat)
              case atStart => exact ⟨0, rfl, Nat.zero_le _, rfl, Below.refl _ _⟩
              case round =>
                obtain ⟨k, rfl, hk, HT1, HB⟩ := hrel
                have HBW := Lib.hid (HB2.out.trans (HB.out.mono HB2.out.size))
                obtain ⟨c0, c1, c2, c3, c4, c5⟩ := elf_box (e := e) (sv := .slice sa um sc) (gv := .slice ga vm gc) (heap_below HB.out HX12.out)
                obtain ⟨d0, d1, d2, d3, d4, d5⟩ := elf_box (e := f) (sv := .slice ua um uc) (gv := .slice va vm vc) (heap_below HB.out HX2.out)
                clear c0 c1 c2 c3 d0 d1 d2 d3
                by_cases hlt : k < vm
                · clear c4 d4
                  have X1 := Lib.hid (show e.segs[k]? = some (e.segs[k]'(by have := hgm.out; omega)) from List.getElem?_eq_getElem _)
                  have X2 := Lib.hid (show f.segs[k]? = some (f.segs[k]'(by have := hvm.out; omega)) from List.getElem?_eq_getElem _)
                  generalize e.segs[k]'(by have := hgm.out; omega) = x at *
                  generalize f.segs[k]'(by have := hvm.out; omega) = y at *
                  obtain ⟨a9, ca9, hq9, -, -, hcs⟩ := HA.out.segs.open (fun _ => rfl)
                  obtain ⟨b9, cb9, hr9, -, -, hds⟩ := HA'.out.segs.open (fun _ => rfl)
                  have e1 : ga = a9 := by injection hq9
                  have e2 : va = b9 := by injection hr9
                  subst e1 e2
                  obtain ⟨b1, o1, ha1, u0, u1, u2, u3, u4, u5, u6, -⟩ := seg_cells hcs HBW.out X1.out
                  obtain ⟨b2, o2, ha2, v0, v1, v2, v3, v4, v5, v6, -⟩ := seg_cells hds HBW.out X2.out
                  subst ha1 ha2
                  clear hcs hds hq9 hr9
                  go_wp2
                  refine wp_region_quiet_lit (by kernel_rfl) (by kernel_rfl) ?_
                  repeat (first
                    | ((with_reducible show wpQuiet _ _ _ _ (⟨some 70, _, _, _, _, _⟩ :: _) _); refine wpQuiet_run rfl (by rintro _ ⟨n, rfl⟩; exact run_bin rfl rfl (neq_seg x y _ _ _)) ?_)
                    | quiet_step (fail))
                  refine wpQuiet_nil ?_
                  rintro _ ⟨nq, rfl⟩
                  clear c5 d5 u0 u1 u2 u3 u4 u5 u6 v0 v1 v2 v3 v4 v5 v6
                  by_cases hxy : x = y
                  · rw [show (!decide (x = y)) = false by simpa using hxy]
                    have HN := Lib.hid (take_step X1.out X2.out HT1.out hxy)
                    clear hxy
                    go_wp2
                    go_roundw
                    case rel =>
                      first
                        | exact ⟨k + 1, by go_num, by omega, HN.out, HB.out.drewN _⟩
                        | ((repeat apply Exists.intro); exact ⟨⟨k + 1, by go_num, by omega, HN.out, HB.out.drewN _⟩, rfl⟩)
                    case measure => simp [intOf] <;> omega
                  · rw [show (!decide (x = y)) = true by simpa using hxy]
                    have HN := Lib.hid (show decide (e = f) = false by
                      rw [decide_eq_false_iff_not]
                      exact fun hef => take_diff X1.out X2.out hxy (by rw [hef]))
                    clear hxy
                    go_wp2
                    go_ret
                    exact ⟨by rw [HN.out]; rfl, HBW.out.drewN _⟩
                · have HSG := Lib.hid (show e.segs = f.segs from take_all HT1.out (by have := hgm.out; omega) (by have := hvm.out; omega))
                  obtain rfl : vm = k := by omega
                  go_wp2
                  clear c5 d5 c4 d4
                  have HXo := Lib.hid (heap_below HB.out HX12.out)
                  have HXp := Lib.hid (heap_below HB.out HX2.out)
                  obtain ⟨wo, rfl⟩ : ∃ wo : World, wo = wr := ⟨_, rfl⟩
                  go_loopw [6] (fun i wr => ∃ k : Nat, i = .int .i64 k ∧ k ≤ um ∧ Hid (e.secs.take k = f.secs.take k) ∧ Hid (Below wo.heap.size wo wr)) (fun i _ => um - (intOf i).toNat)
                  case atStart => exact ⟨0, rfl, Nat.zero_le _, rfl, Below.refl _ _⟩
                  case round =>
                    obtain ⟨k, rfl, hk, HT2, HBq⟩ := hrel
                    have HBV := Lib.hid (HBW.out.trans (HBq.out.mono HBW.out.size))
                    obtain ⟨c0, c1, c2, c3, c4, c5⟩ := elf_box (e := e) (sv := .slice sa um sc) (gv := .slice ga vm gc) (heap_below HBq.out HXo.out)
                    obtain ⟨d0, d1, d2, d3, d4, d5⟩ := elf_box (e := f) (sv := .slice ua um uc) (gv := .slice va vm vc) (heap_below HBq.out HXp.out)
                    clear c0 c1 c2 c3 c5 d0 d1 d2 d3 d5
                    by_cases hlt : k < um
                    · have X1 := Lib.hid (show L[k]? = some (L[k]'(by have := hsm.out; omega)) from List.getElem?_eq_getElem _)
                      have X2 := Lib.hid (show M[k]? = some (M[k]'(by have := hum.out; omega)) from List.getElem?_eq_getElem _)
                      generalize L[k]'(by have := hsm.out; omega) = x at *
                      generalize M[k]'(by have := hum.out; omega) = y at *
                      obtain ⟨s, dv⟩ := x
                      obtain ⟨t, du⟩ := y
                      have HDV := Lib.hid (HA.out.data _ (List.mem_of_getElem? X1.out))
                      have HDU := Lib.hid (HA'.out.data _ (List.mem_of_getElem? X2.out))
                      obtain ⟨p9, q9, r9, -, rfl, _, _⟩ := HDV.out.shape
                      obtain ⟨p8, q8, r8, -, rfl, _, _⟩ := HDU.out.shape
                      obtain ⟨a9, ca9, hq9, -, -, hcs⟩ := HA.out.rd.open (fun _ => rfl)
                      obtain ⟨b9, cb9, hr9, -, -, hds⟩ := HA'.out.rd.open (fun _ => rfl)
                      have e1 : sa = a9 := by injection hq9
                      have e2 : ua = b9 := by injection hr9
                      subst e1 e2
                      obtain ⟨b1, o1, ha1, u0, u1, u2, u3, u4, u5, u6, u7, u8, u9, -⟩ := sec_cells hcs HBV.out X1.out
                      obtain ⟨b2, o2, ha2, v0, v1, v2, v3, v4, v5, v6, v7, v8, v9, -⟩ := sec_cells hds HBV.out X2.out
                      subst ha1 ha2
                      obtain ⟨n1, t1, f1, a1, l1, s1, k1, i1, e1, x1⟩ := s
                      obtain ⟨n2, t2, f2, a2, l2, s2, k2, i2, e2, x2⟩ := t
                      dsimp only at *
                      clear hcs hds hq9 hr9
                      have hAB := fun (x : Above wr) (b k : Nat) (h : b < wr.heap.size) => Above.cell x b k h
                      have m1 := block_lt c4
                      have m2 := block_lt d4
                      have m3 := block_lt u0
                      have m4 := block_lt v0
                      go_upto_region 11 with (fail)
                      go_cut [7, 8] from 78 to 87 (fun s7 s8 wx => ∃ g7 g8 : Nat, s7 = .pointer (some ⟨g7, 0, none⟩) ∧ s8 = .pointer (some ⟨g8, 0, none⟩) ∧ Hid (wx.heap[g7]? = some (.cells (encSec (⟨n1, t1, f1, a1, l1, s1, k1, i1, e1, x1⟩, .slice q9 p9 r9)).toArray 69 (0, 0))) ∧ Hid (wx.heap[g8]? = some (.cells (encSec (⟨n2, t2, f2, a2, l2, s2, k2, i2, e2, x2⟩, .slice q8 p8 r8)).toArray 69 (0, 0))) ∧ Hid (Below wr.heap.size wr wx))
                      case first =>
                        rename_i J1 K1 hJ1 hK1
                        refine wp_region_held (S := SAb wr) (by kernel_rfl) ?_
                        change wpAnyH _ _ _ _ _ 14 _ _ _
                        have hb0 : Below wr.heap.size wr { wr with drawn := wr.drawn + 1 } := (Below.refl _ _).drew
                        refine held_quiet (i := 0) (w0 := wr) rfl (by kernel_rfl) rfl rfl (fun _ _ _ _ h => h) hb0 ?_
                        intro K hK
                        go_big_quiet_op
                        go_big_quiet_on
                        refine held_quiet (i := 1) (w0 := wr) rfl (by kernel_rfl) rfl rfl (fun _ _ _ _ h => h) hb0 ?_
                        intro K hK
                        go_big_quiet_op
                        go_big_quiet_on
                        refine held_quiet (i := 2) (w0 := wr) rfl (by kernel_rfl) rfl rfl (fun _ _ _ _ h => h) hb0 ?_
                        intro K hK
                        go_big_quiet_op
                        go_big_quiet_on
                        refine held_quiet (i := 3) (w0 := wr) rfl (by kernel_rfl) rfl rfl (fun _ _ _ _ h => h) hb0 ?_
                        intro K hK
                        go_big_quiet_op
                        go_big_quiet_on
                        refine held_quiet (i := 4) (w0 := wr) rfl (by kernel_rfl) rfl rfl (fun _ _ _ _ h => h) hb0 ?_
                        intro K hK
                        go_big_quiet_op
                        go_big_quiet_on
                        refine held_quiet (i := 5) (w0 := wr) rfl (by kernel_rfl) rfl rfl (fun _ _ _ _ h => h) hb0 ?_
                        intro K hK
                        go_big_quiet_op
                        go_big_quiet_on
                        refine held_quiet (i := 6) (w0 := wr) rfl (by kernel_rfl) rfl rfl (fun _ _ _ _ h => h) hb0 ?_
                        intro K hK
                        go_big_quiet_op
                        go_big_quiet_on
                        refine held_quiet (i := 7) (w0 := wr) rfl (by kernel_rfl) rfl rfl (fun _ _ _ _ h => h) hb0 ?_
                        intro K hK
                        go_big_quiet_op
                        go_big_quiet_on
                        refine held_quiet (i := 8) (w0 := wr) rfl (by kernel_rfl) rfl rfl (fun _ _ _ _ h => h) hb0 ?_
                        intro K hK
                        go_big_quiet_op
                        go_big_quiet_on
                        refine held_quiet (i := 9) (w0 := wr) rfl (by kernel_rfl) rfl rfl (fun _ _ _ _ h => h) hb0 ?_
                        intro K hK
                        go_big_quiet_op
                        go_big_quiet_on
                        clear hAB
                        refine wpAnyH_all (rs := [10, 11]) (by kernel_rfl) (by simp) ?_
                        intro i hi
                        simp only [List.mem_cons, List.not_mem_nil, or_false] at hi
                        rcases hi with hi | hi
                        · subst hi
                          refine wpOp_of_list (i := 10) rfl ?_
                          refine wpList_allocSec ?_
                          intro wa hxa hba hsa
                          refine ⟨hb0.trans (hba.mono hb0.size), ?_⟩
                          refine wpAnyH_all (rs := [11]) (by kernel_rfl) (by simp) ?_
                          intro i hi
                          rw [List.mem_singleton] at hi
                          subst hi
                          refine wpOp_of_list (i := 11) rfl ?_
                          refine wpList_allocSec ?_
                          intro wb hxb hbb hsb
                          have HAB0 := Lib.hid (hb0.trans ((hba.mono hb0.size).trans (hbb.mono (Nat.le_trans hb0.size hba.size))))
                          refine ⟨HAB0.out, ?_⟩
                          have HB7 := Lib.hid (heap_below hbb hxa)
                          have HB8 := Lib.hid hxb
                          have hge7 : wr.heap.size ≤ wr.heap.size := hb0.size
                          have hge8 : wr.heap.size ≤ wa.heap.size := Nat.le_trans hb0.size hba.size
                          clear hxa hxb hba hbb
                          refine wpAnyH_all (rs := [12]) (by kernel_rfl) (by simp) ?_
                          intro i hi
                          rw [List.mem_singleton] at hi
                          subst hi
                          refine wpOp_of_list (i := 12) rfl ?_
                          refine wpList_storeRowS HB7.out rfl rfl rfl (by kernel_rfl) (by simp [Value.oneCell']) ?_
                          intro wc hhc hsc
                          have HC7 := Lib.hid hhc
                          have HC8 := Lib.hid (hsc.kept HB8.out (fun e => (by have e2 : wa.heap.size = ({ wr with drawn := wr.drawn + 1 } : World).heap.size := e; omega)))
                          have HSC0 := Lib.hid (HAB0.out.trans (hsc.below HAB0.out.size (fun j hj => by rw [hj]; exact hge7)))
                          refine ⟨HSC0.out, ?_⟩
                          clear hhc hsc
                          refine wpAnyH_all (rs := [13]) (by kernel_rfl) (by simp) ?_
                          intro i hi
                          rw [List.mem_singleton] at hi
                          subst hi
                          refine wpOp_of_list (i := 13) rfl ?_
                          refine wpList_storeRowS HC8.out rfl rfl rfl (by kernel_rfl) (by simp [Value.oneCell']) ?_
                          intro wy hhy hsy
                          have HY8 := Lib.hid hhy
                          have HY7 := Lib.hid (hsy.kept HC7.out (fun e => (by have e2 : ({ wr with drawn := wr.drawn + 1 } : World).heap.size = wa.heap.size := e; omega)))
                          have HSY := Lib.hid (HSC0.out.trans (hsy.below HSC0.out.size (fun j hj => by rw [hj]; exact hge8)))
                          refine ⟨HSY.out, ?_⟩
                          clear hhy hsy hsa hsb
                          refine wpAnyH_done (by kernel_rfl) ?_ _
                          go_frame
                          first
                            | refine hK1 _ _ (Met.intro (hJ1 _ _ ?_))
                            | refine Met.intro (hJ1 _ _ ?_)
                          repeat apply Exists.intro
                          refine ⟨?_, rfl⟩
                          exact ⟨_, _, rfl, rfl, HY7, HY8, HSY⟩
                        · subst hi
                          refine wpOp_of_list (i := 11) rfl ?_
                          refine wpList_allocSec ?_
                          intro wa hxa hba hsa
                          refine ⟨hb0.trans (hba.mono hb0.size), ?_⟩
                          refine wpAnyH_all (rs := [10]) (by kernel_rfl) (by simp) ?_
                          intro i hi
                          rw [List.mem_singleton] at hi
                          subst hi
                          refine wpOp_of_list (i := 10) rfl ?_
                          refine wpList_allocSec ?_
                          intro wb hxb hbb hsb
                          have HAB0 := Lib.hid (hb0.trans ((hba.mono hb0.size).trans (hbb.mono (Nat.le_trans hb0.size hba.size))))
                          refine ⟨HAB0.out, ?_⟩
                          have HB8 := Lib.hid (heap_below hbb hxa)
                          have HB7 := Lib.hid hxb
                          have hge8 : wr.heap.size ≤ wr.heap.size := hb0.size
                          have hge7 : wr.heap.size ≤ wa.heap.size := Nat.le_trans hb0.size hba.size
                          clear hxa hxb hba hbb
                          refine wpAnyH_all (rs := [12]) (by kernel_rfl) (by simp) ?_
                          intro i hi
                          rw [List.mem_singleton] at hi
                          subst hi
                          refine wpOp_of_list (i := 12) rfl ?_
                          refine wpList_storeRowS HB7.out rfl rfl rfl (by kernel_rfl) (by simp [Value.oneCell']) ?_
                          intro wc hhc hsc
                          have HC7 := Lib.hid hhc
                          have HC8 := Lib.hid (hsc.kept HB8.out (fun e => (by have e2 : ({ wr with drawn := wr.drawn + 1 } : World).heap.size = wa.heap.size := e; omega)))
                          have HSC0 := Lib.hid (HAB0.out.trans (hsc.below HAB0.out.size (fun j hj => by rw [hj]; exact hge7)))
                          refine ⟨HSC0.out, ?_⟩
                          clear hhc hsc
                          refine wpAnyH_all (rs := [13]) (by kernel_rfl) (by simp) ?_
                          intro i hi
                          rw [List.mem_singleton] at hi
                          subst hi
                          refine wpOp_of_list (i := 13) rfl ?_
                          refine wpList_storeRowS HC8.out rfl rfl rfl (by kernel_rfl) (by simp [Value.oneCell']) ?_
                          intro wy hhy hsy
                          have HY8 := Lib.hid hhy
                          have HY7 := Lib.hid (hsy.kept HC7.out (fun e => (by have e2 : wa.heap.size = ({ wr with drawn := wr.drawn + 1 } : World).heap.size := e; omega)))
                          have HSY := Lib.hid (HSC0.out.trans (hsy.below HSC0.out.size (fun j hj => by rw [hj]; exact hge8)))
                          refine ⟨HSY.out, ?_⟩
                          clear hhy hsy hsa hsb
                          refine wpAnyH_done (by kernel_rfl) ?_ _
                          go_frame
                          first
                            | refine hK1 _ _ (Met.intro (hJ1 _ _ ?_))
                            | refine Met.intro (hJ1 _ _ ?_)
                          repeat apply Exists.intro
                          refine ⟨?_, rfl⟩
                          exact ⟨_, _, rfl, rfl, HY7, HY8, HSY⟩
                      case rest =>
                        obtain ⟨g7, g8, rfl, rfl, HY7, HY8, HSY⟩ := hcut
                        obtain ⟨wy, rfl⟩ : ∃ wy : World, wy = wc := ⟨_, rfl⟩
                        have HBY := Lib.hid (HBV.out.trans (HSY.out.mono HBV.out.size))
                        have HBQ := Lib.hid (HBq.out.trans (HSY.out.mono HBq.out.size))
                        have hk1 := run_str (HDV.out.mono HBY.out)
                        have hk2 := run_str (HDU.out.mono HBY.out)
                        clear hAB c4 d4 u0 u1 u2 u3 u4 u5 u6 u7 u8 u9 v0 v1 v2 v3 v4 v5 v6 v7 v8 v9 m1 m2 m3 m4
                        obtain ⟨c0, c1, c2, c3, c4, c5, c6, c7, c8, c9⟩ := sec_box (x := (⟨n1, t1, f1, a1, l1, s1, k1, i1, e1, x1⟩, .slice q9 p9 r9)) HY7.out
                        obtain ⟨d0, d1, d2, d3, d4, d5, d6, d7, d8, d9⟩ := sec_box (x := (⟨n2, t2, f2, a2, l2, s2, k2, i2, e2, x2⟩, .slice q8 p8 r8)) HY8.out
                        dsimp only at c0 c1 c2 c3 c4 c5 c6 c7 c8 c9 d0 d1 d2 d3 d4 d5 d6 d7 d8 d9 hk1 hk2
                        go_upto_region 12 with (fail)
                        go_cut [157] from 88 to 156 (fun s157 wx => s157 = .bool (!decide ((⟨n1, t1, f1, a1, l1, s1, k1, i1, e1, x1⟩ : SecM) = ⟨n2, t2, f2, a2, l2, s2, k2, i2, e2, x2⟩)) ∧ Hid (wx = wy))
                        case first =>
                          cases hp0 : (n1 == n2) with
                          | false =>
                            have HNS : Hid (decide ((⟨n1, t1, f1, a1, l1, s1, k1, i1, e1, x1⟩ : SecM) = ⟨n2, t2, f2, a2, l2, s2, k2, i2, e2, x2⟩) = false) := Lib.hid (by
                              rw [decide_eq_false_iff_not]
                              intro hxy
                              have hq : n1 = n2 := by injection hxy
                              rw [hq] at hp0
                              simp at hp0)
                            have hz0 : (n1 != n2) = true := by rw [bne, hp0]; rfl
                            go_wp2
                            go_meet
                            exact ⟨by rw [HNS.out]; rfl, rfl⟩
                          | true =>
                            have hz0 : (n1 != n2) = false := by rw [bne, hp0]; rfl
                            cases hp1 : ((t1 : Int) == (t2 : Int)) with
                            | false =>
                              have HNS : Hid (decide ((⟨n1, t1, f1, a1, l1, s1, k1, i1, e1, x1⟩ : SecM) = ⟨n2, t2, f2, a2, l2, s2, k2, i2, e2, x2⟩) = false) := Lib.hid (by
                                rw [decide_eq_false_iff_not]
                                intro hxy
                                have hq : t1 = t2 := by injection hxy
                                rw [hq] at hp1
                                simp at hp1)
                              have hz1 : ((t1 : Int) != (t2 : Int)) = true := by rw [bne, hp1]; rfl
                              go_wp2
                              go_meet
                              exact ⟨by rw [HNS.out]; rfl, rfl⟩
                            | true =>
                              have hz1 : ((t1 : Int) != (t2 : Int)) = false := by rw [bne, hp1]; rfl
                              cases hp2 : ((f1 : Int) == (f2 : Int)) with
                              | false =>
                                have HNS : Hid (decide ((⟨n1, t1, f1, a1, l1, s1, k1, i1, e1, x1⟩ : SecM) = ⟨n2, t2, f2, a2, l2, s2, k2, i2, e2, x2⟩) = false) := Lib.hid (by
                                  rw [decide_eq_false_iff_not]
                                  intro hxy
                                  have hq : f1 = f2 := by injection hxy
                                  rw [hq] at hp2
                                  simp at hp2)
                                have hz2 : ((f1 : Int) != (f2 : Int)) = true := by rw [bne, hp2]; rfl
                                go_wp2
                                go_meet
                                exact ⟨by rw [HNS.out]; rfl, rfl⟩
                              | true =>
                                have hz2 : ((f1 : Int) != (f2 : Int)) = false := by rw [bne, hp2]; rfl
                                cases hp3 : ((a1 : Int) == (a2 : Int)) with
                                | false =>
                                  have HNS : Hid (decide ((⟨n1, t1, f1, a1, l1, s1, k1, i1, e1, x1⟩ : SecM) = ⟨n2, t2, f2, a2, l2, s2, k2, i2, e2, x2⟩) = false) := Lib.hid (by
                                    rw [decide_eq_false_iff_not]
                                    intro hxy
                                    have hq : a1 = a2 := by injection hxy
                                    rw [hq] at hp3
                                    simp at hp3)
                                  have hz3 : ((a1 : Int) != (a2 : Int)) = true := by rw [bne, hp3]; rfl
                                  go_wp2
                                  go_meet
                                  exact ⟨by rw [HNS.out]; rfl, rfl⟩
                                | true =>
                                  have hz3 : ((a1 : Int) != (a2 : Int)) = false := by rw [bne, hp3]; rfl
                                  cases hp4 : ((l1 : Int) == (l2 : Int)) with
                                  | false =>
                                    have HNS : Hid (decide ((⟨n1, t1, f1, a1, l1, s1, k1, i1, e1, x1⟩ : SecM) = ⟨n2, t2, f2, a2, l2, s2, k2, i2, e2, x2⟩) = false) := Lib.hid (by
                                      rw [decide_eq_false_iff_not]
                                      intro hxy
                                      have hq : l1 = l2 := by injection hxy
                                      rw [hq] at hp4
                                      simp at hp4)
                                    have hz4 : ((l1 : Int) != (l2 : Int)) = true := by rw [bne, hp4]; rfl
                                    go_wp2
                                    go_meet
                                    exact ⟨by rw [HNS.out]; rfl, rfl⟩
                                  | true =>
                                    have hz4 : ((l1 : Int) != (l2 : Int)) = false := by rw [bne, hp4]; rfl
                                    cases hp5 : ((s1 : Int) == (s2 : Int)) with
                                    | false =>
                                      have HNS : Hid (decide ((⟨n1, t1, f1, a1, l1, s1, k1, i1, e1, x1⟩ : SecM) = ⟨n2, t2, f2, a2, l2, s2, k2, i2, e2, x2⟩) = false) := Lib.hid (by
                                        rw [decide_eq_false_iff_not]
                                        intro hxy
                                        have hq : s1 = s2 := by injection hxy
                                        rw [hq] at hp5
                                        simp at hp5)
                                      have hz5 : ((s1 : Int) != (s2 : Int)) = true := by rw [bne, hp5]; rfl
                                      go_wp2
                                      go_meet
                                      exact ⟨by rw [HNS.out]; rfl, rfl⟩
                                    | true =>
                                      have hz5 : ((s1 : Int) != (s2 : Int)) = false := by rw [bne, hp5]; rfl
                                      cases hp6 : ((k1 : Int) == (k2 : Int)) with
                                      | false =>
                                        have HNS : Hid (decide ((⟨n1, t1, f1, a1, l1, s1, k1, i1, e1, x1⟩ : SecM) = ⟨n2, t2, f2, a2, l2, s2, k2, i2, e2, x2⟩) = false) := Lib.hid (by
                                          rw [decide_eq_false_iff_not]
                                          intro hxy
                                          have hq : k1 = k2 := by injection hxy
                                          rw [hq] at hp6
                                          simp at hp6)
                                        have hz6 : ((k1 : Int) != (k2 : Int)) = true := by rw [bne, hp6]; rfl
                                        go_wp2
                                        go_meet
                                        exact ⟨by rw [HNS.out]; rfl, rfl⟩
                                      | true =>
                                        have hz6 : ((k1 : Int) != (k2 : Int)) = false := by rw [bne, hp6]; rfl
                                        cases hp7 : ((i1 : Int) == (i2 : Int)) with
                                        | false =>
                                          have HNS : Hid (decide ((⟨n1, t1, f1, a1, l1, s1, k1, i1, e1, x1⟩ : SecM) = ⟨n2, t2, f2, a2, l2, s2, k2, i2, e2, x2⟩) = false) := Lib.hid (by
                                            rw [decide_eq_false_iff_not]
                                            intro hxy
                                            have hq : i1 = i2 := by injection hxy
                                            rw [hq] at hp7
                                            simp at hp7)
                                          have hz7 : ((i1 : Int) != (i2 : Int)) = true := by rw [bne, hp7]; rfl
                                          go_wp2
                                          go_meet
                                          exact ⟨by rw [HNS.out]; rfl, rfl⟩
                                        | true =>
                                          have hz7 : ((i1 : Int) != (i2 : Int)) = false := by rw [bne, hp7]; rfl
                                          cases hp8 : ((e1 : Int) == (e2 : Int)) with
                                          | false =>
                                            have HNS : Hid (decide ((⟨n1, t1, f1, a1, l1, s1, k1, i1, e1, x1⟩ : SecM) = ⟨n2, t2, f2, a2, l2, s2, k2, i2, e2, x2⟩) = false) := Lib.hid (by
                                              rw [decide_eq_false_iff_not]
                                              intro hxy
                                              have hq : e1 = e2 := by injection hxy
                                              rw [hq] at hp8
                                              simp at hp8)
                                            have hz8 : ((e1 : Int) != (e2 : Int)) = true := by rw [bne, hp8]; rfl
                                            go_wp2
                                            go_meet
                                            exact ⟨by rw [HNS.out]; rfl, rfl⟩
                                          | true =>
                                            have hz8 : ((e1 : Int) != (e2 : Int)) = false := by rw [bne, hp8]; rfl
                                            cases hp9 : (x1 == x2) with
                                            | false =>
                                              have HNS : Hid (decide ((⟨n1, t1, f1, a1, l1, s1, k1, i1, e1, x1⟩ : SecM) = ⟨n2, t2, f2, a2, l2, s2, k2, i2, e2, x2⟩) = false) := Lib.hid (by
                                                rw [decide_eq_false_iff_not]
                                                intro hxy
                                                have hq : x1 = x2 := by injection hxy
                                                rw [hq] at hp9
                                                simp at hp9)
                                              have hz9 : (x1 != x2) = true := by rw [bne, hp9]; rfl
                                              go_wp2
                                              go_meet
                                              exact ⟨by rw [HNS.out]; rfl, rfl⟩
                                            | true =>
                                              have hz9 : (x1 != x2) = false := by rw [bne, hp9]; rfl
                                              have HEQ : Hid (decide ((⟨n1, t1, f1, a1, l1, s1, k1, i1, e1, x1⟩ : SecM) = ⟨n2, t2, f2, a2, l2, s2, k2, i2, e2, x2⟩) = true) := Lib.hid (by
                                                simp only [beq_iff_eq, Int.natCast_inj] at hp0 hp1 hp2 hp3 hp4 hp5 hp6 hp7 hp8 hp9
                                                subst hp0 hp1 hp2 hp3 hp4 hp5 hp6 hp7 hp8 hp9
                                                exact decide_eq_true rfl)
                                              go_wp2
                                              go_meet
                                              exact ⟨by rw [HEQ.out]; rfl, rfl⟩
                        case rest =>
                          obtain ⟨rfl, HWX⟩ := hcut
                          have e9 := HWX.out
                          subst e9
                          by_cases hxy : (⟨n1, t1, f1, a1, l1, s1, k1, i1, e1, x1⟩ : SecM) = ⟨n2, t2, f2, a2, l2, s2, k2, i2, e2, x2⟩
                          · rw [decide_eq_true hxy]
                            have HT3 := Lib.hid (take_step (HSE.out _ _ X1.out) (HSF.out _ _ X2.out) HT2.out hxy)
                            clear hxy
                            go_wp2
                            go_round
                            case rel => exact ⟨k + 1, by go_num, by omega, HT3.out, HBQ.out⟩
                            case measure => simp [intOf] <;> omega
                          · rw [decide_eq_false hxy]
                            have HNS : Hid (decide (e = f) = false) := Lib.hid (by
                              rw [decide_eq_false_iff_not]
                              exact fun hef => take_diff (HSE.out _ _ X1.out) (HSF.out _ _ X2.out) hxy (by rw [hef]))
                            clear hxy
                            go_wp2
                            go_ret
                            exact ⟨by rw [HNS.out]; rfl, HBY.out⟩
                    · have HSC := Lib.hid (show e.secs = f.secs from take_all HT2.out (by have := HEL.out; omega) (by have := HFL.out; omega))
                      have HEQ := Lib.hid (show decide (e = f) = true from decide_eq_true (elf_ext HTY.out HTG.out HFG.out HEN.out HSC.out HSG.out))
                      go_wp2
                      go_ret
                      exact ⟨by rw [HEQ.out]; rfl, HBV.out⟩
end Go.Proofs.Ytgjoimcgiofinaa
namespace Go.Proofs.Ytgjoimcgiofinaa
open Go.RowKit Go.Fd
set_option maxHeartbeats 4000000 in
set_option maxRecDepth 100000 in
theorem kept4_any (e : ElfM) (L L' : List (SecM × Value)) (sv gv sv' gv' : Value) (base : Nat) (w : World) (h : ElfAt w e L sv gv) (h' : ElfAt w e L' sv' gv') (htw : ∀ p ∈ L', Twined w base p.2 p.1.data) (ho : ElfOk e) (hdl : dsum e.secs ≤ 1000000000) :
    Calls Try.prog 48 #[elfV e sv' gv', elfV e sv gv] w fun r w' => r = .returned (.bool true) ∧ Below w.heap.size w w' := by
  have HSAME := Lib.hid (fun w' (hb : Below w.heap.size w w') => ref4Same_any e e L' L sv' gv' sv gv w' (h'.mono hb) (h.mono hb) ho ho)
  rw [decide_eq_true rfl] at HSAME
  obtain ⟨a, ca, rfl, hca, -, hc⟩ := h.rd.open (fun _ => rfl)
  obtain ⟨a', ca', rfl, hca', -, hc'⟩ := h'.rd.open (fun _ => rfl)
  obtain ⟨gm, ga, gc, hgm, rfl, _, _⟩ := h.segs.shape
  obtain ⟨vm, va, vc, hvm, rfl, _, _⟩ := h'.segs.shape
  have HLL := Lib.hid (show L.length = e.secs.length by rw [h.secs, List.length_map])
  have HLM := Lib.hid (show L'.length = e.secs.length by rw [h'.secs, List.length_map])
  have HSE := Lib.hid (fun k x (hk : L[k]? = some x) => sec_of h.secs hk)
  have HSF := Lib.hid (fun k x (hk : L'[k]? = some x) => sec_of h'.secs hk)
  have HDL := Lib.hid hdl
  have HC := Lib.hid hc
  have HC' := Lib.hid hc'
  have HD := Lib.hid h.data
  have HTW := Lib.hid htw
  obtain ⟨nl, hnl⟩ : ∃ n, n = L.length := ⟨_, rfl⟩
  have hL' : L'.length = nl := by have h1 := HLL.out; have h2 := HLM.out; omega
  rw [← hnl] at hca HSAME ⊢
  rw [hL'] at hca' HSAME ⊢
  have HNL := Lib.hid hnl
  have HNL' := Lib.hid hL'
  have hnl9 : nl ≤ 1000000000 := by have h1 := ho.secs; have h2 := HLL.out; omega
  clear hc hc' h h' htw ho hdl hnl hL'
  go_enter Try.func48, Try.ntmps48
  go_wp2_with (first
    | ((with_reducible show wpList _ _ _ (⟨some 2, .box _ _, _, _, _, _⟩ :: _) _ _); go_must (refine wpList_box rfl ?_; intro w1 hx1 hb1 hs1; have HX1 := Lib.hid hx1; have HB1 := Lib.hid hb1; clear hx1 hb1))
    | ((with_reducible show wpList _ _ _ (⟨some 3, .box _ _, _, _, _, _⟩ :: _) _ _); go_must (refine wpList_box rfl ?_; intro w2 hx2 hb2 hs2; have HX2 := Lib.hid hx2; have HX12 := Lib.hid (heap_below hb2 HX1.out); have HB2 := Lib.hid (HB1.out.trans (hb2.mono HB1.out.size)); clear hx2 hb2)))
  go_loopw [5] (fun i wr => ∃ (k : Nat), i = .int .i64 k ∧ k ≤ nl ∧ Hid (Below w2.heap.size w2 wr)) (fun i _ => nl - (intOf i).toNat)
  case atStart => exact ⟨0, rfl, Nat.zero_le _, Below.refl _ _⟩
  case round =>
    obtain ⟨k, rfl, hk, HBR⟩ := hrel
    have HX1r := Lib.hid (heap_below HBR.out HX12.out)
    have HX2r := Lib.hid (heap_below HBR.out HX2.out)
    have HBr := Lib.hid (HB2.out.trans (HBR.out.mono HB2.out.size))
    obtain ⟨c0, c1, c2, c3, c4, c5⟩ := elf_box HX1r.out
    obtain ⟨d0, d1, d2, d3, d4, d5⟩ := elf_box HX2r.out
    by_cases hlt : k < nl
    · have X1 := Lib.hid (show L[k]? = some (L[k]'(by have := HNL.out; omega)) from List.getElem?_eq_getElem _)
      generalize L[k]'(by have := HNL.out; omega) = x at *
      have X2 := Lib.hid (show L'[k]? = some (L'[k]'(by have := HNL'.out; omega)) from List.getElem?_eq_getElem _)
      generalize L'[k]'(by have := HNL'.out; omega) = y at *
      obtain ⟨s, dv⟩ := x
      obtain ⟨s', dv'⟩ := y
      obtain rfl : s' = s := by
        have h1 := HSE.out k _ X1.out
        have h2 := HSF.out k _ X2.out
        rw [h1] at h2
        exact (Option.some.inj h2).symm
      have HKP := Lib.hid (fun wx (hb : Below w.heap.size w wx) => kept_any s'.data base dv' dv wx (Nat.le_trans (dsum_mem (List.mem_of_getElem? (HSE.out _ _ X1.out))) HDL.out) ((HTW.out _ (List.mem_of_getElem? X2.out)).mono hb) (Bs.mono (HD.out _ (List.mem_of_getElem? X1.out)) hb))
      obtain ⟨dm, da, dc, -, rfl, _, _⟩ := (HD.out _ (List.mem_of_getElem? X1.out)).shape
      obtain ⟨em, ea, ec, -, rfl, _, _⟩ := (HTW.out _ (List.mem_of_getElem? X2.out)).bs.shape
      obtain ⟨b1, o1, ha, z0, z1, z2, z3, z4, z5, z6, z7, z8, z9, -⟩ := sec_cells HC.out HBr.out X1.out
      obtain ⟨b2, o2, ha2, y0, y1, y2, y3, y4, y5, y6, y7, y8, y9, -⟩ := sec_cells HC'.out HBr.out X2.out
      subst ha ha2
      clear z0 z1 z2 z3 z4 z5 z6 z7 z8 y0 y1 y2 y3 y4 y5 y6 y7 y8 c0 c1 c2 c3 c5 d0 d1 d2 d3 d5
      have hAB := fun (x : Above wr) (b k : Nat) (h : b < wr.heap.size) => Above.cell x b k h
      have l1 := block_lt z9
      have l2 := block_lt y9
      have l3 := block_lt c4
      have l4 := block_lt d4
      go_wp2
      refine wp_region_walk 14 [(12, .is (.bool true))] (by kernel_rfl) (by kernel_rfl) ?_
      simp only [List.take_succ_cons, List.take_zero, List.drop_succ_cons, List.drop_zero]
      repeat (refine walk_quiet rfl rfl rfl ?_; intro K hK; go_big_quiet_op; go_big_quiet_on)
      refine walk_is rfl rfl (fun wx hwx _ => WpYld.callIs (run_callL (vals := [_, _]) Try.func24 (by kernel_rfl) rfl rfl) (HKP.out wx (HBr.out.trans (hwx.mono HBr.out.size)))) ?_
      go_frame
      repeat (refine walk_quiet rfl rfl rfl ?_; intro K hK; go_big_quiet_op; go_big_quiet_on)
      refine walk_nil ?_
      intro wz hbz hF
      have HBZ := Lib.hid (HBR.out.trans (hbz.mono HBR.out.size))
      clear hbz hF hAB z9 y9 c4 d4 l1 l2 l3 l4
      go_wp2
      go_round
      case rel => exact ⟨k + 1, by go_num, by omega, HBZ⟩
      case measure => simp [intOf] <;> omega
    · obtain rfl : k = nl := by omega
      go_wp2_with (go_at_call 50; refine (HSAME.out _ HBr.out).mono ?_; rintro r w3 ⟨rfl, hb3⟩; have HB3 := Lib.hid (HBr.out.trans (hb3.mono HBr.out.size)); clear hb3)
      go_ret
      exact ⟨rfl, HB3.out⟩
end Go.Proofs.Ytgjoimcgiofinaa
namespace Go.Proofs.Ytgjoimcgiofinaa
open Go.RowKit Go.Fd
def secB2 (s : SecM) : Bool := secB s && mayS s.name
theorem names_ok {e : ElfM} (hl : e.secs.length ≤ 250) : (buildR (namesOf e.secs)).2.2 = 0 ↔ (e.secs.all fun s => mayS s.name) = true := by
  have hall : (namesOf e.secs).all mayS = e.secs.all fun s => mayS s.name := by
    unfold namesOf
    rw [List.all_append, List.all_map]
    have : [tabName].all mayS = true := by decide
    rw [this, Bool.and_true]
    rfl
  constructor
  · intro h
    rw [← hall]
    exact (build_ok h).1
  · intro h
    rw [← hall] at h
    have hb := buildT_len (namesOf e.secs) (fun x hx => mayS_len (List.all_eq_true.1 h x hx))
    rw [namesOf_len] at hb
    unfold buildR
    rw [if_pos h, if_neg (by omega)]
theorem mayE_4 {e : ElfM} (h : e.secs.all secB2 = false) : mayE e = false := by
  rw [Bool.eq_false_iff]
  intro hm
  unfold mayE at hm
  simp only [Bool.and_eq_true] at hm
  obtain ⟨⟨h1, h2⟩, h3⟩ := hm
  have hl : e.secs.length ≤ 250 := by
    unfold may1 at h1
    simp only [Bool.and_eq_true, decide_eq_true_eq] at h1
    exact h1.1.2
  unfold may3 at h3
  simp only [Bool.and_eq_true, decide_eq_true_eq] at h3
  have h4 := (names_ok hl).1 h3.1
  unfold may2 at h2
  simp only [Bool.and_eq_true] at h2
  rw [Bool.eq_false_iff] at h
  apply h
  rw [List.all_eq_true]
  intro s hs
  have h5 := List.all_eq_true.1 h2.1 s hs
  have h6 := List.all_eq_true.1 h4 s hs
  unfold secB2 secB
  rw [h6]
  simpa using h5
set_option maxHeartbeats 4000000 in
set_option maxRecDepth 100000 in
theorem ref4May_any (e : ElfM) (L : List (SecM × Value)) (sv gv : Value) (w : World) (h : ElfAt w e L sv gv) (ho : ElfOk e) :
    Calls Try.prog 44 #[elfV e sv gv] w fun r w' => r = .returned (.bool (mayE e)) ∧ Below w.heap.size w w' := by
  obtain ⟨a, ca, rfl, hca, -, hc⟩ := h.rd.open (fun _ => rfl)
  obtain ⟨ga, gc, rfl, hgc, -, hcg⟩ := h.segs.open (fun _ => rfl)
  have HC := Lib.hid hc
  have HCG := Lib.hid hcg
  have HAT := Lib.hid h
  have HOK := Lib.hid ho
  have HD := Lib.hid h.data
  have HSE := Lib.hid (fun k x (hk : L[k]? = some x) => sec_of h.secs hk)
  have HEL := Lib.hid (show e.secs.length = L.length by rw [h.secs, List.length_map])
  obtain ⟨nl, hnl⟩ : ∃ n, n = L.length := ⟨_, rfl⟩
  obtain ⟨gn, hgn⟩ : ∃ n, n = e.segs.length := ⟨_, rfl⟩
  rw [← hnl] at hca HAT ⊢
  rw [← hgn] at hgc HAT ⊢
  have HL := Lib.hid hnl
  have HGN := Lib.hid hgn
  have hnl9 : nl ≤ 1000000000 := by have := HOK.out.secs; have := HEL.out; omega
  have hgn9 : gn ≤ 1000000000 := by have := HOK.out.segs; omega
  clear hc hcg h hnl hgn ho
  have HM1 : Hid (may1 e = ((decide (e.typ = 1) || decide (e.typ = 2)) && !decide (mach e.target = 0) && decide (nl ≤ 250) && decide (gn ≤ 16))) := by
    unfold may1
    rw [HEL.out, ← HL.out, ← HGN.out]
    exact rfl
  have HMC := Lib.hid (fun w => ref4Machine_any e.target w)
  have hmc := mach_le e.target
  generalize mach e.target = mt at *
  by_cases h1 : may1 e = true
  · have hm1 := h1
    rw [HM1.out] at hm1
    simp only [Bool.and_eq_true, Bool.or_eq_true, Bool.not_eq_true', decide_eq_true_eq, decide_eq_false_iff_not] at hm1
    obtain ⟨⟨⟨hty, hmt⟩, hn250⟩, hg16⟩ := hm1
    have ht : (e.typ != 1) = false ∨ ((e.typ != 1) = true ∧ (e.typ != 2) = false) := by
      rcases hty with h | h
      · exact .inl (by rw [h]; rfl)
      · exact .inr (by rw [h]; exact ⟨rfl, rfl⟩)
    have hmt0 : ((mt : Int) == 0) = false := by rw [beq_eq_false_iff_ne]; omega
    have HM2 := Lib.hid h1
    have HX9 := Lib.hid hmt
    clear h1 hty hmt HM1
    rcases ht with ht1 | ⟨ht1, ht2⟩
    all_goals
      go_enter Try.func44, Try.ntmps44
      go_wp2_with (first
        | ((with_reducible show wpList _ _ _ (⟨_, .box _ _, _, _, _, _⟩ :: _) _ _); go_must (refine wpList_box rfl ?_; intro w1 hx1 hb1 hs1; obtain ⟨c0, c1, c2, c3, c4, c5⟩ := elf_box hx1))
        | (go_at_call 76; refine (HMC.out _).mono ?_; rintro r w2 ⟨rfl, rfl⟩))
      have HX1 := Lib.hid hx1
      have HB1 := Lib.hid hb1
      clear c0 c1 c2 c3 c4 c5 hx1 hb1
      go_loopw [3] (fun i wr => ∃ k : Nat, i = .int .i64 k ∧ k ≤ nl ∧ Hid ((e.secs.take k).all secB2 = true) ∧ Hid (Below w1.heap.size w1 wr)) (fun i _ => nl - (intOf i).toNat)
      case atStart => exact ⟨0, rfl, Nat.zero_le _, rfl, Below.refl _ _⟩
      case round =>
        obtain ⟨k, rfl, hk, HT, HB⟩ := hrel
        have hbs := HB.out.size
        have HBW := Lib.hid (HB1.out.trans (HB.out.mono HB1.out.size))
        obtain ⟨d0, d1, d2, d3, d4, d5⟩ := elf_box (heap_below HB.out HX1.out)
        clear d0 d1 d2 d3
        by_cases hlt : k < nl
        · clear d5
          have X1 := Lib.hid (show L[k]? = some (L[k]'(by have := HL.out; omega)) from List.getElem?_eq_getElem _)
          generalize L[k]'(by have := HL.out; omega) = x at *
          obtain ⟨s, dv⟩ := x
          obtain ⟨dm, da, dc, hdm, rfl, _, _⟩ := (HD.out _ (List.mem_of_getElem? X1.out)).shape
          have X2 := Lib.hid (HSE.out _ _ X1.out)
          have hdl : dm ≤ 2147483648 := by
            have h1 := dsum_mem (List.mem_of_getElem? X2.out)
            have h2 := HOK.out.data
            have h3 := hdm.out
            dsimp only at h1 h3
            omega
          have HMA := Lib.hid (fun w => ref3May_any s.name w (HOK.out.names _ (List.mem_of_getElem? X2.out)))
          have HPO := Lib.hid (fun w => ref4Power_any s.align w (HOK.out.fits.secs _ (List.mem_of_getElem? X2.out)).2.2.2.1)
          obtain ⟨b1, o1, ha, c10, c11, c12, c13, c14, c15, c16, c17, c18, c19, -⟩ := sec_cells HC.out HBW.out X1.out
          subst ha
          have HSB : Hid (secB2 s = ((!decide (s.typ = 0) && powB s.align && !decide (s.name = []) && (if s.typ = 8 then decide (dm = 0) && decide (s.size ≤ 1073741824) else decide (s.size = dm))) && decide (dm ≤ 4194304) && mayS s.name)) := by unfold secB2 secB fineB; rw [hdm.out]; exact rfl
          have HGO := Lib.hid (fun hb : secB2 s = true => all_step (f := secB2) X2.out HT.out hb)
          have HNO := Lib.hid (fun hb : secB2 s = false => mayE_4 (e := e) (all_no (f := secB2) X2.out hb))
          obtain ⟨name, typ, flags, addr, align, size, link, info, ent, data⟩ := s
          dsimp only at *
          generalize powB align = pb at *
          generalize mayS name = ms at *
          generalize secB2 ⟨name, typ, flags, addr, align, size, link, info, ent, data⟩ = sb at *
          by_cases hn : name = []
          · have hne : name.isEmpty = true := by simp [hn]
            have HR := Lib.hid (HNO.out (by rw [HSB.out]; simp [hn]))
            have HX := Lib.hid hn
            clear HNO HGO HSB hn
            go_wp2_with (first
              | ((with_reducible show wpList _ _ _ (⟨none, .store _ _ _, _, _, _, _⟩ :: _) _ _); go_must (refine wpList_storeNew rfl rfl (by kernel_rfl) rfl (by simp [Value.oneCell']) ?_; intro w2 hh2 hb2; obtain ⟨e0, e1, e2, e3, e4, e5, e6, e7, e8, e9⟩ := sec_box (x := (⟨name, typ, flags, addr, align, size, link, info, ent, data⟩, .slice da dm dc)) hh2; have HB2 := Lib.hid (HB.out.trans (hb2.mono HB.out.size))))
              | (go_at_call 57; refine (HMA.out _).mono ?_; rintro r w4 ⟨rfl, rfl⟩)
              | (go_at_call 77; refine (HPO.out _).mono ?_; rintro r w5 ⟨rfl, rfl⟩))
            go_ret
            exact ⟨by rw [HR.out]; rfl, HB1.out.trans (HB2.out.mono HB1.out.size)⟩
          have hne : name.isEmpty = false := by simpa using hn
          have HXn := Lib.hid hn
          cases ms with
          | false =>
            have HR := Lib.hid (HNO.out (by rw [HSB.out]; simp))
            clear HNO HGO HSB hn
            go_wp2_with (first
              | ((with_reducible show wpList _ _ _ (⟨none, .store _ _ _, _, _, _, _⟩ :: _) _ _); go_must (refine wpList_storeNew rfl rfl (by kernel_rfl) rfl (by simp [Value.oneCell']) ?_; intro w2 hh2 hb2; obtain ⟨e0, e1, e2, e3, e4, e5, e6, e7, e8, e9⟩ := sec_box (x := (⟨name, typ, flags, addr, align, size, link, info, ent, data⟩, .slice da dm dc)) hh2; have HB2 := Lib.hid (HB.out.trans (hb2.mono HB.out.size))))
              | (go_at_call 57; refine (HMA.out _).mono ?_; rintro r w4 ⟨rfl, rfl⟩)
              | (go_at_call 77; refine (HPO.out _).mono ?_; rintro r w5 ⟨rfl, rfl⟩))
            go_ret
            exact ⟨by rw [HR.out]; rfl, HB1.out.trans (HB2.out.mono HB1.out.size)⟩
          | true =>
          cases pb with
          | false =>
            have HR := Lib.hid (HNO.out (by rw [HSB.out]; simp))
            clear HNO HGO HSB hn
            go_wp2_with (first
              | ((with_reducible show wpList _ _ _ (⟨none, .store _ _ _, _, _, _, _⟩ :: _) _ _); go_must (refine wpList_storeNew rfl rfl (by kernel_rfl) rfl (by simp [Value.oneCell']) ?_; intro w2 hh2 hb2; obtain ⟨e0, e1, e2, e3, e4, e5, e6, e7, e8, e9⟩ := sec_box (x := (⟨name, typ, flags, addr, align, size, link, info, ent, data⟩, .slice da dm dc)) hh2; have HB2 := Lib.hid (HB.out.trans (hb2.mono HB.out.size))))
              | (go_at_call 57; refine (HMA.out _).mono ?_; rintro r w4 ⟨rfl, rfl⟩)
              | (go_at_call 77; refine (HPO.out _).mono ?_; rintro r w5 ⟨rfl, rfl⟩))
            go_ret
            exact ⟨by rw [HR.out]; rfl, HB1.out.trans (HB2.out.mono HB1.out.size)⟩
          | true =>
          by_cases h0 : typ = 0
          · have h0' : ((typ : Int) == 0) = true := by rw [beq_iff_eq]; omega
            have HR := Lib.hid (HNO.out (by rw [HSB.out]; simp [h0]))
            have HX := Lib.hid h0
            clear HNO HGO HSB hn h0
            go_wp2_with (first
              | ((with_reducible show wpList _ _ _ (⟨none, .store _ _ _, _, _, _, _⟩ :: _) _ _); go_must (refine wpList_storeNew rfl rfl (by kernel_rfl) rfl (by simp [Value.oneCell']) ?_; intro w2 hh2 hb2; obtain ⟨e0, e1, e2, e3, e4, e5, e6, e7, e8, e9⟩ := sec_box (x := (⟨name, typ, flags, addr, align, size, link, info, ent, data⟩, .slice da dm dc)) hh2; have HB2 := Lib.hid (HB.out.trans (hb2.mono HB.out.size))))
              | (go_at_call 57; refine (HMA.out _).mono ?_; rintro r w4 ⟨rfl, rfl⟩)
              | (go_at_call 77; refine (HPO.out _).mono ?_; rintro r w5 ⟨rfl, rfl⟩))
            go_ret
            exact ⟨by rw [HR.out]; rfl, HB1.out.trans (HB2.out.mono HB1.out.size)⟩
          have h0' : ((typ : Int) == 0) = false := by rw [beq_eq_false_iff_ne]; omega
          have HSB1 : Hid (sb = ((if typ = 8 then decide (dm = 0) && decide (size ≤ 1073741824) else decide (size = dm)) && decide (dm ≤ 4194304))) := by rw [HSB.out, decide_eq_false h0, decide_eq_false hn]; simp [Hid]
          have HX0 := Lib.hid h0
          clear HSB h0 hn
          have hcase : (((typ : Int) == 8) = true ∧ ((typ : Int) != 8) = false ∧ ((dm : Int) != 0) = false ∧ ¬ (1073741824 : Int) < (size : Int) ∧ Hid (sb = decide (dm ≤ 4194304))) ∨ (((typ : Int) == 8) = false ∧ ((typ : Int) != 8) = true ∧ ((size : Int) != (dm : Int)) = false ∧ Hid (sb = decide (dm ≤ 4194304))) ∨
              (((typ : Int) == 8) = true ∧ ((typ : Int) != 8) = false ∧ ((dm : Int) != 0) = true ∧ Hid (sb = false)) ∨ (((typ : Int) == 8) = true ∧ ((typ : Int) != 8) = false ∧ ((dm : Int) != 0) = false ∧ (1073741824 : Int) < (size : Int) ∧ Hid (sb = false)) ∨ (((typ : Int) == 8) = false ∧ ((typ : Int) != 8) = true ∧ ((size : Int) != (dm : Int)) = true ∧ Hid (sb = false)) := by
            rw [beq_iff_eq, beq_eq_false_iff_ne, bne_iff_ne, bne_eq_false_iff_eq, bne_iff_ne, bne_eq_false_iff_eq, bne_iff_ne, bne_eq_false_iff_eq, HSB1.out]
            by_cases h8 : typ = 8
            · rw [if_pos h8]
              by_cases hm : dm = 0
              · by_cases hs : size ≤ 1073741824
                · exact .inl ⟨by omega, by omega, by omega, by omega, by rw [decide_eq_true hm, decide_eq_true hs]; exact rfl⟩
                · exact .inr (.inr (.inr (.inl ⟨by omega, by omega, by omega, by omega, by rw [decide_eq_false hs]; simp [Hid]⟩)))
              · exact .inr (.inr (.inl ⟨by omega, by omega, by omega, by rw [decide_eq_false hm]; simp [Hid]⟩))
            · rw [if_neg h8]
              by_cases hs : size = dm
              · exact .inr (.inl ⟨by omega, by omega, by omega, by rw [decide_eq_true hs]; exact rfl⟩)
              · exact .inr (.inr (.inr (.inr ⟨by omega, by omega, by omega, by rw [decide_eq_false hs]; exact rfl⟩)))
          clear HSB1
          rcases hcase with ⟨h8, h8', hm, hs, HSB⟩ | ⟨h8, h8', hm, HSB⟩ | ⟨h8, h8', hm, HSB⟩ | ⟨h8, h8', hm, hs, HSB⟩ | ⟨h8, h8', hm, HSB⟩
          case inr.inr.inl | inr.inr.inr.inl | inr.inr.inr.inr =>
            have HR := Lib.hid (HNO.out HSB.out)
            clear HNO HGO HSB
            go_wp2_with (first
              | ((with_reducible show wpList _ _ _ (⟨none, .store _ _ _, _, _, _, _⟩ :: _) _ _); go_must (refine wpList_storeNew rfl rfl (by kernel_rfl) rfl (by simp [Value.oneCell']) ?_; intro w2 hh2 hb2; obtain ⟨e0, e1, e2, e3, e4, e5, e6, e7, e8, e9⟩ := sec_box (x := (⟨name, typ, flags, addr, align, size, link, info, ent, data⟩, .slice da dm dc)) hh2; have HB2 := Lib.hid (HB.out.trans (hb2.mono HB.out.size))))
              | (go_at_call 57; refine (HMA.out _).mono ?_; rintro r w4 ⟨rfl, rfl⟩)
              | (go_at_call 77; refine (HPO.out _).mono ?_; rintro r w5 ⟨rfl, rfl⟩))
            go_ret
            exact ⟨by rw [HR.out]; rfl, HB1.out.trans (HB2.out.mono HB1.out.size)⟩
          all_goals
            by_cases hd4 : dm ≤ 4194304
            · have HT1 := Lib.hid (HGO.out (by rw [HSB.out, decide_eq_true hd4]))
              clear HNO HGO HSB
              go_wp2_with (first
                | ((with_reducible show wpList _ _ _ (⟨none, .store _ _ _, _, _, _, _⟩ :: _) _ _); go_must (refine wpList_storeNew rfl rfl (by kernel_rfl) rfl (by simp [Value.oneCell']) ?_; intro w2 hh2 hb2; obtain ⟨e0, e1, e2, e3, e4, e5, e6, e7, e8, e9⟩ := sec_box (x := (⟨name, typ, flags, addr, align, size, link, info, ent, data⟩, .slice da dm dc)) hh2; have HB2 := Lib.hid (HB.out.trans (hb2.mono HB.out.size))))
                | (go_at_call 57; refine (HMA.out _).mono ?_; rintro r w4 ⟨rfl, rfl⟩)
                | (go_at_call 77; refine (HPO.out _).mono ?_; rintro r w5 ⟨rfl, rfl⟩))
              go_roundw
              case rel =>
                first
                  | exact ⟨k + 1, by go_num, by omega, HT1.out, HB2.out⟩
                  | ((repeat apply Exists.intro); exact ⟨⟨k + 1, by go_num, by omega, HT1.out, HB2.out⟩, rfl⟩)
              case measure => simp [intOf] <;> omega
            · have HR := Lib.hid (HNO.out (by rw [HSB.out, decide_eq_false hd4]))
              clear HNO HGO HSB
              go_wp2_with (first
                | ((with_reducible show wpList _ _ _ (⟨none, .store _ _ _, _, _, _, _⟩ :: _) _ _); go_must (refine wpList_storeNew rfl rfl (by kernel_rfl) rfl (by simp [Value.oneCell']) ?_; intro w2 hh2 hb2; obtain ⟨e0, e1, e2, e3, e4, e5, e6, e7, e8, e9⟩ := sec_box (x := (⟨name, typ, flags, addr, align, size, link, info, ent, data⟩, .slice da dm dc)) hh2; have HB2 := Lib.hid (HB.out.trans (hb2.mono HB.out.size))))
                | (go_at_call 57; refine (HMA.out _).mono ?_; rintro r w4 ⟨rfl, rfl⟩)
                | (go_at_call 77; refine (HPO.out _).mono ?_; rintro r w5 ⟨rfl, rfl⟩))
              go_ret
              exact ⟨by rw [HR.out]; rfl, HB1.out.trans (HB2.out.mono HB1.out.size)⟩
        ·
          have hkn : e.secs.take k = e.secs := List.take_of_length_le (by have := HL.out; have := HEL.out; omega)
          have HALL : Hid (e.secs.all secB2 = true) := by
            have := HT.out
            rw [hkn] at this
            exact this
          have HBF := Lib.hid HB.out
          clear HT hkn
          go_wp2
          go_loopw [5] (fun i wx => ∃ k : Nat, i = .int .i64 k ∧ k ≤ gn ∧ Hid ((e.segs.take k).all (fun s => powB s.align) = true) ∧ Hid (Below w1.heap.size w1 wx)) (fun i _ => gn - (intOf i).toNat)
          case atStart => exact ⟨0, rfl, Nat.zero_le _, rfl, HBF.out⟩
          case round =>
            clear d4 d5
            obtain ⟨k, rfl, hk, HT, HB⟩ := hrel
            have hbs := HB.out.size
            have HBW := Lib.hid (HB1.out.trans (HB.out.mono HB1.out.size))
            obtain ⟨d0, d1, d2, d3, d4, d5⟩ := elf_box (heap_below HB.out HX1.out)
            by_cases hlt : k < gn
            · clear d0 d1 d2 d3 d4
              have X1 := Lib.hid (show e.segs[k]? = some (e.segs[k]'(by have := HGN.out; omega)) from List.getElem?_eq_getElem _)
              generalize e.segs[k]'(by have := HGN.out; omega) = x at *
              have HPO := Lib.hid (fun w => ref4Power_any x.align w (HOK.out.fits.segs _ (List.mem_of_getElem? X1.out)).2.2.2.2.2.2)
              have HGO := Lib.hid (fun hb : powB x.align = true => all_step (f := fun s : SegM => powB s.align) X1.out HT.out hb)
              have HNO := Lib.hid (fun hb : powB x.align = false => mayE_3 (all_no (f := fun s : SegM => powB s.align) X1.out hb))
              obtain ⟨b1, o1, ha, c10, c11, c12, c13, c14, c15, c16, -⟩ := seg_cells HCG.out HBW.out X1.out
              subst ha
              obtain ⟨typ, flags, off, vaddr, filesz, memsz, align⟩ := x
              dsimp only at *
              generalize powB align = pb at *
              cases pb with
              | false =>
                have HR := Lib.hid (HNO.out rfl)
                clear HNO HGO
                go_wp2_with (go_at_call 77; refine (HPO.out _).mono ?_; rintro r w4 ⟨rfl, rfl⟩)
                go_ret
                exact ⟨by rw [HR.out]; rfl, HBW.out⟩
              | true =>
                have HT1 := Lib.hid (HGO.out rfl)
                clear HNO HGO
                go_wp2_with (go_at_call 77; refine (HPO.out _).mono ?_; rintro r w4 ⟨rfl, rfl⟩)
                go_roundw
                case rel =>
                  first
                    | exact ⟨k + 1, by go_num, by omega, HT1.out, HB.out⟩
                    | ((repeat apply Exists.intro); exact ⟨⟨k + 1, by go_num, by omega, HT1.out, HB.out⟩, rfl⟩)
                case measure => simp [intOf] <;> omega
            · have hkn : e.segs.take k = e.segs := List.take_of_length_le (by have := HGN.out; omega)
              have HALG : Hid ((e.segs.all fun s => powB s.align) = true) := by
                have := HT.out
                rw [hkn] at this
                exact this
              have HAS : Hid (e.secs.all secB = true) := by
                refine List.all_eq_true.2 fun s hs => ?_
                have := List.all_eq_true.1 HALL.out s hs
                unfold secB2 at this
                simp only [Bool.and_eq_true] at this
                exact this.1
              have HM3 := Lib.hid (mayE_all HM2.out HAS.out HALG.out)
              have hz : (buildR (namesOf e.secs)).2.2 = 0 := (names_ok (by have := HEL.out; have := HL.out; omega)).2 (List.all_eq_true.2 fun s hs => by
                have := List.all_eq_true.1 HALL.out s hs
                unfold secB2 at this
                simp only [Bool.and_eq_true] at this
                exact this.2)
              have HPW : Hid (∀ s ∈ e.secs, powB s.align = true) := fun s hs => fineB_pow (by
                have := List.all_eq_true.1 HAS.out s hs
                unfold secB at this
                simp only [Bool.and_eq_true] at this
                exact this.1)
              have HPL := Lib.hid (ref4Places_any e L _ _ _ (HAT.out.mono HBW.out) (by have := HL.out; omega) (by have := HGN.out; omega) HPW.out HOK.out.fits.secs HOK.out.data)
              clear HT hkn
              go_wp2_with fail
              clear d0 d1 d2 d3 d4 d5
              refine HPL.out.mono ?_
              rintro r w2 ⟨v1, rfl, -, hb2⟩
              have HB2 := Lib.hid (HB.out.trans (hb2.mono HB.out.size))
              have HBW2 := Lib.hid (HB1.out.trans (HB2.out.mono HB1.out.size))
              clear hb2 HPL
              have HNA := Lib.hid (ref4Names_any e L _ _ _ (HAT.out.mono HBW2.out) (by have := HL.out; omega))
              obtain ⟨d0, d1, d2, d3, d4, d5⟩ := elf_box (heap_below HB2.out HX1.out)
              go_wp2_with fail
              clear d0 d1 d2 d3 d4 d5
              refine HNA.out.mono ?_
              rintro r w3 ⟨v2, rfl, ow2, hb3⟩
              have HB3 := Lib.hid (HB2.out.trans (hb3.mono HB2.out.size))
              have HBW3 := Lib.hid (HB1.out.trans (HB3.out.mono HB1.out.size))
              have HBU := Lib.hid (ref3Build_any (namesOf e.secs) v2 w3 (by rw [namesOf_len]; have h1 := HEL.out; have h2 := HL.out; omega) (fun s hs => by
                unfold namesOf at hs
                rw [List.mem_append, List.mem_map, List.mem_singleton] at hs
                rcases hs with ⟨x, hx, rfl⟩ | rfl
                · exact HOK.out.names _ hx
                · decide) ow2.rd)
              clear ow2 hb3 HNA
              go_wp2_with fail
              have HTL := Lib.hid (tabOf_len e)
              have HTD : Hid (tabOf e = (buildR (namesOf e.secs)).1) := rfl
              refine HBU.out.mono ?_
              rintro r w4 ⟨v3, v4, rfl, ob3, -, hb4⟩
              have HB4 := Lib.hid (HB3.out.trans (hb4.mono HB3.out.size))
              have HBW4 := Lib.hid (HB1.out.trans (HB4.out.mono HB1.out.size))
              obtain ⟨tn, ta, tc, htn, rfl, _, _⟩ := ob3.bs.shape
              rw [← HTD.out] at htn
              have htl : tn ≤ 40000 := by have h1 := HTL.out; have h2 := htn.out; have h3 := HEL.out; have h4 := HL.out; omega
              clear ob3 hb4 HBU
              have HM4 := Lib.hid (may3_yes hz htn.out)
              have hhl := headsOf_le (t := tn) HPW.out (by have := HEL.out; have := HL.out; omega) (by have := HGN.out; omega) HOK.out.data (by omega)
              have HFIN : Hid (mayE e = decide ((headsOf e tn : Int) + 64 * ((nl : Int) + 2) ≤ 4194304)) := by
                have h1 := HEL.out; have h2 := HL.out; rw [HM3.out, HM4.out, Bool.eq_iff_iff, decide_eq_true_iff, decide_eq_true_iff]
                constructor <;> intro h <;> omega
              have HU := Lib.hid (fun w => ref4Up_any ((placesOf e).2 + tn) 8 w (by omega) (by decide) (by decide))
              have HUD : Hid (upN ((placesOf e).2 + tn) 8 = headsOf e tn) := rfl
              rw [HUD.out] at HU
              rw [hz]
              have HXZ := Lib.hid hz
              clear hz HM3 HM4 HUD
              generalize headsOf e tn = hh at *
              generalize (placesOf e).2 = pe at *
              obtain ⟨hpe, hhl⟩ := hhl
              obtain ⟨d0, d1, d2, d3, d4, d5⟩ := elf_box (heap_below HB4.out HX1.out)
              have hAB := fun (x : Above w4) (b k : Nat) (h : b < w4.heap.size) => Above.cell x b k h
              have hblt : w.heap.size < w4.heap.size := block_lt d4
              go_wp2
              refine wp_region_walk 13 [(4, .is (.int .i64 (hh : Nat)))] (by kernel_rfl) (by kernel_rfl) ?_
              simp only [List.take_succ_cons, List.take_zero, List.drop_succ_cons, List.drop_zero]
              repeat (first
                | (refine walk_quiet rfl rfl rfl ?_; intro K hK; go_big_quiet_op; go_big_quiet_on)
                | (refine walk_is rfl rfl (fun wx hwx _ => WpYld.callIs (run_callL (vals := [.int .i64 ((pe : Int) + tn), .int .i64 8]) Try.func79 (by kernel_rfl) rfl rfl) (HU.out wx)) ?_; go_frame))
              refine walk_nil ?_
              intro wz hbz hF
              have HBZ := Lib.hid (HBW4.out.trans (hbz.mono HBW4.out.size))
              clear hF hbz
              go_wp2
              go_ret
              exact ⟨by rw [HFIN.out]; rfl, HBZ.out⟩
  · have HR := Lib.hid (mayE_1 (by simpa using h1))
    have hm1 : ((decide (e.typ = 1) || decide (e.typ = 2)) && !decide (mt = 0) && decide (nl ≤ 250) && decide (gn ≤ 16)) = false := by rw [← HM1.out]; simpa using h1
    have ht : ((e.typ != 1) = true ∧ (e.typ != 2) = true) ∨ ((e.typ != 1) = false ∨ ((e.typ != 1) = true ∧ (e.typ != 2) = false)) ∧ (((mt : Int) == 0) = true ∨ ((mt : Int) == 0) = false ∧ (250 < nl ∨ nl ≤ 250 ∧ 16 < gn)) := by
      by_cases t1 : e.typ = 1
      · refine .inr ⟨.inl (by rw [t1]; rfl), ?_⟩
        simp only [t1, decide_true, Bool.true_or, Bool.true_and, Bool.and_eq_false_iff, Bool.not_eq_false', decide_eq_true_eq, decide_eq_false_iff_not] at hm1
        rw [beq_iff_eq, beq_eq_false_iff_ne]
        omega
      · by_cases t2 : e.typ = 2
        · refine .inr ⟨.inr (by rw [t2]; exact ⟨rfl, rfl⟩), ?_⟩
          simp only [t2, decide_true, Bool.or_true, Bool.true_and, Bool.and_eq_false_iff, Bool.not_eq_false', decide_eq_true_eq, decide_eq_false_iff_not] at hm1
          rw [beq_iff_eq, beq_eq_false_iff_ne]
          omega
        · exact .inl ⟨by simpa using t1, by simpa using t2⟩
    have HX8 := Lib.hid h1
    clear h1 hm1 HM1
    rcases ht with ⟨ht1, ht2⟩ | ⟨ht1 | ⟨ht1, ht2⟩, hmt | ⟨hmt, hn | ⟨hn, hg⟩⟩⟩
    all_goals
      go_enter Try.func44, Try.ntmps44
      go_wp2_with (first
        | ((with_reducible show wpList _ _ _ (⟨_, .box _ _, _, _, _, _⟩ :: _) _ _); go_must (refine wpList_box rfl ?_; intro w1 hx1 hb1 hs1; obtain ⟨c0, c1, c2, c3, c4, c5⟩ := elf_box hx1))
        | (go_at_call 76; refine (HMC.out _).mono ?_; rintro r w2 ⟨rfl, rfl⟩))
      go_ret
      exact ⟨by rw [HR.out]; rfl, hb1⟩
end Go.Proofs.Ytgjoimcgiofinaa
namespace Go.Proofs.Ytgjoimcgiofinaa
open Go.RowKit Go.Fd
set_option maxRecDepth 100000 in
theorem ref4Put_any (l : List UInt8) (n s : Nat) (v : Value) (w : World) (base : Nat) (hl : l.length ≤ 1000000000) (hn : n < 18446744073709551616) (hs : s ≤ 8) (hv : OB w base v l) (hbase : base ≤ w.heap.size) :
    Calls Try.prog 81 #[v, .int .u64 n, .int .i64 s] w fun e w' => ∃ v', e = .returned v' ∧ OB w' base v' (l ++ fixed n s) ∧ Below base w w' ∧ Keeps 5 w w' := by
  have HV := Lib.hid hv
  have HL := Lib.hid hl
  clear hv
  go_enter Try.func81, Try.ntmps81
  go_wp2_with (first
    | (go_at_call 62; refine (fixed_any n s _ hn hs).mono ?_; rintro e w1 ⟨u, rfl, hu, hb1⟩; have HU := Lib.hid hu; have HB1 := Lib.hid hb1; have HV1 := Lib.hid (HV.out.mono hb1); clear hu hb1)
    | ((with_reducible show wpList _ _ _ (⟨some 11, _, _, _, _, _⟩ :: _) _ _); go_must (refine wpList_catB HV1.out HU.out.bs rfl rfl (by rw [length_fixed]; have := HL.out; omega) (Nat.le_trans hbase HB1.out.size) ?_; intro v2 w2 hv2 hg2 hb2)))
  go_ret
  exact ⟨_, rfl, hv2, (HB1.out.mono hbase).trans hb2, (keeps_below HB1.out).trans (keeps_own HV1.out hg2)⟩
set_option maxHeartbeats 1000000 in
set_option maxRecDepth 100000 in
theorem till_any (l : List UInt8) (d : Nat) (z : Int) (v : Value) (w : World) (base : Nat) (hl : l.length + d ≤ 1000000000) (hz : z = ((l.length + d : Nat) : Int)) (hv : OB w base v l) (hbase : base ≤ w.heap.size) :
    Calls Try.prog 80 #[v, .int .i64 z] w fun e w' => ∃ v', e = .returned v' ∧ OB w' base v' (l ++ List.replicate d 0) ∧ Below base w w' ∧ Keeps 5 w w' := by
  have HV := Lib.hid hv
  obtain ⟨m, hm⟩ : ∃ m, m = l.length := ⟨_, rfl⟩
  rw [← hm] at hl hz
  have HM := Lib.hid hm
  obtain ⟨z', hz'⟩ : ∃ z' : Nat, z' = m + d := ⟨_, rfl⟩
  rw [← hz'] at hz
  subst hz
  have HZ := Lib.hid hz'
  clear hv hm hz'
  go_enter Try.func80, Try.ntmps80
  go_wp2
  go_loopw [0] (fun x wr => ∃ (k : Nat) (ad : Option Addr) (cap : Nat), x = .slice ad (m + k) cap ∧ k ≤ d ∧ Hid (OB wr base (.slice ad (m + k) cap) (l ++ List.replicate k 0)) ∧ Hid (Below base w wr) ∧ Hid (Keeps 5 w wr)) (fun x _ => m + d - lenV x)
  case atStart =>
    obtain ⟨m', ad, cap, hm', rfl, _, _⟩ := HV.out.shape
    obtain rfl : m' = m := hm'.out.trans HM.out.symm
    exact ⟨0, ad, cap, rfl, Nat.zero_le _, by simpa [Hid] using HV.out, Below.refl _ _, Keeps.refl _ _⟩
  case round =>
    obtain ⟨k, ad, cap, rfl, hk, HO, HB, HK⟩ := hrel
    by_cases hlt : k < d
    · have hlt2 : m + k < z' := by have := HZ.out; omega
      have hb0 := Nat.le_trans hbase HB.out.size
      go_wp2_with (((with_reducible show wpList _ _ _ (⟨some 11, _, _, _, _, _⟩ :: _) _ _); go_must (refine wpList_pushB HO.out rfl rfl 0 rfl (by rw [List.length_append, List.length_replicate]; have := HM.out; omega) hb0 ?_; intro v1 w1 hv1 hg1 hb1)))
      obtain ⟨m1, ad1, cap1, hm1, rfl, _, _⟩ := hv1.shape
      obtain rfl : m1 = m + (k + 1) := by have h1 := hm1.out; rw [List.length_append, List.length_append, List.length_replicate] at h1; have h2 := HM.out; simp at h1; omega
      have G1 : Hid (OB w1 base (.slice ad1 (m + (k + 1)) cap1) (l ++ List.replicate (k + 1) 0)) := by
        show OB _ _ _ _
        rw [List.replicate_succ', ← List.append_assoc]; exact hv1
      have G2 := Lib.hid (HB.out.trans hb1)
      have G3 := Lib.hid (HK.out.trans (keeps_own HO.out hg1))
      clear hv1 hg1 hb1 hm1
      go_roundw
      case rel =>
        first
          | exact ⟨k + 1, ad1, cap1, rfl, by omega, G1.out, G2.out, G3.out⟩
          | ((repeat apply Exists.intro); exact ⟨⟨k + 1, ad1, cap1, rfl, by omega, G1.out, G2.out, G3.out⟩, rfl⟩)
      case measure => simp [lenV] <;> omega
    · obtain rfl : k = d := by omega
      have hlt2 : ¬ (m + k < z') := by have := HZ.out; omega
      go_wp2
      go_ret
      exact ⟨_, rfl, HO.out, HB.out, HK.out⟩
end Go.Proofs.Ytgjoimcgiofinaa
namespace Go.Proofs.Ytgjoimcgiofinaa
open Go.RowKit Go.Fd
set_option maxHeartbeats 4000000 in
set_option maxRecDepth 100000 in
theorem header_any (l : List UInt8) (name p : Nat) (s : SecM) (dv v : Value) (w : World) (base : Nat) (hl : l.length ≤ 100000000) (hname : name ≤ 4611686018427387904) (hp : p ≤ 4611686018427387904) (hf : s.fits) (_hdv : dv.oneCell' = true) (hv : OB w base v l) (hbase : base ≤ w.heap.size) :
    Calls Try.prog 82 #[v, .int .i64 name, secV (s, dv), .int .i64 p] w fun e w' => ∃ v', e = .returned v' ∧ OB w' base v' (l ++ hdrBy name s p) ∧ Below base w w' ∧ Keeps 5 w w' := by
  have HV := Lib.hid hv
  have HFS := Lib.hid hf
  obtain ⟨sname, typ, flags, addr, align, size, link, info, ent, data⟩ := s

  have hty : typ < 4294967296 := HFS.out.1
  have hli : link < 4294967296 := HFS.out.2.2.2.2.2.1
  have hin : info < 4294967296 := HFS.out.2.2.2.2.2.2.1
  have HL := Lib.hid hl
  clear hv hf hl
  go_enter Try.func82, Try.ntmps82
  go_wp2_with ((with_reducible show wpList _ _ _ (⟨_, .box _ _, _, _, _, _⟩ :: _) _ _); go_must (refine wpList_box rfl ?_; intro w1 hx1 hb1 hs1; obtain ⟨e0, e1, e2, e3, e4, e5, e6, e7, e8, e9⟩ := sec_box (x := (⟨sname, typ, flags, addr, align, size, link, info, ent, data⟩, dv)) hx1; have HX1 := Lib.hid hx1; have HV1 := Lib.hid (HV.out.mono hb1); have HB1 := Lib.hid (hb1.mono hbase); have HK1 := Lib.hid (keeps_below (e0 := 5) hb1); clear hb1 hx1))
  refine (ref4Put_any _ name 4 v w1 base (by have h1 := HL.out; omega) (by omega) (by decide) HV1.out (Nat.le_trans hbase HB1.out.size)).mono ?_
  rintro r w2 ⟨v2, rfl, ho, hb, hk⟩
  have HV2 := Lib.hid ho
  have HB2 := Lib.hid (HB1.out.trans hb)
  have HK2 := Lib.hid (HK1.out.trans hk)
  have HX2 := Lib.hid (hk _ _ _ _ (by decide) HX1.out)
  clear ho hb hk
  clear e0 e1 e2 e3 e4 e5 e6 e7 e8 e9
  obtain ⟨e0, e1, e2, e3, e4, e5, e6, e7, e8, e9⟩ := sec_box (x := (⟨sname, typ, flags, addr, align, size, link, info, ent, data⟩, dv)) HX2.out
  go_wp2_with fail
  refine (ref4Put_any _ typ 4 v2 w2 base (by have h1 := HL.out; simp only [List.length_append, length_fixed]; omega) (by omega) (by decide) HV2.out (Nat.le_trans hbase HB2.out.size)).mono ?_
  rintro r w3 ⟨v3, rfl, ho, hb, hk⟩
  have HV3 := Lib.hid ho
  have HB3 := Lib.hid (HB2.out.trans hb)
  have HK3 := Lib.hid (HK2.out.trans hk)
  have HX3 := Lib.hid (hk _ _ _ _ (by decide) HX2.out)
  clear ho hb hk
  clear e0 e1 e2 e3 e4 e5 e6 e7 e8 e9
  obtain ⟨e0, e1, e2, e3, e4, e5, e6, e7, e8, e9⟩ := sec_box (x := (⟨sname, typ, flags, addr, align, size, link, info, ent, data⟩, dv)) HX3.out
  go_wp2_with fail
  refine (ref4Put_any _ flags 8 v3 w3 base (by have h1 := HL.out; simp only [List.length_append, length_fixed]; omega) HFS.out.2.1 (by decide) HV3.out (Nat.le_trans hbase HB3.out.size)).mono ?_
  rintro r w4 ⟨v4, rfl, ho, hb, hk⟩
  have HV4 := Lib.hid ho
  have HB4 := Lib.hid (HB3.out.trans hb)
  have HK4 := Lib.hid (HK3.out.trans hk)
  have HX4 := Lib.hid (hk _ _ _ _ (by decide) HX3.out)
  clear ho hb hk
  clear e0 e1 e2 e3 e4 e5 e6 e7 e8 e9
  obtain ⟨e0, e1, e2, e3, e4, e5, e6, e7, e8, e9⟩ := sec_box (x := (⟨sname, typ, flags, addr, align, size, link, info, ent, data⟩, dv)) HX4.out
  go_wp2_with fail
  refine (ref4Put_any _ addr 8 v4 w4 base (by have h1 := HL.out; simp only [List.length_append, length_fixed]; omega) HFS.out.2.2.1 (by decide) HV4.out (Nat.le_trans hbase HB4.out.size)).mono ?_
  rintro r w5 ⟨v5, rfl, ho, hb, hk⟩
  have HV5 := Lib.hid ho
  have HB5 := Lib.hid (HB4.out.trans hb)
  have HK5 := Lib.hid (HK4.out.trans hk)
  have HX5 := Lib.hid (hk _ _ _ _ (by decide) HX4.out)
  clear ho hb hk
  clear e0 e1 e2 e3 e4 e5 e6 e7 e8 e9
  obtain ⟨e0, e1, e2, e3, e4, e5, e6, e7, e8, e9⟩ := sec_box (x := (⟨sname, typ, flags, addr, align, size, link, info, ent, data⟩, dv)) HX5.out
  go_wp2_with fail
  refine (ref4Put_any _ p 8 v5 w5 base (by have h1 := HL.out; simp only [List.length_append, length_fixed]; omega) (by omega) (by decide) HV5.out (Nat.le_trans hbase HB5.out.size)).mono ?_
  rintro r w6 ⟨v6, rfl, ho, hb, hk⟩
  have HV6 := Lib.hid ho
  have HB6 := Lib.hid (HB5.out.trans hb)
  have HK6 := Lib.hid (HK5.out.trans hk)
  have HX6 := Lib.hid (hk _ _ _ _ (by decide) HX5.out)
  clear ho hb hk
  clear e0 e1 e2 e3 e4 e5 e6 e7 e8 e9
  obtain ⟨e0, e1, e2, e3, e4, e5, e6, e7, e8, e9⟩ := sec_box (x := (⟨sname, typ, flags, addr, align, size, link, info, ent, data⟩, dv)) HX6.out
  go_wp2_with fail
  refine (ref4Put_any _ size 8 v6 w6 base (by have h1 := HL.out; simp only [List.length_append, length_fixed]; omega) HFS.out.2.2.2.2.1 (by decide) HV6.out (Nat.le_trans hbase HB6.out.size)).mono ?_
  rintro r w7 ⟨v7, rfl, ho, hb, hk⟩
  have HV7 := Lib.hid ho
  have HB7 := Lib.hid (HB6.out.trans hb)
  have HK7 := Lib.hid (HK6.out.trans hk)
  have HX7 := Lib.hid (hk _ _ _ _ (by decide) HX6.out)
  clear ho hb hk
  clear e0 e1 e2 e3 e4 e5 e6 e7 e8 e9
  obtain ⟨e0, e1, e2, e3, e4, e5, e6, e7, e8, e9⟩ := sec_box (x := (⟨sname, typ, flags, addr, align, size, link, info, ent, data⟩, dv)) HX7.out
  go_wp2_with fail
  refine (ref4Put_any _ link 4 v7 w7 base (by have h1 := HL.out; simp only [List.length_append, length_fixed]; omega) (by omega) (by decide) HV7.out (Nat.le_trans hbase HB7.out.size)).mono ?_
  rintro r w8 ⟨v8, rfl, ho, hb, hk⟩
  have HV8 := Lib.hid ho
  have HB8 := Lib.hid (HB7.out.trans hb)
  have HK8 := Lib.hid (HK7.out.trans hk)
  have HX8 := Lib.hid (hk _ _ _ _ (by decide) HX7.out)
  clear ho hb hk
  clear e0 e1 e2 e3 e4 e5 e6 e7 e8 e9
  obtain ⟨e0, e1, e2, e3, e4, e5, e6, e7, e8, e9⟩ := sec_box (x := (⟨sname, typ, flags, addr, align, size, link, info, ent, data⟩, dv)) HX8.out
  go_wp2_with fail
  refine (ref4Put_any _ info 4 v8 w8 base (by have h1 := HL.out; simp only [List.length_append, length_fixed]; omega) (by omega) (by decide) HV8.out (Nat.le_trans hbase HB8.out.size)).mono ?_
  rintro r w9 ⟨v9, rfl, ho, hb, hk⟩
  have HV9 := Lib.hid ho
  have HB9 := Lib.hid (HB8.out.trans hb)
  have HK9 := Lib.hid (HK8.out.trans hk)
  have HX9 := Lib.hid (hk _ _ _ _ (by decide) HX8.out)
  clear ho hb hk
  clear e0 e1 e2 e3 e4 e5 e6 e7 e8 e9
  obtain ⟨e0, e1, e2, e3, e4, e5, e6, e7, e8, e9⟩ := sec_box (x := (⟨sname, typ, flags, addr, align, size, link, info, ent, data⟩, dv)) HX9.out
  go_wp2_with fail
  refine (ref4Put_any _ align 8 v9 w9 base (by have h1 := HL.out; simp only [List.length_append, length_fixed]; omega) HFS.out.2.2.2.1 (by decide) HV9.out (Nat.le_trans hbase HB9.out.size)).mono ?_
  rintro r w10 ⟨v10, rfl, ho, hb, hk⟩
  have HV10 := Lib.hid ho
  have HB10 := Lib.hid (HB9.out.trans hb)
  have HK10 := Lib.hid (HK9.out.trans hk)
  have HX10 := Lib.hid (hk _ _ _ _ (by decide) HX9.out)
  clear ho hb hk
  clear e0 e1 e2 e3 e4 e5 e6 e7 e8 e9
  obtain ⟨e0, e1, e2, e3, e4, e5, e6, e7, e8, e9⟩ := sec_box (x := (⟨sname, typ, flags, addr, align, size, link, info, ent, data⟩, dv)) HX10.out
  go_wp2_with fail
  refine (ref4Put_any _ ent 8 v10 w10 base (by have h1 := HL.out; simp only [List.length_append, length_fixed]; omega) HFS.out.2.2.2.2.2.2.2 (by decide) HV10.out (Nat.le_trans hbase HB10.out.size)).mono ?_
  rintro r w11 ⟨v11, rfl, ho, hb, hk⟩
  have HV11 := Lib.hid ho
  have HB11 := Lib.hid (HB10.out.trans hb)
  have HK11 := Lib.hid (HK10.out.trans hk)
  have HX11 := Lib.hid (hk _ _ _ _ (by decide) HX10.out)
  clear ho hb hk
  go_wp2
  go_ret
  refine ⟨_, rfl, ?_, HB11.out, HK11.out⟩
  have := HV11.out
  unfold hdrBy putL
  simp only [List.append_assoc, List.flatMap_cons, List.flatMap_nil, List.append_nil] at this ⊢
  exact this
end Go.Proofs.Ytgjoimcgiofinaa
