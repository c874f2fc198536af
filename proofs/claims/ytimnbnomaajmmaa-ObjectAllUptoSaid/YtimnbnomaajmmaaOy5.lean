/-
  Part 5 of 7: laws and walks for objectAllUpto_holds; no condition of its own.
-/
import Derived.Test.YtimnbnomaajmmaaOy4
import Derived.OrdersHeld
namespace Go.Proofs.Ytimnbnomaajmmaa
open Go.RowKit Go.Fd
theorem build_one (s : List UInt8) : decide ((buildR [s]).2.2 = 0) = mayS s := by
  cases h : mayS s with
  | false =>
    rw [decide_eq_false_iff_not]
    unfold buildR
    rw [if_neg (by simp [h])]
    decide
  | true =>
    rw [decide_eq_true_iff]
    unfold buildR
    have h1 := (buildT_len [s] (fun x hx => by rw [List.mem_singleton] at hx; subst hx; exact mayS_len h)).1
    rw [List.length_singleton] at h1
    rw [if_pos (by simp [h]), if_neg (by omega)]
theorem named_may (s : List UInt8) : namedF s = (mayS s && !decide (s = []) && !decide (s = symtabN) && !decide (s = strtabN) && !decide (s = tabName) && !decide (s.take 5 = relaN)) := by
  unfold namedF
  rw [build_one]
theorem ext5 (s : List UInt8) : ((⟨s.toArray⟩ : ByteArray).extract 0 5).toList = s.take 5 := by
  rw [ByteArray.toList_eq]
  simp
theorem short5 {s : List UInt8} (h : s.length < 5) : ¬ s.take 5 = relaN := by
  intro e
  have := congrArg List.length e
  rw [List.length_take, show relaN.length = 5 from rfl] at this
  omega
set_option maxHeartbeats 2000000 in
set_option maxRecDepth 100000 in
theorem refPart_name (p : PartM) (dv rv av : Value) (A : List (PartM × Value × Value)) (w : World) (hv : RdR 6 encPart w av A) (hnl : p.name.length ≤ 9223372036854775807) (hn : namedF p.name = false) :
    Calls Try.prog 28 #[partV (p, dv, rv), av] w fun e w' => e = .returned (.int .i64 7) ∧ Below w.heap.size w w' := by
  obtain ⟨na, aa, ca, hna, rfl, hcap, _⟩ := hv.shape
  clear hv
  have HM := Lib.hid (fun w => ref3May_any p.name w hnl)
  have HN := Lib.hid ((named_may p.name).symm.trans hn)
  obtain ⟨name, flags, align, size, data, relas⟩ := p
  dsimp only at *
  generalize mayS name = mb at *
  clear hn
  go_enter Try.func28, Try.ntmps28
  go_wp2_with (first
    | ((with_reducible show wpList _ _ _ (⟨some 2, .box _ _, _, _, _, _⟩ :: _) _ _); go_must (refine wpList_box rfl ?_; intro w1 hx1 hb1 hs1; obtain ⟨c0, c1, c2, c3, c4, c5⟩ := part_box (x := (⟨name, flags, align, size, data, relas⟩, dv, rv)) hx1; have HX1 := Lib.hid hx1; have HB1 := Lib.hid hb1; clear hx1 hb1))
    | (go_at_call 61; refine (HM.out _).mono ?_; rintro e w2 ⟨rfl, rfl⟩))
  all_goals first
    | (go_ret; exact ⟨rfl, HB1.out⟩)
    | (exfalso; have hh := HN.out; simp_all [symtabN, strtabN, tabName, relaN, ext5]; done)
    | (exfalso; have hh := HN.out; have h5 := short5 (s := name) (by omega); simp_all [symtabN, strtabN, tabName]; done)
theorem part_cells {w wr : World} {a : Option Addr} {L : List (PartM × Value × Value)} {x : PartM × Value × Value} {k : Nat}
    (hc : ∀ i x, L[i]? = some x → 0 < 6 → ∃ b off, a = some ⟨b, off, none⟩ ∧ ∀ c, c < 6 → w.cell? ⟨b, off + (i * 6 + c), none⟩ = (encPart x)[c]?) (hb : Below w.heap.size w wr) (hk : L[k]? = some x) :
    ∃ b o, a = some ⟨b, o, none⟩ ∧ wr.cell? ⟨b, o + k * 6, none⟩ = some (.string ⟨x.1.name.toArray⟩) ∧ wr.cell? ⟨b, o + k * 6 + 1, none⟩ = some (.string ⟨x.1.flags.toArray⟩) ∧ wr.cell? ⟨b, o + k * 6 + 2, none⟩ = some (.int .i64 x.1.align) ∧ wr.cell? ⟨b, o + k * 6 + 3, none⟩ = some (.int .i64 x.1.size) ∧ wr.cell? ⟨b, o + k * 6 + 4, none⟩ = some x.2.1 ∧ wr.cell? ⟨b, o + k * 6 + 5, none⟩ = some x.2.2 ∧ b < w.heap.size := by
  obtain ⟨b, o, ha, hcc⟩ := hc k x hk (by decide)
  have hd : ∀ c v, (encPart x)[c]? = some v → wr.cell? ⟨b, o + k * 6 + c, none⟩ = some v := fun c v h => by
    have h6 : c < 6 := (List.getElem?_eq_some_iff.1 h).1
    have := (hcc c h6).trans h
    rw [← Nat.add_assoc] at this
    exact (hb.cell (block_lt this)).trans this
  have h0 : b < w.heap.size := block_lt ((hcc 0 (by decide)).trans rfl)
  exact ⟨b, o, ha, hd 0 _ rfl, hd 1 _ rfl, hd 2 _ rfl, hd 3 _ rfl, hd 4 _ rfl, hd 5 _ rfl, h0⟩
theorem named_facts {s : List UInt8} (h : namedF s = true) : mayS s = true ∧ s.isEmpty = false ∧ (s == [46, 115, 121, 109, 116, 97, 98]) = false ∧ (s == [46, 115, 116, 114, 116, 97, 98]) = false ∧ (s == [46, 115, 104, 115, 116, 114, 116, 97, 98]) = false ∧ (((⟨s.toArray⟩ : ByteArray).extract 0 5).toList == [46, 114, 101, 108, 97]) = false := by
  rw [named_may] at h
  simp only [Bool.and_eq_true, Bool.not_eq_true', decide_eq_false_iff_not] at h
  obtain ⟨⟨⟨⟨⟨h1, h2⟩, h3⟩, h4⟩, h5⟩, h6⟩ := h
  refine ⟨h1, by simpa using h2, beq_eq_false_iff_ne.2 h3, beq_eq_false_iff_ne.2 h4, beq_eq_false_iff_ne.2 h5, beq_eq_false_iff_ne.2 ?_⟩
  rw [ext5]
  exact h6
set_option maxHeartbeats 4000000 in
set_option maxRecDepth 100000 in
theorem refPart_ok (p : PartM) (dv0 rv av : Value) (A : List (PartM × Value × Value)) (w : World) (hd : Bs w dv0 p.data) (hv : RdR 6 encPart w av A) (hnl : p.name.length ≤ 9223372036854775807) (hfl : p.flags.length ≤ 9223372036854775807) (hcm : p.data.length ≤ 9223372036854775807) (hal : A.length ≤ 1000) (hn : namedF p.name = true) :
    Calls Try.prog 28 #[partV (p, dv0, rv), av] w fun e w' => e = .returned (.int .i64 (partE p (decide (p.name ∈ A.map (·.1.name))))) ∧ Below w.heap.size w w' := by
  obtain ⟨aa, ca, rfl, hcap, -, hc⟩ := hv.open (fun _ => rfl)
  have HC := Lib.hid hc
  obtain ⟨na, hna⟩ : ∃ n, n = A.length := ⟨_, rfl⟩
  rw [← hna] at hal hcap ⊢
  have HNA := Lib.hid hna
  obtain ⟨md, ad, cd, hmd, hdv, hmc, _⟩ := hd.shape
  clear hv hc hna hd
  have HM := Lib.hid (fun w => ref3May_any p.name w hnl)
  have HOR := Lib.hid (fun w => sorted17_any p.flags w hfl)
  have HHS := Lib.hid (fun w => refHas_any p.flags 110 w hfl)
  obtain ⟨f1, f2, f3, f4, f5, f6⟩ := named_facts hn
  rw [f1] at HM
  have HS : Hid (∀ there, partE p there = if namedF p.name = false then 7 else if there = true then 8 else if ordF p.flags lettersM = false then 15 else if pow2F p.align = false then 10 else if sizedF p = false then 1 else 0) := fun there => rfl
  rw [hn] at HS
  have HP2 : Hid (pow2F p.align = (decide (1 ≤ p.align) && decide (p.align ≤ 4096) && decide (p.align.toNat &&& (p.align.toNat - 1) = 0))) := rfl
  have HSZ : Hid (sizedF p = if hasF p.flags 110 = true then decide (0 ≤ p.size) && decide (p.size ≤ 1048576) && decide (md = 0) else decide (p.size = (md : Int))) := by
    have h1 := hmd.out
    have h2 : decide (p.data = []) = decide (md = 0) := by rw [Bool.eq_iff_iff, decide_eq_true_iff, decide_eq_true_iff, h1, List.length_eq_zero_iff]
    unfold sizedF
    rw [h2, h1]
    rfl
  have hmd9 : md ≤ 9223372036854775807 := by have := hmd.out; omega
  have HTH : Hid (∀ (k : Nat) (x : PartM × Value × Value), A[k]? = some x → x.1.name = p.name → decide (p.name ∈ A.map (·.1.name)) = true) := fun k x hx hq => decide_eq_true (List.mem_map.2 ⟨x, List.mem_of_getElem? hx, hq⟩)
  have HTN : Hid ((∀ (k : Nat) (x : PartM × Value × Value), k < na → A[k]? = some x → ¬ x.1.name = p.name) → decide (p.name ∈ A.map (·.1.name)) = false) := fun h => decide_eq_false fun hm => by
    obtain ⟨x, hx, hq⟩ := List.mem_map.1 hm
    obtain ⟨k, hk⟩ := List.getElem?_of_mem hx
    exact h k x (by have := (List.getElem?_eq_some_iff.1 hk).1; have := HNA.out; omega) hk hq
  generalize decide (p.name ∈ A.map (·.1.name)) = there at *
  have HQ : Hid (∃ q, q = partE p there) := ⟨_, rfl⟩
  have HS' := Lib.hid (HS.out there)
  clear HS
  generalize partE p there = q at *
  generalize sizedF p = b3 at *
  generalize hasF p.flags 110 = hf at *
  generalize ordF p.flags lettersM = b2 at *
  generalize pow2F p.align = b4 at *
  obtain ⟨name, flags, align, size, data, relas⟩ := p
  dsimp only at *
  subst hdv
  clear hn f1 HQ hnl hfl hcm hmd
  have h5 : ∀ h : name.length < 5, True := fun _ => trivial
  clear h5
  go_enter Try.func28, Try.ntmps28
  go_wp2_with (first
    | ((with_reducible show wpList _ _ _ (⟨some 2, .box _ _, _, _, _, _⟩ :: _) _ _); go_must (refine wpList_box rfl ?_; intro w1 hx1 hb1 hs1; obtain ⟨c0, c1, c2, c3, c4, c5⟩ := part_box (x := (⟨name, flags, align, size, data, relas⟩, Value.slice ad md cd, rv)) hx1; have HX1 := Lib.hid hx1; have HB1 := Lib.hid hb1; clear hx1 hb1))
    | (go_at_call 61; refine (HM.out _).mono ?_; rintro e w2 ⟨rfl, rfl⟩))
  all_goals (
    go_loopw [5] (fun i wr => ∃ k : Nat, i = .int .i64 k ∧ k ≤ na ∧ Hid (∀ (j : Nat) (x : PartM × Value × Value), j < k → A[j]? = some x → ¬ x.1.name = name) ∧ Hid (Below w1.heap.size w1 wr)) (fun i _ => na - (intOf i).toNat)
    case atStart => exact ⟨0, rfl, Nat.zero_le _, (fun j x h => by omega), Below.refl _ _⟩
    case round =>
      obtain ⟨k, rfl, hk, HNO, HW⟩ := hrel
      have HXr := Lib.hid (heap_below HW.out HX1.out)
      have HBr := Lib.hid (HB1.out.trans (HW.out.mono HB1.out.size))
      obtain ⟨d0, d1, d2, d3, d4, d5⟩ := part_box (x := (⟨name, flags, align, size, data, relas⟩, Value.slice ad md cd, rv)) HXr.out
      by_cases hlt : k < na
      · obtain ⟨x, hx⟩ : ∃ x, A[k]? = some x := ⟨_, List.getElem?_eq_getElem (by have := HNA.out; omega)⟩
        obtain ⟨b, o, rfl, e0, -, -, -, -, -, hb0⟩ := part_cells HC.out HBr.out hx
        have HX := Lib.hid hx
        have HIS := Lib.hid (fun hq : x.1.name = name => HTH.out k x hx hq)
        have HNE : Hid (¬ x.1.name = name → ∀ (j : Nat) (y : PartM × Value × Value), j < k + 1 → A[j]? = some y → ¬ y.1.name = name) := Lib.hid (fun hc j y hj hy => by
          by_cases e : j = k
          · subst e
            rw [hx, Option.some.injEq] at hy
            subst hy
            exact hc
          · exact HNO.out j y (by omega) hy)
        obtain ⟨⟨xn, xf, xa, xs, xd, xr⟩, xv, xu⟩ := x
        dsimp only at e0 HIS HNE
        clear hx
        by_cases hq : xn = name
        · have hqb : (xn == name) = true := by simpa using hq
          have HR := Lib.hid (show q = 8 by rw [HS'.out, HIS.out hq, if_neg (by simp), if_pos rfl])
          clear hq HIS HNE
          go_wp2
          go_quiet (fail)
          have HBd := Lib.hid (HBr.out.trans ((below_drewN (Below.refl _ wr) nq).mono HBr.out.size))
          generalize wr.drewN nq = wd at *
          go_wp2
          go_ret
          exact ⟨by rw [HR.out]; rfl, HBd.out⟩
        · have hqb : (xn == name) = false := by simpa using hq
          have HNX := Lib.hid (HNE.out hq)
          clear hq HIS HNE
          go_wp2
          go_quiet (fail)
          have HBd := Lib.hid (HW.out.trans ((below_drewN (Below.refl _ wr) nq).mono HW.out.size))
          generalize wr.drewN nq = wd at *
          go_wp2
          go_roundw
          case rel => exact ⟨k + 1, by go_num, by omega, HNX.out, HBd.out⟩
          case measure => simp [intOf] <;> omega
      · obtain rfl : k = na := by omega
        have HT := HTN.out HNO.out
        subst HT
        clear HTH HTN HNO
        cases b2 with
        | false =>
          go_wp2_with (first
            | (go_at_call 62; refine (HOR.out _).mono ?_; rintro e w3 ⟨rfl, hb3⟩; have HB3 := Lib.hid (HBr.out.trans (hb3.mono HBr.out.size)); have HX3 := Lib.hid (heap_below hb3 HXr.out); obtain ⟨d0, d1, d2, d3, d4, d5⟩ := part_box (x := (⟨name, flags, align, size, data, relas⟩, Value.slice ad md cd, rv)) HX3.out; clear hb3)
            | (go_at_call 47; refine (HHS.out _).mono ?_; rintro e w4 ⟨rfl, rfl⟩))
          go_ret
          exact ⟨by rw [HS'.out]; rfl, HB3.out⟩
        | true =>
          by_cases hlo : align < 1
          · have HR := Lib.hid (show b4 = false by rw [HP2.out, decide_eq_false (show ¬ 1 ≤ align by omega)]; rfl)
            clear HP2
            go_wp2_with (first
              | (go_at_call 62; refine (HOR.out _).mono ?_; rintro e w3 ⟨rfl, hb3⟩; have HB3 := Lib.hid (HBr.out.trans (hb3.mono HBr.out.size)); have HX3 := Lib.hid (heap_below hb3 HXr.out); obtain ⟨d0, d1, d2, d3, d4, d5⟩ := part_box (x := (⟨name, flags, align, size, data, relas⟩, Value.slice ad md cd, rv)) HX3.out; clear hb3)
              | (go_at_call 47; refine (HHS.out _).mono ?_; rintro e w4 ⟨rfl, rfl⟩))
            go_ret
            exact ⟨by rw [HS'.out, HR.out]; rfl, HB3.out⟩
          by_cases hhi : 4096 < align
          · have HR := Lib.hid (show b4 = false by rw [HP2.out, decide_eq_false (show ¬ align ≤ 4096 by omega)]; simp)
            clear HP2
            go_wp2_with (first
              | (go_at_call 62; refine (HOR.out _).mono ?_; rintro e w3 ⟨rfl, hb3⟩; have HB3 := Lib.hid (HBr.out.trans (hb3.mono HBr.out.size)); have HX3 := Lib.hid (heap_below hb3 HXr.out); obtain ⟨d0, d1, d2, d3, d4, d5⟩ := part_box (x := (⟨name, flags, align, size, data, relas⟩, Value.slice ad md cd, rv)) HX3.out; clear hb3)
              | (go_at_call 47; refine (HHS.out _).mono ?_; rintro e w4 ⟨rfl, rfl⟩))
            go_ret
            exact ⟨by rw [HS'.out, HR.out]; rfl, HB3.out⟩
          obtain ⟨m, rfl⟩ : ∃ m : Nat, align = (m : Int) := ⟨align.toNat, by omega⟩
          have HA := and_i64' (a := m) (by omega) (by omega)
          have HP3 : Hid (b4 = decide (m &&& (m - 1) = 0)) := by
            rw [HP2.out, decide_eq_true (show (1 : Int) ≤ (m : Int) by omega), decide_eq_true (show (m : Int) ≤ 4096 by omega)]
            rfl
          clear HP2
          generalize m &&& (m - 1) = z at *
          have hlo' : (1 : Int) ≤ (m : Int) := by omega
          have hhi' : (m : Int) ≤ 4096 := by omega
          have ht := (congrArg (fun x : Int => x != 0) HA).trans (show ((z : Int) != 0) = decide (z ≠ 0) by rw [Bool.eq_iff_iff]; simp)
          clear HA
          by_cases hz : z = 0
          · have HR := Lib.hid (show b4 = true by rw [HP3.out, decide_eq_true hz])
            simp only [hz, ne_eq, not_true_eq_false, not_false_eq_true, decide_true, decide_false] at ht
            clear HP3 hz
            cases hf with
            | true =>
              have HR2 := Lib.hid (show q = if (decide (0 ≤ size) && decide (size ≤ 1048576) && decide (md = 0)) = false then 1 else 0 by rw [HS'.out, HR.out, HSZ.out]; rfl)
              clear HS' HR HSZ
              go_wp2_with (first
                | (go_at_call 62; refine (HOR.out _).mono ?_; rintro e w3 ⟨rfl, hb3⟩; have HB3 := Lib.hid (HBr.out.trans (hb3.mono HBr.out.size)); have HX3 := Lib.hid (heap_below hb3 HXr.out); obtain ⟨d0, d1, d2, d3, d4, d5⟩ := part_box (x := (⟨name, flags, (m : Int), size, data, relas⟩, Value.slice ad md cd, rv)) HX3.out; clear hb3)
                | (go_at_call 47; refine (HHS.out _).mono ?_; rintro e w4 ⟨rfl, rfl⟩))
              all_goals go_ret
              all_goals refine ⟨?_, HB3.out⟩
              all_goals rw [HR2.out]
              all_goals refine ret1 (int_eq ?_)
              all_goals split
              all_goals simp_all
              all_goals omega
            | false =>
              have HR2 := Lib.hid (show q = if decide (size = (md : Int)) = false then 1 else 0 by rw [HS'.out, HR.out, HSZ.out]; rfl)
              clear HS' HR HSZ
              go_wp2_with (first
                | (go_at_call 62; refine (HOR.out _).mono ?_; rintro e w3 ⟨rfl, hb3⟩; have HB3 := Lib.hid (HBr.out.trans (hb3.mono HBr.out.size)); have HX3 := Lib.hid (heap_below hb3 HXr.out); obtain ⟨d0, d1, d2, d3, d4, d5⟩ := part_box (x := (⟨name, flags, (m : Int), size, data, relas⟩, Value.slice ad md cd, rv)) HX3.out; clear hb3)
                | (go_at_call 47; refine (HHS.out _).mono ?_; rintro e w4 ⟨rfl, rfl⟩))
              all_goals go_ret
              all_goals refine ⟨?_, HB3.out⟩
              all_goals rw [HR2.out]
              all_goals refine ret1 (int_eq ?_)
              all_goals split
              all_goals simp_all
              all_goals omega
          · have HR := Lib.hid (show b4 = false by rw [HP3.out, decide_eq_false hz])
            simp only [hz, ne_eq, not_true_eq_false, not_false_eq_true, decide_true, decide_false] at ht
            clear HP3
            have hzz := hz
            clear hz hzz
            go_wp2_with (first
              | (go_at_call 62; refine (HOR.out _).mono ?_; rintro e w3 ⟨rfl, hb3⟩; have HB3 := Lib.hid (HBr.out.trans (hb3.mono HBr.out.size)); have HX3 := Lib.hid (heap_below hb3 HXr.out); obtain ⟨d0, d1, d2, d3, d4, d5⟩ := part_box (x := (⟨name, flags, (m : Int), size, data, relas⟩, Value.slice ad md cd, rv)) HX3.out; clear hb3)
              | (go_at_call 47; refine (HHS.out _).mono ?_; rintro e w4 ⟨rfl, rfl⟩))
            go_ret
            exact ⟨by rw [HS'.out, HR.out]; rfl, HB3.out⟩)
end Go.Proofs.Ytimnbnomaajmmaa
namespace Go.Proofs.Ytimnbnomaajmmaa
open Go.RowKit Go.Fd
/-! ### Letters -/
/-- All lists that keep some of the letters, in their order. -/
def subsF : List UInt8 → List (List UInt8)
  | [] => [[]]
  | x :: ls => (subsF ls).map (x :: ·) ++ subsF ls
theorem ordF_subs : ∀ (ls fs : List UInt8), ordF fs ls = true → fs ∈ subsF ls := by
  intro ls
  induction ls with
  | nil =>
    intro fs h
    cases fs with
    | nil => simp [subsF]
    | cons c fs => simp [ordF] at h
  | cons x ls ih =>
    intro fs h
    cases fs with
    | nil => rw [subsF, List.mem_append]; exact .inr (ih [] (by cases ls <;> rfl))
    | cons c fs =>
      rw [ordF] at h
      rw [subsF, List.mem_append, List.mem_map]
      split at h
      · next e => exact .inl ⟨fs, ih fs h, by rw [e]⟩
      · exact .inr (ih _ h)
theorem text_bits {fs : List UInt8} (h : ordF fs lettersM = true) : textN (bitsN fs) (hasF fs 110) = fs := by
  have hall : ∀ fs ∈ subsF lettersM, textN (bitsN fs) (hasF fs 110) = fs := by decide
  exact hall fs (ordF_subs _ _ h)
theorem bits_lt (fs : List UInt8) : bitsN fs < 2048 := by
  unfold bitsN
  repeat' split
  all_goals omega
/-! ### What a part that may be is -/
theorem partE_0 {p : PartM} {b : Bool} (h : partE p b = 0) : namedF p.name = true ∧ b = false ∧ ordF p.flags lettersM = true ∧ pow2F p.align = true ∧ sizedF p = true := by
  unfold partE at h
  repeat' split at h
  all_goals first | omega | skip
  next h1 h2 h3 h4 h5 => exact ⟨by simpa using h1, by simpa using h2, by simpa using h3, by simpa using h4, by simpa using h5⟩
theorem partsE_0 : ∀ (ps : List PartM) (seen : List (List UInt8)), partsE ps seen = 0 → (∀ p ∈ ps, partE p false = 0) ∧ (ps.map (·.name)).Nodup ∧ ∀ p ∈ ps, p.name ∉ seen := by
  intro ps
  induction ps with
  | nil => intro seen _; simp
  | cons p ps ih =>
    intro seen h
    rw [partsE] at h
    split at h
    · next h0 =>
      obtain ⟨h1, h2, h3⟩ := ih _ h
      have hb := (partE_0 h0).2.1
      rw [decide_eq_false_iff_not] at hb
      refine ⟨fun q hq => ?_, ?_, fun q hq => ?_⟩
      · rcases List.mem_cons.1 hq with rfl | hq
        · rw [← h0]; congr 1; simp [hb]
        · exact h1 q hq
      · rw [List.map_cons, List.nodup_cons]
        refine ⟨fun hm => ?_, h2⟩
        obtain ⟨q, hq, he⟩ := List.mem_map.1 hm
        exact h3 q hq (by rw [he]; simp)
      · rcases List.mem_cons.1 hq with rfl | hq
        · exact hb
        · intro hs; exact h3 q hq (by simp [hs])
    · next h0 => exact absurd h h0
theorem pow2F_le {n : Int} (h : pow2F n = true) : 1 ≤ n ∧ n ≤ 4096 := by
  unfold pow2F at h
  simp only [Bool.and_eq_true, decide_eq_true_eq] at h
  exact h.1
theorem sizedF_le {p : PartM} (h : sizedF p = true) : 0 ≤ p.size ∧ (hasF p.flags 110 = true → p.size ≤ 1048576 ∧ p.data = []) ∧ (hasF p.flags 110 = false → p.size = (p.data.length : Int)) := by
  unfold sizedF at h
  split at h
  · next h0 =>
    simp only [Bool.and_eq_true, decide_eq_true_eq] at h
    exact ⟨h.1.1, fun _ => ⟨h.1.2, h.2⟩, fun e => by rw [h0] at e; cases e⟩
  · next h0 =>
    rw [decide_eq_true_eq] at h
    exact ⟨by omega, fun e => absurd e h0, fun _ => h⟩
/-! ### A section of a part tells the part -/
/-- What a module's numbers are at most. -/
structure ObjWf (o : ObjM) : Prop where
  target : -9223372036854775808 ≤ o.target ∧ o.target < 9223372036854775808
  nums : ∀ p ∈ o.parts, (-9223372036854775808 ≤ p.align ∧ p.align < 9223372036854775808) ∧ (-9223372036854775808 ≤ p.size ∧ p.size < 9223372036854775808) ∧ p.data.length < 4611686018427387904
  relas : ∀ p ∈ o.parts, p.relas.length ≤ 1000 ∧ ∀ x ∈ p.relas, x.off < 18446744073709551616 ∧ -9223372036854775808 ≤ x.add ∧ x.add < 9223372036854775808
  many : o.syms.length ≤ 1000
  syms : ∀ s ∈ o.syms, s.value < 18446744073709551616 ∧ s.size < 18446744073709551616
theorem wrap_u {x : Int} (h1 : 0 ≤ x) (h2 : x < 9223372036854775808) : wrap64 ((u64of x : Nat) : Int) = x := by
  rw [u64of_pos h1 (by omega), wrap64]; omega
theorem part_back {p : PartM} (h : partE p false = 0) (hd : p.data.length < 4611686018427387904) : partOf (secPart p) = { p with relas := [] } := by
  obtain ⟨h1, -, h3, h4, h5⟩ := partE_0 h
  have ha := pow2F_le h4
  have hs := sizedF_le h5
  unfold partOf secPart
  have hb : decide ((if hasF p.flags 110 = true then 8 else 1) = 8) = hasF p.flags 110 := by
    cases hasF p.flags 110 <;> simp
  have hsz : p.size < 9223372036854775808 := by
    cases hh : hasF p.flags 110 with
    | true => have := (hs.2.1 hh).1; omega
    | false => have := hs.2.2 hh; omega
  cases p
  dsimp only at *
  rw [hb, text_bits h3, wrap_u (by omega) (by omega), wrap_u hs.1 hsz]
theorem lkp_putN (A : List (List UInt8 × Nat)) (s : List UInt8) (n : Nat) (x : List UInt8) : lkp (putN A s n) x = if x = s then some n else lkp A x := by
  unfold putN
  split
  · next h =>
    induction A with
    | nil => simp at h
    | cons p A ih =>
      obtain ⟨q, m⟩ := p
      rw [List.map_cons]
      by_cases hq : q = s
      · subst hq
        rw [if_pos rfl, lkp_cons, lkp_cons]
        by_cases hx : x = q
        · rw [if_pos hx, if_pos hx]
        · rw [if_neg hx, if_neg hx, if_neg hx]
          -- behind it nothing that is looked for changes
          clear ih h
          induction A with
          | nil => rfl
          | cons r A ih =>
            obtain ⟨y, k⟩ := r
            rw [List.map_cons]
            dsimp only
            by_cases hy : y = q
            · subst hy; rw [if_pos rfl, lkp_cons, lkp_cons, if_neg hx, if_neg hx]; exact ih
            · rw [if_neg hy, lkp_cons, lkp_cons]
              split
              · rfl
              · exact ih
      · rw [if_neg hq, lkp_cons, lkp_cons]
        rw [List.map_cons, List.mem_cons] at h
        have h' := h.resolve_left (fun e => hq e.symm)
        rw [ih h']
        by_cases hx : x = q
        · rw [if_pos hx, if_neg (fun e => hq (hx ▸ e)), if_pos hx]
        · rw [if_neg hx, if_neg hx]
  · next h =>
    by_cases hx : x = s
    · subst hx
      rw [if_pos rfl]
      refine lkp_app ?_ n
      cases hl : lkp A x with
      | none => rfl
      | some v =>
        exfalso; apply h
        induction A with
        | nil => cases hl
        | cons r A ih =>
          obtain ⟨y, k⟩ := r
          rw [lkp_cons] at hl
          rw [List.map_cons, List.mem_cons]
          by_cases e : x = y
          · exact .inl e
          · rw [if_neg e] at hl
            rw [List.map_cons, List.mem_cons, not_or] at h
            exact .inr (ih h.2 hl)
    · rw [if_neg hx]; exact lkp_other hx _ _
theorem secPart_typ (p : PartM) : (secPart p).typ ≠ 4 := by unfold secPart; dsimp only; split <;> omega
/-! ### Sections of a module tell the module -/
def bareP (p : PartM) : PartM := { p with relas := [] }
theorem modP_parts : ∀ (ps qs : List PartM) (A : List (List UInt8 × Nat)) (R : List SecM), (∀ p ∈ ps, partE p false = 0 ∧ p.data.length < 4611686018427387904) → ((qs ++ ps).map (·.name)).Nodup → (∀ (j : Nat) (q : PartM), qs[j]? = some q → lkp A q.name = some j) →
    ∃ A', modP (ps.map secPart ++ R) qs A = modP R (qs ++ ps.map bareP) A' ∧ ∀ (j : Nat) (q : PartM), (qs ++ ps)[j]? = some q → lkp A' q.name = some j := by
  intro ps
  induction ps with
  | nil => intro qs A R _ _ h; exact ⟨A, by simp, by simpa using h⟩
  | cons p ps ih =>
    intro qs A R hp hn h
    have hb := part_back (hp p (by simp)).1 (hp p (by simp)).2
    have hnm : (bareP p).name = p.name := rfl
    have hmap : ((qs ++ [bareP p] ++ ps).map (·.name)) = ((qs ++ p :: ps).map (·.name)) := by simp [bareP]
    obtain ⟨A', e1, e2⟩ := ih (qs ++ [bareP p]) (putN A p.name qs.length) R (fun q hq => hp q (by simp [hq])) (by rw [hmap]; exact hn) (fun j q hj => by
      rw [lkp_putN]
      by_cases hlt : j < qs.length
      · rw [List.getElem?_append_left hlt] at hj
        have hne : q.name ≠ p.name := by
          intro e
          rw [List.map_append, List.nodup_append] at hn
          exact hn.2.2 q.name (List.mem_map.2 ⟨q, List.mem_of_getElem? hj, rfl⟩) p.name (by simp) e
        rw [if_neg hne]; exact h j q hj
      · rw [List.getElem?_append_right (by omega)] at hj
        have h0 : j - qs.length = 0 := by
          have := (List.getElem?_eq_some_iff.1 hj).1
          simp at this; omega
        rw [h0] at hj
        simp at hj
        rw [← hj, hnm, if_pos rfl]
        exact congrArg some (by omega))
    refine ⟨A', ?_, fun j q hj => ?_⟩
    · rw [List.map_cons, List.cons_append, modP, if_pos (secPart_typ p), show (secPart p).name = p.name from rfl, hb]
      rw [show ({ p with relas := [] } : PartM) = bareP p from rfl, e1]
      simp
    · by_cases hlt : j = qs.length
      · subst hlt
        rw [List.getElem?_append_right (by omega)] at hj
        simp at hj
        subst hj
        exact e2 qs.length (bareP p) (by simp)
      · refine e2 j q ?_
        rcases Nat.lt_or_ge j qs.length with hl | hl
        · rw [List.append_assoc, List.getElem?_append_left hl]; rwa [List.getElem?_append_left hl] at hj
        · rw [List.append_assoc, List.getElem?_append_right hl]
          rw [List.getElem?_append_right hl] at hj
          obtain ⟨m, hm⟩ : ∃ m, j - qs.length = m + 1 := ⟨j - qs.length - 1, by omega⟩
          rw [hm] at hj ⊢
          simpa using hj
theorem modR_parts : ∀ (ps qs : List PartM) (R : List SecM), (∀ p ∈ ps, partE p false = 0 ∧ p.data.length < 4611686018427387904) → modR (ps.map secPart ++ R) qs = modR R (qs ++ ps.map bareP) := by
  intro ps
  induction ps with
  | nil => intro qs R _; simp
  | cons p ps ih =>
    intro qs R hp
    have hb := part_back (hp p (by simp)).1 (hp p (by simp)).2
    rw [List.map_cons, List.cons_append, modR, if_pos (secPart_typ p), hb, ih _ _ (fun q hq => hp q (by simp [hq]))]
    rw [show ({ p with relas := [] } : PartM) = bareP p from rfl]
    simp
theorem trim_rel (n : List UInt8) : trimRel (relaN ++ n) = n := by
  unfold trimRel
  rw [if_pos (by simp [relaN])]
  simp [relaN]
theorem set_rel (qs ps : List PartM) (p : PartM) : setRel (qs ++ bareP p :: ps) qs.length p.relas = qs ++ p :: ps := by
  unfold setRel
  induction qs with
  | nil => simp [bareP]
  | cons q qs ih =>
    rw [List.cons_append, List.length_cons, List.modify_succ_cons, ih]
    rfl
theorem modP_rels (A : List (List UInt8 × Nat)) (st : Nat) : ∀ (ps qs : List PartM), (∀ p ∈ ps, relaRd (relaW p.relas).1 = (p.relas, 0)) → (∀ (j : Nat) (q : PartM), (qs ++ ps)[j]? = some q → lkp A q.name = some j) → modP (relSecs st qs.length ps) (qs ++ ps.map bareP) A = some (qs ++ ps) := by
  intro ps
  induction ps with
  | nil => intro qs _ _; simp [relSecs, modP]
  | cons p ps ih =>
    intro qs hr h
    have ih' := ih (qs ++ [p]) (fun q hq => hr q (by simp [hq])) (by simpa using h)
    rw [List.length_append, List.length_singleton, List.append_assoc, List.append_assoc] at ih'
    rw [relSecs, List.map_cons]
    by_cases hh : hasRel p = true
    · rw [if_pos hh, modP, if_neg (by simp [relSec])]
      have hl : lkp A (trimRel (relSec st qs.length p).name) = some qs.length := by
        show lkp A (trimRel (relaN ++ p.name)) = _
        rw [trim_rel]
        exact h qs.length p (by simp)
      rw [hl]
      dsimp only
      rw [show (relSec st qs.length p).data = (relaW p.relas).1 from rfl, hr p (by simp), if_neg (by simp), set_rel]
      exact ih'
    · rw [if_neg hh]
      have hb : bareP p = p := by
        unfold hasRel at hh
        simp at hh
        cases p; simp only [bareP, PartM.mk.injEq, true_and] at *; exact hh.symm
      rw [hb]
      exact ih'
theorem modR_rels (st : Nat) : ∀ (ps qs : List PartM), (∀ p ∈ ps, relaRd (relaW p.relas).1 = (p.relas, 0)) → modR (relSecs st qs.length ps) (qs ++ ps.map bareP) = some (qs ++ ps) := by
  intro ps
  induction ps with
  | nil => intro qs _; simp [relSecs, modR]
  | cons p ps ih =>
    intro qs hr
    have ih' := ih (qs ++ [p]) (fun q hq => hr q (by simp [hq]))
    rw [List.length_append, List.length_singleton, List.append_assoc, List.append_assoc] at ih'
    rw [relSecs, List.map_cons]
    by_cases hh : hasRel p = true
    · rw [if_pos hh, modR, if_neg (by simp [relSec])]
      rw [show (relSec st qs.length p).info = qs.length + 1 from rfl, if_neg (by simp)]
      rw [show (relSec st qs.length p).data = (relaW p.relas).1 from rfl, hr p (by simp), if_neg (by simp), show qs.length + 1 - 1 = qs.length from rfl, set_rel]
      exact ih'
    · rw [if_neg hh]
      have hb : bareP p = p := by
        unfold hasRel at hh
        simp at hh
        cases p; simp only [bareP, PartM.mk.injEq, true_and] at *; exact hh.symm
      rw [hb]
      exact ih'
end Go.Proofs.Ytimnbnomaajmmaa
namespace Go.Proofs.Ytimnbnomaajmmaa
open Go.RowKit Go.Fd
theorem elf0_ok : ElfOk elf0 := ⟨⟨by decide, by decide, by decide, by decide, (fun s hs => by cases hs), (fun s hs => by cases hs)⟩, by decide, (fun s hs => by cases hs), by decide, by decide⟩
end Go.Proofs.Ytimnbnomaajmmaa
namespace Go.Proofs.Ytimnbnomaajmmaa
open Go.RowKit Go.Fd
set_option maxRecDepth 100000 in
theorem ref4Put_any (l : List UInt8) (n s : Nat) (v : Value) (w : World) (base : Nat) (hl : l.length ≤ 1000000000) (hn : n < 18446744073709551616) (hs : s ≤ 8) (hv : OB w base v l) (hbase : base ≤ w.heap.size) :
    Calls Try.prog 56 #[v, .int .u64 n, .int .i64 s] w fun e w' => ∃ v', e = .returned v' ∧ OB w' base v' (l ++ fixed n s) ∧ Below base w w' ∧ Keeps 5 w w' := by
  have HV := Lib.hid hv
  have HL := Lib.hid hl
  clear hv
  go_enter Try.func56, Try.ntmps56
  go_wp2_with (first
    | (go_at_call 82; refine (fixed_any n s _ hn hs).mono ?_; rintro e w1 ⟨u, rfl, hu, hb1⟩; have HU := Lib.hid hu; have HB1 := Lib.hid hb1; have HV1 := Lib.hid (HV.out.mono hb1); clear hu hb1)
    | ((with_reducible show wpList _ _ _ (⟨some 11, _, _, _, _, _⟩ :: _) _ _); go_must (refine wpList_catB HV1.out HU.out.bs rfl rfl (by rw [length_fixed]; have := HL.out; omega) (Nat.le_trans hbase HB1.out.size) ?_; intro v2 w2 hv2 hg2 hb2)))
  go_ret
  exact ⟨_, rfl, hv2, (HB1.out.mono hbase).trans hb2, (keeps_below HB1.out).trans (keeps_own HV1.out hg2)⟩
set_option maxHeartbeats 1000000 in
set_option maxRecDepth 100000 in
theorem till_any (l : List UInt8) (d : Nat) (z : Int) (v : Value) (w : World) (base : Nat) (hl : l.length + d ≤ 1000000000) (hz : z = ((l.length + d : Nat) : Int)) (hv : OB w base v l) (hbase : base ≤ w.heap.size) :
    Calls Try.prog 55 #[v, .int .i64 z] w fun e w' => ∃ v', e = .returned v' ∧ OB w' base v' (l ++ List.replicate d 0) ∧ Below base w w' ∧ Keeps 5 w w' := by
  have HV := Lib.hid hv
  obtain ⟨m, hm⟩ : ∃ m, m = l.length := ⟨_, rfl⟩
  rw [← hm] at hl hz
  have HM := Lib.hid hm
  obtain ⟨z', hz'⟩ : ∃ z' : Nat, z' = m + d := ⟨_, rfl⟩
  rw [← hz'] at hz
  subst hz
  have HZ := Lib.hid hz'
  clear hv hm hz'
  go_enter Try.func55, Try.ntmps55
  go_wp2
  go_loopw [0] (fun x wr => ∃ (k : Nat) (ad : Option Addr) (cap : Nat), x = .slice ad (m + k) cap ∧ k ≤ d ∧ Hid (OB wr base (.slice ad (m + k) cap) (l ++ List.replicate k 0)) ∧ Hid (Below base w wr) ∧ Hid (Keeps 5 w wr)) (fun x _ => m + d - lenV x)
  case atStart =>
    obtain ⟨m', ad, cap, hm', rfl, _, _⟩ := HV.out.shape
    obtain rfl : m' = m := hm'.out.trans HM.out.symm
    exact ⟨0, ad, cap, rfl, Nat.zero_le _, by simpa [Hid] using HV.out, Below.refl _ _, Keeps.refl _ _⟩
  case round =>
    obtain ⟨k, ad, cap, rfl, hk, HO, HB, HK⟩ := hrel
    by_cases hlt : k < d
    · have hlt2 : m + k < z' := by have := HZ.out; omega
      have hb0 := Nat.le_trans hbase HB.out.size
      go_wp2_with (((with_reducible show wpList _ _ _ (⟨some 11, _, _, _, _, _⟩ :: _) _ _); go_must (refine wpList_pushB HO.out rfl rfl 0 rfl (by rw [List.length_append, List.length_replicate]; have := HM.out; omega) hb0 ?_; intro v1 w1 hv1 hg1 hb1)))
      obtain ⟨m1, ad1, cap1, hm1, rfl, _, _⟩ := hv1.shape
      obtain rfl : m1 = m + (k + 1) := by have h1 := hm1.out; rw [List.length_append, List.length_append, List.length_replicate] at h1; have h2 := HM.out; simp at h1; omega
      have G1 : Hid (OB w1 base (.slice ad1 (m + (k + 1)) cap1) (l ++ List.replicate (k + 1) 0)) := by
        show OB _ _ _ _
        rw [List.replicate_succ', ← List.append_assoc]; exact hv1
      have G2 := Lib.hid (HB.out.trans hb1)
      have G3 := Lib.hid (HK.out.trans (keeps_own HO.out hg1))
      clear hv1 hg1 hb1 hm1
      go_roundw
      case rel =>
        first
          | exact ⟨k + 1, ad1, cap1, rfl, by omega, G1.out, G2.out, G3.out⟩
          | ((repeat apply Exists.intro); exact ⟨⟨k + 1, ad1, cap1, rfl, by omega, G1.out, G2.out, G3.out⟩, rfl⟩)
      case measure => simp [lenV] <;> omega
    · obtain rfl : k = d := by omega
      have hlt2 : ¬ (m + k < z') := by have := HZ.out; omega
      go_wp2
      go_ret
      exact ⟨_, rfl, HO.out, HB.out, HK.out⟩
end Go.Proofs.Ytimnbnomaajmmaa
namespace Go.Proofs.Ytimnbnomaajmmaa
open Go.RowKit Go.Fd
set_option maxHeartbeats 4000000 in
set_option maxRecDepth 100000 in
theorem header_any (l : List UInt8) (name p : Nat) (s : SecM) (dv v : Value) (w : World) (base : Nat) (hl : l.length ≤ 100000000) (hname : name ≤ 4611686018427387904) (hp : p ≤ 4611686018427387904) (hf : s.fits) (_hdv : dv.oneCell' = true) (hv : OB w base v l) (hbase : base ≤ w.heap.size) :
    Calls Try.prog 57 #[v, .int .i64 name, secV (s, dv), .int .i64 p] w fun e w' => ∃ v', e = .returned v' ∧ OB w' base v' (l ++ hdrBy name s p) ∧ Below base w w' ∧ Keeps 5 w w' := by
  have HV := Lib.hid hv
  have HFS := Lib.hid hf
  obtain ⟨sname, typ, flags, addr, align, size, link, info, ent, data⟩ := s

  have hty : typ < 4294967296 := HFS.out.1
  have hli : link < 4294967296 := HFS.out.2.2.2.2.2.1
  have hin : info < 4294967296 := HFS.out.2.2.2.2.2.2.1
  have HL := Lib.hid hl
  clear hv hf hl
  go_enter Try.func57, Try.ntmps57
  go_wp2_with ((with_reducible show wpList _ _ _ (⟨_, .box _ _, _, _, _, _⟩ :: _) _ _); go_must (refine wpList_box rfl ?_; intro w1 hx1 hb1 hs1; obtain ⟨e0, e1, e2, e3, e4, e5, e6, e7, e8, e9⟩ := sec_box (x := (⟨sname, typ, flags, addr, align, size, link, info, ent, data⟩, dv)) hx1; have HX1 := Lib.hid hx1; have HV1 := Lib.hid (HV.out.mono hb1); have HB1 := Lib.hid (hb1.mono hbase); have HK1 := Lib.hid (keeps_below (e0 := 5) hb1); clear hb1 hx1))
  refine (ref4Put_any _ name 4 v w1 base (by have h1 := HL.out; omega) (by omega) (by decide) HV1.out (Nat.le_trans hbase HB1.out.size)).mono ?_
  rintro r w2 ⟨v2, rfl, ho, hb, hk⟩
  have HV2 := Lib.hid ho
  have HB2 := Lib.hid (HB1.out.trans hb)
  have HK2 := Lib.hid (HK1.out.trans hk)
  have HX2 := Lib.hid (hk _ _ _ _ (by decide) HX1.out)
  clear ho hb hk
  clear e0 e1 e2 e3 e4 e5 e6 e7 e8 e9
  obtain ⟨e0, e1, e2, e3, e4, e5, e6, e7, e8, e9⟩ := sec_box (x := (⟨sname, typ, flags, addr, align, size, link, info, ent, data⟩, dv)) HX2.out
  go_wp2_with fail
  refine (ref4Put_any _ typ 4 v2 w2 base (by have h1 := HL.out; simp only [List.length_append, length_fixed]; omega) (by omega) (by decide) HV2.out (Nat.le_trans hbase HB2.out.size)).mono ?_
  rintro r w3 ⟨v3, rfl, ho, hb, hk⟩
  have HV3 := Lib.hid ho
  have HB3 := Lib.hid (HB2.out.trans hb)
  have HK3 := Lib.hid (HK2.out.trans hk)
  have HX3 := Lib.hid (hk _ _ _ _ (by decide) HX2.out)
  clear ho hb hk
  clear e0 e1 e2 e3 e4 e5 e6 e7 e8 e9
  obtain ⟨e0, e1, e2, e3, e4, e5, e6, e7, e8, e9⟩ := sec_box (x := (⟨sname, typ, flags, addr, align, size, link, info, ent, data⟩, dv)) HX3.out
  go_wp2_with fail
  refine (ref4Put_any _ flags 8 v3 w3 base (by have h1 := HL.out; simp only [List.length_append, length_fixed]; omega) HFS.out.2.1 (by decide) HV3.out (Nat.le_trans hbase HB3.out.size)).mono ?_
  rintro r w4 ⟨v4, rfl, ho, hb, hk⟩
  have HV4 := Lib.hid ho
  have HB4 := Lib.hid (HB3.out.trans hb)
  have HK4 := Lib.hid (HK3.out.trans hk)
  have HX4 := Lib.hid (hk _ _ _ _ (by decide) HX3.out)
  clear ho hb hk
  clear e0 e1 e2 e3 e4 e5 e6 e7 e8 e9
  obtain ⟨e0, e1, e2, e3, e4, e5, e6, e7, e8, e9⟩ := sec_box (x := (⟨sname, typ, flags, addr, align, size, link, info, ent, data⟩, dv)) HX4.out
  go_wp2_with fail
  refine (ref4Put_any _ addr 8 v4 w4 base (by have h1 := HL.out; simp only [List.length_append, length_fixed]; omega) HFS.out.2.2.1 (by decide) HV4.out (Nat.le_trans hbase HB4.out.size)).mono ?_
  rintro r w5 ⟨v5, rfl, ho, hb, hk⟩
  have HV5 := Lib.hid ho
  have HB5 := Lib.hid (HB4.out.trans hb)
  have HK5 := Lib.hid (HK4.out.trans hk)
  have HX5 := Lib.hid (hk _ _ _ _ (by decide) HX4.out)
  clear ho hb hk
  clear e0 e1 e2 e3 e4 e5 e6 e7 e8 e9
  obtain ⟨e0, e1, e2, e3, e4, e5, e6, e7, e8, e9⟩ := sec_box (x := (⟨sname, typ, flags, addr, align, size, link, info, ent, data⟩, dv)) HX5.out
  go_wp2_with fail
  refine (ref4Put_any _ p 8 v5 w5 base (by have h1 := HL.out; simp only [List.length_append, length_fixed]; omega) (by omega) (by decide) HV5.out (Nat.le_trans hbase HB5.out.size)).mono ?_
  rintro r w6 ⟨v6, rfl, ho, hb, hk⟩
  have HV6 := Lib.hid ho
  have HB6 := Lib.hid (HB5.out.trans hb)
  have HK6 := Lib.hid (HK5.out.trans hk)
  have HX6 := Lib.hid (hk _ _ _ _ (by decide) HX5.out)
  clear ho hb hk
  clear e0 e1 e2 e3 e4 e5 e6 e7 e8 e9
  obtain ⟨e0, e1, e2, e3, e4, e5, e6, e7, e8, e9⟩ := sec_box (x := (⟨sname, typ, flags, addr, align, size, link, info, ent, data⟩, dv)) HX6.out
  go_wp2_with fail
  refine (ref4Put_any _ size 8 v6 w6 base (by have h1 := HL.out; simp only [List.length_append, length_fixed]; omega) HFS.out.2.2.2.2.1 (by decide) HV6.out (Nat.le_trans hbase HB6.out.size)).mono ?_
  rintro r w7 ⟨v7, rfl, ho, hb, hk⟩
  have HV7 := Lib.hid ho
  have HB7 := Lib.hid (HB6.out.trans hb)
  have HK7 := Lib.hid (HK6.out.trans hk)
  have HX7 := Lib.hid (hk _ _ _ _ (by decide) HX6.out)
  clear ho hb hk
  clear e0 e1 e2 e3 e4 e5 e6 e7 e8 e9
  obtain ⟨e0, e1, e2, e3, e4, e5, e6, e7, e8, e9⟩ := sec_box (x := (⟨sname, typ, flags, addr, align, size, link, info, ent, data⟩, dv)) HX7.out
  go_wp2_with fail
  refine (ref4Put_any _ link 4 v7 w7 base (by have h1 := HL.out; simp only [List.length_append, length_fixed]; omega) (by omega) (by decide) HV7.out (Nat.le_trans hbase HB7.out.size)).mono ?_
  rintro r w8 ⟨v8, rfl, ho, hb, hk⟩
  have HV8 := Lib.hid ho
  have HB8 := Lib.hid (HB7.out.trans hb)
  have HK8 := Lib.hid (HK7.out.trans hk)
  have HX8 := Lib.hid (hk _ _ _ _ (by decide) HX7.out)
  clear ho hb hk
  clear e0 e1 e2 e3 e4 e5 e6 e7 e8 e9
  obtain ⟨e0, e1, e2, e3, e4, e5, e6, e7, e8, e9⟩ := sec_box (x := (⟨sname, typ, flags, addr, align, size, link, info, ent, data⟩, dv)) HX8.out
  go_wp2_with fail
  refine (ref4Put_any _ info 4 v8 w8 base (by have h1 := HL.out; simp only [List.length_append, length_fixed]; omega) (by omega) (by decide) HV8.out (Nat.le_trans hbase HB8.out.size)).mono ?_
  rintro r w9 ⟨v9, rfl, ho, hb, hk⟩
  have HV9 := Lib.hid ho
  have HB9 := Lib.hid (HB8.out.trans hb)
  have HK9 := Lib.hid (HK8.out.trans hk)
  have HX9 := Lib.hid (hk _ _ _ _ (by decide) HX8.out)
  clear ho hb hk
  clear e0 e1 e2 e3 e4 e5 e6 e7 e8 e9
  obtain ⟨e0, e1, e2, e3, e4, e5, e6, e7, e8, e9⟩ := sec_box (x := (⟨sname, typ, flags, addr, align, size, link, info, ent, data⟩, dv)) HX9.out
  go_wp2_with fail
  refine (ref4Put_any _ align 8 v9 w9 base (by have h1 := HL.out; simp only [List.length_append, length_fixed]; omega) HFS.out.2.2.2.1 (by decide) HV9.out (Nat.le_trans hbase HB9.out.size)).mono ?_
  rintro r w10 ⟨v10, rfl, ho, hb, hk⟩
  have HV10 := Lib.hid ho
  have HB10 := Lib.hid (HB9.out.trans hb)
  have HK10 := Lib.hid (HK9.out.trans hk)
  have HX10 := Lib.hid (hk _ _ _ _ (by decide) HX9.out)
  clear ho hb hk
  clear e0 e1 e2 e3 e4 e5 e6 e7 e8 e9
  obtain ⟨e0, e1, e2, e3, e4, e5, e6, e7, e8, e9⟩ := sec_box (x := (⟨sname, typ, flags, addr, align, size, link, info, ent, data⟩, dv)) HX10.out
  go_wp2_with fail
  refine (ref4Put_any _ ent 8 v10 w10 base (by have h1 := HL.out; simp only [List.length_append, length_fixed]; omega) HFS.out.2.2.2.2.2.2.2 (by decide) HV10.out (Nat.le_trans hbase HB10.out.size)).mono ?_
  rintro r w11 ⟨v11, rfl, ho, hb, hk⟩
  have HV11 := Lib.hid ho
  have HB11 := Lib.hid (HB10.out.trans hb)
  have HK11 := Lib.hid (HK10.out.trans hk)
  have HX11 := Lib.hid (hk _ _ _ _ (by decide) HX10.out)
  clear ho hb hk
  go_wp2
  go_ret
  refine ⟨_, rfl, ?_, HB11.out, HK11.out⟩
  have := HV11.out
  unfold hdrBy putL
  simp only [List.append_assoc, List.flatMap_cons, List.flatMap_nil, List.append_nil] at this ⊢
  exact this
end Go.Proofs.Ytimnbnomaajmmaa
namespace Go.Proofs.Ytimnbnomaajmmaa
open Go.RowKit Go.Fd
def secB2 (s : SecM) : Bool := secB s && mayS s.name
theorem names_ok {e : ElfM} (hl : e.secs.length ≤ 250) : (buildR (namesOf e.secs)).2.2 = 0 ↔ (e.secs.all fun s => mayS s.name) = true := by
  have hall : (namesOf e.secs).all mayS = e.secs.all fun s => mayS s.name := by
    unfold namesOf
    rw [List.all_append, List.all_map]
    have : [tabName].all mayS = true := by decide
    rw [this, Bool.and_true]
    rfl
  constructor
  · intro h
    rw [← hall]
    exact (build_ok h).1
  · intro h
    rw [← hall] at h
    have hb := buildT_len (namesOf e.secs) (fun x hx => mayS_len (List.all_eq_true.1 h x hx))
    rw [namesOf_len] at hb
    unfold buildR
    rw [if_pos h, if_neg (by omega)]
theorem mayE_4 {e : ElfM} (h : e.secs.all secB2 = false) : mayE e = false := by
  rw [Bool.eq_false_iff]
  intro hm
  unfold mayE at hm
  simp only [Bool.and_eq_true] at hm
  obtain ⟨⟨h1, h2⟩, h3⟩ := hm
  have hl : e.secs.length ≤ 250 := by
    unfold may1 at h1
    simp only [Bool.and_eq_true, decide_eq_true_eq] at h1
    exact h1.1.2
  unfold may3 at h3
  simp only [Bool.and_eq_true, decide_eq_true_eq] at h3
  have h4 := (names_ok hl).1 h3.1
  unfold may2 at h2
  simp only [Bool.and_eq_true] at h2
  rw [Bool.eq_false_iff] at h
  apply h
  rw [List.all_eq_true]
  intro s hs
  have h5 := List.all_eq_true.1 h2.1 s hs
  have h6 := List.all_eq_true.1 h4 s hs
  unfold secB2 secB
  rw [h6]
  simpa using h5
set_option maxHeartbeats 4000000 in
set_option maxRecDepth 100000 in
theorem ref4May_any (e : ElfM) (L : List (SecM × Value)) (sv gv : Value) (w : World) (h : ElfAt w e L sv gv) (ho : ElfOk e) :
    Calls Try.prog 50 #[elfV e sv gv] w fun r w' => r = .returned (.bool (mayE e)) ∧ Below w.heap.size w w' := by
  obtain ⟨a, ca, rfl, hca, -, hc⟩ := h.rd.open (fun _ => rfl)
  obtain ⟨ga, gc, rfl, hgc, -, hcg⟩ := h.segs.open (fun _ => rfl)
  have HC := Lib.hid hc
  have HCG := Lib.hid hcg
  have HAT := Lib.hid h
  have HOK := Lib.hid ho
  have HD := Lib.hid h.data
  have HSE := Lib.hid (fun k x (hk : L[k]? = some x) => sec_of h.secs hk)
  have HEL := Lib.hid (show e.secs.length = L.length by rw [h.secs, List.length_map])
  obtain ⟨nl, hnl⟩ : ∃ n, n = L.length := ⟨_, rfl⟩
  obtain ⟨gn, hgn⟩ : ∃ n, n = e.segs.length := ⟨_, rfl⟩
  rw [← hnl] at hca HAT ⊢
  rw [← hgn] at hgc HAT ⊢
  have HL := Lib.hid hnl
  have HGN := Lib.hid hgn
  have hnl9 : nl ≤ 1000000000 := by have := HOK.out.secs; have := HEL.out; omega
  have hgn9 : gn ≤ 1000000000 := by have := HOK.out.segs; omega
  clear hc hcg h hnl hgn ho
  have HM1 : Hid (may1 e = ((decide (e.typ = 1) || decide (e.typ = 2)) && !decide (mach e.target = 0) && decide (nl ≤ 250) && decide (gn ≤ 16))) := by
    unfold may1
    rw [HEL.out, ← HL.out, ← HGN.out]
    exact rfl
  have HMC := Lib.hid (fun w => ref4Machine_any e.target w)
  have hmc := mach_le e.target
  generalize mach e.target = mt at *
  by_cases h1 : may1 e = true
  · have hm1 := h1
    rw [HM1.out] at hm1
    simp only [Bool.and_eq_true, Bool.or_eq_true, Bool.not_eq_true', decide_eq_true_eq, decide_eq_false_iff_not] at hm1
    obtain ⟨⟨⟨hty, hmt⟩, hn250⟩, hg16⟩ := hm1
    have ht : (e.typ != 1) = false ∨ ((e.typ != 1) = true ∧ (e.typ != 2) = false) := by
      rcases hty with h | h
      · exact .inl (by rw [h]; rfl)
      · exact .inr (by rw [h]; exact ⟨rfl, rfl⟩)
    have hmt0 : ((mt : Int) == 0) = false := by rw [beq_eq_false_iff_ne]; omega
    have HM2 := Lib.hid h1
    have HX9 := Lib.hid hmt
    clear h1 hty hmt HM1
    rcases ht with ht1 | ⟨ht1, ht2⟩
    all_goals
      go_enter Try.func50, Try.ntmps50
      go_wp2_with (first
        | ((with_reducible show wpList _ _ _ (⟨_, .box _ _, _, _, _, _⟩ :: _) _ _); go_must (refine wpList_box rfl ?_; intro w1 hx1 hb1 hs1; obtain ⟨c0, c1, c2, c3, c4, c5⟩ := elf_box hx1))
        | (go_at_call 27; refine (HMC.out _).mono ?_; rintro r w2 ⟨rfl, rfl⟩))
      have HX1 := Lib.hid hx1
      have HB1 := Lib.hid hb1
      clear c0 c1 c2 c3 c4 c5 hx1 hb1
      go_loopw [3] (fun i wr => ∃ k : Nat, i = .int .i64 k ∧ k ≤ nl ∧ Hid ((e.secs.take k).all secB2 = true) ∧ Hid (Below w1.heap.size w1 wr)) (fun i _ => nl - (intOf i).toNat)
      case atStart => exact ⟨0, rfl, Nat.zero_le _, rfl, Below.refl _ _⟩
      case round =>
        obtain ⟨k, rfl, hk, HT, HB⟩ := hrel
        have hbs := HB.out.size
        have HBW := Lib.hid (HB1.out.trans (HB.out.mono HB1.out.size))
        obtain ⟨d0, d1, d2, d3, d4, d5⟩ := elf_box (heap_below HB.out HX1.out)
        clear d0 d1 d2 d3
        by_cases hlt : k < nl
        · clear d5
          have X1 := Lib.hid (show L[k]? = some (L[k]'(by have := HL.out; omega)) from List.getElem?_eq_getElem _)
          generalize L[k]'(by have := HL.out; omega) = x at *
          obtain ⟨s, dv⟩ := x
          obtain ⟨dm, da, dc, hdm, rfl, _, _⟩ := (HD.out _ (List.mem_of_getElem? X1.out)).shape
          have X2 := Lib.hid (HSE.out _ _ X1.out)
          have hdl : dm ≤ 2147483648 := by
            have h1 := dsum_mem (List.mem_of_getElem? X2.out)
            have h2 := HOK.out.data
            have h3 := hdm.out
            dsimp only at h1 h3
            omega
          have HMA := Lib.hid (fun w => ref3May_any s.name w (HOK.out.names _ (List.mem_of_getElem? X2.out)))
          have HPO := Lib.hid (fun w => ref4Power_any s.align w (HOK.out.fits.secs _ (List.mem_of_getElem? X2.out)).2.2.2.1)
          obtain ⟨b1, o1, ha, c10, c11, c12, c13, c14, c15, c16, c17, c18, c19, -⟩ := sec_cells HC.out HBW.out X1.out
          subst ha
          have HSB : Hid (secB2 s = ((!decide (s.typ = 0) && powB s.align && !decide (s.name = []) && (if s.typ = 8 then decide (dm = 0) && decide (s.size ≤ 1073741824) else decide (s.size = dm))) && decide (dm ≤ 4194304) && mayS s.name)) := by unfold secB2 secB fineB; rw [hdm.out]; exact rfl
          have HGO := Lib.hid (fun hb : secB2 s = true => all_step (f := secB2) X2.out HT.out hb)
          have HNO := Lib.hid (fun hb : secB2 s = false => mayE_4 (e := e) (all_no (f := secB2) X2.out hb))
          obtain ⟨name, typ, flags, addr, align, size, link, info, ent, data⟩ := s
          dsimp only at *
          generalize powB align = pb at *
          generalize mayS name = ms at *
          generalize secB2 ⟨name, typ, flags, addr, align, size, link, info, ent, data⟩ = sb at *
          by_cases hn : name = []
          · have hne : name.isEmpty = true := by simp [hn]
            have HR := Lib.hid (HNO.out (by rw [HSB.out]; simp [hn]))
            have HX := Lib.hid hn
            clear HNO HGO HSB hn
            go_wp2_with (first
              | ((with_reducible show wpList _ _ _ (⟨none, .store _ _ _, _, _, _, _⟩ :: _) _ _); go_must (refine wpList_storeNew rfl rfl (by kernel_rfl) rfl (by simp [Value.oneCell']) ?_; intro w2 hh2 hb2; obtain ⟨e0, e1, e2, e3, e4, e5, e6, e7, e8, e9⟩ := sec_box (x := (⟨name, typ, flags, addr, align, size, link, info, ent, data⟩, .slice da dm dc)) hh2; have HB2 := Lib.hid (HB.out.trans (hb2.mono HB.out.size))))
              | (go_at_call 61; refine (HMA.out _).mono ?_; rintro r w4 ⟨rfl, rfl⟩)
              | (go_at_call 83; refine (HPO.out _).mono ?_; rintro r w5 ⟨rfl, rfl⟩))
            go_ret
            exact ⟨by rw [HR.out]; rfl, HB1.out.trans (HB2.out.mono HB1.out.size)⟩
          have hne : name.isEmpty = false := by simpa using hn
          have HXn := Lib.hid hn
          cases ms with
          | false =>
            have HR := Lib.hid (HNO.out (by rw [HSB.out]; simp))
            clear HNO HGO HSB hn
            go_wp2_with (first
              | ((with_reducible show wpList _ _ _ (⟨none, .store _ _ _, _, _, _, _⟩ :: _) _ _); go_must (refine wpList_storeNew rfl rfl (by kernel_rfl) rfl (by simp [Value.oneCell']) ?_; intro w2 hh2 hb2; obtain ⟨e0, e1, e2, e3, e4, e5, e6, e7, e8, e9⟩ := sec_box (x := (⟨name, typ, flags, addr, align, size, link, info, ent, data⟩, .slice da dm dc)) hh2; have HB2 := Lib.hid (HB.out.trans (hb2.mono HB.out.size))))
              | (go_at_call 61; refine (HMA.out _).mono ?_; rintro r w4 ⟨rfl, rfl⟩)
              | (go_at_call 83; refine (HPO.out _).mono ?_; rintro r w5 ⟨rfl, rfl⟩))
            go_ret
            exact ⟨by rw [HR.out]; rfl, HB1.out.trans (HB2.out.mono HB1.out.size)⟩
          | true =>
          cases pb with
          | false =>
            have HR := Lib.hid (HNO.out (by rw [HSB.out]; simp))
            clear HNO HGO HSB hn
            go_wp2_with (first
              | ((with_reducible show wpList _ _ _ (⟨none, .store _ _ _, _, _, _, _⟩ :: _) _ _); go_must (refine wpList_storeNew rfl rfl (by kernel_rfl) rfl (by simp [Value.oneCell']) ?_; intro w2 hh2 hb2; obtain ⟨e0, e1, e2, e3, e4, e5, e6, e7, e8, e9⟩ := sec_box (x := (⟨name, typ, flags, addr, align, size, link, info, ent, data⟩, .slice da dm dc)) hh2; have HB2 := Lib.hid (HB.out.trans (hb2.mono HB.out.size))))
              | (go_at_call 61; refine (HMA.out _).mono ?_; rintro r w4 ⟨rfl, rfl⟩)
              | (go_at_call 83; refine (HPO.out _).mono ?_; rintro r w5 ⟨rfl, rfl⟩))
            go_ret
            exact ⟨by rw [HR.out]; rfl, HB1.out.trans (HB2.out.mono HB1.out.size)⟩
          | true =>
          by_cases h0 : typ = 0
          · have h0' : ((typ : Int) == 0) = true := by rw [beq_iff_eq]; omega
            have HR := Lib.hid (HNO.out (by rw [HSB.out]; simp [h0]))
            have HX := Lib.hid h0
            clear HNO HGO HSB hn h0
            go_wp2_with (first
              | ((with_reducible show wpList _ _ _ (⟨none, .store _ _ _, _, _, _, _⟩ :: _) _ _); go_must (refine wpList_storeNew rfl rfl (by kernel_rfl) rfl (by simp [Value.oneCell']) ?_; intro w2 hh2 hb2; obtain ⟨e0, e1, e2, e3, e4, e5, e6, e7, e8, e9⟩ := sec_box (x := (⟨name, typ, flags, addr, align, size, link, info, ent, data⟩, .slice da dm dc)) hh2; have HB2 := Lib.hid (HB.out.trans (hb2.mono HB.out.size))))
              | (go_at_call 61; refine (HMA.out _).mono ?_; rintro r w4 ⟨rfl, rfl⟩)
              | (go_at_call 83; refine (HPO.out _).mono ?_; rintro r w5 ⟨rfl, rfl⟩))
            go_ret
            exact ⟨by rw [HR.out]; rfl, HB1.out.trans (HB2.out.mono HB1.out.size)⟩
          have h0' : ((typ : Int) == 0) = false := by rw [beq_eq_false_iff_ne]; omega
          have HSB1 : Hid (sb = ((if typ = 8 then decide (dm = 0) && decide (size ≤ 1073741824) else decide (size = dm)) && decide (dm ≤ 4194304))) := by rw [HSB.out, decide_eq_false h0, decide_eq_false hn]; simp [Hid]
          have HX0 := Lib.hid h0
          clear HSB h0 hn
          have hcase : (((typ : Int) == 8) = true ∧ ((typ : Int) != 8) = false ∧ ((dm : Int) != 0) = false ∧ ¬ (1073741824 : Int) < (size : Int) ∧ Hid (sb = decide (dm ≤ 4194304))) ∨ (((typ : Int) == 8) = false ∧ ((typ : Int) != 8) = true ∧ ((size : Int) != (dm : Int)) = false ∧ Hid (sb = decide (dm ≤ 4194304))) ∨
              (((typ : Int) == 8) = true ∧ ((typ : Int) != 8) = false ∧ ((dm : Int) != 0) = true ∧ Hid (sb = false)) ∨ (((typ : Int) == 8) = true ∧ ((typ : Int) != 8) = false ∧ ((dm : Int) != 0) = false ∧ (1073741824 : Int) < (size : Int) ∧ Hid (sb = false)) ∨ (((typ : Int) == 8) = false ∧ ((typ : Int) != 8) = true ∧ ((size : Int) != (dm : Int)) = true ∧ Hid (sb = false)) := by
            rw [beq_iff_eq, beq_eq_false_iff_ne, bne_iff_ne, bne_eq_false_iff_eq, bne_iff_ne, bne_eq_false_iff_eq, bne_iff_ne, bne_eq_false_iff_eq, HSB1.out]
            by_cases h8 : typ = 8
            · rw [if_pos h8]
              by_cases hm : dm = 0
              · by_cases hs : size ≤ 1073741824
                · exact .inl ⟨by omega, by omega, by omega, by omega, by rw [decide_eq_true hm, decide_eq_true hs]; exact rfl⟩
                · exact .inr (.inr (.inr (.inl ⟨by omega, by omega, by omega, by omega, by rw [decide_eq_false hs]; simp [Hid]⟩)))
              · exact .inr (.inr (.inl ⟨by omega, by omega, by omega, by rw [decide_eq_false hm]; simp [Hid]⟩))
            · rw [if_neg h8]
              by_cases hs : size = dm
              · exact .inr (.inl ⟨by omega, by omega, by omega, by rw [decide_eq_true hs]; exact rfl⟩)
              · exact .inr (.inr (.inr (.inr ⟨by omega, by omega, by omega, by rw [decide_eq_false hs]; exact rfl⟩)))
          clear HSB1
          rcases hcase with ⟨h8, h8', hm, hs, HSB⟩ | ⟨h8, h8', hm, HSB⟩ | ⟨h8, h8', hm, HSB⟩ | ⟨h8, h8', hm, hs, HSB⟩ | ⟨h8, h8', hm, HSB⟩
          case inr.inr.inl | inr.inr.inr.inl | inr.inr.inr.inr =>
            have HR := Lib.hid (HNO.out HSB.out)
            clear HNO HGO HSB
            go_wp2_with (first
              | ((with_reducible show wpList _ _ _ (⟨none, .store _ _ _, _, _, _, _⟩ :: _) _ _); go_must (refine wpList_storeNew rfl rfl (by kernel_rfl) rfl (by simp [Value.oneCell']) ?_; intro w2 hh2 hb2; obtain ⟨e0, e1, e2, e3, e4, e5, e6, e7, e8, e9⟩ := sec_box (x := (⟨name, typ, flags, addr, align, size, link, info, ent, data⟩, .slice da dm dc)) hh2; have HB2 := Lib.hid (HB.out.trans (hb2.mono HB.out.size))))
              | (go_at_call 61; refine (HMA.out _).mono ?_; rintro r w4 ⟨rfl, rfl⟩)
              | (go_at_call 83; refine (HPO.out _).mono ?_; rintro r w5 ⟨rfl, rfl⟩))
            go_ret
            exact ⟨by rw [HR.out]; rfl, HB1.out.trans (HB2.out.mono HB1.out.size)⟩
          all_goals
            by_cases hd4 : dm ≤ 4194304
            · have HT1 := Lib.hid (HGO.out (by rw [HSB.out, decide_eq_true hd4]))
              clear HNO HGO HSB
              go_wp2_with (first
                | ((with_reducible show wpList _ _ _ (⟨none, .store _ _ _, _, _, _, _⟩ :: _) _ _); go_must (refine wpList_storeNew rfl rfl (by kernel_rfl) rfl (by simp [Value.oneCell']) ?_; intro w2 hh2 hb2; obtain ⟨e0, e1, e2, e3, e4, e5, e6, e7, e8, e9⟩ := sec_box (x := (⟨name, typ, flags, addr, align, size, link, info, ent, data⟩, .slice da dm dc)) hh2; have HB2 := Lib.hid (HB.out.trans (hb2.mono HB.out.size))))
                | (go_at_call 61; refine (HMA.out _).mono ?_; rintro r w4 ⟨rfl, rfl⟩)
                | (go_at_call 83; refine (HPO.out _).mono ?_; rintro r w5 ⟨rfl, rfl⟩))
              go_roundw
              case rel =>
                first
                  | exact ⟨k + 1, by go_num, by omega, HT1.out, HB2.out⟩
                  | ((repeat apply Exists.intro); exact ⟨⟨k + 1, by go_num, by omega, HT1.out, HB2.out⟩, rfl⟩)
              case measure => simp [intOf] <;> omega
            · have HR := Lib.hid (HNO.out (by rw [HSB.out, decide_eq_false hd4]))
              clear HNO HGO HSB
              go_wp2_with (first
                | ((with_reducible show wpList _ _ _ (⟨none, .store _ _ _, _, _, _, _⟩ :: _) _ _); go_must (refine wpList_storeNew rfl rfl (by kernel_rfl) rfl (by simp [Value.oneCell']) ?_; intro w2 hh2 hb2; obtain ⟨e0, e1, e2, e3, e4, e5, e6, e7, e8, e9⟩ := sec_box (x := (⟨name, typ, flags, addr, align, size, link, info, ent, data⟩, .slice da dm dc)) hh2; have HB2 := Lib.hid (HB.out.trans (hb2.mono HB.out.size))))
                | (go_at_call 61; refine (HMA.out _).mono ?_; rintro r w4 ⟨rfl, rfl⟩)
                | (go_at_call 83; refine (HPO.out _).mono ?_; rintro r w5 ⟨rfl, rfl⟩))
              go_ret
              exact ⟨by rw [HR.out]; rfl, HB1.out.trans (HB2.out.mono HB1.out.size)⟩
        ·
          have hkn : e.secs.take k = e.secs := List.take_of_length_le (by have := HL.out; have := HEL.out; omega)
          have HALL : Hid (e.secs.all secB2 = true) := by
            have := HT.out
            rw [hkn] at this
            exact this
          have HBF := Lib.hid HB.out
          clear HT hkn
          go_wp2
          go_loopw [5] (fun i wx => ∃ k : Nat, i = .int .i64 k ∧ k ≤ gn ∧ Hid ((e.segs.take k).all (fun s => powB s.align) = true) ∧ Hid (Below w1.heap.size w1 wx)) (fun i _ => gn - (intOf i).toNat)
          case atStart => exact ⟨0, rfl, Nat.zero_le _, rfl, HBF.out⟩
          case round =>
            clear d4 d5
            obtain ⟨k, rfl, hk, HT, HB⟩ := hrel
            have hbs := HB.out.size
            have HBW := Lib.hid (HB1.out.trans (HB.out.mono HB1.out.size))
            obtain ⟨d0, d1, d2, d3, d4, d5⟩ := elf_box (heap_below HB.out HX1.out)
            by_cases hlt : k < gn
            · clear d0 d1 d2 d3 d4
              have X1 := Lib.hid (show e.segs[k]? = some (e.segs[k]'(by have := HGN.out; omega)) from List.getElem?_eq_getElem _)
              generalize e.segs[k]'(by have := HGN.out; omega) = x at *
              have HPO := Lib.hid (fun w => ref4Power_any x.align w (HOK.out.fits.segs _ (List.mem_of_getElem? X1.out)).2.2.2.2.2.2)
              have HGO := Lib.hid (fun hb : powB x.align = true => all_step (f := fun s : SegM => powB s.align) X1.out HT.out hb)
              have HNO := Lib.hid (fun hb : powB x.align = false => mayE_3 (all_no (f := fun s : SegM => powB s.align) X1.out hb))
              obtain ⟨b1, o1, ha, c10, c11, c12, c13, c14, c15, c16, -⟩ := seg_cells HCG.out HBW.out X1.out
              subst ha
              obtain ⟨typ, flags, off, vaddr, filesz, memsz, align⟩ := x
              dsimp only at *
              generalize powB align = pb at *
              cases pb with
              | false =>
                have HR := Lib.hid (HNO.out rfl)
                clear HNO HGO
                go_wp2_with (go_at_call 83; refine (HPO.out _).mono ?_; rintro r w4 ⟨rfl, rfl⟩)
                go_ret
                exact ⟨by rw [HR.out]; rfl, HBW.out⟩
              | true =>
                have HT1 := Lib.hid (HGO.out rfl)
                clear HNO HGO
                go_wp2_with (go_at_call 83; refine (HPO.out _).mono ?_; rintro r w4 ⟨rfl, rfl⟩)
                go_roundw
                case rel =>
                  first
                    | exact ⟨k + 1, by go_num, by omega, HT1.out, HB.out⟩
                    | ((repeat apply Exists.intro); exact ⟨⟨k + 1, by go_num, by omega, HT1.out, HB.out⟩, rfl⟩)
                case measure => simp [intOf] <;> omega
            · have hkn : e.segs.take k = e.segs := List.take_of_length_le (by have := HGN.out; omega)
              have HALG : Hid ((e.segs.all fun s => powB s.align) = true) := by
                have := HT.out
                rw [hkn] at this
                exact this
              have HAS : Hid (e.secs.all secB = true) := by
                refine List.all_eq_true.2 fun s hs => ?_
                have := List.all_eq_true.1 HALL.out s hs
                unfold secB2 at this
                simp only [Bool.and_eq_true] at this
                exact this.1
              have HM3 := Lib.hid (mayE_all HM2.out HAS.out HALG.out)
              have hz : (buildR (namesOf e.secs)).2.2 = 0 := (names_ok (by have := HEL.out; have := HL.out; omega)).2 (List.all_eq_true.2 fun s hs => by
                have := List.all_eq_true.1 HALL.out s hs
                unfold secB2 at this
                simp only [Bool.and_eq_true] at this
                exact this.2)
              have HPW : Hid (∀ s ∈ e.secs, powB s.align = true) := fun s hs => fineB_pow (by
                have := List.all_eq_true.1 HAS.out s hs
                unfold secB at this
                simp only [Bool.and_eq_true] at this
                exact this.1)
              have HPL := Lib.hid (ref4Places_any e L _ _ _ (HAT.out.mono HBW.out) (by have := HL.out; omega) (by have := HGN.out; omega) HPW.out HOK.out.fits.secs HOK.out.data)
              clear HT hkn
              go_wp2_with fail
              clear d0 d1 d2 d3 d4 d5
              refine HPL.out.mono ?_
              rintro r w2 ⟨v1, rfl, -, hb2⟩
              have HB2 := Lib.hid (HB.out.trans (hb2.mono HB.out.size))
              have HBW2 := Lib.hid (HB1.out.trans (HB2.out.mono HB1.out.size))
              clear hb2 HPL
              have HNA := Lib.hid (ref4Names_any e L _ _ _ (HAT.out.mono HBW2.out) (by have := HL.out; omega))
              obtain ⟨d0, d1, d2, d3, d4, d5⟩ := elf_box (heap_below HB2.out HX1.out)
              go_wp2_with fail
              clear d0 d1 d2 d3 d4 d5
              refine HNA.out.mono ?_
              rintro r w3 ⟨v2, rfl, ow2, hb3⟩
              have HB3 := Lib.hid (HB2.out.trans (hb3.mono HB2.out.size))
              have HBW3 := Lib.hid (HB1.out.trans (HB3.out.mono HB1.out.size))
              have HBU := Lib.hid (ref3Build_any (namesOf e.secs) v2 w3 (by rw [namesOf_len]; have h1 := HEL.out; have h2 := HL.out; omega) (fun s hs => by
                unfold namesOf at hs
                rw [List.mem_append, List.mem_map, List.mem_singleton] at hs
                rcases hs with ⟨x, hx, rfl⟩ | rfl
                · exact HOK.out.names _ hx
                · decide) ow2.rd)
              clear ow2 hb3 HNA
              go_wp2_with fail
              have HTL := Lib.hid (tabOf_len e)
              have HTD : Hid (tabOf e = (buildR (namesOf e.secs)).1) := rfl
              refine HBU.out.mono ?_
              rintro r w4 ⟨v3, v4, rfl, ob3, -, hb4⟩
              have HB4 := Lib.hid (HB3.out.trans (hb4.mono HB3.out.size))
              have HBW4 := Lib.hid (HB1.out.trans (HB4.out.mono HB1.out.size))
              obtain ⟨tn, ta, tc, htn, rfl, _, _⟩ := ob3.bs.shape
              rw [← HTD.out] at htn
              have htl : tn ≤ 40000 := by have h1 := HTL.out; have h2 := htn.out; have h3 := HEL.out; have h4 := HL.out; omega
              clear ob3 hb4 HBU
              have HM4 := Lib.hid (may3_yes hz htn.out)
              have hhl := headsOf_le (t := tn) HPW.out (by have := HEL.out; have := HL.out; omega) (by have := HGN.out; omega) HOK.out.data (by omega)
              have HFIN : Hid (mayE e = decide ((headsOf e tn : Int) + 64 * ((nl : Int) + 2) ≤ 4194304)) := by
                have h1 := HEL.out; have h2 := HL.out; rw [HM3.out, HM4.out, Bool.eq_iff_iff, decide_eq_true_iff, decide_eq_true_iff]
                constructor <;> intro h <;> omega
              have HU := Lib.hid (fun w => ref4Up_any ((placesOf e).2 + tn) 8 w (by omega) (by decide) (by decide))
              have HUD : Hid (upN ((placesOf e).2 + tn) 8 = headsOf e tn) := rfl
              rw [HUD.out] at HU
              rw [hz]
              have HXZ := Lib.hid hz
              clear hz HM3 HM4 HUD
              generalize headsOf e tn = hh at *
              generalize (placesOf e).2 = pe at *
              obtain ⟨hpe, hhl⟩ := hhl
              obtain ⟨d0, d1, d2, d3, d4, d5⟩ := elf_box (heap_below HB4.out HX1.out)
              have hAB := fun (x : Above w4) (b k : Nat) (h : b < w4.heap.size) => Above.cell x b k h
              have hblt : w.heap.size < w4.heap.size := block_lt d4
              go_wp2
              refine wp_region_walk 13 [(4, .is (.int .i64 (hh : Nat)))] (by kernel_rfl) (by kernel_rfl) ?_
              simp only [List.take_succ_cons, List.take_zero, List.drop_succ_cons, List.drop_zero]
              repeat (first
                | (refine walk_quiet rfl rfl rfl ?_; intro K hK; go_big_quiet_op; go_big_quiet_on)
                | (refine walk_is rfl rfl (fun wx hwx _ => WpYld.callIs (run_callL (vals := [.int .i64 ((pe : Int) + tn), .int .i64 8]) Try.func54 (by kernel_rfl) rfl rfl) (HU.out wx)) ?_; go_frame))
              refine walk_nil ?_
              intro wz hbz hF
              have HBZ := Lib.hid (HBW4.out.trans (hbz.mono HBW4.out.size))
              clear hF hbz
              go_wp2
              go_ret
              exact ⟨by rw [HFIN.out]; rfl, HBZ.out⟩
  · have HR := Lib.hid (mayE_1 (by simpa using h1))
    have hm1 : ((decide (e.typ = 1) || decide (e.typ = 2)) && !decide (mt = 0) && decide (nl ≤ 250) && decide (gn ≤ 16)) = false := by rw [← HM1.out]; simpa using h1
    have ht : ((e.typ != 1) = true ∧ (e.typ != 2) = true) ∨ ((e.typ != 1) = false ∨ ((e.typ != 1) = true ∧ (e.typ != 2) = false)) ∧ (((mt : Int) == 0) = true ∨ ((mt : Int) == 0) = false ∧ (250 < nl ∨ nl ≤ 250 ∧ 16 < gn)) := by
      by_cases t1 : e.typ = 1
      · refine .inr ⟨.inl (by rw [t1]; rfl), ?_⟩
        simp only [t1, decide_true, Bool.true_or, Bool.true_and, Bool.and_eq_false_iff, Bool.not_eq_false', decide_eq_true_eq, decide_eq_false_iff_not] at hm1
        rw [beq_iff_eq, beq_eq_false_iff_ne]
        omega
      · by_cases t2 : e.typ = 2
        · refine .inr ⟨.inr (by rw [t2]; exact ⟨rfl, rfl⟩), ?_⟩
          simp only [t2, decide_true, Bool.or_true, Bool.true_and, Bool.and_eq_false_iff, Bool.not_eq_false', decide_eq_true_eq, decide_eq_false_iff_not] at hm1
          rw [beq_iff_eq, beq_eq_false_iff_ne]
          omega
        · exact .inl ⟨by simpa using t1, by simpa using t2⟩
    have HX8 := Lib.hid h1
    clear h1 hm1 HM1
    rcases ht with ⟨ht1, ht2⟩ | ⟨ht1 | ⟨ht1, ht2⟩, hmt | ⟨hmt, hn | ⟨hn, hg⟩⟩⟩
    all_goals
      go_enter Try.func50, Try.ntmps50
      go_wp2_with (first
        | ((with_reducible show wpList _ _ _ (⟨_, .box _ _, _, _, _, _⟩ :: _) _ _); go_must (refine wpList_box rfl ?_; intro w1 hx1 hb1 hs1; obtain ⟨c0, c1, c2, c3, c4, c5⟩ := elf_box hx1))
        | (go_at_call 27; refine (HMC.out _).mono ?_; rintro r w2 ⟨rfl, rfl⟩))
      go_ret
      exact ⟨by rw [HR.out]; rfl, hb1⟩
end Go.Proofs.Ytimnbnomaajmmaa
namespace Go.Proofs.Ytimnbnomaajmmaa
open Go.RowKit Go.Fd
/-- append in a region that draws: bytes behind bytes. -/
theorem step_catB {ops : Array Oper} {o : Oper} {a : Act} {w : World} {K : Act → World → Prop} {Q : Exit → Act → World → Prop} {E : Prop}
    (hg : o.guard = none) (s x : Operand) (hop : o.op = Op.call { callee := Callee.builtin Builtin.append, args := #[s, x], argTypes := #[29, 29] })
    {base : Nat} {v u : Value} {l m : List UInt8} (hown : OB w base v l) (hy : Bs w u m) (hs : a.eval s = v) (hx : a.eval x = u) (hn : l.length + m.length ≤ 140737488355328) (hb : base ≤ w.heap.size)
    (hK : ∀ v' w', OB w' base v' (l ++ m) → w.grownBy w' v.ownBlock → K (a.put o.dst v') w') :
    if Region.wanted o (yielded ops a.tmps) = true then Oper.wp Try.prog o a w K Q else E := by
  have hw : Region.wanted o (yielded ops a.tmps) = true := by simp [Region.wanted, hg]
  rw [if_pos hw]
  obtain ⟨v', w', hrun, h6, h7⟩ := run_cat (ty := o.type) TB hown hy hn hb
  unfold Oper.wp
  simp [execOp, hop, resolve, invoke, builtin, hs, hx, hrun, Result.andThen]
  exact hK v' w' h6 h7
theorem ob_lit7 {w : World} {l : List UInt8} {cs : Array Value} {n : Nat} (hc : cs = (l.map B).toArray) (hn : n = l.length) (hl : l.length ≤ 1000000) : OB (w.alloc (.cells cs 5)) w.heap.size (.slice (some ⟨w.heap.size, 0, none⟩) n n) l := by
  subst hc hn
  exact ⟨by simp, .inr ⟨w.heap.size, l.length, _, rfl, Nat.le_refl _, heap_alloc_last w _, Nat.le_refl _, maxLen_of (by omega), by simp, by simp only [Nat.mul_one]; exact List.take_of_length_le (by simp)⟩⟩
theorem tabSec_fits {n : Nat} (h : n < 18446744073709551616) : (tabSec n).fits := by
  refine ⟨?_, ?_, ?_, ?_, h, ?_, ?_, ?_⟩
  all_goals (simp [tabSec])
theorem keep_h {w w' : World} {b : Nat} {cs : Array Value} {e : TypeId} {fr : Nat × Nat} (h : Keeps 5 w w') (he : e ≠ 5) (hb : w.heap[b]? = some (.cells cs e fr)) : w'.heap[b]? = some (.cells cs e fr) := h _ _ _ _ he hb
set_option maxHeartbeats 4000000 in
set_option maxRecDepth 100000 in
theorem ref4Write_any (e : ElfM) (L : List (SecM × Value)) (sv gv : Value) (w : World) (h : ElfAt w e L sv gv) (ho : ElfOk e) :
    Calls Try.prog 24 #[elfV e sv gv] w fun r w' => ∃ v, r = .returned (.tuple #[v, .int .i64 (fileW e).2]) ∧ OB w' w.heap.size v (fileW e).1 ∧ Below w.heap.size w w' := by
  obtain ⟨a, ca, rfl, hca, -, hc⟩ := h.rd.open (fun _ => rfl)
  obtain ⟨ga, gc, rfl, hgc, -, hcg⟩ := h.segs.open (fun _ => rfl)
  have HC := Lib.hid hc
  have HCG := Lib.hid hcg
  have HAT := Lib.hid h
  have HOK := Lib.hid ho
  have HD := Lib.hid h.data
  have HSE := Lib.hid (fun k x (hk : L[k]? = some x) => sec_of h.secs hk)
  have HEL := Lib.hid (show e.secs.length = L.length by rw [h.secs, List.length_map])
  obtain ⟨nl, hnl⟩ : ∃ n, n = L.length := ⟨_, rfl⟩
  obtain ⟨gn, hgn⟩ : ∃ n, n = e.segs.length := ⟨_, rfl⟩
  rw [← hnl] at hca HAT ⊢
  rw [← hgn] at hgc HAT ⊢
  have HL := Lib.hid hnl
  have HGN := Lib.hid hgn
  have HMY := Lib.hid (fun wx (hx : Below w.heap.size w wx) => ref4May_any e L _ _ wx (HAT.out.mono hx) HOK.out)
  clear hc hcg h hnl hgn ho
  cases hmy : mayE e with
  | false =>
    have HR := Lib.hid (fileW_no hmy)
    rw [hmy] at HMY
    clear hmy
    go_enter Try.func24, Try.ntmps24
    go_wp2_with (first
      | ((with_reducible show wpList _ _ _ (⟨_, .box _ _, _, _, _, _⟩ :: _) _ _); go_must (refine wpList_box rfl ?_; intro w1 hx1 hb1 hs1; obtain ⟨c0, c1, c2, c3, c4, c5⟩ := elf_box hx1)))
    refine (HMY.out _ hb1).mono ?_
    rintro r w2 ⟨rfl, hb2⟩
    go_wp2
    go_ret2
    exact ⟨_, by rw [HR.out]; rfl, by rw [HR.out]; exact OB.nil _ _, hb1.trans (hb2.mono hb1.size)⟩
  | true =>
    have HR := Lib.hid (fileW_ok hmy)
    have HK := Lib.hid (mayK hmy)
    rw [hmy] at HMY
    clear hmy
    have hnl2 : nl ≤ 250 := by have h1 := HK.out.secs; have h2 := HEL.out; have h3 := HL.out; omega
    have hgn2 : gn ≤ 16 := by have h1 := HK.out.segs; have h2 := HGN.out; omega
    go_enter Try.func24, Try.ntmps24
    go_wp2_with (first
      | ((with_reducible show wpList _ _ _ (⟨_, .box _ _, _, _, _, _⟩ :: _) _ _); go_must (refine wpList_box rfl ?_; intro w1 hx1 hb1 hs1; obtain ⟨c0, c1, c2, c3, c4, c5⟩ := elf_box hx1)))
    have HX1 := Lib.hid hx1
    have HB1 := Lib.hid hb1
    have hs1' := hs1
    clear hx1 hb1 c0 c1 c2 c3 c4 c5
    refine (HMY.out _ HB1.out).mono ?_
    rintro r w2 ⟨rfl, hb2⟩
    have HX2 := Lib.hid (heap_below hb2 HX1.out)
    have HB2 := Lib.hid (HB1.out.trans (hb2.mono HB1.out.size))
    have hs2 := hb2.size
    clear hb2 HMY
    obtain ⟨c0, c1, c2, c3, c4, c5⟩ := elf_box HX2.out
    have HPL := Lib.hid (ref4Places_any e L _ _ w2 (HAT.out.mono HB2.out) (by have := HL.out; omega) (by have := HGN.out; omega) HK.out.pow HOK.out.fits.secs HOK.out.data)
    obtain ⟨pe, hpe⟩ : ∃ pe, pe = (placesOf e).2 := ⟨_, rfl⟩
    rw [← hpe] at HPL
    have HPE := Lib.hid hpe
    clear hpe
    go_wp2_with fail
    clear c0 c1 c2 c3 c4 c5
    refine HPL.out.mono ?_
    rintro r w3 ⟨v3, rfl, ow3, hb3⟩
    obtain ⟨pa, pc, rfl, hpc, -, hpac⟩ := (show Rd I64 w3 v3 (placesOf e).1 from ow3.rd).open 0
    have HPC3 := Lib.hid hpac
    have hpl : (placesOf e).1.length = nl := by have h1 := plF_len (g := segsB e) (n := front e) e.secs; have h2 := HEL.out; have h3 := HL.out; exact h1.trans (by omega)
    rw [hpl] at hpc ⊢
    have HPLN := Lib.hid hpl
    have HX3 := Lib.hid (heap_below hb3 HX2.out)
    have HB3 := Lib.hid (HB2.out.trans (hb3.mono HB2.out.size))
    have hs3 := hb3.size
    clear ow3 hb3 hpac hpl HPL
    obtain ⟨c0, c1, c2, c3, c4, c5⟩ := elf_box HX3.out
    have HNA := Lib.hid (ref4Names_any e L _ _ w3 (HAT.out.mono HB3.out) (by have := HL.out; omega))
    go_wp2_with fail
    clear c0 c1 c2 c3 c4 c5
    refine HNA.out.mono ?_
    rintro r w4 ⟨v4, rfl, ow4, hb4⟩
    have HX4 := Lib.hid (heap_below hb4 HX3.out)
    have HB4 := Lib.hid (HB3.out.trans (hb4.mono HB3.out.size))
    have hs4 := hb4.size
    have HBU := Lib.hid (ref3Build_any (namesOf e.secs) v4 w4 (by rw [namesOf_len]; have h1 := HEL.out; have h2 := HL.out; omega) (fun s hs => by
      unfold namesOf at hs
      rw [List.mem_append, List.mem_map, List.mem_singleton] at hs
      rcases hs with ⟨x, hx, rfl⟩ | rfl
      · exact HOK.out.names _ hx
      · decide) ow4.rd)
    rw [HK.out.ok] at HBU
    have HB34 := Lib.hid hb4
    clear ow4 hb4 HNA
    go_wp2_with fail
    refine HBU.out.mono ?_
    rintro r w5 ⟨v1, v2, rfl, ob1, ow2, hb5⟩
    have OB1 := Lib.hid (show OB w5 w4.heap.size v1 (tabOf e) from ob1)
    have HX5 := Lib.hid (heap_below hb5 HX4.out)
    have HB5w := Lib.hid (HB4.out.trans (hb5.mono HB4.out.size))
    have hs5 := hb5.size
    obtain ⟨tn, ta, tc, htn, rfl, _, _⟩ := ob1.bs.shape
    replace htn : Hid (tn = (tabOf e).length) := htn
    obtain ⟨aa, ac, rfl, hac, -, haac⟩ := (show Rd I64 w5 v2 (atsOf e) from (show Ow I64 3 w5 w4.heap.size v2 (atsOf e) from ow2).rd).open 0
    have HAC := Lib.hid haac
    have HPC : Hid (∀ j, j < (placesOf e).1.length → ∃ b off, pa = some ⟨b, off, none⟩ ∧ w5.cell? ⟨b, off + j, none⟩ = some (I64 ((placesOf e).1[j]?.getD 0))) := fun j hj => by
      obtain ⟨b, off, h1, h2⟩ := HPC3.out j hj
      have h3 := (HB34.out.cell (block_lt h2)).trans h2
      exact ⟨b, off, h1, (hb5.cell (block_lt h3)).trans h3⟩
    obtain ⟨al, hal⟩ : ∃ al, al = (atsOf e).length := ⟨_, rfl⟩
    have HAK := Lib.hid (atsOf_len HK.out)
    have hal2 : al = nl + 1 := by have h1 := HAK.out.1; have h2 := HEL.out; have h3 := HL.out; omega
    rw [← hal] at hac ⊢
    have HALN := Lib.hid hal
    clear ob1 ow2 hb5 HBU haac hal HPC3 HB34
    subst hal2
    have htl : tn ≤ 40000 := by have h1 := tabOf_len e; have h2 := htn.out; have h3 := HEL.out; have h4 := HL.out; omega
    have hpe9 : pe ≤ 4194304 := by have h1 := HK.out.len; have h2 := heads_ge (e := e); have h3 := HPE.out; omega
    have HU := Lib.hid (fun w => ref4Up_any (pe + tn) 8 w (by omega) (by decide) (by decide))
    obtain ⟨hd, hhdd⟩ : ∃ hd, hd = headsOf e tn := ⟨_, rfl⟩
    have HUD : Hid (upN (pe + tn) 8 = hd) := by rw [hhdd, HPE.out]; exact rfl
    have HHD : Hid (hd = headsOf e (tabOf e).length) := by rw [hhdd, htn.out]; exact rfl
    have hhd : hd + 64 * (nl + 2) ≤ 4194304 := by have h1 := HK.out.len; have h2 := HHD.out; have h3 := HEL.out; have h4 := HL.out; omega
    have HGE := Lib.hid (show pe + tn ≤ hd ∧ hd < pe + tn + 8 by have h1 := heads_ge (e := e); have h2 := HHD.out; have h3 := htn.out; have h4 := HPE.out; omega)
    rw [HUD.out] at HU
    have HMC := Lib.hid (fun w => ref4Machine_any e.target w)
    have hml := mach_le e.target
    have hG5 : w.heap.size < w5.heap.size := by omega
    clear hhdd HUD
    obtain ⟨c0, c1, c2, c3, c4, c5⟩ := elf_box HX5.out
    go_wp2_with (go_at_call 54; refine (HU.out _).mono ?_; rintro r w9 ⟨rfl, rfl⟩)
    clear c0 c1 c2 c3 c4 c5
    have hwt := u64of_cast e.typ
    have hut := u64of_lt e.typ
    have HFT := Lib.hid HOK.out.fits.flags
    have HEN := Lib.hid HOK.out.fits.entry
    have hflg := HOK.out.fits.flags
    refine (till_any [127, 69, 76, 70, 2, 1, 1] 9 16 _ _ w5.heap.size (by decide) rfl (ob_lit7 rfl rfl (by decide)) (by rw [World.size_alloc]; omega)).mono ?_
    rintro r w6 ⟨v6, rfl, ho, hb, -⟩
    have HV6 := Lib.hid ho
    have HB6 := Lib.hid ((below_alloc w5 _).trans hb)
    clear ho hb
    have hmt2 : ∃ mt, mt = mach e.target := ⟨_, rfl⟩
    obtain ⟨mt, hmt2⟩ := hmt2
    have hut2 : ∃ ut, ut = u64of e.typ := ⟨_, rfl⟩
    obtain ⟨ut, hut2⟩ := hut2
    rw [← hmt2] at HMC hml
    rw [← hut2] at hwt hut
    have HMTT := Lib.hid hmt2.symm
    have HUTT := Lib.hid hut2.symm
    clear hmt2 hut2
    obtain ⟨c0, c1, c2, c3, c4, c5⟩ := elf_box (heap_base HB6.out HX5.out hG5)
    go_wp2_with fail
    clear c0 c1 c2 c3 c4 c5
    refine (ref4Put_any _ ut 2 v6 _ w5.heap.size (by simp only [List.length_append, List.length_replicate, List.length_cons, List.length_nil]; omega) hut (by decide) HV6.out HB6.out.size).mono ?_
    rintro r w7 ⟨v7, rfl, ho, hb, hk⟩
    have HV7 := Lib.hid ho
    have HB7 := Lib.hid (HB6.out.trans hb)
    clear ho hb hk
    obtain ⟨c0, c1, c2, c3, c4, c5⟩ := elf_box (heap_base HB7.out HX5.out hG5)
    go_wp2_with (first
      | (go_at_call 27; refine (HMC.out _).mono ?_; rintro r w99 ⟨rfl, rfl⟩))
    clear c0 c1 c2 c3 c4 c5
    refine (ref4Put_any _ mt 2 v7 _ w5.heap.size (by simp only [List.length_append, length_fixed, List.length_replicate, List.length_cons, List.length_nil]; omega) (by omega) (by decide) HV7.out HB7.out.size).mono ?_
    rintro r w8 ⟨v8, rfl, ho, hb, hk⟩
    have HV8 := Lib.hid ho
    have HB8 := Lib.hid (HB7.out.trans hb)
    clear ho hb hk
    obtain ⟨c0, c1, c2, c3, c4, c5⟩ := elf_box (heap_base HB8.out HX5.out hG5)
    go_wp2_with fail
    clear c0 c1 c2 c3 c4 c5
    refine (ref4Put_any _ 1 4 v8 _ w5.heap.size (by simp only [List.length_append, length_fixed, List.length_replicate, List.length_cons, List.length_nil]; omega) (by decide) (by decide) HV8.out HB8.out.size).mono ?_
    rintro r w9 ⟨v9, rfl, ho, hb, hk⟩
    have HV9 := Lib.hid ho
    have HB9 := Lib.hid (HB8.out.trans hb)
    clear ho hb hk
    obtain ⟨c0, c1, c2, c3, c4, c5⟩ := elf_box (heap_base HB9.out HX5.out hG5)
    go_wp2_with fail
    clear c0 c1 c2 c3 c4 c5
    refine (ref4Put_any _ e.entry 8 v9 _ w5.heap.size (by simp only [List.length_append, length_fixed, List.length_replicate, List.length_cons, List.length_nil]; omega) HEN.out (by decide) HV9.out HB9.out.size).mono ?_
    rintro r w10 ⟨v10, rfl, ho, hb, hk⟩
    have HV10 := Lib.hid ho
    have HB10 := Lib.hid (HB9.out.trans hb)
    clear ho hb hk
    obtain ⟨c0, c1, c2, c3, c4, c5⟩ := elf_box (heap_base HB10.out HX5.out hG5)
    have hdec : (0 < gn) ∨ ¬ (0 < gn) := Classical.em _
    rcases hdec with hgs | hgs
    · go_wp2_with fail
      clear c0 c1 c2 c3 c4 c5
      refine (ref4Put_any _ 64 8 v10 _ w5.heap.size (by simp only [List.length_append, length_fixed, List.length_replicate, List.length_cons, List.length_nil]; omega) (by decide) (by decide) HV10.out HB10.out.size).mono ?_
      rintro r w11 ⟨v11, rfl, ho, hb, hk⟩
      have HV11 := Lib.hid ho
      have HB11 := Lib.hid (HB10.out.trans hb)
      clear ho hb hk
      obtain ⟨c0, c1, c2, c3, c4, c5⟩ := elf_box (heap_base HB11.out HX5.out hG5)
      go_wp2_with fail
      clear c0 c1 c2 c3 c4 c5
      refine (ref4Put_any _ hd 8 v11 _ w5.heap.size (by simp only [List.length_append, length_fixed, List.length_replicate, List.length_cons, List.length_nil]; omega) (by omega) (by decide) HV11.out HB11.out.size).mono ?_
      rintro r w12 ⟨v12, rfl, ho, hb, hk⟩
      have HV12 := Lib.hid ho
      have HB12 := Lib.hid (HB11.out.trans hb)
      clear ho hb hk
      obtain ⟨c0, c1, c2, c3, c4, c5⟩ := elf_box (heap_base HB12.out HX5.out hG5)
      go_wp2_with fail
      clear c0 c1 c2 c3 c4 c5
      refine (ref4Put_any _ e.flags 4 v12 _ w5.heap.size (by simp only [List.length_append, length_fixed, List.length_replicate, List.length_cons, List.length_nil]; omega) (by omega) (by decide) HV12.out HB12.out.size).mono ?_
      rintro r w13 ⟨v13, rfl, ho, hb, hk⟩
      have HV13 := Lib.hid ho
      have HB13 := Lib.hid (HB12.out.trans hb)
      clear ho hb hk
      obtain ⟨c0, c1, c2, c3, c4, c5⟩ := elf_box (heap_base HB13.out HX5.out hG5)
      have HF13 := Lib.hid (show OB w13 w5.heap.size v13 ([127, 69, 76, 70, 2, 1, 1] ++ List.replicate 9 0 ++ putL 2 [ut, mt] ++ putL 4 [1] ++ putL 8 [e.entry, 64, hd] ++ putL 4 [e.flags]) by
        have := HV13.out
        unfold putL
        simp only [List.append_assoc, List.flatMap_cons, List.flatMap_nil, List.append_nil] at this ⊢
        exact this)
      have hT0 : ∃ T, T = [127, 69, 76, 70, 2, 1, 1] ++ List.replicate 9 0 ++ putL 2 [ut, mt] ++ putL 4 [1] ++ putL 8 [e.entry, 64, hd] ++ putL 4 [e.flags] := ⟨_, rfl⟩
      obtain ⟨T0, hT0⟩ := hT0
      rw [← hT0] at HF13
      have HLT0 := Lib.hid (show T0.length = 52 by rw [hT0]; simp only [List.length_append, putL_len, List.length_replicate]; rfl)
      have HHB := Lib.hid (show headB e hd = T0 ++ putL 2 [64, 56, gn, 64, nl + 2, nl + 1] by
        rw [hT0]
        unfold headB segsB
        rw [show e.secs.length = nl by have h1 := HEL.out; have h2 := HL.out; omega, ← HGN.out, decide_eq_true hgs, HMTT.out, HUTT.out]
        rfl)
      clear hT0 HV13
      obtain ⟨sm, hsm⟩ : ∃ sm, sm = [64, 56, gn, 64, nl + 2, nl + 1] := ⟨_, rfl⟩
      rw [← hsm] at HHB
      have HSB := Lib.hid (show ∀ n ∈ sm, n ≤ 1000 by intro n hn; rw [hsm] at hn; simp only [List.mem_cons, List.not_mem_nil, or_false] at hn; omega)
      have HSL := Lib.hid (show sm.length = 6 by rw [hsm]; rfl)
      have HSA := Lib.hid (fun (w : World) => (show (w.alloc (.cells #[.int .i64 64, .int .i64 56, .int .i64 gn, .int .i64 64, .int .i64 ((nl : Int) + 2), .int .i64 ((nl : Int) + 1)] 3)).heap[w.heap.size]? = some (.cells (sm.map I64).toArray 3 (0, 0)) by rw [hsm]; exact heap_alloc_last w _))
      have hvs : ∃ m ad cap, v13 = .slice ad m cap := by obtain ⟨m, ad, cap, -, h, -⟩ := HF13.out.shape; exact ⟨m, ad, cap, h⟩
      obtain ⟨mv, av, cv, rfl⟩ := hvs
      clear hsm
      go_wp2
      have HS14 := Lib.hid (HSA.out w13)
      go_loopw [11, 13] (fun x i wr => ∃ k : Nat, i = .int .i64 k ∧ k ≤ 6 ∧ Hid (OB wr w5.heap.size x (T0 ++ putL 2 (sm.take k))) ∧ Hid (Below w5.heap.size w5 wr) ∧ Hid (wr.heap[w13.heap.size]? = some (.cells (sm.map I64).toArray 3 (0, 0)))) (fun _ i _ => 6 - (intOf i).toNat)
      case atStart => exact ⟨0, rfl, by omega, by have := HF13.out.mono (below_alloc w13 (.cells #[.int .i64 64, .int .i64 56, .int .i64 gn, .int .i64 64, .int .i64 ((nl : Int) + 2), .int .i64 ((nl : Int) + 1)] 3)); simpa [Hid, putL] using this, HB13.out.trans ((below_alloc w13 _).mono HB13.out.size), HS14.out⟩
      case round =>
        clear c0 c1 c2 c3 c4 c5
        obtain ⟨k, rfl, hk, HO, HB, HS⟩ := hrel
        by_cases hlt : k < 6
        · have X1 := Lib.hid (show sm[k]? = some (sm[k]'(by have := HSL.out; omega)) from List.getElem?_eq_getElem _)
          generalize sm[k]'(by have := HSL.out; omega) = n at *
          have hn1 := HSB.out n (List.mem_of_getElem? X1.out)
          have cS := cell_rec HS.out k
          rw [List.getElem?_toArray, List.getElem?_map, X1.out] at cS
          simp only [Option.map_some] at cS
          have HST := Lib.hid (show putL 2 (sm.take (k + 1)) = putL 2 (sm.take k) ++ fixed n 2 from flatf_step X1.out)
          have HTL := Lib.hid (show (T0 ++ putL 2 (sm.take k)).length ≤ 100 by rw [List.length_append, HLT0.out, putL_len, List.length_take]; omega)
          have HV20 := HO
          have HB20 := HB
          go_wp2_with fail
          refine (ref4Put_any _ n 2 _ _ w5.heap.size (by have := HTL.out; omega) (by omega) (by decide) HV20.out HB20.out.size).mono ?_
          rintro r w21 ⟨v21, rfl, ho, hb, hk⟩
          have HV21 := Lib.hid ho
          have HB21 := Lib.hid (HB20.out.trans hb)
          have HS21 := Lib.hid (keep_h hk (by decide) HS.out)
          clear ho hb hk
          have HF21 := Lib.hid (show OB w21 w5.heap.size v21 (T0 ++ putL 2 (sm.take (k + 1))) by rw [HST.out, ← List.append_assoc]; exact HV21.out)
          go_wp2
          go_roundw
          case rel =>
            first
              | exact ⟨k + 1, by go_num, by omega, HF21.out, HB21.out, HS21.out⟩
              | ((repeat apply Exists.intro); exact ⟨⟨k + 1, by go_num, by omega, HF21.out, HB21.out, HS21.out⟩, rfl⟩)
          case measure => simp [intOf] <;> omega
        · obtain rfl : k = 6 := by omega
          have HF22 := Lib.hid (show OB wr w5.heap.size u11 (headB e hd) by
            rw [HHB.out]
            have := HO.out
            rw [List.take_of_length_le (by have := HSL.out; omega)] at this
            exact this)
          have HB22 := Lib.hid HB.out
          have HLH := Lib.hid (headB_len e hd)
          clear HO HB HS HS14 HSA HHB HF13
          obtain ⟨c0, c1, c2, c3, c4, c5⟩ := elf_box (heap_base HB22.out HX5.out hG5)
          go_wp2
          go_loopw [11, 14] (fun x i wr => ∃ k : Nat, i = .int .i64 k ∧ k ≤ gn ∧ Hid (OB wr w5.heap.size x (headB e hd ++ (e.segs.take k).flatMap segBy)) ∧ Hid (Below w5.heap.size w5 wr)) (fun _ i _ => gn - (intOf i).toNat)
          case atStart => exact ⟨0, rfl, Nat.zero_le _, by simpa [Hid] using HF22.out, HB22.out⟩
          case round =>
            clear c0 c1 c2 c3 c4 c5
            obtain ⟨k, rfl, hk, HO, HB⟩ := hrel
            have HBW := Lib.hid (HB5w.out.trans (HB.out.mono (by omega)))
            obtain ⟨c0, c1, c2, c3, c4, c5⟩ := elf_box (heap_base HB.out HX5.out hG5)
            by_cases hlt : k < gn
            · clear c0 c1 c2 c3 c4
              have X1 := Lib.hid (show e.segs[k]? = some (e.segs[k]'(by have := HGN.out; omega)) from List.getElem?_eq_getElem _)
              generalize e.segs[k]'(by have := HGN.out; omega) = x at *
              obtain ⟨b1, o1, ha, c10, c11, c12, c13, c14, c15, c16, -⟩ := seg_cells HCG.out HBW.out X1.out
              subst ha
              have HFS := Lib.hid (HOK.out.fits.segs _ (List.mem_of_getElem? X1.out))
              have HST : Hid ((e.segs.take (k + 1)).flatMap segBy = (e.segs.take k).flatMap segBy ++ segBy x) := by rw [List.take_add_one, X1.out, List.flatMap_append]; simp [Hid]
              have HTL := Lib.hid (show (headB e hd ++ (e.segs.take k).flatMap segBy).length ≤ 5000 by
                rw [List.length_append, headB_len, flat_len' segBy_len, List.length_take]; omega)
              obtain ⟨typ, flags, off, vaddr, filesz, memsz, align⟩ := x
              generalize hT : headB e hd ++ (e.segs.take k).flatMap segBy = T at *
              have HT := Lib.hid hT
              clear hT
              dsimp only at *
              have hty : typ < 4294967296 := HFS.out.1
              have hfl : flags < 4294967296 := HFS.out.2.1
              go_wp2_with (first
                | ((with_reducible show wpList _ _ _ (⟨none, .store _ _ _, _, _, _, _⟩ :: _) _ _); go_must (refine wpList_storeNew rfl rfl (by kernel_rfl) rfl (by simp [Value.oneCell']) ?_; intro w26 hh26 hb26; obtain ⟨e0, e1, e2, e3, e4, e5, e6⟩ := seg_box (x := ⟨typ, flags, off, vaddr, filesz, memsz, align⟩) hh26; have HH26 := Lib.hid hh26; have HV26 := Lib.hid (HO.out.mono hb26); have HB26 := Lib.hid (HB.out.trans (hb26.mono HB.out.size)); clear hb26 hh26)))
              clear c5 c10 c11 c12 c13 c14 c15 c16
              refine (ref4Put_any _ typ 4 _ _ w5.heap.size (by have := HTL.out; omega) (by omega) (by decide) HV26.out HB26.out.size).mono ?_
              rintro r w27 ⟨v27, rfl, ho, hb, hk⟩
              have HV27 := Lib.hid ho
              have HB27 := Lib.hid (HB26.out.trans hb)
              have HH27 := Lib.hid (keep_h hk (by decide) HH26.out)
              clear ho hb hk
              clear e0 e1 e2 e3 e4 e5 e6
              obtain ⟨e0, e1, e2, e3, e4, e5, e6⟩ := seg_box (x := ⟨typ, flags, off, vaddr, filesz, memsz, align⟩) HH27.out
              go_wp2_with fail
              refine (ref4Put_any _ flags 4 v27 _ w5.heap.size (by have := HTL.out; rw [List.length_append, length_fixed]; omega) (by omega) (by decide) HV27.out HB27.out.size).mono ?_
              rintro r w28 ⟨v28, rfl, ho, hb, hk⟩
              have HV28 := Lib.hid ho
              have HB28 := Lib.hid (HB27.out.trans hb)
              have HH28 := Lib.hid (keep_h hk (by decide) HH27.out)
              clear ho hb hk
              clear e0 e1 e2 e3 e4 e5 e6
              obtain ⟨e0, e1, e2, e3, e4, e5, e6⟩ := seg_box (x := ⟨typ, flags, off, vaddr, filesz, memsz, align⟩) HH28.out
              obtain ⟨sx, hsx⟩ : ∃ sx, sx = [off, vaddr, vaddr, filesz, memsz, align] := ⟨_, rfl⟩
              have HSX := Lib.hid hsx
              have HXB := Lib.hid (show ∀ n ∈ sx, n < 18446744073709551616 by
                intro n hn
                have h1 := HFS.out.2.2.1
                have h2 := HFS.out.2.2.2.1
                have h3 := HFS.out.2.2.2.2.1
                have h4 := HFS.out.2.2.2.2.2.1
                have h5 := HFS.out.2.2.2.2.2.2
                rw [hsx] at hn
                simp only [List.mem_cons, List.not_mem_nil, or_false] at hn
                dsimp only at h1 h2 h3 h4 h5
                omega)
              have HXL := Lib.hid (show sx.length = 6 by rw [hsx]; rfl)
              have HS29 := Lib.hid (show (w28.alloc (.cells #[.int .u64 off, .int .u64 vaddr, .int .u64 vaddr, .int .u64 filesz, .int .u64 memsz, .int .u64 align] 44)).heap[w28.heap.size]? = some (.cells (sx.map U64).toArray 44 (0, 0)) by rw [hsx]; exact heap_alloc_last w28 _)
              have HL28 := Lib.hid (show (T ++ fixed typ 4 ++ fixed flags 4).length ≤ 5008 by rw [List.length_append, List.length_append, length_fixed, length_fixed]; have := HTL.out; omega)
              generalize hT2 : T ++ fixed typ 4 ++ fixed flags 4 = T2 at *
              have HT2 := Lib.hid hT2
              clear hsx hT2
              go_wp2
              go_loopw [11, 17] (fun x i wr => ∃ j : Nat, i = .int .i64 j ∧ j ≤ 6 ∧ Hid (OB wr w5.heap.size x (T2 ++ putL 8 (sx.take j))) ∧ Hid (Below w5.heap.size w5 wr) ∧ Hid (wr.heap[w28.heap.size]? = some (.cells (sx.map U64).toArray 44 (0, 0)))) (fun _ i _ => 6 - (intOf i).toNat)
              case atStart => exact ⟨0, rfl, by omega, by have := HV28.out.mono (below_alloc w28 (.cells #[.int .u64 off, .int .u64 vaddr, .int .u64 vaddr, .int .u64 filesz, .int .u64 memsz, .int .u64 align] 44)); simpa [Hid, putL] using this, HB28.out.trans ((below_alloc w28 _).mono HB28.out.size), HS29.out⟩
              case round =>
                clear e0 e1 e2 e3 e4 e5 e6
                obtain ⟨j, rfl, hj, HO, HB, HS⟩ := hrel
                by_cases hlt2 : j < 6
                · have X2 := Lib.hid (show sx[j]? = some (sx[j]'(by have := HXL.out; omega)) from List.getElem?_eq_getElem _)
                  generalize sx[j]'(by have := HXL.out; omega) = n at *
                  have HN1 := Lib.hid (HXB.out n (List.mem_of_getElem? X2.out))
                  have cS := cell_rec HS.out j
                  rw [List.getElem?_toArray, List.getElem?_map, X2.out] at cS
                  simp only [Option.map_some] at cS
                  have HST2 := Lib.hid (show putL 8 (sx.take (j + 1)) = putL 8 (sx.take j) ++ fixed n 8 from flatf_step X2.out)
                  have HTL2 := Lib.hid (show (T2 ++ putL 8 (sx.take j)).length ≤ 6000 by rw [List.length_append, putL_len, List.length_take]; have := HL28.out; omega)
                  have HV30 := HO
                  have HB30 := HB
                  go_wp2_with fail
                  refine (ref4Put_any _ n 8 _ _ w5.heap.size (by have := HTL2.out; omega) HN1.out (by decide) HV30.out HB30.out.size).mono ?_
                  rintro r w31 ⟨v31, rfl, ho, hb, hk⟩
                  have HV31 := Lib.hid ho
                  have HB31 := Lib.hid (HB30.out.trans hb)
                  have HS31 := Lib.hid (keep_h hk (by decide) HS.out)
                  clear ho hb hk
                  have HF31 := Lib.hid (show OB w31 w5.heap.size v31 (T2 ++ putL 8 (sx.take (j + 1))) by rw [HST2.out, ← List.append_assoc]; exact HV31.out)
                  go_wp2
                  go_roundw
                  case rel =>
                    first
                      | exact ⟨j + 1, by go_num, by omega, HF31.out, HB31.out, HS31.out⟩
                      | ((repeat apply Exists.intro); exact ⟨⟨j + 1, by go_num, by omega, HF31.out, HB31.out, HS31.out⟩, rfl⟩)
                  case measure => simp [intOf] <;> omega
                · obtain rfl : j = 6 := by omega
                  have HF32 := Lib.hid (show OB wr w5.heap.size u11 (headB e hd ++ (e.segs.take (k + 1)).flatMap segBy) by
                    rw [HST.out, ← List.append_assoc, HT.out]
                    have := HO.out
                    rw [List.take_of_length_le (by have := HXL.out; omega), ← HT2.out, HSX.out] at this
                    unfold segBy
                    rw [show putL 4 [typ, flags] = fixed typ 4 ++ fixed flags 4 by simp [putL]]
                    simp only [List.append_assoc] at this ⊢
                    exact this)
                  have HB32 := Lib.hid HB.out
                  clear HO HB
                  go_wp2
                  go_roundw
                  case rel =>
                    first
                      | exact ⟨k + 1, by go_num, by omega, HF32.out, HB32.out⟩
                      | ((repeat apply Exists.intro); exact ⟨⟨k + 1, by go_num, by omega, HF32.out, HB32.out⟩, rfl⟩)
                  case measure => simp [intOf] <;> omega
            · have hkn : e.segs.take k = e.segs := List.take_of_length_le (by have := HGN.out; omega)
              have HFR := Lib.hid (show OB wr w5.heap.size u11 (frontB e) by
                have := HO.out
                rw [hkn] at this
                unfold frontB
                rw [← HHD.out]
                exact this)
              have HBR := Lib.hid HB.out
              clear HO HB hkn
              obtain ⟨c0, c1, c2, c3, c4, c5⟩ := elf_box (heap_base HBR.out HX5.out hG5)
              go_wp2
              go_loopw [11, 18] (fun x i wr => ∃ k : Nat, i = .int .i64 k ∧ k ≤ nl ∧ Hid (OB wr w5.heap.size x (bodyF (frontB e) ((e.secs.zip (placesOf e).1).take k))) ∧ Hid (Below w5.heap.size w5 wr)) (fun _ i _ => nl - (intOf i).toNat)
              case atStart => exact ⟨0, rfl, Nat.zero_le _, HFR.out, HBR.out⟩
              case round =>
                clear c0 c1 c2 c3 c4 c5
                obtain ⟨k, rfl, hk, HO, HB⟩ := hrel
                have HBW := Lib.hid (HB5w.out.trans (HB.out.mono (by omega)))
                by_cases hlt : k < nl
                · obtain ⟨c0, c1, c2, c3, c4, c5⟩ := elf_box (heap_base HB.out HX5.out hG5)
                  clear c0 c1 c2 c3 c5
                  have X1 := Lib.hid (show L[k]? = some (L[k]'(by have := HL.out; omega)) from List.getElem?_eq_getElem _)
                  generalize L[k]'(by have := HL.out; omega) = x at *
                  obtain ⟨s, dv⟩ := x
                  have HDB := Lib.hid (HD.out _ (List.mem_of_getElem? X1.out))
                  obtain ⟨dm, da, dc, hdm, rfl, _, _⟩ := HDB.out.shape
                  have X2 := Lib.hid (HSE.out _ _ X1.out)
                  have HZP := Lib.hid (zipP (g := segsB e) (n := front e) X2.out)
                  have HFN := Lib.hid (HK.out.fine _ (List.mem_of_getElem? X2.out))
                  have HST := Lib.hid (show bodyF (frontB e) ((e.secs.zip (placesOf e).1).take (k + 1)) = bodyF (frontB e) ((e.secs.zip (placesOf e).1).take k) ++ List.replicate (placeS (segsB e) (plF (segsB e) (front e) (e.secs.take k)).2 s - (bodyF (frontB e) ((e.secs.zip (placesOf e).1).take k)).length) 0 ++ s.data from bodyF_step (acc := frontB e) HZP.out)
                  have HLN := Lib.hid (body_len (g := segsB e) (frontB_len e) HK.out.pow k (by have h1 := HEL.out; have h2 := HL.out; omega))
                  have HLE := Lib.hid (placeS_le (g := segsB e) (p := (plF (segsB e) (front e) (e.secs.take k)).2) (HK.out.pow _ (List.mem_of_getElem? X2.out)))
                  have HPB := Lib.hid (place_bd HK.out (k + 1))
                  rw [plF_step X2.out] at HPB
                  have hp9 : placeS (segsB e) (plF (segsB e) (front e) (e.secs.take k)).2 s + dm ≤ 4194304 := by
                    have h1 : placeS (segsB e) (plF (segsB e) (front e) (e.secs.take k)).2 s + s.data.length ≤ (placesOf e).2 := HPB.out
                    have h3 := HPE.out
                    have h4 := hdm.out
                    dsimp only at h4
                    omega
                  obtain ⟨b1, o1, ha, c10, c11, c12, c13, c14, c15, c16, c17, c18, c19, hb1lt⟩ := sec_cells HC.out HBW.out X1.out
                  subst ha
                  clear c10 c12 c13 c14 c15 c16 c17 c18
                  obtain ⟨bP, oP, hP1, cP⟩ := HPC.out k (by have := HPLN.out; omega)
                  have HPGx : (placesOf e).1[k]? = some (placeS (segsB e) (plF (segsB e) (front e) (e.secs.take k)).2 s) := plF_get (g := segsB e) (n := front e) X2.out
                  rw [HPGx] at cP
                  simp only [Option.getD_some] at cP
                  replace cP := (HB.out.cell (block_lt cP)).trans cP
                  subst hP1
                  have HPGY := Lib.hid HPGx
                  generalize hT : bodyF (frontB e) ((e.secs.zip (placesOf e).1).take k) = T at *
                  have HT := Lib.hid hT
                  have HTL := Lib.hid (show T.length = (plF (segsB e) (front e) (e.secs.take k)).2 by rw [← hT]; exact HLN.out)
                  have HP8 : Hid (s.typ = 8 → placeS (segsB e) (plF (segsB e) (front e) (e.secs.take k)).2 s = T.length ∧ s.data = []) := fun h8 => by
                    refine ⟨?_, ?_⟩
                    · rw [HTL.out]; unfold placeS; rw [if_pos h8]
                    · have h1 := HFN.out
                      unfold fineB at h1
                      rw [if_pos h8] at h1
                      simp only [Bool.and_eq_true, decide_eq_true_eq] at h1
                      exact List.eq_nil_of_length_eq_zero h1.2.1
                  generalize placeS (segsB e) (plF (segsB e) (front e) (e.secs.take k)).2 s = p at *
                  obtain ⟨d, hd1⟩ : ∃ d, p = T.length + d := ⟨p - T.length, by have h1 := HLE.out.1; have h2 := HTL.out; omega⟩
                  have HD1 := Lib.hid hd1
                  clear hT HPGx hd1
                  obtain ⟨name, typ, flags, addr, align, size, link, info, ent, data⟩ := s
                  dsimp only at *
                  by_cases h8 : typ = 8
                  · have h8' : ((typ : Int) != 8) = false := by rw [bne_eq_false_iff_eq]; omega
                    obtain ⟨hpT, hdn⟩ := HP8.out h8
                    have hdm0 : dm = 0 := by have := hdm.out; rw [hdn] at this; simpa using this
                    have hdz : ¬ (0 < dm) := by omega
                    have HF40 := Lib.hid (show OB wr w5.heap.size u11 (bodyF (frontB e) ((e.secs.zip (placesOf e).1).take (k + 1))) by
                      rw [HST.out, hdn, hpT, Nat.sub_self, List.replicate_zero, List.append_nil, List.append_nil]
                      exact HO.out)
                    have HX8 := Lib.hid h8
                    have HX9 := Lib.hid hdm0
                    clear h8 hdm0 hpT hdn
                    go_wp2
                    go_roundw
                    case rel =>
                      first
                        | exact ⟨k + 1, by go_num, by omega, HF40.out, HB.out⟩
                        | ((repeat apply Exists.intro); exact ⟨⟨k + 1, by go_num, by omega, HF40.out, HB.out⟩, rfl⟩)
                    case measure => simp [intOf] <;> omega
                  · have h8' : ((typ : Int) != 8) = true := by rw [bne_iff_ne]; omega
                    have HX8 := Lib.hid h8
                    clear h8
                    have hdd : 0 < dm ∨ ¬ (0 < dm) := Classical.em _
                    rcases hdd with hdd | hdd
                    all_goals
                      have HVD := Lib.hid (show OB wr.drew w5.heap.size u11 T from HO.out.mono ((Below.refl _ _).drew))
                      have HBD := Lib.hid (HB.out.trans (show Below w5.heap.size wr wr.drew from (Below.refl _ _).drew))
                      have HL1 := Lib.hid (show T.length + d ≤ 1000000000 by have := HD1.out; omega)
                      have HZ1 := Lib.hid (show (p : Int) = ((T.length + d : Nat) : Int) by rw [HD1.out])
                      have HLEN := Lib.hid (show (T ++ List.replicate d 0).length + data.length ≤ 140737488355328 by rw [List.length_append, List.length_replicate]; have h1 := HD1.out; have h2 := hdm.out; omega)
                      have HPD := Lib.hid (show p - T.length = d by have := HD1.out; omega)
                      go_wp2
                      go_region_law (first
                        | (refine step_catB rfl (.tmp 174) (.tmp 180) rfl HV40.out HD40.out rfl rfl HLEN.out HB40.out.size ?_; intro v41 w41 hv41 hg41; have HV41 := Lib.hid hv41; have HB41 := Lib.hid (HB40.out.trans (below_of_grown hg41 HB40.out.size fun k hk => (World.ownsRow.lt HV40.out k hk).1)); clear hv41 hg41)
                        | (go_simp; go_at_call 55; refine (till_any T d _ _ _ w5.heap.size HL1.out HZ1.out HVD.out HBD.out.size).mono ?_; rintro r w40 ⟨v40, rfl, ho, hb, -⟩; have HV40 := Lib.hid ho; have HB40 := Lib.hid (HBD.out.trans hb); have HD40 := Lib.hid (HDB.out.mono (HB5w.out.trans (HB40.out.mono (by omega)))); have k4 := (hb.cell (p := ⟨w.heap.size, 4, none⟩) hG5).trans c4; have k19 := (hb.cell (p := ⟨b1, o1 + k * 10 + 9, none⟩) (by show b1 < _; omega)).trans c19; clear ho hb))
                      all_goals
                        have HF41 := Lib.hid (show OB w41 w5.heap.size v41 (bodyF (frontB e) ((e.secs.zip (placesOf e).1).take (k + 1))) by rw [HST.out, HPD.out]; exact HV41.out)
                        clear c4 k4 k19 c19 c11
                        go_wp2
                        go_roundw
                        case rel =>
                          first
                            | exact ⟨k + 1, by go_num, by omega, HF41.out, HB41.out⟩
                            | ((repeat apply Exists.intro); exact ⟨⟨k + 1, by go_num, by omega, HF41.out, HB41.out⟩, rfl⟩)
                        case measure => simp [intOf] <;> omega
                · have hkn : (e.secs.zip (placesOf e).1).take k = e.secs.zip (placesOf e).1 := List.take_of_length_le (by rw [List.length_zip]; have h1 := HEL.out; have h2 := HL.out; omega)
                  have HV42 := Lib.hid (show OB wr w5.heap.size u11 (bodyB e) by
                    have := HO.out
                    rw [hkn] at this
                    exact this)
                  have HBL := Lib.hid (show (bodyB e).length = pe by rw [bodyB_len HK.out.pow, ← HPE.out])
                  have HB42 := Lib.hid HB.out
                  obtain ⟨c0, c1, c2, c3, c4, c5⟩ := elf_box (heap_base HB.out HX5.out hG5)
                  clear HO HB hkn c0 c1 c2 c3 c5
                  go_wp2_with fail
                  clear c4
                  refine (till_any (bodyB e) 0 (pe : Int) _ wr w5.heap.size (by have h1 := HBL.out; omega) (by rw [HBL.out]; rfl) HV42.out HB42.out.size).mono ?_
                  rintro r w43 ⟨v43, rfl, ho, hb, -⟩
                  rw [List.replicate_zero, List.append_nil] at ho
                  have HV43 := Lib.hid ho
                  have HB43 := Lib.hid (HB42.out.trans hb)
                  have HTB := Lib.hid (OB1.out.bs.mono HB43.out)
                  clear ho hb
                  go_wp2_with ((with_reducible show wpList _ _ _ (⟨some 186, _, _, _, _, _⟩ :: _) _ _); go_must (refine wpList_catB HV43.out HTB.out rfl rfl (by have h1 := HBL.out; have h2 := htn.out; omega) HB43.out.size ?_; intro v44 w44 hv44 hg44 hb44; have HV44 := Lib.hid hv44; have HB44 := Lib.hid (HB43.out.trans hb44); clear hv44 hg44 hb44))
                  have HTN : Hid ((bodyB e ++ tabOf e).length = pe + tn) := by
                    show _ = _
                    rw [List.length_append, HBL.out, ← htn.out]
                  obtain ⟨dd, hdd⟩ : ∃ dd, hd + 64 = pe + tn + dd := ⟨hd + 64 - (pe + tn), by have := HGE.out.1; omega⟩
                  have HDD := Lib.hid hdd
                  clear hdd
                  refine (till_any (bodyB e ++ tabOf e) dd ((hd : Int) + 64) _ w44 w5.heap.size (by rw [HTN.out]; have := HDD.out; omega) (by rw [HTN.out]; have := HDD.out; omega) HV44.out HB44.out.size).mono ?_
                  rintro r w45 ⟨v45, rfl, ho, hb, -⟩
                  have HV45 := Lib.hid (show OB w45 w5.heap.size v45 (midB e) by
                    unfold midB
                    rw [← HHD.out, ← HPE.out, ← htn.out, show hd + 64 - (pe + tn) = dd by have := HDD.out; omega]
                    exact ho)
                  have HB45 := Lib.hid (HB44.out.trans hb)
                  have HML := Lib.hid (show (midB e).length = hd + 64 by rw [midB_len HK.out, ← HHD.out])
                  clear ho hb
                  go_wp2
                  go_loopw [11, 19] (fun x i wr => ∃ k : Nat, i = .int .i64 k ∧ k ≤ nl ∧ Hid (OB wr w5.heap.size x (midB e ++ ((e.secs.zip ((atsOf e).zip (placesOf e).1)).take k).flatMap fun p => hdrBy p.2.1 p.1 p.2.2)) ∧ Hid (Below w5.heap.size w5 wr)) (fun _ i _ => nl - (intOf i).toNat)
                  case atStart => exact ⟨0, rfl, Nat.zero_le _, by simpa [Hid] using HV45.out, HB45.out⟩
                  case round =>
                    obtain ⟨k, rfl, hk, HO, HB⟩ := hrel
                    have HBW := Lib.hid (HB5w.out.trans (HB.out.mono (by omega)))
                    obtain ⟨c0, c1, c2, c3, c4, c5⟩ := elf_box (heap_base HB.out HX5.out hG5)
                    clear c0 c1 c2 c3 c5
                    by_cases hlt : k < nl
                    · have X1 := Lib.hid (show L[k]? = some (L[k]'(by have := HL.out; omega)) from List.getElem?_eq_getElem _)
                      generalize L[k]'(by have := HL.out; omega) = x at *
                      obtain ⟨s, dv⟩ := x
                      obtain ⟨dm, da, dc, hdm, rfl, _, _⟩ := (HD.out _ (List.mem_of_getElem? X1.out)).shape
                      have X2 := Lib.hid (HSE.out _ _ X1.out)
                      have HFS := Lib.hid (HOK.out.fits.secs _ (List.mem_of_getElem? X2.out))
                      obtain ⟨b1, o1, ha, c10, c11, c12, c13, c14, c15, c16, c17, c18, c19, -⟩ := sec_cells HC.out HBW.out X1.out
                      subst ha
                      have XA := Lib.hid (show (atsOf e)[k]? = some ((atsOf e)[k]'(by have := HALN.out; omega)) from List.getElem?_eq_getElem _)
                      have XP := Lib.hid (show (placesOf e).1[k]? = some ((placesOf e).1[k]'(by have := HPLN.out; omega)) from List.getElem?_eq_getElem _)
                      have hpbx : ∀ x, (placesOf e).1[k]? = some x → x ≤ 4194304 := fun x hx => by
                        have h2 := plF_get (g := segsB e) (n := front e) X2.out
                        have h3 : (placesOf e).1[k]? = some (placeS (segsB e) (plF (segsB e) (front e) (e.secs.take k)).2 s) := h2
                        rw [h3] at hx
                        injection hx with hx
                        have h4 := place_bd HK.out (k + 1)
                        rw [plF_step X2.out] at h4
                        have h5 : placeS (segsB e) (plF (segsB e) (front e) (e.secs.take k)).2 s + s.data.length ≤ (placesOf e).2 := h4
                        have h6 := HPE.out
                        omega
                      have hab : (atsOf e)[k]'(by have := HALN.out; omega) ≤ 130000 := HAK.out.2 _ (List.getElem_mem _)
                      obtain ⟨bA, oA, hA1, cA⟩ := HAC.out k (by have := HALN.out; omega)
                      obtain ⟨bP, oP, hP1, cP⟩ := HPC.out k (by have := HPLN.out; omega)
                      rw [XA.out] at cA
                      rw [XP.out] at cP
                      have HST : Hid (((e.secs.zip ((atsOf e).zip (placesOf e).1)).take (k + 1)).flatMap (fun p => hdrBy p.2.1 p.1 p.2.2) = ((e.secs.zip ((atsOf e).zip (placesOf e).1)).take k).flatMap (fun p => hdrBy p.2.1 p.1 p.2.2) ++ hdrBy ((atsOf e)[k]'(by have := HALN.out; omega)) s ((placesOf e).1[k]'(by have := HPLN.out; omega))) := by
                        rw [List.take_add_one, show (e.secs.zip ((atsOf e).zip (placesOf e).1))[k]? = some (s, _, _) by rw [List.getElem?_zip_eq_some]; exact ⟨X2.out, by rw [List.getElem?_zip_eq_some]; exact ⟨XA.out, XP.out⟩⟩, List.flatMap_append]
                        simp [Hid]
                      have hpb := hpbx _ XP.out
                      clear hpbx
                      generalize (atsOf e)[k]'(by have := HALN.out; omega) = na at *
                      generalize (placesOf e).1[k]'(by have := HPLN.out; omega) = pl at *
                      simp only [Option.getD_some] at cA cP
                      replace cA := (HB.out.cell (block_lt cA)).trans cA
                      replace cP := (HB.out.cell (block_lt cP)).trans cP
                      subst hA1
                      subst hP1
                      have HTL := Lib.hid (show (midB e ++ ((e.secs.zip ((atsOf e).zip (placesOf e).1)).take k).flatMap fun p => hdrBy p.2.1 p.1 p.2.2).length ≤ 8000000 by
                        rw [List.length_append, HML.out, flat_len' (f := fun p : SecM × Nat × Nat => hdrBy p.2.1 p.1 p.2.2) (fun p => hdrBy_len p.2.1 p.1 p.2.2), List.length_take]
                        omega)
                      generalize hT : (midB e ++ ((e.secs.zip ((atsOf e).zip (placesOf e).1)).take k).flatMap fun p => hdrBy p.2.1 p.1 p.2.2) = T at *
                      have HT := Lib.hid hT
                      have hAB := fun (x : Above wr) (b k : Nat) (h : b < wr.heap.size) => Above.cell x b k h
                      have hbltA : bA < wr.heap.size := block_lt cA
                      have hbltP : bP < wr.heap.size := block_lt cP
                      have hbltE : w.heap.size < wr.heap.size := block_lt c4
                      have hblt1 : b1 < wr.heap.size := block_lt c10
                      clear hT
                      go_wp2
                      refine wp_region_walk 14 [] (by kernel_rfl) (by kernel_rfl) ?_
                      simp only [List.take_succ_cons, List.take_zero, List.drop_succ_cons, List.drop_zero]
                      repeat (refine walk_quiet rfl rfl rfl ?_; intro K hK; go_big_quiet_op; go_big_quiet_on)
                      refine walk_nil ?_
                      intro wz hbz hF
                      have HVz := Lib.hid (HO.out.mono hbz)
                      have HBz := Lib.hid (HB.out.trans (hbz.mono HB.out.size))
                      clear hF hbz hAB hbltA hbltP hbltE hblt1 cA cP c4 c10 c11 c12 c13 c14 c15 c16 c17 c18 c19
                      go_wp2_with fail
                      refine (header_any T na pl s (.slice da dm dc) _ wz w5.heap.size (by have := HTL.out; omega) (by omega) (by omega) HFS.out rfl HVz.out HBz.out.size).mono ?_
                      rintro r w46 ⟨v46, rfl, ho, hb, -⟩
                      have HF46 := Lib.hid (show OB w46 w5.heap.size v46 (midB e ++ ((e.secs.zip ((atsOf e).zip (placesOf e).1)).take (k + 1)).flatMap fun p => hdrBy p.2.1 p.1 p.2.2) by
                        rw [HST.out, ← List.append_assoc, HT.out]
                        exact ho)
                      have HB46 := Lib.hid (HBz.out.trans hb)
                      clear ho hb
                      go_wp2
                      go_roundw
                      case rel =>
                        first
                          | exact ⟨k + 1, by go_num, by omega, HF46.out, HB46.out⟩
                          | ((repeat apply Exists.intro); exact ⟨⟨k + 1, by go_num, by omega, HF46.out, HB46.out⟩, rfl⟩)
                      case measure => simp [intOf] <;> omega
                    · have hkn : (e.secs.zip ((atsOf e).zip (placesOf e).1)).take k = e.secs.zip ((atsOf e).zip (placesOf e).1) := List.take_of_length_le (by rw [List.length_zip]; have h1 := HEL.out; have h2 := HL.out; omega)
                      have HV50 := Lib.hid (show OB wr w5.heap.size u11 (midB e ++ hdrsB e) by
                        have := HO.out
                        rw [hkn] at this
                        exact this)
                      have HB50 := Lib.hid HB.out
                      have HTL := Lib.hid (show (midB e ++ hdrsB e).length ≤ 8000000 by
                        unfold hdrsB
                        rw [List.length_append, HML.out, flat_len' (f := fun p : SecM × Nat × Nat => hdrBy p.2.1 p.1 p.2.2) (fun p => hdrBy_len p.2.1 p.1 p.2.2), List.length_zip]
                        have h1 := HEL.out
                        have h2 := HL.out
                        have h3 : min e.secs.length ((atsOf e).zip (placesOf e).1).length ≤ e.secs.length := Nat.min_le_left _ _
                        omega)
                      have XA := Lib.hid (show (atsOf e)[nl]? = some ((atsOf e)[nl]'(by have := HALN.out; omega)) from List.getElem?_eq_getElem _)
                      have hab : (atsOf e)[nl]'(by have := HALN.out; omega) ≤ 130000 := HAK.out.2 _ (List.getElem_mem _)
                      obtain ⟨bA, oA, hA1, cA⟩ := HAC.out nl (by have := HALN.out; omega)
                      rw [XA.out] at cA
                      generalize (atsOf e)[nl]'(by have := HALN.out; omega) = na at *
                      simp only [Option.getD_some] at cA
                      replace cA := (HB.out.cell (block_lt cA)).trans cA
                      subst hA1
                      have HFB : Hid (fileB e = midB e ++ hdrsB e ++ hdrBy na (tabSec tn) pe) := by
                        unfold fileB
                        rw [← htn.out, ← HPE.out, show e.secs.length = nl by have h1 := HEL.out; have h2 := HL.out; omega, XA.out]
                        exact rfl
                      generalize hT : midB e ++ hdrsB e = T at *
                      clear HO HB hkn hT c4
                      go_wp2_with fail
                      clear cA
                      refine (header_any T na pe (tabSec tn) (.slice none 0 0) _ wr w5.heap.size (by have := HTL.out; omega) (by omega) (by omega) (tabSec_fits (by omega)) rfl HV50.out HB50.out.size).mono ?_
                      rintro r w51 ⟨v51, rfl, ho, hb, -⟩
                      have HF51 := Lib.hid (show OB w51 w.heap.size v51 (fileB e) by rw [HFB.out]; exact ho.base (by omega))
                      have HB51 := Lib.hid (HB50.out.trans hb)
                      clear ho hb
                      go_wp2
                      go_ret2
                      exact ⟨_, by rw [HR.out]; rfl, by rw [HR.out]; exact HF51.out, HB5w.out.trans (HB51.out.mono (by omega))⟩
    · go_wp2_with fail
      clear c0 c1 c2 c3 c4 c5
      refine (ref4Put_any _ 0 8 v10 _ w5.heap.size (by simp only [List.length_append, length_fixed, List.length_replicate, List.length_cons, List.length_nil]; omega) (by decide) (by decide) HV10.out HB10.out.size).mono ?_
      rintro r w11 ⟨v11, rfl, ho, hb, hk⟩
      have HV11 := Lib.hid ho
      have HB11 := Lib.hid (HB10.out.trans hb)
      clear ho hb hk
      obtain ⟨c0, c1, c2, c3, c4, c5⟩ := elf_box (heap_base HB11.out HX5.out hG5)
      go_wp2_with fail
      clear c0 c1 c2 c3 c4 c5
      refine (ref4Put_any _ hd 8 v11 _ w5.heap.size (by simp only [List.length_append, length_fixed, List.length_replicate, List.length_cons, List.length_nil]; omega) (by omega) (by decide) HV11.out HB11.out.size).mono ?_
      rintro r w12 ⟨v12, rfl, ho, hb, hk⟩
      have HV12 := Lib.hid ho
      have HB12 := Lib.hid (HB11.out.trans hb)
      clear ho hb hk
      obtain ⟨c0, c1, c2, c3, c4, c5⟩ := elf_box (heap_base HB12.out HX5.out hG5)
      go_wp2_with fail
      clear c0 c1 c2 c3 c4 c5
      refine (ref4Put_any _ e.flags 4 v12 _ w5.heap.size (by simp only [List.length_append, length_fixed, List.length_replicate, List.length_cons, List.length_nil]; omega) (by omega) (by decide) HV12.out HB12.out.size).mono ?_
      rintro r w13 ⟨v13, rfl, ho, hb, hk⟩
      have HV13 := Lib.hid ho
      have HB13 := Lib.hid (HB12.out.trans hb)
      clear ho hb hk
      obtain ⟨c0, c1, c2, c3, c4, c5⟩ := elf_box (heap_base HB13.out HX5.out hG5)
      have HF13 := Lib.hid (show OB w13 w5.heap.size v13 ([127, 69, 76, 70, 2, 1, 1] ++ List.replicate 9 0 ++ putL 2 [ut, mt] ++ putL 4 [1] ++ putL 8 [e.entry, 0, hd] ++ putL 4 [e.flags]) by
        have := HV13.out
        unfold putL
        simp only [List.append_assoc, List.flatMap_cons, List.flatMap_nil, List.append_nil] at this ⊢
        exact this)
      have hT0 : ∃ T, T = [127, 69, 76, 70, 2, 1, 1] ++ List.replicate 9 0 ++ putL 2 [ut, mt] ++ putL 4 [1] ++ putL 8 [e.entry, 0, hd] ++ putL 4 [e.flags] := ⟨_, rfl⟩
      obtain ⟨T0, hT0⟩ := hT0
      rw [← hT0] at HF13
      have HLT0 := Lib.hid (show T0.length = 52 by rw [hT0]; simp only [List.length_append, putL_len, List.length_replicate]; rfl)
      have HHB := Lib.hid (show headB e hd = T0 ++ putL 2 [64, 56, gn, 64, nl + 2, nl + 1] by
        rw [hT0]
        unfold headB segsB
        rw [show e.secs.length = nl by have h1 := HEL.out; have h2 := HL.out; omega, ← HGN.out, decide_eq_false hgs, HMTT.out, HUTT.out]
        rfl)
      clear hT0 HV13
      obtain ⟨sm, hsm⟩ : ∃ sm, sm = [64, 56, gn, 64, nl + 2, nl + 1] := ⟨_, rfl⟩
      rw [← hsm] at HHB
      have HSB := Lib.hid (show ∀ n ∈ sm, n ≤ 1000 by intro n hn; rw [hsm] at hn; simp only [List.mem_cons, List.not_mem_nil, or_false] at hn; omega)
      have HSL := Lib.hid (show sm.length = 6 by rw [hsm]; rfl)
      have HSA := Lib.hid (fun (w : World) => (show (w.alloc (.cells #[.int .i64 64, .int .i64 56, .int .i64 gn, .int .i64 64, .int .i64 ((nl : Int) + 2), .int .i64 ((nl : Int) + 1)] 3)).heap[w.heap.size]? = some (.cells (sm.map I64).toArray 3 (0, 0)) by rw [hsm]; exact heap_alloc_last w _))
      have hvs : ∃ m ad cap, v13 = .slice ad m cap := by obtain ⟨m, ad, cap, -, h, -⟩ := HF13.out.shape; exact ⟨m, ad, cap, h⟩
      obtain ⟨mv, av, cv, rfl⟩ := hvs
      clear hsm
      go_wp2
      have HS14 := Lib.hid (HSA.out w13)
      go_loopw [11, 13] (fun x i wr => ∃ k : Nat, i = .int .i64 k ∧ k ≤ 6 ∧ Hid (OB wr w5.heap.size x (T0 ++ putL 2 (sm.take k))) ∧ Hid (Below w5.heap.size w5 wr) ∧ Hid (wr.heap[w13.heap.size]? = some (.cells (sm.map I64).toArray 3 (0, 0)))) (fun _ i _ => 6 - (intOf i).toNat)
      case atStart => exact ⟨0, rfl, by omega, by have := HF13.out.mono (below_alloc w13 (.cells #[.int .i64 64, .int .i64 56, .int .i64 gn, .int .i64 64, .int .i64 ((nl : Int) + 2), .int .i64 ((nl : Int) + 1)] 3)); simpa [Hid, putL] using this, HB13.out.trans ((below_alloc w13 _).mono HB13.out.size), HS14.out⟩
      case round =>
        clear c0 c1 c2 c3 c4 c5
        obtain ⟨k, rfl, hk, HO, HB, HS⟩ := hrel
        by_cases hlt : k < 6
        · have X1 := Lib.hid (show sm[k]? = some (sm[k]'(by have := HSL.out; omega)) from List.getElem?_eq_getElem _)
          generalize sm[k]'(by have := HSL.out; omega) = n at *
          have hn1 := HSB.out n (List.mem_of_getElem? X1.out)
          have cS := cell_rec HS.out k
          rw [List.getElem?_toArray, List.getElem?_map, X1.out] at cS
          simp only [Option.map_some] at cS
          have HST := Lib.hid (show putL 2 (sm.take (k + 1)) = putL 2 (sm.take k) ++ fixed n 2 from flatf_step X1.out)
          have HTL := Lib.hid (show (T0 ++ putL 2 (sm.take k)).length ≤ 100 by rw [List.length_append, HLT0.out, putL_len, List.length_take]; omega)
          have HV20 := HO
          have HB20 := HB
          go_wp2_with fail
          refine (ref4Put_any _ n 2 _ _ w5.heap.size (by have := HTL.out; omega) (by omega) (by decide) HV20.out HB20.out.size).mono ?_
          rintro r w21 ⟨v21, rfl, ho, hb, hk⟩
          have HV21 := Lib.hid ho
          have HB21 := Lib.hid (HB20.out.trans hb)
          have HS21 := Lib.hid (keep_h hk (by decide) HS.out)
          clear ho hb hk
          have HF21 := Lib.hid (show OB w21 w5.heap.size v21 (T0 ++ putL 2 (sm.take (k + 1))) by rw [HST.out, ← List.append_assoc]; exact HV21.out)
          go_wp2
          go_roundw
          case rel =>
            first
              | exact ⟨k + 1, by go_num, by omega, HF21.out, HB21.out, HS21.out⟩
              | ((repeat apply Exists.intro); exact ⟨⟨k + 1, by go_num, by omega, HF21.out, HB21.out, HS21.out⟩, rfl⟩)
          case measure => simp [intOf] <;> omega
        · obtain rfl : k = 6 := by omega
          have HF22 := Lib.hid (show OB wr w5.heap.size u11 (headB e hd) by
            rw [HHB.out]
            have := HO.out
            rw [List.take_of_length_le (by have := HSL.out; omega)] at this
            exact this)
          have HB22 := Lib.hid HB.out
          have HLH := Lib.hid (headB_len e hd)
          clear HO HB HS HS14 HSA HHB HF13
          obtain ⟨c0, c1, c2, c3, c4, c5⟩ := elf_box (heap_base HB22.out HX5.out hG5)
          go_wp2
          go_loopw [11, 14] (fun x i wr => ∃ k : Nat, i = .int .i64 k ∧ k ≤ gn ∧ Hid (OB wr w5.heap.size x (headB e hd ++ (e.segs.take k).flatMap segBy)) ∧ Hid (Below w5.heap.size w5 wr)) (fun _ i _ => gn - (intOf i).toNat)
          case atStart => exact ⟨0, rfl, Nat.zero_le _, by simpa [Hid] using HF22.out, HB22.out⟩
          case round =>
            clear c0 c1 c2 c3 c4 c5
            obtain ⟨k, rfl, hk, HO, HB⟩ := hrel
            have HBW := Lib.hid (HB5w.out.trans (HB.out.mono (by omega)))
            obtain ⟨c0, c1, c2, c3, c4, c5⟩ := elf_box (heap_base HB.out HX5.out hG5)
            by_cases hlt : k < gn
            · exact absurd hlt (by omega)
            · have hkn : e.segs.take k = e.segs := List.take_of_length_le (by have := HGN.out; omega)
              have HFR := Lib.hid (show OB wr w5.heap.size u11 (frontB e) by
                have := HO.out
                rw [hkn] at this
                unfold frontB
                rw [← HHD.out]
                exact this)
              have HBR := Lib.hid HB.out
              clear HO HB hkn
              obtain ⟨c0, c1, c2, c3, c4, c5⟩ := elf_box (heap_base HBR.out HX5.out hG5)
              go_wp2
              go_loopw [11, 18] (fun x i wr => ∃ k : Nat, i = .int .i64 k ∧ k ≤ nl ∧ Hid (OB wr w5.heap.size x (bodyF (frontB e) ((e.secs.zip (placesOf e).1).take k))) ∧ Hid (Below w5.heap.size w5 wr)) (fun _ i _ => nl - (intOf i).toNat)
              case atStart => exact ⟨0, rfl, Nat.zero_le _, HFR.out, HBR.out⟩
              case round =>
                clear c0 c1 c2 c3 c4 c5
                obtain ⟨k, rfl, hk, HO, HB⟩ := hrel
                have HBW := Lib.hid (HB5w.out.trans (HB.out.mono (by omega)))
                by_cases hlt : k < nl
                · obtain ⟨c0, c1, c2, c3, c4, c5⟩ := elf_box (heap_base HB.out HX5.out hG5)
                  clear c0 c1 c2 c3 c5
                  have X1 := Lib.hid (show L[k]? = some (L[k]'(by have := HL.out; omega)) from List.getElem?_eq_getElem _)
                  generalize L[k]'(by have := HL.out; omega) = x at *
                  obtain ⟨s, dv⟩ := x
                  have HDB := Lib.hid (HD.out _ (List.mem_of_getElem? X1.out))
                  obtain ⟨dm, da, dc, hdm, rfl, _, _⟩ := HDB.out.shape
                  have X2 := Lib.hid (HSE.out _ _ X1.out)
                  have HZP := Lib.hid (zipP (g := segsB e) (n := front e) X2.out)
                  have HFN := Lib.hid (HK.out.fine _ (List.mem_of_getElem? X2.out))
                  have HST := Lib.hid (show bodyF (frontB e) ((e.secs.zip (placesOf e).1).take (k + 1)) = bodyF (frontB e) ((e.secs.zip (placesOf e).1).take k) ++ List.replicate (placeS (segsB e) (plF (segsB e) (front e) (e.secs.take k)).2 s - (bodyF (frontB e) ((e.secs.zip (placesOf e).1).take k)).length) 0 ++ s.data from bodyF_step (acc := frontB e) HZP.out)
                  have HLN := Lib.hid (body_len (g := segsB e) (frontB_len e) HK.out.pow k (by have h1 := HEL.out; have h2 := HL.out; omega))
                  have HLE := Lib.hid (placeS_le (g := segsB e) (p := (plF (segsB e) (front e) (e.secs.take k)).2) (HK.out.pow _ (List.mem_of_getElem? X2.out)))
                  have HPB := Lib.hid (place_bd HK.out (k + 1))
                  rw [plF_step X2.out] at HPB
                  have hp9 : placeS (segsB e) (plF (segsB e) (front e) (e.secs.take k)).2 s + dm ≤ 4194304 := by
                    have h1 : placeS (segsB e) (plF (segsB e) (front e) (e.secs.take k)).2 s + s.data.length ≤ (placesOf e).2 := HPB.out
                    have h3 := HPE.out
                    have h4 := hdm.out
                    dsimp only at h4
                    omega
                  obtain ⟨b1, o1, ha, c10, c11, c12, c13, c14, c15, c16, c17, c18, c19, hb1lt⟩ := sec_cells HC.out HBW.out X1.out
                  subst ha
                  clear c10 c12 c13 c14 c15 c16 c17 c18
                  obtain ⟨bP, oP, hP1, cP⟩ := HPC.out k (by have := HPLN.out; omega)
                  have HPGx : (placesOf e).1[k]? = some (placeS (segsB e) (plF (segsB e) (front e) (e.secs.take k)).2 s) := plF_get (g := segsB e) (n := front e) X2.out
                  rw [HPGx] at cP
                  simp only [Option.getD_some] at cP
                  replace cP := (HB.out.cell (block_lt cP)).trans cP
                  subst hP1
                  have HPGY := Lib.hid HPGx
                  generalize hT : bodyF (frontB e) ((e.secs.zip (placesOf e).1).take k) = T at *
                  have HT := Lib.hid hT
                  have HTL := Lib.hid (show T.length = (plF (segsB e) (front e) (e.secs.take k)).2 by rw [← hT]; exact HLN.out)
                  have HP8 : Hid (s.typ = 8 → placeS (segsB e) (plF (segsB e) (front e) (e.secs.take k)).2 s = T.length ∧ s.data = []) := fun h8 => by
                    refine ⟨?_, ?_⟩
                    · rw [HTL.out]; unfold placeS; rw [if_pos h8]
                    · have h1 := HFN.out
                      unfold fineB at h1
                      rw [if_pos h8] at h1
                      simp only [Bool.and_eq_true, decide_eq_true_eq] at h1
                      exact List.eq_nil_of_length_eq_zero h1.2.1
                  generalize placeS (segsB e) (plF (segsB e) (front e) (e.secs.take k)).2 s = p at *
                  obtain ⟨d, hd1⟩ : ∃ d, p = T.length + d := ⟨p - T.length, by have h1 := HLE.out.1; have h2 := HTL.out; omega⟩
                  have HD1 := Lib.hid hd1
                  clear hT HPGx hd1
                  obtain ⟨name, typ, flags, addr, align, size, link, info, ent, data⟩ := s
                  dsimp only at *
                  by_cases h8 : typ = 8
                  · have h8' : ((typ : Int) != 8) = false := by rw [bne_eq_false_iff_eq]; omega
                    obtain ⟨hpT, hdn⟩ := HP8.out h8
                    have hdm0 : dm = 0 := by have := hdm.out; rw [hdn] at this; simpa using this
                    have hdz : ¬ (0 < dm) := by omega
                    have HF40 := Lib.hid (show OB wr w5.heap.size u11 (bodyF (frontB e) ((e.secs.zip (placesOf e).1).take (k + 1))) by
                      rw [HST.out, hdn, hpT, Nat.sub_self, List.replicate_zero, List.append_nil, List.append_nil]
                      exact HO.out)
                    have HX8 := Lib.hid h8
                    have HX9 := Lib.hid hdm0
                    clear h8 hdm0 hpT hdn
                    go_wp2
                    go_roundw
                    case rel =>
                      first
                        | exact ⟨k + 1, by go_num, by omega, HF40.out, HB.out⟩
                        | ((repeat apply Exists.intro); exact ⟨⟨k + 1, by go_num, by omega, HF40.out, HB.out⟩, rfl⟩)
                    case measure => simp [intOf] <;> omega
                  · have h8' : ((typ : Int) != 8) = true := by rw [bne_iff_ne]; omega
                    have HX8 := Lib.hid h8
                    clear h8
                    have hdd : 0 < dm ∨ ¬ (0 < dm) := Classical.em _
                    rcases hdd with hdd | hdd
                    all_goals
                      have HVD := Lib.hid (show OB wr.drew w5.heap.size u11 T from HO.out.mono ((Below.refl _ _).drew))
                      have HBD := Lib.hid (HB.out.trans (show Below w5.heap.size wr wr.drew from (Below.refl _ _).drew))
                      have HL1 := Lib.hid (show T.length + d ≤ 1000000000 by have := HD1.out; omega)
                      have HZ1 := Lib.hid (show (p : Int) = ((T.length + d : Nat) : Int) by rw [HD1.out])
                      have HLEN := Lib.hid (show (T ++ List.replicate d 0).length + data.length ≤ 140737488355328 by rw [List.length_append, List.length_replicate]; have h1 := HD1.out; have h2 := hdm.out; omega)
                      have HPD := Lib.hid (show p - T.length = d by have := HD1.out; omega)
                      go_wp2
                      go_region_law (first
                        | (refine step_catB rfl (.tmp 174) (.tmp 180) rfl HV40.out HD40.out rfl rfl HLEN.out HB40.out.size ?_; intro v41 w41 hv41 hg41; have HV41 := Lib.hid hv41; have HB41 := Lib.hid (HB40.out.trans (below_of_grown hg41 HB40.out.size fun k hk => (World.ownsRow.lt HV40.out k hk).1)); clear hv41 hg41)
                        | (go_simp; go_at_call 55; refine (till_any T d _ _ _ w5.heap.size HL1.out HZ1.out HVD.out HBD.out.size).mono ?_; rintro r w40 ⟨v40, rfl, ho, hb, -⟩; have HV40 := Lib.hid ho; have HB40 := Lib.hid (HBD.out.trans hb); have HD40 := Lib.hid (HDB.out.mono (HB5w.out.trans (HB40.out.mono (by omega)))); have k4 := (hb.cell (p := ⟨w.heap.size, 4, none⟩) hG5).trans c4; have k19 := (hb.cell (p := ⟨b1, o1 + k * 10 + 9, none⟩) (by show b1 < _; omega)).trans c19; clear ho hb))
                      all_goals
                        have HF41 := Lib.hid (show OB w41 w5.heap.size v41 (bodyF (frontB e) ((e.secs.zip (placesOf e).1).take (k + 1))) by rw [HST.out, HPD.out]; exact HV41.out)
                        clear c4 k4 k19 c19 c11
                        go_wp2
                        go_roundw
                        case rel =>
                          first
                            | exact ⟨k + 1, by go_num, by omega, HF41.out, HB41.out⟩
                            | ((repeat apply Exists.intro); exact ⟨⟨k + 1, by go_num, by omega, HF41.out, HB41.out⟩, rfl⟩)
                        case measure => simp [intOf] <;> omega
                · have hkn : (e.secs.zip (placesOf e).1).take k = e.secs.zip (placesOf e).1 := List.take_of_length_le (by rw [List.length_zip]; have h1 := HEL.out; have h2 := HL.out; omega)
                  have HV42 := Lib.hid (show OB wr w5.heap.size u11 (bodyB e) by
                    have := HO.out
                    rw [hkn] at this
                    exact this)
                  have HBL := Lib.hid (show (bodyB e).length = pe by rw [bodyB_len HK.out.pow, ← HPE.out])
                  have HB42 := Lib.hid HB.out
                  obtain ⟨c0, c1, c2, c3, c4, c5⟩ := elf_box (heap_base HB.out HX5.out hG5)
                  clear HO HB hkn c0 c1 c2 c3 c5
                  go_wp2_with fail
                  clear c4
                  refine (till_any (bodyB e) 0 (pe : Int) _ wr w5.heap.size (by have h1 := HBL.out; omega) (by rw [HBL.out]; rfl) HV42.out HB42.out.size).mono ?_
                  rintro r w43 ⟨v43, rfl, ho, hb, -⟩
                  rw [List.replicate_zero, List.append_nil] at ho
                  have HV43 := Lib.hid ho
                  have HB43 := Lib.hid (HB42.out.trans hb)
                  have HTB := Lib.hid (OB1.out.bs.mono HB43.out)
                  clear ho hb
                  go_wp2_with ((with_reducible show wpList _ _ _ (⟨some 186, _, _, _, _, _⟩ :: _) _ _); go_must (refine wpList_catB HV43.out HTB.out rfl rfl (by have h1 := HBL.out; have h2 := htn.out; omega) HB43.out.size ?_; intro v44 w44 hv44 hg44 hb44; have HV44 := Lib.hid hv44; have HB44 := Lib.hid (HB43.out.trans hb44); clear hv44 hg44 hb44))
                  have HTN : Hid ((bodyB e ++ tabOf e).length = pe + tn) := by
                    show _ = _
                    rw [List.length_append, HBL.out, ← htn.out]
                  obtain ⟨dd, hdd⟩ : ∃ dd, hd + 64 = pe + tn + dd := ⟨hd + 64 - (pe + tn), by have := HGE.out.1; omega⟩
                  have HDD := Lib.hid hdd
                  clear hdd
                  refine (till_any (bodyB e ++ tabOf e) dd ((hd : Int) + 64) _ w44 w5.heap.size (by rw [HTN.out]; have := HDD.out; omega) (by rw [HTN.out]; have := HDD.out; omega) HV44.out HB44.out.size).mono ?_
                  rintro r w45 ⟨v45, rfl, ho, hb, -⟩
                  have HV45 := Lib.hid (show OB w45 w5.heap.size v45 (midB e) by
                    unfold midB
                    rw [← HHD.out, ← HPE.out, ← htn.out, show hd + 64 - (pe + tn) = dd by have := HDD.out; omega]
                    exact ho)
                  have HB45 := Lib.hid (HB44.out.trans hb)
                  have HML := Lib.hid (show (midB e).length = hd + 64 by rw [midB_len HK.out, ← HHD.out])
                  clear ho hb
                  go_wp2
                  go_loopw [11, 19] (fun x i wr => ∃ k : Nat, i = .int .i64 k ∧ k ≤ nl ∧ Hid (OB wr w5.heap.size x (midB e ++ ((e.secs.zip ((atsOf e).zip (placesOf e).1)).take k).flatMap fun p => hdrBy p.2.1 p.1 p.2.2)) ∧ Hid (Below w5.heap.size w5 wr)) (fun _ i _ => nl - (intOf i).toNat)
                  case atStart => exact ⟨0, rfl, Nat.zero_le _, by simpa [Hid] using HV45.out, HB45.out⟩
                  case round =>
                    obtain ⟨k, rfl, hk, HO, HB⟩ := hrel
                    have HBW := Lib.hid (HB5w.out.trans (HB.out.mono (by omega)))
                    obtain ⟨c0, c1, c2, c3, c4, c5⟩ := elf_box (heap_base HB.out HX5.out hG5)
                    clear c0 c1 c2 c3 c5
                    by_cases hlt : k < nl
                    · have X1 := Lib.hid (show L[k]? = some (L[k]'(by have := HL.out; omega)) from List.getElem?_eq_getElem _)
                      generalize L[k]'(by have := HL.out; omega) = x at *
                      obtain ⟨s, dv⟩ := x
                      obtain ⟨dm, da, dc, hdm, rfl, _, _⟩ := (HD.out _ (List.mem_of_getElem? X1.out)).shape
                      have X2 := Lib.hid (HSE.out _ _ X1.out)
                      have HFS := Lib.hid (HOK.out.fits.secs _ (List.mem_of_getElem? X2.out))
                      obtain ⟨b1, o1, ha, c10, c11, c12, c13, c14, c15, c16, c17, c18, c19, -⟩ := sec_cells HC.out HBW.out X1.out
                      subst ha
                      have XA := Lib.hid (show (atsOf e)[k]? = some ((atsOf e)[k]'(by have := HALN.out; omega)) from List.getElem?_eq_getElem _)
                      have XP := Lib.hid (show (placesOf e).1[k]? = some ((placesOf e).1[k]'(by have := HPLN.out; omega)) from List.getElem?_eq_getElem _)
                      have hpbx : ∀ x, (placesOf e).1[k]? = some x → x ≤ 4194304 := fun x hx => by
                        have h2 := plF_get (g := segsB e) (n := front e) X2.out
                        have h3 : (placesOf e).1[k]? = some (placeS (segsB e) (plF (segsB e) (front e) (e.secs.take k)).2 s) := h2
                        rw [h3] at hx
                        injection hx with hx
                        have h4 := place_bd HK.out (k + 1)
                        rw [plF_step X2.out] at h4
                        have h5 : placeS (segsB e) (plF (segsB e) (front e) (e.secs.take k)).2 s + s.data.length ≤ (placesOf e).2 := h4
                        have h6 := HPE.out
                        omega
                      have hab : (atsOf e)[k]'(by have := HALN.out; omega) ≤ 130000 := HAK.out.2 _ (List.getElem_mem _)
                      obtain ⟨bA, oA, hA1, cA⟩ := HAC.out k (by have := HALN.out; omega)
                      obtain ⟨bP, oP, hP1, cP⟩ := HPC.out k (by have := HPLN.out; omega)
                      rw [XA.out] at cA
                      rw [XP.out] at cP
                      have HST : Hid (((e.secs.zip ((atsOf e).zip (placesOf e).1)).take (k + 1)).flatMap (fun p => hdrBy p.2.1 p.1 p.2.2) = ((e.secs.zip ((atsOf e).zip (placesOf e).1)).take k).flatMap (fun p => hdrBy p.2.1 p.1 p.2.2) ++ hdrBy ((atsOf e)[k]'(by have := HALN.out; omega)) s ((placesOf e).1[k]'(by have := HPLN.out; omega))) := by
                        rw [List.take_add_one, show (e.secs.zip ((atsOf e).zip (placesOf e).1))[k]? = some (s, _, _) by rw [List.getElem?_zip_eq_some]; exact ⟨X2.out, by rw [List.getElem?_zip_eq_some]; exact ⟨XA.out, XP.out⟩⟩, List.flatMap_append]
                        simp [Hid]
                      have hpb := hpbx _ XP.out
                      clear hpbx
                      generalize (atsOf e)[k]'(by have := HALN.out; omega) = na at *
                      generalize (placesOf e).1[k]'(by have := HPLN.out; omega) = pl at *
                      simp only [Option.getD_some] at cA cP
                      replace cA := (HB.out.cell (block_lt cA)).trans cA
                      replace cP := (HB.out.cell (block_lt cP)).trans cP
                      subst hA1
                      subst hP1
                      have HTL := Lib.hid (show (midB e ++ ((e.secs.zip ((atsOf e).zip (placesOf e).1)).take k).flatMap fun p => hdrBy p.2.1 p.1 p.2.2).length ≤ 8000000 by
                        rw [List.length_append, HML.out, flat_len' (f := fun p : SecM × Nat × Nat => hdrBy p.2.1 p.1 p.2.2) (fun p => hdrBy_len p.2.1 p.1 p.2.2), List.length_take]
                        omega)
                      generalize hT : (midB e ++ ((e.secs.zip ((atsOf e).zip (placesOf e).1)).take k).flatMap fun p => hdrBy p.2.1 p.1 p.2.2) = T at *
                      have HT := Lib.hid hT
                      have hAB := fun (x : Above wr) (b k : Nat) (h : b < wr.heap.size) => Above.cell x b k h
                      have hbltA : bA < wr.heap.size := block_lt cA
                      have hbltP : bP < wr.heap.size := block_lt cP
                      have hbltE : w.heap.size < wr.heap.size := block_lt c4
                      have hblt1 : b1 < wr.heap.size := block_lt c10
                      clear hT
                      go_wp2
                      refine wp_region_walk 14 [] (by kernel_rfl) (by kernel_rfl) ?_
                      simp only [List.take_succ_cons, List.take_zero, List.drop_succ_cons, List.drop_zero]
                      repeat (refine walk_quiet rfl rfl rfl ?_; intro K hK; go_big_quiet_op; go_big_quiet_on)
                      refine walk_nil ?_
                      intro wz hbz hF
                      have HVz := Lib.hid (HO.out.mono hbz)
                      have HBz := Lib.hid (HB.out.trans (hbz.mono HB.out.size))
                      clear hF hbz hAB hbltA hbltP hbltE hblt1 cA cP c4 c10 c11 c12 c13 c14 c15 c16 c17 c18 c19
                      go_wp2_with fail
                      refine (header_any T na pl s (.slice da dm dc) _ wz w5.heap.size (by have := HTL.out; omega) (by omega) (by omega) HFS.out rfl HVz.out HBz.out.size).mono ?_
                      rintro r w46 ⟨v46, rfl, ho, hb, -⟩
                      have HF46 := Lib.hid (show OB w46 w5.heap.size v46 (midB e ++ ((e.secs.zip ((atsOf e).zip (placesOf e).1)).take (k + 1)).flatMap fun p => hdrBy p.2.1 p.1 p.2.2) by
                        rw [HST.out, ← List.append_assoc, HT.out]
                        exact ho)
                      have HB46 := Lib.hid (HBz.out.trans hb)
                      clear ho hb
                      go_wp2
                      go_roundw
                      case rel =>
                        first
                          | exact ⟨k + 1, by go_num, by omega, HF46.out, HB46.out⟩
                          | ((repeat apply Exists.intro); exact ⟨⟨k + 1, by go_num, by omega, HF46.out, HB46.out⟩, rfl⟩)
                      case measure => simp [intOf] <;> omega
                    · have hkn : (e.secs.zip ((atsOf e).zip (placesOf e).1)).take k = e.secs.zip ((atsOf e).zip (placesOf e).1) := List.take_of_length_le (by rw [List.length_zip]; have h1 := HEL.out; have h2 := HL.out; omega)
                      have HV50 := Lib.hid (show OB wr w5.heap.size u11 (midB e ++ hdrsB e) by
                        have := HO.out
                        rw [hkn] at this
                        exact this)
                      have HB50 := Lib.hid HB.out
                      have HTL := Lib.hid (show (midB e ++ hdrsB e).length ≤ 8000000 by
                        unfold hdrsB
                        rw [List.length_append, HML.out, flat_len' (f := fun p : SecM × Nat × Nat => hdrBy p.2.1 p.1 p.2.2) (fun p => hdrBy_len p.2.1 p.1 p.2.2), List.length_zip]
                        have h1 := HEL.out
                        have h2 := HL.out
                        have h3 : min e.secs.length ((atsOf e).zip (placesOf e).1).length ≤ e.secs.length := Nat.min_le_left _ _
                        omega)
                      have XA := Lib.hid (show (atsOf e)[nl]? = some ((atsOf e)[nl]'(by have := HALN.out; omega)) from List.getElem?_eq_getElem _)
                      have hab : (atsOf e)[nl]'(by have := HALN.out; omega) ≤ 130000 := HAK.out.2 _ (List.getElem_mem _)
                      obtain ⟨bA, oA, hA1, cA⟩ := HAC.out nl (by have := HALN.out; omega)
                      rw [XA.out] at cA
                      generalize (atsOf e)[nl]'(by have := HALN.out; omega) = na at *
                      simp only [Option.getD_some] at cA
                      replace cA := (HB.out.cell (block_lt cA)).trans cA
                      subst hA1
                      have HFB : Hid (fileB e = midB e ++ hdrsB e ++ hdrBy na (tabSec tn) pe) := by
                        unfold fileB
                        rw [← htn.out, ← HPE.out, show e.secs.length = nl by have h1 := HEL.out; have h2 := HL.out; omega, XA.out]
                        exact rfl
                      generalize hT : midB e ++ hdrsB e = T at *
                      clear HO HB hkn hT c4
                      go_wp2_with fail
                      clear cA
                      refine (header_any T na pe (tabSec tn) (.slice none 0 0) _ wr w5.heap.size (by have := HTL.out; omega) (by omega) (by omega) (tabSec_fits (by omega)) rfl HV50.out HB50.out.size).mono ?_
                      rintro r w51 ⟨v51, rfl, ho, hb, -⟩
                      have HF51 := Lib.hid (show OB w51 w.heap.size v51 (fileB e) by rw [HFB.out]; exact ho.base (by omega))
                      have HB51 := Lib.hid (HB50.out.trans hb)
                      clear ho hb
                      go_wp2
                      go_ret2
                      exact ⟨_, by rw [HR.out]; rfl, by rw [HR.out]; exact HF51.out, HB5w.out.trans (HB51.out.mono (by omega))⟩
end Go.Proofs.Ytimnbnomaajmmaa
namespace Go.Fd
open Go.RowKit
structure FlM where
  code : Int
  a : Int
  b : Int
deriving DecidableEq
structure WSec where
  name : Nat
  typ : Nat
  addr : Nat
  align : Nat
  pl : Nat
  size : Nat
/-- Have two stretches some in common? -/
def commonB (a s b t : Nat) : Bool := if b < a then decide (0 < s) && decide (a - b < t) else decide (0 < t) && decide (b - a < s)
/-- Is a stretch within the first n? -/
def withinB (a s n : Nat) : Bool := decide (s = 0) || (decide (a ≤ n) && decide (s ≤ n - a))
def fullB (s : WSec) : Bool := !decide (s.typ = 0) && !decide (s.typ = 8)
def pow2B (n : Nat) : Bool := !decide (n = 0) && decide (n &&& (n - 1) = 0)
def namedB (s : WSec) (tab : List UInt8) : Bool := decide (s.name < tab.length) && decide ((0 : UInt8) ∈ tab.drop s.name)
end Go.Fd
namespace Go.Proofs.Ytimnbnomaajmmaa
open Go.RowKit Go.Fd
def secW (l : List UInt8) (a : Nat) : WSec := ⟨gN l a 4, gN l (a + 4) 4, gN l (a + 16) 8, gN l (a + 48) 8, gN l (a + 24) 8, gN l (a + 32) 8⟩
def secsW (l : List UInt8) (n : Nat) : List WSec := (List.range n).map fun i => secW l (gN l 40 8 + 64 * i)
/-- Does it begin as a file does? -/
def bad1 (l : List UInt8) : Bool := decide (l.length < 64) || !decide (l.take 7 = [127, 69, 76, 70, 2, 1, 1])
def bad2 (l : List UInt8) : Bool := (!decide (gN l 16 2 = 1) && !decide (gN l 16 2 = 2)) || !decide (gN l 20 4 = 1) || !decide (gN l 52 2 = 64) || (decide (0 < gN l 56 2) && !decide (gN l 54 2 = 56)) || !decide (gN l 58 2 = 64)
def bad3 (l : List UInt8) : Bool := !withinB (gN l 32 8) (gN l 56 2 * 56) l.length || !withinB (gN l 40 8) (gN l 60 2 * 64) l.length || decide (gN l 60 2 ≤ gN l 62 2)
def fl (b : Bool) (c a d : Int) : List FlM := if b = true then [⟨c, a, d⟩] else []
def headF (l : List UInt8) : List FlM := if bad1 l = true then [⟨1, 0, 0⟩] else fl (bad2 l) 2 0 0 ++ fl (bad3 l) 3 0 0
/-- The table of names. -/
def tabW (l : List UInt8) (t : WSec) : List UInt8 := if fullB t = true ∧ 0 < t.size then (l.drop t.pl).take t.size else []
/-- What a section's flaw tells. -/
def SecFl (l : List UInt8) (S : List WSec) (own : Nat) (f : FlM) : Prop :=
  (∃ (i : Nat) (s : WSec), S[i]? = some s ∧ f = ⟨4, i, 0⟩ ∧ fullB s = true ∧ withinB s.pl s.size l.length = false) ∨
  (∃ (i : Nat) (s : WSec), S[i]? = some s ∧ f = ⟨5, i, 0⟩ ∧ s.align ≠ 0 ∧ (pow2B s.align = false ∨ s.addr % s.align ≠ 0)) ∨
  (∃ (i : Nat) (s t : WSec), S[i]? = some s ∧ S[own]? = some t ∧ f = ⟨6, i, 0⟩ ∧ namedB s (tabW l t) = false) ∨
  (∃ (i k : Nat) (s t : WSec), i < k ∧ S[i]? = some s ∧ S[k]? = some t ∧ f = ⟨7, i, k⟩ ∧ fullB s = true ∧ fullB t = true ∧ commonB s.pl s.size t.pl t.size = true)
/-- What a flaw of a file with a sound header tells. -/
def FlOk (l : List UInt8) (f : FlM) : Prop := SecFl l (secsW l (gN l 60 2)) (gN l 62 2) f ∨ (8 ≤ f.code ∧ (gN l 56 2 ≠ 0 ∨ gN l 16 2 = 2))
/-- What the flaws of a file are. -/
def Checked (l : List UInt8) (F : List FlM) : Prop := (headF l ≠ [] → F = headF l) ∧ (headF l = [] → ∀ f ∈ F, FlOk l f)
end Go.Proofs.Ytimnbnomaajmmaa
namespace Go.Fd
open Go.RowKit
section
variable {P : Program} {L : List Oper} {Q : Exit → Act → World → Prop} {w0 : World} {fuel i : Nat} {listed : Array Bool} {a : Act} {w : World} {o : Oper}
abbrev SAb (w0 : World) : World → Prop := fun w => Below w0.heap.size w0 w
/-- An operation that reads, taken first. -/
theorem held_quiet (hi : L[i]? = some o) (hB : (Region.noSelect L.toArray && Region.free .any L.toArray listed i && (Region.ready .any L.toArray listed).contains i) = true) (hw : Region.wanted o (yielded L.toArray a.tmps) = true) (hv : valB o = true)
    (hQ : ∀ v c a w, Q (.panic c) (a.put o.dst v) w → Q (.panic c) a w) (hb : Below w0.heap.size w0 w)
    (h : ∀ K : Act → Prop, (∀ a, wpAnyH P .any L.toArray Q (SAb w0) fuel (listed.setIfInBounds i true) a w → K a) → o.quiet P a (fun w => ∃ x : Above w0, w = x.w) K) : wpAnyH P .any L.toArray Q (SAb w0) (fuel + 1) listed a w := by
  simp only [Bool.and_eq_true] at hB
  obtain ⟨⟨h1, h2⟩, h3⟩ := hB
  obtain ⟨v, k1, k2⟩ := h (fun a => wpAnyH P .any L.toArray Q (SAb w0) fuel (listed.setIfInBounds i true) a w) (fun _ h => h)
  refine wpAnyH_take (i := i) (oi := o) (v := v) (by simpa using hi) h1 h2 h3 (hQ v) (.inl ⟨hw, fun w' hw' => ?_⟩) hb k2
  have := k1 w' ⟨⟨w', hw'⟩, rfl⟩
  unfold Oper.quietAt at this
  generalize hr : (execOp a.eval o).run P w' = res at this
  cases res with
  | halt x w2 => exact this.elim
  | ok n w2 =>
    obtain ⟨u, rfl⟩ := valB_spec hv hr
    obtain ⟨rfl, rfl⟩ := (this : w2 = w' ∧ u = v)
    rfl
theorem wpOp_of_list {ops : Array Oper} {K : Act → World → Prop} (hi : ops[i]? = some o) (h : wpList P ops (Exit.then K Q) [o] a w) : wpOp P ops Q i K a w := by
  unfold wpOp
  rw [hi]
  simp only [wpList] at h
  split at h
  · next hw =>
    simp only [hw, if_true]
    rcases h with h | ⟨h1, a1, w1, h2⟩
    · left
      unfold Oper.wp at *
      generalize (execOp a.eval o).run P w = r at *
      cases r with
      | ok n w' =>
        cases n <;> simp only [Oper.upon] at h ⊢ <;>
          first
            | exact h
            | exact Calls.mono h (fun e w'' he => by
                cases e with
                | returned v => exact he
                | panicked c => exact he
                | outgrown => obtain ⟨a0, w0, h0⟩ := (he : LetsOut _); exact ⟨a0, w0, h0⟩)
      | halt x w' => cases x <;> simp only [Oper.upon] at h ⊢ <;> exact h
    · right
      exact ⟨h1, a1, w1, h2⟩
  · next hw =>
    simp only [hw]
    exact h
end
end Go.Fd
namespace Go.Proofs.Ytimnbnomaajmmaa
open Go.RowKit Go.Fd
theorem readE_ok {l : List UInt8} (hl : l.length ≤ 4194304) : ElfOk (readE l).1 := by
  unfold readE
  split
  · exact elf0_ok
  · split
    · next h => exact parse_ok hl h.1
    · exact elf0_ok
theorem readE_data {l : List UInt8} {s : SecM} (h : s ∈ (readE l).1.secs) : s.data.length ≤ l.length := by
  unfold readE at h
  split at h
  · exact absurd h (by simp [elf0])
  · split at h
    · obtain ⟨i, hi⟩ := List.mem_iff_getElem?.1 h
      rw [secsP_get hi]
      exact secP_data _ _ _
    · exact absurd h (by simp [elf0])
attribute [local irreducible] readE
end Go.Proofs.Ytimnbnomaajmmaa
namespace Go.Proofs.Ytimnbnomaajmmaa
open Go.RowKit Go.Fd
/-! ### What is read is in its bounds -/
theorem symRd_small (b names : List UInt8) : (symRd b names).1.length ≤ b.length / 24 := by
  unfold symRd
  split
  · simp
  · split
    · next L hL => rw [foldSym_len b names _ _ hL]; omega
    · simp
theorem symRd_wf (b names : List UInt8) : ∀ x ∈ (symRd b names).1, x.value < 18446744073709551616 ∧ x.size < 18446744073709551616 := by
  have hf : ∀ k L, foldU (stepSym b names) k = .ok L → ∀ x ∈ L, x.value < 18446744073709551616 ∧ x.size < 18446744073709551616 := by
    intro k
    induction k with
    | zero => intro L h x hx; cases h; simp at hx
    | succ k ih =>
      intro L h x hx
      rw [foldU] at h
      cases hq : foldU (stepSym b names) k with
      | error e => rw [hq] at h; cases h
      | ok L0 =>
        rw [hq] at h
        have h' : stepSym b names k L0 = .ok L := h
        unfold stepSym at h'
        split at h'
        · cases h'
        · split at h'
          · cases h'
          · split at h'
            · cases h'
            · cases h'
              rw [List.mem_append, List.mem_singleton] at hx
              rcases hx with hx | rfl
              · exact ih L0 hq x hx
              · unfold recS
                exact ⟨by have := numLE_cut b (24 * (k + 1) + 8) 8; simpa using this, by have := numLE_cut b (24 * (k + 1) + 16) 8; simpa using this⟩
  unfold symRd
  split
  · simp
  · split
    · next L hL => exact hf _ _ hL
    · simp
theorem relaRd_wf (b : List UInt8) : ∀ x ∈ (relaRd b).1, x.off < 18446744073709551616 ∧ -9223372036854775808 ≤ x.add ∧ x.add < 9223372036854775808 := by
  have hf : ∀ k L, foldU (stepRela b) k = .ok L → ∀ x ∈ L, x.off < 18446744073709551616 ∧ -9223372036854775808 ≤ x.add ∧ x.add < 9223372036854775808 := by
    intro k
    induction k with
    | zero => intro L h x hx; cases h; simp at hx
    | succ k ih =>
      intro L h x hx
      rw [foldU] at h
      cases hq : foldU (stepRela b) k with
      | error e => rw [hq] at h; cases h
      | ok L0 =>
        rw [hq] at h
        have h' : stepRela b k L0 = .ok L := h
        unfold stepRela at h'
        split at h'
        · cases h'
        · cases h'
          rw [List.mem_append, List.mem_singleton] at hx
          rcases hx with hx | rfl
          · exact ih L0 hq x hx
          · have := numLE_cut b (24 * k) 8
            unfold recR
            refine ⟨by simpa using this, ?_, ?_⟩
            · dsimp only; rw [wrap64]; omega
            · dsimp only; rw [wrap64]; omega
  unfold relaRd
  split
  · split
    · next L hL => exact hf _ _ hL
    · simp
  · simp
/-- A part's numbers in their bounds. -/
structure PartWf (p : PartM) : Prop where
  align : -9223372036854775808 ≤ p.align ∧ p.align < 9223372036854775808
  size : -9223372036854775808 ≤ p.size ∧ p.size < 9223372036854775808
  data : p.data.length ≤ 24000
  many : p.relas.length ≤ 1000
  relas : ∀ x ∈ p.relas, x.off < 18446744073709551616 ∧ -9223372036854775808 ≤ x.add ∧ x.add < 9223372036854775808
theorem partOf_wf {s : SecM} (h : s.data.length ≤ 24000) : PartWf (partOf s) :=
  ⟨⟨by show _ ≤ wrap64 _; rw [wrap64]; omega, by show wrap64 _ < _; rw [wrap64]; omega⟩, ⟨by show _ ≤ wrap64 _; rw [wrap64]; omega, by show wrap64 _ < _; rw [wrap64]; omega⟩, h, Nat.zero_le _, fun x hx => by cases hx⟩
theorem setRel_wf {ps : List PartM} (h : ∀ p ∈ ps, PartWf p) (i : Nat) {b : List UInt8} (hb : b.length ≤ 24000) : ∀ p ∈ setRel ps i (relaRd b).1, PartWf p := by
  intro p hp
  unfold setRel at hp
  obtain ⟨j, hj⟩ := List.mem_iff_getElem?.1 hp
  rw [List.getElem?_modify] at hj
  cases hq : ps[j]? with
  | none => rw [hq] at hj; cases hj
  | some q =>
    rw [hq] at hj
    have hw := h q (List.mem_of_getElem? hq)
    split at hj
    · cases hj
      exact ⟨hw.align, hw.size, hw.data, by have := relaRd_len b; dsimp only; omega, relaRd_wf b⟩
    · cases hj; exact hw
theorem modP_wf : ∀ (ss : List SecM) (ps : List PartM) (A : List (List UInt8 × Nat)) (qs : List PartM), (∀ p ∈ ps, PartWf p) → (∀ s ∈ ss, s.data.length ≤ 24000) → modP ss ps A = some qs → ∀ p ∈ qs, PartWf p := by
  intro ss
  induction ss with
  | nil => intro ps A qs h _ e; cases e; exact h
  | cons s ss ih =>
    intro ps A qs h hs e
    have hs' : ∀ x ∈ ss, x.data.length ≤ 24000 := fun x hx => hs x (by simp [hx])
    rw [modP] at e
    split at e
    · refine ih _ _ _ (fun p hp => ?_) hs' e
      rcases List.mem_append.1 hp with hp | hp
      · exact h p hp
      · rw [List.mem_singleton] at hp; subst hp; exact partOf_wf (hs s (by simp))
    · split at e
      · cases e
      · split at e
        · cases e
        · exact ih _ _ _ (setRel_wf h _ (hs s (by simp))) hs' e
theorem modR_wf : ∀ (ss : List SecM) (ps qs : List PartM), (∀ p ∈ ps, PartWf p) → (∀ s ∈ ss, s.data.length ≤ 24000) → modR ss ps = some qs → ∀ p ∈ qs, PartWf p := by
  intro ss
  induction ss with
  | nil => intro ps qs h _ e; cases e; exact h
  | cons s ss ih =>
    intro ps qs h hs e
    have hs' : ∀ x ∈ ss, x.data.length ≤ 24000 := fun x hx => hs x (by simp [hx])
    rw [modR] at e
    split at e
    · refine ih _ _ (fun p hp => ?_) hs' e
      rcases List.mem_append.1 hp with hp | hp
      · exact h p hp
      · rw [List.mem_singleton] at hp; subst hp; exact partOf_wf (hs s (by simp))
    · split at e
      · cases e
      · split at e
        · cases e
        · exact ih _ _ (setRel_wf h _ (hs s (by simp))) hs' e
theorem objWf_of {o : ObjM} (h1 : -9223372036854775808 ≤ o.target ∧ o.target < 9223372036854775808) (h2 : ∀ p ∈ o.parts, PartWf p) (h3 : o.syms.length ≤ 1000) (h4 : ∀ s ∈ o.syms, s.value < 18446744073709551616 ∧ s.size < 18446744073709551616) : ObjWf o :=
  ⟨h1, fun p hp => ⟨(h2 p hp).align, (h2 p hp).size, by have := (h2 p hp).data; omega⟩, fun p hp => ⟨(h2 p hp).many, (h2 p hp).relas⟩, h3, h4⟩
theorem secsO_wf {md : List SecM → Option (List PartM)} {e : ElfM} {o : ObjM} (hm : ∀ ss qs, (∀ s ∈ ss, s.data.length ≤ 24000) → md ss = some qs → ∀ p ∈ qs, PartWf p) (he : e.fits) (hd : ∀ s ∈ e.secs, s.data.length ≤ 24000) (h : secsO md e = some o) : ObjWf o := by
  unfold secsO at h
  split at h
  · cases h
  · split at h
    · cases h
    · cases hp : md (e.secs.take (e.secs.length - 2)) with
      | none => rw [hp] at h; cases h
      | some ps =>
        rw [hp] at h
        cases h
        refine objWf_of he.target (hm _ _ (fun s hs => hd s (List.mem_of_mem_take hs)) hp) ?_ (symRd_wf _ _)
        have h1 := symRd_small (e.secs[e.secs.length - 2]?.elim [] (·.data)) (e.secs[e.secs.length - 1]?.elim [] (·.data))
        have h2 : (e.secs[e.secs.length - 2]?.elim [] (·.data) : List UInt8).length ≤ 24000 := by
          cases hx : e.secs[e.secs.length - 2]? with
          | none => simp
          | some s => exact hd s (List.mem_of_getElem? hx)
        dsimp only
        omega
/-! ### A module's file -/
theorem relSecs_mem {st : Nat} {s : SecM} : ∀ (ps : List PartM) (i : Nat), s ∈ relSecs st i ps → ∃ p ∈ ps, ∃ j, j < i + ps.length ∧ s = relSec st j p := by
  intro ps
  induction ps with
  | nil => intro i h; cases h
  | cons p ps ih =>
    intro i h
    rw [relSecs] at h
    have hrest : s ∈ relSecs st (i + 1) ps → ∃ q ∈ p :: ps, ∃ j, j < i + (p :: ps).length ∧ s = relSec st j q := fun hs => by
      obtain ⟨q, hq, j, hj, e⟩ := ih _ hs
      exact ⟨q, by simp [hq], j, by rw [List.length_cons]; omega, e⟩
    split at h
    · rcases List.mem_cons.1 h with rfl | h
      · exact ⟨p, by simp, i, by rw [List.length_cons]; omega, rfl⟩
      · exact hrest h
    · exact hrest h
theorem firstE_0 {α : Type} {f : α → Int} : ∀ {l : List α}, firstE f l = 0 → ∀ x ∈ l, f x = 0 := by
  intro l
  induction l with
  | nil => intro _ x hx; cases hx
  | cons y l ih =>
    intro h x hx
    rw [firstE] at h
    split at h
    · next h0 =>
      rcases List.mem_cons.1 hx with rfl | hx
      · exact h0
      · exact ih h x hx
    · next h0 => exact absurd h h0
structure MayO (o : ObjM) : Prop where
  target : 1 ≤ o.target ∧ o.target ≤ 3
  many : o.parts.length ≤ 100 ∧ o.syms.length ≤ 16384
  parts : partsE o.parts [] = 0
  syms : (symW o.syms).2.2.2 = 0
  secs : ∀ s ∈ o.syms, secE o.parts.length s = 0
  relas : ∀ p ∈ o.parts, ∀ r ∈ p.relas, relE o.syms.length p.size r = 0
theorem mayO_0 {o : ObjM} (h : mayO o = 0) : MayO o := by
  unfold mayO at h
  split at h
  · omega
  · next h1 =>
    split at h
    · omega
    · next h2 =>
      split at h
      · next h3 => exact absurd h h3
      · next h3 =>
        split at h
        · next h4 => exact absurd h h4
        · next h4 =>
          split at h
          · next h5 => exact absurd h h5
          · next h5 => exact ⟨by omega, by omega, Classical.not_not.1 h3, Classical.not_not.1 h4, firstE_0 (Classical.not_not.1 h5), fun p hp => firstE_0 (firstE_0 h p hp)⟩
theorem relW_0 {o : ObjM} (h : MayO o) : ∀ p ∈ o.parts, (relaW p.relas).2 = 0 := by
  intro p hp
  unfold relaW
  rw [if_neg]
  rw [Bool.not_eq_true, List.any_eq_false]
  intro r hr
  have hre := h.relas p hp r hr
  have hm := h.many
  unfold relE at hre
  unfold relaBad
  repeat' split at hre
  all_goals first | omega | skip
  simp only [Bool.or_eq_true, decide_eq_true_eq]
  omega
theorem fileO_0 {o : ObjM} {b : List UInt8} (h : fileO o = (b, 0)) : MayO o ∧ mayE (elfO o) = true ∧ b = fileB (elfO o) := by
  unfold fileO at h
  split at h
  · next h0 => rw [Prod.mk.injEq] at h; exact absurd h.2 h0
  · next h0 =>
    split at h
    · next h1 => rw [Prod.mk.injEq] at h; exact ⟨mayO_0 (Classical.not_not.1 h0), h1, h.1.symm⟩
    · rw [Prod.mk.injEq] at h; exact absurd h.2 (by omega)
theorem elfO_fits' {o : ObjM} (hw : ObjWf o) (h : MayO o) (hd : ∀ s ∈ (elfO o).secs, s.data.length ≤ 4194304) : (elfO o).fits := by
  have hst : symtabNo o ≤ 201 := by
    have h1 := h.many
    have h2 : o.parts.countP hasRel ≤ o.parts.length := List.countP_le_length
    unfold symtabNo
    omega
  refine ⟨⟨by show _ ≤ (1 : Int); omega, by show (1 : Int) < _; omega⟩, hw.target, ?_, by show 0 < _; omega, fun s hs => ?_, fun s hs => by cases hs⟩
  · show (if o.target = 3 then 1 else 0) < _; split <;> omega
  · have hds := hd s hs
    have hs' : s ∈ o.parts.map secPart ++ relSecs (symtabNo o) 0 o.parts ++ [symSec o, strSec o] := hs
    rw [List.mem_append, List.mem_append] at hs'
    rcases hs' with (hs' | hs') | hs'
    · obtain ⟨p, hp, rfl⟩ := List.mem_map.1 hs'
      have hb := bits_lt p.flags
      refine ⟨?_, by show bitsN p.flags < _; omega, by show 0 < _; omega, u64of_lt _, u64of_lt _, by show 0 < _; omega, by show 0 < _; omega, by show 0 < _; omega⟩
      show (if hasF p.flags 110 = true then 8 else 1) < _
      split <;> omega
    · obtain ⟨p, hp, j, hj, rfl⟩ := relSecs_mem _ _ hs'
      have h1 := h.many
      refine ⟨by show 4 < _; omega, by show 64 < _; omega, by show 0 < _; omega, by show 8 < _; omega, ?_, by show symtabNo o < _; omega, by show j + 1 < _; omega, by show 24 < _; omega⟩
      show (relaW p.relas).1.length < _
      have : (relaW p.relas).1.length ≤ 4194304 := hds
      omega
    · rcases List.mem_cons.1 hs' with rfl | hs'
      · refine ⟨by show 2 < _; omega, by show 0 < _; omega, by show 0 < _; omega, by show 8 < _; omega, ?_, by show symtabNo o + 1 < _; omega, ?_, by show 24 < _; omega⟩
        · show (symW o.syms).1.length < _
          have : (symW o.syms).1.length ≤ 4194304 := hds
          omega
        · show (symW o.syms).2.2.1 < _
          have h1 := hw.many
          have h2 : (symW o.syms).2.2.1 ≤ 1001 := by
            unfold symW
            have := List.countP_le_length (p := fun s : SymM => decide (s.bind = 0)) (l := o.syms)
            repeat' split
            all_goals dsimp only
            all_goals first | omega | (unfold locs; omega)
          omega
      · rcases List.mem_singleton.1 hs' with rfl
        refine ⟨by show 3 < _; omega, by show 0 < _; omega, by show 0 < _; omega, by show 1 < _; omega, ?_, by show 0 < _; omega, by show 0 < _; omega, by show 0 < _; omega⟩
        show (symW o.syms).2.1.length < _
        have : (symW o.syms).2.1.length ≤ 4194304 := hds
        omega
theorem elfO_fits {o : ObjM} (hw : ObjWf o) (h : MayO o) (hm : mayE (elfO o) = true) : (elfO o).fits := elfO_fits' hw h (by
  intro s hs
  unfold mayE may2 at hm
  simp only [Bool.and_eq_true] at hm
  have := List.all_eq_true.1 hm.1.2.1 s hs
  simp only [Bool.and_eq_true, decide_eq_true_eq] at this
  exact this.2)
theorem elfO_cut (o : ObjM) : ¬ (elfO o).secs.length < 2 ∧ (elfO o).secs.take ((elfO o).secs.length - 2) = o.parts.map secPart ++ relSecs (symtabNo o) 0 o.parts ∧ (elfO o).secs[(elfO o).secs.length - 2]? = some (symSec o) ∧ (elfO o).secs[(elfO o).secs.length - 1]? = some (strSec o) := by
  have h : (elfO o).secs = (o.parts.map secPart ++ relSecs (symtabNo o) 0 o.parts) ++ [symSec o, strSec o] := rfl
  rw [h]
  generalize o.parts.map secPart ++ relSecs (symtabNo o) 0 o.parts = L
  have hl : (L ++ [symSec o, strSec o]).length = L.length + 2 := by simp
  rw [hl]
  refine ⟨by omega, ?_, ?_, ?_⟩
  · rw [show L.length + 2 - 2 = L.length by omega, List.take_left]
  · rw [show L.length + 2 - 2 = L.length by omega, List.getElem?_append_right (by omega), Nat.sub_self]; rfl
  · rw [show L.length + 2 - 1 = L.length + 1 by omega, List.getElem?_append_right (by omega), show L.length + 1 - L.length = 1 by omega]; rfl
theorem secsO_elfO {md : List SecM → Option (List PartM)} {o : ObjM} (hw : ObjWf o) (h : MayO o) (hm : md (o.parts.map secPart ++ relSecs (symtabNo o) 0 o.parts) = some o.parts) : secsO md (elfO o) = some o := by
  obtain ⟨c1, c2, c3, c4⟩ := elfO_cut o
  unfold secsO
  rw [if_neg c1, c2, c3, c4, hm]
  have hs : symRd (symW o.syms).1 (symW o.syms).2.1 = (o.syms, 0) := sym_back h.syms hw.many hw.syms
  show (if (symRd (symW o.syms).1 (symW o.syms).2.1).2 ≠ 0 then none else some (⟨o.target, o.parts, (symRd (symW o.syms).1 (symW o.syms).2.1).1⟩ : ObjM)) = some o
  rw [hs, if_neg (by simp)]
theorem mods_back {o : ObjM} (hw : ObjWf o) (h : MayO o) : modP (o.parts.map secPart ++ relSecs (symtabNo o) 0 o.parts) [] [] = some o.parts ∧ modR (o.parts.map secPart ++ relSecs (symtabNo o) 0 o.parts) [] = some o.parts := by
  obtain ⟨p1, p2, -⟩ := partsE_0 _ _ h.parts
  have hp : ∀ p ∈ o.parts, partE p false = 0 ∧ p.data.length < 4611686018427387904 := fun p hp => ⟨p1 p hp, (hw.nums p hp).2.2⟩
  have hr : ∀ p ∈ o.parts, relaRd (relaW p.relas).1 = (p.relas, 0) := fun p hp => rela_back (relW_0 h p hp) (hw.relas p hp).2
  constructor
  · obtain ⟨A', e1, e2⟩ := modP_parts o.parts [] [] (relSecs (symtabNo o) 0 o.parts) hp (by simpa using p2) (fun j q hj => by cases hj)
    rw [e1]
    exact modP_rels A' (symtabNo o) o.parts [] hr e2
  · rw [modR_parts _ _ _ hp]
    exact modR_rels (symtabNo o) o.parts [] hr
/-- A module's file is read as the module, either way. -/
theorem obj_back {o : ObjM} {b : List UInt8} (hw : ObjWf o) (h : fileO o = (b, 0)) : readE b = (elfO o, 0) ∧ secsO (fun l => modP l [] []) (elfO o) = some o ∧ secsO (fun l => modR l []) (elfO o) = some o := by
  obtain ⟨h1, h2, rfl⟩ := fileO_0 h
  obtain ⟨m1, m2⟩ := mods_back hw h1
  exact ⟨read_back h2 (elfO_fits hw h1 h2), secsO_elfO hw h1 m1, secsO_elfO hw h1 m2⟩
theorem read_obj {o : ObjM} {b : List UInt8} (hw : ObjWf o) (h : fileO o = (b, 0)) : readO (fun l => modP l [] []) b = (o, 0) ∧ readO (fun l => modR l []) b = (o, 0) := by
  obtain ⟨h1, h2, h3⟩ := obj_back hw h
  unfold readO
  rw [h1, if_neg (by simp)]
  dsimp only
  rw [h2, h3]
  dsimp only
  rw [if_pos h]
  exact ⟨rfl, rfl⟩
end Go.Proofs.Ytimnbnomaajmmaa
namespace Go.Proofs.Ytimnbnomaajmmaa
open Go.RowKit Go.Fd
theorem refPart_any (p : PartM) (dv0 rv av : Value) (A : List (PartM × Value × Value)) (w : World) (hd : Bs w dv0 p.data) (hv : RdR 6 encPart w av A) (hnl : p.name.length ≤ 9223372036854775807) (hfl : p.flags.length ≤ 9223372036854775807) (hcm : p.data.length ≤ 9223372036854775807) (hal : A.length ≤ 1000) :
    Calls Try.prog 28 #[partV (p, dv0, rv), av] w fun e w' => e = .returned (.int .i64 (partE p (decide (p.name ∈ A.map (·.1.name))))) ∧ Below w.heap.size w w' := by
  cases hn : namedF p.name with
  | true => exact refPart_ok p dv0 rv av A w hd hv hnl hfl hcm hal hn
  | false =>
    refine (refPart_name p dv0 rv av A w hv hnl hn).mono fun e w' h => ⟨?_, h.2⟩
    rw [h.1]
    unfold partE
    rw [if_pos hn]
/-- What memory holds of a module. -/
structure ObjAt (w : World) (o : ObjM) (L : List (PartM × Value × Value)) (pv sv : Value) : Prop where
  parts : o.parts = L.map (·.1)
  rd : RdR 6 encPart w pv L
  data : ∀ p ∈ L, Bs w p.2.1 p.1.data
  rela : ∀ p ∈ L, RdR 4 encRela w p.2.2 p.1.relas
  syms : RdR 6 encSym w sv o.syms
theorem ObjAt.mono {w w' : World} {o : ObjM} {L : List (PartM × Value × Value)} {pv sv : Value} (h : ObjAt w o L pv sv) (hb : Below w.heap.size w w') : ObjAt w' o L pv sv :=
  ⟨h.parts, h.rd.mono hb, fun p hp => (h.data p hp).mono hb, fun p hp => (h.rela p hp).mono hb, h.syms.mono hb⟩
/-- What is asked of a module, so that no number in a walk is too great. -/
structure ObjOk (o : ObjM) : Prop where
  wf : ObjWf o
  many : o.parts.length ≤ 1000
  names : ∀ p ∈ o.parts, p.name.length ≤ 9223372036854775807 ∧ p.flags.length ≤ 9223372036854775807
  data : ∀ p ∈ o.parts, p.data.length ≤ 1000000
  syms : ∀ s ∈ o.syms, s.name.length ≤ 9223372036854775807
abbrev objV (o : ObjM) (pv sv : Value) : Value := .agg #[.int .i64 o.target, pv, sv]
theorem obj_box {w : World} {g : Nat} {t : Int} {pv sv : Value} {ty : TypeId} {fr : Nat × Nat} (h : w.heap[g]? = some (.cells #[.int .i64 t, pv, sv] ty fr)) :
    w.cell? ⟨g, 0, none⟩ = some (.int .i64 t) ∧ w.cell? ⟨g, 1, none⟩ = some pv ∧ w.cell? ⟨g, 2, none⟩ = some sv :=
  ⟨cell_rec h 0, cell_rec h 1, cell_rec h 2⟩
/-- One cell of a block that was made: a number. -/
theorem wpList_setN {P : Program} {ops : Array Oper} {rest : List Oper} {Q : Exit → Act → World → Prop} {a : Act} {w : World} {d : Option Tmp} {ty t tb : TypeId} {pos : String} {aft : Array Edge} {p x : Operand} {c : Array Value} {g j base : Nat} {k : IntKind} {n : Int} (hg : w.heap[g]? = some (.cells c tb (0, 0))) (hj : j < c.size) (hp : a.eval p = .pointer (some ⟨g, j, none⟩)) (hx : a.eval x = .int k n) (hB : base ≤ g) (hBw : base ≤ w.heap.size) (hs : ∀ w, (sizeOf t).run P w = .ok 1 w)
    (h : ∀ w1, w1.heap[g]? = some (.cells (c.setIfInBounds j (.int k n)) tb (0, 0)) → Below base w w1 → Stirs (fun k => k = g) w w1 → wpList P ops Q rest (a.put d undef) w1) :
    wpList P ops Q (⟨d, .store t p x, ty, pos, aft, none⟩ :: rest) a w := by
  have hc : w.cell? ⟨g, j, none⟩ = some c[j] := (cell_rec hg j).trans (Array.getElem?_eq_getElem hj)
  have hfz := free_rec' hg j
  have hst : Stirs (fun k => k = g) w (w.setCell ⟨g, j, none⟩ (.int k n)) := stirs_setCell (S := fun k => k = g) _ g j _ rfl
  refine wpList_did (w' := w.setCell ⟨g, j, none⟩ (.int k n)) rfl ?_ (h _ ?_ ?_ hst)
  · simp only [execOp, hp, hx]
    simp [go_sem, hs, hc, hfz]
  · simp [World.setCell, Array.getElem?_modify, hg]
  · exact hst.below hBw (fun k hk => by rw [hk]; exact hB)
set_option maxHeartbeats 4000000 in
set_option maxRecDepth 100000 in
theorem section6_any (p : PartM) (dv rv : Value) (w : World) (hd : Bs w dv p.data) :
    Calls Try.prog 19 #[partV (p, dv, rv)] w fun e w' => e = .returned (secV (secPart p, dv)) ∧ Below w.heap.size w w' := by
  have HBI := Lib.hid (fun w => bits6_any p.flags w)
  have HHA := Lib.hid (fun w => has_any p.flags 110 w)
  have HS : Hid (secPart p = ⟨p.name, if hasF p.flags 110 then 8 else 1, bitsN p.flags, 0, u64of p.align, u64of p.size, 0, 0, 0, p.data⟩) := rfl
  have hu1 := u64of_cast p.align
  have hu2 := u64of_cast p.size
  obtain ⟨m, a, cap, hm, rfl, hmc, _⟩ := hd.shape
  generalize secPart p = sp at *
  generalize bitsN p.flags = bn at *
  generalize hasF p.flags 110 = hf at *
  generalize u64of p.align = ua at *
  generalize u64of p.size = us at *
  obtain ⟨name, flags, align, size, data, relas⟩ := p
  dsimp only at *
  clear hd
  go_enter Try.func19, Try.ntmps19
  go_wp2_with (first
    | ((with_reducible show wpList _ _ _ (⟨some 1, .box _ _, _, _, _, _⟩ :: _) _ _); go_must (refine wpList_box rfl ?_; intro w1 hx1 hb1 hs1; have HX1 := Lib.hid hx1; have HB1 := Lib.hid hb1; clear hx1 hb1))
    | ((with_reducible show wpList _ _ _ (⟨some 2, .alloc _, _, _, _, _⟩ :: _) _ _); go_must (refine wpList_allocSec ?_; intro w2 hx2 hb2 hs2; have HX2 := Lib.hid hx2; have HX12 := Lib.hid (heap_below hb2 HX1.out); have HB2 := Lib.hid (HB1.out.trans (hb2.mono HB1.out.size)); clear hx2 hb2)))
  obtain ⟨c0, c1, c2, c3, c4, c5⟩ := part_box (x := (⟨name, flags, align, size, data, relas⟩, Value.slice a m cap, rv)) HX12.out
  have hAB := fun (x : Above w2) (b k : Nat) (h : b < w2.heap.size) => Above.cell x b k h
  have l0 := block_lt c0
  refine wp_region_walk 15 [(4, .is (.int .u64 (bn : Int))), (14, Yld.new w2.heap.size 54 10)] (by kernel_rfl) (by kernel_rfl) ?_
  simp only [List.take_succ_cons, List.take_zero, List.drop_succ_cons, List.drop_zero]
  repeat (refine walk_quiet rfl rfl rfl ?_; intro K hK; go_big_quiet_op; go_big_quiet_on)
  refine walk_is rfl rfl (fun wx hwx _ => WpYld.callIsB (run_callL (vals := [S flags]) Try.func34 (by kernel_rfl) rfl rfl) (HBI.out wx)) ?_
  go_frame
  repeat (refine walk_quiet rfl rfl rfl ?_; intro K hK; go_big_quiet_op; go_big_quiet_on)
  refine walk_new rfl rfl (fun wx hwx _ => WpYld.val run_allocSec (Yld.new_mk _ hwx).1 (Yld.new_mk _ hwx).2) (fun gb => ?_)
  go_frame
  refine walk_nil ?_
  intro wz hbz hF
  obtain ⟨hgb, cs, hcs, hcn⟩ := Yld.new_got (hF 14 _ 3 _ rfl rfl rfl rfl)
  clear hF hAB c0 c1 c2 c3 c4 c5
  refine wpList_storeMade hcs rfl rfl (by kernel_rfl) (by rw [hcn]; rfl) (by simp [Value.oneCell']) hgb hbz.size ?_
  intro w3 hh3 hb3
  clear hcs hcn
  have HH3 := Lib.hid hh3
  have h12 : w1.heap.size ≤ w2.heap.size := Nat.le_of_lt hs2
  have HX13 := Lib.hid (heap_base hb3 (heap_below hbz HX12.out) l0)
  have HX23 := Lib.hid (heap_base hb3 (heap_below hbz HX2.out) hs2)
  have HB23 := Lib.hid (hbz.trans hb3)
  have HB3 := Lib.hid (HB2.out.trans (HB23.out.mono HB2.out.size))
  have h3 := HB23.out.size
  clear hh3 hb3 hbz
  obtain ⟨c0, c1, c2, c3, c4, c5⟩ := part_box (x := (⟨name, flags, align, size, data, relas⟩, Value.slice a m cap, rv)) HX13.out
  obtain ⟨z0, z1, z2, z3, z4, z5, z6, z7, z8, z9⟩ := sec_box (x := (⟨name, 1, bn, 0, ua, us, 0, 0, 0, data⟩, Value.slice a m cap)) HH3.out
  cases hf with
  | false =>
    go_wp2_with (first
      | (go_at_call 35; refine (HHA.out _).mono ?_; rintro e w4 ⟨rfl, rfl⟩)
      | ((with_reducible show wpList _ _ _ (⟨none, .store _ (.tmp 2) _, _, _, _, _⟩ :: _) _ _); go_must (refine wpList_storeMade HX23.out rfl rfl (by kernel_rfl) rfl (by simp [Value.oneCell']) HB1.out.size HB3.out.size ?_; intro w6 hh6 hb6; have HH6 := Lib.hid hh6; have HB6 := Lib.hid (HB3.out.trans hb6); clear hh6 hb6)))
    refine bodyPost_ret (results_cell_row rfl _ _ w1.heap.size _ _ _ _ rfl HH6.out rfl rfl (by kernel_rfl)) rfl ⟨?_, HB6.out⟩
    rw [HS.out]
    rfl
  | true =>
    go_wp2_with (first
      | (go_at_call 35; refine (HHA.out _).mono ?_; rintro e w4 ⟨rfl, rfl⟩)
      | ((with_reducible show wpList _ _ _ (⟨none, .store _ (.tmp 21) _, _, _, _, _⟩ :: _) _ _); go_must (refine wpList_setN HH3.out (show 1 < 10 by decide) rfl rfl hgb h3 (fun w => by kernel_rfl) ?_; intro w5 hh5 hb5 hs5; have HH5 := Lib.hid (show w5.heap[gb]? = some (.cells #[.string ⟨name.toArray⟩, .int .u32 8, .int .u64 (bn : Int), .int .u64 0, .int .u64 (ua : Int), .int .u64 (us : Int), .int .u32 0, .int .u32 0, .int .u64 0, .slice a m cap] 54 (0, 0)) from hh5); obtain ⟨z0, z1, z2, z3, z4, z5, z6, z7, z8, z9⟩ := sec_box (x := (⟨name, 8, bn, 0, ua, us, 0, 0, 0, data⟩, Value.slice a m cap)) HH5.out; have HX25 := Lib.hid (heap_base hb5 HX23.out hs2); have HB5 := Lib.hid (HB3.out.trans (hb5.mono HB2.out.size)); clear hh5 hb5))
      | ((with_reducible show wpList _ _ _ (⟨none, .store _ (.tmp 2) _, _, _, _, _⟩ :: _) _ _); go_must (refine wpList_storeMade HX25.out rfl rfl (by kernel_rfl) rfl (by simp [Value.oneCell']) HB1.out.size HB5.out.size ?_; intro w6 hh6 hb6; have HH6 := Lib.hid hh6; have HB6 := Lib.hid (HB5.out.trans hb6); clear hh6 hb6)))
    refine bodyPost_ret (results_cell_row rfl _ _ w1.heap.size _ _ _ _ rfl HH6.out rfl rfl (by kernel_rfl)) rfl ⟨?_, HB6.out⟩
    rw [HS.out]
    rfl
end Go.Proofs.Ytimnbnomaajmmaa
