/-
  Symbols and relocations as lists: compared.
-/
import Derived.Test.YtgknmmnffgikbaaSymEq
namespace Go.Proofs.Ytgknmmnffgikbaa
open Go.RowKit Go.Fd

set_option maxRecDepth 100000 in
theorem same_any (l m : List SymM) (v u : Value) (w : World) (hl : l.length ≤ 1000000000) (hm : m.length ≤ 1000000000) (hv : RdR 6 encSym w v l) (hu : RdR 6 encSym w u m) :
    Calls Try.prog 35 #[v, u] w fun e w' => e = .returned (.bool (decide (l = m))) ∧ Below w.heap.size w w' := by
  obtain ⟨a, ca, rfl, hca, hna, hc⟩ := hv.open (fun _ => rfl)
  obtain ⟨b, cb, rfl, hcb, hnb, hd⟩ := hu.open (fun _ => rfl)
  have HC := Lib.hid hc
  have HD := Lib.hid hd
  clear hc hd hna hnb hv hu
  obtain ⟨nl, hnl⟩ : ∃ n, n = l.length := ⟨_, rfl⟩
  obtain ⟨nm, hnm⟩ : ∃ n, n = m.length := ⟨_, rfl⟩
  rw [← hnl] at hl hca ⊢
  rw [← hnm] at hm hcb ⊢
  have HL := Lib.hid hnl
  have HM := Lib.hid hnm
  clear hnl hnm
  by_cases hlen : nl = nm
  · subst hlen
    go_enter Try.func35, Try.ntmps35
    go_wp2
    go_loopw [5] (fun i wr => ∃ k : Nat, i = .int .i64 k ∧ k ≤ nl ∧ Hid (l.take k = m.take k) ∧ Hid (Below w.heap.size w wr)) (fun i _ => nl - (intOf i).toNat)
    case atStart => exact ⟨0, rfl, Nat.zero_le _, by simp [Hid], Below.refl _ _⟩
    case round =>
      obtain ⟨k, rfl, hk, HT, HB⟩ := hrel
      by_cases hlt : k < nl
      · have X1 := Lib.hid (show l[k]? = some (l[k]'(by have := HL.out; omega)) from List.getElem?_eq_getElem _)
        have X2 := Lib.hid (show m[k]? = some (m[k]'(by have := HM.out; omega)) from List.getElem?_eq_getElem _)
        generalize l[k]'(by have := HL.out; omega) = x at *
        generalize m[k]'(by have := HM.out; omega) = y at *
        obtain ⟨b1, o1, ha, hc1⟩ := HC.out k x X1.out (by decide)
        obtain ⟨b2, o2, hb, hc2⟩ := HD.out k y X2.out (by decide)
        subst ha hb
        have hd1 : ∀ c v, (encSym x)[c]? = some v → wr.cell? ⟨b1, o1 + k * 6 + c, none⟩ = some v := fun c v h => by
          have h6 : c < 6 := (List.getElem?_eq_some_iff.1 h).1
          have := (hc1 c h6).trans h
          rw [← Nat.add_assoc] at this
          exact (HB.out.cell (block_lt this)).trans this
        have hd2 : ∀ c v, (encSym y)[c]? = some v → wr.cell? ⟨b2, o2 + k * 6 + c, none⟩ = some v := fun c v h => by
          have h6 : c < 6 := (List.getElem?_eq_some_iff.1 h).1
          have := (hc2 c h6).trans h
          rw [← Nat.add_assoc] at this
          exact (HB.out.cell (block_lt this)).trans this
        have c10 := hd1 0 _ rfl
        have c11 := hd1 1 _ rfl
        have c12 := hd1 2 _ rfl
        have c13 := hd1 3 _ rfl
        have c14 := hd1 4 _ rfl
        have c15 := hd1 5 _ rfl
        have c20 := hd2 0 _ rfl
        have c21 := hd2 1 _ rfl
        have c22 := hd2 2 _ rfl
        have c23 := hd2 3 _ rfl
        have c24 := hd2 4 _ rfl
        have c25 := hd2 5 _ rfl
        rw [Nat.add_zero] at c10 c20
        clear hc1 hc2 hd1 hd2
        go_wp2
        refine wp_region_quiet_lit (by kernel_rfl) (by kernel_rfl) ?_
        repeat (first
          | ((with_reducible show wpQuiet _ _ _ _ (⟨some 25, _, _, _, _, _⟩ :: _) _); refine wpQuiet_run rfl (by rintro _ ⟨n, rfl⟩; exact run_bin rfl rfl (neq_sym x y _ _ _)) ?_)
          | quiet_step (fail))
        refine wpQuiet_nil ?_
        rintro _ ⟨nq, rfl⟩
        by_cases hxy : x = y
        · rw [show (!decide (x = y)) = false by simpa using hxy]
          have HN := Lib.hid (take_step X1.out X2.out HT.out hxy)
          clear hxy
          go_wp2
          go_roundw
          case rel =>
            first
              | exact ⟨k + 1, by go_num, by omega, HN.out, HB.out.drewN _⟩
              | ((repeat apply Exists.intro); exact ⟨⟨k + 1, by go_num, by omega, HN.out, HB.out.drewN _⟩, rfl⟩)
          case measure => simp [intOf] <;> omega
        · rw [show (!decide (x = y)) = true by simpa using hxy]
          have HN := Lib.hid (show decide (l = m) = false by
            rw [decide_eq_false_iff_not]
            intro e
            subst e
            have h1 := X1.out
            rw [X2.out] at h1
            exact hxy (Option.some.inj h1).symm)
          clear hxy
          go_wp2
          go_ret
          exact ⟨by rw [HN.out]; rfl, HB.out.drewN _⟩
      · have HN := Lib.hid (show decide (l = m) = true by
          rw [decide_eq_true_iff]
          have e : k = nl := by omega
          have := HT.out
          rw [e, List.take_of_length_le (by have := HL.out; omega), List.take_of_length_le (by have := HM.out; omega)] at this
          exact this)
        go_wp2
        go_ret
        exact ⟨by rw [HN.out]; rfl, HB.out⟩
  · have HN := Lib.hid (show decide (l = m) = false by
      rw [decide_eq_false_iff_not]
      intro e
      subst e
      exact hlen (HL.out.trans HM.out.symm))
    go_enter Try.func35, Try.ntmps35
    go_wp2
    go_ret
    exact ⟨by rw [HN.out]; rfl, Below.refl _ _⟩

set_option maxRecDepth 100000 in
theorem relas_any (l m : List RelaM) (v u : Value) (w : World) (hl : l.length ≤ 1000000000) (hm : m.length ≤ 1000000000) (hv : RdR 4 encRela w v l) (hu : RdR 4 encRela w u m) :
    Calls Try.prog 36 #[v, u] w fun e w' => e = .returned (.bool (decide (l = m))) ∧ Below w.heap.size w w' := by
  obtain ⟨a, ca, rfl, hca, hna, hc⟩ := hv.open (fun _ => rfl)
  obtain ⟨b, cb, rfl, hcb, hnb, hd⟩ := hu.open (fun _ => rfl)
  have HC := Lib.hid hc
  have HD := Lib.hid hd
  clear hc hd hna hnb hv hu
  obtain ⟨nl, hnl⟩ : ∃ n, n = l.length := ⟨_, rfl⟩
  obtain ⟨nm, hnm⟩ : ∃ n, n = m.length := ⟨_, rfl⟩
  rw [← hnl] at hl hca ⊢
  rw [← hnm] at hm hcb ⊢
  have HL := Lib.hid hnl
  have HM := Lib.hid hnm
  clear hnl hnm
  by_cases hlen : nl = nm
  · subst hlen
    go_enter Try.func36, Try.ntmps36
    go_wp2
    go_loopw [5] (fun i wr => ∃ k : Nat, i = .int .i64 k ∧ k ≤ nl ∧ Hid (l.take k = m.take k) ∧ Hid (Below w.heap.size w wr)) (fun i _ => nl - (intOf i).toNat)
    case atStart => exact ⟨0, rfl, Nat.zero_le _, by simp [Hid], Below.refl _ _⟩
    case round =>
      obtain ⟨k, rfl, hk, HT, HB⟩ := hrel
      by_cases hlt : k < nl
      · have X1 := Lib.hid (show l[k]? = some (l[k]'(by have := HL.out; omega)) from List.getElem?_eq_getElem _)
        have X2 := Lib.hid (show m[k]? = some (m[k]'(by have := HM.out; omega)) from List.getElem?_eq_getElem _)
        generalize l[k]'(by have := HL.out; omega) = x at *
        generalize m[k]'(by have := HM.out; omega) = y at *
        obtain ⟨b1, o1, ha, hc1⟩ := HC.out k x X1.out (by decide)
        obtain ⟨b2, o2, hb, hc2⟩ := HD.out k y X2.out (by decide)
        subst ha hb
        have hd1 : ∀ c v, (encRela x)[c]? = some v → wr.cell? ⟨b1, o1 + k * 4 + c, none⟩ = some v := fun c v h => by
          have h6 : c < 4 := (List.getElem?_eq_some_iff.1 h).1
          have := (hc1 c h6).trans h
          rw [← Nat.add_assoc] at this
          exact (HB.out.cell (block_lt this)).trans this
        have hd2 : ∀ c v, (encRela y)[c]? = some v → wr.cell? ⟨b2, o2 + k * 4 + c, none⟩ = some v := fun c v h => by
          have h6 : c < 4 := (List.getElem?_eq_some_iff.1 h).1
          have := (hc2 c h6).trans h
          rw [← Nat.add_assoc] at this
          exact (HB.out.cell (block_lt this)).trans this
        have c10 := hd1 0 _ rfl
        have c11 := hd1 1 _ rfl
        have c12 := hd1 2 _ rfl
        have c13 := hd1 3 _ rfl
        have c20 := hd2 0 _ rfl
        have c21 := hd2 1 _ rfl
        have c22 := hd2 2 _ rfl
        have c23 := hd2 3 _ rfl
        rw [Nat.add_zero] at c10 c20
        clear hc1 hc2 hd1 hd2
        go_wp2
        refine wp_region_quiet_lit (by kernel_rfl) (by kernel_rfl) ?_
        repeat (first
          | ((with_reducible show wpQuiet _ _ _ _ (⟨some 25, _, _, _, _, _⟩ :: _) _); refine wpQuiet_run rfl (by rintro _ ⟨n, rfl⟩; exact run_bin rfl rfl (neq_rela x y _ _ _)) ?_)
          | quiet_step (fail))
        refine wpQuiet_nil ?_
        rintro _ ⟨nq, rfl⟩
        by_cases hxy : x = y
        · rw [show (!decide (x = y)) = false by simpa using hxy]
          have HN := Lib.hid (take_step X1.out X2.out HT.out hxy)
          clear hxy
          go_wp2
          go_roundw
          case rel =>
            first
              | exact ⟨k + 1, by go_num, by omega, HN.out, HB.out.drewN _⟩
              | ((repeat apply Exists.intro); exact ⟨⟨k + 1, by go_num, by omega, HN.out, HB.out.drewN _⟩, rfl⟩)
          case measure => simp [intOf] <;> omega
        · rw [show (!decide (x = y)) = true by simpa using hxy]
          have HN := Lib.hid (show decide (l = m) = false by
            rw [decide_eq_false_iff_not]
            intro e
            subst e
            have h1 := X1.out
            rw [X2.out] at h1
            exact hxy (Option.some.inj h1).symm)
          clear hxy
          go_wp2
          go_ret
          exact ⟨by rw [HN.out]; rfl, HB.out.drewN _⟩
      · have HN := Lib.hid (show decide (l = m) = true by
          rw [decide_eq_true_iff]
          have e : k = nl := by omega
          have := HT.out
          rw [e, List.take_of_length_le (by have := HL.out; omega), List.take_of_length_le (by have := HM.out; omega)] at this
          exact this)
        go_wp2
        go_ret
        exact ⟨by rw [HN.out]; rfl, HB.out⟩
  · have HN := Lib.hid (show decide (l = m) = false by
      rw [decide_eq_false_iff_not]
      intro e
      subst e
      exact hlen (HL.out.trans HM.out.symm))
    go_enter Try.func36, Try.ntmps36
    go_wp2
    go_ret
    exact ⟨by rw [HN.out]; rfl, Below.refl _ _⟩
end Go.Proofs.Ytgknmmnffgikbaa
