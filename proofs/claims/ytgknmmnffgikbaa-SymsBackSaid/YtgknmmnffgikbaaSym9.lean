/-
  Symbols as bytes: the reference's error.
-/
import Derived.Test.YtgknmmnffgikbaaSym8
namespace Go.Proofs.Ytgknmmnffgikbaa
open Go.RowKit Go.Fd

theorem kindsQ_any (b t : Int) (w : World) : Calls Try.prog 66 #[.int .i64 b, .int .i64 t] w fun e w' => e = .returned (.bool (kindB b t)) ∧ w' = w :=
  (kinds_any b t w).mono fun _ _ ⟨h1, h2⟩ => ⟨h1, h2.symm⟩

/-- The error of a list. -/
def symE (l : List SymM) : Int := if l.any symBad = true then 1 else if ordB l = false then 24 else (buildR (l.map (·.name))).2.2
theorem symE_bad {l : List SymM} (h : l.any symBad = true) : symE l = 1 := by unfold symE; rw [if_pos h]
theorem symE_ord {l : List SymM} (h : l.any symBad = false) (h2 : ordB l = false) : symE l = 24 := by unfold symE; rw [if_neg (by simp [h]), if_pos h2]
theorem symE_ok {l : List SymM} (h : l.any symBad = false) (h2 : ordB l = true) : symE l = (buildR (l.map (·.name))).2.2 := by unfold symE; rw [if_neg (by simp [h]), if_neg (by simp [h2])]

set_option maxHeartbeats 4000000 in
set_option maxRecDepth 100000 in
theorem ref5May_any (l : List SymM) (v : Value) (w : World) (hl : l.length ≤ 1000) (hns : ∀ s ∈ l, s.name.length ≤ 9223372036854775807) (hv : RdR 6 encSym w v l) :
    Calls Try.prog 61 #[v] w fun e w' => e = .returned (.int .i64 (symE l)) ∧ Below w.heap.size w w' := by
  obtain ⟨a, ca, rfl, hca, -, hc⟩ := hv.open (fun _ => rfl)
  have HC := Lib.hid hc
  have HNS := Lib.hid hns
  obtain ⟨nl, hnl⟩ : ∃ n, n = l.length := ⟨_, rfl⟩
  rw [← hnl] at hl hca ⊢
  have HL := Lib.hid hnl
  clear hc hv hnl hns
  go_enter Try.func61, Try.ntmps61
  go_wp2
  go_loopw [3] (fun i wr => ∃ k : Nat, i = .int .i64 k ∧ k ≤ nl ∧ Hid ((l.take k).any symBad = false) ∧ Hid (Below w.heap.size w wr)) (fun i _ => nl - (intOf i).toNat)
  case atStart => exact ⟨0, rfl, Nat.zero_le _, by simp [Hid], Below.refl _ _⟩
  case round =>
    obtain ⟨k, rfl, hk, HT, HB⟩ := hrel
    by_cases hlt : k < nl
    · have X1 := Lib.hid (show l[k]? = some (l[k]'(by have := HL.out; omega)) from List.getElem?_eq_getElem _)
      generalize l[k]'(by have := HL.out; omega) = x at *
      obtain ⟨b1, o1, ha, hc1⟩ := HC.out k x X1.out (by decide)
      subst ha
      have hd1 : ∀ c v, (encSym x)[c]? = some v → wr.cell? ⟨b1, o1 + k * 6 + c, none⟩ = some v := fun c v h => by
        have h6 : c < 6 := (List.getElem?_eq_some_iff.1 h).1
        have := (hc1 c h6).trans h
        rw [← Nat.add_assoc] at this
        exact (HB.out.cell (block_lt this)).trans this
      have c11 := hd1 1 _ rfl
      have c12 := hd1 2 _ rfl
      have c13 := hd1 3 _ rfl
      clear hc1 hd1
      have KC := Lib.hid (fun w => kindsQ_any x.bind x.typ w)
      cases hb : symBad x with
      | true =>
        have HR := Lib.hid (symE_bad (bad_yes X1.out hb))
        have HBAD := Lib.hid hb
        clear hb
        cases hk1 : kindB x.bind x.typ with
        | false =>
          rw [hk1] at KC
          have HK1 := Lib.hid hk1
          clear hk1
          go_wp2
          go_quiet ((go_at_call 66; exact Calls.quiet_of_same (KC.out _)))
          go_wp2
          go_ret
          exact ⟨by rw [HR.out]; rfl, below_drewN HB.out _⟩
        | true =>
          rw [hk1] at KC
          have hsec : x.sec < 0 ∨ 65535 < x.sec := by
            have := HBAD.out
            unfold symBad at this
            simpa [hk1] using this
          have HK1 := Lib.hid hk1
          clear hk1
          rcases hsec with hsec | hsec
          · go_wp2
            go_quiet ((go_at_call 66; exact Calls.quiet_of_same (KC.out _)))
            go_wp2
            go_ret
            exact ⟨by rw [HR.out]; rfl, below_drewN HB.out _⟩
          · have hs0 : ¬ x.sec < 0 := by omega
            have hd : decide (x.sec < 0) = false := by simpa using hs0
            go_wp2
            go_quiet ((go_at_call 66; exact Calls.quiet_of_same (KC.out _)))
            go_wp2
            go_ret
            exact ⟨by rw [HR.out]; rfl, below_drewN HB.out _⟩
      | false =>
        have HN := Lib.hid (bad_step X1.out HT.out hb)
        have hk1 : kindB x.bind x.typ = true ∧ ¬ x.sec < 0 ∧ ¬ 65535 < x.sec := by
          unfold symBad at hb
          simp at hb
          exact ⟨hb.1.1, by omega, by omega⟩
        clear hb
        obtain ⟨hk1, hs1, hs2⟩ := hk1
        rw [hk1] at KC
        have HK1 := Lib.hid hk1
        clear hk1
        have hd1 : decide (x.sec < 0) = false := by simpa using hs1
        have hd2 : decide (65535 < x.sec) = false := by simpa using hs2
        go_wp2
        go_quiet ((go_at_call 66; exact Calls.quiet_of_same (KC.out _)))
        go_wp2
        have HB1 := Lib.hid (below_drewN HB.out nq)
        go_roundw
        case rel =>
          first
            | exact ⟨k + 1, by go_num, by omega, HN.out, HB1.out⟩
            | ((repeat apply Exists.intro); exact ⟨⟨k + 1, by go_num, by omega, HN.out, HB1.out⟩, rfl⟩)
        case measure => simp [intOf] <;> omega
    · have hkn : l.length ≤ k := by have := HL.out; omega
      have HBF := Lib.hid (bad_all hkn HT.out)
      clear HT hkn
      go_wp2
      go_loopw [4] (fun i wr => ∃ k : Nat, i = .int .i64 k ∧ 1 ≤ k ∧ k ≤ nl + 1 ∧ Hid (ordB (l.take k) = true) ∧ Hid (Below w.heap.size w wr)) (fun i _ => nl + 1 - (intOf i).toNat)
      case atStart => exact ⟨1, rfl, by omega, by omega, ordB_of (fun i a b _ hb _ => by rw [List.getElem?_take, if_neg (by omega)] at hb; cases hb), HB.out⟩
      case round =>
        obtain ⟨k, rfl, hk1, hk, HT, HB⟩ := hrel
        by_cases hlt : k < nl
        · have X1 := Lib.hid (show l[k]? = some (l[k]'(by have := HL.out; omega)) from List.getElem?_eq_getElem _)
          have X2 := Lib.hid (show l[k - 1]? = some (l[k - 1]'(by have := HL.out; omega)) from List.getElem?_eq_getElem _)
          generalize l[k]'(by have := HL.out; omega) = x at *
          generalize l[k - 1]'(by have := HL.out; omega) = y at *
          obtain ⟨b1, o1, ha, hc1⟩ := HC.out k x X1.out (by decide)
          obtain ⟨b2, o2, ha2, hc2⟩ := HC.out (k - 1) y X2.out (by decide)
          subst ha
          cases ha2
          have d1 : wr.cell? ⟨b1, o1 + k * 6 + 1, none⟩ = some (.int .i64 x.bind) := by
            have := hc1 1 (by decide)
            rw [← Nat.add_assoc] at this
            exact (HB.out.cell (block_lt this)).trans this
          have d2 : wr.cell? ⟨b1, o1 + (k - 1) * 6 + 1, none⟩ = some (.int .i64 y.bind) := by
            have := hc2 1 (by decide)
            rw [← Nat.add_assoc] at this
            exact (HB.out.cell (block_lt this)).trans this
          clear hc1 hc2
          by_cases h0 : x.bind = 0
          · have hz : (x.bind == 0) = true := by simp [h0]
            by_cases h1 : y.bind = 0
            · have hz2 : (y.bind != 0) = false := by simp [h1]
              have HN := Lib.hid (ordB_step X1.out HT.out (.inr fun y' hy' _ => by rw [X2.out] at hy'; cases hy'; exact h1))
              clear h0 h1
              go_wp2
              go_roundw
              case rel =>
                first
                  | exact ⟨k + 1, by go_num, by omega, by omega, HN.out, HB.out⟩
                  | ((repeat apply Exists.intro); exact ⟨⟨k + 1, by go_num, by omega, by omega, HN.out, HB.out⟩, rfl⟩)
              case measure => simp [intOf] <;> omega
            · have hz2 : (y.bind != 0) = true := by simpa using h1
              have HR := Lib.hid (symE_ord HBF.out (by rw [Bool.eq_false_iff]; intro hb; exact h1 (ordB_get (i := k - 1) hb X2.out (by rw [show k - 1 + 1 = k by omega]; exact X1.out) h0)))
              clear h0 h1
              go_wp2
              go_ret
              exact ⟨by rw [HR.out]; rfl, HB.out⟩
          · have hz : (x.bind == 0) = false := by simpa using h0
            have HN := Lib.hid (ordB_step X1.out HT.out (.inl h0))
            clear h0
            go_wp2
            go_roundw
            case rel =>
              first
                | exact ⟨k + 1, by go_num, by omega, by omega, HN.out, HB.out⟩
                | ((repeat apply Exists.intro); exact ⟨⟨k + 1, by go_num, by omega, by omega, HN.out, HB.out⟩, rfl⟩)
            case measure => simp [intOf] <;> omega
        · have HOB : Hid (ordB l = true) := by have := HT.out; rwa [List.take_of_length_le (by have := HL.out; omega)] at this
          have HR := Lib.hid (symE_ok HBF.out HOB.out)
          clear HT
          go_wp2
          go_loopw [5, 6] (fun tx i wr => ∃ k : Nat, i = .int .i64 k ∧ k ≤ nl ∧ Hid (Ow S 9 wr w.heap.size tx ((l.take k).map (·.name))) ∧ Hid (Below w.heap.size w wr)) (fun _ i _ => nl - (intOf i).toNat)
          case atStart => exact ⟨0, rfl, Nat.zero_le _, Ow.nil _ _ _ _, HB.out⟩
          case round =>
            obtain ⟨k, rfl, hk, HO, HB⟩ := hrel
            by_cases hlt : k < nl
            · have X1 := Lib.hid (show l[k]? = some (l[k]'(by have := HL.out; omega)) from List.getElem?_eq_getElem _)
              generalize l[k]'(by have := HL.out; omega) = x at *
              obtain ⟨b1, o1, ha, hc1⟩ := HC.out k x X1.out (by decide)
              subst ha
              have c10 : wr.cell? ⟨b1, o1 + k * 6, none⟩ = some (.string ⟨x.name.toArray⟩) := by
                have := hc1 0 (by decide)
                rw [Nat.add_zero] at this
                exact (HB.out.cell (block_lt this)).trans this
              clear hc1
              have HNS := Lib.hid (names_step X1.out)
              have HTL := Lib.hid (show ((l.take k).map (·.name)).length ≤ 1000 by rw [List.length_map, List.length_take]; omega)
              go_wp2_with (((with_reducible show wpList _ _ _ (⟨some 78, _, _, _, _, _⟩ :: _) _ _); go_must (refine wpList_pushE TTexts HO.out rfl rfl x.name rfl rfl (by have := HTL.out; omega) (by omega) HB.out.size ?_; intro v3 w3 hv3 _ hb3; have HO3 := Lib.hid (show Ow S 9 w3 w.heap.size v3 ((l.take (k + 1)).map (·.name)) by rw [HNS.out]; exact hv3); have HB3 := Lib.hid (HB.out.trans hb3); clear hv3 hb3)))
              go_roundw
              case rel =>
                first
                  | exact ⟨k + 1, by go_num, by omega, HO3.out, HB3.out⟩
                  | ((repeat apply Exists.intro); exact ⟨⟨k + 1, by go_num, by omega, HO3.out, HB3.out⟩, rfl⟩)
              case measure => simp [intOf] <;> omega
            · have HO1 : Hid (Ow S 9 wr w.heap.size u5 (l.map (·.name))) := by
                have := HO.out
                rw [List.take_of_length_le (by have := HL.out; omega)] at this
                exact this
              have HBU := Lib.hid (ref3Build_any (l.map (·.name)) u5 wr (by rw [List.length_map]; have := HL.out; omega) (fun s hs => by obtain ⟨x, hx, rfl⟩ := List.mem_map.1 hs; exact HNS.out x hx) HO1.out.rd)
              generalize buildR (l.map (·.name)) = r at *
              obtain ⟨tb, ats, z⟩ := r
              clear HO HO1
              go_wp2_with fail
              refine HBU.out.mono ?_
              rintro e w2 ⟨v1, v2, rfl, -, -, hb2⟩
              have HB2 := Lib.hid (HB.out.trans (hb2.mono HB.out.size))
              clear hb2 HBU
              by_cases hz : z = 0
              · have HZ := Lib.hid hz
                subst hz
                go_wp2
                go_ret
                exact ⟨by rw [HR.out]; rfl, HB2.out⟩
              · have hz2 : (z != 0) = true := by simpa using hz
                have HZ := Lib.hid hz
                clear hz
                go_wp2
                go_ret
                exact ⟨by rw [HR.out]; rfl, HB2.out⟩
end Go.Proofs.Ytgknmmnffgikbaa
