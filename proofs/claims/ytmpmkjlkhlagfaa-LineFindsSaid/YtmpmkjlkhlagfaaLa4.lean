/-
  Line programs: the five statements, those with a bound within it.
-/
import Derived.Test.YtmpmkjlkhlagfaaLa3
import Derived.Test.YtmpmkjlkhlagfaaRows
import Derived.ProofKit
import Derived.SizedLaws
import Derived.OpenShut
import Derived.Lib.SmallJoins
import Derived.Deep.Fields
import Derived.SliceStrings
import Derived.Deep.Slices
import Derived.JoinedCond
import Derived.Shelf.Vars
namespace Go.Proofs.Ytmpmkjlkhlagfaa
open Go.RowKit Go.Fd
def rowOk2 (r : RowM) (off : Int) (n : Nat) : Bool := decide (1 ≤ r.file) && decide (r.file ≤ n) && decide (1 ≤ r.line) && decide (r.line ≤ 1048576) && decide (off ≤ r.off)
theorem rowOk_two (r : RowM) (off fin : Int) (n : Nat) : rowOk r off fin n = (rowOk2 r off n && decide (r.off ≤ fin)) := rfl
theorem last_up (xs : List RowM) : ∀ off : Int, (∀ (k : Nat) (x : RowM), xs[k]? = some x → lastOff off (xs.take k) ≤ x.off) → off ≤ lastOff off xs ∧ ∀ (k : Nat) (x : RowM), xs[k]? = some x → x.off ≤ lastOff off xs := by
  induction xs with
  | nil => intro off _; exact ⟨Int.le_refl _, fun k x h => by simp at h⟩
  | cons y ys ih =>
    intro off h
    have h0 : off ≤ y.off := h 0 y rfl
    have h1 := ih y.off fun k x hk => h (k + 1) x (by simpa using hk)
    refine ⟨Int.le_trans h0 h1.1, fun k x hk => ?_⟩
    cases k with
    | zero => simp at hk; subst hk; exact h1.1
    | succ k => exact h1.2 k x (by simpa using hk)
theorem runOk_row {n k : Nat} {r : RunM} {x : RowM} (h : r.rows[k]? = some x) (hb : rowOk2 x (lastOff 0 (r.rows.take k)) n = false) : runOk n r = false := by
  unfold runOk
  rw [rowsOk_no r.rows 0 k x h (by rw [rowOk_two, hb, Bool.false_and]), Bool.and_false]
theorem runOk_end {n : Nat} {r : RunM} (h : r.end_ < lastOff 0 r.rows) : runOk n r = false := by
  cases hk : runOk n r with
  | false => rfl
  | true =>
    obtain ⟨h0, h1⟩ := runOk_iff hk
    have := (rowsOk_last r.rows 0 h1 h0).2
    omega
theorem runOk_yes {n : Nat} {r : RunM} (h : ∀ (k : Nat) (x : RowM), r.rows[k]? = some x → rowOk2 x (lastOff 0 (r.rows.take k)) n = true) (he : lastOff 0 r.rows ≤ r.end_) : runOk n r = true := by
  have hu := last_up r.rows 0 fun k x hk => by
    have := h k x hk
    unfold rowOk2 at this
    simp at this
    exact this.2
  unfold runOk
  rw [decide_eq_true (show 0 ≤ r.end_ by have := hu.1; omega), Bool.true_and]
  refine rowsOk_yes r.rows 0 fun k x hk => ?_
  rw [rowOk_two, h k x hk, Bool.true_and]
  exact decide_eq_true (by have := hu.2 k x hk; omega)
set_option maxHeartbeats 4000000 in
set_option maxRecDepth 100000 in
theorem refMay_any (fs : List (List UInt8)) (fv : Value) (rs : List RunM) (L : List (RunM × Value)) (rv : Value) (w : World) (hv : Rd S w fv fs) (hr : RunsAt w rv rs L) (hn : fs.length ≤ 1000000) (hm : rs.length ≤ 1000000) (hs : ∀ s ∈ fs, s.length ≤ 9223372036854775807) (hrm : nrows rs ≤ 1000000) :
    Calls Try.prog 23 #[fv, rv] w fun e w' => e = .returned (.int .i64 (faultyL fs rs)) ∧ Below w.heap.size w w' := by
  have HV := Lib.hid hv
  have HS := Lib.hid hs
  have HRS := Lib.hid hr
  obtain ⟨m, ad, cap, hm1, rfl, _, _⟩ := hv.shape
  have HM := Lib.hid hm1.out
  obtain ⟨n, ra, rc, hn1, rfl, _, _⟩ := hr.rd.shape
  have HN := Lib.hid (show n = rs.length by rw [hr.eq, List.length_map]; exact hn1.out)
  have HNL := Lib.hid hn1.out
  have hm9 : m ≤ 1000000 := by have := hm1.out; omega
  have hn9 : n ≤ 1000000 := by have := HN.out; omega
  have HRM := Lib.hid hrm
  clear hv hs hr hm1 hn1 hn hm hrm
  go_enter Try.func23, Try.ntmps23
  go_wp2
  go_loopw [5] (fun iw wr => ∃ k : Nat, iw = .int .i64 (k : Int) ∧ k ≤ m ∧ Hid (∀ s ∈ fs.take k, fileBad s = false) ∧ wr = w) (fun iw _ => m - (intOf iw).toNat)
  case atStart => exact ⟨0, rfl, Nat.zero_le _, (fun s hs => by simp at hs), rfl⟩
  case round =>
    obtain ⟨k, rfl, hk, HB, hwr⟩ := hrel
    subst hwr
    by_cases hlt : k < m
    · have X1 := Lib.hid (show fs[k]? = some (fs[k]'(by have := HM.out; omega)) from List.getElem?_eq_getElem _)
      generalize fs[k]'(by have := HM.out; omega) = s at *
      have HTK := Lib.hid (show fs.take (k + 1) = fs.take k ++ [s] from take_snoc' fs k s X1.out)
      have HSL := Lib.hid (HS.out s (List.mem_of_getElem? X1.out))
      obtain ⟨ad', cap', e1, _, _, hc⟩ := HV.out.open []
      simp only [Value.slice.injEq] at e1
      obtain ⟨rfl, -, rfl⟩ := e1
      obtain ⟨b, off, rfl, hcell⟩ := hc k (by have := HM.out; omega)
      rw [X1.out] at hcell
      simp only [Option.getD_some] at hcell
      clear hc
      have HC := Lib.hid (ref3May_any s wr HSL.out)
      have hbad : (s.isEmpty = true ∨ mayS s = false) → faultyL fs rs = 7 := fun h => faulty_name (List.mem_of_getElem? X1.out) (by
        unfold fileBad
        rcases h with h | h
        · rw [List.isEmpty_iff.1 h]; rfl
        · rw [h]; simp)
      cases he : s.isEmpty with
      | true =>
        have HR := Lib.hid (hbad (.inl he))
        clear hbad
        go_wp2
        go_ret
        exact ⟨by rw [HR.out]; rfl, Below.refl _ _⟩
      | false =>
        cases h0 : mayS s with
        | false =>
          have HR := Lib.hid (hbad (.inr h0))
          rw [h0] at HC
          clear hbad h0
          go_wp2_with (go_at_call 37; go_must (refine HC.out.mono ?_; rintro e w1 ⟨rfl, rfl⟩))
          go_ret
          exact ⟨by rw [HR.out]; rfl, Below.refl _ _⟩
        | true =>
          have HOK := Lib.hid (show fileBad s = false by
            unfold fileBad
            rw [h0, decide_eq_false (show ¬ s = [] by intro e; rw [e] at he; cases he)]
            rfl)
          rw [h0] at HC
          clear hbad h0
          go_wp2_with (go_at_call 37; go_must (refine HC.out.mono ?_; rintro e w1 ⟨rfl, rfl⟩))
          go_roundw
          case rel =>
            refine ⟨k + 1, by go_num, by omega, ?_, by first | trivial | rfl⟩
            show ∀ s ∈ fs.take (k + 1), _
            rw [HTK.out]
            intro x hx
            rcases List.mem_append.1 hx with hx | hx
            · exact HB.out x hx
            · rw [List.mem_singleton] at hx
              rw [hx]
              exact HOK.out
          case measure => simp [intOf] <;> omega
    · obtain rfl : k = m := by omega
      have HFL := Lib.hid (faulty_long (rs := rs) (show ∀ s ∈ fs, fileBad s = false by
        have := HB.out
        rwa [List.take_of_length_le (by have := HM.out; omega)] at this))
      clear HB hlt
      go_wp2
      obtain ⟨wo, rfl⟩ : ∃ wo : World, wo = wr := ⟨_, rfl⟩
      go_loopw [6, 7] (fun cw iw wq => ∃ j : Nat, iw = .int .i64 (j : Int) ∧ j ≤ n ∧ cw = .int .i64 ((nrows (rs.take j) : Nat) : Int) ∧ wq = wo) (fun _ iw _ => n - (intOf iw).toNat)
      case atStart => exact ⟨0, by first | trivial | rfl, Nat.zero_le _, by first | trivial | rfl, rfl⟩
      case round =>
        obtain ⟨j, rfl, hj, rfl, hwq⟩ := hrel
        subst hwq
        by_cases hlt : j < n
        · have X1 := Lib.hid (show L[j]? = some (L[j]'(by have := HNL.out; omega)) from List.getElem?_eq_getElem _)
          generalize L[j]'(by have := HNL.out; omega) = p at *
          have X2 := Lib.hid (show rs[j]? = some p.1 by rw [HRS.out.eq, List.getElem?_map, X1.out]; rfl)
          have HNR := Lib.hid (show nrows (rs.take (j + 1)) = nrows (rs.take j) + p.1.rows.length by rw [take_snoc' rs j p.1 X2.out, nrows_snoc])
          have hle : nrows (rs.take j) + p.1.rows.length ≤ 1000000 := by
            have h1 : nrows (rs.take (j + 1)) + nrows (rs.drop (j + 1)) = nrows rs := by
              unfold nrows
              rw [← List.sum_append, ← List.map_append, List.take_append_drop]
            have := HNR.out
            have := HRM.out
            omega
          obtain ⟨b2, o2, ha2, u0, u1, u2⟩ := run_cells HRS.out.rd X1.out
          subst ha2
          obtain ⟨pm, pa, pc, hpm, hp2, _, _⟩ := (HRS.out.rows p (List.mem_of_getElem? X1.out)).shape
          rw [hp2] at u1
          have HPM := Lib.hid hpm.out
          have hpm9 : nrows (rs.take j) + pm ≤ 1000000 := by have := hpm.out; omega
          clear hp2 hpm hle
          generalize hq : nrows (rs.take j) = q at *
          go_wp2
          go_roundw
          case rel => exact ⟨j + 1, by go_num, by omega, by rw [HNR.out, HPM.out]; go_num, by first | trivial | rfl⟩
          case measure => simp [intOf] <;> omega
        · obtain rfl : j = n := by omega
          have htk : rs.take j = rs := List.take_of_length_le (by have := HN.out; omega)
          rw [htk]
          have hq9 := HRM.out
          clear htk hlt
          generalize hq : nrows rs = q at *
          by_cases hA : 100 < k
          · have HR := Lib.hid (show faultyL fs rs = 6 by rw [HFL.out, if_pos (.inl (by have := HM.out; omega))])
            clear HFL
            go_wp2
            go_ret
            exact ⟨by rw [HR.out]; rfl, Below.refl _ _⟩
          by_cases hB : 64 < j
          · have HR := Lib.hid (show faultyL fs rs = 6 by rw [HFL.out, if_pos (.inr (.inl (by have := HN.out; omega)))])
            clear HFL
            go_wp2
            go_ret
            exact ⟨by rw [HR.out]; rfl, Below.refl _ _⟩
          by_cases hC : 16384 < q
          · have HR := Lib.hid (show faultyL fs rs = 6 by rw [HFL.out, if_pos (.inr (.inr hC))])
            clear HFL
            go_wp2
            go_ret
            exact ⟨by rw [HR.out]; rfl, Below.refl _ _⟩
          have HFA := Lib.hid (show faultyL fs rs = if rs.all (runOk k) = true then 0 else 1 by rw [HFL.out, if_neg (by have := HN.out; have := HM.out; omega), ← HM.out])
          clear HFL
          go_wp2
          clear hA hB hC
          obtain ⟨wo, rfl⟩ : ∃ w9 : World, w9 = wr := ⟨_, rfl⟩
          go_loopw [8] (fun iw wq => ∃ i : Nat, iw = .int .i64 (i : Int) ∧ i ≤ j ∧ Hid (∀ r ∈ rs.take i, runOk k r = true) ∧ Hid (Below wo.heap.size wo wq)) (fun iw _ => j - (intOf iw).toNat)
          case atStart => exact ⟨0, rfl, Nat.zero_le _, (fun r hr => by simp at hr), Below.refl _ _⟩
          case round =>
            obtain ⟨i, rfl, hi, HALL, HB⟩ := hrel
            have hsz := HB.out.size
            by_cases hlt : i < j
            · have X1 := Lib.hid (show L[i]? = some (L[i]'(by have := HNL.out; omega)) from List.getElem?_eq_getElem _)
              generalize L[i]'(by have := HNL.out; omega) = p at *
              have X2 := Lib.hid (show rs[i]? = some p.1 by rw [HRS.out.eq, List.getElem?_map, X1.out]; rfl)
              have HTK := Lib.hid (take_snoc' rs i p.1 X2.out)
              have HNO := Lib.hid (show runOk k p.1 = false → faultyL fs rs = 1 from fun h => by
                rw [HFA.out, all_no (List.mem_of_getElem? X2.out) h]; rfl)
              have HRC := Lib.hid (fun wx (h : Below wo.heap.size wo wx) => run_cells ((HRS.out.mono h).rd) X1.out)
              have HRW := Lib.hid (HRS.out.rows p (List.mem_of_getElem? X1.out))
              obtain ⟨⟨at_, rows, fin⟩, pv⟩ := p
              simp only at HRC HRW
              obtain ⟨pm, pa, pc, hpm, rfl, _, _⟩ := HRW.out.shape
              have HPM := Lib.hid (show pm = rows.length from hpm.out)
              have hpm9 : pm ≤ 1000000 := by
                have h1 : rows.length ≤ nrows rs := by
                  exact nrows_ge (List.mem_of_getElem? X2.out)
                have := HPM.out
                omega
              clear hpm
              have HK9 := Lib.hid hpm9
              obtain ⟨b2, o2, rfl, -, -, -⟩ := HRC.out wr HB.out
              have HRC2 := Lib.hid (fun wx (h : Below wo.heap.size wo wx) => show wx.cell? ⟨b2, o2 + i * 3 + 1, none⟩ = some (.slice pa pm pc) ∧ wx.cell? ⟨b2, o2 + i * 3 + 2, none⟩ = some (.int .i64 fin) from by
                obtain ⟨b', o', e, h0, h1, h2⟩ := HRC.out wx h
                cases e
                exact ⟨h1, h2⟩)
              clear HRC
              have HBx := Lib.hid HB.out
              clear HB
              go_wp2
              go_loopw [9, 10] (fun ow iw wq => ∃ (e : Nat) (ov : Int), iw = .int .i64 (e : Int) ∧ e ≤ pm ∧ ow = .int .i64 ov ∧ Hid (ov = lastOff 0 (rows.take e)) ∧ Hid (∀ c x, c < e → rows[c]? = some x → rowOk2 x (lastOff 0 (rows.take c)) k = true) ∧ Hid (Below wo.heap.size wo wq)) (fun _ iw _ => pm - (intOf iw).toNat)
              case atStart => exact ⟨0, 0, rfl, Nat.zero_le _, rfl, rfl, (fun c x h => by omega), HBx.out⟩
              case round =>
                obtain ⟨e, ov, rfl, he, rfl, HOV, HRO, HB3⟩ := hrel
                have hsz3 := HB3.out.size
                obtain ⟨r1, r2⟩ := HRC2.out _ HB3.out
                by_cases hlt3 : e < pm
                · have Y1 := Lib.hid (show rows[e]? = some (rows[e]'(by have := HPM.out; omega)) from List.getElem?_eq_getElem _)
                  generalize rows[e]'(by have := HPM.out; omega) = x at *
                  have HTK3 := Lib.hid (take_snoc' rows e x Y1.out)
                  obtain ⟨b3, o3, ha3, v0, v1, v2⟩ := row_cells (HRW.out.mono HB3.out) Y1.out
                  subst ha3
                  have HNO3 := Lib.hid (show rowOk2 x ov k = false → faultyL fs rs = 1 from fun h => HNO.out (runOk_row (r := ⟨at_, rows, fin⟩) Y1.out (by rw [← HOV.out]; exact h)))
                  have HYES := Lib.hid (show rowOk2 x ov k = true → ∀ c y, c < e + 1 → rows[c]? = some y → rowOk2 y (lastOff 0 (rows.take c)) k = true from fun h c y hc hy => by
                    by_cases hce : c = e
                    · subst hce
                      rw [Y1.out] at hy
                      cases hy
                      rw [← HOV.out]
                      exact h
                    · exact HRO.out c y (by omega) hy)
                  obtain ⟨xo, xf, xl⟩ := x
                  simp only at v0 v1 v2
                  have HRE := Lib.hid (show rowOk2 ⟨xo, xf, xl⟩ ov k = (decide (1 ≤ xf) && decide (xf ≤ k) && decide (1 ≤ xl) && decide (xl ≤ 1048576) && decide (ov ≤ xo)) from rfl)
                  by_cases t1 : xf < 1
                  · have d1 : decide (xf < 1) = true := decide_eq_true t1
                    have HR := Lib.hid (HNO3.out (by rw [HRE.out, decide_eq_false (show ¬ 1 ≤ xf by omega)]; simp))
                    clear t1
                    go_wp2_with ((with_reducible show wpList _ _ _ (⟨none, .store _ _ _, _, _, _, _⟩ :: _) _ _); go_must (refine wpList_storeNew rfl rfl (by kernel_rfl) rfl (by simp [Value.oneCell']) ?_; intro w6 hh6 hb6; clear v0 v1 v2 r1 r2; obtain ⟨v0, v1, v2⟩ := run3 hh6; have HB6 := Lib.hid (HB3.out.trans (hb6.mono hsz3)); obtain ⟨r1, r2⟩ := HRC2.out _ HB6.out; clear hh6 hb6))
                    go_ret
                    exact ⟨by rw [HR.out]; rfl, HB6.out⟩
                  have d1 : decide (xf < 1) = false := decide_eq_false t1
                  by_cases t2 : (k : Int) < xf
                  · have d2 : decide ((k : Int) < xf) = true := decide_eq_true t2
                    have HR := Lib.hid (HNO3.out (by rw [HRE.out, decide_eq_false (show ¬ xf ≤ k by omega)]; simp))
                    go_wp2_with ((with_reducible show wpList _ _ _ (⟨none, .store _ _ _, _, _, _, _⟩ :: _) _ _); go_must (refine wpList_storeNew rfl rfl (by kernel_rfl) rfl (by simp [Value.oneCell']) ?_; intro w6 hh6 hb6; clear v0 v1 v2 r1 r2; obtain ⟨v0, v1, v2⟩ := run3 hh6; have HB6 := Lib.hid (HB3.out.trans (hb6.mono hsz3)); obtain ⟨r1, r2⟩ := HRC2.out _ HB6.out; clear hh6 hb6))
                    go_ret
                    exact ⟨by rw [HR.out]; rfl, HB6.out⟩
                  have d2 : decide ((k : Int) < xf) = false := decide_eq_false t2
                  by_cases t3 : xl < 1
                  · have d3 : decide (xl < 1) = true := decide_eq_true t3
                    have HR := Lib.hid (HNO3.out (by rw [HRE.out, decide_eq_false (show ¬ 1 ≤ xl by omega)]; simp))
                    go_wp2_with ((with_reducible show wpList _ _ _ (⟨none, .store _ _ _, _, _, _, _⟩ :: _) _ _); go_must (refine wpList_storeNew rfl rfl (by kernel_rfl) rfl (by simp [Value.oneCell']) ?_; intro w6 hh6 hb6; clear v0 v1 v2 r1 r2; obtain ⟨v0, v1, v2⟩ := run3 hh6; have HB6 := Lib.hid (HB3.out.trans (hb6.mono hsz3)); obtain ⟨r1, r2⟩ := HRC2.out _ HB6.out; clear hh6 hb6))
                    go_ret
                    exact ⟨by rw [HR.out]; rfl, HB6.out⟩
                  have d3 : decide (xl < 1) = false := decide_eq_false t3
                  by_cases t4 : 1048576 < xl
                  · have d4 : decide ((1048576 : Int) < xl) = true := decide_eq_true t4
                    have HR := Lib.hid (HNO3.out (by rw [HRE.out, decide_eq_false (show ¬ xl ≤ 1048576 by omega)]; simp))
                    go_wp2_with ((with_reducible show wpList _ _ _ (⟨none, .store _ _ _, _, _, _, _⟩ :: _) _ _); go_must (refine wpList_storeNew rfl rfl (by kernel_rfl) rfl (by simp [Value.oneCell']) ?_; intro w6 hh6 hb6; clear v0 v1 v2 r1 r2; obtain ⟨v0, v1, v2⟩ := run3 hh6; have HB6 := Lib.hid (HB3.out.trans (hb6.mono hsz3)); obtain ⟨r1, r2⟩ := HRC2.out _ HB6.out; clear hh6 hb6))
                    go_ret
                    exact ⟨by rw [HR.out]; rfl, HB6.out⟩
                  have d4 : decide ((1048576 : Int) < xl) = false := decide_eq_false t4
                  by_cases t5 : xo < ov
                  · have d5 : decide (xo < ov) = true := decide_eq_true t5
                    have HR := Lib.hid (HNO3.out (by rw [HRE.out, decide_eq_false (show ¬ ov ≤ xo by omega)]; simp))
                    go_wp2_with ((with_reducible show wpList _ _ _ (⟨none, .store _ _ _, _, _, _, _⟩ :: _) _ _); go_must (refine wpList_storeNew rfl rfl (by kernel_rfl) rfl (by simp [Value.oneCell']) ?_; intro w6 hh6 hb6; clear v0 v1 v2 r1 r2; obtain ⟨v0, v1, v2⟩ := run3 hh6; have HB6 := Lib.hid (HB3.out.trans (hb6.mono hsz3)); obtain ⟨r1, r2⟩ := HRC2.out _ HB6.out; clear hh6 hb6))
                    go_ret
                    exact ⟨by rw [HR.out]; rfl, HB6.out⟩
                  have d5 : decide (xo < ov) = false := decide_eq_false t5
                  have HOK := Lib.hid (show rowOk2 ⟨xo, xf, xl⟩ ov k = true by rw [HRE.out]; simp; omega)
                  go_wp2_with ((with_reducible show wpList _ _ _ (⟨none, .store _ _ _, _, _, _, _⟩ :: _) _ _); go_must (refine wpList_storeNew rfl rfl (by kernel_rfl) rfl (by simp [Value.oneCell']) ?_; intro w6 hh6 hb6; clear v0 v1 v2 r1 r2; obtain ⟨v0, v1, v2⟩ := run3 hh6; have HB6 := Lib.hid (HB3.out.trans (hb6.mono hsz3)); obtain ⟨r1, r2⟩ := HRC2.out _ HB6.out; clear hh6 hb6))
                  go_roundw
                  case rel =>
                    refine ⟨e + 1, xo, by go_num, by omega, rfl, ?_, HYES.out HOK.out, HB6.out⟩
                    show xo = lastOff 0 (rows.take (e + 1))
                    rw [HTK3.out, (last_snoc _ _ 0 1 1).1]
                  case measure => simp [intOf] <;> omega
                · obtain rfl : e = pm := by omega
                  have htk3 : rows.take e = rows := List.take_of_length_le (by have := HPM.out; omega)
                  have HOE := Lib.hid (show ov = lastOff 0 rows by rw [HOV.out, htk3])
                  clear htk3
                  by_cases t6 : fin < ov
                  · have d6 : decide (fin < ov) = true := decide_eq_true t6
                    have HR := Lib.hid (HNO.out (runOk_end (r := ⟨at_, rows, fin⟩) (by rw [← HOE.out]; exact t6)))
                    go_wp2
                    go_ret
                    exact ⟨by rw [HR.out]; rfl, HB3.out⟩
                  · have d6 : decide (fin < ov) = false := decide_eq_false t6
                    have HYS := Lib.hid (show runOk k ⟨at_, rows, fin⟩ = true from runOk_yes (r := ⟨at_, rows, fin⟩) (fun c x hx => HRO.out c x (by have h9 : c < rows.length := (List.getElem?_eq_some_iff.1 hx).1; have := HPM.out; omega) hx) (by show lastOff 0 rows ≤ fin; rw [← HOE.out]; omega))
                    go_wp2
                    go_roundw
                    case rel =>
                      refine ⟨i + 1, by go_num, by omega, ?_, HB3.out⟩
                      show ∀ r ∈ rs.take (i + 1), _
                      rw [HTK.out]
                      intro r hr
                      rcases List.mem_append.1 hr with hr | hr
                      · exact HALL.out r hr
                      · rw [List.mem_singleton] at hr
                        rw [hr]
                        exact HYS.out
                    case measure => simp [intOf] <;> omega
            · obtain rfl : i = j := by omega
              have htk : rs.take i = rs := List.take_of_length_le (by have := HN.out; omega)
              rw [htk] at HALL
              have HR := Lib.hid (show faultyL fs rs = 0 by rw [HFA.out, if_pos (List.all_eq_true.2 HALL.out)])
              go_wp2
              go_ret
              exact ⟨by rw [HR.out]; rfl, HB.out⟩
end Go.Proofs.Ytmpmkjlkhlagfaa
namespace Go.Proofs.Ytmpmkjlkhlagfaa
open Go.RowKit Go.Fd
theorem wpList_litHead {ops : Array Oper} {rest : List Oper} {Q : Exit → Act → World → Prop} {a : Act} {w : World} {d : Option Tmp} {ty : TypeId} {pos : String} {aft : Array Edge}
    (h : ∀ w1, OB w1 w.heap.size (.slice (some ⟨w.heap.size, 0, none⟩) 26 26) [1, 1, 1, 251, 14, 13, 0, 1, 1, 1, 1, 0, 0, 0, 1, 0, 0, 1, 1, 1, 8, 1, 0, 1, 1, 8] → Below w.heap.size w w1 → w1.heap.size = w.heap.size + 1 → wpList Try.prog ops Q rest (a.put d (.slice (some ⟨w.heap.size, 0, none⟩) 26 26)) w1) :
    wpList Try.prog ops Q (⟨d, .buildSlice 26 26 #[(0, .const (.int .u8 1)), (1, .const (.int .u8 1)), (2, .const (.int .u8 1)), (3, .const (.int .u8 251)), (4, .const (.int .u8 14)), (5, .const (.int .u8 13)), (6, .const (.int .u8 0)), (7, .const (.int .u8 1)), (8, .const (.int .u8 1)), (9, .const (.int .u8 1)), (10, .const (.int .u8 1)), (11, .const (.int .u8 0)), (12, .const (.int .u8 0)), (13, .const (.int .u8 0)), (14, .const (.int .u8 1)), (15, .const (.int .u8 0)), (16, .const (.int .u8 0)), (17, .const (.int .u8 1)), (18, .const (.int .u8 1)), (19, .const (.int .u8 1)), (20, .const (.int .u8 8)), (21, .const (.int .u8 1)), (22, .const (.int .u8 0)), (23, .const (.int .u8 1)), (24, .const (.int .u8 1)), (25, .const (.int .u8 8))], ty, pos, aft, none⟩ :: rest) a w :=
  wpList_val rfl (by kernel_rfl) (h (w.alloc (.cells #[.int .u8 1, .int .u8 1, .int .u8 1, .int .u8 251, .int .u8 14, .int .u8 13, .int .u8 0, .int .u8 1, .int .u8 1, .int .u8 1, .int .u8 1, .int .u8 0, .int .u8 0, .int .u8 0, .int .u8 1, .int .u8 0, .int .u8 0, .int .u8 1, .int .u8 1, .int .u8 1, .int .u8 8, .int .u8 1, .int .u8 0, .int .u8 1, .int .u8 1, .int .u8 8] 5)) (ob_lit w [1, 1, 1, 251, 14, 13, 0, 1, 1, 1, 1, 0, 0, 0, 1, 0, 0, 1, 1, 1, 8, 1, 0, 1, 1, 8] _ 26 rfl rfl (by omega)) (below_alloc w _) (by rw [World.size_alloc]))
theorem wpList_lit5080 {ops : Array Oper} {rest : List Oper} {Q : Exit → Act → World → Prop} {a : Act} {w : World} {d : Option Tmp} {ty : TypeId} {pos : String} {aft : Array Edge}
    (h : ∀ w1, OB w1 w.heap.size (.slice (some ⟨w.heap.size, 0, none⟩) 4 4) [5, 0, 8, 0] → Below w.heap.size w w1 → w1.heap.size = w.heap.size + 1 → wpList Try.prog ops Q rest (a.put d (.slice (some ⟨w.heap.size, 0, none⟩) 4 4)) w1) :
    wpList Try.prog ops Q (⟨d, .buildSlice 26 4 #[(0, .const (.int .u8 5)), (1, .const (.int .u8 0)), (2, .const (.int .u8 8)), (3, .const (.int .u8 0))], ty, pos, aft, none⟩ :: rest) a w :=
  wpList_val rfl (by kernel_rfl) (h (w.alloc (.cells #[.int .u8 5, .int .u8 0, .int .u8 8, .int .u8 0] 5)) (ob_lit w [5, 0, 8, 0] _ 4 rfl rfl (by omega)) (below_alloc w _) (by rw [World.size_alloc]))
set_option maxHeartbeats 8000000 in
set_option maxRecDepth 100000 in
theorem refUnit_any (fs : List (List UInt8)) (fv : Value) (rs : List RunM) (L : List (RunM × Value)) (rv : Value) (w : World) (hv : Rd S w fv fs) (hr : RunsAt w rv rs L) (hl : fs.length + rs.length + nrows rs ≤ 400) (hs : ∀ s ∈ fs, s.length ≤ 9223372036854775807) (hf : ∀ r ∈ rs, r.fits) :
    Calls Try.prog 11 #[fv, rv] w fun e w' => ∃ vb va, e = .returned (.tuple #[vb, va, .int .i64 (unitR fs rs).2.2]) ∧ OB w' w.heap.size vb (unitR fs rs).1 ∧ Ow I64 3 w' w.heap.size va (unitR fs rs).2.1 ∧ Below w.heap.size w w' := by
  have HV := Lib.hid hv
  have HRS := Lib.hid hr
  have HF := Lib.hid hf
  have HFY := Lib.hid (refMay_any fs fv rs L rv w hv hr (by omega) (by omega) hs (by omega))
  obtain ⟨m, ad, cap, hm1, rfl, _, _⟩ := hv.shape
  obtain ⟨n, ra, rc, hn1, rfl, _, _⟩ := hr.rd.shape
  have HM := Lib.hid hm1.out
  have HN := Lib.hid (show n = rs.length by rw [hr.eq, List.length_map]; exact hn1.out)
  have HNL := Lib.hid hn1.out
  have hn9 : n ≤ 400 := by have := HN.out; omega
  have hm9 : m ≤ 400 := by have := HM.out; omega
  have HL := Lib.hid hl
  clear hv hr hf hs hm1 hn1 hl
  by_cases hfy : faultyL fs rs = 0
  · obtain ⟨hok1, hok2, hok3, hok4⟩ := faulty_ok hfy
    have HBY := Lib.hid (lnBodyB_le hfy HL.out)
    have HU := Lib.hid (unitR_yes hfy)
    have HK := Lib.hid hok4
    have HOK1 := Lib.hid hok1
    have hhb := lnHeadB_len (fun s hs => (hok1 s hs).2.1) hok2
    have HFL := Lib.hid hok2
    have hrl1 : ∀ r ∈ rs, r.rows.length ≤ 1000 := fun r hr => by have := nrows_ge hr; have := HL.out; omega
    have HRL := Lib.hid hrl1
    rw [hfy] at HFY
    clear hfy hok1 hok3 hok4 hok2 hrl1
    go_enter Try.func11, Try.ntmps11
    go_wp2_with (first
      | (go_at_call 23; go_must (refine HFY.out.mono ?_; rintro e w1 ⟨rfl, hb1⟩; have HB1 := Lib.hid hb1; have hs1 := hb1.size; clear hb1))
      | ((with_reducible show wpList _ _ _ (⟨some 19, _, _, _, _, _⟩ :: _) _ _); go_must (refine wpList_litHead ?_; intro w2 ho2 hb2 hs2; have HO2 := Lib.hid (OB.base ho2 hs1); have HB2 := Lib.hid (HB1.out.trans (hb2.mono hs1)); have hsz2 := HB2.out.size; clear ho2 hb2 hs2))
      | (go_at_call 24; go_must (refine (refLeb_any m _ (by omega)).mono ?_; rintro e w3 ⟨v3, rfl, hv3, hb3⟩; have HV3 := Lib.hid hv3.bs; obtain ⟨m3, a3, q3, -, rfl, _, _⟩ := hv3.shape; have HO3 := Lib.hid (HO2.out.mono hb3); have HB3 := Lib.hid (HB2.out.trans (hb3.mono hsz2)); have hsz3 := HB3.out.size; clear hv3 hb3))
      | ((with_reducible show wpList _ _ _ (⟨some 25, _, _, _, _, _⟩ :: _) _ _); go_must (refine wpList_catB HO3.out HV3.out rfl rfl (by have := (leb_le' m).1; simp; omega) hsz3 ?_; intro v4 w4 hv4 hg4 hb4; have HV4 := Lib.hid hv4; have HB4 := Lib.hid (HB3.out.trans hb4); clear hv4 hg4 hb4)))
    have HHE := Lib.hid (show lnHeadB fs = [1, 1, 1, 251, 14, 13, 0, 1, 1, 1, 1, 0, 0, 0, 1, 0, 0, 1, 1, 1, 8, 1, 0, 1, 1, 8] ++ leb 9 m ++ namesB fs by unfold lnHeadB; rw [← HM.out, List.append_assoc])
    have hT9 : ([1, 1, 1, 251, 14, 13, 0, 1, 1, 1, 1, 0, 0, 0, 1, 0, 0, 1, 1, 1, 8, 1, 0, 1, 1, 8] ++ leb 9 m).length ≤ 36 := by have := (leb_le' m).1; rw [List.length_append]; simp; omega
    have HNB := Lib.hid (fun k => show (namesB (fs.take k)).length ≤ 13000 from by
      have h1 := namesB_len (fs := fs.take k) (fun s hs => (HOK1.out s (List.mem_of_mem_take hs)).2.1)
      have h2 : (fs.take k).length ≤ 100 := by rw [List.length_take]; have := HFL.out; omega
      omega)
    generalize [1, 1, 1, 251, 14, 13, 0, 1, 1, 1, 1, 0, 0, 0, 1, 0, 0, 1, 1, 1, 8, 1, 0, 1, 1, 8] ++ leb 9 m = T0 at *
    clear HO3 HV3 HB3 HO2 HB2 HB1 hsz2 hsz3
    have HV4s := Lib.hid HV4.out
    have HB4s := Lib.hid HB4.out
    clear HV4 HB4
    go_loopw [8, 9] (fun hv iw wr => ∃ k : Nat, iw = .int .i64 (k : Int) ∧ k ≤ m ∧ Hid (OB wr w.heap.size hv (T0 ++ namesB (fs.take k))) ∧ Hid (Below w.heap.size w wr)) (fun _ iw _ => m - (intOf iw).toNat)
    case atStart => exact ⟨0, rfl, Nat.zero_le _, by simpa [Hid, namesB] using HV4s.out, HB4s.out⟩
    case round =>
      obtain ⟨k, rfl, hk, HH, HB⟩ := hrel
      clear HV4s HB4s
      have hsz := HB.out.size
      have hnb := HNB.out k
      obtain ⟨hm, ha, hc, hhm, rfl, _, _⟩ := HH.out.shape
      have HHM := Lib.hid hhm.out
      clear hhm
      by_cases hlt : k < m
      · have X1 := Lib.hid (show fs[k]? = some (fs[k]'(by have := HM.out; omega)) from List.getElem?_eq_getElem _)
        generalize fs[k]'(by have := HM.out; omega) = s at *
        have HTK := Lib.hid (show fs.take (k + 1) = fs.take k ++ [s] from take_snoc' fs k s X1.out)
        have hsl : s.length ≤ 128 := (HOK1.out s (List.mem_of_getElem? X1.out)).2.1
        obtain ⟨ad', cap', e1, _, _, hc⟩ := (HV.out.mono HB.out).open []
        simp only [Value.slice.injEq] at e1
        obtain ⟨rfl, -, rfl⟩ := e1
        obtain ⟨b, off, rfl, hcell⟩ := hc k (by have := HM.out; omega)
        rw [X1.out] at hcell
        simp only [Option.getD_some] at hcell
        clear hc
        have HTE := Lib.hid (show ∀ P, P = s ++ [0] → T0 ++ (namesB (fs.take k) ++ P) = T0 ++ namesB (fs.take (k + 1)) from fun P hP => by rw [HTK.out, namesB_snoc, hP])
        generalize hR1 : namesB (fs.take k) = R1 at *
        clear hR1
        go_wp2_with (first
          | ((with_reducible show wpList _ _ _ (⟨some 37, _, _, _, _, _⟩ :: _) _ _); go_must (refine wpList_catS (m := s) HH.out rfl rfl (by simp; omega) hsz ?_; intro v5 w5 hv5 hg5 hb5; have HV5 := Lib.hid hv5; have HB5 := Lib.hid (HB.out.trans hb5); have hsz5 := HB5.out.size; clear hv5 hg5 hb5))
          | ((with_reducible show wpList _ _ _ (⟨some 40, _, _, _, _, _⟩ :: _) _ _); go_must (refine wpList_pushB HV5.out rfl rfl 0 rfl (by simp; omega) hsz5 ?_; intro v6 w6 hv6 hg6 hb6; have HV6 := Lib.hid hv6; have HB6 := Lib.hid (HB5.out.trans hb6); clear hv6 hg6 hb6)))
        have h := HV6.out
        simp only [List.append_assoc] at h
        rw [HTE.out _ rfl] at h
        have H9 := Lib.hid h
        go_roundw
        case rel => exact ⟨k + 1, by go_num, by omega, H9.out, HB6.out⟩
        case measure => simp [intOf] <;> omega
      · obtain rfl : k = m := by omega
        have htk : fs.take k = fs := List.take_of_length_le (by have := HM.out; omega)
        rw [htk, ← HHE.out] at HH HHM
        clear htk hlt hnb HNB
        have hh9 : hm ≤ 13000 := by have := HHM.out; omega
        go_wp2_with (first
          | ((with_reducible show wpList _ _ _ (⟨some 41, _, _, _, _, _⟩ :: _) _ _); go_must (refine wpList_lit5080 ?_; intro w2 ho2 hb2 hs2; have HNE := Lib.hid (own_two HH.out ho2); have HO2 := Lib.hid (OB.base ho2 hsz); have HH2 := Lib.hid (HH.out.mono hb2); have HB2 := Lib.hid (HB.out.trans (hb2.mono hsz)); have hsz2 := HB2.out.size; clear ho2 hb2 hs2))
          | ((with_reducible show Calls _ 25 #[_, .int .i64 4] _ _); go_must (refine (fixed_int hm 4 _ (by omega) (by omega) (by omega)).mono ?_; rintro e w3 ⟨v3, rfl, hv3, hb3⟩; have HV3 := Lib.hid (OB.bs (show OB w3 w2.heap.size v3 (fixed hm 4) from hv3)); obtain ⟨m3, a3, q3, -, rfl, _, _⟩ := hv3.shape; have HO3 := Lib.hid (HO2.out.mono hb3); have HH3 := Lib.hid (HH2.out.mono hb3); have HB3 := Lib.hid (HB2.out.trans (hb3.mono hsz2)); have hsz3 := HB3.out.size; clear hv3 hb3))
          | ((with_reducible show wpList _ _ _ (⟨some 46, _, _, _, _, _⟩ :: _) _ _); go_must (refine wpList_catB HO3.out HV3.out rfl rfl (by simp [length_fixed]) hsz3 ?_; intro v4 w4 hv4 hg4 hb4; obtain ⟨m4, a4, q4, -, rfl, _, _⟩ := hv4.shape; have HH4 := Lib.hid (show OB w4 w.heap.size (.slice ha hm hc) (lnHeadB fs) from owns_grown HH3.out hg4 (fun k hk e => HNE.out k e hk)); have HV4 := Lib.hid hv4; have HB4 := Lib.hid (HB3.out.trans hb4); have hsz4 := HB4.out.size; clear hv4 hg4 hb4))
          | ((with_reducible show wpList _ _ _ (⟨some 49, _, _, _, _, _⟩ :: _) _ _); go_must (refine wpList_catB HV4.out HH4.out.bs rfl rfl (by simp [length_fixed]; omega) hsz4 ?_; intro v5 w5 hv5 hg5 hb5; have HV5 := Lib.hid hv5; have HB5 := Lib.hid (HB4.out.trans hb5); clear hv5 hg5 hb5)))
        have HFE := Lib.hid (show [5, 0, 8, 0] ++ fixed hm 4 ++ lnHeadB fs = lnFrontB fs by
          unfold lnFrontB
          rw [← HHM.out, List.append_assoc])
        rw [HFE.out] at HV5
        have HFLN := Lib.hid (lnFrontB_len fs)
        have hlf : (lnFrontB fs).length ≤ 14000 := by rw [lnFrontB_len]; omega
        have HV5s := Lib.hid (show OB w5 w.heap.size v5 (lnFrontB fs ++ runsB (rs.take 0)) by simpa [runsB] using HV5.out)
        have HB5s := Lib.hid HB5.out
        clear HV5 HB5 HH HHM HB HH2 HB2 HO2 HNE HV3 HO3 HH3 HB3 HV4 HB4 HH4 hsz hsz2 hsz3 hsz4 HFE HHE hh9
        go_loopw [10, 11, 12] (fun dv av iw wr => ∃ k : Nat, iw = .int .i64 (k : Int) ∧ k ≤ n ∧ Hid (OB wr w.heap.size dv (lnFrontB fs ++ runsB (rs.take k))) ∧ Hid (Ow I64 3 wr w.heap.size av (placesN fs rs k)) ∧ Hid (Below w.heap.size w wr)) (fun _ _ iw _ => n - (intOf iw).toNat)
        case atStart => exact ⟨0, rfl, Nat.zero_le _, HV5s.out, Ow.nil _ _ _ _, HB5s.out⟩
        case round =>
          obtain ⟨k, rfl, hk, HD, HO, HB⟩ := hrel
          clear HV5s HB5s
          have hsz := HB.out.size
          have hrk := runsB_len (rs.take k)
          have hnr : nrows (rs.take k) ≤ nrows rs := by
            have h1 : nrows (rs.take k) + nrows (rs.drop k) = nrows rs := by
              unfold nrows
              rw [← List.sum_append, ← List.map_append, List.take_append_drop]
            omega
          have HRK := Lib.hid (show (runsB (rs.take k)).length ≤ 40000 by
            rw [List.length_take] at hrk
            have := HL.out
            omega)
          clear hrk hnr
          have hrk := HRK.out
          obtain ⟨dm, da, dc, hdm, rfl, _, _⟩ := HD.out.shape
          obtain ⟨mo, ao, co, hmo, rfl, _, _⟩ := HO.out.shape
          have HDM := Lib.hid hdm.out
          have hdm9 : dm ≤ 60000 := by have := HDM.out; rw [List.length_append] at this; omega
          clear hdm hmo
          by_cases hlt : k < n
          · have X1 := Lib.hid (show L[k]? = some (L[k]'(by have := HNL.out; omega)) from List.getElem?_eq_getElem _)
            generalize L[k]'(by have := HNL.out; omega) = p at *
            have X2 := Lib.hid (show rs[k]? = some p.1 by rw [HRS.out.eq, List.getElem?_map, X1.out]; rfl)
            have HTK := Lib.hid (take_snoc' rs k p.1 X2.out)
            have HPM := Lib.hid (List.mem_of_getElem? X2.out)
            have HRC := Lib.hid (fun wx (h : Below w.heap.size w wx) => run_cells ((HRS.out.mono h).rd) X1.out)
            have HRW := Lib.hid (HRS.out.rows p (List.mem_of_getElem? X1.out))
            obtain ⟨⟨at_, rows, fin⟩, pv⟩ := p
            simp only at HRC HRW
            obtain ⟨pm, pa, pc, hpm, rfl, _, _⟩ := HRW.out.shape
            clear hpm
            obtain ⟨b2, o2, rfl, -, -, -⟩ := HRC.out wr HB.out
            have HRC2 := Lib.hid (fun wx (h : Below w.heap.size w wx) => show wx.cell? ⟨b2, o2 + k * 3, none⟩ = some (.int .u64 (at_ : Int)) ∧ wx.cell? ⟨b2, o2 + k * 3 + 1, none⟩ = some (.slice pa pm pc) ∧ wx.cell? ⟨b2, o2 + k * 3 + 2, none⟩ = some (.int .i64 fin) from by
              obtain ⟨b', o', e, h0, h1, h2⟩ := HRC.out wx h
              cases e
              exact ⟨h0, h1, h2⟩)
            clear HRC
            have HQE := Lib.hid (show (lnFrontB fs ++ runsB (rs.take k)) ++ runB ⟨at_, rows, fin⟩ = lnFrontB fs ++ runsB (rs.take (k + 1)) by rw [HTK.out, runsB_snoc, List.append_assoc])
            have HPE := Lib.hid (show placesN fs rs (k + 1) = placesN fs rs k ++ [4 + dm + 3] by rw [placesN_succ, HDM.out, List.length_append, Nat.add_assoc 4])
            have hpl : (placesN fs rs k).length ≤ 400 := by unfold placesN; simp; omega
            have HRUN := Lib.hid (fun (wx : World) (h2 : Below w.heap.size w wx) => refProgram_any fs.length ⟨at_, rows, fin⟩ (.slice pa pm pc) wx (HRW.out.mono h2) HFL.out (HK.out _ HPM.out) (HF.out _ HPM.out) (HRL.out _ HPM.out))
            have hrb : (runB ⟨at_, rows, fin⟩).length ≤ 40000 := by
              have h1 : (runB ⟨at_, rows, fin⟩).length ≤ 25 + 34 * rows.length := runB_len ⟨at_, rows, fin⟩
              have h2 : rows.length ≤ 1000 := HRL.out _ HPM.out
              omega
            go_wp2_with (first
              | ((with_reducible show wpList _ _ _ (⟨some 62, _, _, _, _, _⟩ :: _) _ _); go_must (refine wpList_pushE TI HO.out rfl rfl (4 + dm + 3) (by first | rfl | go_num) rfl (by omega) (by omega) hsz ?_; intro v7 w7 hv7 hg7 hb7; have HO7 := Lib.hid hv7; have HD7 := Lib.hid (show OB w7 w.heap.size (.slice da dm dc) (lnFrontB fs ++ runsB (rs.take k)) from owns_keeps HD.out (keeps_own HO.out hg7) (by decide)); have HB7 := Lib.hid (HB.out.trans hb7); have hsz7 := HB7.out.size; obtain ⟨m7, a7, q7, -, rfl, _, _⟩ := hv7.shape; obtain ⟨r0, r1, r2⟩ := HRC2.out _ HB7.out; clear hv7 hg7 hb7))
              | (go_at_call 26; refine (HRUN.out _ HB7.out).mono ?_; rintro e w8 ⟨v8, rfl, hv8, hb8⟩; have HV8 := Lib.hid hv8.bs; obtain ⟨m8, a8, q8, -, rfl, _, _⟩ := hv8.shape; have HO8 := Lib.hid (HO7.out.mono hb8); have HD8 := Lib.hid (HD7.out.mono hb8); have HB8 := Lib.hid (HB7.out.trans (hb8.mono hsz7)); have hsz8 := HB8.out.size; clear hv8 hb8 r0 r1 r2)
              | ((with_reducible show wpList _ _ _ (⟨some 69, _, _, _, _, _⟩ :: _) _ _); go_must (refine wpList_catB HD8.out HV8.out rfl rfl (by simp; omega) hsz8 ?_; intro v9 w9 hv9 hg9 hb9; have HO9 := Lib.hid (show Ow I64 3 w9 w.heap.size (.slice a7 m7 q7) (placesN fs rs k ++ [4 + dm + 3]) from owns_keeps HO8.out (keeps_own HD8.out hg9) (by decide)); have HV9 := Lib.hid hv9; have HB9 := Lib.hid (HB8.out.trans hb9); clear hv9 hg9 hb9)))
            go_roundw
            case rel => exact ⟨k + 1, by go_num, by omega, by rw [← HQE.out]; exact HV9.out, by rw [HPE.out]; exact HO9.out, HB9.out⟩
            case measure => simp [intOf] <;> omega
          · obtain rfl : k = n := by omega
            have htk : rs.take k = rs := List.take_of_length_le (by have := HN.out; omega)
            rw [htk] at HD HDM
            have HPL := Lib.hid (show placesN fs rs k = placesB fs rs by unfold placesN placesB; rw [HN.out])
            rw [HPL.out] at HO
            have hdl : (lnFrontB fs).length + (runsB rs).length ≤ 60000 := by have := HDM.out; rw [List.length_append] at this; omega
            clear htk hlt hrk HRK
            go_wp2_with (first
              | (go_at_call 25; go_must (refine (fixed_int dm 4 _ (by omega) (by omega) (by omega)).mono ?_; rintro e w3 ⟨v3, rfl, hv3, hb3⟩; have HV3 := Lib.hid (show OB w3 wr.heap.size v3 (fixed dm 4) from hv3); obtain ⟨m3, a3, q3, -, rfl, _, _⟩ := hv3.shape; have HD3 := Lib.hid (HD.out.mono hb3).bs; have HO3 := Lib.hid (HO.out.mono hb3); have HB3 := Lib.hid (HB.out.trans (hb3.mono hsz)); have hsz3 := HB3.out.size; clear hv3 hb3))
              | ((with_reducible show wpList _ _ _ (⟨some 75, _, _, _, _, _⟩ :: _) _ _); go_must (refine wpList_catB (OB.base HV3.out hsz) HD3.out rfl rfl (by simp [length_fixed]; omega) hsz3 ?_; intro v4 w4 hv4 hg4 hb4; have HO4 := Lib.hid (show Ow I64 3 w4 w.heap.size (.slice ao mo co) (placesB fs rs) from owns_keeps HO3.out (keeps_own HV3.out hg4) (by decide)); have HV4 := Lib.hid hv4; have HB4 := Lib.hid (HB3.out.trans hb4); clear hv4 hg4 hb4)))
            go_ret3
            rw [HU.out]
            refine ⟨_, _, rfl, ?_, HO4.out, HB4.out⟩
            have h := HV4.out
            rw [HDM.out] at h
            exact h
  · have HU := Lib.hid (unitR_no hfy)
    have hne : (faultyL fs rs != 0) = true := by simpa using hfy
    generalize faultyL fs rs = e0 at *
    clear hfy
    go_enter Try.func11, Try.ntmps11
    go_wp2_with (go_at_call 23; go_must (refine HFY.out.mono ?_; rintro e w1 ⟨rfl, hb1⟩))
    go_ret3
    rw [HU.out]
    exact ⟨_, _, rfl, OB.nil _ _, Ow.nil _ _ _ _, hb1⟩
end Go.Proofs.Ytmpmkjlkhlagfaa
namespace Go.Proofs.Ytmpmkjlkhlagfaa
open Go.RowKit Go.Fd
theorem unitR_len (fs : List (List UInt8)) (rs : List RunM) (h : fs.length + rs.length + nrows rs ≤ 400) : (unitR fs rs).1.length ≤ 1000000 ∧ (unitR fs rs).2.1.length ≤ 400 := by
  by_cases hf : faultyL fs rs = 0
  · rw [unitR_yes hf]
    have h1 := lnBodyB_le hf h
    refine ⟨?_, ?_⟩
    · show (unitB fs rs).length ≤ _
      rw [unitB_len]
      omega
    · show (placesB fs rs).length ≤ _
      unfold placesB
      simp
      omega
  · rw [unitR_no hf]
    simp
theorem lightL_le {fs : List (List UInt8)} {rs : List RunM} (h : lightL fs rs = true) : fs.length + rs.length + nrows rs ≤ 400 := of_decide_eq_true h
set_option maxHeartbeats 4000000 in
set_option maxRecDepth 100000 in
theorem lineUnits_any (fs : List (List UInt8)) (fv : Value) (rs : List RunM) (L : List (RunM × Value)) (rv : Value) (w : World) (hv : Rd S w fv fs) (hr : RunsAt w rv rs L) (hn : fs.length + rs.length + nrows rs ≤ 1000000000) (hs : ∀ s ∈ fs, s.length ≤ 9223372036854775807) (hf : ∀ r ∈ rs, r.fits) :
    Calls Try.prog 3 #[fv, rv] w fun e w' => e = .returned (.bool true) ∧ Below w.heap.size w w' := by
  have HV := Lib.hid hv
  have HRS := Lib.hid hr
  have HLI := Lib.hid (fun wx (h : Below w.heap.size w wx) => light18_any fs fv rs L rv wx (hv.mono h) (hr.mono h) hn)
  obtain ⟨m, ad, cap, hm1, rfl, _, _⟩ := hv.shape
  obtain ⟨n, ra, rc, hn1, rfl, _, _⟩ := hr.rd.shape
  clear hv hr hm1 hn1 hn
  cases hli : lightL fs rs with
  | false =>
    rw [hli] at HLI
    clear hs hf hli
    go_enter Try.func3, Try.ntmps3
    go_wp2_with (first
      | (go_at_call 8; go_must (refine (begun18_any _).mono ?_; rintro e w1 ⟨rfl, hb1⟩; have HB1 := Lib.hid hb1; clear hb1))
      | (go_at_call 9; go_must (refine (HLI.out _ HB1.out).mono ?_; rintro e w2 ⟨rfl, rfl⟩)))
    go_ret
    exact ⟨rfl, HB1.out⟩
  | true =>
    have hl := lightL_le hli
    rw [hli] at HLI
    have HU := Lib.hid (fun wx (h : Below w.heap.size w wx) => lnUnit_any fs _ rs L _ wx (HV.out.mono h) (HRS.out.mono h) hl hs hf)
    have HR := Lib.hid (fun wx (h : Below w.heap.size w wx) => refUnit_any fs _ rs L _ wx (HV.out.mono h) (HRS.out.mono h) hl hs hf)
    have HUL := Lib.hid (unitR_len fs rs hl)
    clear hs hf hli hl
    generalize unitR fs rs = r at *
    obtain ⟨r1, r2, r3⟩ := r
    simp only at HU HR HUL
    have HL1 := Lib.hid (Nat.le_trans HUL.out.1 (by decide : 1000000 ≤ 1000000000))
    have HL2 := Lib.hid (Nat.le_trans HUL.out.2 (by decide : 400 ≤ 1000000000))
    go_enter Try.func3, Try.ntmps3
    go_wp2_with (first
      | (go_at_call 8; go_must (refine (begun18_any _).mono ?_; rintro e w1 ⟨rfl, hb1⟩; have HB1 := Lib.hid hb1; clear hb1))
      | (go_at_call 9; go_must (refine (HLI.out _ HB1.out).mono ?_; rintro e w2 ⟨rfl, rfl⟩)))
    go_loopw [5] (fun i wr => ∃ k : Nat, k ≤ 2 ∧ i = .int .i64 k ∧ Hid (Below w.heap.size w wr)) (fun i _ => 2 - (intOf i).toNat)
    case atStart => exact ⟨0, by omega, rfl, HB1.out⟩
    case round =>
      obtain ⟨k, hk, rfl, HB⟩ := hrel
      have hz0 := HB.out.size
      by_cases hlt : k < 2
      · go_wp2_with fail
        refine (HU.out _ HB.out).mono ?_
        rintro e w2 ⟨b, l, rfl, hbv, hlv, hb2⟩
        have HBL := Lib.hid (own_ge hbv)
        have HAP := Lib.hid (fun k h => own_apart hbv hlv (by decide) (k := k) h)
        have HB2 := Lib.hid (HB.out.trans (hb2.mono hz0))
        have hz2 := HB2.out.size
        have HBV2 := Lib.hid hbv
        have HLV2 := Lib.hid hlv
        obtain ⟨bm, ba, bc, -, rfl, _, _⟩ := hbv.shape
        obtain ⟨lm, la, lc, hlm, rfl, _, _⟩ := hlv.shape
        have HLM := Lib.hid hlm.out
        clear hbv hlv hb2 hlm
        go_wp2_with fail
        refine (HR.out _ HB2.out).mono ?_
        rintro e w4 ⟨b2, l2, rfl, hbv4, hlv4, hb4⟩
        have HB4 := Lib.hid (HB2.out.trans (hb4.mono hz2))
        have hz4 := HB4.out.size
        have HBV4 := Lib.hid (HBV2.out.mono hb4)
        have HLV4 := Lib.hid (HLV2.out.mono hb4)
        have s1 := run_str HBV4.out.bs
        have s2 := run_str hbv4.bs
        have HI := Lib.hid (ints_same r2 _ l2 w4 HL2.out HLV4.out.rd hlv4.rd)
        obtain ⟨b2m, b2a, b2c, -, rfl, _, _⟩ := hbv4.shape
        obtain ⟨l2m, l2a, l2c, -, rfl, _, _⟩ := hlv4.shape
        clear hb4 HBV2 HLV2 hbv4 hlv4
        go_wp2_with fail
        refine HI.out.mono ?_
        rintro e w5 ⟨rfl, hb5⟩
        have HB5 := Lib.hid (HB4.out.trans (hb5.mono hz4))
        have hz5 := HB5.out.size
        have HBV5 := Lib.hid (HBV4.out.mono hb5)
        have HLV5 := Lib.hid (HLV4.out.mono hb5)
        clear hb5 HBV4 HLV4 s1 s2 HI
        go_wp2_with fail
        refine (spoil_any r1 _ _ _ HL1.out HBV5.out).mono ?_
        rintro e w6 ⟨rfl, hg6⟩
        have HB6 := Lib.hid (HB5.out.trans (below_of_grown hg6 hz5 fun k hk => by have h1 := HBL.out k hk; omega))
        have HLV6 := Lib.hid (ow_ints (owns_grown HLV5.out hg6 fun k hk e => HAP.out k e hk))
        have HLN := Lib.hid (show (r2.map fun n : Nat => (n : Int)).length = lm by rw [List.length_map]; exact HLM.out.symm)
        have hlm9 : lm ≤ 1000000000 := by have := HLM.out; have := HL2.out; omega
        clear hg6 HBV5 HLV5
        generalize (r2.map fun n : Nat => (n : Int)) = q at *
        go_wp2
        go_loopw [12] (fun iv wx => ∃ (i : Nat) (q' : List Int), iv = .int .i64 i ∧ i ≤ lm ∧ Hid (lm = q'.length) ∧ Hid (Ow (Value.int .i64) 3 wx w.heap.size (.slice la lm lc) q') ∧ Hid (Below w.heap.size w wx)) (fun iv _ => lm - (intOf iv).toNat)
        case atStart => exact ⟨0, q, rfl, Nat.zero_le _, HLN.out.symm, Ow.rebase HLV6.out hz0, HB6.out⟩
        case round =>
          obtain ⟨i, q', rfl, hi, HQ, HO, HBW⟩ := hrel
          by_cases hin : i < lm
          · obtain ⟨g', cap', e1, hbg, _, _, hcell, hfz⟩ := HO.out.open 0 (by have := HQ.out; omega)
            simp only [Value.slice.injEq] at e1
            obtain ⟨rfl, -, rfl⟩ := e1
            have hci := hcell i (by have := HQ.out; omega)
            have hfi := hfz i
            generalize q'[i]?.getD 0 = z at *
            have HX := Lib.hid hbg
            clear hcell hfz hbg
            go_wp2
            go_roundw
            case rel => exact ⟨i + 1, q'.set i (-5), by go_num, by omega, by show _ = _; rw [List.length_set]; exact HQ.out, by have := HO.out; rw [HQ.out] at this ⊢; exact this.stored i (-5), HBW.out.trans ((stirs_setCell (S := fun k => k = g') _ g' i _ rfl).below HBW.out.size (fun k hk => by rw [hk]; exact HX.out))⟩
            case measure => simp [intOf] <;> omega
          · go_wp2
            go_roundw
            case rel => exact ⟨k + 1, by omega, by go_num, HBW.out⟩
            case measure => simp [intOf] <;> omega
      · go_wp2
        go_ret
        exact ⟨rfl, HB.out⟩
end Go.Proofs.Ytmpmkjlkhlagfaa
namespace Go.Proofs.Ytmpmkjlkhlagfaa
open Go.ChangeShapes Go.WideShapes Go.ChangeAt Go.RowKit Go.Fd
theorem Try.own : ownKnob Try.prog.godebug = none := by kernel_rfl
theorem Try.laidOut : laidOutB Try.prog = true := by kernel_rfl
/-- All arguments read behind the call as they read before it. -/
theorem belowAll {H : Type} {enc : TypeId × Value → H} {W W' : World} (hb : Below W.heap.size W W') : ∀ {ts : List TypeId} {vs : List Value} {ds : List (DataW H)} {ps : List MemPlace},
    DataW.TrodAll enc Try.prog W 0 (fun _ => true) true ts vs ds ps → (∀ x ∈ ps, x.block < W.heap.size) → (∀ t ∈ ts, Try.prog.readableRec t = true ∧ t < Try.prog.types.size) →
    DataW.TrodAll enc Try.prog W' 0 (fun b => decide (b < W.heap.size)) true ts vs ds ps
  | [], vs, ds, ps, h, _, _ => by obtain ⟨rfl, rfl, rfl⟩ := trodAll_nil h; exact trodAll_mk0
  | t :: ts, vs, ds, ps, h, hlt, ht => by
    obtain ⟨v, vs', d, ds', p, q, rfl, rfl, rfl, h0, h1⟩ := trodAll_cons h
    exact trodAll_cons_mk (Below.trod Try.laidOut (ht t (by simp)).1 (ht t (by simp)).2 h0 hb fun x hx => hlt x (by simp [hx]))
      (belowAll hb h1 (fun x hx => hlt x (by simp [hx])) fun u hu => ht u (by simp [hu]))
/-- The same, the types asked as one closed fact. -/
theorem belowAllB {H : Type} {enc : TypeId × Value → H} {W W' : World} {ts : List TypeId} (ht : (ts.all fun t => Try.prog.readableRec t && decide (t < Try.prog.types.size)) = true) (hb : Below W.heap.size W W') {vs : List Value} {ds : List (DataW H)} {ps : List MemPlace}
    (h : DataW.TrodAll enc Try.prog W 0 (fun _ => true) true ts vs ds ps) (hlt : ∀ x ∈ ps, x.block < W.heap.size) : DataW.TrodAll enc Try.prog W' 0 (fun b => decide (b < W.heap.size)) true ts vs ds ps :=
  belowAll hb h hlt fun t htm => by
    have := List.all_eq_true.1 ht t htm
    simp only [Bool.and_eq_true, decide_eq_true_eq] at this
    exact this
theorem wf_u64 {x : Int} (h : (Lit.int .u64 x).wf = true) : 0 ≤ x ∧ x < 18446744073709551616 := by
  simp [Lit.wf, IntKind.min, IntKind.max, IntKind.signed, IntKind.bits] at h
  exact ⟨by omega, by omega⟩
theorem wf_u8' {x : Int} (h : (Lit.int .u8 x).wf = true) : 0 ≤ x ∧ x < 256 := by
  simp [Lit.wf, IntKind.min, IntKind.max, IntKind.signed, IntKind.bits] at h
  exact ⟨by omega, by omega⟩
theorem len_3 {α : Type} : ∀ {l : List α}, l.length = 3 → ∃ a0 a1 a2, l = [a0, a1, a2]
  | [a0, a1, a2], _ => ⟨a0, a1, a2, rfl⟩
end Go.Proofs.Ytmpmkjlkhlagfaa
namespace Go.Fd
end Go.Fd
namespace Go.Proofs.Ytmpmkjlkhlagfaa
open Go.ChangeMaps Go.ChangeShapes Go.WideShapes Go.ChangeAt Go.RowKit Go.Fd
/-- A struct of cells, each field of one cell: how each reads. -/
theorem cells_struct {H : Type} {enc : TypeId × Value → H} {P : Program} {w : World} {base : Nat} {spare : Nat → Bool} {held : Bool} {t : TypeId} {fs : Array Field} {cs : List Value} {fuel : Nat} {y : DataW H × List MemPlace}
    (hs : P.underlying t = some (.struct fs)) (hone : Go.Deep.oneCellFields P fs = true) (hC : cs.length = fs.size) (h : DataW.trod enc P w base spare held fuel t cs = some y) :
    ∃ n, ∀ (j : Nat) (f : Field), fs[j]? = some f → ∃ x y, cs[j]? = some x ∧ DataW.trod enc P w base spare held n f.type [x] = some y := by
  obtain ⟨xs, n, _, hx, _, hlen, hg⟩ := DataW.trod_struct hs h
  refine ⟨n, fun j f hj => ?_⟩
  obtain ⟨o, k⟩ := Go.Deep.hone_of hone j f hj
  have hjl : j < fs.size := (Array.getElem?_eq_some_iff.1 hj).1
  have hcl : j < cs.length := by omega
  have h1 := hg j f hj
  rw [o, k] at h1
  have h2 : (List.drop j cs).take 1 = [cs[j]] := by
    rw [List.drop_eq_getElem_cons hcl]
    rfl
  rw [h2] at h1
  exact ⟨_, xs[j]'(by omega), List.getElem?_eq_getElem hcl, h1.trans (List.getElem?_eq_getElem _)⟩
end Go.Proofs.Ytmpmkjlkhlagfaa
namespace Go.Proofs.Ytmpmkjlkhlagfaa
open Go
theorem handed_cond {H : Type} {enc : TypeId × Value → H} {a : Assume} {C : Go.Checked} {os : Os} {f : FuncId} {fn : Func} {s : OpenSpec} {k : (H : Type) → List (DataW H) → Bool} (hk : s.cond = some k) {F : Stop.Interp} {conds : List PathCond} {apart fresh handsOn again : Bool}
    (own : ownKnob C.prog.godebug = none) (started : os.Started) (noInit : C.prog.inits.idxOf? f = none) (hfn : C.prog.funcs[f]? = some fn)
    (witness : ∃ (w : World) (tape : Tape) (i : Input), w.os = os ∧ (w.forCall tape i).Shaped C.prog ∧ i.vars = [] ∧ Input.okWide C.prog (w.forCall tape i) .any w.heap.size f i ∧
      s.pre6 enc C.prog fn conds apart (w.forCall tape i).memory i.args ∧ a.holds C.prog (lone (Frame.enter C.prog f i.args .normal) [] (w.forCall tape i)))
    (contract : ∀ (W : World) (base : Nat) (args : Array Value) (ds gs : List (DataW H)) (before : List MemPlace),
      (∀ (j : Nat) t v, fn.params[j]? = some t → args[j]? = some v → Value.okWide C.prog W .any base t v) →
      DataW.Whole enc C.prog fn.params.toList s.vars apart W args.toList ds gs before →
      k H (ds ++ gs) = true →
      (DataW.weightsEach C.prog (fn.params.toList ++ s.bare.plain.varTypes C.prog) (ds ++ gs)).all (· ≤ reachBytes) = true →
      W.ShapedOpen C.prog →
      Calls C.prog f args W fun e W' => ∃ v, e = .returned v ∧ (s.at F).post enc C.prog fn apart fresh handsOn again W args v W') :
    ReturnsInHanded a C os f .any (s.pre6 enc C.prog fn conds apart) ((s.at F).post enc C.prog fn apart fresh handsOn again) := by
  refine returnsInHanded_of_calls own started noInit witness ?_
  intro w tape i _ hsh _ hok hpre _
  obtain ⟨_, _, _, fn', hfn', _, _, _, _, hval⟩ := hok
  obtain rfl : fn' = fn := Option.some.inj (hfn'.symm.trans hfn)
  obtain ⟨ds, gs, before, hw, _, hkk⟩ := (OpenSpec.pre_some hk conds apart _ _).1 hpre.1
  refine (contract (w.forCall tape i) w.heap.size i.args ds gs before hval (DataW.Whole.of_heap (w' := w.forCall tape i) (by rfl) hw) hkk (hpre.2.weights hw) hsh).mono fun e W' ⟨v, he, hp⟩ => ?_
  subst he
  exact ChangeSpec.post_blind hp
end Go.Proofs.Ytmpmkjlkhlagfaa
namespace Go.Proofs.Ytmpmkjlkhlagfaa
open Go.ChangeMaps Go.ChangeShapes Go.WideShapes Go.ChangeAt Go.RowKit Go.Fd
section
variable {H : Type}
theorem bulkAll_append (xs ys : List (DataW H)) : Rows.uptoBulkAll (xs ++ ys) = Rows.uptoBulkAll xs + Rows.uptoBulkAll ys := by
  induction xs with
  | nil => simp [Rows.uptoBulkAll]
  | cons x xs ih => rw [List.cons_append, Rows.uptoBulkAll, Rows.uptoBulkAll, ih]; omega
theorem bulk_get {xs : List (DataW H)} {i : Nat} {x : DataW H} (h : xs[i]? = some x) : Rows.uptoBulk x ≤ Rows.uptoBulkAll xs := by
  induction xs generalizing i with
  | nil => simp at h
  | cons y xs ih =>
    rw [Rows.uptoBulkAll]
    cases i with
    | zero => simp at h; subst h; omega
    | succ i => have := ih (by simpa using h); omega
end
set_option maxRecDepth 100000 in
/-- A slice of records, as it is read, with a measure of each. -/
theorem trod_recs {H : Type} {enc : TypeId × Value → H} {W : World} {v : Value} {y : DataW H × List MemPlace} {fuel : Nat} {α : Type} {k : Nat} {ec : α → List Value} {good : α → Prop} {μ : α → Nat} {t e : TypeId}
    (ht : Try.prog.underlying t = some (.slice e)) (hc : Try.prog.cellsOf e = k) (hk0 : 0 < k) (hlen : ∀ x, (ec x).length = k)
    (hstep : ∀ n cs y, DataW.trod enc Try.prog W 0 (fun _ => true) true n e cs = some y → cs.length = k → ∃ x, cs = ec x ∧ good x ∧ μ x ≤ Rows.uptoBulk y.1)
    (h : DataW.trod enc Try.prog W 0 (fun _ => true) true fuel t [v] = some y) : ∃ l : List α, RdR k ec W v l ∧ (∀ x ∈ l, good x) ∧ (l.map μ).sum + 1 ≤ Rows.uptoBulk y.1 := by
  rcases Go.Deep.open_slice ht h with ⟨hcs, hx⟩ | ⟨a, len, cap, m, n, D, Pl, hcs, _, hl, hm, hmm, hd, hel⟩
  · simp at hcs
    subst hcs hx
    exact ⟨[], RdR.nil k ec W, (fun x hx => by cases hx), by simp [Rows.uptoBulk]⟩
  · simp at hcs
    subst hcs hd
    simp only [hc] at hel
    have hall : ∀ n', n' ≤ len → ∃ l : List α, l.length = n' ∧ (l.map μ).sum ≤ Rows.uptoBulkAll ((List.range n').map D) ∧ ∀ i x, l[i]? = some x → good x ∧ ∀ c, c < k → W.cell? (a.add (i * k + c)) = (ec x)[c]? := by
      intro n'
      induction n' with
      | zero => exact fun _ => ⟨[], rfl, by simp, fun i x h => by simp at h⟩
      | succ n' ih =>
        intro hn
        obtain ⟨l, h1, hs, h2⟩ := ih (by omega)
        obtain ⟨cs', h3, h4⟩ := hel n' (by simp at hmm; omega)
        obtain ⟨-, h5, h6⟩ := World.cells?_some h3
        obtain ⟨x, rfl, hg, hμ⟩ := hstep _ _ _ h4 h5
        dsimp only at hμ
        refine ⟨l ++ [x], by simp [h1], ?_, fun i y hi => ?_⟩
        · rw [List.range_succ, List.map_append, List.map_append, List.sum_append, bulkAll_append]
          simp [Rows.uptoBulkAll]
          omega
        · rcases Nat.lt_or_ge i n' with hlt | hge
          · rw [List.getElem?_append_left (by omega)] at hi
            exact h2 i y hi
          · rw [List.getElem?_append_right (by omega)] at hi
            have hi0 : i - l.length = 0 := by
              have := (List.getElem?_eq_some_iff.1 hi).1
              simp at this
              omega
            rw [hi0] at hi
            cases hi
            obtain rfl : i = n' := by omega
            refine ⟨hg, fun c hc => ?_⟩
            have := h6 c hc
            rwa [Go.Deep.add_add] at this
    obtain ⟨l, h1, hs, h2⟩ := hall len (Nat.le_refl _)
    refine ⟨l, ⟨by rw [flat_len hlen], some a, cap, by rw [h1], by omega, (fun h => by cases h), fun j hj => ?_⟩, fun x hx => ?_, ?_⟩
    · rw [flat_len hlen] at hj
      have hjk : j = j / k * k + j % k := by rw [Nat.mul_comm]; exact (Nat.div_add_mod j k).symm
      have hi : j / k < l.length := (Nat.div_lt_iff_lt_mul hk0).2 hj
      have hx : l[j / k]? = some l[j / k] := List.getElem?_eq_getElem hi
      have h3 := (h2 _ _ hx).2 (j % k) (Nat.mod_lt _ hk0)
      rw [← hjk] at h3
      have h4 := flat_get hlen l (j / k) (j % k) _ hx (Nat.mod_lt _ hk0)
      rw [← hjk] at h4
      obtain ⟨b, off, spot⟩ := a
      have hspot : spot = none := by
        have hl0 : 0 < l.length := Nat.lt_of_le_of_lt (Nat.zero_le _) hi
        have hx0 : l[0]? = some (l[0]'hl0) := List.getElem?_eq_getElem _
        have h0 := (h2 0 _ hx0).2 0 hk0
        have h5 : (ec (l[0]'hl0))[0]? = some ((ec (l[0]'hl0))[0]'(by rw [hlen]; exact hk0)) := List.getElem?_eq_getElem _
        rw [h5, Nat.zero_mul, Nat.zero_add] at h0
        simpa [Addr.add] using World.cell?_spot h0
      subst hspot
      refine ⟨b, off, rfl, ?_⟩
      rw [add_plain] at h3
      rw [h3, h4]
    · obtain ⟨i, hi⟩ := List.mem_iff_getElem?.1 hx
      exact (h2 i x hi).1
    · rw [Rows.uptoBulk]
      omega
theorem flat_one {α β : Type} (f : α → β) (l : List α) : l.flatMap (fun c => [f c]) = l.map f := by
  induction l with
  | nil => rfl
  | cons x l ih => rw [List.flatMap_cons, ih]; rfl
theorem wf_i64 {x : Int} (h : (Lit.int .i64 x).wf = true) : -9223372036854775808 ≤ x ∧ x < 9223372036854775808 := by
  simp [Lit.wf, IntKind.min, IntKind.max, IntKind.signed, IntKind.bits] at h
  omega
/-- A struct of cells, each field of one cell: how each reads, with what was read. -/
theorem cells_struct2 {H : Type} {enc : TypeId × Value → H} {P : Program} {w : World} {base : Nat} {spare : Nat → Bool} {held : Bool} {t : TypeId} {fs : Array Field} {cs : List Value} {fuel : Nat} {y : DataW H × List MemPlace}
    (hs : P.underlying t = some (.struct fs)) (hone : Go.Deep.oneCellFields P fs = true) (hC : cs.length = fs.size) (h : DataW.trod enc P w base spare held fuel t cs = some y) :
    ∃ n ds, y.1 = .agg ds ∧ ∀ (j : Nat) (f : Field), fs[j]? = some f → ∃ x z, cs[j]? = some x ∧ DataW.trod enc P w base spare held n f.type [x] = some z ∧ ds[j]? = some z.1 := by
  obtain ⟨xs, n, _, hx, _, hlen, hg⟩ := DataW.trod_struct hs h
  refine ⟨n, xs.map (·.1), by rw [hx], fun j f hj => ?_⟩
  obtain ⟨o, k⟩ := Go.Deep.hone_of hone j f hj
  have hjl : j < fs.size := (Array.getElem?_eq_some_iff.1 hj).1
  have hcl : j < cs.length := by omega
  have h1 := hg j f hj
  rw [o, k] at h1
  have h2 : (List.drop j cs).take 1 = [cs[j]] := by
    rw [List.drop_eq_getElem_cons hcl]
    rfl
  rw [h2] at h1
  exact ⟨_, xs[j]'(by omega), List.getElem?_eq_getElem hcl, h1.trans (List.getElem?_eq_getElem _), by rw [List.getElem?_map, List.getElem?_eq_getElem (by omega)]; rfl⟩
end Go.Proofs.Ytmpmkjlkhlagfaa
namespace Go.Proofs.Ytmpmkjlkhlagfaa
open Go.ChangeMaps Go.ChangeShapes Go.WideShapes Go.ChangeAt Go.RowKit Go.Fd
def RowM.fits (x : RowM) : Prop := -9223372036854775808 ≤ x.off ∧ x.off < 9223372036854775808 ∧ -9223372036854775808 ≤ x.file ∧ x.file < 9223372036854775808 ∧ -9223372036854775808 ≤ x.line ∧ x.line < 9223372036854775808
set_option maxRecDepth 100000 in
theorem trod_rows {H : Type} {enc : TypeId × Value → H} {W : World} {v : Value} {y : DataW H × List MemPlace} {fuel : Nat} (h : DataW.trod enc Try.prog W 0 (fun _ => true) true fuel 37 [v] = some y) :
    ∃ l : List RowM, RdR 3 encRow W v l ∧ (∀ s ∈ l, s.fits) ∧ l.length + 1 ≤ Rows.uptoBulk y.1 := by
  obtain ⟨l, h1, h2, h3⟩ := trod_recs (α := RowM) (k := 3) (ec := encRow) (good := RowM.fits) (μ := fun _ => 1) (e := 41) (by kernel_rfl) (by kernel_rfl) (by decide) (fun _ => rfl) (fun n cs y h hl => by
    obtain ⟨xs, n', -, rfl, -, -, -⟩ := DataW.trod_struct Try.underlying41 h
    obtain ⟨m, hf⟩ := cells_struct Try.underlying41 (by kernel_rfl) hl h
    obtain ⟨c0, c1, c2, rfl⟩ := len_3 hl
    obtain ⟨x0, y0, e0, t0⟩ := hf 0 _ rfl
    obtain ⟨x1, y1, e1, t1⟩ := hf 1 _ rfl
    obtain ⟨x2, y2, e2, t2⟩ := hf 2 _ rfl
    cases e0; cases e1; cases e2
    obtain ⟨n0, q0, -, w0⟩ := DataW.trod_int Try.underlying3 t0
    obtain ⟨n1, q1, -, w1⟩ := DataW.trod_int Try.underlying3 t1
    obtain ⟨n2, q2, -, w2⟩ := DataW.trod_int Try.underlying3 t2
    cases q0; cases q1; cases q2
    have h0 := wf_i64 w0
    have h1 := wf_i64 w1
    have h2 := wf_i64 w2
    exact ⟨⟨n0, n1, n2⟩, rfl, ⟨h0.1, h0.2, h1.1, h1.2, h2.1, h2.2⟩, by simp [Rows.uptoBulk]⟩) h
  exact ⟨l, h1, h2, by rw [List.map_const', List.sum_replicate_nat] at h3; omega⟩
/-- The cells of a run, as they are read. -/
theorem trod_run {H : Type} {enc : TypeId × Value → H} {W : World} {cs : List Value} {y : DataW H × List MemPlace} {fuel : Nat} (h : DataW.trod enc Try.prog W 0 (fun _ => true) true fuel 39 cs = some y) (hl : cs.length = 3) :
    ∃ p : RunM × Value, cs = encRun p ∧ (p.1.fits ∧ RdR 3 encRow W p.2 p.1.rows) ∧ p.1.rows.length + 1 ≤ Rows.uptoBulk y.1 := by
  obtain ⟨m, ds, hy, hf⟩ := cells_struct2 Try.underlying39 (by kernel_rfl) hl h
  obtain ⟨c0, c1, c2, rfl⟩ := len_3 hl
  obtain ⟨x0, y0, e0, t0, -⟩ := hf 0 _ rfl
  obtain ⟨x1, y1, e1, t1, d1⟩ := hf 1 _ rfl
  obtain ⟨x2, y2, e2, t2, -⟩ := hf 2 _ rfl
  cases e0; cases e1; cases e2
  obtain ⟨n0, q0, -, w0⟩ := DataW.trod_int Try.underlying36 t0
  obtain ⟨l, hl1, hl2, hl3⟩ := trod_rows t1
  obtain ⟨n2, q2, -, w2⟩ := DataW.trod_int Try.underlying3 t2
  cases q0; cases q2
  have h0 := wf_u64 w0
  have h2 := wf_i64 w2
  refine ⟨(⟨n0.toNat, l, n2⟩, c1), ?_, ⟨⟨by show n0.toNat < _; omega, h2.1, h2.2, fun x hx => hl2 x hx⟩, hl1⟩, ?_⟩
  · simp only [encRun, Int.toNat_of_nonneg h0.1]
  · rw [hy, Rows.uptoBulk]
    have := bulk_get d1
    show l.length + 1 ≤ _
    omega
set_option maxRecDepth 100000 in
theorem reads_run {H : Type} {enc : TypeId × Value → H} {W : World} {base : Nat} {v : Value} {d : DataW H} {p : List MemPlace} (hv : Value.okWide Try.prog W .any base 39 v) (h : DataW.Trod enc Try.prog W 0 (fun _ => true) true 39 v d p) :
    ∃ (r : RunM) (rv : Value), v = .agg (encRun (r, rv)).toArray ∧ r.fits ∧ RdR 3 encRow W rv r.rows := by
  obtain ⟨cs, rfl, hsz⟩ := okWide_struct Try.underlying39 hv
  have h3 : cs.toList.length = 3 := by simp [hsz]; kernel_rfl
  obtain ⟨fuel, hf0⟩ := h
  obtain ⟨⟨r, rv⟩, h1, h2, -⟩ := trod_run (cs := cs.toList) hf0 h3
  exact ⟨r, rv, by rw [← h1], h2⟩
set_option maxRecDepth 100000 in
theorem reads_runs {H : Type} {enc : TypeId × Value → H} {W : World} {base : Nat} {v : Value} {d : DataW H} {p : List MemPlace} (hv : Value.okWide Try.prog W .any base 23 v) (h : DataW.Trod enc Try.prog W 0 (fun _ => true) true 23 v d p) :
    ∃ (rs : List RunM) (L : List (RunM × Value)), RunsAt W v rs L ∧ (∀ r ∈ rs, r.fits) ∧ rs.length + nrows rs ≤ Rows.uptoBulk d := by
  obtain ⟨a0, len, cap, rfl⟩ := okWide_slice (by kernel_rfl : Try.prog.underlying 23 = some (.slice 39)) hv
  obtain ⟨fuel, hf⟩ := h
  obtain ⟨L, h1, h2, h3⟩ := trod_recs (α := RunM × Value) (k := 3) (ec := encRun) (good := fun p => p.1.fits ∧ RdR 3 encRow W p.2 p.1.rows) (μ := fun p => p.1.rows.length + 1) (e := 39) (by kernel_rfl) (by kernel_rfl) (by decide) (fun _ => rfl) (fun n cs y h hl => trod_run h hl) hf
  refine ⟨L.map (·.1), L, ⟨rfl, h1, fun p hp => (h2 p hp).2⟩, fun r hr => ?_, ?_⟩
  · obtain ⟨p, hp, rfl⟩ := List.mem_map.1 hr
    exact (h2 p hp).1
  · have hs : (L.map (·.1)).length + nrows (L.map (·.1)) = (L.map fun p => p.1.rows.length + 1).sum := by
      clear h1 h2 h3 hf hv
      induction L with
      | nil => rfl
      | cons p L ih =>
        unfold nrows at *
        simp only [List.map_cons, List.sum_cons, List.length_cons] at *
        omega
    have h3' : _ + 1 ≤ Rows.uptoBulk d := h3
    omega
set_option maxRecDepth 100000 in
theorem reads_files {H : Type} {enc : TypeId × Value → H} {W : World} {base : Nat} {v : Value} {d : DataW H} {p : List MemPlace} (hv : Value.okWide Try.prog W .any base 22 v) (h : DataW.Trod enc Try.prog W 0 (fun _ => true) true 22 v d p) :
    ∃ l : List (List UInt8), Rd S W v l ∧ (∀ s ∈ l, s.length ≤ 9223372036854775807) ∧ l.length ≤ Rows.uptoBulk d := by
  obtain ⟨a0, len, cap, rfl⟩ := okWide_slice (by kernel_rfl : Try.prog.underlying 22 = some (.slice 9)) hv
  obtain ⟨fuel, hf⟩ := h
  obtain ⟨l, h1, h2, h3⟩ := trod_recs (α := List UInt8) (k := 1) (ec := fun s => [S s]) (good := fun s => s.length ≤ 9223372036854775807) (μ := fun _ => 1) (e := 9) (by kernel_rfl) (by kernel_rfl) (by decide) (fun _ => rfl) (fun n cs y h hl => by
    obtain ⟨c0, rfl⟩ := List.length_eq_one_iff.1 hl
    obtain ⟨s, q0, hy, hs⟩ := DataW.trod_string Try.underlying9 h
    cases q0
    unfold maxLen at hs
    exact ⟨s.data.toList, rfl, by show s.data.toList.length ≤ _; simpa using hs, by rw [hy]; simp [Rows.uptoBulk]⟩) hf
  refine ⟨l, ?_, h2, ?_⟩
  · have e := flat_one S l
    unfold RdR at h1
    rw [e] at h1
    exact h1
  · have h3' : (l.map fun _ => 1).sum + 1 ≤ Rows.uptoBulk d := h3
    rw [List.map_const', List.sum_replicate_nat] at h3'
    omega
end Go.Proofs.Ytmpmkjlkhlagfaa
namespace Go.Proofs.Ytmpmkjlkhlagfaa
open Go.ChangeShapes Go.WideShapes Go.ChangeAt Go.RowKit Go.Fd
set_option maxRecDepth 100000 in
theorem lineUnitsUpto_lifted (os : Os) (started : os.Started) (H : Type) (enc : TypeId × Value → H) (F : Stop.Interp) :
    ReturnsInHanded {} Try.checked os 3 .any ((Rows.OpenSpec.upto Rows.lineUnitsSpec).pre6 enc Try.prog Try.f3 Rows.lineUnitsUptoRow.domain false) (((Rows.OpenSpec.upto Rows.lineUnitsSpec).at F).post enc Try.prog Try.f3 false true false false) := by
  refine handed_cond (C := Try.checked) (s := (Rows.OpenSpec.upto Rows.lineUnitsSpec)) (k := Rows.uptoSmall) rfl Try.own started (by kernel_rfl) Try.func3
    (OpenSpec.witness (enc := enc) (C := Try.checked) (s := (Rows.OpenSpec.upto Rows.lineUnitsSpec)) (k := Rows.uptoSmall) rfl false ⟨#[], #[.slice none 0 0, .slice none 0 0], []⟩ 8 (by kernel_rfl) (by kernel_rfl) (by kernel_rfl)
      (x := ([.nil, .nil], [], [])) (by kernel_rfl) rfl (by kernel_rfl)) ?_
  intro W base args ds gs before hval0 hW hk hz hsh
  have hval : ∀ (j : Nat) t v, Try.f3.params[j]? = some t → args[j]? = some v → Value.okWide Try.prog W .any base t v := hval0
  have hW' := hW
  obtain ⟨p, q, hA0, hV, rfl, hfz, hnd⟩ := hW
  have hA : DataW.TrodAll enc Try.prog W 0 (fun _ => true) true Try.f3.params.toList args.toList ds p := hA0
  have hlt : ∀ x ∈ p, x.block < W.heap.size := fun x hx => hW'.lt x (by simp [hx])
  have hback : ∀ W', Below W.heap.size W W' → DataW.TrodAll enc Try.prog W' 0 (fun b => decide (b < W.heap.size)) true Try.f3.params.toList args.toList ds p :=
    fun W' hb => belowAllB (by kernel_rfl) hb hA hlt
  rw [Try.params3] at hA hval
  obtain ⟨v0, vs0, d0, ds0, p0, q0, hargs, rfl, rfl, h0, r0⟩ := trodAll_cons hA
  obtain ⟨v1, vs1, d1, ds1, p1, q1, rfl, rfl, rfl, h1, r1⟩ := trodAll_cons r0
  obtain ⟨rfl, rfl, rfl⟩ := trodAll_nil r1
  obtain rfl : args = #[v0, v1] := by
    cases args
    simp at hargs
    simp [hargs]
  clear hargs
  obtain ⟨rfl, rfl⟩ := trodVars_none hV
  have fin : ∀ (e : Ending) (W' : World), (e = .returned (.bool true) ∧ Below W.heap.size W W') → ∃ v, e = Ending.returned v ∧ ((Rows.OpenSpec.upto Rows.lineUnitsSpec).at F).post enc Try.checked.prog Try.f3 false true false false W #[v0, v1] v W' := by
    rintro e W' ⟨rfl, hb⟩
    exact ⟨_, rfl, _, _, _, [], _, [], hW', trodAll_mk1 (shut_bool Try.underlying4 true), hback W' hb, rfl, hb.frame _, fun h => by cases h⟩
  obtain ⟨fs, hfs, hss, hfl⟩ := reads_files (hval 0 22 v0 rfl rfl) h0
  obtain ⟨rs, L, hrs, hft, hrl⟩ := reads_runs (hval 1 23 v1 rfl rfl) h1
  have hb : Rows.uptoBulk d0 ≤ 1048576 ∧ Rows.uptoBulk d1 ≤ 1048576 := by
    have := of_decide_eq_true hk
    simp [Rows.uptoBulkAll] at this
    omega
  exact (lineUnits_any fs v0 rs L v1 W hfs hrs (by omega) hss hft).mono fin
theorem lineUnitsUpto_holds : Rows.LineUnitsUptoSaid :=
  OpenClaim.holds_of_cond 3 Try.f3 rfl rfl rfl rfl rfl rfl rfl ⟨rfl, rfl, rfl, rfl, rfl⟩ rfl rfl rfl rfl rfl (by kernel_rfl) Try.func3 (by kernel_rfl)
    (of_decide_eq_true (by kernel_rfl)) (by unfold Func.isWrapper; rw [if_neg (of_decide_eq_false (by kernel_rfl))]; exact ⟨rfl, rfl⟩)
    (fun os started H enc _ F => lineUnitsUpto_lifted os started H enc F)
end Go.Proofs.Ytmpmkjlkhlagfaa
namespace Go.Proofs.Ytmpmkjlkhlagfaa
open Go.RowKit Go.Fd
theorem wantR_snoc (a : Int) (xs : List RowM) (x : RowM) : ∀ w, wantR a w (xs ++ [x]) = if x.off ≤ a then x else wantR a w xs := by
  induction xs with
  | nil => intro w; rfl
  | cons y ys ih => intro w; exact ih _
set_option maxRecDepth 100000 in
theorem wpList_litAB {ops : Array Oper} {rest : List Oper} {Q : Exit → Act → World → Prop} {a : Act} {w : World} {d : Option Tmp} {ty : TypeId} {pos : String} {aft : Array Edge}
    (h : ∀ w1, Rd S w1 (.slice (some ⟨w.heap.size, 0, none⟩) 2 2) [[97], [98]] → Below w.heap.size w w1 → wpList Try.prog ops Q rest (a.put d (.slice (some ⟨w.heap.size, 0, none⟩) 2 2)) w1) :
    wpList Try.prog ops Q (⟨d, .buildSlice 22 2 #[(0, .const (.string ⟨#[97]⟩)), (1, .const (.string ⟨#[98]⟩))], ty, pos, aft, none⟩ :: rest) a w := by
  refine wpList_val rfl (by kernel_rfl) (h (w.alloc (.cells #[.string ⟨#[97]⟩, .string ⟨#[98]⟩] 9)) ?_ (below_alloc w _))
  refine ⟨by simp, _, _, rfl, Nat.le_refl _, (fun h => by cases h), fun j hj => ⟨w.heap.size, 0, rfl, ?_⟩⟩
  rw [Nat.zero_add, cell_rec (heap_alloc_last w _) j]
  simp
theorem finds_hit {r : RunM} {a : Int} {x : RowM} {xs : List RowM} (hk : runOk 2 r = true) (hfin : r.end_ < 9223372036854775808) (hat : r.at_ ≤ 4611686018427387904) (ha : a < r.end_) (hr : r.rows = x :: xs) (hx : x.off ≤ a) :
    ∃ e, findL (runEnts r) (r.at_ + a.toNat) = some e ∧ e.file = (wantR a x r.rows).file ∧ e.line = (wantR a x r.rows).line := by
  obtain ⟨k0, k1⟩ := runOk_iff hk
  rw [hr] at k1
  obtain ⟨e, h1, h2, h3⟩ := find_hit (f := lastFile 1 r.rows) (g := lastLine 1 r.rows) hfin hat ha xs x 0 k1 (Int.le_refl _) hx
  have hw : wantR a x r.rows = wantR a x xs := by rw [hr, wantR, if_pos hx]
  refine ⟨e, ?_, by rw [hw]; exact h2, by rw [hw]; exact h3⟩
  unfold runEnts
  rw [← hr] at h1
  exact h1
structure FindsB (m At a : Nat) (fin : Int) : Prop where
  t1 : ¬ 60 < m
  t3 : ¬ 4611686018427387904 < At
  a2 : (a : Int) < 9223372036854775808
  f1 : At < 18446744073709551616
  f2 : -9223372036854775808 ≤ fin
  f3 : fin < 9223372036854775808
attribute [local irreducible] unitB placesB unitEnts findL wantR
set_option maxHeartbeats 8000000 in
set_option maxRecDepth 100000 in
theorem lineFinds_any (r : RunM) (rv : Value) (at_ : Int) (w : World) (hr : RdR 3 encRow w rv r.rows) (hf : r.fits) (ha1 : -9223372036854775808 ≤ at_) (ha2 : at_ < 9223372036854775808) :
    Calls Try.prog 5 #[.agg (encRun (r, rv)).toArray, .int .i64 at_] w fun e w' => e = .returned (.bool true) ∧ Below w.heap.size w w' := by
  have HFT := Lib.hid hf
  obtain ⟨At, rows, fin⟩ := r
  obtain ⟨f1, f2, f3, f4⟩ := hf
  simp only at f1 f2 f3 hr
  have HR := Lib.hid hr
  obtain ⟨m, ra, rc, hml, rfl, _, _⟩ := hr.shape
  have HM := Lib.hid hml.out
  clear hr hml f4
  show Calls Try.prog 5 #[.agg #[.int .u64 (At : Int), .slice ra m rc, .int .i64 fin], .int .i64 at_] w _
  by_cases t1 : 60 < m
  · have d1 : decide ((60 : Int) < (m : Int)) = true := decide_eq_true (by omega)
    go_enter Try.func5, Try.ntmps5
    go_wp2_with (first
      | ((with_reducible show wpList _ _ _ (⟨some 2, .box _ _, _, _, _, _⟩ :: _) _ _); go_must (refine wpList_boxA rfl ?_; intro w1 hx1 hb1 hs1; have HX1 := Lib.hid hx1; have HB1 := Lib.hid hb1; clear hx1 hb1))
      | (go_at_call 8; go_must (refine (begun18_any _).mono ?_; rintro e w2 ⟨rfl, hb2⟩; have HX2 := Lib.hid (heap_below hb2 HX1.out); have HB2 := Lib.hid (HB1.out.trans (hb2.mono HB1.out.size)); obtain ⟨x0, x1, x2⟩ := run3 HX2.out; clear hb2)))
    go_ret
    exact ⟨rfl, HB2.out⟩
  by_cases t2 : at_ < 0
  · have d2 : decide (at_ < 0) = true := decide_eq_true t2
    go_enter Try.func5, Try.ntmps5
    go_wp2_with (first
      | ((with_reducible show wpList _ _ _ (⟨some 2, .box _ _, _, _, _, _⟩ :: _) _ _); go_must (refine wpList_boxA rfl ?_; intro w1 hx1 hb1 hs1; have HX1 := Lib.hid hx1; have HB1 := Lib.hid hb1; clear hx1 hb1))
      | (go_at_call 8; go_must (refine (begun18_any _).mono ?_; rintro e w2 ⟨rfl, hb2⟩; have HX2 := Lib.hid (heap_below hb2 HX1.out); have HB2 := Lib.hid (HB1.out.trans (hb2.mono HB1.out.size)); obtain ⟨x0, x1, x2⟩ := run3 HX2.out; clear hb2)))
    go_ret
    exact ⟨rfl, HB2.out⟩
  by_cases t3 : 4611686018427387904 < At
  · have d3 : decide ((4611686018427387904 : Int) < (At : Int)) = true := decide_eq_true (by omega)
    go_enter Try.func5, Try.ntmps5
    go_wp2_with (first
      | ((with_reducible show wpList _ _ _ (⟨some 2, .box _ _, _, _, _, _⟩ :: _) _ _); go_must (refine wpList_boxA rfl ?_; intro w1 hx1 hb1 hs1; have HX1 := Lib.hid hx1; have HB1 := Lib.hid hb1; clear hx1 hb1))
      | (go_at_call 8; go_must (refine (begun18_any _).mono ?_; rintro e w2 ⟨rfl, hb2⟩; have HX2 := Lib.hid (heap_below hb2 HX1.out); have HB2 := Lib.hid (HB1.out.trans (hb2.mono HB1.out.size)); obtain ⟨x0, x1, x2⟩ := run3 HX2.out; clear hb2)))
    go_ret
    exact ⟨rfl, HB2.out⟩
  obtain ⟨a, rfl⟩ := Int.eq_ofNat_of_zero_le (show 0 ≤ at_ by omega)
  have d1 : decide ((60 : Int) < (m : Int)) = false := decide_eq_false (by omega)
  have d2 : decide ((a : Int) < 0) = false := decide_eq_false (by omega)
  have d3 : decide ((4611686018427387904 : Int) < (At : Int)) = false := decide_eq_false (by omega)
  have hsum : IntKind.u64.wrap ((At : Int) + (a : Int)) = (At : Int) + (a : Int) := by rw [IntKind.wrap_u64]; omega
  have hconv : IntKind.u64.wrap (a : Int) = (a : Int) := by rw [IntKind.wrap_u64]; omega
  have HBD := Lib.hid (show FindsB m At a fin from ⟨t1, t3, ha2, f1, f2, f3⟩)
  clear t1 t2 t3 ha1 ha2 f1 f2 f3
  have HLT := Lib.hid (show ([[97], [98]] : List (List UInt8)).length + [(⟨At, rows, fin⟩ : RunM)].length + nrows [(⟨At, rows, fin⟩ : RunM)] ≤ 400 by
    have h1 : nrows [(⟨At, rows, fin⟩ : RunM)] = rows.length := by unfold nrows; simp
    have h2 := HM.out
    have h3 := HBD.out.t1
    rw [h1]
    show 2 + 1 + rows.length ≤ 400
    omega)
  have HFT1 := Lib.hid (show ∀ r ∈ [(⟨At, rows, fin⟩ : RunM)], r.fits from fun r hr => by rw [List.mem_singleton] at hr; subst hr; exact HFT.out)
  have HU0 := Lib.hid (fun wx v (hv : Rd S wx v [[97], [98]]) (u : Value) (hu : RunsAt wx u [(⟨At, rows, fin⟩ : RunM)] [(⟨At, rows, fin⟩, .slice ra m rc)]) => lnUnit_any [[97], [98]] v [⟨At, rows, fin⟩] _ u wx hv hu HLT.out (fun s hs => by
    rcases List.mem_cons.1 hs with rfl | hs
    · decide
    · rw [List.mem_singleton] at hs; subst hs; decide) HFT1.out)
  by_cases hfy : faultyL [[97], [98]] [⟨At, rows, fin⟩] = 0
  rotate_left
  · have HU1 := Lib.hid (unitR_no hfy)
    have hne : (faultyL [[97], [98]] [⟨At, rows, fin⟩] != 0) = true := by simpa using hfy
    rw [HU1.out] at HU0
    generalize faultyL [[97], [98]] [⟨At, rows, fin⟩] = e0 at *
    clear hfy
    go_enter Try.func5, Try.ntmps5
    go_wp2_with (first
      | ((with_reducible show wpList _ _ _ (⟨some 2, .box _ _, _, _, _, _⟩ :: _) _ _); go_must (refine wpList_boxA rfl ?_; intro w1 hx1 hb1 hs1; have HX1 := Lib.hid hx1; have HB1 := Lib.hid hb1; clear hx1 hb1))
      | (go_at_call 8; go_must (refine (begun18_any _).mono ?_; rintro e w2 ⟨rfl, hb2⟩; have HX2 := Lib.hid (heap_below hb2 HX1.out); have HB2 := Lib.hid (HB1.out.trans (hb2.mono HB1.out.size)); have hz2 := HB2.out.size; obtain ⟨x0, x1, x2⟩ := run3 HX2.out; clear hb2))
      | ((with_reducible show wpList _ _ _ (⟨some 31, _, _, _, _, _⟩ :: _) _ _); go_must (refine wpList_litAB ?_; intro w3 hv3 hb3; have HV3 := Lib.hid hv3; have HX3 := Lib.hid (heap_below hb3 HX2.out); have HB3 := Lib.hid (HB2.out.trans (hb3.mono hz2)); have hz3 := HB3.out.size; clear x0 x1 x2; obtain ⟨x0, x1, x2⟩ := run3 HX3.out; clear hv3 hb3))
      | ((with_reducible show wpList _ _ _ (⟨some 33, _, _, _, _, _⟩ :: _) _ _); go_must (refine wpList_oneRun (r := ⟨At, rows, fin⟩) rfl (HR.out.mono HB3.out) ?_; intro w4 hv4 hb4 hs4; have HV4 := Lib.hid hv4; have HV34 := Lib.hid (HV3.out.mono hb4); have HX4 := Lib.hid (heap_below hb4 HX3.out); have HB4 := Lib.hid (HB3.out.trans (hb4.mono hz3)); have hz4 := HB4.out.size; clear hv4 hb4 hs4))
      | (go_at_call 10; go_must (refine (HU0.out _ _ HV34.out _ HV4.out).mono ?_; rintro e w5 ⟨vb, va, rfl, hvb, hva, hb5⟩; obtain ⟨bm, ba, bc, -, rfl, _, _⟩ := hvb.shape; obtain ⟨am, aa, ac, -, rfl, _, _⟩ := hva.shape; have HB5 := Lib.hid (HB4.out.trans (hb5.mono hz4)); clear hvb hva hb5)))
    go_ret
    exact ⟨rfl, HB5.out⟩
  have HU1 := Lib.hid (unitR_yes hfy)
  rw [HU1.out] at HU0
  have HUN := Lib.hid (units_one hfy HLT.out HFT1.out)
  have HOK := Lib.hid ((faulty_ok hfy).2.2.2 ⟨At, rows, fin⟩ (by simp))
  have HEN := Lib.hid (show unitEnts [(⟨At, rows, fin⟩ : RunM)] = runEnts ⟨At, rows, fin⟩ by unfold unitEnts; simp)
  have HEL := Lib.hid (show (runEnts ⟨At, rows, fin⟩).length < 60000 by rw [runEnts_len]; show rows.length + 1 < 60000; have := HM.out; have := HBD.out.t1; omega)
  have HBL := Lib.hid (show (unitB [[97], [98]] [(⟨At, rows, fin⟩ : RunM)]).length ≤ 1000000 by rw [unitB_len]; have := lnBodyB_le hfy HLT.out; omega)
  rw [HEN.out] at HUN
  have HMS := Lib.hid (find_miss (r := ⟨At, rows, fin⟩) (a := (a : Int)) HOK.out HBD.out.f3 (by show At ≤ _; have := HBD.out.t3; omega) (by omega) HBD.out.a2)
  have HHT := Lib.hid (fun x xs => finds_hit (r := ⟨At, rows, fin⟩) (a := (a : Int)) (x := x) (xs := xs) HOK.out HBD.out.f3 (by show At ≤ _; have := HBD.out.t3; omega))
  have HFI := Lib.hid (fun wx v (hv : RdR 4 encEnt wx v (runEnts ⟨At, rows, fin⟩)) => lnFind_any (runEnts ⟨At, rows, fin⟩) (At + a) v wx hv HEL.out (by have := HBD.out.t3; have := HBD.out.a2; omega))
  simp only [Int.toNat_natCast] at HMS HHT
  simp only [Int.natCast_add] at HFI
  clear hfy HU1
  generalize unitB [[97], [98]] [⟨At, rows, fin⟩] = UB at *
  generalize runEnts ⟨At, rows, fin⟩ = T at *
  generalize findL T (At + a) = FO at *
  go_enter Try.func5, Try.ntmps5
  go_wp2_with (first
    | ((with_reducible show wpList _ _ _ (⟨some 2, .box _ _, _, _, _, _⟩ :: _) _ _); go_must (refine wpList_boxA rfl ?_; intro w1 hx1 hb1 hs1; have HX1 := Lib.hid hx1; have HB1 := Lib.hid hb1; clear hx1 hb1))
    | (go_at_call 8; go_must (refine (begun18_any _).mono ?_; rintro e w2 ⟨rfl, hb2⟩; have HX2 := Lib.hid (heap_below hb2 HX1.out); have HB2 := Lib.hid (HB1.out.trans (hb2.mono HB1.out.size)); have hz2 := HB2.out.size; obtain ⟨x0, x1, x2⟩ := run3 HX2.out; clear hb2))
    | ((with_reducible show wpList _ _ _ (⟨some 31, _, _, _, _, _⟩ :: _) _ _); go_must (refine wpList_litAB ?_; intro w3 hv3 hb3; have HV3 := Lib.hid hv3; have HX3 := Lib.hid (heap_below hb3 HX2.out); have HB3 := Lib.hid (HB2.out.trans (hb3.mono hz2)); have hz3 := HB3.out.size; clear x0 x1 x2; obtain ⟨x0, x1, x2⟩ := run3 HX3.out; clear hv3 hb3))
    | ((with_reducible show wpList _ _ _ (⟨some 33, _, _, _, _, _⟩ :: _) _ _); go_must (refine wpList_oneRun (r := ⟨At, rows, fin⟩) rfl (HR.out.mono HB3.out) ?_; intro w4 hv4 hb4 hs4; have HV4 := Lib.hid hv4; have HV34 := Lib.hid (HV3.out.mono hb4); have HX4 := Lib.hid (heap_below hb4 HX3.out); have HB4 := Lib.hid (HB3.out.trans (hb4.mono hz3)); have hz4 := HB4.out.size; clear hv4 hb4 hs4 x0 x1 x2))
    | (go_at_call 10; go_must (refine (HU0.out _ _ HV34.out _ HV4.out).mono ?_; rintro e w5 ⟨vb, va, rfl, hvb, hva, hb5⟩; have HVB := Lib.hid hvb.bs; obtain ⟨bm, ba, bc, -, rfl, _, _⟩ := hvb.shape; obtain ⟨am, aa, ac, -, rfl, _, _⟩ := hva.shape; have HX5 := Lib.hid (heap_below hb5 HX4.out); have HB5 := Lib.hid (HB4.out.trans (hb5.mono hz4)); have hz5 := HB5.out.size; clear hvb hva hb5)))
  refine (lnRead_any _ _ _ _ HBL.out HVB.out HUN.out HEL.out).mono ?_
  rintro e w6 ⟨ov, rfl, hov, hb6⟩
  have HOV := Lib.hid hov.rd
  obtain ⟨om, oa, oc, -, rfl, _, _⟩ := hov.shape
  have HX6 := Lib.hid (heap_below hb6 HX5.out)
  have HB6 := Lib.hid (HB5.out.trans (hb6.mono hz5))
  have hz6 := HB6.out.size
  clear hov hb6
  obtain ⟨x0, x1, x2⟩ := run3 HX6.out
  go_wp2_with fail
  refine (HFI.out _ _ HOV.out).mono ?_
  rintro e w7 ⟨rfl, hb7⟩
  have HX7 := Lib.hid (heap_below hb7 HX6.out)
  have HB7 := Lib.hid (HB6.out.trans (hb7.mono hz6))
  have hz7 := HB7.out.size
  clear hb7 x0 x1 x2
  obtain ⟨E, ok, hE⟩ : ∃ (E : EntM) (ok : Bool), foundV FO = .tuple #[.agg (encEnt E).toArray, .bool ok] ∧ (FO = none → ok = false) ∧ (∀ e, FO = some e → ok = true ∧ E = e) := by
    cases FO with
    | none => exact ⟨⟨0, 0, 0, false⟩, false, rfl, fun _ => rfl, fun e h => by cases h⟩
    | some e => exact ⟨e, true, rfl, (fun h => by cases h), (fun e' h => by cases h; exact ⟨rfl, rfl⟩)⟩
  have HE1 := Lib.hid hE.2
  rw [hE.1]
  clear hE
  have HMN := Lib.hid (show ok = false → FO ≠ none → False from fun h1 h2 => by
    cases FO with
    | none => exact h2 rfl
    | some e => rw [(HE1.out.2 e rfl).1] at h1; cases h1)
  by_cases c1 : m = 0
  · subst c1
    have hok : ok = false := HE1.out.1 (HMS.out (.inl (List.eq_nil_of_length_eq_zero HM.out.symm)))
    subst hok
    go_wp2_with ((with_reducible show wpList _ _ _ (⟨none, .store _ (.tmp 11) _, _, _, _, _⟩ :: _) _ _); go_must (refine wpList_storeNew rfl rfl (by kernel_rfl) rfl (by simp [Value.oneCell', encEnt]) ?_; intro w8 hh8 hb8; have HW8 := Lib.hid hh8; have HX8 := Lib.hid (heap_below hb8 HX7.out); have HB8 := Lib.hid (HB7.out.trans (hb8.mono hz7)); have hz8 := HB8.out.size; obtain ⟨x0, x1, x2⟩ := run3 HX8.out; clear hh8 hb8))
    go_ret
    exact ⟨rfl, HB8.out⟩
  obtain ⟨x, xs, hrows⟩ : ∃ x xs, rows = x :: xs := by
    cases rows with
    | nil => exact absurd HM.out c1
    | cons x xs => exact ⟨x, xs, rfl⟩
  have HRC := Lib.hid (fun wx (h : Below w.heap.size w wx) => row_cells (k := 0) (x := x) (HR.out.mono h) (by rw [hrows]; rfl))
  have HRW := Lib.hid hrows
  obtain ⟨b, o, rfl, -, -, -⟩ := HRC.out w (Below.refl _ _)
  have HRC2 := Lib.hid (fun wx (h : Below w.heap.size w wx) => show wx.cell? ⟨b, o, none⟩ = some (.int .i64 x.off) ∧ wx.cell? ⟨b, o + 1, none⟩ = some (.int .i64 x.file) ∧ wx.cell? ⟨b, o + 2, none⟩ = some (.int .i64 x.line) from by
    obtain ⟨b', o', e, h0, h1, h2⟩ := HRC.out wx h
    cases e
    simp only [Nat.zero_mul, Nat.add_zero] at h0 h1 h2
    exact ⟨h0, h1, h2⟩)
  have d4 : ((m : Int) == 0) = false := by simpa using c1
  have hm0 : 0 < m := by omega
  clear hrows HRC c1
  by_cases c2 : fin ≤ (a : Int)
  · have d5 : decide (fin ≤ (a : Int)) = true := decide_eq_true c2
    have hok : ok = false := HE1.out.1 (HMS.out (.inr (.inl c2)))
    subst hok
    clear c2
    go_wp2_with ((with_reducible show wpList _ _ _ (⟨none, .store _ (.tmp 11) _, _, _, _, _⟩ :: _) _ _); go_must (refine wpList_storeNew rfl rfl (by kernel_rfl) rfl (by simp [Value.oneCell', encEnt]) ?_; intro w8 hh8 hb8; have HW8 := Lib.hid hh8; have HX8 := Lib.hid (heap_below hb8 HX7.out); have HB8 := Lib.hid (HB7.out.trans (hb8.mono hz7)); have hz8 := HB8.out.size; obtain ⟨x0, x1, x2⟩ := run3 HX8.out; clear hh8 hb8))
    go_ret
    exact ⟨rfl, HB8.out⟩
  have d5 : decide (fin ≤ (a : Int)) = false := decide_eq_false c2
  by_cases c3 : (a : Int) < x.off
  · have d6 : decide ((a : Int) < x.off) = true := decide_eq_true c3
    have hok : ok = false := HE1.out.1 (HMS.out (.inr (.inr ⟨x, xs, HRW.out, c3⟩)))
    subst hok
    clear c2 c3
    go_wp2_with ((with_reducible show wpList _ _ _ (⟨none, .store _ (.tmp 11) _, _, _, _, _⟩ :: _) _ _); go_must (refine wpList_storeNew rfl rfl (by kernel_rfl) rfl (by simp [Value.oneCell', encEnt]) ?_; intro w8 hh8 hb8; have HW8 := Lib.hid hh8; have HX8 := Lib.hid (heap_below hb8 HX7.out); have HB8 := Lib.hid (HB7.out.trans (hb8.mono hz7)); have hz8 := HB8.out.size; obtain ⟨x0, x1, x2⟩ := run3 HX8.out; obtain ⟨u0, u1, u2⟩ := HRC2.out _ HB8.out; clear hh8 hb8))
    go_ret
    exact ⟨rfl, HB8.out⟩
  have d6 : decide ((a : Int) < x.off) = false := decide_eq_false c3
  obtain ⟨e, he1, he2, he3⟩ := HHT.out x xs (by omega) HRW.out (by omega)
  obtain ⟨hok, hEe⟩ := HE1.out.2 e he1
  subst hok hEe
  have HEF := Lib.hid he2
  have HEG := Lib.hid he3
  clear c2 c3 he1 he2 he3 HE1 HMN HMS HHT
  obtain ⟨Ea, Ef, El, Ee⟩ := E
  simp only at HEF HEG
  go_wp2_with (first
    | ((with_reducible show wpList _ _ _ (⟨none, .store _ (.tmp 11) _, _, _, _, _⟩ :: _) _ _); go_must (refine wpList_storeNew rfl rfl (by kernel_rfl) rfl (by simp [Value.oneCell', encEnt]) ?_; intro w8 hh8 hb8; have HW8 := Lib.hid hh8; have HX8 := Lib.hid (heap_below hb8 HX7.out); have HB8 := Lib.hid (HB7.out.trans (hb8.mono hz7)); have hz8 := HB8.out.size; obtain ⟨x0, x1, x2⟩ := run3 HX8.out; obtain ⟨u0, u1, u2⟩ := HRC2.out _ HB8.out; clear hh8 hb8))
    | ((with_reducible show wpList _ _ _ (⟨none, .store _ (.tmp 13) _, _, _, _, _⟩ :: _) _ _); go_must (refine wpList_storeNew (c' := (encRow x).toArray) rfl rfl (by kernel_rfl) rfl (by simp [Value.oneCell', encRow]) ?_; intro w9 hh9 hb9; have HY9 := Lib.hid hh9; have HW9 := Lib.hid (heap_below hb9 HW8.out); have HX9 := Lib.hid (heap_below hb9 HX8.out); have HB9 := Lib.hid (HB8.out.trans (hb9.mono hz8)); clear hh9 hb9 x0 x1 x2 u0 u1 u2)))
  have hm60 : m ≤ 60 := by have := HBD.out.t1; omega
  have hl7 : w.heap.size < w7.heap.size := (Array.getElem?_eq_some_iff.1 HX7.out).1
  have hl8 : w7.heap.size < w8.heap.size := (Array.getElem?_eq_some_iff.1 HW8.out).1
  have HWS := Lib.hid (fun k y (h : rows[k]? = some y) => show wantR (a : Int) x (rows.take (k + 1)) = if y.off ≤ (a : Int) then y else wantR (a : Int) x (rows.take k) by rw [take_snoc' rows k y h, wantR_snoc])
  have HRE := Lib.hid (show ∀ l, l = rows → wantR (a : Int) x l = wantR (a : Int) x rows from fun l h => by rw [h])
  have HR0 := Lib.hid (show w9.heap[w8.heap.size]? = some (.cells (encRow (wantR (a : Int) x (rows.take 0))).toArray 41 (0, 0)) by rw [List.take_zero]; unfold wantR; exact HY9.out)
  clear HY9 HX8 HW8 HX7 HX6 HX5 HX4 HX3 HX2 HX1 HOV HVB HV34 HV4 HV3 HB1 HB2 HB3 HB4 HB5 HB6 HRC2
  go_loopw [14] (fun iv wr => ∃ i : Nat, iv = .int .i64 (i : Int) ∧ i ≤ m ∧ Hid (Below w.heap.size w wr) ∧ Hid (wr.heap[w.heap.size]? = some (.cells #[.int .u64 (At : Int), .slice (some ⟨b, o, none⟩) m rc, .int .i64 fin] 39 (0, 0))) ∧ Hid (wr.heap[w7.heap.size]? = some (.cells (encEnt ⟨Ea, Ef, El, Ee⟩).toArray 43 (0, 0))) ∧ Hid (wr.heap[w8.heap.size]? = some (.cells (encRow (wantR (a : Int) x (rows.take i))).toArray 41 (0, 0)))) (fun iv _ => m - (intOf iv).toNat)
  case atStart => exact ⟨0, rfl, Nat.zero_le _, HB9.out, HX9.out, HW9.out, HR0.out⟩
  case round =>
    obtain ⟨i, rfl, him, HB, HX, HW, HY⟩ := hrel
    clear HB9 HX9 HW9 HR0
    have hz := HB.out.size
    obtain ⟨x0, x1, x2⟩ := run3 HX.out
    by_cases hlt : i < m
    · have X1 := Lib.hid (show rows[i]? = some (rows[i]'(by have := HM.out; omega)) from List.getElem?_eq_getElem _)
      generalize rows[i]'(by have := HM.out; omega) = y at *
      have HS := Lib.hid (HWS.out i y X1.out)
      obtain ⟨b', o', hbo, u0, u1, u2⟩ := row_cells (HR.out.mono HB.out) X1.out
      cases hbo
      by_cases c4 : y.off ≤ (a : Int)
      · have d7 : decide (y.off ≤ (a : Int)) = true := decide_eq_true c4
        have HWY := Lib.hid (show wantR (a : Int) x (rows.take (i + 1)) = y by rw [HS.out, if_pos c4])
        go_wp2_with ((with_reducible show wpList _ _ _ (⟨none, .store _ (.tmp 13) _, _, _, _, _⟩ :: _) _ _); go_must (refine wpList_storeRowS HY.out rfl (c' := (encRow y).toArray) rfl rfl (by kernel_rfl) (by simp [Value.oneCell', encRow]) ?_; intro w5 hh5 hs5; have HY5 := Lib.hid hh5; have HX5 := Lib.hid (hs5.kept HX.out (by omega)); have HW5 := Lib.hid (hs5.kept HW.out (by omega)); have HB5 := Lib.hid (HB.out.trans (hs5.below hz (fun k e => by omega))); clear hh5 hs5))
        go_roundw
        case rel => exact ⟨i + 1, by go_num, by omega, HB5.out, HX5.out, HW5.out, by rw [HWY.out]; exact HY5.out⟩
        case measure => simp [intOf] <;> omega
      · have d7 : decide (y.off ≤ (a : Int)) = false := decide_eq_false c4
        have HWY := Lib.hid (show wantR (a : Int) x (rows.take (i + 1)) = wantR (a : Int) x (rows.take i) by rw [HS.out, if_neg c4])
        go_wp2
        go_roundw
        case rel => exact ⟨i + 1, by go_num, by omega, HB.out, HX.out, HW.out, by rw [HWY.out]; exact HY.out⟩
        case measure => simp [intOf] <;> omega
    · obtain rfl : i = m := by omega
      have HWE := Lib.hid (HRE.out (rows.take i) (List.take_of_length_le (by have := HM.out; omega)))
      rw [HWE.out] at HY
      obtain ⟨v0, v1, v2⟩ := row3 HY.out
      obtain ⟨g0, g1, g2, g3⟩ := ent4 HW.out
      rw [← HEF.out] at v1
      rw [← HEG.out] at v2
      clear v0 g0 g3
      go_wp2
      go_ret
      exact ⟨rfl, HB.out⟩
end Go.Proofs.Ytmpmkjlkhlagfaa
namespace Go.Proofs.Ytmpmkjlkhlagfaa
open Go.RowKit Go.Fd
theorem unitEnts_app (a b : List RunM) : unitEnts (a ++ b) = unitEnts a ++ unitEnts b := by unfold unitEnts; rw [List.flatMap_append]
theorem ents_at {rs : List RunM} {i j : Nat} {r : RunM} (h : rs[i]? = some r) (hj : j < (runEnts r).length) : (unitEnts rs)[(unitEnts (rs.take i)).length + j]? = (runEnts r)[j]? := by
  obtain ⟨h1, h2⟩ := List.getElem?_eq_some_iff.1 h
  have e : rs = rs.take i ++ ([r] ++ rs.drop (i + 1)) := by
    rw [List.singleton_append, ← h2, ← List.drop_eq_getElem_cons h1, List.take_append_drop]
  have e2 : unitEnts rs = unitEnts (rs.take i) ++ (runEnts r ++ unitEnts (rs.drop (i + 1))) := by
    conv => lhs; rw [e]
    rw [unitEnts_app, unitEnts_app]
    congr 2
    unfold unitEnts
    simp
  rw [e2, List.getElem?_append_right (by omega), Nat.add_sub_cancel_left, List.getElem?_append_left hj]
theorem ents_row {r : RunM} {j : Nat} {x : RowM} (h : r.rows[j]? = some x) : (runEnts r)[j]? = some ⟨m64 (r.at_ + x.off.toNat), x.file, x.line, false⟩ := by
  have h1 := (List.getElem?_eq_some_iff.1 h).1
  unfold runEnts rowEnts
  rw [List.getElem?_append_left (by simpa using h1), List.getElem?_map, h]
  rfl
theorem ents_end (r : RunM) : (runEnts r)[r.rows.length]? = some ⟨m64 (r.at_ + r.end_.toNat), lastFile 1 r.rows, lastLine 1 r.rows, true⟩ := by
  unfold runEnts rowEnts
  rw [List.getElem?_append_right (by simp)]
  simp
theorem ents_next {rs : List RunM} {i : Nat} {r : RunM} (h : rs[i]? = some r) : (unitEnts (rs.take (i + 1))).length = (unitEnts (rs.take i)).length + r.rows.length + 1 := by
  rw [take_snoc' rs i r h, unitEnts_app, List.length_append]
  have : (unitEnts [r]).length = r.rows.length + 1 := by
    unfold unitEnts
    simp [runEnts_len]
  omega
theorem neq_raw {a a' f f' l l' : Int} {e e' : Bool} (p q : Operand) (w : World) (h : a = a' ∧ f = f' ∧ l = l' ∧ e = e') : (do eqGuard .neq 43 p q (.agg #[.int .u64 a, .int .i64 f, .int .i64 l, .bool e]) (.agg #[.int .u64 a', .int .i64 f', .int .i64 l', .bool e']); binOp .neq 43 (.agg #[.int .u64 a, .int .i64 f, .int .i64 l, .bool e]) (.agg #[.int .u64 a', .int .i64 f', .int .i64 l', .bool e']) : Sem Value).run Try.prog w = .ok (.bool false) w := by
  obtain ⟨rfl, rfl, rfl, rfl⟩ := h
  have h0 : Try.prog.eqGuardType Try.prog.depth 43 = false := by kernel_rfl
  have h2 : Try.prog.stoodInHeld 43 = false := by kernel_rfl
  have h3 : (Try.prog.fieldsOf 43).toList.map (fun f => (f.name, f.type, f.offset)) = [("Addr", 36, 0), ("File", 3, 1), ("Line", 3, 2), ("End", 4, 3)] := by kernel_rfl
  have h4 : Try.prog.underlying 43 = some (.struct (Try.prog.fieldsOf 43)) := by kernel_rfl
  have a3 : ∀ w, (isAgg 3).run Try.prog w = .ok false w := fun w => by kernel_rfl
  have a2 : ∀ w, (isAgg 4).run Try.prog w = .ok false w := fun w => by kernel_rfl
  have a53 : ∀ w, (isAgg 36).run Try.prog w = .ok false w := fun w => by kernel_rfl
  have u3 : Try.prog.underlying 3 = some (.int .i64) := by kernel_rfl
  have u2 : Try.prog.underlying 4 = some .bool := by kernel_rfl
  have u53 : Try.prog.underlying 36 = some (.int .u64) := by kernel_rfl
  have h5 := run_eqFields_flat (P := Try.prog) (d := 9999) (xs := #[.int .u64 a, .int .i64 f, .int .i64 l, .bool e]) (ys := #[.int .u64 a, .int .i64 f, .int .i64 l, .bool e]) (w := w) _ _ [a == a, f == f, l == l, e == e] h3
    ⟨by decide, a53 w, ⟨_, _, rfl, rfl, run_equalIn_int w 9998 _ _ _ _ _ u53⟩, by decide, a3 w, ⟨_, _, rfl, rfl, run_equalIn_int w 9998 _ _ _ _ _ u3⟩, by decide, a3 w, ⟨_, _, rfl, rfl, run_equalIn_int w 9998 _ _ _ _ _ u3⟩, by decide, a2 w, ⟨_, _, rfl, rfl, run_equalIn_bool w 9998 _ _ _ u2⟩, trivial⟩
  rw [Sem.run_bind, run_eqGuard_agg _ _ _ _ _ _ _ h0, Result.andThen_ok, run_neq_struct, run_equalIn_agg _ 9999 _ _ _ h4 h2, h5, Result.andThen_ok]
  simp
theorem run_allocEnt {a : Act} {w : World} {d : Option Tmp} {ty : TypeId} {pos : String} {aft : Array Edge} {g : Option (Nat × Bool)} :
    (execOp a.eval ⟨d, .alloc 43, ty, pos, aft, g⟩).run Try.prog w = .ok (.value (.pointer (some ⟨w.heap.size, 0, none⟩))) (w.alloc (.cells #[.int .u64 0, .int .i64 0, .int .i64 0, .bool false] 43)) := by kernel_rfl
theorem wpQuiet_runW {P : Program} {ops : Array Oper} {C : World → Prop} {Q : Act → Prop} {a : Act} {o : Oper} {rest : List Oper} {v : Value} (hg : Region.wanted o (yielded ops a.tmps) = true) (hr : ∀ w, C w → (execOp a.eval o).run P w = .ok (.value v) w)
    (h : wpQuiet P ops C Q rest (a.put o.dst v)) : wpQuiet P ops C Q (o :: rest) a := by
  unfold wpQuiet
  rw [if_pos hg]
  refine ⟨v, fun w hw => ?_, h⟩
  unfold Oper.quietAt
  rw [hr w hw]
  exact ⟨rfl, rfl⟩
theorem sum_u64 (a q : Nat) : IntKind.u64.wrap ((a : Int) + (q : Int)) = ((m64 (a + q) : Nat) : Int) := by
  rw [IntKind.wrap_u64]
  unfold m64
  omega
theorem conv_u64 (q : Nat) (h : (q : Int) < 9223372036854775808) : IntKind.u64.wrap (q : Int) = (q : Int) := by
  rw [IntKind.wrap_u64]
  omega
attribute [local irreducible] unitB placesB unitEnts
set_option maxHeartbeats 8000000 in
set_option maxRecDepth 100000 in
theorem lineBack_any (fs : List (List UInt8)) (fv : Value) (rs : List RunM) (L : List (RunM × Value)) (rv : Value) (w : World) (hv : Rd S w fv fs) (hr : RunsAt w rv rs L) (hn : fs.length + rs.length + nrows rs ≤ 1000000000) (hs : ∀ s ∈ fs, s.length ≤ 9223372036854775807) (hf : ∀ r ∈ rs, r.fits) :
    Calls Try.prog 4 #[fv, rv] w fun e w' => e = .returned (.bool true) ∧ Below w.heap.size w w' := by
  have HV := Lib.hid hv
  have HRS := Lib.hid hr
  have HLI := Lib.hid (fun wx (h : Below w.heap.size w wx) => light18_any fs fv rs L rv wx (hv.mono h) (hr.mono h) hn)
  obtain ⟨m, ad, cap, hm1, rfl, _, _⟩ := hv.shape
  obtain ⟨n, ra, rc, hn1, rfl, _, _⟩ := hr.rd.shape
  have HN := Lib.hid (show n = rs.length by rw [hr.eq, List.length_map]; exact hn1.out)
  have HNL := Lib.hid hn1.out
  clear hv hr hm1 hn1 hn
  cases hli : lightL fs rs with
  | false =>
    rw [hli] at HLI
    clear hs hf hli
    go_enter Try.func4, Try.ntmps4
    go_wp2_with (first
      | (go_at_call 8; go_must (refine (begun18_any _).mono ?_; rintro e w1 ⟨rfl, hb1⟩; have HB1 := Lib.hid hb1; clear hb1))
      | (go_at_call 9; go_must (refine (HLI.out _ HB1.out).mono ?_; rintro e w2 ⟨rfl, rfl⟩)))
    go_ret
    exact ⟨rfl, HB1.out⟩
  | true =>
    have hl := lightL_le hli
    rw [hli] at HLI
    have HU := Lib.hid (fun wx (h : Below w.heap.size w wx) => lnUnit_any fs _ rs L _ wx (HV.out.mono h) (HRS.out.mono h) hl hs hf)
    by_cases hfy : faultyL fs rs = 0
    rotate_left
    · have HU1 := Lib.hid (unitR_no hfy)
      have hne : (faultyL fs rs != 0) = true := by simpa using hfy
      rw [HU1.out] at HU
      generalize faultyL fs rs = e0 at *
      clear hs hf hli hl hfy
      go_enter Try.func4, Try.ntmps4
      go_wp2_with (first
        | (go_at_call 8; go_must (refine (begun18_any _).mono ?_; rintro e w1 ⟨rfl, hb1⟩; have HB1 := Lib.hid hb1; clear hb1))
        | (go_at_call 9; go_must (refine (HLI.out _ HB1.out).mono ?_; rintro e w2 ⟨rfl, rfl⟩))
        | (go_at_call 10; go_must (refine (HU.out _ HB1.out).mono ?_; rintro e w3 ⟨vb, va, rfl, hvb, hva, hb3⟩; obtain ⟨bm, ba, bc, hbm, rfl, _, _⟩ := hvb.shape; obtain rfl : bm = 0 := hbm.out; obtain ⟨am, aa, ac, -, rfl, _, _⟩ := hva.shape; have HB3 := Lib.hid (HB1.out.trans (hb3.mono HB1.out.size)); clear hvb hva hb3 hbm)))
      go_ret
      exact ⟨rfl, HB3.out⟩
    have HU1 := Lib.hid (unitR_yes hfy)
    rw [HU1.out] at HU
    have HUN := Lib.hid (units_one hfy hl hf)
    have HU2 := Lib.hid (units_two hfy hl hf)
    have HK := Lib.hid (faulty_ok hfy).2.2.2
    have HF := Lib.hid hf
    have HBL := Lib.hid (show (unitB fs rs).length ≤ 50000 by rw [unitB_len]; have := lnBodyB_le hfy hl; omega)
    have HPL := Lib.hid (show (placesB fs rs).length = n by unfold placesB; simp [HN.out])
    have HTL := Lib.hid (show (unitEnts rs).length = nrows rs + rs.length from unitEnts_len rs)
    have hT9 : (unitEnts rs).length ≤ 400 := by rw [unitEnts_len]; omega
    have hn9 : n ≤ 400 := by have := HN.out; omega
    clear hs hf hli hfy HU1
    go_enter Try.func4, Try.ntmps4
    go_wp2_with (first
      | (go_at_call 8; go_must (refine (begun18_any _).mono ?_; rintro e w1 ⟨rfl, hb1⟩; have HB1 := Lib.hid hb1; clear hb1))
      | (go_at_call 9; go_must (refine (HLI.out _ HB1.out).mono ?_; rintro e w2 ⟨rfl, rfl⟩))
      | (go_at_call 10; go_must (refine (HU.out _ HB1.out).mono ?_; rintro e w3 ⟨vb, va, rfl, hvb, hva, hb3⟩; have HVB := Lib.hid hvb.bs; obtain ⟨bm, ba, bc, -, rfl, _, _⟩ := hvb.shape; obtain ⟨am, aa, ac, ham, rfl, _, _⟩ := hva.shape; obtain rfl : n = am := (ham.out.trans HPL.out).symm; have HB3 := Lib.hid (HB1.out.trans (hb3.mono HB1.out.size)); have hz3 := HB3.out.size; clear hvb hva hb3 ham)))
    refine (lnRead_any _ _ _ _ (Nat.le_trans HBL.out (by decide)) HVB.out HUN.out (by omega)).mono ?_
    rintro e w4 ⟨ov, rfl, hov, hb4⟩
    have HOV := Lib.hid hov.rd
    obtain ⟨om, oa, oc, hom, rfl, _, _⟩ := hov.shape
    have HOM := Lib.hid hom.out
    have HVB4 := Lib.hid (HVB.out.mono hb4)
    have HB4 := Lib.hid (HB3.out.trans (hb4.mono hz3))
    have hz4 := HB4.out.size
    have hom9 : om ≤ 400 := by have := HOM.out; omega
    clear hov hom hb4
    go_wp2_with (first
      | ((with_reducible show wpList _ _ _ (⟨some 45, _, _, _, _, _⟩ :: _) _ _); go_must (refine wpList_catB (OB.nil w4 w4.heap.size) HVB4.out rfl rfl (by have := HBL.out; simp; omega) (Nat.le_refl _) ?_; intro v5 w5 hv5 hg5 hb5; obtain ⟨m5, a5, c5, -, rfl, _, _⟩ := hv5.shape; have HV5 := Lib.hid hv5; have HVB5 := Lib.hid (HVB4.out.mono hb5); have HB5 := Lib.hid hb5; have hz5 := hb5.size; clear hv5 hg5 hb5))
      | ((with_reducible show wpList _ _ _ (⟨some 47, _, _, _, _, _⟩ :: _) _ _); go_must (refine wpList_catB HV5.out HVB5.out rfl rfl (by have := HBL.out; simp; omega) hz5 ?_; intro v6 w6 hv6 hg6 hb6; have HV6 := Lib.hid (show Bs w6 v6 (unitB fs rs ++ unitB fs rs) from hv6.bs); obtain ⟨m6, a6, c6, -, rfl, _, _⟩ := hv6.shape; have HB6 := Lib.hid (HB5.out.trans hb6); have hz6 := HB6.out.size; clear hv6 hg6 hb6))
      | (go_at_call 14; go_must (refine (lnRead_any _ _ _ _ (by have := HBL.out; rw [List.length_append]; omega) HV6.out HU2.out (by rw [List.length_append]; omega)).mono ?_; rintro e w7 ⟨ow, rfl, how, hb7⟩; have HOW := Lib.hid how.rd; obtain ⟨pm, pa, pc, hpm, rfl, _, _⟩ := how.shape; obtain rfl : pm = 2 * om := (by rw [hpm.out, List.length_append, HOM.out]; omega); have HB47 := Lib.hid (HB6.out.trans (hb7.mono hz6)); have HOV7 := Lib.hid (HOV.out.mono HB47.out); have HB7 := Lib.hid (HB4.out.trans (HB47.out.mono hz4)); clear how hpm hb7)))
    have HEA := Lib.hid (fun i r (h : rs[i]? = some r) j (hj : j < (runEnts r).length) => ents_at h hj)
    have HEN := Lib.hid (fun i r (h : rs[i]? = some r) => ents_next h)
    have HE0 := Lib.hid (show (unitEnts (rs.take 0)).length = 0 by rw [List.take_zero]; unfold unitEnts; rfl)
    have HE9 := Lib.hid (show ∀ k, k = n → (unitEnts (rs.take k)).length = om from fun k hk => by rw [HOM.out, List.take_of_length_le (by have := HN.out; omega)])
    clear HV6 HVB5 HV5 HB5 HB6 hz5 hz6 HVB4 HVB HB47
    generalize hT : unitEnts rs = T at *
    clear hT
    have HCT := Lib.hid (fun wx (hb : Below w7.heap.size w7 wx) k x (hk : T[k]? = some x) => ent_cells (HOV7.out.mono hb) hk)
    have HC2 := Lib.hid (fun wx (hb : Below w7.heap.size w7 wx) k x (hk : (T ++ T)[k]? = some x) => ent_cells (HOW.out.mono hb) hk)
    go_loopw [14, 15] (fun kv iv wr => ∃ i : Nat, iv = .int .i64 (i : Int) ∧ i ≤ n ∧ kv = .int .i64 (((unitEnts (rs.take i)).length : Nat) : Int) ∧ Hid (Below w.heap.size w wr) ∧ Hid (Below w7.heap.size w7 wr)) (fun _ iv _ => n - (intOf iv).toNat)
    case atStart => exact ⟨0, rfl, Nat.zero_le _, by rw [HE0.out]; rfl, HB7.out, Below.refl _ _⟩
    case round =>
      obtain ⟨i, rfl, hi, rfl, HB, HBt⟩ := hrel
      have hz := HB.out.size
      have hzt := HBt.out.size
      by_cases hlt : i < n
      · have X1 := Lib.hid (show L[i]? = some (L[i]'(by have := HNL.out; omega)) from List.getElem?_eq_getElem _)
        generalize L[i]'(by have := HNL.out; omega) = p at *
        have X2 := Lib.hid (show rs[i]? = some p.1 by rw [HRS.out.eq, List.getElem?_map, X1.out]; rfl)
        have HNX := Lib.hid (HEN.out i p.1 X2.out)
        have HAT := Lib.hid (HEA.out i p.1 X2.out)
        have HRW := Lib.hid (HRS.out.rows p (List.mem_of_getElem? X1.out))
        have HKR := Lib.hid (HK.out p.1 (List.mem_of_getElem? X2.out))
        have HFR := Lib.hid (HF.out p.1 (List.mem_of_getElem? X2.out))
        obtain ⟨b2, o2, ha2, u0, u1, u2⟩ := run_cells ((HRS.out.mono HB.out).rd) X1.out
        subst ha2
        obtain ⟨⟨at_, rows, fin⟩, pv⟩ := p
        simp only at u0 u1 u2 HRW
        obtain ⟨pm, qa, qc, hpm, rfl, _, _⟩ := HRW.out.shape
        have HPM := Lib.hid (show pm = rows.length from hpm.out)
        have hpm9 : pm ≤ 400 := by
          have h1 : rows.length ≤ nrows rs := nrows_ge (List.mem_of_getElem? X2.out)
          have := HPM.out
          omega
        have HNX2 := Lib.hid (show (unitEnts (rs.take (i + 1))).length = (unitEnts (rs.take i)).length + pm + 1 by rw [HNX.out, HPM.out])
        have HLE := Lib.hid (runEnts_len ⟨at_, rows, fin⟩)
        generalize hKK : (unitEnts (rs.take i)).length = K at *
        clear hpm HNX hKK
        go_wp2_with ((with_reducible show wpList _ _ _ (⟨none, .store _ (.tmp 16) _, _, _, _, _⟩ :: _) _ _); go_must (refine wpList_storeNew rfl rfl (by kernel_rfl) rfl (by simp [Value.oneCell']) ?_; intro w8 hh8 hb8; have HX8 := Lib.hid hh8; have HB8 := Lib.hid (HB.out.trans (hb8.mono hz)); have HBt8 := Lib.hid (HBt.out.trans (hb8.mono hzt)); have hgb8 : wr.heap.size < w8.heap.size := (Array.getElem?_eq_some_iff.1 hh8).1; clear hh8 hb8 u0 u1 u2))
        obtain ⟨gb, hgb⟩ : ∃ gb, gb = wr.heap.size := ⟨_, rfl⟩
        rw [← hgb] at HX8 hgb8 ⊢
        clear hgb HB HBt hz hzt
        go_loopw [14, 17] (fun kv jv wr => ∃ j : Nat, jv = .int .i64 (j : Int) ∧ j ≤ pm ∧ kv = .int .i64 ((K + j : Nat) : Int) ∧ Hid (Below w.heap.size w wr) ∧ Hid (Below w7.heap.size w7 wr) ∧ Hid (wr.heap[gb]? = some (.cells #[.int .u64 (at_ : Int), .slice qa pm qc, .int .i64 fin] 39 (0, 0)))) (fun _ jv _ => pm - (intOf jv).toNat)
        case atStart => exact ⟨0, rfl, Nat.zero_le _, rfl, HB8.out, HBt8.out, HX8.out⟩
        case round =>
          obtain ⟨j, rfl, hj, rfl, HB, HBt, HX⟩ := hrel
          clear HB8 HBt8 HX8 hgb8
          have hz := HB.out.size
          have hzt := HBt.out.size
          have hgb : gb < wr.heap.size := (Array.getElem?_eq_some_iff.1 HX.out).1
          obtain ⟨x0, x1, x2⟩ := run3 HX.out
          by_cases hlt2 : j < pm
          · have Y1 := Lib.hid (show rows[j]? = some (rows[j]'(by have := HPM.out; omega)) from List.getElem?_eq_getElem _)
            generalize rows[j]'(by have := HPM.out; omega) = x at *
            have HRO := rowOk_iff (rows_ok_at rows 0 j x (runOk_iff HKR.out).2 Y1.out)
            have h0x : 0 ≤ x.off := by
              have h1 := (rows_in rows 0 (runOk_iff HKR.out).2 x (List.mem_of_getElem? Y1.out)).1
              exact h1
            have hfx := HFR.out.2.2.2 x (List.mem_of_getElem? Y1.out)
            have HXF := Lib.hid hfx.2.1
            have HTK := Lib.hid (show T[K + j]? = some ⟨m64 (at_ + x.off.toNat), x.file, x.line, false⟩ by rw [HAT.out j (by have h9 : (runEnts ⟨at_, rows, fin⟩).length = rows.length + 1 := HLE.out; have := HPM.out; omega)]; exact ents_row Y1.out)
            obtain ⟨b3, o3, ha3, v0, v1, v2⟩ := row_cells (HRW.out.mono HB.out) Y1.out
            subst ha3
            have hb3 := block_lt v0
            obtain ⟨xo, xf, xl⟩ := x
            simp only at HXF HTK v0 v1 v2 h0x
            obtain ⟨q, rfl⟩ := Int.eq_ofNat_of_zero_le h0x
            rw [Int.toNat_natCast] at HTK
            have hcv := conv_u64 q HXF.out
            have hsm := sum_u64 at_ q
            have hkl : K + j < om := by rw [HOM.out]; exact (List.getElem?_eq_some_iff.1 HTK.out).1
            have HT2 := Lib.hid (show (T ++ T)[K + j]? = T[K + j]? from List.getElem?_append_left (by rw [← HOM.out]; exact hkl))
            have HT3 := Lib.hid (show (T ++ T)[om + (K + j)]? = T[K + j]? by rw [List.getElem?_append_right (by rw [← HOM.out]; omega), ← HOM.out, Nat.add_sub_cancel_left])
            rw [HTK.out] at HT2 HT3
            generalize m64 (at_ + q) = A at *
            clear HRO hfx h0x HXF
            obtain ⟨k, hk⟩ : ∃ k, k = K + j := ⟨_, rfl⟩
            have HKJ := Lib.hid (show ((k : Nat) : Int) + 1 = ((K + (j + 1) : Nat) : Int) by omega)
            rw [← hk] at HTK HT2 HT3 hkl ⊢
            clear hk
            have hAB := fun (x : Above wr) (b k : Nat) (h : b < wr.heap.size) => Above.cell x b k h
            go_wp2
            refine wp_region_walk 24 [(23, .new wr.heap.size 43 4)] (by kernel_rfl) (by kernel_rfl) ?_
            simp only [List.take_succ_cons, List.take_zero, List.drop_succ_cons, List.drop_zero]
            repeat (refine walk_quiet rfl rfl rfl ?_; intro K hK; go_big_quiet_op; go_big_quiet_on)
            refine walk_new rfl rfl (fun wx hwx _ => WpYld.val run_allocEnt (Yld.new_mk _ hwx).1 (Yld.new_mk _ hwx).2) (fun gE => ?_)
            go_frame
            refine walk_nil ?_
            intro wz hbz hF
            obtain ⟨hgE, cs, hgh, hgs⟩ := Yld.new_got (hF 23 _ 18 _ rfl rfl rfl rfl)
            refine wpList_storeMade hgh rfl rfl (by kernel_rfl) hgs (by simp [Value.oneCell']) hgE hbz.size ?_
            intro w9 hh9 hb9
            have hb9' := hbz.trans hb9
            obtain ⟨d0, d1, d2, d3⟩ := ent4 (x := ⟨A, xf, xl, false⟩) hh9
            have HB9 := Lib.hid (HB.out.trans (hb9'.mono hz))
            have HBt9 := Lib.hid (HBt.out.trans (hb9'.mono hzt))
            have HX9 := Lib.hid (heap_below hb9' HX.out)
            obtain ⟨b4, o4, hb4', c0, c1, c2, c3⟩ := HCT.out w9 HBt9.out k _ HTK.out
            obtain ⟨b5, o5, hb5', f0, f1, f2, f3⟩ := HC2.out w9 HBt9.out k _ HT2.out
            obtain ⟨b6, o6, hb6', g0, g1, g2, g3⟩ := HC2.out w9 HBt9.out (om + k) _ HT3.out
            subst hb4' hb5'
            cases hb6'
            clear hF hgh hgs hbz hb9 hb9' hh9 hAB x0 x1 x2 v0 v1 v2
            have dk : decide ((om : Int) ≤ (k : Int)) = false := decide_eq_false (by omega)
            have hk2 : k < 2 * om := by omega
            have hk3 : om + k < 2 * om := by omega
            have hk4 : (k : Int) < 2 * (om : Int) := by omega
            have hk5 : (om : Int) + (k : Int) < 2 * (om : Int) := by omega
            have hk6 : (0 : Int) ≤ (om : Int) + (k : Int) := by omega
            have hk7 : IntKind.i64.wrap ((om : Int) + (k : Int)) = (om : Int) + (k : Int) := by rw [IntKind.wrap_i64]; omega
            have hk8 : ((om : Int) + (k : Int)).toNat = om + k := by omega
            go_wp2
            refine wp_region_quiet_lit (by kernel_rfl) (by kernel_rfl) ?_
            repeat (first
              | ((with_reducible show wpQuiet _ _ _ _ (⟨some 123, _, _, _, _, _⟩ :: _) _); refine wpQuiet_runW rfl (by rintro _ ⟨n, rfl⟩; exact run_bin rfl rfl (neq_raw _ _ _ ⟨rfl, rfl, rfl, rfl⟩)) ?_)
              | ((with_reducible show wpQuiet _ _ _ _ (⟨some 131, _, _, _, _, _⟩ :: _) _); refine wpQuiet_runW rfl (by rintro _ ⟨n, rfl⟩; exact run_bin rfl rfl (neq_raw _ _ _ ⟨rfl, rfl, rfl, rfl⟩)) ?_)
              | ((with_reducible show wpQuiet _ _ _ _ (⟨some 142, _, _, _, _, _⟩ :: _) _); refine wpQuiet_runW rfl (by rintro _ ⟨n, rfl⟩; exact run_bin rfl rfl (neq_raw _ _ _ ⟨rfl, rfl, rfl, rfl⟩)) ?_)
              | quiet_step (fail))
            refine wpQuiet_nil ?_
            rintro _ ⟨nq, rfl⟩
            clear c0 c1 c2 c3 f0 f1 f2 f3 g0 g1 g2 g3 d0 d1 d2 d3 hk4 hk5 hk6 hk7 hk8
            have hkb : k ≤ 400 := by omega
            go_wp2
            go_roundw
            case rel =>
              first
                | exact ⟨j + 1, by go_num, by omega, by rw [← HKJ.out], HB9.out.drewN _, HBt9.out.drewN _, HX9.out⟩
                | ((repeat apply Exists.intro); exact ⟨⟨j + 1, by go_num, by omega, by rw [← HKJ.out], HB9.out.drewN _, HBt9.out.drewN _, HX9.out⟩, rfl⟩)
            case measure => simp [intOf] <;> omega
          · obtain rfl : j = pm := by omega
            obtain ⟨hfe0, -⟩ := runOk_iff HKR.out
            have HFE := Lib.hid HFR.out.2.2.1
            have HTK := Lib.hid (show T[K + j]? = some ⟨m64 (at_ + fin.toNat), lastFile 1 rows, lastLine 1 rows, true⟩ by
              rw [HAT.out j (by have h9 : (runEnts ⟨at_, rows, fin⟩).length = rows.length + 1 := HLE.out; have := HPM.out; omega), HPM.out]
              exact ents_end ⟨at_, rows, fin⟩)
            simp only at hfe0 HFE
            obtain ⟨q, rfl⟩ := Int.eq_ofNat_of_zero_le hfe0
            rw [Int.toNat_natCast] at HTK
            have hcv := conv_u64 q HFE.out
            have hsm := sum_u64 at_ q
            have hkl : K + j < om := by rw [HOM.out]; exact (List.getElem?_eq_some_iff.1 HTK.out).1
            generalize m64 (at_ + q) = A at *
            generalize lastFile 1 rows = Fl at *
            generalize lastLine 1 rows = Ll at *
            clear hfe0 HFE
            have HKJ := Lib.hid (show ((K + j : Nat) : Int) + 1 = (((unitEnts (rs.take (i + 1))).length : Nat) : Int) by rw [HNX2.out]; omega)
            obtain ⟨k, hk⟩ : ∃ k, k = K + j := ⟨_, rfl⟩
            rw [← hk] at HTK HKJ hkl ⊢
            clear hk
            obtain ⟨b4, o4, hb4', c0, c1, c2, c3⟩ := HCT.out wr HBt.out k _ HTK.out
            subst hb4'
            have dk : decide ((om : Int) ≤ (k : Int)) = false := decide_eq_false (by omega)
            have hkb : k ≤ 400 := by omega
            go_wp2
            go_quiet (fail)
            go_wp2
            go_roundw
            case rel =>
              first
                | exact ⟨i + 1, by go_num, by omega, by rw [← HKJ.out], HB.out.drewN _, HBt.out.drewN _⟩
                | ((repeat apply Exists.intro); exact ⟨⟨i + 1, by go_num, by omega, by rw [← HKJ.out], HB.out.drewN _, HBt.out.drewN _⟩, rfl⟩)
            case measure => simp [intOf] <;> omega
      · obtain rfl : i = n := by omega
        have HK9 := HE9.out i rfl
        rw [HK9]
        go_wp2
        go_ret
        exact ⟨rfl, HB.out⟩
end Go.Proofs.Ytmpmkjlkhlagfaa
namespace Go.Proofs.Ytmpmkjlkhlagfaa
open Go.ChangeShapes Go.WideShapes Go.ChangeAt Go.RowKit Go.Fd
set_option maxRecDepth 100000 in
theorem lineBackUpto_lifted (os : Os) (started : os.Started) (H : Type) (enc : TypeId × Value → H) (F : Stop.Interp) :
    ReturnsInHanded {} Try.checked os 4 .any ((Rows.OpenSpec.upto Rows.lineBackSpec).pre6 enc Try.prog Try.f4 Rows.lineBackUptoRow.domain false) (((Rows.OpenSpec.upto Rows.lineBackSpec).at F).post enc Try.prog Try.f4 false true false false) := by
  refine handed_cond (C := Try.checked) (s := (Rows.OpenSpec.upto Rows.lineBackSpec)) (k := Rows.uptoSmall) rfl Try.own started (by kernel_rfl) Try.func4
    (OpenSpec.witness (enc := enc) (C := Try.checked) (s := (Rows.OpenSpec.upto Rows.lineBackSpec)) (k := Rows.uptoSmall) rfl false ⟨#[], #[.slice none 0 0, .slice none 0 0], []⟩ 8 (by kernel_rfl) (by kernel_rfl) (by kernel_rfl)
      (x := ([.nil, .nil], [], [])) (by kernel_rfl) rfl (by kernel_rfl)) ?_
  intro W base args ds gs before hval0 hW hk hz hsh
  have hval : ∀ (j : Nat) t v, Try.f4.params[j]? = some t → args[j]? = some v → Value.okWide Try.prog W .any base t v := hval0
  have hW' := hW
  obtain ⟨p, q, hA0, hV, rfl, hfz, hnd⟩ := hW
  have hA : DataW.TrodAll enc Try.prog W 0 (fun _ => true) true Try.f4.params.toList args.toList ds p := hA0
  have hlt : ∀ x ∈ p, x.block < W.heap.size := fun x hx => hW'.lt x (by simp [hx])
  have hback : ∀ W', Below W.heap.size W W' → DataW.TrodAll enc Try.prog W' 0 (fun b => decide (b < W.heap.size)) true Try.f4.params.toList args.toList ds p :=
    fun W' hb => belowAllB (by kernel_rfl) hb hA hlt
  rw [Try.params4] at hA hval
  obtain ⟨v0, vs0, d0, ds0, p0, q0, hargs, rfl, rfl, h0, r0⟩ := trodAll_cons hA
  obtain ⟨v1, vs1, d1, ds1, p1, q1, rfl, rfl, rfl, h1, r1⟩ := trodAll_cons r0
  obtain ⟨rfl, rfl, rfl⟩ := trodAll_nil r1
  obtain rfl : args = #[v0, v1] := by
    cases args
    simp at hargs
    simp [hargs]
  clear hargs
  obtain ⟨rfl, rfl⟩ := trodVars_none hV
  have fin : ∀ (e : Ending) (W' : World), (e = .returned (.bool true) ∧ Below W.heap.size W W') → ∃ v, e = Ending.returned v ∧ ((Rows.OpenSpec.upto Rows.lineBackSpec).at F).post enc Try.checked.prog Try.f4 false true false false W #[v0, v1] v W' := by
    rintro e W' ⟨rfl, hb⟩
    exact ⟨_, rfl, _, _, _, [], _, [], hW', trodAll_mk1 (shut_bool Try.underlying4 true), hback W' hb, rfl, hb.frame _, fun h => by cases h⟩
  obtain ⟨fs, hfs, hss, hfl⟩ := reads_files (hval 0 22 v0 rfl rfl) h0
  obtain ⟨rs, L, hrs, hft, hrl⟩ := reads_runs (hval 1 23 v1 rfl rfl) h1
  have hb : Rows.uptoBulk d0 ≤ 1048576 ∧ Rows.uptoBulk d1 ≤ 1048576 := by
    have := of_decide_eq_true hk
    simp [Rows.uptoBulkAll] at this
    omega
  exact (lineBack_any fs v0 rs L v1 W hfs hrs (by omega) hss hft).mono fin
theorem lineBackUpto_holds : Rows.LineBackUptoSaid :=
  OpenClaim.holds_of_cond 4 Try.f4 rfl rfl rfl rfl rfl rfl rfl ⟨rfl, rfl, rfl, rfl, rfl⟩ rfl rfl rfl rfl rfl (by kernel_rfl) Try.func4 (by kernel_rfl)
    (of_decide_eq_true (by kernel_rfl)) (by unfold Func.isWrapper; rw [if_neg (of_decide_eq_false (by kernel_rfl))]; exact ⟨rfl, rfl⟩)
    (fun os started H enc _ F => lineBackUpto_lifted os started H enc F)
end Go.Proofs.Ytmpmkjlkhlagfaa
namespace Go.Proofs.Ytmpmkjlkhlagfaa
open Go.ChangeShapes Go.WideShapes Go.ChangeAt Go.RowKit Go.Fd
set_option maxRecDepth 100000 in
theorem lineFinds_lifted (os : Os) (started : os.Started) (H : Type) (enc : TypeId × Value → H) :
    ReturnsInHanded {} Try.checked os 5 .any (Rows.lineFindsSpec.pre6 enc Try.prog Try.f5 Rows.lineFindsRow.domain false) (Rows.lineFindsSpec.post enc Try.prog Try.f5 false true false false) := by
  refine returnsInHanded_of_change (C := Try.checked) Try.own started (by kernel_rfl) Try.func5
    (ChangeSpec.witness6 (enc := enc) (C := Try.checked) false ⟨#[], #[.agg #[.int .u64 0, .slice none 0 0, .int .i64 0], .int .i64 0], []⟩ 8 (by kernel_rfl) (by kernel_rfl) (by kernel_rfl) (by kernel_rfl)) ?_
  intro W base args ds gs before hval0 hW hcnd _
  have hval : ∀ (j : Nat) t v, Try.f5.params[j]? = some t → args[j]? = some v → Value.okWide Try.prog W .any base t v := hval0
  have hW' := hW
  obtain ⟨p, q, hA0, hV, rfl, hfz, hnd⟩ := hW
  have hA : DataW.TrodAll enc Try.prog W 0 (fun _ => true) true Try.f5.params.toList args.toList ds p := hA0
  have hlt : ∀ x ∈ p, x.block < W.heap.size := fun x hx => hW'.lt x (by simp [hx])
  have hback : ∀ W', Below W.heap.size W W' → DataW.TrodAll enc Try.prog W' 0 (fun b => decide (b < W.heap.size)) true Try.f5.params.toList args.toList ds p :=
    fun W' hb => belowAllB (by kernel_rfl) hb hA hlt
  rw [Try.params5] at hA hval
  obtain ⟨v0, vs0, d0, ds0, p0, q0, hargs, rfl, rfl, h0, r0⟩ := trodAll_cons hA
  obtain ⟨v1, vs1, d1, ds1, p1, q1, rfl, rfl, rfl, h1, r1⟩ := trodAll_cons r0
  obtain ⟨rfl, rfl, rfl⟩ := trodAll_nil r1
  obtain rfl : args = #[v0, v1] := by
    cases args
    simp at hargs
    simp [hargs]
  clear hargs
  obtain ⟨rfl, rfl⟩ := trodVars_none hV
  have fin : ∀ (e : Ending) (W' : World), (e = .returned (.bool true) ∧ Below W.heap.size W W') → ∃ v, e = Ending.returned v ∧ Rows.lineFindsSpec.post enc Try.checked.prog Try.f5 false true false false W #[v0, v1] v W' := by
    rintro e W' ⟨rfl, hb⟩
    exact ⟨_, rfl, _, _, _, [], _, [], hW', trodAll_mk1 (shut_bool Try.underlying4 true), hback W' hb, rfl, hb.frame _, fun h => by cases h⟩
  obtain ⟨r, rv, rfl, hf, hr⟩ := reads_run (hval 0 39 v0 rfl rfl) h0
  obtain ⟨a, rfl, rfl, rfl, g1⟩ := open_int Try.underlying3 (hval 1 3 v1 rfl rfl) h1
  have hw := wf_i64 g1
  exact (lineFinds_any r rv a W hr hf hw.1 hw.2).mono fin
theorem lineFinds_holds : Rows.LineFindsSaid :=
  OpenClaim.holds_of_wide 5 Try.f5 rfl rfl rfl rfl rfl rfl rfl ⟨rfl, rfl, rfl, rfl, rfl⟩ rfl rfl rfl rfl rfl (by kernel_rfl) Try.func5 (by kernel_rfl)
    (of_decide_eq_true (by kernel_rfl)) (by unfold Func.isWrapper; rw [if_neg (of_decide_eq_false (by kernel_rfl))]; exact ⟨rfl, rfl⟩)
    (fun os started H enc _ => lineFinds_lifted os started H enc)
end Go.Proofs.Ytmpmkjlkhlagfaa
namespace Go.Proofs.Ytmpmkjlkhlagfaa
open Go.RowKit Go.Fd
theorem flat_set {α : Type} {k : Nat} {enc : α → List Value} (hk : ∀ x, (enc x).length = k) (l : List α) : ∀ (i c : Nat) (x y : α) (u : Value), l[i]? = some x → c < k → enc y = (enc x).set c u → (l.flatMap enc).set (i * k + c) u = (l.set i y).flatMap enc := by
  induction l with
  | nil => intro i c x y u h; simp at h
  | cons z zs ih =>
    intro i c x y u h hc hy
    rw [List.flatMap_cons]
    cases i with
    | zero =>
      simp at h
      subst h
      rw [Nat.zero_mul, Nat.zero_add, List.set_append_left _ _ (by rw [hk]; exact hc), ← hy, List.set_cons_zero, List.flatMap_cons]
    | succ i =>
      rw [List.set_append_right _ _ (by rw [hk, Nat.add_mul]; omega), hk, show (i + 1) * k + c - k = i * k + c by rw [Nat.add_mul]; omega, ih i c x y u (by simpa using h) hc hy, List.set_cons_succ, List.flatMap_cons]
theorem wpList_storeAddr {ops : Array Oper} {rest : List Oper} {Q : Exit → Act → World → Prop} {a : Act} {w : World} {d : Option Tmp} {ty : TypeId} {pos : String} {aft : Array Edge} {p x : Operand} {g i m cap base : Nat} {l : List EntM} {y : EntM} (ho : OwR 4 encEnt 43 w base (.slice (some ⟨g, 0, none⟩) m cap) l) (hi : l[i]? = some y) (hp : a.eval p = .pointer (some ⟨g, i * 4, none⟩)) (A : Nat) (hx : a.eval x = .int .u64 (A : Int)) (hb : base ≤ w.heap.size)
    (h : ∀ w1, OwR 4 encEnt 43 w1 base (.slice (some ⟨g, 0, none⟩) m cap) (l.set i ⟨A, y.file, y.line, y.fin⟩) → Stirs (fun k => k = g) w w1 → Below base w w1 → wpList Try.prog ops Q rest (a.put d undef) w1) :
    wpList Try.prog ops Q (⟨d, .store 36 p x, ty, pos, aft, none⟩ :: rest) a w := by
  have ho' := ho
  unfold OwR at ho'
  obtain ⟨m', a', c', hm', e1, -, -⟩ := ho.shape
  have hm : m = l.length := by
    have e2 := e1
    simp only [Value.slice.injEq] at e2
    exact e2.2.1.trans hm'.out
  subst hm
  have hge := own_ge ho' g rfl
  have hil : i < l.length := (List.getElem?_eq_some_iff.1 hi).1
  have hc0 := World.ownsRow.cellAt ho' (i * 4) (by omega)
  have hfg := flat_get (k := 4) (enc := encEnt) (fun _ => rfl) l i 0 y hi (by decide)
  rw [Nat.add_zero] at hfg
  rw [hfg, show (encEnt y)[0]? = some (.int .u64 (y.addr : Int)) from rfl] at hc0
  have hf0 := ho'.frozenAt (i * 4)
  have hst := World.ownsRow.stored ho' (i * 4) (.int .u64 (A : Int))
  have hs := flat_set (k := 4) (enc := encEnt) (fun _ => rfl) l i 0 y ⟨A, y.file, y.line, y.fin⟩ (.int .u64 (A : Int)) hi (by decide) rfl
  rw [Nat.add_zero] at hs
  have hsi : Stirs (fun k => k = g) w (w.setCell ⟨g, i * 4, none⟩ (.int .u64 (A : Int))) := stirs_setCell (S := fun k => k = g) _ g (i * 4) _ rfl
  refine wpList_did (w' := w.setCell ⟨g, i * 4, none⟩ (.int .u64 (A : Int))) rfl ?_ (h _ ?_ hsi (hsi.below hb (fun k hk => by rw [hk]; exact hge)))
  · simp only [execOp, hp, hx]
    simp [go_sem, hc0, hf0]
  · unfold OwR
    rw [← hs, List.length_set]
    exact hst.1
theorem wpList_store1 {ops : Array Oper} {rest : List Oper} {Q : Exit → Act → World → Prop} {a : Act} {w : World} {d : Option Tmp} {ty tb : TypeId} {pos : String} {aft : Array Edge} {p x : Operand} {c : Array Value} {g j : Nat} {n : Int} (hg : w.heap[g]? = some (.cells c tb (0, 0))) (hj : j < c.size) (hp : a.eval p = .pointer (some ⟨g, j, none⟩)) (hx : a.eval x = .int .u64 n)
    (h : ∀ w1, w1.heap[g]? = some (.cells (c.setIfInBounds j (.int .u64 n)) tb (0, 0)) → Stirs (fun k => k = g) w w1 → wpList Try.prog ops Q rest (a.put d undef) w1) :
    wpList Try.prog ops Q (⟨d, .store 36 p x, ty, pos, aft, none⟩ :: rest) a w := by
  have hc : w.cell? ⟨g, j, none⟩ = some c[j] := (cell_rec hg j).trans (Array.getElem?_eq_getElem hj)
  have hfz : w.frozen? ⟨g, j, none⟩ = false := by simp [World.frozen?, hg]
  refine wpList_did (w' := w.setCell ⟨g, j, none⟩ (.int .u64 n)) rfl ?_ (h _ ?_ (stirs_setCell (S := fun k => k = g) _ g j _ rfl))
  · simp only [execOp, hp, hx]
    simp [go_sem, hc, hfz]
  · simp [World.setCell, Array.getElem?_modify, hg]
theorem TRun : SliceT Try.prog 23 39 3 40 := SliceT.mk' (z := .agg #[.int .u64 0, .slice none 0 0, .int .i64 0]) (by kernel_rfl) (by kernel_rfl) rfl (by omega)
/-- Is a byte inside a place? -/
def insideB (k : Nat) (P : List Nat) : Bool := P.any fun p => decide (p ≤ k) && decide (k < p + 8)
theorem inside_snoc (k : Nat) (P : List Nat) (p : Nat) : insideB k (P ++ [p]) = (insideB k P || (decide (p ≤ k) && decide (k < p + 8))) := by
  unfold insideB
  simp
theorem inside_no {k : Nat} {P : List Nat} (h : insideB k P = false) : ∀ p ∈ P, ¬ (p ≤ k ∧ k < p + 8) := by
  intro p hp ⟨h1, h2⟩
  have : insideB k P = true := List.any_eq_true.2 ⟨p, hp, by simp [h1, h2]⟩
  rw [h] at this
  cases this
/-- A run with its rows, elsewhere. -/
def movedP (d : Nat) (p : RunM × Value) : RunM × Value := (p.1.moved d, p.2)
theorem unitB_moved_len (d : Nat) (fs : List (List UInt8)) (rs : List RunM) : (unitB fs (rs.map (RunM.moved d))).length = (unitB fs rs).length := by
  rw [unitB_len, unitB_len, lnBodyB_moved_len]
/-- The first i moved. -/
def mixed (d i : Nat) (T : List EntM) : List EntM := (T.take i).map (EntM.moved d) ++ T.drop i
theorem mixed_zero (d : Nat) (T : List EntM) : mixed d 0 T = T := rfl
theorem mixed_all (d i : Nat) (T : List EntM) (h : T.length ≤ i) : mixed d i T = T.map (EntM.moved d) := by
  unfold mixed
  rw [List.take_of_length_le h, List.drop_eq_nil_of_le h, List.append_nil]
theorem mixed_get (d i : Nat) (T : List EntM) : (mixed d i T)[i]? = T[i]? := by
  unfold mixed
  by_cases h : i ≤ T.length
  · rw [List.getElem?_append_right (by simp; omega), List.length_map, List.length_take, Nat.min_eq_left h, Nat.sub_self, List.getElem?_drop, Nat.add_zero]
  · rw [List.drop_eq_nil_of_le (by omega), List.append_nil, List.take_of_length_le (by omega), List.getElem?_eq_none (by simp; omega), List.getElem?_eq_none (by omega)]
theorem mixed_set (d i : Nat) (T : List EntM) (y : EntM) (h : T[i]? = some y) : (mixed d i T).set i ⟨m64 (y.addr + d), y.file, y.line, y.fin⟩ = mixed d (i + 1) T := by
  obtain ⟨h1, h2⟩ := List.getElem?_eq_some_iff.1 h
  unfold mixed
  rw [List.set_append_right _ _ (by simp; omega), List.length_map, List.length_take, Nat.min_eq_left (by omega), Nat.sub_self, List.drop_eq_getElem_cons h1, List.set_cons_zero, take_snoc' T i y h, List.map_append, List.append_assoc]
  rfl
theorem mixed_len (d i : Nat) (T : List EntM) : (mixed d i T).length = T.length := by
  unfold mixed
  simp
  omega
theorem own_some {w : World} {base e size n m c : Nat} {a : Option Addr} {xs : List Value} (h : w.ownsRow base e size (.slice a m c) n xs) (hn : 0 < n) : ∃ g, a = some ⟨g, 0, none⟩ := by
  rcases h.2 with ⟨h1, h2⟩ | ⟨g, cap, cur, h1, -⟩
  · omega
  · simp only [Value.slice.injEq] at h1
    exact ⟨g, h1.1⟩
theorem moved_fst (d : Nat) (L : List (RunM × Value)) : (L.map (·.1)).map (RunM.moved d) = (L.map (movedP d)).map (·.1) := by
  rw [List.map_map, List.map_map]
  rfl
theorem bs_cell {w : World} {a : Option Addr} {m c k : Nat} {l : List UInt8} (h : Bs w (.slice a m c) l) (hk : k < m) : ∃ b o, a = some ⟨b, o, none⟩ ∧ w.cell? ⟨b, o + k, none⟩ = some (.int .u8 (l[k]?.getD 0).toNat) := by
  obtain ⟨a', c', e, -, -, hc⟩ := h.open
  simp only [Value.slice.injEq] at e
  obtain ⟨rfl, rfl, rfl⟩ := e
  exact hc k hk
theorem rd_cell {w : World} {a : Option Addr} {m c j p : Nat} {l : List Nat} (h : Rd I64 w (.slice a m c) l) (hj : l[j]? = some p) : ∃ b o, a = some ⟨b, o, none⟩ ∧ w.cell? ⟨b, o + j, none⟩ = some (.int .i64 (p : Int)) := by
  obtain ⟨a', c', e, -, -, hc⟩ := h.open 0
  simp only [Value.slice.injEq] at e
  obtain ⟨rfl, rfl, rfl⟩ := e
  obtain ⟨b, o, h1, h2⟩ := hc j (List.getElem?_eq_some_iff.1 hj).1
  refine ⟨b, o, h1, ?_⟩
  rw [h2, hj]
  rfl
attribute [local irreducible] unitB placesB unitEnts mixed
set_option maxHeartbeats 8000000 in
set_option maxRecDepth 100000 in
theorem lineMoved_any (fs : List (List UInt8)) (fv : Value) (rs : List RunM) (L : List (RunM × Value)) (rv : Value) (d : Nat) (w : World) (hv : Rd S w fv fs) (hr : RunsAt w rv rs L) (hn : fs.length + rs.length + nrows rs ≤ 1000000000) (hs : ∀ s ∈ fs, s.length ≤ 9223372036854775807) (hf : ∀ r ∈ rs, r.fits) :
    Calls Try.prog 6 #[fv, rv, .int .u64 (d : Int)] w fun e w' => e = .returned (.bool true) ∧ Below w.heap.size w w' := by
  have HV := Lib.hid hv
  have HRS := Lib.hid hr
  have HLI := Lib.hid (fun wx (h : Below w.heap.size w wx) => light18_any fs fv rs L rv wx (hv.mono h) (hr.mono h) hn)
  obtain ⟨m, ad, cap, hm1, rfl, _, _⟩ := hv.shape
  obtain ⟨n, ra, rc, hn1, rfl, _, _⟩ := hr.rd.shape
  have HN := Lib.hid (show n = rs.length by rw [hr.eq, List.length_map]; exact hn1.out)
  have HNL := Lib.hid hn1.out
  clear hv hr hm1 hn1 hn
  cases hli : lightL fs rs with
  | false =>
    rw [hli] at HLI
    clear hs hf hli
    go_enter Try.func6, Try.ntmps6
    go_wp2_with (first
      | (go_at_call 8; go_must (refine (begun18_any _).mono ?_; rintro e w1 ⟨rfl, hb1⟩; have HB1 := Lib.hid hb1; clear hb1))
      | (go_at_call 9; go_must (refine (HLI.out _ HB1.out).mono ?_; rintro e w2 ⟨rfl, rfl⟩)))
    go_ret
    exact ⟨rfl, HB1.out⟩
  | true =>
    have hl := lightL_le hli
    rw [hli] at HLI
    have HU := Lib.hid (fun wx (h : Below w.heap.size w wx) => lnUnit_any fs _ rs L _ wx (HV.out.mono h) (HRS.out.mono h) hl hs hf)
    by_cases hfy : faultyL fs rs = 0
    rotate_left
    · have HU1 := Lib.hid (unitR_no hfy)
      have hne : (faultyL fs rs != 0) = true := by simpa using hfy
      rw [HU1.out] at HU
      generalize faultyL fs rs = e0 at *
      clear hs hf hli hl hfy
      go_enter Try.func6, Try.ntmps6
      go_wp2_with (first
        | (go_at_call 8; go_must (refine (begun18_any _).mono ?_; rintro e w1 ⟨rfl, hb1⟩; have HB1 := Lib.hid hb1; clear hb1))
        | (go_at_call 9; go_must (refine (HLI.out _ HB1.out).mono ?_; rintro e w2 ⟨rfl, rfl⟩))
        | (go_at_call 10; go_must (refine (HU.out _ HB1.out).mono ?_; rintro e w3 ⟨vb, va, rfl, hvb, hva, hb3⟩; obtain ⟨bm, ba, bc, -, rfl, _, _⟩ := hvb.shape; obtain ⟨am, aa, ac, ham, rfl, _, _⟩ := hva.shape; obtain rfl : am = 0 := ham.out; have HB3 := Lib.hid (HB1.out.trans (hb3.mono HB1.out.size)); clear hvb hva hb3 ham)))
      go_ret
      exact ⟨rfl, HB3.out⟩
    have HU1 := Lib.hid (unitR_yes hfy)
    rw [HU1.out] at HU
    have hfm : ∀ r ∈ rs.map (RunM.moved d), r.fits := fun r hr => by
      obtain ⟨x, hx, rfl⟩ := List.mem_map.1 hr
      exact fits_moved (hf x hx)
    have hlm : fs.length + (rs.map (RunM.moved d)).length + nrows (rs.map (RunM.moved d)) ≤ 400 := by rw [List.length_map, nrows_moved]; exact hl
    have hfym : faultyL fs (rs.map (RunM.moved d)) = 0 := by rw [faulty_moved]; exact hfy
    have HUM := Lib.hid (fun wx v (h : Below w.heap.size w wx) (hm : RunsAt wx v (rs.map (RunM.moved d)) (L.map (movedP d))) => lnUnit_any fs _ (rs.map (RunM.moved d)) (L.map (movedP d)) v wx (HV.out.mono h) hm hlm hs hfm)
    rw [unitR_yes hfym, places_moved] at HUM
    have HUN := Lib.hid (units_one hfy hl hf)
    have HUN2 := Lib.hid (units_one hfym hlm hfm)
    rw [unitEnts_moved] at HUN2
    have HSB := Lib.hid (unit_same d fs rs)
    have HBL := Lib.hid (show (unitB fs rs).length ≤ 50000 by rw [unitB_len]; have := lnBodyB_le hfy hl; omega)
    have HBM := Lib.hid (unitB_moved_len d fs rs)
    have HPL := Lib.hid (show (placesB fs rs).length = n by unfold placesB; simp [HN.out])
    have hp9 : ∀ p ∈ placesB fs rs, p ≤ 100000 := by
      intro p hp
      unfold placesB at hp
      obtain ⟨i, hi, rfl⟩ := List.mem_map.1 hp
      have h1 := runsB_len (rs.take i)
      have h2 : nrows (rs.take i) ≤ nrows rs := by
        have h1 : nrows (rs.take i) + nrows (rs.drop i) = nrows rs := by
          unfold nrows
          rw [← List.sum_append, ← List.map_append, List.take_append_drop]
        omega
      have h3 := lnFrontB_len fs
      have h4 := lnHeadB_len (fun s hs => ((faulty_ok hfy).1 s hs).2.1) (faulty_ok hfy).2.1
      have h5 : (rs.take i).length ≤ rs.length := by rw [List.length_take]; omega
      omega
    have HP9 := Lib.hid hp9
    have hT9 : (unitEnts rs).length ≤ 400 := by rw [unitEnts_len]; omega
    have hn9 : n ≤ 400 := by have := HN.out; omega
    clear hs hf hli hfy HU1 hfm hlm hfym hp9
    go_enter Try.func6, Try.ntmps6
    go_wp2_with (first
      | (go_at_call 8; go_must (refine (begun18_any _).mono ?_; rintro e w1 ⟨rfl, hb1⟩; have HB1 := Lib.hid hb1; clear hb1))
      | (go_at_call 9; go_must (refine (HLI.out _ HB1.out).mono ?_; rintro e w2 ⟨rfl, rfl⟩))
      | (go_at_call 10; go_must (refine (HU.out _ HB1.out).mono ?_; rintro e w3 ⟨vb, va, rfl, hvb, hva, hb3⟩; have HVB := Lib.hid hvb.bs; have HVA := Lib.hid hva.rd; obtain ⟨bm, ba, bc, hbm, rfl, _, _⟩ := hvb.shape; have HBM1 := Lib.hid hbm.out; obtain ⟨am, aa, ac, ham, rfl, _, _⟩ := hva.shape; obtain rfl : n = am := (ham.out.trans HPL.out).symm; have HB3 := Lib.hid (HB1.out.trans (hb3.mono HB1.out.size)); have hz3 := HB3.out.size; clear hvb hva hb3 ham hbm)))
    go_loopw [10, 11] (fun mv iv wr => ∃ i : Nat, iv = .int .i64 (i : Int) ∧ i ≤ n ∧ Hid (OwR 3 encRun 39 wr w3.heap.size mv ((L.take i).map (movedP d))) ∧ Hid (Below w.heap.size w wr) ∧ Hid (Below w3.heap.size w3 wr)) (fun _ iv _ => n - (intOf iv).toNat)
    case atStart => exact ⟨0, rfl, Nat.zero_le _, OwR.nil _ _ _ _ _, HB3.out, Below.refl _ _⟩
    case round =>
      obtain ⟨i, rfl, hi, HO, HB, HBt⟩ := hrel
      have hz := HB.out.size
      have hzt := HBt.out.size
      by_cases hlt : i < n
      · have X1 := Lib.hid (show L[i]? = some (L[i]'(by have := HNL.out; omega)) from List.getElem?_eq_getElem _)
        generalize L[i]'(by have := HNL.out; omega) = p at *
        have HRW := Lib.hid (HRS.out.rows p (List.mem_of_getElem? X1.out))
        obtain ⟨b2, o2, ha2, u0, u1, u2⟩ := run_cells ((HRS.out.mono HB.out).rd) X1.out
        subst ha2
        have HTK := Lib.hid (show (L.take (i + 1)).map (movedP d) = (L.take i).map (movedP d) ++ [movedP d p] by rw [take_snoc' L i p X1.out, List.map_append]; rfl)
        have hll : ((L.take i).map (movedP d)).length ≤ 400 := by rw [List.length_map, List.length_take]; omega
        obtain ⟨⟨at_, rows, fin⟩, pv⟩ := p
        simp only at u0 u1 u2 HRW
        obtain ⟨pm, qa, qc, -, rfl, _, _⟩ := HRW.out.shape
        obtain ⟨om, oa, oc, -, rfl, _, _⟩ := HO.out.shape
        have hsm := sum_u64 at_ d
        have HMV := Lib.hid (show movedP d (⟨at_, rows, fin⟩, .slice qa pm qc) = (⟨m64 (at_ + d), rows, fin⟩, .slice qa pm qc) from rfl)
        generalize m64 (at_ + d) = A at *
        go_wp2_with (first
          | ((with_reducible show wpList _ _ _ (⟨none, .store _ (.tmp 12) _, _, _, _, _⟩ :: _) _ _); go_must (refine wpList_storeNew rfl rfl (by kernel_rfl) rfl (by simp [Value.oneCell']) ?_; intro w8 hh8 hb8; have HX8 := Lib.hid hh8; have HO8 := Lib.hid (HO.out.mono hb8); have HB8 := Lib.hid (HB.out.trans (hb8.mono hz)); have HBt8 := Lib.hid (HBt.out.trans (hb8.mono hzt)); obtain ⟨x0, x1, x2⟩ := run3 hh8; clear hh8 hb8 u0 u1 u2))
          | ((with_reducible show wpList _ _ _ (⟨none, .store _ (.tmp 58) _, _, _, _, _⟩ :: _) _ _); go_must (refine wpList_store1 HX8.out (by simp) rfl rfl ?_; intro w9 hh9 hs9; have HO9 := Lib.hid (show OwR 3 encRun 39 w9 w3.heap.size (.slice oa om oc) ((L.take i).map (movedP d)) from owns_stirs HO8.out hs9 (fun k hk e => by have := own_lt HO.out k hk; omega)); have HB9 := Lib.hid (HB8.out.trans (hs9.below HB8.out.size (fun k e => by omega))); have HBt9 := Lib.hid (HBt8.out.trans (hs9.below HBt8.out.size (fun k e => by omega))); clear x0 x1 x2; obtain ⟨x0, x1, x2⟩ := run3 hh9; clear hh9 hs9))
          | ((with_reducible show wpList _ _ _ (⟨some 62, _, _, _, _, _⟩ :: _) _ _); go_must (refine wpList_pushR TRun HO9.out rfl rfl (⟨A, rows, fin⟩, .slice qa pm qc) rfl rfl (by simp [Value.oneCell']) (by omega) (by omega) HBt9.out.size ?_; intro v2 w10 hv2 hg2 hb2; have HO10 := Lib.hid (show OwR 3 encRun 39 w10 w3.heap.size v2 ((L.take (i + 1)).map (movedP d)) by rw [HTK.out, HMV.out]; exact hv2); have HBt10 := Lib.hid (HBt9.out.trans hb2); have HB10 := Lib.hid (HB9.out.trans (hb2.mono hz3)); clear hv2 hg2 hb2 x0 x1 x2)))
        go_roundw
        case rel =>
          first
            | exact ⟨i + 1, by go_num, by omega, HO10.out, HB10.out, HBt10.out⟩
            | ((repeat apply Exists.intro); exact ⟨⟨i + 1, by go_num, by omega, HO10.out, HB10.out, HBt10.out⟩, rfl⟩)
        case measure => simp [intOf] <;> omega
      · obtain rfl : i = n := by omega
        have htk : L.take i = L := List.take_of_length_le (by have := HNL.out; omega)
        rw [htk] at HO
        obtain ⟨mm, ma, mc, -, rfl, _, _⟩ := HO.out.shape
        have HMR : Hid (RunsAt wr (.slice ma mm mc) (rs.map (RunM.moved d)) (L.map (movedP d))) := Lib.hid ⟨by rw [HRS.out.eq, moved_fst], HO.out.rd, fun p hp => by
          obtain ⟨x, hx, rfl⟩ := List.mem_map.1 hp
          exact (HRS.out.mono HB.out).rows x hx⟩
        have HVB3 := Lib.hid (HVB.out.mono HBt.out)
        have HVA3 := Lib.hid (HVA.out.mono HBt.out)
        clear htk HO HRS HVB HVA HB3 hz3 HBt hzt
        go_wp2_with fail
        refine (HUM.out _ _ HB.out HMR.out).mono ?_
        rintro e wU ⟨vc, va2, rfl, hvc, hva2, hbU⟩
        have HVC := Lib.hid hvc.bs
        obtain ⟨cm, ca, cc, hcm, rfl, _, _⟩ := hvc.shape
        obtain rfl : bm = cm := by rw [hcm.out, HBM.out]; exact HBM1.out
        obtain ⟨am2, aa2, ac2, ham2, rfl, _, _⟩ := hva2.shape
        obtain rfl : i = am2 := (ham2.out.trans HPL.out).symm
        have HVBU := Lib.hid (HVB3.out.mono hbU)
        have HVAU := Lib.hid (HVA3.out.mono hbU)
        have HBU := Lib.hid (HB.out.trans (hbU.mono hz))
        have hzU := HBU.out.size
        have hbm9 : bm ≤ 50000 := by have := HBM1.out; have := HBL.out; omega
        clear hvc hva2 hbU hcm ham2 HVB3 HVA3 HB hz HMR
        go_wp2_with fail
        refine (lnRead_any _ _ _ _ (Nat.le_trans HBL.out (by decide)) HVBU.out HUN.out (by omega)).mono ?_
        rintro e wA ⟨ov, rfl, hov, hbA⟩
        have HOV := Lib.hid hov
        obtain ⟨om, oa, oc, hom, rfl, _, _⟩ := hov.shape
        have HOM := Lib.hid hom.out
        have hom9 : om ≤ 400 := by have := HOM.out; omega
        have HBA := Lib.hid hbA
        have HVCA := Lib.hid (HVC.out.mono hbA)
        have hzA := hbA.size
        clear hov hom hbA
        go_wp2_with fail
        refine (lnRead_any _ _ _ _ (by rw [HBM.out]; exact Nat.le_trans HBL.out (by decide)) HVCA.out HUN2.out (by rw [List.length_map]; omega)).mono ?_
        rintro e wM ⟨pv, rfl, hpv, hbM⟩
        have HPV := Lib.hid hpv
        obtain ⟨pm, pa, pc, hpm, rfl, _, _⟩ := hpv.shape
        have HAP := Lib.hid (own_two HOV.out hpv)
        have HOV2 := Lib.hid (HOV.out.mono hbM)
        have HBM2 := Lib.hid (HBA.out.trans (hbM.mono hzA))
        have hzM := HBM2.out.size
        have HBLM := Lib.hid (show ((unitEnts rs).map (EntM.moved d)).length ≤ 1000000000 by rw [List.length_map]; omega)
        clear hpv hbM hpm HOV HBA HVCA hzA
        generalize unitEnts rs = T at *
        have HOV3 := Lib.hid (show OwR 4 encEnt 43 wM wU.heap.size (.slice oa om oc) (mixed d 0 T) by rw [mixed_zero]; exact HOV2.out)
        have HPV3 := Lib.hid HPV.out.rd
        clear HOV2
        go_wp2
        go_loopw [22] (fun iv wr => ∃ j : Nat, iv = .int .i64 (j : Int) ∧ j ≤ om ∧ Hid (OwR 4 encEnt 43 wr wU.heap.size (.slice oa om oc) (mixed d j T)) ∧ Hid (RdR 4 encEnt wr (.slice pa pm pc) (T.map (EntM.moved d))) ∧ Hid (Below wU.heap.size wU wr)) (fun iv _ => om - (intOf iv).toNat)
        case atStart => exact ⟨0, rfl, Nat.zero_le _, HOV3.out, HPV3.out, HBM2.out⟩
        case round =>
          obtain ⟨j, rfl, hj, HO, HP, HBt⟩ := hrel
          clear HOV3 HPV3 HBM2
          have hzt := HBt.out.size
          by_cases hlt2 : j < om
          · have Y1 := Lib.hid (show T[j]? = some (T[j]'(by have := HOM.out; omega)) from List.getElem?_eq_getElem _)
            generalize T[j]'(by have := HOM.out; omega) = y at *
            have Y2 := Lib.hid (show (mixed d j T)[j]? = some y by rw [mixed_get]; exact Y1.out)
            obtain ⟨g, rfl⟩ := own_some HO.out (by rw [mixed_len, ← HOM.out]; omega)
            obtain ⟨b4, o4, hb4, c0, -, -, -⟩ := ent_cells HO.out.rd Y2.out
            cases hb4
            rw [Nat.zero_add] at c0
            have HMS := Lib.hid (mixed_set d j T y Y1.out)
            have hsm := sum_u64 y.addr d
            generalize m64 (y.addr + d) = A at *
            go_wp2_with ((with_reducible show wpList _ _ _ (⟨none, .store _ (.tmp 114) _, _, _, _, _⟩ :: _) _ _); go_must (refine wpList_storeAddr HO.out Y2.out rfl A rfl hzt ?_; intro w8 ho8 hs8 hb8; have HO8 := Lib.hid (show OwR 4 encEnt 43 w8 wU.heap.size (.slice (some ⟨g, 0, none⟩) om oc) (mixed d (j + 1) T) by rw [← HMS.out]; exact ho8); have HP8 := Lib.hid (show RdR 4 encEnt w8 (.slice pa pm pc) (T.map (EntM.moved d)) from Reads.stirs HP.out hs8 (fun k hk e => HAP.out k hk (by rw [e]; rfl))); have HB8 := Lib.hid (HBt.out.trans hb8); clear ho8 hs8 hb8))
            go_roundw
            case rel => exact ⟨j + 1, by go_num, by omega, HO8.out, HP8.out, HB8.out⟩
            case measure => simp [intOf] <;> omega
          · obtain rfl : j = om := by omega
            have HML := Lib.hid (mixed_all d j T (by have := HOM.out; omega))
            have HL := Lib.hid (show RdR 4 encEnt wr (.slice oa j oc) (T.map (EntM.moved d)) by rw [← HML.out]; exact HO.out.rd)
            obtain ⟨wL, rfl⟩ : ∃ w9 : World, w9 = wr := ⟨_, rfl⟩
            have HVB9 := Lib.hid (HVBU.out.mono HBt.out)
            have HVC9 := Lib.hid (HVC.out.mono HBt.out)
            have HVA9 := Lib.hid (HVAU.out.mono HBt.out)
            have HBL9 := Lib.hid (HBU.out.trans (HBt.out.mono hzU))
            clear HO HML HAP HVBU HVC HVAU HBt HPV hlt2
            go_wp2
            go_loopw [23] (fun iv wr => ∃ k : Nat, iv = .int .i64 (k : Int) ∧ k ≤ bm ∧ Hid (Below wL.heap.size wL wr)) (fun iv _ => bm - (intOf iv).toNat)
            case atStart => exact ⟨0, rfl, Nat.zero_le _, Below.refl _ _⟩
            case round =>
              obtain ⟨k, rfl, hk, HBk⟩ := hrel
              by_cases hlt3 : k < bm
              · have hz9 := HBk.out.size
                obtain ⟨bb, bo, hbb, hb0⟩ := bs_cell (HVB9.out.mono HBk.out) hlt3
                obtain ⟨cb, co, hcb, hc0⟩ := bs_cell (HVC9.out.mono HBk.out) hlt3
                subst hbb hcb
                have HB0 := Lib.hid hb0
                have HC0 := Lib.hid hc0
                have HSK := Lib.hid (fun h => HSB.out k h)
                have HPI := Lib.hid (show ∀ j, j = i → (placesB fs rs).take j = placesB fs rs from fun j hj => List.take_of_length_le (by rw [HPL.out, hj]; exact Nat.le_refl _))
                clear hb0 hc0
                generalize placesB fs rs = P at *
                go_wp2
                go_loop [24, 25] (fun bv iv => ∃ j : Nat, iv = .int .i64 (j : Int) ∧ j ≤ i ∧ bv = .bool (insideB k (P.take j))) (fun _ iv => i - (intOf iv).toNat)
                case atStart => exact ⟨0, rfl, Nat.zero_le _, by rw [List.take_zero]; rfl⟩
                case round =>
                  obtain ⟨j, rfl, hji, rfl⟩ := hrel
                  by_cases hlt4 : j < i
                  · have Z1 := Lib.hid (show P[j]? = some (P[j]'(by have := HPL.out; omega)) from List.getElem?_eq_getElem _)
                    generalize P[j]'(by have := HPL.out; omega) = p at *
                    have hp9 : p ≤ 100000 := HP9.out p (List.mem_of_getElem? Z1.out)
                    have HIS := Lib.hid (show insideB k (P.take (j + 1)) = (insideB k (P.take j) || (decide (p ≤ k) && decide (k < p + 8))) by rw [take_snoc' P j p Z1.out, inside_snoc])
                    obtain ⟨ab, ao, hab, ha0⟩ := rd_cell (HVA9.out.mono HBk.out) Z1.out
                    subst hab
                    cases hin : insideB k (P.take j) with
                    | true =>
                      have HI2 := Lib.hid (show insideB k (P.take (j + 1)) = true by rw [HIS.out, hin]; rfl)
                      go_wp2
                      go_round
                      case rel => exact ⟨j + 1, by go_num, by omega, by rw [HI2.out]⟩
                      case measure => simp [intOf] <;> omega
                    | false =>
                      by_cases h1 : p ≤ k
                      · have e1 : decide ((p : Int) ≤ (k : Int)) = true := decide_eq_true (by omega)
                        by_cases h2 : k < p + 8
                        · have e2 : decide ((k : Int) < (p : Int) + 8) = true := decide_eq_true (by omega)
                          have HI2 := Lib.hid (show insideB k (P.take (j + 1)) = true by rw [HIS.out, hin]; simp; omega)
                          go_wp2
                          go_round
                          case rel => exact ⟨j + 1, by go_num, by omega, by rw [HI2.out]⟩
                          case measure => simp [intOf] <;> omega
                        · have e2 : decide ((k : Int) < (p : Int) + 8) = false := decide_eq_false (by omega)
                          have HI2 := Lib.hid (show insideB k (P.take (j + 1)) = false by rw [HIS.out, hin]; simp; omega)
                          go_wp2
                          go_round
                          case rel => exact ⟨j + 1, by go_num, by omega, by rw [HI2.out]⟩
                          case measure => simp [intOf] <;> omega
                      · have e1 : decide ((p : Int) ≤ (k : Int)) = false := decide_eq_false (by omega)
                        have HI2 := Lib.hid (show insideB k (P.take (j + 1)) = false by rw [HIS.out, hin]; simp; omega)
                        go_wp2
                        go_round
                        case rel => exact ⟨j + 1, by go_num, by omega, by rw [HI2.out]⟩
                        case measure => simp [intOf] <;> omega
                  · have HTJ := Lib.hid (HPI.out j (by omega))
                    rw [HTJ.out]
                    cases hin : insideB k P with
                    | true =>
                      go_wp2
                      go_quiet (fail)
                      go_wp2
                      go_roundw
                      case rel =>
                        first
                          | exact ⟨k + 1, by go_num, by omega, HBk.out.drewN _⟩
                          | ((repeat apply Exists.intro); exact ⟨⟨k + 1, by go_num, by omega, HBk.out.drewN _⟩, rfl⟩)
                      case measure => simp [intOf] <;> omega
                    | false =>
                      have HEQ := Lib.hid (HSK.out (inside_no hin))
                      have hb0 := HB0.out
                      have hc0 := HC0.out
                      rw [← HEQ.out] at hc0
                      generalize ((unitB fs rs)[k]?.getD 0).toNat = x at *
                      have hxx : ((x : Int) != (x : Int)) = false := by simp
                      go_wp2
                      go_quiet (fail)
                      go_wp2
                      go_roundw
                      case rel =>
                        first
                          | exact ⟨k + 1, by go_num, by omega, HBk.out.drewN _⟩
                          | ((repeat apply Exists.intro); exact ⟨⟨k + 1, by go_num, by omega, HBk.out.drewN _⟩, rfl⟩)
                      case measure => simp [intOf] <;> omega
              · have HSM := Lib.hid (ref18Same_any (T.map (EntM.moved d)) (T.map (EntM.moved d)) _ _ wr HBLM.out HBLM.out (HL.out.mono HBk.out) (HP.out.mono HBk.out))
                rw [decide_eq_true rfl] at HSM
                go_wp2_with (go_at_call 16; go_must (refine HSM.out.mono ?_; rintro e w9 ⟨rfl, hb9⟩))
                go_ret
                exact ⟨rfl, HBL9.out.trans ((HBk.out.trans (hb9.mono HBk.out.size)).mono HBL9.out.size)⟩
end Go.Proofs.Ytmpmkjlkhlagfaa
namespace Go.Proofs.Ytmpmkjlkhlagfaa
open Go.ChangeShapes Go.WideShapes Go.ChangeAt Go.RowKit Go.Fd
set_option maxRecDepth 100000 in
theorem lineMovedUpto_lifted (os : Os) (started : os.Started) (H : Type) (enc : TypeId × Value → H) (F : Stop.Interp) :
    ReturnsInHanded {} Try.checked os 6 .any ((Rows.OpenSpec.upto Rows.lineMovedSpec).pre6 enc Try.prog Try.f6 Rows.lineMovedUptoRow.domain false) (((Rows.OpenSpec.upto Rows.lineMovedSpec).at F).post enc Try.prog Try.f6 false true false false) := by
  refine handed_cond (C := Try.checked) (s := (Rows.OpenSpec.upto Rows.lineMovedSpec)) (k := Rows.uptoSmall) rfl Try.own started (by kernel_rfl) Try.func6
    (OpenSpec.witness (enc := enc) (C := Try.checked) (s := (Rows.OpenSpec.upto Rows.lineMovedSpec)) (k := Rows.uptoSmall) rfl false ⟨#[], #[.slice none 0 0, .slice none 0 0, .int .u64 0], []⟩ 8 (by kernel_rfl) (by kernel_rfl) (by kernel_rfl)
      (x := ([.nil, .nil, .lit (.int .u64 0)], [], [])) (by kernel_rfl) rfl (by kernel_rfl)) ?_
  intro W base args ds gs before hval0 hW hk hz hsh
  have hval : ∀ (j : Nat) t v, Try.f6.params[j]? = some t → args[j]? = some v → Value.okWide Try.prog W .any base t v := hval0
  have hW' := hW
  obtain ⟨p, q, hA0, hV, rfl, hfz, hnd⟩ := hW
  have hA : DataW.TrodAll enc Try.prog W 0 (fun _ => true) true Try.f6.params.toList args.toList ds p := hA0
  have hlt : ∀ x ∈ p, x.block < W.heap.size := fun x hx => hW'.lt x (by simp [hx])
  have hback : ∀ W', Below W.heap.size W W' → DataW.TrodAll enc Try.prog W' 0 (fun b => decide (b < W.heap.size)) true Try.f6.params.toList args.toList ds p :=
    fun W' hb => belowAllB (by kernel_rfl) hb hA hlt
  rw [Try.params6] at hA hval
  obtain ⟨v0, vs0, d0, ds0, p0, q0, hargs, rfl, rfl, h0, r0⟩ := trodAll_cons hA
  obtain ⟨v1, vs1, d1, ds1, p1, q1, rfl, rfl, rfl, h1, r1⟩ := trodAll_cons r0
  obtain ⟨v2, vs2, d2, ds2, p2, q2, rfl, rfl, rfl, h2, r2⟩ := trodAll_cons r1
  obtain ⟨rfl, rfl, rfl⟩ := trodAll_nil r2
  obtain rfl : args = #[v0, v1, v2] := by
    cases args
    simp at hargs
    simp [hargs]
  clear hargs
  obtain ⟨rfl, rfl⟩ := trodVars_none hV
  have fin : ∀ (e : Ending) (W' : World), (e = .returned (.bool true) ∧ Below W.heap.size W W') → ∃ v, e = Ending.returned v ∧ ((Rows.OpenSpec.upto Rows.lineMovedSpec).at F).post enc Try.checked.prog Try.f6 false true false false W #[v0, v1, v2] v W' := by
    rintro e W' ⟨rfl, hb⟩
    exact ⟨_, rfl, _, _, _, [], _, [], hW', trodAll_mk1 (shut_bool Try.underlying4 true), hback W' hb, rfl, hb.frame _, fun h => by cases h⟩
  obtain ⟨fs, hfs, hss, hfl⟩ := reads_files (hval 0 22 v0 rfl rfl) h0
  obtain ⟨rs, L, hrs, hft, hrl⟩ := reads_runs (hval 1 23 v1 rfl rfl) h1
  obtain ⟨n, rfl, rfl, rfl, w2⟩ := open_int Try.underlying36 (hval 2 36 v2 rfl rfl) h2
  obtain ⟨n0, n1⟩ := wf_u64 w2
  obtain ⟨d, rfl⟩ := Int.eq_ofNat_of_zero_le n0
  have hb : Rows.uptoBulk d0 ≤ 1048576 ∧ Rows.uptoBulk d1 ≤ 1048576 := by
    have := of_decide_eq_true hk
    simp [Rows.uptoBulkAll] at this
    omega
  exact (lineMoved_any fs v0 rs L v1 d W hfs hrs (by omega) hss hft).mono fin
theorem lineMovedUpto_holds : Rows.LineMovedUptoSaid :=
  OpenClaim.holds_of_cond 6 Try.f6 rfl rfl rfl rfl rfl rfl rfl ⟨rfl, rfl, rfl, rfl, rfl⟩ rfl rfl rfl rfl rfl (by kernel_rfl) Try.func6 (by kernel_rfl)
    (of_decide_eq_true (by kernel_rfl)) (by unfold Func.isWrapper; rw [if_neg (of_decide_eq_false (by kernel_rfl))]; exact ⟨rfl, rfl⟩)
    (fun os started H enc _ F => lineMovedUpto_lifted os started H enc F)
end Go.Proofs.Ytmpmkjlkhlagfaa
namespace Go.Proofs.Ytmpmkjlkhlagfaa
open Go.RowKit Go.Fd
theorem spec_unit : unitB [[97]] [] = [37, 0, 0, 0, 5, 0, 8, 0, 29, 0, 0, 0, 1, 1, 1, 251, 14, 13, 0, 1, 1, 1, 1, 0, 0, 0, 1, 0, 0, 1, 1, 1, 8, 1, 0, 1, 1, 8, 1, 97, 0] := by decide +kernel
theorem spec_faulty : faultyL [[97]] [] = 0 := by decide +kernel
theorem fixed_two (n : Nat) (h : n < 65536) : fixed n 4 = [UInt8.ofNat n, UInt8.ofNat (n / 256), 0, 0] := by
  have h2 : n / 256 / 256 = 0 := by omega
  simp [fixed, h2]
theorem spec_bytes (op least base span first : UInt8) :
    (((([37, 0, 0, 0, 5, 0, 8, 0, 29, 0, 0, 0] ++ [least, 1, 1, base, span, first] ++ [0, 1, 1, 1, 1, 0, 0, 0, 1, 0, 0, 1] ++ List.replicate (first.toNat - 13) 0 ++ [1, 1, 8, 1, 0, 1, 1, 8, 1, 97, 0]).set 8 (UInt8.ofNat (first.toNat + 16))).set 9 (UInt8.ofNat ((first.toNat + 16) / 256)) ++ [op, 2, 3, op, 8, 1]).set 0 (UInt8.ofNat (first.toNat + 30))).set 1 (UInt8.ofNat ((first.toNat + 30) / 256)) = specB op least base span first := by
  have hf := first.toNat_lt
  unfold specB
  rw [fixed_two _ (show first.toNat + 30 < 65536 by omega), fixed_two _ (show first.toNat + 16 < 65536 by omega)]
  simp
theorem wpList_storeB {ops : Array Oper} {rest : List Oper} {Q : Exit → Act → World → Prop} {a : Act} {w : World} {d : Option Tmp} {ty : TypeId} {pos : String} {aft : Array Edge} {p x : Operand} {g j m cap base : Nat} {l : List UInt8} (ho : OB w base (.slice (some ⟨g, 0, none⟩) m cap) l) (hp : a.eval p = .pointer (some ⟨g, j, none⟩)) {z : Int} (hx : a.eval x = .int .u8 z) (c : UInt8) (hz : z = c.toNat) (hj : j < l.length) (hb : base ≤ w.heap.size)
    (h : ∀ w1, OB w1 base (.slice (some ⟨g, 0, none⟩) m cap) (l.set j c) → Below base w w1 → wpList Try.prog ops Q rest (a.put d undef) w1) :
    wpList Try.prog ops Q (⟨d, .store 5 p x, ty, pos, aft, none⟩ :: rest) a w := by
  subst hz
  obtain ⟨g', cap', e1, hbg, hgw, _, hcell, hfz⟩ := ho.open (by omega)
  simp only [Value.slice.injEq, Option.some.injEq, Addr.mk.injEq, and_true] at e1
  obtain ⟨rfl, rfl, rfl⟩ := e1
  have hc := hcell j hj
  have hfz := hfz j
  refine wpList_did (w' := w.setCell ⟨g, j, none⟩ (.int .u8 (c.toNat : Int))) rfl ?_ (h _ (ho.stored j c) (stirs_setCell (S := fun k => k = g) _ g j _ rfl |>.below hb (fun k hk => by rw [hk]; exact hbg)))
  simp only [execOp, hp, hx]
  simp [go_sem, hc, hfz]
theorem wpList_lit6 {ops : Array Oper} {rest : List Oper} {Q : Exit → Act → World → Prop} {a : Act} {w : World} {d : Option Tmp} {ty : TypeId} {pos : String} {aft : Array Edge} {x0 x1 x2 x3 x4 x5 : Operand} (c0 c1 c2 c3 c4 c5 : UInt8) (e0 : a.eval x0 = B c0) (e1 : a.eval x1 = B c1) (e2 : a.eval x2 = B c2) (e3 : a.eval x3 = B c3) (e4 : a.eval x4 = B c4) (e5 : a.eval x5 = B c5)
    (h : ∀ w1, Bs w1 (.slice (some ⟨w.heap.size, 0, none⟩) 6 6) [c0, c1, c2, c3, c4, c5] → Below w.heap.size w w1 → wpList Try.prog ops Q rest (a.put d (.slice (some ⟨w.heap.size, 0, none⟩) 6 6)) w1) :
    wpList Try.prog ops Q (⟨d, .buildSlice 26 6 #[(0, x0), (1, x1), (2, x2), (3, x3), (4, x4), (5, x5)], ty, pos, aft, none⟩ :: rest) a w := by
  refine wpList_val (w' := w.alloc (.cells #[B c0, B c1, B c2, B c3, B c4, B c5] 5)) rfl ?_ (h _ (bs_lit w [c0, c1, c2, c3, c4, c5] _ 6 rfl rfl) (below_alloc w _))
  simp only [execOp, List.map_toArray, List.map_cons, List.map_nil, e0, e1, e2, e3, e4, e5]
  kernel_rfl
theorem eql_raw {a a' f f' l l' : Int} {e e' : Bool} (p q : Operand) (w : World) (h : a = a' ∧ f = f' ∧ l = l' ∧ e = e') : (do eqGuard .eql 43 p q (.agg #[.int .u64 a, .int .i64 f, .int .i64 l, .bool e]) (.agg #[.int .u64 a', .int .i64 f', .int .i64 l', .bool e']); binOp .eql 43 (.agg #[.int .u64 a, .int .i64 f, .int .i64 l, .bool e]) (.agg #[.int .u64 a', .int .i64 f', .int .i64 l', .bool e']) : Sem Value).run Try.prog w = .ok (.bool true) w := by
  obtain ⟨rfl, rfl, rfl, rfl⟩ := h
  have h0 : Try.prog.eqGuardType Try.prog.depth 43 = false := by kernel_rfl
  have h2 : Try.prog.stoodInHeld 43 = false := by kernel_rfl
  have h3 : (Try.prog.fieldsOf 43).toList.map (fun f => (f.name, f.type, f.offset)) = [("Addr", 36, 0), ("File", 3, 1), ("Line", 3, 2), ("End", 4, 3)] := by kernel_rfl
  have h4 : Try.prog.underlying 43 = some (.struct (Try.prog.fieldsOf 43)) := by kernel_rfl
  have a3 : ∀ w, (isAgg 3).run Try.prog w = .ok false w := fun w => by kernel_rfl
  have a2 : ∀ w, (isAgg 4).run Try.prog w = .ok false w := fun w => by kernel_rfl
  have a53 : ∀ w, (isAgg 36).run Try.prog w = .ok false w := fun w => by kernel_rfl
  have u3 : Try.prog.underlying 3 = some (.int .i64) := by kernel_rfl
  have u2 : Try.prog.underlying 4 = some .bool := by kernel_rfl
  have u53 : Try.prog.underlying 36 = some (.int .u64) := by kernel_rfl
  have h5 := run_eqFields_flat (P := Try.prog) (d := 9999) (xs := #[.int .u64 a, .int .i64 f, .int .i64 l, .bool e]) (ys := #[.int .u64 a, .int .i64 f, .int .i64 l, .bool e]) (w := w) _ _ [a == a, f == f, l == l, e == e] h3
    ⟨by decide, a53 w, ⟨_, _, rfl, rfl, run_equalIn_int w 9998 _ _ _ _ _ u53⟩, by decide, a3 w, ⟨_, _, rfl, rfl, run_equalIn_int w 9998 _ _ _ _ _ u3⟩, by decide, a3 w, ⟨_, _, rfl, rfl, run_equalIn_int w 9998 _ _ _ _ _ u3⟩, by decide, a2 w, ⟨_, _, rfl, rfl, run_equalIn_bool w 9998 _ _ _ u2⟩, trivial⟩
  rw [Sem.run_bind, run_eqGuard_agg _ _ _ _ _ _ _ h0, Result.andThen_ok, run_eql_struct, run_equalIn_agg _ 9999 _ _ _ h4 h2, h5, Result.andThen_ok]
  simp
theorem spec_nums (o f s l b : Nat) (ho : o < 256) (hf : f ≤ o) (hs : 0 < s) (hs2 : s < 256) (hl : l < 256) (hb : b < 256) :
    IntKind.u64.wrap (((o : Int) - f) / s) = (((o - f) / s : Nat) : Int) ∧ IntKind.u64.wrap ((((o - f) / s : Nat) : Int) * l) = (((o - f) / s * l : Nat) : Int) ∧ IntKind.u64.wrap ((255 - (f : Int)) / s) = (((255 - f) / s : Nat) : Int) ∧ IntKind.u64.wrap ((((255 - f) / s : Nat) : Int) * l) = (((255 - f) / s * l : Nat) : Int) ∧
    wrap64 (((o : Int) - f) % s) = (((o - f) % s : Nat) : Int) ∧ wrap64 (IntKind.i8.wrap (b : Int)) = (if b < 128 then (b : Int) else (b : Int) - 256) := by
  have e1 : ((o : Int) - f) = ((o - f : Nat) : Int) := by omega
  have e2 : (255 - (f : Int)) = ((255 - f : Nat) : Int) := by omega
  have q1 := quot_le (o - f) s l (by omega) hl
  have q2 := quot_le (255 - f) s l (by omega) hl
  have q3 : (o - f) / s ≤ o - f := Nat.div_le_self _ _
  have q4 : (255 - f) / s ≤ 255 - f := Nat.div_le_self _ _
  have q5 : (o - f) % s < s := Nat.mod_lt _ hs
  rw [e1, e2]
  refine ⟨?_, ?_, ?_, ?_, ?_, ?_⟩
  · rw [← Int.natCast_ediv]; generalize (o - f) / s = D at *; rw [IntKind.wrap_u64]; omega
  · rw [← Int.natCast_mul]; generalize (o - f) / s * l = D at *; rw [IntKind.wrap_u64]; omega
  · rw [← Int.natCast_ediv]; generalize (255 - f) / s = D at *; rw [IntKind.wrap_u64]; omega
  · rw [← Int.natCast_mul]; generalize (255 - f) / s * l = D at *; rw [IntKind.wrap_u64]; omega
  · rw [← Int.natCast_emod]; generalize (o - f) % s = D at *; rw [wrap64]; omega
  · simp only [IntKind.wrap, IntKind.bits, IntKind.signed, wrap64]; simp; split <;> omega
attribute [local irreducible] unitB placesB unitEnts findL specB
set_option maxHeartbeats 4000000 in
set_option maxRecDepth 100000 in
theorem lineSpecial_any (op least base span first : UInt8) (w : World) : Calls Try.prog 7 #[B op, B least, B base, B span, B first] w fun e w' => e = .returned (.bool true) ∧ Below w.heap.size w w' := by
  have HUR := Lib.hid (unitR_yes spec_faulty)
  have HSU := Lib.hid spec_unit
  have HSB := Lib.hid (spec_bytes op least base span first)
  have HSP := Lib.hid (fun h1 h2 h3 => spec_units (op := op) (least := least) (base := base) (span := span) (first := first) h1 h2 h3)
  have HSL := Lib.hid (specB_len op least base span first)
  have ho := op.toNat_lt
  have hl := least.toNat_lt
  have hba := base.toNat_lt
  have hs := span.toNat_lt
  have hf := first.toNat_lt
  by_cases t1 : first.toNat < 13
  · have d1 : decide (first.toNat < 13) = true := decide_eq_true t1
    go_enter Try.func7, Try.ntmps7
    go_wp2_with (go_at_call 8; go_must (refine (begun18_any _).mono ?_; rintro e w1 ⟨rfl, hb1⟩))
    go_ret
    exact ⟨rfl, hb1⟩
  by_cases t2 : op.toNat < first.toNat
  · have d2 : decide (op.toNat < first.toNat) = true := decide_eq_true t2
    go_enter Try.func7, Try.ntmps7
    go_wp2_with (go_at_call 8; go_must (refine (begun18_any _).mono ?_; rintro e w1 ⟨rfl, hb1⟩))
    go_ret
    exact ⟨rfl, hb1⟩
  by_cases t3 : span.toNat = 0
  · have d3 : ((span.toNat : Int) == 0) = true := by simpa using t3
    have HT3 := Lib.hid t3
    clear t3
    go_enter Try.func7, Try.ntmps7
    go_wp2_with (go_at_call 8; go_must (refine (begun18_any _).mono ?_; rintro e w1 ⟨rfl, hb1⟩))
    go_ret
    exact ⟨rfl, hb1⟩
  have d3 : ((span.toNat : Int) == 0) = false := by simpa using t3
  have hs0 : 0 < span.toNat := by omega
  have HU := Lib.hid (HSP.out (by omega) (by omega) hs0)
  have HSL2 := Lib.hid (HSL.out (by omega))
  clear t3 HSP HSL
  go_enter Try.func7, Try.ntmps7
  go_wp2_with (first
    | (go_at_call 8; go_must (refine (begun18_any _).mono ?_; rintro e w1 ⟨rfl, hb1⟩; have HB1 := Lib.hid hb1; clear hb1))
    | ((with_reducible show wpList _ _ _ (⟨some 37, _, _, _, _, _⟩ :: _) _ _); go_must (refine wpList_litA ?_; intro w2 hv2 hb2 hs2; have HV2 := Lib.hid hv2; have HB2 := Lib.hid (HB1.out.trans (hb2.mono HB1.out.size)); have hz2 := HB2.out.size; clear hv2 hb2 hs2))
    | (go_at_call 10; go_must (refine (lnUnit_any [[97]] _ [] [] _ _ HV2.out ⟨rfl, RdR.nil _ _ _, fun p hp => by cases hp⟩ (by decide) (fun s hs => by rw [List.mem_singleton] at hs; subst hs; decide) (fun r hr => by cases hr)).mono ?_; rintro e w3 ⟨vb, va, rfl, hvb, hva, hb3⟩; rw [HUR.out, HSU.out] at hvb; rw [HUR.out]; obtain ⟨q1, hq1, hr1⟩ := run_toB (k := .i64) hvb.bs (j := 12) (by decide) (by decide); obtain ⟨q2, hq2, hr2⟩ := run_sliceB (k := .i64) (k' := .i64) hvb.bs (i := 18) (j := 30) (by decide) (by decide) (by decide); obtain ⟨q3, hq3, hr3⟩ := run_fromB (k := .i64) hvb.bs (i := 30) (by decide) (by decide); have HQ1 := Lib.hid hq1; have HQ2 := Lib.hid hq2; have HQ3 := Lib.hid hq3; have HR1 := Lib.hid (show Bs w3 q1 [37, 0, 0, 0, 5, 0, 8, 0, 29, 0, 0, 0] from hr1); have HR2 := Lib.hid (show Bs w3 q2 [0, 1, 1, 1, 1, 0, 0, 0, 1, 0, 0, 1] from hr2); have HR3 := Lib.hid (show Bs w3 q3 [1, 1, 8, 1, 0, 1, 1, 8, 1, 97, 0] from hr3); obtain ⟨n1, p1, k1, -, rfl, _, _⟩ := hr1.shape; obtain ⟨n2, p2, k2, -, rfl, _, _⟩ := hr2.shape; obtain ⟨n3, p3, k3, -, rfl, _, _⟩ := hr3.shape; obtain ⟨bm, ba, bc, -, rfl, _, _⟩ := hvb.shape; obtain ⟨am, aa, ac, -, rfl, _, _⟩ := hva.shape; have HB3 := Lib.hid (HB2.out.trans (hb3.mono hz2)); have hz3 := HB3.out.size; clear hvb hva hb3 hq1 hq2 hq3 hr1 hr2 hr3))
    | ((with_reducible show wpList _ _ _ (⟨some 45, _, _, _, _, _⟩ :: _) _ _); go_must (refine wpList_val rfl (exec_sliceTo HQ1.out rfl rfl) ?_))
    | ((with_reducible show wpList _ _ _ (⟨some 46, _, _, _, _, _⟩ :: _) _ _); go_must (refine wpList_catB (OB.nil w3 w3.heap.size) HR1.out rfl rfl (by decide) (Nat.le_refl _) ?_; intro v4 w4 hv4 hg4 hb4; have HV4 := Lib.hid hv4; have HB4 := Lib.hid hb4; have hz4 := HB4.out.size; obtain ⟨m4, a4, c4, -, rfl, _, _⟩ := hv4.shape; clear hv4 hg4 hb4))
    | ((with_reducible show wpList _ _ _ (⟨some 52, _, _, _, _, _⟩ :: _) _ _); go_must (refine wpList_lit6 least 1 1 base span first rfl rfl rfl rfl rfl rfl ?_; intro w5 hv5 hb5; have HV5 := Lib.hid hv5; have HV45 := Lib.hid (HV4.out.mono hb5); have HB5 := Lib.hid (HB4.out.trans (hb5.mono hz4)); have hz5 := HB5.out.size; clear hv5 hb5))
    | ((with_reducible show wpList _ _ _ (⟨some 53, _, _, _, _, _⟩ :: _) _ _); go_must (refine wpList_catB HV45.out HV5.out rfl rfl (by simp) hz5 ?_; intro v6 w6 hv6 hg6 hb6; have HV6 := Lib.hid hv6; have HB6 := Lib.hid (HB5.out.trans hb6); have hz6 := HB6.out.size; obtain ⟨m6, a6, c6, -, rfl, _, _⟩ := hv6.shape; have HQ26 := Lib.hid (HR2.out.mono HB6.out); clear hv6 hg6 hb6))
    | ((with_reducible show wpList _ _ _ (⟨some 56, _, _, _, _, _⟩ :: _) _ _); go_must (refine wpList_val rfl (exec_slice2 HQ2.out rfl rfl rfl) ?_))
    | ((with_reducible show wpList _ _ _ (⟨some 57, _, _, _, _, _⟩ :: _) _ _); go_must (refine wpList_catB HV6.out HQ26.out rfl rfl (by simp) hz6 ?_; intro v7 w7 hv7 hg7 hb7; have HV7 := Lib.hid hv7; have HB7 := Lib.hid (HB6.out.trans hb7); have hz7 := HB7.out.size; clear hv7 hg7 hb7)))
  have hP0 : ([] ++ [37, 0, 0, 0, 5, 0, 8, 0, 29, 0, 0, 0] ++ [least, 1, 1, base, span, first] ++ [0, 1, 1, 1, 1, 0, 0, 0, 1, 0, 0, 1]).length = 30 := rfl
  have HP0 := Lib.hid hP0
  have HP1 := Lib.hid (show [37, 0, 0, 0, 5, 0, 8, 0, 29, 0, 0, 0] ++ [least, 1, 1, base, span, first] ++ [0, 1, 1, 1, 1, 0, 0, 0, 1, 0, 0, 1] = [] ++ [37, 0, 0, 0, 5, 0, 8, 0, 29, 0, 0, 0] ++ [least, 1, 1, base, span, first] ++ [0, 1, 1, 1, 1, 0, 0, 0, 1, 0, 0, 1] from rfl)
  rw [HP1.out] at HSB
  clear hP0 HP1
  generalize [] ++ [37, 0, 0, 0, 5, 0, 8, 0, 29, 0, 0, 0] ++ [least, 1, 1, base, span, first] ++ [0, 1, 1, 1, 1, 0, 0, 0, 1, 0, 0, 1] = P0 at *
  go_loopw [14, 15] (fun hv kv wr => ∃ k : Nat, kv = .int .i64 (k : Int) ∧ 13 ≤ k ∧ k ≤ first.toNat ∧ Hid (OB wr w3.heap.size hv (P0 ++ List.replicate (k - 13) 0)) ∧ Hid (Below w3.heap.size w3 wr)) (fun _ kv _ => 300 - (intOf kv).toNat)
  case atStart => exact ⟨13, rfl, by decide, by omega, by simpa [Hid] using HV7.out, HB7.out⟩
  case round =>
    obtain ⟨k, rfl, hk13, hkf, HO, HB⟩ := hrel
    have hz := HB.out.size
    clear HV7 HB7 hz7 HQ26 HV6 HB6 hz6 HV5 HV45 HB5 hz5 HV4 HB4 hz4
    by_cases hlt : k < first.toNat
    · have HRP := Lib.hid (show P0 ++ List.replicate (k - 13) 0 ++ [0] = P0 ++ List.replicate (k + 1 - 13) (0 : UInt8) by rw [List.append_assoc, show k + 1 - 13 = (k - 13) + 1 by omega, List.replicate_succ'])
      go_wp2_with ((with_reducible show wpList _ _ _ (⟨some 66, _, _, _, _, _⟩ :: _) _ _); go_must (refine wpList_pushB HO.out rfl rfl 0 rfl (by rw [List.length_append, HP0.out, List.length_replicate]; omega) hz ?_; intro v8 w8 hv8 hg8 hb8; have HV8 := Lib.hid (show OB w8 w3.heap.size v8 (P0 ++ List.replicate (k + 1 - 13) 0) by rw [← HRP.out]; exact hv8); have HB8 := Lib.hid (HB.out.trans hb8); clear hv8 hg8 hb8))
      go_roundw
      case rel => exact ⟨k + 1, by go_num, by omega, by omega, HV8.out, HB8.out⟩
      case measure => simp [intOf] <;> omega
    · obtain rfl : k = first.toNat := by omega
      have HO1 := Lib.hid (HR3.out.mono HB.out)
      obtain ⟨m8, a8, c8, hm8, rfl, _, _⟩ := HO.out.shape
      have hm8' := hm8.out
      rw [List.length_append, HP0.out, List.length_replicate] at hm8'
      obtain rfl : m8 = first.toNat + 17 := by omega
      clear hm8 hm8' hlt hk13 hkf
      have HL9 := Lib.hid (show (P0 ++ List.replicate (first.toNat - 13) (0 : UInt8)).length = first.toNat + 17 by rw [List.length_append, HP0.out, List.length_replicate]; omega)
      generalize P0 ++ List.replicate (first.toNat - 13) 0 = P1 at *
      have HF := Lib.hid (show first.toNat = first.toNat from rfl)
      go_wp2_with (first
        | ((with_reducible show wpList _ _ _ (⟨some 69, _, _, _, _, _⟩ :: _) _ _); go_must (refine wpList_val rfl (exec_sliceFrom HQ3.out rfl rfl) ?_))
        | ((with_reducible show wpList _ _ _ (⟨some 70, _, _, _, _, _⟩ :: _) _ _); go_must (refine wpList_catB HO.out HO1.out rfl rfl (by rw [HL9.out]; simp; omega) hz ?_; intro v9 w9 hv9 hg9 hb9; have HL10 := Lib.hid (show (P1 ++ [1, 1, 8, 1, 0, 1, 1, 8, 1, 97, 0]).length = first.toNat + 28 by rw [List.length_append, HL9.out]; simp); obtain ⟨g9, c9, e9, -, -, -, -, -⟩ := hv9.open (by rw [HL10.out]; omega); rw [HL10.out] at e9; subst e9; have HV9 := Lib.hid hv9; have HB9 := Lib.hid (HB.out.trans hb9); have hz9 := HB9.out.size; clear hv9 hg9 hb9))
        | ((with_reducible show wpList _ _ _ (⟨none, .store _ _ (.tmp 76), _, _, _, _⟩ :: _) _ _); go_must (have HLZ := Lib.hid HL10.out; refine wpList_storeB (j := 8) HV9.out rfl rfl (UInt8.ofNat (first.toNat + 16)) (by simp only [u8_of]; omega) (by have := HLZ.out; omega) hz9 ?_; intro w10 hv10 hb10; have HV10 := Lib.hid hv10; have HB10 := Lib.hid (HB9.out.trans hb10); have hz10 := HB10.out.size; clear hv10 hb10))
        | ((with_reducible show wpList _ _ _ (⟨none, .store _ _ (.tmp 81), _, _, _, _⟩ :: _) _ _); go_must (have HLZ := Lib.hid HL10.out; refine wpList_storeB (j := 9) HV10.out rfl rfl (UInt8.ofNat ((first.toNat + 16) / 256)) (by simp only [u8_of]; omega) (by have := HLZ.out; rw [List.length_set]; omega) hz10 ?_; intro w11 hv11 hb11; have HV11 := Lib.hid hv11; have HB11 := Lib.hid (HB10.out.trans hb11); have hz11 := HB11.out.size; clear hv11 hb11))
        | ((with_reducible show wpList _ _ _ (⟨some 86, _, _, _, _, _⟩ :: _) _ _); go_must (refine wpList_lit6 op 2 3 op 8 1 rfl rfl rfl rfl rfl rfl ?_; intro w12 hv12 hb12; have HV12 := Lib.hid hv12; have HV112 := Lib.hid (HV11.out.mono hb12); have HB12 := Lib.hid (HB11.out.trans (hb12.mono hz11)); have hz12 := HB12.out.size; clear hv12 hb12))
        | ((with_reducible show wpList _ _ _ (⟨some 87, _, _, _, _, _⟩ :: _) _ _); go_must (have HL11 := Lib.hid (show (((P1 ++ [1, 1, 8, 1, 0, 1, 1, 8, 1, 97, 0]).set 8 (UInt8.ofNat (first.toNat + 16))).set 9 (UInt8.ofNat ((first.toNat + 16) / 256)) ++ [op, 2, 3, op, 8, 1]).length = first.toNat + 34 by rw [List.length_append, List.length_set, List.length_set, HL10.out]; simp); refine wpList_catB HV112.out HV12.out rfl rfl (by have := HL11.out; rw [List.length_append] at this; omega) hz12 ?_; intro v13 w13 hv13 hg13 hb13; obtain ⟨g13, c13, e13, -, -, -, -, -⟩ := hv13.open (by rw [HL11.out]; omega); rw [HL11.out] at e13; subst e13; have HV13 := Lib.hid hv13; have HB13 := Lib.hid (HB12.out.trans hb13); have hz13 := HB13.out.size; clear hv13 hg13 hb13))
        | ((with_reducible show wpList _ _ _ (⟨none, .store _ _ (.tmp 92), _, _, _, _⟩ :: _) _ _); go_must (have HLZ := Lib.hid HL11.out; refine wpList_storeB (j := 0) HV13.out rfl rfl (UInt8.ofNat (first.toNat + 30)) (by simp only [u8_of]; omega) (by have := HLZ.out; omega) hz13 ?_; intro w14 hv14 hb14; have HV14 := Lib.hid hv14; have HB14 := Lib.hid (HB13.out.trans hb14); have hz14 := HB14.out.size; clear hv14 hb14))
        | ((with_reducible show wpList _ _ _ (⟨none, .store _ _ (.tmp 99), _, _, _, _⟩ :: _) _ _); go_must (have HLZ := Lib.hid HL11.out; refine wpList_storeB (j := 1) HV14.out rfl rfl (UInt8.ofNat ((first.toNat + 30) / 256)) (by simp only [u8_of]; omega) (by have := HLZ.out; rw [List.length_set]; omega) hz14 ?_; intro w15 hv15 hb15; have HV15 := Lib.hid (show OB w15 w3.heap.size (.slice (some ⟨g13, 0, none⟩) (first.toNat + 34) c13) (specB op least base span first) by rw [← HSB.out]; exact hv15); have HB15 := Lib.hid (HB14.out.trans hb15); have hz15 := HB15.out.size; clear hv15 hb15))
        | (go_at_call 14; go_must (refine (lnRead_any _ _ _ _ (by rw [HSL2.out]; omega) HV15.out.bs HU.out (by show 3 < 60000; decide)).mono ?_; rintro e w16 ⟨ov, rfl, hov, hb16⟩; have HOV := Lib.hid hov.rd; obtain ⟨om, oa, oc, hom, rfl, _, _⟩ := hov.shape; obtain rfl : om = 3 := (by rw [hom.out]; unfold specEnts; rfl); have HB16 := Lib.hid (HB15.out.trans (hb16.mono hz15)); clear hov hom hb16)))
      have HCE := Lib.hid (fun wx (hb : Below w16.heap.size w16 wx) => And.intro (ent_cells (l := specEnts op least base span first) (k := 0) (HOV.out.mono hb) rfl) (And.intro (ent_cells (l := specEnts op least base span first) (k := 1) (HOV.out.mono hb) rfl) (ent_cells (l := specEnts op least base span first) (k := 2) (HOV.out.mono hb) rfl)))
      obtain ⟨⟨b0, o0, hb0, c0, c1, c2, c3⟩, ⟨b1, o1, hb1, f0, f1, f2, f3⟩, ⟨b2, o2, hb2, g0, g1, g2, g3⟩⟩ := HCE.out _ (Below.refl _ _)
      cases hb0; cases hb1; cases hb2
      simp only [Nat.zero_mul, Nat.add_zero, Nat.one_mul] at c0 c1 c2 c3 f0 f1 f2 f3
      replace f1 : w16.cell? ⟨b0, o0 + 5, none⟩ = _ := f1
      replace f2 : w16.cell? ⟨b0, o0 + 6, none⟩ = _ := f2
      replace f3 : w16.cell? ⟨b0, o0 + 7, none⟩ = _ := f3
      replace g0 : w16.cell? ⟨b0, o0 + 8, none⟩ = _ := g0
      replace g1 : w16.cell? ⟨b0, o0 + 9, none⟩ = _ := g1
      replace g2 : w16.cell? ⟨b0, o0 + 10, none⟩ = _ := g2
      replace g3 : w16.cell? ⟨b0, o0 + 11, none⟩ = _ := g3
      clear HCE HOV
      have HN := Lib.hid (spec_nums op.toNat first.toNat span.toNat least.toNat base.toNat ho (by omega) hs0 hs hl hba)
      have hA9 := quot_le (op.toNat - first.toNat) span.toNat least.toNat (by omega) hl
      have hC9 := quot_le (255 - first.toNat) span.toNat least.toNat (by omega) hl
      have hM9 : (op.toNat - first.toNat) % span.toNat < 256 := Nat.lt_trans (Nat.mod_lt _ hs0) hs
      have hS9 : -128 ≤ signed8 base ∧ signed8 base ≤ 127 := by unfold signed8; split <;> omega
      have HSG := Lib.hid (show signed8 base = (if base.toNat < 128 then (base.toNat : Int) else (base.toNat : Int) - 256) from rfl)
      rw [← HSG.out] at HN
      generalize hA : (op.toNat - first.toNat) / span.toNat * least.toNat = A at *
      generalize hC : (255 - first.toNat) / span.toNat * least.toNat = C at *
      generalize hM : (op.toNat - first.toNat) % span.toNat = M at *
      generalize hSg : signed8 base = Sg at *
      generalize hD : (op.toNat - first.toNat) / span.toNat = D at *
      generalize hD2 : (255 - first.toNat) / span.toNat = D2 at *
      clear hA hC hM hSg hD hD2 HSG
      obtain ⟨n1', n2', n3', n4', n5', n6'⟩ := HN.out
      have hS1 := hS9.1
      have hS2 := hS9.2
      have n7 : wrap64 (Sg + (M : Int)) = Sg + (M : Int) := by rw [wrap64]; omega
      clear hS9
      go_wp2_with (first
        | ((with_reducible show wpList _ _ _ (⟨some 148, _, _, _, _, _⟩ :: _) _ _); go_must (refine wpList_val rfl (run_bin rfl rfl (eql_raw _ _ _ ⟨by omega, rfl, by omega, rfl⟩)) ?_))
        | ((with_reducible show wpList _ _ _ (⟨some 163, _, _, _, _, _⟩ :: _) _ _); go_must (refine wpList_val rfl (run_bin rfl rfl (eql_raw _ _ _ ⟨by omega, rfl, by omega, rfl⟩)) ?_))
        | ((with_reducible show wpList _ _ _ (⟨some 181, _, _, _, _, _⟩ :: _) _ _); go_must (refine wpList_val rfl (run_bin rfl rfl (eql_raw _ _ _ ⟨by omega, rfl, by omega, rfl⟩)) ?_)))
      go_ret
      exact ⟨rfl, HB3.out.trans (HB16.out.mono hz3)⟩
end Go.Proofs.Ytmpmkjlkhlagfaa
namespace Go.Proofs.Ytmpmkjlkhlagfaa
open Go.ChangeShapes Go.WideShapes Go.ChangeAt Go.RowKit Go.Fd
theorem byte_arg {n : Int} (h0 : 0 ≤ n) (h1 : n < 256) : Value.int .u8 n = B (UInt8.ofNat n.toNat) := by
  show _ = Value.int .u8 ((UInt8.ofNat n.toNat).toNat : Int)
  rw [u8_of]
  congr 1
  omega
set_option maxRecDepth 100000 in
theorem lineSpecial_lifted (os : Os) (started : os.Started) (H : Type) (enc : TypeId × Value → H) :
    ReturnsInHanded {} Try.checked os 7 .any (Rows.lineSpecialSpec.pre6 enc Try.prog Try.f7 Rows.lineSpecialRow.domain false) (Rows.lineSpecialSpec.post enc Try.prog Try.f7 false true false false) := by
  refine returnsInHanded_of_change (C := Try.checked) Try.own started (by kernel_rfl) Try.func7
    (ChangeSpec.witness6 (enc := enc) (C := Try.checked) false ⟨#[], #[.int .u8 0, .int .u8 0, .int .u8 0, .int .u8 0, .int .u8 0], []⟩ 8 (by kernel_rfl) (by kernel_rfl) (by kernel_rfl) (by kernel_rfl)) ?_
  intro W base args ds gs before hval0 hW hcnd _
  have hval : ∀ (j : Nat) t v, Try.f7.params[j]? = some t → args[j]? = some v → Value.okWide Try.prog W .any base t v := hval0
  have hW' := hW
  obtain ⟨p, q, hA0, hV, rfl, hfz, hnd⟩ := hW
  have hA : DataW.TrodAll enc Try.prog W 0 (fun _ => true) true Try.f7.params.toList args.toList ds p := hA0
  have hlt : ∀ x ∈ p, x.block < W.heap.size := fun x hx => hW'.lt x (by simp [hx])
  have hback : ∀ W', Below W.heap.size W W' → DataW.TrodAll enc Try.prog W' 0 (fun b => decide (b < W.heap.size)) true Try.f7.params.toList args.toList ds p :=
    fun W' hb => belowAllB (by kernel_rfl) hb hA hlt
  rw [Try.params7] at hA hval
  obtain ⟨v0, vs0, d0, ds0, p0, q0, hargs, rfl, rfl, h0, r0⟩ := trodAll_cons hA
  obtain ⟨v1, vs1, d1, ds1, p1, q1, rfl, rfl, rfl, h1, r1⟩ := trodAll_cons r0
  obtain ⟨v2, vs2, d2, ds2, p2, q2, rfl, rfl, rfl, h2, r2⟩ := trodAll_cons r1
  obtain ⟨v3, vs3, d3, ds3, p3, q3, rfl, rfl, rfl, h3, r3⟩ := trodAll_cons r2
  obtain ⟨v4, vs4, d4, ds4, p4, q4, rfl, rfl, rfl, h4, r4⟩ := trodAll_cons r3
  obtain ⟨rfl, rfl, rfl⟩ := trodAll_nil r4
  obtain rfl : args = #[v0, v1, v2, v3, v4] := by
    cases args
    simp at hargs
    simp [hargs]
  clear hargs
  obtain ⟨rfl, rfl⟩ := trodVars_none hV
  have fin : ∀ (e : Ending) (W' : World), (e = .returned (.bool true) ∧ Below W.heap.size W W') → ∃ v, e = Ending.returned v ∧ Rows.lineSpecialSpec.post enc Try.checked.prog Try.f7 false true false false W #[v0, v1, v2, v3, v4] v W' := by
    rintro e W' ⟨rfl, hb⟩
    exact ⟨_, rfl, _, _, _, [], _, [], hW', trodAll_mk1 (shut_bool Try.underlying4 true), hback W' hb, rfl, hb.frame _, fun h => by cases h⟩
  obtain ⟨n0, rfl, rfl, rfl, g0⟩ := open_int Try.underlying5 (hval 0 5 v0 rfl rfl) h0
  obtain ⟨a0, b0⟩ := wf_u8' g0
  obtain ⟨n1, rfl, rfl, rfl, g1⟩ := open_int Try.underlying5 (hval 1 5 v1 rfl rfl) h1
  obtain ⟨a1, b1⟩ := wf_u8' g1
  obtain ⟨n2, rfl, rfl, rfl, g2⟩ := open_int Try.underlying5 (hval 2 5 v2 rfl rfl) h2
  obtain ⟨a2, b2⟩ := wf_u8' g2
  obtain ⟨n3, rfl, rfl, rfl, g3⟩ := open_int Try.underlying5 (hval 3 5 v3 rfl rfl) h3
  obtain ⟨a3, b3⟩ := wf_u8' g3
  obtain ⟨n4, rfl, rfl, rfl, g4⟩ := open_int Try.underlying5 (hval 4 5 v4 rfl rfl) h4
  obtain ⟨a4, b4⟩ := wf_u8' g4
  rw [byte_arg a0 b0, byte_arg a1 b1, byte_arg a2 b2, byte_arg a3 b3, byte_arg a4 b4] at fin ⊢
  exact (lineSpecial_any _ _ _ _ _ W).mono fin
theorem lineSpecial_holds : Rows.LineSpecialSaid :=
  OpenClaim.holds_of_wide 7 Try.f7 rfl rfl rfl rfl rfl rfl rfl ⟨rfl, rfl, rfl, rfl, rfl⟩ rfl rfl rfl rfl rfl (by kernel_rfl) Try.func7 (by kernel_rfl)
    (of_decide_eq_true (by kernel_rfl)) (by unfold Func.isWrapper; rw [if_neg (of_decide_eq_false (by kernel_rfl))]; exact ⟨rfl, rfl⟩)
    (fun os started H enc _ => lineSpecial_lifted os started H enc)
end Go.Proofs.Ytmpmkjlkhlagfaa
namespace Go.Proofs.Ytmpmkjlkhlagfaa
theorem line_all : (Rows.LineUnitsUptoSaid ∧ Rows.LineBackUptoSaid) ∧ (Rows.LineFindsSaid ∧ Rows.LineMovedUptoSaid) ∧ Rows.LineSpecialSaid := ⟨⟨lineUnitsUpto_holds, lineBackUpto_holds⟩, ⟨lineFinds_holds, lineMovedUpto_holds⟩, lineSpecial_holds⟩
end Go.Proofs.Ytmpmkjlkhlagfaa
#print axioms Go.Proofs.Ytmpmkjlkhlagfaa.line_all
