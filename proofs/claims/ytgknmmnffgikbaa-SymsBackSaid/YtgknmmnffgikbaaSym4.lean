/-
  Relocations as bytes: the reference's writing.
-/
import Derived.Test.YtgknmmnffgikbaaSym3
namespace Go.Proofs.Ytgknmmnffgikbaa
open Go.RowKit Go.Fd

theorem fixed2_any (n : Nat) {z : Int} (w : World) (hz : z = (n : Int)) (hn : n < 18446744073709551616) :
    Calls Try.prog 62 #[.int .u64 z, .int .i64 2] w fun e w' => ∃ v, e = .returned v ∧ OB w' w.heap.size v (fixed n 2) ∧ Below w.heap.size w w' := by
  subst hz
  exact fixed_any n 2 w hn (by decide)
theorem fixed4_any (n : Nat) {z : Int} (w : World) (hz : z = (n : Int)) (hn : n < 18446744073709551616) :
    Calls Try.prog 62 #[.int .u64 z, .int .i64 4] w fun e w' => ∃ v, e = .returned v ∧ OB w' w.heap.size v (fixed n 4) ∧ Below w.heap.size w w' := by
  subst hz
  exact fixed_any n 4 w hn (by decide)
theorem fixed8_any (n : Nat) {z : Int} (w : World) (hz : z = (n : Int)) (hn : n < 18446744073709551616) :
    Calls Try.prog 62 #[.int .u64 z, .int .i64 8] w fun e w' => ∃ v, e = .returned v ∧ OB w' w.heap.size v (fixed n 8) ∧ Below w.heap.size w w' := by
  subst hz
  exact fixed_any n 8 w hn (by decide)

set_option maxHeartbeats 1000000 in
set_option maxRecDepth 100000 in
theorem ref5WriteRela_any (l : List RelaM) (v : Value) (w : World) (hl : l.length ≤ 1000) (hwf : ∀ r ∈ l, r.off < 18446744073709551616) (hv : RdR 4 encRela w v l) :
    Calls Try.prog 30 #[v] w fun e w' => ∃ v', e = .returned (.tuple #[v', .int .i64 (relaW l).2]) ∧ OB w' w.heap.size v' (relaW l).1 ∧ Below w.heap.size w w' := by
  obtain ⟨a, ca, rfl, hca, -, hc⟩ := hv.open (fun _ => rfl)
  have HC := Lib.hid hc
  have HWF := Lib.hid hwf
  obtain ⟨nl, hnl⟩ : ∃ n, n = l.length := ⟨_, rfl⟩
  rw [← hnl] at hl hca ⊢
  have HL := Lib.hid hnl
  clear hc hv hnl hwf
  go_enter Try.func30, Try.ntmps30
  go_wp2
  go_loopw [4] (fun i wr => ∃ k : Nat, i = .int .i64 k ∧ k ≤ nl ∧ Hid ((l.take k).any relaBad = false) ∧ Hid (Below w.heap.size w wr)) (fun i _ => nl - (intOf i).toNat)
  case atStart => exact ⟨0, rfl, Nat.zero_le _, by simp [Hid], Below.refl _ _⟩
  case round =>
    obtain ⟨k, rfl, hk, HT, HB⟩ := hrel
    by_cases hlt : k < nl
    · have X1 := Lib.hid (show l[k]? = some (l[k]'(by have := HL.out; omega)) from List.getElem?_eq_getElem _)
      generalize l[k]'(by have := HL.out; omega) = x at *
      obtain ⟨b1, o1, ha, hc1⟩ := HC.out k x X1.out (by decide)
      subst ha
      have hd1 : ∀ c v, (encRela x)[c]? = some v → wr.cell? ⟨b1, o1 + k * 4 + c, none⟩ = some v := fun c v h => by
        have h6 : c < 4 := (List.getElem?_eq_some_iff.1 h).1
        have := (hc1 c h6).trans h
        rw [← Nat.add_assoc] at this
        exact (HB.out.cell (block_lt this)).trans this
      have c10 := hd1 0 _ rfl
      have c11 := hd1 1 _ rfl
      have c12 := hd1 2 _ rfl
      have c13 := hd1 3 _ rfl
      rw [Nat.add_zero] at c10
      clear hc1 hd1
      by_cases h1 : x.typ < 0
      · have HR := Lib.hid (rela_bad X1.out (show relaBad x = true by unfold relaBad; simp; omega))
        go_wp2
        go_ret2
        exact ⟨_, by rw [HR.out]; rfl, by rw [HR.out]; exact OB.nil _ _, HB.out⟩
      by_cases h2 : 4294967295 < x.typ
      · have HR := Lib.hid (rela_bad X1.out (show relaBad x = true by unfold relaBad; simp; omega))
        go_wp2
        go_ret2
        exact ⟨_, by rw [HR.out]; rfl, by rw [HR.out]; exact OB.nil _ _, HB.out⟩
      by_cases h3 : x.sym < 0
      · have HR := Lib.hid (rela_bad X1.out (show relaBad x = true by unfold relaBad; simp; omega))
        go_wp2
        go_ret2
        exact ⟨_, by rw [HR.out]; rfl, by rw [HR.out]; exact OB.nil _ _, HB.out⟩
      by_cases h4 : 2147483647 < x.sym
      · have HR := Lib.hid (rela_bad X1.out (show relaBad x = true by unfold relaBad; simp; omega))
        go_wp2
        go_ret2
        exact ⟨_, by rw [HR.out]; rfl, by rw [HR.out]; exact OB.nil _ _, HB.out⟩
      have HN := Lib.hid (rela_step X1.out HT.out (by unfold relaBad; simp; omega))
      go_wp2
      go_roundw
      case rel =>
        first
          | exact ⟨k + 1, by go_num, by omega, HN.out, HB.out⟩
          | ((repeat apply Exists.intro); exact ⟨⟨k + 1, by go_num, by omega, HN.out, HB.out⟩, rfl⟩)
      case measure => simp [intOf] <;> omega
    · have HR := Lib.hid (rela_done (by have := HL.out; omega) HT.out)
      clear HT
      go_wp2
      go_loopw [5, 6] (fun v i wr => ∃ k : Nat, i = .int .i64 k ∧ k ≤ nl ∧ Hid (OB wr w.heap.size v ((l.take k).flatMap relaB)) ∧ Hid (Below w.heap.size w wr)) (fun _ i _ => nl - (intOf i).toNat)
      case atStart => exact ⟨0, rfl, Nat.zero_le _, OB.nil _ _, HB.out⟩
      case round =>
        obtain ⟨k, rfl, hk, HO, HB⟩ := hrel
        by_cases hlt : k < nl
        · have X1 := Lib.hid (show l[k]? = some (l[k]'(by have := HL.out; omega)) from List.getElem?_eq_getElem _)
          generalize l[k]'(by have := HL.out; omega) = x at *
          obtain ⟨b1, o1, ha, hc1⟩ := HC.out k x X1.out (by decide)
          subst ha
          have HD : Hid (∀ wx, Below w.heap.size w wx → ∀ c v, (encRela x)[c]? = some v → wx.cell? ⟨b1, o1 + k * 4 + c, none⟩ = some v) := fun wx hx c v h => by
            have h6 : c < 4 := (List.getElem?_eq_some_iff.1 h).1
            have := (hc1 c h6).trans h
            rw [← Nat.add_assoc] at this
            exact (hx.cell (block_lt this)).trans this
          clear hc1
          have HF := Lib.hid (flat_step (f := relaB) X1.out)
          have HTL := Lib.hid (show ((l.take k).flatMap relaB).length ≤ 24000 by rw [rela_len, List.length_take]; omega)
          have HOF := Lib.hid (HWF.out x (List.mem_of_getElem? X1.out))
          have HT1 := Lib.hid (u64of_cast x.typ)
          have HT2 := Lib.hid (u64of_cast x.sym)
          have HT3 := Lib.hid (u64of_cast x.add)
          generalize (l.take k).flatMap relaB = T at *
          have c0 := HD.out _ HB.out 0 _ rfl
          rw [Nat.add_zero] at c0
          go_wp2_with fail
          refine (fixed8_any x.off _ rfl HOF.out).mono ?_
          rintro e wa0 ⟨f0, rfl, hf0, hba0⟩
          have HOa0 := Lib.hid (HO.out.mono hba0)
          have HFa0 := Lib.hid hf0
          have HBa0 := Lib.hid (HB.out.trans (hba0.mono HB.out.size))
          clear hf0 hba0 c0
          go_wp2_with ((with_reducible show wpList _ _ _ (⟨some 59, _, _, _, _, _⟩ :: _) _ _); go_must (refine wpList_catB HOa0.out HFa0.out.bs rfl rfl (by have := HTL.out; simp [length_fixed]; omega) HBa0.out.size ?_; intro vb0 wb0 hb0 _ hbb0; have HOb0 := Lib.hid hb0; have HBb0 := Lib.hid (HBa0.out.trans hbb0); clear hb0 hbb0; have c1 := HD.out _ HBb0.out 1 _ rfl))
          refine (fixed4_any (u64of x.typ) _ HT1.out (u64of_lt _)).mono ?_
          rintro e wa1 ⟨f1, rfl, hf1, hba1⟩
          have HOa1 := Lib.hid (HOb0.out.mono hba1)
          have HFa1 := Lib.hid hf1
          have HBa1 := Lib.hid (HBb0.out.trans (hba1.mono HBb0.out.size))
          clear hf1 hba1 c1
          go_wp2_with ((with_reducible show wpList _ _ _ (⟨some 68, _, _, _, _, _⟩ :: _) _ _); go_must (refine wpList_catB HOa1.out HFa1.out.bs rfl rfl (by have := HTL.out; simp [length_fixed]; omega) HBa1.out.size ?_; intro vb1 wb1 hb1 _ hbb1; have HOb1 := Lib.hid hb1; have HBb1 := Lib.hid (HBa1.out.trans hbb1); clear hb1 hbb1; have c2 := HD.out _ HBb1.out 2 _ rfl))
          refine (fixed4_any (u64of x.sym) _ HT2.out (u64of_lt _)).mono ?_
          rintro e wa2 ⟨f2, rfl, hf2, hba2⟩
          have HOa2 := Lib.hid (HOb1.out.mono hba2)
          have HFa2 := Lib.hid hf2
          have HBa2 := Lib.hid (HBb1.out.trans (hba2.mono HBb1.out.size))
          clear hf2 hba2 c2
          go_wp2_with ((with_reducible show wpList _ _ _ (⟨some 77, _, _, _, _, _⟩ :: _) _ _); go_must (refine wpList_catB HOa2.out HFa2.out.bs rfl rfl (by have := HTL.out; simp [length_fixed]; omega) HBa2.out.size ?_; intro vb2 wb2 hb2 _ hbb2; have HOb2 := Lib.hid hb2; have HBb2 := Lib.hid (HBa2.out.trans hbb2); clear hb2 hbb2; have c3 := HD.out _ HBb2.out 3 _ rfl))
          refine (fixed8_any (u64of x.add) _ HT3.out (u64of_lt _)).mono ?_
          rintro e wa3 ⟨f3, rfl, hf3, hba3⟩
          have HOa3 := Lib.hid (HOb2.out.mono hba3)
          have HFa3 := Lib.hid hf3
          have HBa3 := Lib.hid (HBb2.out.trans (hba3.mono HBb2.out.size))
          clear hf3 hba3 c3
          go_wp2_with ((with_reducible show wpList _ _ _ (⟨some 86, _, _, _, _, _⟩ :: _) _ _); go_must (refine wpList_catB HOa3.out HFa3.out.bs rfl rfl (by have := HTL.out; simp [length_fixed]; omega) HBa3.out.size ?_; intro vb3 wb3 hb3 _ hbb3; have HOb3 := Lib.hid hb3; have HBb3 := Lib.hid (HBa3.out.trans hbb3); clear hb3 hbb3))
          have G1 : Hid (OB wb3 w.heap.size vb3 ((l.take (k + 1)).flatMap relaB)) := by
            rw [HF.out]
            show OB wb3 w.heap.size vb3 (T ++ relaB x)
            unfold relaB
            simpa [List.append_assoc] using HOb3.out
          go_roundw
          case rel =>
            first
              | exact ⟨k + 1, by go_num, by omega, G1.out, HBb3.out⟩
              | ((repeat apply Exists.intro); exact ⟨⟨k + 1, by go_num, by omega, G1.out, HBb3.out⟩, rfl⟩)
          case measure => simp [intOf] <;> omega
        · have hkn : k = nl := by omega
          have HE : Hid (OB wr w.heap.size u5 (l.flatMap relaB)) := by
            have := HO.out
            rw [hkn, List.take_of_length_le (by have := HL.out; omega)] at this
            exact this
          clear HO hkn
          go_wp2
          go_ret2
          exact ⟨_, by rw [HR.out]; rfl, by rw [HR.out]; exact HE.out, HB.out⟩
end Go.Proofs.Ytgknmmnffgikbaa
