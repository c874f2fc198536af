/-
  Symbols: in order?
-/
import Derived.Test.YtgknmmnffgikbaaSymP
namespace Go.Proofs.Ytgknmmnffgikbaa
open Go.RowKit Go.Fd

def ordR (l : List SymM) : Nat × Bool := if ordB l = true then (locs l, true) else (0, false)
theorem ordR_bad {l : List SymM} (h : ordB l = false) : ordR l = (0, false) := by unfold ordR; rw [if_neg (by simp [h])]
theorem ordR_ok {l : List SymM} (h : ordB l = true) : ordR l = (locs l, true) := by unfold ordR; rw [if_pos h]

set_option maxHeartbeats 1000000 in
set_option maxRecDepth 100000 in
theorem ordered_any (l : List SymM) (v : Value) (w : World) (hl : l.length ≤ 1000000) (hv : RdR 6 encSym w v l) :
    Calls Try.prog 59 #[v] w fun e w' => e = .returned (.tuple #[.int .i64 ((ordR l).1 : Nat), .bool (ordR l).2]) ∧ Below w.heap.size w w' := by
  obtain ⟨a, ca, rfl, hca, -, hc⟩ := hv.open (fun _ => rfl)
  have HC := Lib.hid hc
  obtain ⟨nl, hnl⟩ : ∃ n, n = l.length := ⟨_, rfl⟩
  rw [← hnl] at hl hca ⊢
  have HL := Lib.hid hnl
  clear hc hv hnl
  go_enter Try.func59, Try.ntmps59
  go_wp2
  go_loopw [4, 9] (fun c i wr => ∃ k n : Nat, i = .int .i64 k ∧ c = .int .i64 n ∧ k ≤ nl ∧ n ≤ k ∧ Hid (n = locs (l.take k)) ∧ Hid (ordB (l.take k) = true) ∧ Hid (Below w.heap.size w wr)) (fun _ i _ => nl - (intOf i).toNat)
  case atStart => exact ⟨0, 0, rfl, rfl, Nat.zero_le _, Nat.le_refl _, rfl, by simp [Hid, ordB], Below.refl _ _⟩
  case round =>
    obtain ⟨k, n, rfl, rfl, hk, hnk, HN, HT, HB⟩ := hrel
    by_cases hlt : k < nl
    · have X1 := Lib.hid (show l[k]? = some (l[k]'(by have := HL.out; omega)) from List.getElem?_eq_getElem _)
      generalize l[k]'(by have := HL.out; omega) = x at *
      obtain ⟨b1, o1, ha, hc1⟩ := HC.out k x X1.out (by decide)
      subst ha
      have hd1 : ∀ c v, (encSym x)[c]? = some v → wr.cell? ⟨b1, o1 + k * 6 + c, none⟩ = some v := fun c v h => by
        have h6 : c < 6 := (List.getElem?_eq_some_iff.1 h).1
        have := (hc1 c h6).trans h
        rw [← Nat.add_assoc] at this
        exact (HB.out.cell (block_lt this)).trans this
      have c10 := hd1 0 _ rfl
      have c11 := hd1 1 _ rfl
      have c12 := hd1 2 _ rfl
      have c13 := hd1 3 _ rfl
      have c14 := hd1 4 _ rfl
      have c15 := hd1 5 _ rfl
      rw [Nat.add_zero] at c10
      clear hc1 hd1
      by_cases h0 : x.bind = 0
      · by_cases hn : n = k
        · have G1 := Lib.hid (locs_step0 X1.out h0)
          have G2 := Lib.hid (ordB_good X1.out HT.out (.inr (by rw [← HN.out]; exact hn)))
          have G3 : Hid (k + 1 = locs (l.take (k + 1))) := by rw [G1.out, ← HN.out, hn]; rfl
          have hz : (x.bind == 0) = true := by simp [h0]
          have H0 := Lib.hid h0
          clear h0 HN
          subst hn
          have hz2 : ((n : Int) + 1 != (n : Int) + 1) = false := by simp
          go_wp2_with (((with_reducible show wpList _ _ _ (⟨none, .store _ _ _, _, _, _, _⟩ :: _) _ _); go_must (refine wpList_storeNew rfl rfl (by kernel_rfl) rfl (by simp [Value.oneCell']) ?_; intro w1 hh1 hb1; have e1 := cell_rec hh1 1; simp only [List.getElem?_toArray, List.getElem?_cons_succ, List.getElem?_cons_zero] at e1)))
          have HB1 := Lib.hid (HB.out.trans (hb1.mono HB.out.size))
          clear hh1 hb1 e1
          go_roundw
          case rel =>
            first
              | exact ⟨n + 1, n + 1, by go_num, by go_num, by omega, by omega, G3.out, G2.out, HB1.out⟩
              | ((repeat apply Exists.intro); exact ⟨⟨n + 1, n + 1, by go_num, by go_num, by omega, by omega, G3.out, G2.out, HB1.out⟩, rfl⟩)
          case measure => simp [intOf] <;> omega
        · have HR := Lib.hid (ordR_bad (ordB_bad X1.out HT.out h0 (by rw [← HN.out]; exact hn)))
          have hz : (x.bind == 0) = true := by simp [h0]
          have hz2 : ((n : Int) + 1 != (k : Int) + 1) = true := by simp; omega
          have H0 := Lib.hid h0
          clear h0 HN
          go_wp2_with (((with_reducible show wpList _ _ _ (⟨none, .store _ _ _, _, _, _, _⟩ :: _) _ _); go_must (refine wpList_storeNew rfl rfl (by kernel_rfl) rfl (by simp [Value.oneCell']) ?_; intro w1 hh1 hb1; have e1 := cell_rec hh1 1; simp only [List.getElem?_toArray, List.getElem?_cons_succ, List.getElem?_cons_zero] at e1)))
          go_ret2
          exact ⟨by rw [HR.out]; rfl, HB.out.trans (hb1.mono HB.out.size)⟩
      · have G1 := Lib.hid (locs_step1 X1.out h0)
        have G2 := Lib.hid (ordB_good X1.out HT.out (.inl h0))
        have G3 : Hid (n = locs (l.take (k + 1))) := by rw [G1.out, ← HN.out]; rfl
        have hz : (x.bind == 0) = false := by simpa using h0
        have H0 := Lib.hid h0
        clear h0
        go_wp2_with (((with_reducible show wpList _ _ _ (⟨none, .store _ _ _, _, _, _, _⟩ :: _) _ _); go_must (refine wpList_storeNew rfl rfl (by kernel_rfl) rfl (by simp [Value.oneCell']) ?_; intro w1 hh1 hb1; have e1 := cell_rec hh1 1; simp only [List.getElem?_toArray, List.getElem?_cons_succ, List.getElem?_cons_zero] at e1)))
        have HB1 := Lib.hid (HB.out.trans (hb1.mono HB.out.size))
        clear hh1 hb1 e1
        go_roundw
        case rel =>
          first
            | exact ⟨k + 1, n, by go_num, rfl, by omega, by omega, G3.out, G2.out, HB1.out⟩
            | ((repeat apply Exists.intro); exact ⟨⟨k + 1, n, by go_num, rfl, by omega, by omega, G3.out, G2.out, HB1.out⟩, rfl⟩)
        case measure => simp [intOf] <;> omega
    · have hkn : l.length ≤ k := by have := HL.out; omega
      have HR : Hid (ordR l = (n, true)) := by
        have h1 := HT.out
        have h2 := HN.out
        rw [List.take_of_length_le hkn] at h1 h2
        rw [ordR_ok h1, h2]; rfl
      clear HT HN hkn
      go_wp2
      go_ret2
      exact ⟨by rw [HR.out]; rfl, HB.out⟩
end Go.Proofs.Ytgknmmnffgikbaa
