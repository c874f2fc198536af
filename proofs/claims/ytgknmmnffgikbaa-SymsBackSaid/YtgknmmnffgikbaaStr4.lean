/-
  Tables of names are built: the reference's Build, walked.
-/
import Derived.Test.YtgknmmnffgikbaaStr3
namespace Go.Proofs.Ytgknmmnffgikbaa
open Go.RowKit Go.Fd

/-- How far the names have been looked at for an equal one: none so far, or its place. -/
def Sought (names : List (List UInt8)) (out : List Nat) (s : List UInt8) (k : Nat) (z : Int) : Prop :=
  (z = -1 ∧ ∀ j, j < k → names[j]? ≠ some s) ∨ (∃ (j p : Nat), names[j]? = some s ∧ out[j]? = some p ∧ z = (p : Int))

theorem below_drewN {B : Nat} {a w : World} (h : Below B a w) (n : Nat) : Below B a (w.drewN n) := ⟨h.os, h.tape, h.output, h.size, h.block⟩

set_option maxRecDepth 100000 in
set_option maxHeartbeats 2000000 in
theorem ref3Build_any (names : List (List UInt8)) (v : Value) (w : World) (hn : names.length ≤ 100000) (hs : ∀ s ∈ names, s.length ≤ 9223372036854775807) (hv : Rd S w v names) :
    Calls Try.prog 20 #[v] w fun e w' => ∃ v1 v2, e = .returned (.tuple #[v1, v2, .int .i64 (buildR names).2.2]) ∧ OB w' w.heap.size v1 (buildR names).1 ∧ Ow I64 3 w' w.heap.size v2 (buildR names).2.1 ∧ Below w.heap.size w w' := by
  have HV := Lib.hid hv
  have HSL := Lib.hid hs
  obtain ⟨m, ad, cap, hm, rfl, hmc, _⟩ := hv.shape
  have hm' : m ≤ 100000 := by have := hm.out; omega
  clear hs hv
  go_enter Try.func20, Try.ntmps20
  go_wp2
  have hba := below_alloc w (.cells #[.int .u8 0] 5)
  have HOB := Lib.hid (show OB (w.alloc (.cells #[.int .u8 0] 5)) w.heap.size (.slice (some ⟨w.heap.size, 0, none⟩) 1 1) [0] from ob_lit w [0] _ 1 rfl rfl (by omega))
  obtain ⟨w1, hw1⟩ : ∃ w1, w1 = w.alloc (.cells #[.int .u8 0] 5) := ⟨_, rfl⟩
  rw [← hw1] at hba HOB
  have HBA := Lib.hid hba
  have hcell1 : ∀ k, k < m → ∃ b off, Hid (ad = some ⟨b, off, none⟩) ∧ w.cell? ⟨b, off + k, none⟩ = some (S (names[k]?.getD [])) := fun k hk => by
    obtain ⟨ad', cap', e1, _, _, hc⟩ := HV.out.open []
    simp only [Value.slice.injEq] at e1
    obtain ⟨rfl, -, rfl⟩ := e1
    exact hc k (by have := hm.out; omega)
  have HC1 := Lib.hid hcell1
  rw [← hw1]
  clear hcell1 hw1 hba
  go_loop [7] (fun i => ∃ k : Nat, i = .int .i64 k ∧ k ≤ m ∧ Hid ((names.take k).all mayS = true)) (fun i => m - (intOf i).toNat)
  case atStart => exact ⟨0, rfl, Nat.zero_le _, rfl⟩
  case round =>
    obtain ⟨k, rfl, hk, HALL⟩ := hrel
    by_cases hlt : k < m
    · obtain ⟨b, off, had, hcell0⟩ := HC1.out k hlt
      obtain rfl := had.out
      have hcell := (HBA.out.cell (block_lt hcell0)).trans hcell0
      clear hcell0
      have HT := Lib.hid (take_snoc' names k (names[k]?.getD []) (by rw [List.getElem?_eq_getElem (by have := hm.out; omega)]; rfl))
      have HSL2 := Lib.hid (show (names[k]?.getD []).length ≤ 9223372036854775807 by rw [List.getElem?_eq_getElem (by have := hm.out; omega)]; exact HSL.out _ (List.getElem_mem _))
      generalize names[k]?.getD [] = s at *
      have HC := Lib.hid (ref3May_any s w1 HSL2.out)
      cases hmay : mayS s with
      | false =>
        have HR := Lib.hid (show buildR names = ([], [], 7) by
          unfold buildR
          rw [if_neg]
          intro hall
          have h1 : (names.take (k + 1)).all mayS = true := by
            rw [List.all_eq_true] at hall ⊢
            exact fun x hx => hall x (List.mem_of_mem_take hx)
          rw [HT.out, List.all_append] at h1
          simp [hmay] at h1)
        rw [hmay] at HC
        clear hmay
        go_wp2_with (go_at_call 57; go_must (refine HC.out.mono ?_; rintro e w2 ⟨rfl, rfl⟩))
        go_ret3
        rw [HR.out]
        exact ⟨_, _, rfl, OB.nil _ _, Ow.nil _ _ _ _, HBA.out⟩
      | true =>
        have HALL2 := Lib.hid (show (names.take (k + 1)).all mayS = true by rw [HT.out, List.all_append, HALL.out]; simp [hmay])
        rw [hmay] at HC
        clear hmay
        go_wp2_with (go_at_call 57; go_must (refine HC.out.mono ?_; rintro e w2 ⟨rfl, rfl⟩))
        go_round
        case rel => exact ⟨k + 1, by go_num, by omega, HALL2.out⟩
        case measure => simp [intOf] <;> omega
    · have hkm : k = m := by omega
      have HALLN := Lib.hid (show names.all mayS = true by have := HALL.out; rw [hkm, hm.out, List.take_length] at this; exact this)
      clear hkm HALL
      go_wp2
      go_loopw [5, 6, 8] (fun vt vl i wr => ∃ k : Nat, i = .int .i64 k ∧ k ≤ m ∧ Hid ((buildT (names.take k)).tab.length ≤ 1048576) ∧ Hid (OB wr w.heap.size vt (buildT (names.take k)).tab) ∧ Hid (Ow I64 3 wr w.heap.size vl (buildT (names.take k)).out) ∧
        Hid (Below w.heap.size w wr) ∧ Hid (Below w.heap.size w1 wr)) (fun _ _ i _ => m - (intOf i).toNat)
      case atStart => exact ⟨0, rfl, Nat.zero_le _, (by decide : startB.tab.length ≤ 1048576), HOB.out, Ow.nil _ _ _ _, HBA.out, Below.refl _ _⟩
      case round =>
        obtain ⟨k, rfl, hk, HLT, HOW, HOL, HB, HB1⟩ := hrel
        obtain ⟨wo, rfl⟩ : ∃ wo : World, wo = wr := ⟨_, rfl⟩
        by_cases hlt : k < m
        · obtain ⟨b, off, had, hcell0⟩ := HC1.out k hlt
          obtain rfl := had.out
          have hcell := (HB.out.cell (block_lt hcell0)).trans hcell0
          clear hcell0
          have HNK := Lib.hid (show names[k]? = some (names[k]?.getD []) by rw [List.getElem?_eq_getElem (by have := hm.out; omega)]; rfl)
          have HT := Lib.hid (take_snoc' names k (names[k]?.getD []) HNK.out)
          have HMY := Lib.hid (show mayS (names[k]?.getD []) = true by rw [List.getElem?_eq_getElem (by have := hm.out; omega)]; exact List.all_eq_true.1 HALLN.out _ (List.getElem_mem _))
          have HLEN := Lib.hid (buildT_len (names.take k) (fun x hx => mayS_len (List.all_eq_true.1 HALLN.out x (List.mem_of_mem_take hx))))
          have HKL := Lib.hid (show (names.take k).length = k by rw [List.length_take]; have := hm.out; omega)
          have HBT := Lib.hid (show buildT (names.take (k + 1)) = stepB (buildT (names.take k)) (names[k]?.getD []) by rw [HT.out, buildT_snoc])
          have HPL := Lib.hid (build_places (names.take k))
          generalize names[k]?.getD [] = s at *
          have hlenO : (buildT (names.take k)).out.length ≤ 100000 := by have := HLEN.out.2.1; have := HKL.out; omega
          have HLO := Lib.hid hlenO
          have hBo := HB.out.size
          have hls := mayS_len HMY.out
          clear hlenO
          by_cases hnil : s = []
          · subst hnil
            go_wp2_with (((with_reducible show wpList _ _ _ (⟨some 37, _, _, _, _, _⟩ :: _) _ _); go_must (refine wpList_pushE TI HOL.out rfl rfl 0 rfl rfl (by have := HLO.out; omega) (by omega) hBo ?_; intro v3 w3 hv3 hg3 hb3)))
            have ht : buildT (names.take (k + 1)) = ⟨(buildT (names.take k)).tab, (buildT (names.take k)).at_, (buildT (names.take k)).out ++ [0]⟩ := by
              rw [HBT.out]; unfold stepB; rw [HPL.out.2.2.2]
            have G1 : Hid (OB w3 w.heap.size u5 (buildT (names.take (k + 1))).tab) := by rw [ht]; exact owns_grown HOW.out hg3 (fun q hq h => own_apart HOW.out HOL.out (by decide) hq h)
            have G2 : Hid (Ow I64 3 w3 w.heap.size v3 (buildT (names.take (k + 1))).out) := by rw [ht]; exact hv3
            have G3 : Hid ((buildT (names.take (k + 1))).tab.length ≤ 1048576) := by rw [ht]; exact HLT.out
            have G4 := Lib.hid (HB.out.trans hb3)
            have G5 := Lib.hid (HB1.out.trans hb3)
            clear ht
            go_roundw
            case rel =>
              first
                | exact ⟨k + 1, by go_num, by omega, G3.out, G1.out, G2.out, G4.out, G5.out⟩
                | ((repeat apply Exists.intro); exact ⟨⟨k + 1, by go_num, by omega, G3.out, G1.out, G2.out, G4.out, G5.out⟩, rfl⟩)
            case measure => simp [intOf] <;> omega
          · obtain ⟨mt, vta, capt, hmt, rfl, _, _⟩ := HOW.out.shape
            have hne : s.isEmpty = false := by simpa using hnil
            have HNN := Lib.hid hnil
            clear hnil
            go_wp2
            go_loopw [9, 10] (fun pv iv wr => ∃ (z : Int) (j : Nat), pv = .int .i64 z ∧ iv = .int .i64 j ∧ j ≤ k ∧ -1 ≤ z ∧ z ≤ 100000000 ∧ Hid (Sought (names.take k) (buildT (names.take k)).out s j z) ∧ Hid (Below wo.heap.size wo wr)) (fun _ iv _ => k - (intOf iv).toNat)
            case atStart => exact ⟨-1, 0, rfl, rfl, Nat.zero_le _, by omega, by omega, .inl ⟨rfl, fun j h => by omega⟩, Below.refl _ _⟩
            case round =>
              obtain ⟨z, j, rfl, rfl, hj, hz1, hz2, HSO, HBI⟩ := hrel
              by_cases hjk : j < k
              · by_cases hz : z < 0
                · obtain ⟨bj, offj, hadj, hcj0⟩ := HC1.out j (by omega)
                  cases hadj.out
                  have hbw := HB.out.trans (HBI.out.mono hBo)
                  have hcj := (hbw.cell (block_lt hcj0)).trans hcj0
                  have hck := (HBI.out.cell (block_lt hcell)).trans hcell
                  have HNJ := Lib.hid (show names[j]? = some (names[j]?.getD []) by rw [List.getElem?_eq_getElem (by have := hm.out; omega)]; rfl)
                  have hjo : j < (buildT (names.take k)).out.length := by have := HLEN.out.2.1; have := HKL.out; omega
                  clear hcj0 hbw
                  generalize names[j]?.getD [] = s2 at *
                  by_cases he : s2 = s
                  · have hb : (s2 == s) = true := by simpa using he
                    have HE := Lib.hid he
                    clear he
                    obtain ⟨g, capo, rfl, _, _, _, hoc, _⟩ := (HOL.out.mono HBI.out).open 0 (by omega)
                    have hcp := hoc j hjo
                    have HPJ := Lib.hid (show (buildT (names.take k)).out[j]? = some ((buildT (names.take k)).out[j]?.getD 0) by rw [List.getElem?_eq_getElem hjo]; rfl)
                    generalize (buildT (names.take k)).out[j]?.getD 0 = p at *
                    have hpb : p ≤ 1048576 := Nat.le_trans ((build_bound _).1 p (List.mem_of_getElem? HPJ.out)) HLT.out
                    clear hoc
                    go_wp2
                    go_quiet (fail)
                    go_wp2
                    go_roundw
                    case rel =>
                      have GS : Sought (names.take k) (buildT (names.take k)).out s (j + 1) p := .inr ⟨j, p, by rw [List.getElem?_take, if_pos hjk, HNJ.out, HE.out], HPJ.out, rfl⟩
                      first
                        | exact ⟨(p : Int), j + 1, rfl, by go_num, by omega, by omega, by omega, GS, below_drewN HBI.out _⟩
                        | ((repeat apply Exists.intro); exact ⟨⟨(p : Int), j + 1, rfl, by go_num, by omega, by omega, by omega, GS, below_drewN HBI.out _⟩, rfl⟩)
                    case measure => simp [intOf] <;> omega
                  · have hb : (s2 == s) = false := by simpa using he
                    have HE := Lib.hid he
                    clear he
                    go_wp2
                    go_quiet (fail)
                    go_wp2
                    go_roundw
                    case rel =>
                      have GS : Sought (names.take k) (buildT (names.take k)).out s (j + 1) z := by
                        rcases HSO.out with ⟨h0, h1⟩ | ⟨j', p, _, _, g3⟩
                        · refine .inl ⟨h0, fun q hq hn => ?_⟩
                          by_cases e : q = j
                          · subst e
                            rw [List.getElem?_take, if_pos hjk, HNJ.out] at hn
                            exact HE.out (Option.some.inj hn)
                          · exact h1 q (by omega) hn
                        · omega
                      first
                        | exact ⟨z, j + 1, rfl, by go_num, by omega, hz1, hz2, GS, below_drewN HBI.out _⟩
                        | ((repeat apply Exists.intro); exact ⟨⟨z, j + 1, rfl, by go_num, by omega, hz1, hz2, GS, below_drewN HBI.out _⟩, rfl⟩)
                    case measure => simp [intOf] <;> omega
                · skip
                  have HSR : Hid (∃ p : Nat, z = (p : Int) ∧ lkp (buildT (names.take k)).at_ s = some p) := by
                    rcases HSO.out with ⟨h, _⟩ | ⟨j', p, g1, g2, g3⟩
                    · omega
                    · exact ⟨p, g3, HPL.out.2.1 j' s p g1 g2⟩
                  obtain ⟨p, hp, hlk⟩ := HSR.out
                  have HPZ := Lib.hid hp
                  have ht : buildT (names.take (k + 1)) = ⟨(buildT (names.take k)).tab, (buildT (names.take k)).at_, (buildT (names.take k)).out ++ [p]⟩ := by
                    rw [HBT.out]; unfold stepB; rw [hlk]
                  have HTT := Lib.hid ht
                  clear hp hlk ht HSR
                  have HOWr := Lib.hid (HOW.out.mono HBI.out)
                  have HOLr := Lib.hid (HOL.out.mono HBI.out)
                  have hBr : w.heap.size ≤ wr.heap.size := Nat.le_trans hBo HBI.out.size
                  have hmtb : mt ≤ 1048576 := by have := hmt.out; have := HLT.out; omega
                  go_wp2_with (((with_reducible show wpList _ _ _ (⟨some 76, _, _, _, _, _⟩ :: _) _ _); go_must (refine wpList_pushE TI HOLr.out rfl rfl p (congrArg (Value.int .i64) HPZ.out) rfl (by have := HLO.out; omega) (by omega) hBr ?_; intro v3 w3 hv3 hg3 hb3)))
                  have G1 : Hid (OB w3 w.heap.size (.slice vta mt capt) (buildT (names.take (k + 1))).tab) := by rw [HTT.out]; exact owns_grown HOWr.out hg3 (fun q hq h => own_apart HOWr.out HOLr.out (by decide) hq h)
                  have G2 : Hid (Ow I64 3 w3 w.heap.size v3 (buildT (names.take (k + 1))).out) := by rw [HTT.out]; exact hv3
                  have G3 : Hid ((buildT (names.take (k + 1))).tab.length ≤ 1048576) := by rw [HTT.out]; exact HLT.out
                  have G4 := Lib.hid ((HB.out.trans (HBI.out.mono hBo)).trans hb3)
                  have G5 := Lib.hid ((HB1.out.trans (HBI.out.mono hBo)).trans hb3)
                  go_roundw
                  case rel =>
                    first
                      | exact ⟨k + 1, by go_num, by omega, G3.out, G1.out, G2.out, G4.out, G5.out⟩
                      | ((repeat apply Exists.intro); exact ⟨⟨k + 1, by go_num, by omega, G3.out, G1.out, G2.out, G4.out, G5.out⟩, rfl⟩)
                  case measure => simp [intOf] <;> omega
              · have hjk2 : j = k := by omega
                have HJK := Lib.hid hjk2
                clear hjk2
                by_cases hz : z < 0
                · skip
                  have HSR : Hid (lkp (buildT (names.take k)).at_ s = none) := by
                    rcases HSO.out with ⟨_, h⟩ | ⟨j', p, g1, g2, g3⟩
                    · refine HPL.out.2.2.1 s (fun hm => ?_) HNN.out
                      obtain ⟨q, hq, e⟩ := List.getElem_of_mem hm
                      exact h q (by have := HKL.out; have := HJK.out; omega) (by rw [← e]; exact List.getElem?_eq_getElem hq)
                    · omega
                  have ht : buildT (names.take (k + 1)) = ⟨(buildT (names.take k)).tab ++ s ++ [0], (buildT (names.take k)).at_ ++ [(s, (buildT (names.take k)).tab.length)], (buildT (names.take k)).out ++ [(buildT (names.take k)).tab.length]⟩ := by
                    rw [HBT.out]; unfold stepB; rw [HSR.out]
                  have HTT := Lib.hid ht
                  clear ht HSR
                  have HOWr := Lib.hid (HOW.out.mono HBI.out)
                  have HOLr := Lib.hid (HOL.out.mono HBI.out)
                  have hBr : w.heap.size ≤ wr.heap.size := Nat.le_trans hBo HBI.out.size
                  have hmtb : mt ≤ 1048576 := by have := hmt.out; have := HLT.out; omega
                  have hck := (HBI.out.cell (block_lt hcell)).trans hcell
                  go_wp2_with (first
                    | ((with_reducible show wpList _ _ _ (⟨some 69, _, _, _, _, _⟩ :: _) _ _); go_must (refine wpList_catS HOWr.out rfl rfl (by have := HLT.out; omega) hBr ?_; intro v3 w3 hv3 hg3 hb3; have HO3 := Lib.hid hv3; have HL3 := Lib.hid (show Ow I64 3 w3 w.heap.size u6 (buildT (names.take k)).out from owns_grown HOLr.out hg3 (fun q hq h => own_apart HOLr.out HOWr.out (by decide) hq h)); have hB3 : w.heap.size ≤ w3.heap.size := Nat.le_trans hBr hg3.size; clear hv3 hg3))
                    | ((with_reducible show wpList _ _ _ (⟨some 72, _, _, _, _, _⟩ :: _) _ _); go_must (refine wpList_pushB HO3.out rfl rfl 0 rfl (by have := HLT.out; simp; omega) hB3 ?_; intro v4 w4 hv4 hg4 hb4; have HO4 := Lib.hid hv4; have HL4 := Lib.hid (show Ow I64 3 w4 w.heap.size u6 (buildT (names.take k)).out from owns_grown HL3.out hg4 (fun q hq h => own_apart HL3.out HO3.out (by decide) hq h)); have hB4 : w.heap.size ≤ w4.heap.size := Nat.le_trans hB3 hg4.size; obtain ⟨mt4, vta4, capt4, hmt4, rfl, _, _⟩ := HO4.out.shape; clear hv4 hg4))
                    | ((with_reducible show wpList _ _ _ (⟨some 76, _, _, _, _, _⟩ :: _) _ _); go_must (refine wpList_pushE TI HL4.out rfl rfl mt rfl rfl (by have := HLO.out; omega) (by omega) hB4 ?_; intro v5 w5 hv5 hg5 hb5)))
                  all_goals
                    have G1 : Hid (OB w5 w.heap.size (.slice vta4 mt4 capt4) (buildT (names.take (k + 1))).tab) := by rw [HTT.out]; exact owns_grown HO4.out hg5 (fun q hq h => own_apart HO4.out HL4.out (by decide) hq h)
                    have G2 : Hid (Ow I64 3 w5 w.heap.size v5 (buildT (names.take (k + 1))).out) := by rw [HTT.out, ← hmt.out]; exact hv5
                    have G4 := Lib.hid ((HB.out.trans (HBI.out.mono hBo)).trans (hb3.trans (hb4.trans hb5)))
                    have G5 := Lib.hid ((HB1.out.trans (HBI.out.mono hBo)).trans (hb3.trans (hb4.trans hb5)))
                    have HM4 := Lib.hid (show mt4 = (buildT (names.take (k + 1))).tab.length by rw [HTT.out]; exact hmt4.out)
                    first
                      | (have hbig : 1048576 < mt4 := by omega
                         have HR := Lib.hid (show buildR names = ([], [], 6) by
                           unfold buildR
                           rw [if_pos HALLN.out, if_pos]
                           have h1 := build_mono (names.take (k + 1)) (names.drop (k + 1))
                           rw [List.take_append_drop] at h1
                           have := HM4.out
                           omega)
                         go_ret3
                         rw [HR.out]
                         exact ⟨_, _, rfl, OB.nil _ _, Ow.nil _ _ _ _, G4.out⟩)
                      | (have G3 : Hid ((buildT (names.take (k + 1))).tab.length ≤ 1048576) := by
                           have := HM4.out
                           show _ ≤ _
                           omega
                         go_roundw
                         case rel =>
                           first
                             | exact ⟨k + 1, by go_num, by omega, G3.out, G1.out, G2.out, G4.out, G5.out⟩
                             | ((repeat apply Exists.intro); exact ⟨⟨k + 1, by go_num, by omega, G3.out, G1.out, G2.out, G4.out, G5.out⟩, rfl⟩)
                         case measure => simp [intOf] <;> omega)
                · skip
                  have HSR : Hid (∃ p : Nat, z = (p : Int) ∧ lkp (buildT (names.take k)).at_ s = some p) := by
                    rcases HSO.out with ⟨h, _⟩ | ⟨j', p, g1, g2, g3⟩
                    · omega
                    · exact ⟨p, g3, HPL.out.2.1 j' s p g1 g2⟩
                  obtain ⟨p, hp, hlk⟩ := HSR.out
                  have HPZ := Lib.hid hp
                  have ht : buildT (names.take (k + 1)) = ⟨(buildT (names.take k)).tab, (buildT (names.take k)).at_, (buildT (names.take k)).out ++ [p]⟩ := by
                    rw [HBT.out]; unfold stepB; rw [hlk]
                  have HTT := Lib.hid ht
                  clear hp hlk ht HSR
                  have HOWr := Lib.hid (HOW.out.mono HBI.out)
                  have HOLr := Lib.hid (HOL.out.mono HBI.out)
                  have hBr : w.heap.size ≤ wr.heap.size := Nat.le_trans hBo HBI.out.size
                  have hmtb : mt ≤ 1048576 := by have := hmt.out; have := HLT.out; omega
                  go_wp2_with (((with_reducible show wpList _ _ _ (⟨some 76, _, _, _, _, _⟩ :: _) _ _); go_must (refine wpList_pushE TI HOLr.out rfl rfl p (congrArg (Value.int .i64) HPZ.out) rfl (by have := HLO.out; omega) (by omega) hBr ?_; intro v3 w3 hv3 hg3 hb3)))
                  have G1 : Hid (OB w3 w.heap.size (.slice vta mt capt) (buildT (names.take (k + 1))).tab) := by rw [HTT.out]; exact owns_grown HOWr.out hg3 (fun q hq h => own_apart HOWr.out HOLr.out (by decide) hq h)
                  have G2 : Hid (Ow I64 3 w3 w.heap.size v3 (buildT (names.take (k + 1))).out) := by rw [HTT.out]; exact hv3
                  have G3 : Hid ((buildT (names.take (k + 1))).tab.length ≤ 1048576) := by rw [HTT.out]; exact HLT.out
                  have G4 := Lib.hid ((HB.out.trans (HBI.out.mono hBo)).trans hb3)
                  have G5 := Lib.hid ((HB1.out.trans (HBI.out.mono hBo)).trans hb3)
                  go_roundw
                  case rel =>
                    first
                      | exact ⟨k + 1, by go_num, by omega, G3.out, G1.out, G2.out, G4.out, G5.out⟩
                      | ((repeat apply Exists.intro); exact ⟨⟨k + 1, by go_num, by omega, G3.out, G1.out, G2.out, G4.out, G5.out⟩, rfl⟩)
                  case measure => simp [intOf] <;> omega
        · have hkm : k = m := by omega
          have HKM := Lib.hid (show names.take k = names by rw [hkm, hm.out, List.take_length])
          rw [HKM.out] at HOW HOL HLT
          have HR := Lib.hid (show buildR names = ((buildT names).tab, (buildT names).out, 0) by unfold buildR; rw [if_pos HALLN.out, if_neg (by have := HLT.out; omega)])
          clear hkm
          go_wp2
          go_ret3
          rw [HR.out]
          exact ⟨_, _, rfl, HOW.out, HOL.out, HB.out⟩
end Go.Proofs.Ytgknmmnffgikbaa
