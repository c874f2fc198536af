/-
  Symbols as bytes: the reference's writing.
-/
import Derived.Test.YtgknmmnffgikbaaSym9
namespace Go.Proofs.Ytgknmmnffgikbaa
open Go.RowKit Go.Fd

theorem symW_E {l : List SymM} (h : symE l ≠ 0) : symW l = ([], [], 0, symE l) := by
  unfold symW symE at *
  split
  · rfl
  · split
    · rfl
    · next h1 h2 =>
      rw [if_neg h1, if_neg h2] at h
      rw [if_neg h]
theorem symE_0 {l : List SymM} (h : symE l = 0) : l.any symBad = false ∧ (buildR (l.map (·.name))).2.2 = 0 ∧ symW l = (symsB l (buildR (l.map (·.name))).2.1, (buildR (l.map (·.name))).1, locs l + 1, 0) := by
  unfold symE at h
  split at h
  · cases h
  · next h1 =>
    split at h
    · cases h
    · next h2 => exact ⟨by simpa using h1, h, symW_ok (by simpa using h1) (by simpa using h2) h⟩

set_option maxHeartbeats 4000000 in
set_option maxRecDepth 100000 in
theorem ref5Write_any (l : List SymM) (v : Value) (w : World) (hl : l.length ≤ 1000) (hwf : ∀ s ∈ l, s.value < 18446744073709551616 ∧ s.size < 18446744073709551616) (hns : ∀ s ∈ l, s.name.length ≤ 9223372036854775807) (hv : RdR 6 encSym w v l) :
    Calls Try.prog 29 #[v] w fun e w' => ∃ v1 v2, e = .returned (.tuple #[v1, v2, .int .i64 ((symW l).2.2.1 : Nat), .int .i64 (symW l).2.2.2]) ∧ OB w' w.heap.size v1 (symW l).1 ∧ OB w' w.heap.size v2 (symW l).2.1 ∧ Below w.heap.size w w' := by
  obtain ⟨a, ca, rfl, hca, -, hc⟩ := hv.open (fun _ => rfl)
  have HM := Lib.hid (ref5May_any l _ w hl hns hv)
  have HC := Lib.hid hc
  have HWF := Lib.hid hwf
  have HNS := Lib.hid hns
  obtain ⟨nl, hnl⟩ : ∃ n, n = l.length := ⟨_, rfl⟩
  rw [← hnl] at hl hca HM ⊢
  have HL := Lib.hid hnl
  clear hc hv hnl hwf hns
  by_cases hE : symE l = 0
  · obtain ⟨q1, q2, q3⟩ := symE_0 hE
    rw [hE] at HM
    have HBF := Lib.hid q1
    have HLL := Lib.hid (show (l.map (·.name)).length ≤ 1000 by rw [List.length_map]; have := HL.out; omega)
    have HA := Lib.hid (ats_ok q2 HLL.out)
    have HR := Lib.hid q3
    have HBZ := Lib.hid q2
    clear q1 q2 q3 hE
    go_enter Try.func29, Try.ntmps29
    go_wp2_with fail
    refine HM.out.mono ?_
    rintro e w0 ⟨rfl, hb0⟩
    have HB0 := Lib.hid hb0
    clear hb0
    go_wp2
    go_loopw [7, 8] (fun tx i wr => ∃ k : Nat, i = .int .i64 k ∧ k ≤ nl ∧ Hid (Ow S 9 wr w.heap.size tx ((l.take k).map (·.name))) ∧ Hid (Below w.heap.size w wr)) (fun _ i _ => nl - (intOf i).toNat)
    case atStart => exact ⟨0, rfl, Nat.zero_le _, Ow.nil _ _ _ _, HB0.out⟩
    case round =>
      obtain ⟨k, rfl, hk, HO, HB⟩ := hrel
      by_cases hlt : k < nl
      · have X1 := Lib.hid (show l[k]? = some (l[k]'(by have := HL.out; omega)) from List.getElem?_eq_getElem _)
        generalize l[k]'(by have := HL.out; omega) = x at *
        obtain ⟨b1, o1, ha, hc1⟩ := HC.out k x X1.out (by decide)
        subst ha
        have c10 : wr.cell? ⟨b1, o1 + k * 6, none⟩ = some (.string ⟨x.name.toArray⟩) := by
          have := hc1 0 (by decide)
          rw [Nat.add_zero] at this
          exact (HB.out.cell (block_lt this)).trans this
        clear hc1
        have HNX := Lib.hid (names_step X1.out)
        have HTL := Lib.hid (show ((l.take k).map (·.name)).length ≤ 1000 by rw [List.length_map, List.length_take]; omega)
        go_wp2_with (((with_reducible show wpList _ _ _ (⟨some 34, _, _, _, _, _⟩ :: _) _ _); go_must (refine wpList_pushE TTexts HO.out rfl rfl x.name rfl rfl (by have := HTL.out; omega) (by omega) HB.out.size ?_; intro v3 w3 hv3 _ hb3; have HO3 := Lib.hid (show Ow S 9 w3 w.heap.size v3 ((l.take (k + 1)).map (·.name)) by rw [HNX.out]; exact hv3); have HB3 := Lib.hid (HB.out.trans hb3); clear hv3 hb3)))
        go_roundw
        case rel =>
          first
            | exact ⟨k + 1, by go_num, by omega, HO3.out, HB3.out⟩
            | ((repeat apply Exists.intro); exact ⟨⟨k + 1, by go_num, by omega, HO3.out, HB3.out⟩, rfl⟩)
        case measure => simp [intOf] <;> omega
      · have HO1 : Hid (Ow S 9 wr w.heap.size u7 (l.map (·.name))) := by
          have := HO.out
          rw [List.take_of_length_le (by have := HL.out; omega)] at this
          exact this
        have HBU := Lib.hid (ref3Build_any (l.map (·.name)) u7 wr (by rw [List.length_map]; have := HL.out; omega) (fun s hs => by obtain ⟨x, hx, rfl⟩ := List.mem_map.1 hs; exact HNS.out x hx) HO1.out.rd)
        generalize buildR (l.map (·.name)) = r at *
        obtain ⟨tb, ats, z⟩ := r
        obtain rfl : z = 0 := HBZ.out
        clear HO HO1 HBZ
        go_wp2_with fail
        refine HBU.out.mono ?_
        rintro e w2 ⟨v1, v2, rfl, ob1, ow2, hb2⟩
        have HB2 := Lib.hid (HB.out.trans (hb2.mono HB.out.size))
        have HS1 := Lib.hid HB.out.size
        have OB1 := Lib.hid ob1
        obtain ⟨aa, cca, rfl, hmac, _, hac⟩ := (show Rd I64 w2 v2 ats from ow2.rd).open 0
        have hal : ats.length = nl := by have h1 := HA.out.1; rw [List.length_map] at h1; have := HL.out; omega
        rw [hal] at hmac ⊢
        have HAL := Lib.hid hal
        have HAC := Lib.hid hac
        clear hal hac HBU ob1 ow2 hb2
        go_wp2_with (((with_reducible show wpList _ _ _ (⟨some 41, _, _, _, _, _⟩ :: _) _ _); go_must (refine wpList_makeB 24 rfl rfl rfl rfl (by omega) ?_; intro vt w3 hvt hb3)))
        have HVT := Lib.hid hvt
        have HB3 := Lib.hid hb3
        clear hvt hb3
        have HRX : Hid (symsB l ats = List.replicate 24 0 ++ ((l.zip ats).take nl).flatMap symB) := by
          unfold symsB
          rw [List.take_of_length_le (by rw [List.length_zip]; have := HL.out; omega)]
          rfl
        go_loopw [12, 13, 14] (fun t c i wr => ∃ k n : Nat, i = .int .i64 k ∧ c = .int .i64 (n + 1) ∧ k ≤ nl ∧ n ≤ k ∧ Hid (n = locs (l.take k)) ∧ Hid (OB wr w2.heap.size t (List.replicate 24 0 ++ ((l.zip ats).take k).flatMap symB)) ∧ Hid (Below w2.heap.size w2 wr)) (fun _ _ i _ => nl - (intOf i).toNat)
        case atStart => exact ⟨0, 0, rfl, rfl, Nat.zero_le _, Nat.le_refl _, rfl, by have := HVT.out; simpa [Hid] using this, HB3.out⟩
        case round =>
          obtain ⟨k, n, rfl, rfl, hk, hnk, HN, HO, HB⟩ := hrel
          by_cases hlt : k < nl
          · have X1 := Lib.hid (show l[k]? = some (l[k]'(by have := HL.out; omega)) from List.getElem?_eq_getElem _)
            generalize l[k]'(by have := HL.out; omega) = x at *
            have X2 := Lib.hid (show ats[k]? = some (ats[k]'(by have := HAL.out; omega)) from List.getElem?_eq_getElem _)
            obtain ⟨bA, oA, hA1, cA⟩ := HAC.out k (by have := HAL.out; omega)
            rw [X2.out] at cA
            generalize ats[k]'(by have := HAL.out; omega) = p at *
            have hp : p ≤ 130000 := HA.out.2 p (List.mem_of_getElem? X2.out)
            simp only [Option.getD_some] at cA
            replace cA := (HB.out.cell (block_lt cA)).trans cA
            subst hA1
            obtain ⟨b1, o1, ha, hc1⟩ := HC.out k x X1.out (by decide)
            subst ha
            have hd1 : ∀ c v, (encSym x)[c]? = some v → wr.cell? ⟨b1, o1 + k * 6 + c, none⟩ = some v := fun c v h => by
              have h6 : c < 6 := (List.getElem?_eq_some_iff.1 h).1
              have := (hc1 c h6).trans h
              rw [← Nat.add_assoc] at this
              have h2 := (HB2.out.cell (block_lt this)).trans this
              exact (HB.out.cell (block_lt h2)).trans h2
            have c10 := hd1 0 _ rfl
            have c11 := hd1 1 _ rfl
            have c12 := hd1 2 _ rfl
            have c13 := hd1 3 _ rfl
            have c14 := hd1 4 _ rfl
            have c15 := hd1 5 _ rfl
            rw [Nat.add_zero] at c10
            clear hc1 hd1
            have HF := Lib.hid (flatz_step X1.out X2.out)
            have HTL := Lib.hid (show (List.replicate 24 (0 : UInt8) ++ ((l.zip ats).take k).flatMap symB).length ≤ 30000 by rw [List.length_append, List.length_replicate, flatz_len, List.length_take]; omega)
            have HOF := Lib.hid (HWF.out x (List.mem_of_getElem? X1.out))
            have hgood : kindB x.bind x.typ = true ∧ ¬ x.sec < 0 ∧ ¬ 65535 < x.sec := by
              have := List.any_eq_false.1 HBF.out x (List.mem_of_getElem? X1.out)
              unfold symBad at this
              simp at this
              exact ⟨this.1.1, by omega, by omega⟩
            obtain ⟨hg1, hg2, hg3⟩ := hgood
            obtain ⟨hg4, hg5, hg6, hg7⟩ := kindB_pos hg1
            have HG1 := Lib.hid hg1
            have HI := Lib.hid (info_u8 (s := x) hg4 hg5 hg6 hg7)
            have HT1 := Lib.hid (show x.sec = ((u64of x.sec : Nat) : Int) by unfold u64of; omega)
            have hbs := HB.out.size
            clear hg1
            generalize hT0 : List.replicate 24 (0 : UInt8) ++ ((l.zip ats).take k).flatMap symB = T at *
            have HE0 := Lib.hid hT0
            clear hT0
            have HNN : Hid (∃ n' : Nat, n' ≤ k + 1 ∧ n' = locs (l.take (k + 1)) ∧ ((x.bind = 0 ∧ n' = n + 1) ∨ (¬ x.bind = 0 ∧ n' = n))) := by
              by_cases h0 : x.bind = 0
              · exact ⟨n + 1, by omega, by rw [locs_step0 X1.out h0, ← HN.out], .inl ⟨h0, rfl⟩⟩
              · exact ⟨n, by omega, by rw [locs_step1 X1.out h0, ← HN.out], .inr ⟨h0, rfl⟩⟩
            obtain ⟨n', hn'1, hn'2, hn'3⟩ := HNN.out
            have HN' := Lib.hid hn'2
            clear hn'2 HNN HN
            rcases hn'3 with ⟨h0, hn⟩ | ⟨h0, hn⟩
            all_goals
              subst hn
              first
                | have hz : (x.bind == 0) = true := by simpa using h0
                | have hz : (x.bind == 0) = false := by simpa using h0
              clear h0
              go_wp2_with (first
                | ((with_reducible show wpList _ _ _ (⟨none, .store _ _ _, _, _, _, _⟩ :: _) _ _); go_must (refine wpList_storeNew rfl rfl (by kernel_rfl) rfl (by simp [Value.oneCell']) ?_; intro w4 hh1 hb1; have cA1 := (hb1.cell (block_lt cA)).trans cA; have e1 := cell_rec hh1 1; simp only [List.getElem?_toArray, List.getElem?_cons_succ, List.getElem?_cons_zero] at e1))
                | fail)
              have HO1 := Lib.hid (HO.out.mono hb1)
              have HB4 := Lib.hid (HB.out.trans (hb1.mono HB.out.size))
              have HH1 := Lib.hid hh1
              clear hh1 hb1 cA1 cA c10 c11 c12 c13 c14 c15 e1
              refine (fixed4_any p w4 rfl (by omega)).mono ?_
              rintro e w5 ⟨f5, rfl, hf5, hb5⟩
              have HK5 := Lib.hid (keeps_below (e0 := 5) hb5)
              have HO5 := Lib.hid (HO1.out.mono hb5)
              have HF5 := Lib.hid hf5.bs
              have HB5 := Lib.hid (HB4.out.trans (hb5.mono HB4.out.size))
              have HH5 := Lib.hid (HK5.out _ _ _ _ (by decide) HH1.out)
              clear hf5 hb5
              go_wp2_with (first
                | ((with_reducible show wpList _ _ _ (⟨some 64, _, _, _, _, _⟩ :: _) _ _); go_must (refine wpList_catB HO5.out HF5.out rfl rfl (by rw [length_fixed]; have := HTL.out; omega) HB5.out.size ?_; intro v6 w6 ho6 hg6 hb6; have HH6 := Lib.hid (keeps_own HO5.out hg6 _ _ _ _ (by decide) HH5.out); have e1 := cell_rec HH6.out 1; have e2 := cell_rec HH6.out 2; simp only [List.getElem?_toArray, List.getElem?_cons_succ, List.getElem?_cons_zero] at e1 e2; have HO6 := Lib.hid ho6; have HB6 := Lib.hid (HB5.out.trans hb6); clear ho6 hb6 hg6))
                | ((with_reducible show wpList _ _ _ (⟨some 74, _, _, _, _, _⟩ :: _) _ _); go_must (refine wpList_pushLit HO6.out [infoB x, 0] rfl rfl (by rw [HI.out]; rfl) rfl (by rw [List.length_append, length_fixed]; have := HTL.out; simp; omega) HB6.out.size ?_; intro v7 w7 ho7 hk7 hb7; have HH7 := Lib.hid (hk7 _ _ _ _ (by decide) HH6.out); have e3 := cell_rec HH7.out 3; simp only [List.getElem?_toArray, List.getElem?_cons_succ, List.getElem?_cons_zero] at e3; have HO7 := Lib.hid ho7; have HB7 := Lib.hid (HB6.out.trans hb7); clear ho7 hb7 hk7)))
              clear e1 e2 e3
              refine (fixed2_any (u64of x.sec) w7 HT1.out (u64of_lt _)).mono ?_
              rintro e w8 ⟨f8, rfl, hf8, hb8⟩
              have HK8 := Lib.hid (keeps_below (e0 := 5) hb8)
              have HO8 := Lib.hid (HO7.out.mono hb8)
              have HF8 := Lib.hid hf8.bs
              have HB8 := Lib.hid (HB7.out.trans (hb8.mono HB7.out.size))
              have HH8 := Lib.hid (HK8.out _ _ _ _ (by decide) HH7.out)
              clear hf8 hb8
              have HL8 := Lib.hid (show (T ++ fixed p 4 ++ [infoB x, 0]).length ≤ 30006 by rw [List.length_append, List.length_append, length_fixed]; have := HTL.out; simp; omega)
              generalize hT8 : T ++ fixed p 4 ++ [infoB x, 0] = T8 at *
              have HE8 := Lib.hid hT8
              clear hT8
              go_wp2_with (((with_reducible show wpList _ _ _ (⟨some 80, _, _, _, _, _⟩ :: _) _ _); go_must (refine wpList_catB HO8.out HF8.out rfl rfl (by rw [length_fixed]; have := HL8.out; omega) HB8.out.size ?_; intro v9 w9 ho9 hg9 hb9; have HH9 := Lib.hid (keeps_own HO8.out hg9 _ _ _ _ (by decide) HH8.out); have e4 := cell_rec HH9.out 4; simp only [List.getElem?_toArray, List.getElem?_cons_succ, List.getElem?_cons_zero] at e4; have HO9 := Lib.hid ho9; have HB9 := Lib.hid (HB8.out.trans hb9); clear ho9 hb9 hg9)))
              clear e4
              refine (fixed8_any x.value w9 rfl HOF.out.1).mono ?_
              rintro e w10 ⟨f10, rfl, hf10, hb10⟩
              have HK10 := Lib.hid (keeps_below (e0 := 5) hb10)
              have HO10 := Lib.hid (HO9.out.mono hb10)
              have HF10 := Lib.hid hf10.bs
              have HB10 := Lib.hid (HB9.out.trans (hb10.mono HB9.out.size))
              have HH10 := Lib.hid (HK10.out _ _ _ _ (by decide) HH9.out)
              clear hf10 hb10
              go_wp2_with (((with_reducible show wpList _ _ _ (⟨some 85, _, _, _, _, _⟩ :: _) _ _); go_must (refine wpList_catB HO10.out HF10.out rfl rfl (by rw [List.length_append, length_fixed, length_fixed]; have := HL8.out; omega) HB10.out.size ?_; intro v11 w11 ho11 hg11 hb11; have HH11 := Lib.hid (keeps_own HO10.out hg11 _ _ _ _ (by decide) HH10.out); have e5 := cell_rec HH11.out 5; simp only [List.getElem?_toArray, List.getElem?_cons_succ, List.getElem?_cons_zero] at e5; have HO11 := Lib.hid ho11; have HB11 := Lib.hid (HB10.out.trans hb11); clear ho11 hb11 hg11)))
              clear e5
              refine (fixed8_any x.size w11 rfl HOF.out.2).mono ?_
              rintro e w12 ⟨f12, rfl, hf12, hb12⟩
              have HO12 := Lib.hid (HO11.out.mono hb12)
              have HF12 := Lib.hid hf12.bs
              have HB12 := Lib.hid (HB11.out.trans (hb12.mono HB11.out.size))
              clear hf12 hb12
              go_wp2_with (((with_reducible show wpList _ _ _ (⟨some 90, _, _, _, _, _⟩ :: _) _ _); go_must (refine wpList_catB HO12.out HF12.out rfl rfl (by rw [List.length_append, List.length_append, length_fixed, length_fixed, length_fixed]; have := HL8.out; omega) HB12.out.size ?_; intro v13 w13 ho13 hg13 hb13; have HO13 := Lib.hid ho13; have HB13 := Lib.hid (HB12.out.trans hb13); clear ho13 hb13 hg13)))
              have G1 : Hid (OB w13 w2.heap.size v13 (List.replicate 24 0 ++ ((l.zip ats).take (k + 1)).flatMap symB)) := by
                rw [HF.out, ← List.append_assoc, HE0.out]
                show OB w13 w2.heap.size v13 (T ++ symB (x, p))
                have := HO13.out
                rw [← HE8.out] at this
                unfold symB
                simpa [List.append_assoc] using this
              clear HO13
              go_roundw
              case rel =>
                first
                  | exact ⟨k + 1, _, by go_num, by first | rfl | go_num, by omega, hn'1, HN'.out, G1.out, HB13.out⟩
                  | ((repeat apply Exists.intro); exact ⟨⟨k + 1, _, by go_num, by first | rfl | go_num, by omega, hn'1, HN'.out, G1.out, HB13.out⟩, rfl⟩)
              case measure => simp [intOf] <;> omega
          · have hkn : k = nl := by omega
            have HE : Hid (OB wr w.heap.size u12 (symsB l ats)) := by
              have := HO.out
              rw [hkn, ← HRX.out] at this
              exact this.base HB2.out.size
            have HNL : Hid (n = locs l) := by
              have := HN.out
              rwa [hkn, List.take_of_length_le (by have := HL.out; omega)] at this
            clear HO HN hkn
            go_wp2
            refine bodyPost_ret (v := .tuple #[u12, v1, .int .i64 ((n : Int) + 1), .int .i64 0]) (by simp [results, Try.results29, go_sem]) rfl ?_
            exact ⟨_, _, by rw [HR.out, ← HNL.out]; rfl, by rw [HR.out]; exact HE.out, by rw [HR.out]; exact (OB1.out.mono HB.out).base HS1.out, HB2.out.trans (HB.out.mono HB2.out.size)⟩
  · have hz : (symE l != 0) = true := by simpa using hE
    have HR := Lib.hid (symW_E hE)
    generalize symE l = z at *
    have HZ := Lib.hid hE
    clear hE
    go_enter Try.func29, Try.ntmps29
    go_wp2_with fail
    refine HM.out.mono ?_
    rintro e w0 ⟨rfl, hb0⟩
    go_wp2
    refine bodyPost_ret (v := .tuple #[.slice none 0 0, .slice none 0 0, .int .i64 0, .int .i64 z]) (by simp [results, Try.results29, go_sem]) rfl ?_
    exact ⟨_, _, by rw [HR.out]; rfl, by rw [HR.out]; exact OB.nil _ _, by rw [HR.out]; exact OB.nil _ _, hb0⟩
end Go.Proofs.Ytgknmmnffgikbaa
