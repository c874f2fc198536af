/-
  ElfReads holds: any bytes are read, or refused, as the document has it. No condition.
-/
import Derived.Test.YtgjoimcgiofinaaEr7
import Derived.OrdersHeld
import Derived.Deep.DeepCutAuto
import Derived.Test.YtgjoimcgiofinaaRows
import Derived.ProofKit
import Derived.SizedLaws
import Derived.OpenShut
import Derived.Lib.SmallJoins
import Derived.Deep.Fields
namespace Go.Proofs.Ytgjoimcgiofinaa
open Go.RowKit Go.Fd
theorem okG_file {e : ElfM} (hm : mayE e = true) (hf : e.fits) : OkG (fileB e) := by
  have h1 := file_back hm hf
  refine ⟨h1.2.2.1, ?_⟩
  have hn := head_num (mayK hm)
  rw [hn.heads, hn.ns, hn.len]
  exact Nat.le_refl _
theorem parse_fits (l : List UInt8) : (parseE l (targetR l)).fits := by
  have hs : ∀ s ∈ secsP l (nsecsP l), ∃ a, s = secP l (tabP l) a := fun s hs => by
    obtain ⟨i, hi⟩ := List.mem_iff_getElem?.1 hs
    exact ⟨_, secsP_get hi⟩
  have hg : ∀ s ∈ segsP l (nsegsP l), s.fits := fun s hs => by
    unfold segsP at hs
    obtain ⟨i, -, rfl⟩ := List.mem_map.1 hs
    exact segP_fits _ _
  have h1 := gN2 l 16
  have h2 := tgt_le (gN l 18 2) 3
  refine ⟨?_, ?_, gN4 _ _, gN8 _ _, fun s h => ?_, hg⟩
  · show -9223372036854775808 ≤ ((gN l 16 2 : Nat) : Int) ∧ ((gN l 16 2 : Nat) : Int) < 9223372036854775808
    omega
  · show -9223372036854775808 ≤ targetR l ∧ targetR l < 9223372036854775808
    unfold targetR; omega
  · obtain ⟨a, rfl⟩ := hs s h
    exact secP_fits _ _ _
theorem parse_okG {l : List UInt8} (hl : l.length ≤ 4194304) (h : FewP l) : ElfOk (parseE l (targetR l)) := by
  have hs : ∀ s ∈ secsP l (nsecsP l), ∃ a, s = secP l (tabP l) a := fun s hs => by
    obtain ⟨i, hi⟩ := List.mem_iff_getElem?.1 hs
    exact ⟨_, secsP_get hi⟩
  have hn : nsecsP l ≤ 250 := by have := h.2; unfold nsecsP; omega
  have hm : nsegsP l ≤ 16 := h.1
  refine ⟨parse_fits l, ?_, fun s h => ?_, ?_, ?_⟩
  · show dsum (secsP l (nsecsP l)) ≤ _
    have := dsum_le (l := secsP l (nsecsP l)) (m := 4194304) fun s h => by
      obtain ⟨a, rfl⟩ := hs s h
      exact Nat.le_trans (secP_data _ _ _) hl
    rw [secsP_len] at this
    have := Nat.mul_le_mul_right 4194304 hn
    omega
  · obtain ⟨a, rfl⟩ := hs s h
    exact secP_name _ _ _
  · show (secsP l (nsecsP l)).length ≤ _
    rw [secsP_len]; omega
  · show (segsP l (nsegsP l)).length ≤ _
    rw [segsP_len]; omega
attribute [local irreducible] gN okB inB atR segOk secOk segP secP tabP readE
set_option maxHeartbeats 8000000 in
set_option maxRecDepth 100000 in
theorem ref4Read_any (l : List UInt8) (v : Value) (w : World) (hl : l.length ≤ 1000000000) (hv : Bs w v l) :
    Calls Try.prog 53 #[v] w fun r w' => RdRes l w.heap.size r w' ∧ Below w.heap.size w w' := by
  have HV := Lib.hid hv
  obtain ⟨m, ad, cap, hm, rfl, hmc, _⟩ := hv.shape
  have HL9 := Lib.hid hl
  have hm9 : m ≤ 1000000000 := by have := hm.out; omega
  have HC6 := Lib.hid (show 4194304 < m → readE l = (elf0, 6) from fun h => by
    have h1 := hm.out
    unfold readE codeR
    simp only [if_pos (show 4194304 < l.length by omega)]
    rw [if_pos (by decide)])
  have HC2 := Lib.hid (show ¬ 4194304 < m → m < 64 → readE l = (elf0, 2) from fun h h' => by
    have h1 := hm.out
    unfold readE codeR
    simp only [if_neg (show ¬ 4194304 < l.length by omega), if_pos (show l.length < 64 by omega)]
    rw [if_pos (by decide)])
  have HC4 := Lib.hid (show ¬ 4194304 < m → ¬ m < 64 → ¬ l.take 7 = magicE → readE l = (elf0, 4) from fun h h' h'' => by
    have h1 := hm.out
    unfold readE codeR
    simp only [if_neg (show ¬ 4194304 < l.length by omega), if_neg (show ¬ l.length < 64 by omega)]
    rw [if_pos h'']
    rw [if_pos (by decide)])
  clear hv
  by_cases h6 : 4194304 < m
  · have HR := Lib.hid (HC6.out h6)
    have d1 : decide ((4194304 : Int) < (m : Int)) = true := by simp; omega
    clear HC6
    go_enter Try.func53, Try.ntmps53
    go_wp2_with (first
      | ((with_reducible show wpList _ _ _ (⟨some 2, .alloc _, _, _, _, _⟩ :: _) _ _); go_must (refine wpList_allocElf ?_; intro w1 hx1 hb1 hs1; have HX1 := Lib.hid hx1; have HB1 := Lib.hid hb1; clear hx1 hb1))
      | ((with_reducible show wpList _ _ _ (⟨none, .store _ (.tmp 2) _, _, _, _, _⟩ :: _) _ _); go_must (refine wpList_storeElfS HX1.out rfl rfl rfl rfl (by simp [Value.oneCell']) ?_; intro w3 hh3 hs3; have HH3 := Lib.hid hh3; have HB3 := Lib.hid (HB1.out.trans (hs3.below HB1.out.size (fun j hj => by rw [hj]; exact Nat.le_refl _))); clear hh3 hs3)))
    have c0 : w3.cell? ⟨w.heap.size, 0, none⟩ = some (.int .i64 0) := cell_rec HH3.out 0
    have c1 : w3.cell? ⟨w.heap.size, 1, none⟩ = some (.int .i64 0) := cell_rec HH3.out 1
    have c2 : w3.cell? ⟨w.heap.size, 2, none⟩ = some (.int .u32 0) := cell_rec HH3.out 2
    have c3 : w3.cell? ⟨w.heap.size, 3, none⟩ = some (.int .u64 0) := cell_rec HH3.out 3
    have c4 : w3.cell? ⟨w.heap.size, 4, none⟩ = some (.slice none 0 0) := cell_rec HH3.out 4
    have c5 : w3.cell? ⟨w.heap.size, 5, none⟩ = some (.slice none 0 0) := cell_rec HH3.out 5
    exact bodyPost_ret (v := .tuple #[.agg elfZ, .int .i64 6]) (by simp [results, Try.results53, go_sem, c0, c1, c2, c3, c4, c5]) rfl ⟨RdRes.code HR.out, HB3.out⟩
  · have d1 : decide ((4194304 : Int) < (m : Int)) = false := by simp; omega
    have hm4 : m ≤ 4194304 := Nat.not_lt.1 h6
    by_cases h2 : m < 64
    · have HR := Lib.hid (HC2.out h6 h2)
      have d2 : decide ((m : Int) < 64) = true := by simp; omega
      clear HC6 HC2 HC4 h6
      go_enter Try.func53, Try.ntmps53
      go_wp2_with (first
        | ((with_reducible show wpList _ _ _ (⟨some 2, .alloc _, _, _, _, _⟩ :: _) _ _); go_must (refine wpList_allocElf ?_; intro w1 hx1 hb1 hs1; have HX1 := Lib.hid hx1; have HB1 := Lib.hid hb1; clear hx1 hb1))
        | ((with_reducible show wpList _ _ _ (⟨none, .store _ (.tmp 2) _, _, _, _, _⟩ :: _) _ _); go_must (refine wpList_storeElfS HX1.out rfl rfl rfl rfl (by simp [Value.oneCell']) ?_; intro w3 hh3 hs3; have HH3 := Lib.hid hh3; have HB3 := Lib.hid (HB1.out.trans (hs3.below HB1.out.size (fun j hj => by rw [hj]; exact Nat.le_refl _))); clear hh3 hs3)))
      have c0 : w3.cell? ⟨w.heap.size, 0, none⟩ = some (.int .i64 0) := cell_rec HH3.out 0
      have c1 : w3.cell? ⟨w.heap.size, 1, none⟩ = some (.int .i64 0) := cell_rec HH3.out 1
      have c2 : w3.cell? ⟨w.heap.size, 2, none⟩ = some (.int .u32 0) := cell_rec HH3.out 2
      have c3 : w3.cell? ⟨w.heap.size, 3, none⟩ = some (.int .u64 0) := cell_rec HH3.out 3
      have c4 : w3.cell? ⟨w.heap.size, 4, none⟩ = some (.slice none 0 0) := cell_rec HH3.out 4
      have c5 : w3.cell? ⟨w.heap.size, 5, none⟩ = some (.slice none 0 0) := cell_rec HH3.out 5
      exact bodyPost_ret (v := .tuple #[.agg elfZ, .int .i64 2]) (by simp [results, Try.results53, go_sem, c0, c1, c2, c3, c4, c5]) rfl ⟨RdRes.code HR.out, HB3.out⟩
    · have d2 : decide ((m : Int) < 64) = false := by simp; omega
      have hm64 : 64 ≤ m := Nat.not_lt.1 h2
      have HS7 : Hid (∀ wx, Below w.heap.size w wx → (convert 23 9 (.slice ad 7 cap)).run Try.prog wx = .ok (.string ⟨(l.take 7).toArray⟩) wx) := Lib.hid (fun wx hwx => run_str ((HV.out.mono hwx).take (by omega)))
      by_cases h4 : l.take 7 = magicE
      · have d4 : (l.take 7 == [127, 69, 76, 70, 2, 1, 1]) = true := by rw [beq_iff_eq]; exact h4
        have d4' : (l.take 7 != [127, 69, 76, 70, 2, 1, 1]) = false := by rw [h4]; rfl
        have HCD : Hid (codeR l = if targetR l = 0 then 11 else 0) := Lib.hid (by
          have h1 := hm.out
          unfold codeR
          rw [if_neg (show ¬ 4194304 < l.length by omega), if_neg (show ¬ l.length < 64 by omega), if_neg (fun h => h h4)])
        have HU18 : Hid (∀ wx, Below w.heap.size w wx → Calls Try.prog 93 #[.slice ad m cap, .int .i64 18, .int .i64 2] wx fun r w' => r = .returned (.int .u64 (gN l 18 2 : Nat)) ∧ wx = w') := Lib.hid (fun wx hwx => ref4Num_any l 18 2 _ wx HL9.out (HV.out.mono hwx) (by omega))
        have HTG : Hid (targetR l = tgt (gN l 18 2) 3) := rfl
        have b18 := gN2 l 18
        generalize l.take 7 = t7 at *
        clear HC6 HC2 HC4 h6 h2 h4
        go_enter Try.func53, Try.ntmps53
        go_wp2_with ((with_reducible show wpList _ _ _ (⟨some 2, .alloc _, _, _, _, _⟩ :: _) _ _); go_must (refine wpList_allocElf ?_; intro w1 hx1 hb1 hs1; have HX1 := Lib.hid hx1; have HB1 := Lib.hid hb1; have hs7 := HS7.out _ HB1.out; clear hx1 hb1))
        clear hs7 d4 d4' HS7
        generalize gN l 18 2 = n18 at *
        go_loop [4, 5] (fun t i => ∃ k : Nat, i = .int .i64 ((k : Int) + 1) ∧ k ≤ 3 ∧ t = .int .i64 (tgt n18 k)) (fun _ i => 4 - (intOf i).toNat)
        case atStart => exact ⟨0, rfl, by omega, rfl⟩
        case round =>
          obtain ⟨k, rfl, hk, rfl⟩ := hrel
          by_cases hk3 : k < 3
          · have HT1 : Hid (tgt n18 (k + 1) = if mach ((k : Int) + 1) = n18 then (k : Int) + 1 else tgt n18 k) := rfl
            have HM := Lib.hid (fun wx => ref4Machine_any ((k : Int) + 1) wx)
            have hm243 := mach_le ((k : Int) + 1)
            by_cases hmk : mach ((k : Int) + 1) = n18
            · have HT2 : Hid (tgt n18 (k + 1) = (k : Int) + 1) := Lib.hid (by rw [HT1.out, if_pos hmk])
              have q1 : ((mach ((k : Int) + 1) : Nat) : Int) = (n18 : Int) := by rw [hmk]
              have q2 : (((mach ((k : Int) + 1) : Nat) : Int) == (n18 : Int)) = true := by rw [q1]; simp
              have HQ := Lib.hid hmk
              clear hmk q1
              go_wp2_with (first
                | (go_at_call 76; refine (HM.out _).mono ?_; rintro e wu ⟨rfl, rfl⟩)
                | (go_at_call 93; refine (HU18.out _ HB1.out).mono ?_; rintro e wu ⟨rfl, rfl⟩))
              go_round
              case rel => exact ⟨k + 1, by go_num, by omega, by rw [HT2.out]⟩
              case measure => simp [intOf] <;> omega
            · have HT2 : Hid (tgt n18 (k + 1) = tgt n18 k) := Lib.hid (by rw [HT1.out, if_neg hmk])
              have q2 : (((mach ((k : Int) + 1) : Nat) : Int) == (n18 : Int)) = false := by rw [beq_eq_false_iff_ne]; omega
              have HQ := Lib.hid hmk
              clear hmk
              go_wp2_with (first
                | (go_at_call 76; refine (HM.out _).mono ?_; rintro e wu ⟨rfl, rfl⟩)
                | (go_at_call 93; refine (HU18.out _ HB1.out).mono ?_; rintro e wu ⟨rfl, rfl⟩))
              go_round
              case rel => exact ⟨k + 1, by go_num, by omega, by rw [HT2.out]⟩
              case measure => simp [intOf] <;> omega
          · obtain rfl : k = 3 := by omega
            have HT3 : Hid (tgt n18 3 = targetR l) := Lib.hid HTG.out.symm
            have HTB := Lib.hid (tgt_le n18 3)
            generalize tgt n18 3 = tg at *
            by_cases ht : tg = 0
            · have HR := Lib.hid (show readE l = (elf0, 11) by
                have h1 := HCD.out
                rw [← HT3.out, if_pos ht] at h1
                unfold readE
                rw [h1, if_pos (by decide)])
              have t1 : (tg == (0 : Int)) = true := by rw [ht]; rfl
              have HZ := Lib.hid ht
              clear ht
              go_wp2_with (first
                | ((with_reducible show wpList _ _ _ (⟨none, .store _ (.tmp 2) _, _, _, _, _⟩ :: _) _ _); go_must (refine wpList_storeElfS HX1.out rfl rfl rfl rfl (by simp [Value.oneCell']) ?_; intro w3 hh3 hs3; have HH3 := Lib.hid hh3; have HB3 := Lib.hid (HB1.out.trans (hs3.below HB1.out.size (fun j hj => by rw [hj]; exact Nat.le_refl _))); clear hh3 hs3)))
              have c0 : w3.cell? ⟨w.heap.size, 0, none⟩ = some (.int .i64 0) := cell_rec HH3.out 0
              have c1 : w3.cell? ⟨w.heap.size, 1, none⟩ = some (.int .i64 0) := cell_rec HH3.out 1
              have c2 : w3.cell? ⟨w.heap.size, 2, none⟩ = some (.int .u32 0) := cell_rec HH3.out 2
              have c3 : w3.cell? ⟨w.heap.size, 3, none⟩ = some (.int .u64 0) := cell_rec HH3.out 3
              have c4 : w3.cell? ⟨w.heap.size, 4, none⟩ = some (.slice none 0 0) := cell_rec HH3.out 4
              have c5 : w3.cell? ⟨w.heap.size, 5, none⟩ = some (.slice none 0 0) := cell_rec HH3.out 5
              exact bodyPost_ret (v := .tuple #[.agg elfZ, .int .i64 11]) (by simp [results, Try.results53, go_sem, c0, c1, c2, c3, c4, c5]) rfl ⟨RdRes.code HR.out, HB3.out⟩
            · have HCD0 := Lib.hid (show codeR l = 0 by
                have h1 := HCD.out
                rw [← HT3.out, if_neg ht] at h1
                exact h1)
              have t1 : (tg == (0 : Int)) = false := by rw [beq_eq_false_iff_ne]; exact ht
              have HZ := Lib.hid ht
              have HROK := Lib.hid (show OkG l → mayE (parseE l tg) = true → fileB (parseE l tg) = l → readE l = (parseE l tg, 0) from fun h1 h2 h3 => by
                unfold readE
                rw [HT3.out] at h2 h3 ⊢
                rw [if_neg (fun h => h HCD0.out), if_pos ⟨h1.1, h2, h3⟩])
              have HRNO := Lib.hid (show ¬ (OkP l ∧ mayE (parseE l tg) = true ∧ fileB (parseE l tg) = l) → readE l = (elf0, 4) from fun h1 => by
                unfold readE
                rw [HT3.out] at h1
                rw [if_neg (fun h => h HCD0.out), if_neg h1])
              have HPF := Lib.hid (show (parseE l tg).fits from by rw [HT3.out]; exact parse_fits l)
              have HPOK0 := Lib.hid (show FewP l → ElfOk (parseE l tg) from fun h => by rw [HT3.out]; exact parse_okG (by have := hm.out; omega) h)
              have HGF := Lib.hid (show mayE (parseE l tg) = true → fileB (parseE l tg) = l → OkG l from fun h1 h2 => by
                have := okG_file h1 HPF.out
                rwa [h2] at this)
              have HGU := Lib.hid (show Calls Try.prog 94 #[.slice ad m cap, .int .i64 tg] w1 fun r w' => GuRes l tg w1.heap.size r w' ∧ Below w1.heap.size w1 w' from ref4Guess_any l tg _ w1 (by have := hm.out; omega) (HV.out.mono HB1.out))
              clear ht HCD
              go_wp2_with (fail)
              refine HGU.out.mono ?_
              rintro e wA ⟨⟨b, pe, L, sv, gv, rfl, hown, hpe, hgb⟩, hbA⟩
              have HBA := Lib.hid (HB1.out.trans (hbA.mono HB1.out.size))
              have HXA := Lib.hid (heap_below hbA HX1.out)
              obtain ⟨sn, sa, sc, -, rfl, _, _⟩ := hown.so.shape
              obtain ⟨gn, ga, gc, -, rfl, _, _⟩ := hown.go.shape
              have HOWN := Lib.hid (show ElfOwn wA w.heap.size pe L (.slice sa sn sc) (.slice ga gn gc) from ⟨hown.secs, hown.so.rebase HB1.out.size, hown.go.rebase HB1.out.size, fun p hp => (hown.data p hp).base HB1.out.size⟩)
              have HPE := Lib.hid hpe
              have HGB := Lib.hid hgb
              clear hbA hown hpe hgb
              cases b with
              | false =>
                have HR := Lib.hid (HRNO.out (fun h => by have h1 := HGB.out (HGF.out h.2.1 h.2.2); cases h1))
                go_wp2_with (first
                  | ((with_reducible show wpList _ _ _ (⟨some 6, .alloc _, _, _, _, _⟩ :: _) _ _); go_must (refine wpList_allocElf ?_; intro w2 hx2 hb2 hs2; have HX2 := Lib.hid hx2; have HXA2 := Lib.hid (heap_below hb2 HXA.out); have HBA2 := Lib.hid hb2; clear hx2 hb2))
                  | ((with_reducible show wpList _ _ _ (⟨none, .store _ (.tmp 6) _, _, _, _, _⟩ :: _) _ _); go_must (refine wpList_storeElf HX2.out rfl rfl rfl rfl (by simp [Value.oneCell']) (Nat.le_refl _) (Nat.le_of_lt hs2) ?_; intro w4 hh4 hb4; have HY4 := Lib.hid (show w4.heap[wA.heap.size]? = some (.cells #[.int .i64 pe.typ, .int .i64 pe.target, .int .u32 (pe.flags : Int), .int .u64 (pe.entry : Int), .slice sa sn sc, .slice ga gn gc] 61 (0, 0)) from hh4); have HBA4 := Lib.hid (HBA2.out.trans hb4); have HX4 := Lib.hid (heap_below HBA4.out HXA.out); have HB4 := Lib.hid (HBA.out.trans (HBA4.out.mono HBA.out.size)); have HOW4 := Lib.hid (show ElfOwn w4 w.heap.size pe L (.slice sa sn sc) (.slice ga gn gc) from ⟨HOWN.out.secs, HOWN.out.so.mono HBA4.out, HOWN.out.go.mono HBA4.out, fun p hp => (HOWN.out.data p hp).mono HBA4.out⟩); clear hh4 hb4))
                  | ((with_reducible show wpList _ _ _ (⟨none, .store _ (.tmp 2) _, _, _, _, _⟩ :: _) _ _); go_must (refine wpList_storeElfS HX4.out rfl rfl rfl rfl (by simp [Value.oneCell']) ?_; intro w3 hh3 hs3; have HH3 := Lib.hid hh3; have HB3 := Lib.hid (HB4.out.trans (hs3.below HB4.out.size (fun j hj => by rw [hj]; exact Nat.le_refl _))); clear hh3 hs3)))
                have c0 : w3.cell? ⟨w.heap.size, 0, none⟩ = some (.int .i64 0) := cell_rec HH3.out 0
                have c1 : w3.cell? ⟨w.heap.size, 1, none⟩ = some (.int .i64 0) := cell_rec HH3.out 1
                have c2 : w3.cell? ⟨w.heap.size, 2, none⟩ = some (.int .u32 0) := cell_rec HH3.out 2
                have c3 : w3.cell? ⟨w.heap.size, 3, none⟩ = some (.int .u64 0) := cell_rec HH3.out 3
                have c4 : w3.cell? ⟨w.heap.size, 4, none⟩ = some (.slice none 0 0) := cell_rec HH3.out 4
                have c5 : w3.cell? ⟨w.heap.size, 5, none⟩ = some (.slice none 0 0) := cell_rec HH3.out 5
                exact bodyPost_ret (v := .tuple #[.agg elfZ, .int .i64 4]) (by simp [results, Try.results53, go_sem, c0, c1, c2, c3, c4, c5]) rfl ⟨RdRes.code HR.out, HB3.out⟩
              | true =>
                obtain rfl : pe = parseE l tg := (HPE.out rfl).1
                have HPOK := Lib.hid (HPOK0.out (HPE.out rfl).2)
                generalize parseE l tg = pe at *
                go_wp2_with (first
                  | ((with_reducible show wpList _ _ _ (⟨some 6, .alloc _, _, _, _, _⟩ :: _) _ _); go_must (refine wpList_allocElf ?_; intro w2 hx2 hb2 hs2; have HX2 := Lib.hid hx2; have HXA2 := Lib.hid (heap_below hb2 HXA.out); have HBA2 := Lib.hid hb2; clear hx2 hb2))
                  | ((with_reducible show wpList _ _ _ (⟨none, .store _ (.tmp 6) _, _, _, _, _⟩ :: _) _ _); go_must (refine wpList_storeElf HX2.out rfl rfl rfl rfl (by simp [Value.oneCell']) (Nat.le_refl _) (Nat.le_of_lt hs2) ?_; intro w4 hh4 hb4; have HY4 := Lib.hid (show w4.heap[wA.heap.size]? = some (.cells #[.int .i64 pe.typ, .int .i64 pe.target, .int .u32 (pe.flags : Int), .int .u64 (pe.entry : Int), .slice sa sn sc, .slice ga gn gc] 61 (0, 0)) from hh4); have HBA4 := Lib.hid (HBA2.out.trans hb4); have HX4 := Lib.hid (heap_below HBA4.out HXA.out); have HB4 := Lib.hid (HBA.out.trans (HBA4.out.mono HBA.out.size)); have HOW4 := Lib.hid (show ElfOwn w4 w.heap.size pe L (.slice sa sn sc) (.slice ga gn gc) from ⟨HOWN.out.secs, HOWN.out.so.mono HBA4.out, HOWN.out.go.mono HBA4.out, fun p hp => (HOWN.out.data p hp).mono HBA4.out⟩); obtain ⟨c0, c1, c2, c3, c4, c5⟩ := elf_box HY4.out; clear hh4 hb4)))
                refine (ref4Write_any pe L _ _ w4 HOW4.out.at HPOK.out).mono ?_
                rintro e wB ⟨v9, rfl, hov, hbB⟩
                obtain ⟨vn, va, vc, -, rfl, _, _⟩ := hov.shape
                have HOV := Lib.hid hov
                have HBB := Lib.hid hbB
                have HXB := Lib.hid (heap_below hbB HX4.out)
                have HYB := Lib.hid (heap_below hbB HY4.out)
                have HB5 := Lib.hid (HB4.out.trans (hbB.mono HB4.out.size))
                have HOW5 := Lib.hid (show ElfOwn wB w.heap.size pe L (.slice sa sn sc) (.slice ga gn gc) from ⟨HOW4.out.secs, HOW4.out.so.mono hbB, HOW4.out.go.mono hbB, fun p hp => (HOW4.out.data p hp).mono hbB⟩)
                clear hov hbB c0 c1 c2 c3 c4 c5
                cases hmay : mayE pe with
                | false =>
                  rw [fileW_no hmay] at HOV ⊢
                  have HR := Lib.hid (HRNO.out (fun h => by have h1 := h.2.1; rw [hmay] at h1; cases h1))
                  clear hmay
                  go_wp2_with (first
                    | ((with_reducible show wpList _ _ _ (⟨none, .store _ (.tmp 2) _, _, _, _, _⟩ :: _) _ _); go_must (refine wpList_storeElfS HXB.out rfl rfl rfl rfl (by simp [Value.oneCell']) ?_; intro w3 hh3 hs3; have HH3 := Lib.hid hh3; have HB3 := Lib.hid (HB5.out.trans (hs3.below HB5.out.size (fun j hj => by rw [hj]; exact Nat.le_refl _))); clear hh3 hs3)))
                  have c0 : w3.cell? ⟨w.heap.size, 0, none⟩ = some (.int .i64 0) := cell_rec HH3.out 0
                  have c1 : w3.cell? ⟨w.heap.size, 1, none⟩ = some (.int .i64 0) := cell_rec HH3.out 1
                  have c2 : w3.cell? ⟨w.heap.size, 2, none⟩ = some (.int .u32 0) := cell_rec HH3.out 2
                  have c3 : w3.cell? ⟨w.heap.size, 3, none⟩ = some (.int .u64 0) := cell_rec HH3.out 3
                  have c4 : w3.cell? ⟨w.heap.size, 4, none⟩ = some (.slice none 0 0) := cell_rec HH3.out 4
                  have c5 : w3.cell? ⟨w.heap.size, 5, none⟩ = some (.slice none 0 0) := cell_rec HH3.out 5
                  exact bodyPost_ret (v := .tuple #[.agg elfZ, .int .i64 4]) (by simp [results, Try.results53, go_sem, c0, c1, c2, c3, c4, c5]) rfl ⟨RdRes.code HR.out, HB3.out⟩
                | true =>
                  rw [fileW_ok hmay] at HOV ⊢
                  have HMAY := Lib.hid hmay
                  clear hmay
                  have hk1 := run_str (OB.bs HOV.out)
                  have hk2 := run_str (HV.out.mono HB5.out)
                  by_cases hfl : fileB pe = l
                  · have HR := Lib.hid (HROK.out (HGF.out HMAY.out hfl) HMAY.out hfl)
                    have e1 : (fileB pe != l) = false := by rw [hfl]; simp
                    have e2 : (fileB pe == l) = true := by rw [hfl]; simp
                    clear hfl
                    generalize fileB pe = fb at *
                    obtain ⟨c0, c1, c2, c3, c4, c5⟩ := elf_box HYB.out
                    go_wp2_with ((with_reducible show wpList _ _ _ (⟨none, .store _ (.tmp 2) _, _, _, _, _⟩ :: _) _ _); go_must (refine wpList_storeElfS HXB.out rfl rfl rfl rfl (by simp [Value.oneCell']) ?_; intro w7 hh7 hs7; have HH7 := Lib.hid hh7; have HB7 := Lib.hid (HB5.out.trans (hs7.below HB5.out.size (fun j hj => by rw [hj]; exact Nat.le_refl _))); have HOW7 := Lib.hid (show ElfOwn w7 w.heap.size pe L (.slice sa sn sc) (.slice ga gn gc) from ⟨HOW5.out.secs, owns_stirs HOW5.out.so hs7 (own_ne HOW5.out.so HXB.out (by decide)), owns_stirs HOW5.out.go hs7 (own_ne HOW5.out.go HXB.out (by decide)), fun p hp => owns_stirs (HOW5.out.data p hp) hs7 (own_ne (HOW5.out.data p hp) HXB.out (by decide))⟩); obtain ⟨f0, f1, f2, f3, f4, f5⟩ := elf_box (e := pe) (sv := .slice sa sn sc) (gv := .slice ga gn gc) HH7.out; clear hh7 hs7))
                    refine bodyPost_ret (v := .tuple #[elfV pe (.slice sa sn sc) (.slice ga gn gc), .int .i64 0]) (by simp [results, Try.results53, go_sem, elfV, f0, f1, f2, f3, f4, f5]) rfl ⟨⟨L, .slice sa sn sc, .slice ga gn gc, by rw [HR.out], by rw [HR.out]; exact HOW7.out⟩, HB7.out⟩
                  · have HR := Lib.hid (HRNO.out (fun h => hfl h.2.2))
                    have e1 : (fileB pe != l) = true := by simpa using hfl
                    have e2 : (fileB pe == l) = false := by simpa using hfl
                    have HFL := Lib.hid hfl
                    clear hfl
                    generalize fileB pe = fb at *
                    go_wp2_with (first
                      | ((with_reducible show wpList _ _ _ (⟨none, .store _ (.tmp 2) _, _, _, _, _⟩ :: _) _ _); go_must (refine wpList_storeElfS HXB.out rfl rfl rfl rfl (by simp [Value.oneCell']) ?_; intro w3 hh3 hs3; have HH3 := Lib.hid hh3; have HB3 := Lib.hid (HB5.out.trans (hs3.below HB5.out.size (fun j hj => by rw [hj]; exact Nat.le_refl _))); clear hh3 hs3)))
                    have c0 : w3.cell? ⟨w.heap.size, 0, none⟩ = some (.int .i64 0) := cell_rec HH3.out 0
                    have c1 : w3.cell? ⟨w.heap.size, 1, none⟩ = some (.int .i64 0) := cell_rec HH3.out 1
                    have c2 : w3.cell? ⟨w.heap.size, 2, none⟩ = some (.int .u32 0) := cell_rec HH3.out 2
                    have c3 : w3.cell? ⟨w.heap.size, 3, none⟩ = some (.int .u64 0) := cell_rec HH3.out 3
                    have c4 : w3.cell? ⟨w.heap.size, 4, none⟩ = some (.slice none 0 0) := cell_rec HH3.out 4
                    have c5 : w3.cell? ⟨w.heap.size, 5, none⟩ = some (.slice none 0 0) := cell_rec HH3.out 5
                    exact bodyPost_ret (v := .tuple #[.agg elfZ, .int .i64 4]) (by simp [results, Try.results53, go_sem, c0, c1, c2, c3, c4, c5]) rfl ⟨RdRes.code HR.out, HB3.out⟩
      · have HR := Lib.hid (HC4.out h6 h2 h4)
        have d4 : (l.take 7 == [127, 69, 76, 70, 2, 1, 1]) = false := by rw [beq_eq_false_iff_ne]; exact h4
        have d4' : (l.take 7 != [127, 69, 76, 70, 2, 1, 1]) = true := by rw [bne_iff_ne]; exact h4
        generalize l.take 7 = t7 at *
        clear HC6 HC2 HC4 h6 h2 h4
        go_enter Try.func53, Try.ntmps53
        go_wp2_with (first
          | ((with_reducible show wpList _ _ _ (⟨some 2, .alloc _, _, _, _, _⟩ :: _) _ _); go_must (refine wpList_allocElf ?_; intro w1 hx1 hb1 hs1; have HX1 := Lib.hid hx1; have HB1 := Lib.hid hb1; have hs7 := HS7.out _ HB1.out; clear hx1 hb1))
          | ((with_reducible show wpList _ _ _ (⟨none, .store _ (.tmp 2) _, _, _, _, _⟩ :: _) _ _); go_must (refine wpList_storeElfS HX1.out rfl rfl rfl rfl (by simp [Value.oneCell']) ?_; intro w3 hh3 hs3; have HH3 := Lib.hid hh3; have HB3 := Lib.hid (HB1.out.trans (hs3.below HB1.out.size (fun j hj => by rw [hj]; exact Nat.le_refl _))); clear hh3 hs3)))
        have c0 : w3.cell? ⟨w.heap.size, 0, none⟩ = some (.int .i64 0) := cell_rec HH3.out 0
        have c1 : w3.cell? ⟨w.heap.size, 1, none⟩ = some (.int .i64 0) := cell_rec HH3.out 1
        have c2 : w3.cell? ⟨w.heap.size, 2, none⟩ = some (.int .u32 0) := cell_rec HH3.out 2
        have c3 : w3.cell? ⟨w.heap.size, 3, none⟩ = some (.int .u64 0) := cell_rec HH3.out 3
        have c4 : w3.cell? ⟨w.heap.size, 4, none⟩ = some (.slice none 0 0) := cell_rec HH3.out 4
        have c5 : w3.cell? ⟨w.heap.size, 5, none⟩ = some (.slice none 0 0) := cell_rec HH3.out 5
        exact bodyPost_ret (v := .tuple #[.agg elfZ, .int .i64 4]) (by simp [results, Try.results53, go_sem, c0, c1, c2, c3, c4, c5]) rfl ⟨RdRes.code HR.out, HB3.out⟩
end Go.Proofs.Ytgjoimcgiofinaa
namespace Go.Fd
open Go.RowKit
section
variable {P : Program} {L : List Oper} {Q : Exit → Act → World → Prop} {w0 : World} {fuel i : Nat} {listed : Array Bool} {a : Act} {w : World} {o : Oper}
abbrev SAb (w0 : World) : World → Prop := fun w => Below w0.heap.size w0 w
/-- An operation that reads, taken first. -/
theorem held_quiet (hi : L[i]? = some o) (hB : (Region.noSelect L.toArray && Region.free .any L.toArray listed i && (Region.ready .any L.toArray listed).contains i) = true) (hw : Region.wanted o (yielded L.toArray a.tmps) = true) (hv : valB o = true)
    (hQ : ∀ v c a w, Q (.panic c) (a.put o.dst v) w → Q (.panic c) a w) (hb : Below w0.heap.size w0 w)
    (h : ∀ K : Act → Prop, (∀ a, wpAnyH P .any L.toArray Q (SAb w0) fuel (listed.setIfInBounds i true) a w → K a) → o.quiet P a (fun w => ∃ x : Above w0, w = x.w) K) : wpAnyH P .any L.toArray Q (SAb w0) (fuel + 1) listed a w := by
  simp only [Bool.and_eq_true] at hB
  obtain ⟨⟨h1, h2⟩, h3⟩ := hB
  obtain ⟨v, k1, k2⟩ := h (fun a => wpAnyH P .any L.toArray Q (SAb w0) fuel (listed.setIfInBounds i true) a w) (fun _ h => h)
  refine wpAnyH_take (i := i) (oi := o) (v := v) (by simpa using hi) h1 h2 h3 (hQ v) (.inl ⟨hw, fun w' hw' => ?_⟩) hb k2
  have := k1 w' ⟨⟨w', hw'⟩, rfl⟩
  unfold Oper.quietAt at this
  generalize hr : (execOp a.eval o).run P w' = res at this
  cases res with
  | halt x w2 => exact this.elim
  | ok n w2 =>
    obtain ⟨u, rfl⟩ := valB_spec hv hr
    obtain ⟨rfl, rfl⟩ := (this : w2 = w' ∧ u = v)
    rfl
theorem wpOp_of_list {ops : Array Oper} {K : Act → World → Prop} (hi : ops[i]? = some o) (h : wpList P ops (Exit.then K Q) [o] a w) : wpOp P ops Q i K a w := by
  unfold wpOp
  rw [hi]
  simp only [wpList] at h
  split at h
  · next hw =>
    simp only [hw, if_true]
    rcases h with h | ⟨h1, a1, w1, h2⟩
    · left
      unfold Oper.wp at *
      generalize (execOp a.eval o).run P w = r at *
      cases r with
      | ok n w' =>
        cases n <;> simp only [Oper.upon] at h ⊢ <;>
          first
            | exact h
            | exact Calls.mono h (fun e w'' he => by
                cases e with
                | returned v => exact he
                | panicked c => exact he
                | outgrown => obtain ⟨a0, w0, h0⟩ := (he : LetsOut _); exact ⟨a0, w0, h0⟩)
      | halt x w' => cases x <;> simp only [Oper.upon] at h ⊢ <;> exact h
    · right
      exact ⟨h1, a1, w1, h2⟩
  · next hw =>
    simp only [hw]
    exact h
end
end Go.Fd
namespace Go.Proofs.Ytgjoimcgiofinaa
open Go.RowKit Go.Fd
theorem elf_ext {e f : ElfM} (h1 : e.typ = f.typ) (h2 : e.target = f.target) (h3 : e.flags = f.flags) (h4 : e.entry = f.entry) (h5 : e.secs = f.secs) (h6 : e.segs = f.segs) : e = f := by
  cases e; cases f; simp_all
theorem take_all {α : Type} {l m : List α} {k : Nat} (h : l.take k = m.take k) (hl : l.length ≤ k) (hm : m.length ≤ k) : l = m := by
  rwa [List.take_of_length_le hl, List.take_of_length_le hm] at h
theorem take_diff {α : Type} {l m : List α} {k : Nat} {x y : α} (h1 : l[k]? = some x) (h2 : m[k]? = some y) (h : x ≠ y) : l ≠ m := by
  rintro rfl
  rw [h1] at h2
  exact h (Option.some.inj h2)
set_option maxHeartbeats 16000000 in
set_option maxRecDepth 100000 in
theorem ref4Same_any (e f : ElfM) (L M : List (SecM × Value)) (sv gv su gu : Value) (w : World) (h : ElfAt w e L sv gv) (h' : ElfAt w f M su gu) (ho : ElfOk e) (ho' : ElfOk f) :
    Calls Try.prog 50 #[elfV e sv gv, elfV f su gu] w fun r w' => r = .returned (.bool (decide (e = f))) ∧ Below w.heap.size w w' := by
  have HA := Lib.hid h
  have HA' := Lib.hid h'
  obtain ⟨sm, sa, sc, hsm, rfl, _, _⟩ := h.rd.shape
  obtain ⟨gm, ga, gc, hgm, rfl, _, _⟩ := h.segs.shape
  obtain ⟨um, ua, uc, hum, rfl, _, _⟩ := h'.rd.shape
  obtain ⟨vm, va, vc, hvm, rfl, _, _⟩ := h'.segs.shape
  have HEL := Lib.hid (show e.secs.length = sm by rw [h.secs, List.length_map, hsm.out])
  have HFL := Lib.hid (show f.secs.length = um by rw [h'.secs, List.length_map, hum.out])
  have hsm9 : sm ≤ 1000000000 := by have := HEL.out; have := ho.secs; omega
  have hgm9 : gm ≤ 1000000000 := by have := hgm.out; have := ho.segs; omega
  have hum9 : um ≤ 1000000000 := by have := HFL.out; have := ho'.secs; omega
  have hvm9 : vm ≤ 1000000000 := by have := hvm.out; have := ho'.segs; omega
  have HSE := Lib.hid (fun k x (hk : L[k]? = some x) => sec_of h.secs hk)
  have HSF := Lib.hid (fun k x (hk : M[k]? = some x) => sec_of h'.secs hk)
  clear h h' ho ho'
  cases hq0 : (e.typ == f.typ) with
  | false =>
    have HN : Hid (decide (e = f) = false) := Lib.hid (by
      rw [decide_eq_false_iff_not]
      intro hef
      have hq : e.typ ≠ f.typ := by simpa using hq0
      exact hq (by rw [hef]))
    have hn0 : (e.typ != f.typ) = true := by rw [bne, hq0]; rfl
    clear HA HA' HEL HFL HSE HSF
    go_enter Try.func50, Try.ntmps50
    go_wp2_with (first
      | ((with_reducible show wpList _ _ _ (⟨some 2, .box _ _, _, _, _, _⟩ :: _) _ _); go_must (refine wpList_box rfl ?_; intro w1 hx1 hb1 hs1; have HX1 := Lib.hid hx1; have HB1 := Lib.hid hb1; clear hx1 hb1))
      | ((with_reducible show wpList _ _ _ (⟨some 3, .box _ _, _, _, _, _⟩ :: _) _ _); go_must (refine wpList_box rfl ?_; intro w2 hx2 hb2 hs2; have HX2 := Lib.hid hx2; have HX12 := Lib.hid (heap_below hb2 HX1.out); have HB2 := Lib.hid (HB1.out.trans (hb2.mono HB1.out.size)); obtain ⟨c0, c1, c2, c3, c4, c5⟩ := elf_box (e := e) (sv := .slice sa sm sc) (gv := .slice ga gm gc) HX12.out; obtain ⟨d0, d1, d2, d3, d4, d5⟩ := elf_box (e := f) (sv := .slice ua um uc) (gv := .slice va vm vc) HX2.out; clear hx2 hb2)))
    go_ret
    exact ⟨by rw [HN.out]; rfl, HB2.out⟩
  | true =>
    have hn0 : (e.typ != f.typ) = false := by rw [bne, hq0]; rfl
    cases hq1 : (e.target == f.target) with
    | false =>
      have HN : Hid (decide (e = f) = false) := Lib.hid (by
        rw [decide_eq_false_iff_not]
        intro hef
        have hq : e.target ≠ f.target := by simpa using hq1
        exact hq (by rw [hef]))
      have hn1 : (e.target != f.target) = true := by rw [bne, hq1]; rfl
      clear HA HA' HEL HFL HSE HSF
      go_enter Try.func50, Try.ntmps50
      go_wp2_with (first
        | ((with_reducible show wpList _ _ _ (⟨some 2, .box _ _, _, _, _, _⟩ :: _) _ _); go_must (refine wpList_box rfl ?_; intro w1 hx1 hb1 hs1; have HX1 := Lib.hid hx1; have HB1 := Lib.hid hb1; clear hx1 hb1))
        | ((with_reducible show wpList _ _ _ (⟨some 3, .box _ _, _, _, _, _⟩ :: _) _ _); go_must (refine wpList_box rfl ?_; intro w2 hx2 hb2 hs2; have HX2 := Lib.hid hx2; have HX12 := Lib.hid (heap_below hb2 HX1.out); have HB2 := Lib.hid (HB1.out.trans (hb2.mono HB1.out.size)); obtain ⟨c0, c1, c2, c3, c4, c5⟩ := elf_box (e := e) (sv := .slice sa sm sc) (gv := .slice ga gm gc) HX12.out; obtain ⟨d0, d1, d2, d3, d4, d5⟩ := elf_box (e := f) (sv := .slice ua um uc) (gv := .slice va vm vc) HX2.out; clear hx2 hb2)))
      go_ret
      exact ⟨by rw [HN.out]; rfl, HB2.out⟩
    | true =>
      have hn1 : (e.target != f.target) = false := by rw [bne, hq1]; rfl
      cases hq2 : ((e.flags : Int) == (f.flags : Int)) with
      | false =>
        have HN : Hid (decide (e = f) = false) := Lib.hid (by
          rw [decide_eq_false_iff_not]
          intro hef
          have hq : (e.flags : Int) ≠ (f.flags : Int) := by simpa using hq2
          exact hq (by rw [hef]))
        have hn2 : ((e.flags : Int) != (f.flags : Int)) = true := by rw [bne, hq2]; rfl
        clear HA HA' HEL HFL HSE HSF
        go_enter Try.func50, Try.ntmps50
        go_wp2_with (first
          | ((with_reducible show wpList _ _ _ (⟨some 2, .box _ _, _, _, _, _⟩ :: _) _ _); go_must (refine wpList_box rfl ?_; intro w1 hx1 hb1 hs1; have HX1 := Lib.hid hx1; have HB1 := Lib.hid hb1; clear hx1 hb1))
          | ((with_reducible show wpList _ _ _ (⟨some 3, .box _ _, _, _, _, _⟩ :: _) _ _); go_must (refine wpList_box rfl ?_; intro w2 hx2 hb2 hs2; have HX2 := Lib.hid hx2; have HX12 := Lib.hid (heap_below hb2 HX1.out); have HB2 := Lib.hid (HB1.out.trans (hb2.mono HB1.out.size)); obtain ⟨c0, c1, c2, c3, c4, c5⟩ := elf_box (e := e) (sv := .slice sa sm sc) (gv := .slice ga gm gc) HX12.out; obtain ⟨d0, d1, d2, d3, d4, d5⟩ := elf_box (e := f) (sv := .slice ua um uc) (gv := .slice va vm vc) HX2.out; clear hx2 hb2)))
        go_ret
        exact ⟨by rw [HN.out]; rfl, HB2.out⟩
      | true =>
        have hn2 : ((e.flags : Int) != (f.flags : Int)) = false := by rw [bne, hq2]; rfl
        cases hq3 : ((e.entry : Int) == (f.entry : Int)) with
        | false =>
          have HN : Hid (decide (e = f) = false) := Lib.hid (by
            rw [decide_eq_false_iff_not]
            intro hef
            have hq : (e.entry : Int) ≠ (f.entry : Int) := by simpa using hq3
            exact hq (by rw [hef]))
          have hn3 : ((e.entry : Int) != (f.entry : Int)) = true := by rw [bne, hq3]; rfl
          clear HA HA' HEL HFL HSE HSF
          go_enter Try.func50, Try.ntmps50
          go_wp2_with (first
            | ((with_reducible show wpList _ _ _ (⟨some 2, .box _ _, _, _, _, _⟩ :: _) _ _); go_must (refine wpList_box rfl ?_; intro w1 hx1 hb1 hs1; have HX1 := Lib.hid hx1; have HB1 := Lib.hid hb1; clear hx1 hb1))
            | ((with_reducible show wpList _ _ _ (⟨some 3, .box _ _, _, _, _, _⟩ :: _) _ _); go_must (refine wpList_box rfl ?_; intro w2 hx2 hb2 hs2; have HX2 := Lib.hid hx2; have HX12 := Lib.hid (heap_below hb2 HX1.out); have HB2 := Lib.hid (HB1.out.trans (hb2.mono HB1.out.size)); obtain ⟨c0, c1, c2, c3, c4, c5⟩ := elf_box (e := e) (sv := .slice sa sm sc) (gv := .slice ga gm gc) HX12.out; obtain ⟨d0, d1, d2, d3, d4, d5⟩ := elf_box (e := f) (sv := .slice ua um uc) (gv := .slice va vm vc) HX2.out; clear hx2 hb2)))
          go_ret
          exact ⟨by rw [HN.out]; rfl, HB2.out⟩
        | true =>
          have hn3 : ((e.entry : Int) != (f.entry : Int)) = false := by rw [bne, hq3]; rfl
          cases hq4 : ((sm : Int) == (um : Int)) with
          | false =>
            have HN : Hid (decide (e = f) = false) := Lib.hid (by
              rw [decide_eq_false_iff_not]
              intro hef
              have hq : (sm : Int) ≠ (um : Int) := by simpa using hq4
              have h1 := HEL.out; have h2 := HFL.out; rw [hef] at h1; exact hq (by omega))
            have hn4 : ((sm : Int) != (um : Int)) = true := by rw [bne, hq4]; rfl
            clear HA HA' HEL HFL HSE HSF
            go_enter Try.func50, Try.ntmps50
            go_wp2_with (first
              | ((with_reducible show wpList _ _ _ (⟨some 2, .box _ _, _, _, _, _⟩ :: _) _ _); go_must (refine wpList_box rfl ?_; intro w1 hx1 hb1 hs1; have HX1 := Lib.hid hx1; have HB1 := Lib.hid hb1; clear hx1 hb1))
              | ((with_reducible show wpList _ _ _ (⟨some 3, .box _ _, _, _, _, _⟩ :: _) _ _); go_must (refine wpList_box rfl ?_; intro w2 hx2 hb2 hs2; have HX2 := Lib.hid hx2; have HX12 := Lib.hid (heap_below hb2 HX1.out); have HB2 := Lib.hid (HB1.out.trans (hb2.mono HB1.out.size)); obtain ⟨c0, c1, c2, c3, c4, c5⟩ := elf_box (e := e) (sv := .slice sa sm sc) (gv := .slice ga gm gc) HX12.out; obtain ⟨d0, d1, d2, d3, d4, d5⟩ := elf_box (e := f) (sv := .slice ua um uc) (gv := .slice va vm vc) HX2.out; clear hx2 hb2)))
            go_ret
            exact ⟨by rw [HN.out]; rfl, HB2.out⟩
          | true =>
            have hn4 : ((sm : Int) != (um : Int)) = false := by rw [bne, hq4]; rfl
            cases hq5 : ((gm : Int) == (vm : Int)) with
            | false =>
              have HN : Hid (decide (e = f) = false) := Lib.hid (by
                rw [decide_eq_false_iff_not]
                intro hef
                have hq : (gm : Int) ≠ (vm : Int) := by simpa using hq5
                have h1 := hgm.out; have h2 := hvm.out; rw [hef] at h1; exact hq (by omega))
              have hn5 : ((gm : Int) != (vm : Int)) = true := by rw [bne, hq5]; rfl
              clear HA HA' HEL HFL HSE HSF
              go_enter Try.func50, Try.ntmps50
              go_wp2_with (first
                | ((with_reducible show wpList _ _ _ (⟨some 2, .box _ _, _, _, _, _⟩ :: _) _ _); go_must (refine wpList_box rfl ?_; intro w1 hx1 hb1 hs1; have HX1 := Lib.hid hx1; have HB1 := Lib.hid hb1; clear hx1 hb1))
                | ((with_reducible show wpList _ _ _ (⟨some 3, .box _ _, _, _, _, _⟩ :: _) _ _); go_must (refine wpList_box rfl ?_; intro w2 hx2 hb2 hs2; have HX2 := Lib.hid hx2; have HX12 := Lib.hid (heap_below hb2 HX1.out); have HB2 := Lib.hid (HB1.out.trans (hb2.mono HB1.out.size)); obtain ⟨c0, c1, c2, c3, c4, c5⟩ := elf_box (e := e) (sv := .slice sa sm sc) (gv := .slice ga gm gc) HX12.out; obtain ⟨d0, d1, d2, d3, d4, d5⟩ := elf_box (e := f) (sv := .slice ua um uc) (gv := .slice va vm vc) HX2.out; clear hx2 hb2)))
              go_ret
              exact ⟨by rw [HN.out]; rfl, HB2.out⟩
            | true =>
              have hn5 : ((gm : Int) != (vm : Int)) = false := by rw [bne, hq5]; rfl
              have HTY := Lib.hid (show e.typ = f.typ by simpa using hq0)
              have HTG := Lib.hid (show e.target = f.target by simpa using hq1)
              have HFG := Lib.hid (show e.flags = f.flags by
                have h9 : (e.flags : Int) = f.flags := by simpa using hq2
                omega)
              have HEN := Lib.hid (show e.entry = f.entry by
                have h9 : (e.entry : Int) = f.entry := by simpa using hq3
                omega)
              obtain rfl : um = sm := by
                have h9 : (sm : Int) = um := by simpa using hq4
                omega
              obtain rfl : vm = gm := by
                have h9 : (gm : Int) = vm := by simpa using hq5
                omega
              clear hq4 hq5 hn4 hn5
              go_enter Try.func50, Try.ntmps50
              go_wp2_with (first
                | ((with_reducible show wpList _ _ _ (⟨some 2, .box _ _, _, _, _, _⟩ :: _) _ _); go_must (refine wpList_box rfl ?_; intro w1 hx1 hb1 hs1; have HX1 := Lib.hid hx1; have HB1 := Lib.hid hb1; clear hx1 hb1))
                | ((with_reducible show wpList _ _ _ (⟨some 3, .box _ _, _, _, _, _⟩ :: _) _ _); go_must (refine wpList_box rfl ?_; intro w2 hx2 hb2 hs2; have HX2 := Lib.hid hx2; have HX12 := Lib.hid (heap_below hb2 HX1.out); have HB2 := Lib.hid (HB1.out.trans (hb2.mono HB1.out.size)); obtain ⟨c0, c1, c2, c3, c4, c5⟩ := elf_box (e := e) (sv := .slice sa um sc) (gv := .slice ga vm gc) HX12.out; obtain ⟨d0, d1, d2, d3, d4, d5⟩ := elf_box (e := f) (sv := .slice ua um uc) (gv := .slice va vm vc) HX2.out; clear hx2 hb2)))
              clear hq0 hq1 hq2 hq3 hn0 hn1 hn2 hn3 c0 c1 c2 c3 c4 c5 d0 d1 d2 d3 d4 d5
              go_loopw [5] (fun i wr => ∃ k : Nat, i = .int .i64 k ∧ k ≤ vm ∧ Hid (e.segs.take k = f.segs.take k) ∧ Hid (Below w2.heap.size w2 wr)) (fun i _ => vm - (intOf i).toNat)
              case atStart => exact ⟨0, rfl, Nat.zero_le _, rfl, Below.refl _ _⟩
              case round =>
                obtain ⟨k, rfl, hk, HT1, HB⟩ := hrel
                have HBW := Lib.hid (HB2.out.trans (HB.out.mono HB2.out.size))
                obtain ⟨c0, c1, c2, c3, c4, c5⟩ := elf_box (e := e) (sv := .slice sa um sc) (gv := .slice ga vm gc) (heap_below HB.out HX12.out)
                obtain ⟨d0, d1, d2, d3, d4, d5⟩ := elf_box (e := f) (sv := .slice ua um uc) (gv := .slice va vm vc) (heap_below HB.out HX2.out)
                clear c0 c1 c2 c3 d0 d1 d2 d3
                by_cases hlt : k < vm
                · clear c4 d4
                  have X1 := Lib.hid (show e.segs[k]? = some (e.segs[k]'(by have := hgm.out; omega)) from List.getElem?_eq_getElem _)
                  have X2 := Lib.hid (show f.segs[k]? = some (f.segs[k]'(by have := hvm.out; omega)) from List.getElem?_eq_getElem _)
                  generalize e.segs[k]'(by have := hgm.out; omega) = x at *
                  generalize f.segs[k]'(by have := hvm.out; omega) = y at *
                  obtain ⟨a9, ca9, hq9, -, -, hcs⟩ := HA.out.segs.open (fun _ => rfl)
                  obtain ⟨b9, cb9, hr9, -, -, hds⟩ := HA'.out.segs.open (fun _ => rfl)
                  have e1 : ga = a9 := by injection hq9
                  have e2 : va = b9 := by injection hr9
                  subst e1 e2
                  obtain ⟨b1, o1, ha1, u0, u1, u2, u3, u4, u5, u6, -⟩ := seg_cells hcs HBW.out X1.out
                  obtain ⟨b2, o2, ha2, v0, v1, v2, v3, v4, v5, v6, -⟩ := seg_cells hds HBW.out X2.out
                  subst ha1 ha2
                  clear hcs hds hq9 hr9
                  go_wp2
                  refine wp_region_quiet_lit (by kernel_rfl) (by kernel_rfl) ?_
                  repeat (first
                    | ((with_reducible show wpQuiet _ _ _ _ (⟨some 70, _, _, _, _, _⟩ :: _) _); refine wpQuiet_run rfl (by rintro _ ⟨n, rfl⟩; exact run_bin rfl rfl (neq_seg x y _ _ _)) ?_)
                    | quiet_step (fail))
                  refine wpQuiet_nil ?_
                  rintro _ ⟨nq, rfl⟩
                  clear c5 d5 u0 u1 u2 u3 u4 u5 u6 v0 v1 v2 v3 v4 v5 v6
                  by_cases hxy : x = y
                  · rw [show (!decide (x = y)) = false by simpa using hxy]
                    have HN := Lib.hid (take_step X1.out X2.out HT1.out hxy)
                    clear hxy
                    go_wp2
                    go_roundw
                    case rel =>
                      first
                        | exact ⟨k + 1, by go_num, by omega, HN.out, HB.out.drewN _⟩
                        | ((repeat apply Exists.intro); exact ⟨⟨k + 1, by go_num, by omega, HN.out, HB.out.drewN _⟩, rfl⟩)
                    case measure => simp [intOf] <;> omega
                  · rw [show (!decide (x = y)) = true by simpa using hxy]
                    have HN := Lib.hid (show decide (e = f) = false by
                      rw [decide_eq_false_iff_not]
                      exact fun hef => take_diff X1.out X2.out hxy (by rw [hef]))
                    clear hxy
                    go_wp2
                    go_ret
                    exact ⟨by rw [HN.out]; rfl, HBW.out.drewN _⟩
                · have HSG := Lib.hid (show e.segs = f.segs from take_all HT1.out (by have := hgm.out; omega) (by have := hvm.out; omega))
                  obtain rfl : vm = k := by omega
                  go_wp2
                  clear c5 d5 c4 d4
                  have HXo := Lib.hid (heap_below HB.out HX12.out)
                  have HXp := Lib.hid (heap_below HB.out HX2.out)
                  obtain ⟨wo, rfl⟩ : ∃ wo : World, wo = wr := ⟨_, rfl⟩
                  go_loopw [6] (fun i wr => ∃ k : Nat, i = .int .i64 k ∧ k ≤ um ∧ Hid (e.secs.take k = f.secs.take k) ∧ Hid (Below wo.heap.size wo wr)) (fun i _ => um - (intOf i).toNat)
                  case atStart => exact ⟨0, rfl, Nat.zero_le _, rfl, Below.refl _ _⟩
                  case round =>
                    obtain ⟨k, rfl, hk, HT2, HBq⟩ := hrel
                    have HBV := Lib.hid (HBW.out.trans (HBq.out.mono HBW.out.size))
                    obtain ⟨c0, c1, c2, c3, c4, c5⟩ := elf_box (e := e) (sv := .slice sa um sc) (gv := .slice ga vm gc) (heap_below HBq.out HXo.out)
                    obtain ⟨d0, d1, d2, d3, d4, d5⟩ := elf_box (e := f) (sv := .slice ua um uc) (gv := .slice va vm vc) (heap_below HBq.out HXp.out)
                    clear c0 c1 c2 c3 c5 d0 d1 d2 d3 d5
                    by_cases hlt : k < um
                    · have X1 := Lib.hid (show L[k]? = some (L[k]'(by have := hsm.out; omega)) from List.getElem?_eq_getElem _)
                      have X2 := Lib.hid (show M[k]? = some (M[k]'(by have := hum.out; omega)) from List.getElem?_eq_getElem _)
                      generalize L[k]'(by have := hsm.out; omega) = x at *
                      generalize M[k]'(by have := hum.out; omega) = y at *
                      obtain ⟨s, dv⟩ := x
                      obtain ⟨t, du⟩ := y
                      have HDV := Lib.hid (HA.out.data _ (List.mem_of_getElem? X1.out))
                      have HDU := Lib.hid (HA'.out.data _ (List.mem_of_getElem? X2.out))
                      obtain ⟨p9, q9, r9, -, rfl, _, _⟩ := HDV.out.shape
                      obtain ⟨p8, q8, r8, -, rfl, _, _⟩ := HDU.out.shape
                      obtain ⟨a9, ca9, hq9, -, -, hcs⟩ := HA.out.rd.open (fun _ => rfl)
                      obtain ⟨b9, cb9, hr9, -, -, hds⟩ := HA'.out.rd.open (fun _ => rfl)
                      have e1 : sa = a9 := by injection hq9
                      have e2 : ua = b9 := by injection hr9
                      subst e1 e2
                      obtain ⟨b1, o1, ha1, u0, u1, u2, u3, u4, u5, u6, u7, u8, u9, -⟩ := sec_cells hcs HBV.out X1.out
                      obtain ⟨b2, o2, ha2, v0, v1, v2, v3, v4, v5, v6, v7, v8, v9, -⟩ := sec_cells hds HBV.out X2.out
                      subst ha1 ha2
                      obtain ⟨n1, t1, f1, a1, l1, s1, k1, i1, e1, x1⟩ := s
                      obtain ⟨n2, t2, f2, a2, l2, s2, k2, i2, e2, x2⟩ := t
                      dsimp only at *
                      clear hcs hds hq9 hr9
                      have hAB := fun (x : Above wr) (b k : Nat) (h : b < wr.heap.size) => Above.cell x b k h
                      have m1 := block_lt c4
                      have m2 := block_lt d4
                      have m3 := block_lt u0
                      have m4 := block_lt v0
                      go_upto_region 11 with (fail)
                      go_cut [7, 8] from 78 to 87 (fun s7 s8 wx => ∃ g7 g8 : Nat, s7 = .pointer (some ⟨g7, 0, none⟩) ∧ s8 = .pointer (some ⟨g8, 0, none⟩) ∧ Hid (wx.heap[g7]? = some (.cells (encSec (⟨n1, t1, f1, a1, l1, s1, k1, i1, e1, x1⟩, .slice q9 p9 r9)).toArray 69 (0, 0))) ∧ Hid (wx.heap[g8]? = some (.cells (encSec (⟨n2, t2, f2, a2, l2, s2, k2, i2, e2, x2⟩, .slice q8 p8 r8)).toArray 69 (0, 0))) ∧ Hid (Below wr.heap.size wr wx))
                      case first =>
                        rename_i J1 K1 hJ1 hK1
                        refine wp_region_held (S := SAb wr) (by kernel_rfl) ?_
                        change wpAnyH _ _ _ _ _ 14 _ _ _
                        have hb0 : Below wr.heap.size wr { wr with drawn := wr.drawn + 1 } := (Below.refl _ _).drew
                        refine held_quiet (i := 0) (w0 := wr) rfl (by kernel_rfl) rfl rfl (fun _ _ _ _ h => h) hb0 ?_
                        intro K hK
                        go_big_quiet_op
                        go_big_quiet_on
                        refine held_quiet (i := 1) (w0 := wr) rfl (by kernel_rfl) rfl rfl (fun _ _ _ _ h => h) hb0 ?_
                        intro K hK
                        go_big_quiet_op
                        go_big_quiet_on
                        refine held_quiet (i := 2) (w0 := wr) rfl (by kernel_rfl) rfl rfl (fun _ _ _ _ h => h) hb0 ?_
                        intro K hK
                        go_big_quiet_op
                        go_big_quiet_on
                        refine held_quiet (i := 3) (w0 := wr) rfl (by kernel_rfl) rfl rfl (fun _ _ _ _ h => h) hb0 ?_
                        intro K hK
                        go_big_quiet_op
                        go_big_quiet_on
                        refine held_quiet (i := 4) (w0 := wr) rfl (by kernel_rfl) rfl rfl (fun _ _ _ _ h => h) hb0 ?_
                        intro K hK
                        go_big_quiet_op
                        go_big_quiet_on
                        refine held_quiet (i := 5) (w0 := wr) rfl (by kernel_rfl) rfl rfl (fun _ _ _ _ h => h) hb0 ?_
                        intro K hK
                        go_big_quiet_op
                        go_big_quiet_on
                        refine held_quiet (i := 6) (w0 := wr) rfl (by kernel_rfl) rfl rfl (fun _ _ _ _ h => h) hb0 ?_
                        intro K hK
                        go_big_quiet_op
                        go_big_quiet_on
                        refine held_quiet (i := 7) (w0 := wr) rfl (by kernel_rfl) rfl rfl (fun _ _ _ _ h => h) hb0 ?_
                        intro K hK
                        go_big_quiet_op
                        go_big_quiet_on
                        refine held_quiet (i := 8) (w0 := wr) rfl (by kernel_rfl) rfl rfl (fun _ _ _ _ h => h) hb0 ?_
                        intro K hK
                        go_big_quiet_op
                        go_big_quiet_on
                        refine held_quiet (i := 9) (w0 := wr) rfl (by kernel_rfl) rfl rfl (fun _ _ _ _ h => h) hb0 ?_
                        intro K hK
                        go_big_quiet_op
                        go_big_quiet_on
                        clear hAB
                        refine wpAnyH_all (rs := [10, 11]) (by kernel_rfl) (by simp) ?_
                        intro i hi
                        simp only [List.mem_cons, List.not_mem_nil, or_false] at hi
                        rcases hi with hi | hi
                        · subst hi
                          refine wpOp_of_list (i := 10) rfl ?_
                          refine wpList_allocSec ?_
                          intro wa hxa hba hsa
                          refine ⟨hb0.trans (hba.mono hb0.size), ?_⟩
                          refine wpAnyH_all (rs := [11]) (by kernel_rfl) (by simp) ?_
                          intro i hi
                          rw [List.mem_singleton] at hi
                          subst hi
                          refine wpOp_of_list (i := 11) rfl ?_
                          refine wpList_allocSec ?_
                          intro wb hxb hbb hsb
                          have HAB0 := Lib.hid (hb0.trans ((hba.mono hb0.size).trans (hbb.mono (Nat.le_trans hb0.size hba.size))))
                          refine ⟨HAB0.out, ?_⟩
                          have HB7 := Lib.hid (heap_below hbb hxa)
                          have HB8 := Lib.hid hxb
                          have hge7 : wr.heap.size ≤ wr.heap.size := hb0.size
                          have hge8 : wr.heap.size ≤ wa.heap.size := Nat.le_trans hb0.size hba.size
                          clear hxa hxb hba hbb
                          refine wpAnyH_all (rs := [12]) (by kernel_rfl) (by simp) ?_
                          intro i hi
                          rw [List.mem_singleton] at hi
                          subst hi
                          refine wpOp_of_list (i := 12) rfl ?_
                          refine wpList_storeRowS HB7.out rfl rfl rfl (by kernel_rfl) (by simp [Value.oneCell']) ?_
                          intro wc hhc hsc
                          have HC7 := Lib.hid hhc
                          have HC8 := Lib.hid (hsc.kept HB8.out (fun e => (by have e2 : wa.heap.size = ({ wr with drawn := wr.drawn + 1 } : World).heap.size := e; omega)))
                          have HSC0 := Lib.hid (HAB0.out.trans (hsc.below HAB0.out.size (fun j hj => by rw [hj]; exact hge7)))
                          refine ⟨HSC0.out, ?_⟩
                          clear hhc hsc
                          refine wpAnyH_all (rs := [13]) (by kernel_rfl) (by simp) ?_
                          intro i hi
                          rw [List.mem_singleton] at hi
                          subst hi
                          refine wpOp_of_list (i := 13) rfl ?_
                          refine wpList_storeRowS HC8.out rfl rfl rfl (by kernel_rfl) (by simp [Value.oneCell']) ?_
                          intro wy hhy hsy
                          have HY8 := Lib.hid hhy
                          have HY7 := Lib.hid (hsy.kept HC7.out (fun e => (by have e2 : ({ wr with drawn := wr.drawn + 1 } : World).heap.size = wa.heap.size := e; omega)))
                          have HSY := Lib.hid (HSC0.out.trans (hsy.below HSC0.out.size (fun j hj => by rw [hj]; exact hge8)))
                          refine ⟨HSY.out, ?_⟩
                          clear hhy hsy hsa hsb
                          refine wpAnyH_done (by kernel_rfl) ?_ _
                          go_frame
                          first
                            | refine hK1 _ _ (Met.intro (hJ1 _ _ ?_))
                            | refine Met.intro (hJ1 _ _ ?_)
                          repeat apply Exists.intro
                          refine ⟨?_, rfl⟩
                          exact ⟨_, _, rfl, rfl, HY7, HY8, HSY⟩
                        · subst hi
                          refine wpOp_of_list (i := 11) rfl ?_
                          refine wpList_allocSec ?_
                          intro wa hxa hba hsa
                          refine ⟨hb0.trans (hba.mono hb0.size), ?_⟩
                          refine wpAnyH_all (rs := [10]) (by kernel_rfl) (by simp) ?_
                          intro i hi
                          rw [List.mem_singleton] at hi
                          subst hi
                          refine wpOp_of_list (i := 10) rfl ?_
                          refine wpList_allocSec ?_
                          intro wb hxb hbb hsb
                          have HAB0 := Lib.hid (hb0.trans ((hba.mono hb0.size).trans (hbb.mono (Nat.le_trans hb0.size hba.size))))
                          refine ⟨HAB0.out, ?_⟩
                          have HB8 := Lib.hid (heap_below hbb hxa)
                          have HB7 := Lib.hid hxb
                          have hge8 : wr.heap.size ≤ wr.heap.size := hb0.size
                          have hge7 : wr.heap.size ≤ wa.heap.size := Nat.le_trans hb0.size hba.size
                          clear hxa hxb hba hbb
                          refine wpAnyH_all (rs := [12]) (by kernel_rfl) (by simp) ?_
                          intro i hi
                          rw [List.mem_singleton] at hi
                          subst hi
                          refine wpOp_of_list (i := 12) rfl ?_
                          refine wpList_storeRowS HB7.out rfl rfl rfl (by kernel_rfl) (by simp [Value.oneCell']) ?_
                          intro wc hhc hsc
                          have HC7 := Lib.hid hhc
                          have HC8 := Lib.hid (hsc.kept HB8.out (fun e => (by have e2 : ({ wr with drawn := wr.drawn + 1 } : World).heap.size = wa.heap.size := e; omega)))
                          have HSC0 := Lib.hid (HAB0.out.trans (hsc.below HAB0.out.size (fun j hj => by rw [hj]; exact hge7)))
                          refine ⟨HSC0.out, ?_⟩
                          clear hhc hsc
                          refine wpAnyH_all (rs := [13]) (by kernel_rfl) (by simp) ?_
                          intro i hi
                          rw [List.mem_singleton] at hi
                          subst hi
                          refine wpOp_of_list (i := 13) rfl ?_
                          refine wpList_storeRowS HC8.out rfl rfl rfl (by kernel_rfl) (by simp [Value.oneCell']) ?_
                          intro wy hhy hsy
                          have HY8 := Lib.hid hhy
                          have HY7 := Lib.hid (hsy.kept HC7.out (fun e => (by have e2 : wa.heap.size = ({ wr with drawn := wr.drawn + 1 } : World).heap.size := e; omega)))
                          have HSY := Lib.hid (HSC0.out.trans (hsy.below HSC0.out.size (fun j hj => by rw [hj]; exact hge8)))
                          refine ⟨HSY.out, ?_⟩
                          clear hhy hsy hsa hsb
                          refine wpAnyH_done (by kernel_rfl) ?_ _
                          go_frame
                          first
                            | refine hK1 _ _ (Met.intro (hJ1 _ _ ?_))
                            | refine Met.intro (hJ1 _ _ ?_)
                          repeat apply Exists.intro
                          refine ⟨?_, rfl⟩
                          exact ⟨_, _, rfl, rfl, HY7, HY8, HSY⟩
                      case rest =>
                        obtain ⟨g7, g8, rfl, rfl, HY7, HY8, HSY⟩ := hcut
                        obtain ⟨wy, rfl⟩ : ∃ wy : World, wy = wc := ⟨_, rfl⟩
                        have HBY := Lib.hid (HBV.out.trans (HSY.out.mono HBV.out.size))
                        have HBQ := Lib.hid (HBq.out.trans (HSY.out.mono HBq.out.size))
                        have hk1 := run_str (HDV.out.mono HBY.out)
                        have hk2 := run_str (HDU.out.mono HBY.out)
                        clear hAB c4 d4 u0 u1 u2 u3 u4 u5 u6 u7 u8 u9 v0 v1 v2 v3 v4 v5 v6 v7 v8 v9 m1 m2 m3 m4
                        obtain ⟨c0, c1, c2, c3, c4, c5, c6, c7, c8, c9⟩ := sec_box (x := (⟨n1, t1, f1, a1, l1, s1, k1, i1, e1, x1⟩, .slice q9 p9 r9)) HY7.out
                        obtain ⟨d0, d1, d2, d3, d4, d5, d6, d7, d8, d9⟩ := sec_box (x := (⟨n2, t2, f2, a2, l2, s2, k2, i2, e2, x2⟩, .slice q8 p8 r8)) HY8.out
                        dsimp only at c0 c1 c2 c3 c4 c5 c6 c7 c8 c9 d0 d1 d2 d3 d4 d5 d6 d7 d8 d9 hk1 hk2
                        go_upto_region 12 with (fail)
                        go_cut [157] from 88 to 156 (fun s157 wx => s157 = .bool (!decide ((⟨n1, t1, f1, a1, l1, s1, k1, i1, e1, x1⟩ : SecM) = ⟨n2, t2, f2, a2, l2, s2, k2, i2, e2, x2⟩)) ∧ Hid (wx = wy))
                        case first =>
                          cases hp0 : (n1 == n2) with
                          | false =>
                            have HNS : Hid (decide ((⟨n1, t1, f1, a1, l1, s1, k1, i1, e1, x1⟩ : SecM) = ⟨n2, t2, f2, a2, l2, s2, k2, i2, e2, x2⟩) = false) := Lib.hid (by
                              rw [decide_eq_false_iff_not]
                              intro hxy
                              have hq : n1 = n2 := by injection hxy
                              rw [hq] at hp0
                              simp at hp0)
                            have hz0 : (n1 != n2) = true := by rw [bne, hp0]; rfl
                            go_wp2
                            go_meet
                            exact ⟨by rw [HNS.out]; rfl, rfl⟩
                          | true =>
                            have hz0 : (n1 != n2) = false := by rw [bne, hp0]; rfl
                            cases hp1 : ((t1 : Int) == (t2 : Int)) with
                            | false =>
                              have HNS : Hid (decide ((⟨n1, t1, f1, a1, l1, s1, k1, i1, e1, x1⟩ : SecM) = ⟨n2, t2, f2, a2, l2, s2, k2, i2, e2, x2⟩) = false) := Lib.hid (by
                                rw [decide_eq_false_iff_not]
                                intro hxy
                                have hq : t1 = t2 := by injection hxy
                                rw [hq] at hp1
                                simp at hp1)
                              have hz1 : ((t1 : Int) != (t2 : Int)) = true := by rw [bne, hp1]; rfl
                              go_wp2
                              go_meet
                              exact ⟨by rw [HNS.out]; rfl, rfl⟩
                            | true =>
                              have hz1 : ((t1 : Int) != (t2 : Int)) = false := by rw [bne, hp1]; rfl
                              cases hp2 : ((f1 : Int) == (f2 : Int)) with
                              | false =>
                                have HNS : Hid (decide ((⟨n1, t1, f1, a1, l1, s1, k1, i1, e1, x1⟩ : SecM) = ⟨n2, t2, f2, a2, l2, s2, k2, i2, e2, x2⟩) = false) := Lib.hid (by
                                  rw [decide_eq_false_iff_not]
                                  intro hxy
                                  have hq : f1 = f2 := by injection hxy
                                  rw [hq] at hp2
                                  simp at hp2)
                                have hz2 : ((f1 : Int) != (f2 : Int)) = true := by rw [bne, hp2]; rfl
                                go_wp2
                                go_meet
                                exact ⟨by rw [HNS.out]; rfl, rfl⟩
                              | true =>
                                have hz2 : ((f1 : Int) != (f2 : Int)) = false := by rw [bne, hp2]; rfl
                                cases hp3 : ((a1 : Int) == (a2 : Int)) with
                                | false =>
                                  have HNS : Hid (decide ((⟨n1, t1, f1, a1, l1, s1, k1, i1, e1, x1⟩ : SecM) = ⟨n2, t2, f2, a2, l2, s2, k2, i2, e2, x2⟩) = false) := Lib.hid (by
                                    rw [decide_eq_false_iff_not]
                                    intro hxy
                                    have hq : a1 = a2 := by injection hxy
                                    rw [hq] at hp3
                                    simp at hp3)
                                  have hz3 : ((a1 : Int) != (a2 : Int)) = true := by rw [bne, hp3]; rfl
                                  go_wp2
                                  go_meet
                                  exact ⟨by rw [HNS.out]; rfl, rfl⟩
                                | true =>
                                  have hz3 : ((a1 : Int) != (a2 : Int)) = false := by rw [bne, hp3]; rfl
                                  cases hp4 : ((l1 : Int) == (l2 : Int)) with
                                  | false =>
                                    have HNS : Hid (decide ((⟨n1, t1, f1, a1, l1, s1, k1, i1, e1, x1⟩ : SecM) = ⟨n2, t2, f2, a2, l2, s2, k2, i2, e2, x2⟩) = false) := Lib.hid (by
                                      rw [decide_eq_false_iff_not]
                                      intro hxy
                                      have hq : l1 = l2 := by injection hxy
                                      rw [hq] at hp4
                                      simp at hp4)
                                    have hz4 : ((l1 : Int) != (l2 : Int)) = true := by rw [bne, hp4]; rfl
                                    go_wp2
                                    go_meet
                                    exact ⟨by rw [HNS.out]; rfl, rfl⟩
                                  | true =>
                                    have hz4 : ((l1 : Int) != (l2 : Int)) = false := by rw [bne, hp4]; rfl
                                    cases hp5 : ((s1 : Int) == (s2 : Int)) with
                                    | false =>
                                      have HNS : Hid (decide ((⟨n1, t1, f1, a1, l1, s1, k1, i1, e1, x1⟩ : SecM) = ⟨n2, t2, f2, a2, l2, s2, k2, i2, e2, x2⟩) = false) := Lib.hid (by
                                        rw [decide_eq_false_iff_not]
                                        intro hxy
                                        have hq : s1 = s2 := by injection hxy
                                        rw [hq] at hp5
                                        simp at hp5)
                                      have hz5 : ((s1 : Int) != (s2 : Int)) = true := by rw [bne, hp5]; rfl
                                      go_wp2
                                      go_meet
                                      exact ⟨by rw [HNS.out]; rfl, rfl⟩
                                    | true =>
                                      have hz5 : ((s1 : Int) != (s2 : Int)) = false := by rw [bne, hp5]; rfl
                                      cases hp6 : ((k1 : Int) == (k2 : Int)) with
                                      | false =>
                                        have HNS : Hid (decide ((⟨n1, t1, f1, a1, l1, s1, k1, i1, e1, x1⟩ : SecM) = ⟨n2, t2, f2, a2, l2, s2, k2, i2, e2, x2⟩) = false) := Lib.hid (by
                                          rw [decide_eq_false_iff_not]
                                          intro hxy
                                          have hq : k1 = k2 := by injection hxy
                                          rw [hq] at hp6
                                          simp at hp6)
                                        have hz6 : ((k1 : Int) != (k2 : Int)) = true := by rw [bne, hp6]; rfl
                                        go_wp2
                                        go_meet
                                        exact ⟨by rw [HNS.out]; rfl, rfl⟩
                                      | true =>
                                        have hz6 : ((k1 : Int) != (k2 : Int)) = false := by rw [bne, hp6]; rfl
                                        cases hp7 : ((i1 : Int) == (i2 : Int)) with
                                        | false =>
                                          have HNS : Hid (decide ((⟨n1, t1, f1, a1, l1, s1, k1, i1, e1, x1⟩ : SecM) = ⟨n2, t2, f2, a2, l2, s2, k2, i2, e2, x2⟩) = false) := Lib.hid (by
                                            rw [decide_eq_false_iff_not]
                                            intro hxy
                                            have hq : i1 = i2 := by injection hxy
                                            rw [hq] at hp7
                                            simp at hp7)
                                          have hz7 : ((i1 : Int) != (i2 : Int)) = true := by rw [bne, hp7]; rfl
                                          go_wp2
                                          go_meet
                                          exact ⟨by rw [HNS.out]; rfl, rfl⟩
                                        | true =>
                                          have hz7 : ((i1 : Int) != (i2 : Int)) = false := by rw [bne, hp7]; rfl
                                          cases hp8 : ((e1 : Int) == (e2 : Int)) with
                                          | false =>
                                            have HNS : Hid (decide ((⟨n1, t1, f1, a1, l1, s1, k1, i1, e1, x1⟩ : SecM) = ⟨n2, t2, f2, a2, l2, s2, k2, i2, e2, x2⟩) = false) := Lib.hid (by
                                              rw [decide_eq_false_iff_not]
                                              intro hxy
                                              have hq : e1 = e2 := by injection hxy
                                              rw [hq] at hp8
                                              simp at hp8)
                                            have hz8 : ((e1 : Int) != (e2 : Int)) = true := by rw [bne, hp8]; rfl
                                            go_wp2
                                            go_meet
                                            exact ⟨by rw [HNS.out]; rfl, rfl⟩
                                          | true =>
                                            have hz8 : ((e1 : Int) != (e2 : Int)) = false := by rw [bne, hp8]; rfl
                                            cases hp9 : (x1 == x2) with
                                            | false =>
                                              have HNS : Hid (decide ((⟨n1, t1, f1, a1, l1, s1, k1, i1, e1, x1⟩ : SecM) = ⟨n2, t2, f2, a2, l2, s2, k2, i2, e2, x2⟩) = false) := Lib.hid (by
                                                rw [decide_eq_false_iff_not]
                                                intro hxy
                                                have hq : x1 = x2 := by injection hxy
                                                rw [hq] at hp9
                                                simp at hp9)
                                              have hz9 : (x1 != x2) = true := by rw [bne, hp9]; rfl
                                              go_wp2
                                              go_meet
                                              exact ⟨by rw [HNS.out]; rfl, rfl⟩
                                            | true =>
                                              have hz9 : (x1 != x2) = false := by rw [bne, hp9]; rfl
                                              have HEQ : Hid (decide ((⟨n1, t1, f1, a1, l1, s1, k1, i1, e1, x1⟩ : SecM) = ⟨n2, t2, f2, a2, l2, s2, k2, i2, e2, x2⟩) = true) := Lib.hid (by
                                                simp only [beq_iff_eq, Int.natCast_inj] at hp0 hp1 hp2 hp3 hp4 hp5 hp6 hp7 hp8 hp9
                                                subst hp0 hp1 hp2 hp3 hp4 hp5 hp6 hp7 hp8 hp9
                                                exact decide_eq_true rfl)
                                              go_wp2
                                              go_meet
                                              exact ⟨by rw [HEQ.out]; rfl, rfl⟩
                        case rest =>
                          obtain ⟨rfl, HWX⟩ := hcut
                          have e9 := HWX.out
                          subst e9
                          by_cases hxy : (⟨n1, t1, f1, a1, l1, s1, k1, i1, e1, x1⟩ : SecM) = ⟨n2, t2, f2, a2, l2, s2, k2, i2, e2, x2⟩
                          · rw [decide_eq_true hxy]
                            have HT3 := Lib.hid (take_step (HSE.out _ _ X1.out) (HSF.out _ _ X2.out) HT2.out hxy)
                            clear hxy
                            go_wp2
                            go_round
                            case rel => exact ⟨k + 1, by go_num, by omega, HT3.out, HBQ.out⟩
                            case measure => simp [intOf] <;> omega
                          · rw [decide_eq_false hxy]
                            have HNS : Hid (decide (e = f) = false) := Lib.hid (by
                              rw [decide_eq_false_iff_not]
                              exact fun hef => take_diff (HSE.out _ _ X1.out) (HSF.out _ _ X2.out) hxy (by rw [hef]))
                            clear hxy
                            go_wp2
                            go_ret
                            exact ⟨by rw [HNS.out]; rfl, HBY.out⟩
                    · have HSC := Lib.hid (show e.secs = f.secs from take_all HT2.out (by have := HEL.out; omega) (by have := HFL.out; omega))
                      have HEQ := Lib.hid (show decide (e = f) = true from decide_eq_true (elf_ext HTY.out HTG.out HFG.out HEN.out HSC.out HSG.out))
                      go_wp2
                      go_ret
                      exact ⟨by rw [HEQ.out]; rfl, HBV.out⟩
end Go.Proofs.Ytgjoimcgiofinaa
namespace Go.Proofs.Ytgjoimcgiofinaa
open Go.RowKit Go.Fd
theorem readE_ok {l : List UInt8} (hl : l.length ≤ 4194304) : ElfOk (readE l).1 := by
  unfold readE
  split
  · exact elf0_ok
  · split
    · next h => exact parse_ok hl h.1
    · exact elf0_ok
theorem readE_data {l : List UInt8} {s : SecM} (h : s ∈ (readE l).1.secs) : s.data.length ≤ l.length := by
  unfold readE at h
  split at h
  · exact absurd h (by simp [elf0])
  · split at h
    · obtain ⟨i, hi⟩ := List.mem_iff_getElem?.1 h
      rw [secsP_get hi]
      exact secP_data _ _ _
    · exact absurd h (by simp [elf0])
theorem Twined.stirsB {w w' : World} {b : Nat} {t : Value} {l : List UInt8} {S : Nat → Prop} (h : Twined w b t l) (hs : Stirs S w w') (hn : ∀ k, t.ownBlock = some k → ¬ S k) : Twined w' b t l := by
  obtain ⟨g, cap, rfl, h2, h3, h4⟩ := h
  exact ⟨g, cap, rfl, h2, h3, owns_stirs h4 hs (fun k hk => hn k hk)⟩
theorem Twined.ltB {w : World} {b : Nat} {t : Value} {l : List UInt8} (h : Twined w b t l) : ∀ k, t.ownBlock = some k → k < w.heap.size := by
  obtain ⟨g, cap, rfl, h2, h3, h4⟩ := h
  exact fun k hk => (World.ownsRow.lt h4 k hk).2
/-- Blocks of the first sections' bytes. -/
def SpB (L : List (SecM × Value)) (i : Nat) (k : Nat) : Prop := ∃ p ∈ L.take i, p.2.ownBlock = some k
theorem SpB.base {w : World} {base : Nat} {e : ElfM} {L : List (SecM × Value)} {sv gv : Value} (h : ElfOwn w base e L sv gv) {i k : Nat} (hk : SpB L i k) : base ≤ k := by
  obtain ⟨p, hp, hk⟩ := hk
  exact (World.ownsRow.lt (h.data p (List.mem_of_mem_take hp)) k hk).1
theorem SpB.kind {w : World} {base : Nat} {e : ElfM} {L : List (SecM × Value)} {sv gv : Value} (h : ElfOwn w base e L sv gv) {i k : Nat} (hk : SpB L i k) : ∃ c fz, w.heap[k]? = some (.cells c 5 fz) := by
  obtain ⟨p, hp, hk⟩ := hk
  exact own_kind (h.data p (List.mem_of_mem_take hp)) k hk
theorem SpB.data {L : List (SecM × Value)} (ha : ApartS L) {i : Nat} {p : SecM × Value} (hp : L[i]? = some p) : ∀ k, p.2.ownBlock = some k → ¬ SpB L i k := by
  rintro k hk ⟨q, hq, hk2⟩
  obtain ⟨j, hj⟩ := List.mem_iff_getElem?.1 hq
  rw [List.getElem?_take] at hj
  split at hj
  · next hji =>
    obtain ⟨h1, h2⟩ := List.getElem?_eq_some_iff.1 hj
    obtain ⟨h3, h4⟩ := List.getElem?_eq_some_iff.1 hp
    have := List.pairwise_iff_getElem.1 ha j i h1 h3 hji
    rw [h2, h4] at this
    exact this k hk2 hk
  · cases hj
theorem SpB.step {L : List (SecM × Value)} {i : Nat} {p : SecM × Value} (hp : L[i]? = some p) {k : Nat} (h : SpB L i k ∨ p.2.ownBlock = some k) : SpB L (i + 1) k := by
  rw [SpB, List.take_add_one, hp]
  rcases h with ⟨q, hq, hk⟩ | h
  · exact ⟨q, List.mem_append_left _ hq, hk⟩
  · exact ⟨p, by simp, h⟩
attribute [local irreducible] readE
set_option maxHeartbeats 8000000 in
set_option maxRecDepth 100000 in
theorem elfReadsLaw_any (l : List UInt8) (v : Value) (w : World) (hv : Bs w v l) :
    Calls Try.prog 11 #[v] w fun r w' => r = .returned (.bool true) ∧ Below w.heap.size w w' := by
  have HV := Lib.hid hv
  obtain ⟨m, ad, cap, hm, rfl, hmc, _⟩ := hv.shape
  clear hv
  by_cases hbig : 65536 < m
  · go_enter Try.func11, Try.ntmps11
    go_wp2_with fail
    refine (begun4_any _).mono ?_
    rintro e w1 ⟨rfl, hb1⟩
    go_wp2
    go_ret
    exact ⟨rfl, hb1⟩
  have hm9 : m ≤ 65536 := by omega
  have HL9 := Lib.hid (show l.length ≤ 1000000000 by have := hm.out; omega)
  have HOK := Lib.hid (readE_ok (l := l) (by have := hm.out; omega))
  clear hbig
  go_enter Try.func11, Try.ntmps11
  go_wp2_with fail
  refine (begun4_any _).mono ?_
  rintro e w1 ⟨rfl, hb1⟩
  have HB1 := Lib.hid hb1
  clear hb1
  go_wp2_with fail
  refine (twin_any l _ w1 HL9.out (HV.out.mono HB1.out)).mono ?_
  rintro e w2 ⟨t, rfl, htw, hb2⟩
  have HTW2 := Lib.hid htw
  have HB2 := Lib.hid (HB1.out.trans (hb2.mono HB1.out.size))
  obtain ⟨tg, tc, rfl, -⟩ := htw
  clear hb2
  go_wp2
  go_loopw [4, 5, 6, 7, 8, 9] (fun i _ _ _ _ _ wr => ∃ (k : Nat), i = .int .i64 k ∧ k ≤ 2 ∧ Hid (Twined wr w1.heap.size (.slice (some ⟨tg, 0, none⟩) l.length tc) l) ∧ Hid (Below w.heap.size w wr)) (fun i _ _ _ _ _ _ => 2 - (intOf i).toNat)
  case atStart => exact ⟨0, rfl, by omega, HTW2, HB2⟩
  case round =>
    obtain ⟨k, rfl, hk, HTW, HB⟩ := hrel
    by_cases hlt : k < 2
    · have hlm : l.length ≤ 65536 := by have := hm.out; omega
      go_wp2_with fail
      refine (readEA_any l _ wr HL9.out HTW.out.bs).mono ?_
      rintro e wa ⟨⟨L, sv, gv, rfl, hown, hap⟩, hba⟩
      have HOWN := Lib.hid hown
      have HAP := Lib.hid hap
      obtain ⟨sn, sa, sc, hsn, rfl, _, _⟩ := hown.so.shape
      obtain ⟨gn, ga, gc, -, rfl, _, _⟩ := hown.go.shape
      have HTWA := Lib.hid (HTW.out.mono hba)
      have HBA := Lib.hid (HB.out.trans (hba.mono HB.out.size))
      have HSA := Lib.hid hba.size
      clear hown hap hba
      go_wp2_with (first
        | ((with_reducible show wpList _ _ _ (⟨some 5, .alloc _, _, _, _, _⟩ :: _) _ _); go_must (refine wpList_allocElf ?_; intro w7 hx7 hb7 hs7; have HY7 := Lib.hid hx7; have HBA7 := Lib.hid hb7; clear hx7 hb7))
        | ((with_reducible show wpList _ _ _ (⟨none, .store _ (.tmp 5) _, _, _, _, _⟩ :: _) _ _); go_must (refine wpList_storeElf HY7.out rfl rfl rfl rfl (by simp [Value.oneCell']) (Nat.le_refl _) (Nat.le_of_lt hs7) ?_; intro w8 hh8 hb8; have HY8 := Lib.hid (show w8.heap[wa.heap.size]? = some (.cells #[.int .i64 (readE l).1.typ, .int .i64 (readE l).1.target, .int .u32 ((readE l).1.flags : Int), .int .u64 ((readE l).1.entry : Int), .slice sa sn sc, .slice ga gn gc] 61 (0, 0)) from hh8); have HBA8 := Lib.hid (HBA7.out.trans hb8); clear hh8 hb8)))
      have HB8 := Lib.hid (HBA.out.trans (HBA8.out.mono HBA.out.size))
      refine (ref4Read_any l _ w8 HL9.out (HV.out.mono HB8.out)).mono ?_
      rintro e wb ⟨⟨L2, su, gu, rfl, hown2⟩, hbb⟩
      have HOWN2 := Lib.hid hown2
      obtain ⟨um, ua, uc, -, rfl, _, _⟩ := hown2.so.shape
      obtain ⟨vm, va, vc, -, rfl, _, _⟩ := hown2.go.shape
      have HYB := Lib.hid (heap_below hbb HY8.out)
      have HBAB := Lib.hid (HBA8.out.trans (hbb.mono HBA8.out.size))
      clear hown2 hbb
      go_wp2_with (first
        | ((with_reducible show wpList _ _ _ (⟨some 7, .alloc _, _, _, _, _⟩ :: _) _ _); go_must (refine wpList_allocElf ?_; intro w9 hx9 hb9 hs9; have HZ9 := Lib.hid hx9; have HBB9 := Lib.hid hb9; clear hx9 hb9))
        | ((with_reducible show wpList _ _ _ (⟨none, .store _ (.tmp 7) _, _, _, _, _⟩ :: _) _ _); go_must (refine wpList_storeElf HZ9.out rfl rfl rfl rfl (by simp [Value.oneCell']) (Nat.le_refl _) (Nat.le_of_lt hs9) ?_; intro wc hhc hbc; have HZC := Lib.hid (show wc.heap[wb.heap.size]? = some (.cells #[.int .i64 (readE l).1.typ, .int .i64 (readE l).1.target, .int .u32 ((readE l).1.flags : Int), .int .u64 ((readE l).1.entry : Int), .slice ua um uc, .slice va vm vc] 61 (0, 0)) from hhc); have HBBC := Lib.hid (HBB9.out.trans hbc); have HBAC := Lib.hid (HBAB.out.trans (HBBC.out.mono HBAB.out.size)); have HYC := Lib.hid (heap_below HBBC.out HYB.out); obtain ⟨c0, c1, c2, c3, c4, c5⟩ := elf_box HYC.out; obtain ⟨d0, d1, d2, d3, d4, d5⟩ := elf_box HZC.out; clear hhc hbc)))
      have HBC := Lib.hid (HBA.out.trans (HBAC.out.mono HBA.out.size))
      have HSM := Lib.hid (ref4Same_any (readE l).1 (readE l).1 L L2 (.slice sa sn sc) (.slice ga gn gc) (.slice ua um uc) (.slice va vm vc) wc (HOWN.out.at.mono HBAC.out) (HOWN2.out.at.mono HBBC.out) HOK.out HOK.out)
      rw [decide_eq_true rfl] at HSM
      refine HSM.out.mono ?_
      rintro e wd ⟨rfl, hbd⟩
      have HTWD := Lib.hid ((HTWA.out.mono HBAC.out).mono hbd)
      have HBD := Lib.hid (HBC.out.trans (hbd.mono HBC.out.size))
      have HBAD := Lib.hid (HBAC.out.trans (hbd.mono HBAC.out.size))
      have HYD := Lib.hid (heap_below hbd HYC.out)
      clear hbd c0 c1 c2 c3 c4 c5 d0 d1 d2 d3 d4 d5 HSM
      go_wp2_with fail
      refine (kept_any l _ _ _ wd HL9.out HTWD.out (HV.out.mono HBD.out)).mono ?_
      rintro e we ⟨rfl, rfl⟩
      have HOD := Lib.hid (show ElfOwn wd wr.heap.size (readE l).1 L (.slice sa sn sc) (.slice ga gn gc) from ⟨HOWN.out.secs, HOWN.out.so.mono HBAD.out, HOWN.out.go.mono HBAD.out, fun p hp => (HOWN.out.data p hp).mono HBAD.out⟩)
      have HLN := Lib.hid (show L.length = sn from hsn.out.symm)
      have hsn9 : sn ≤ 1000000000 := by have h1 := HOK.out.secs; have h2 := congrArg List.length HOWN.out.secs; rw [List.length_map] at h2; have h3 := HLN.out; omega
      have HDL := Lib.hid (fun p (hp : p ∈ L) => show p.1.data.length ≤ 1000000000 from
        Nat.le_trans (readE_data (l := l) (by rw [HOWN.out.secs]; exact List.mem_map_of_mem hp)) HL9.out)
      go_wp2
      go_loopw [9] (fun i wx => ∃ (j : Nat), i = .int .i64 j ∧ j ≤ sn ∧ Hid (Stirs (SpB L j) wd wx)) (fun i _ => sn - (intOf i).toNat)
      case atStart => exact ⟨0, rfl, Nat.zero_le _, Stirs.refl _ _⟩
      case round =>
        obtain ⟨j, rfl, hj, HST⟩ := hrel
        have HYX := Lib.hid (HST.out.kept HYD.out (fun hS => by
          obtain ⟨c, fz, h1⟩ := SpB.kind HOD.out hS
          rw [HYD.out] at h1
          cases h1))
        have HSO := Lib.hid (OwR.rd (owns_stirs HOD.out.so HST.out (fun k hk hS => by
          obtain ⟨c, fz, h1⟩ := SpB.kind HOD.out hS
          obtain ⟨c2, fz2, h2⟩ := own_kind HOD.out.so k hk
          rw [h2] at h1
          cases h1)))
        have HBX := Lib.hid (HBD.out.trans (HST.out.below HBD.out.size (fun k hk => Nat.le_trans HB.out.size (SpB.base HOD.out hk))))
        obtain ⟨c0, c1, c2, c3, c4, c5⟩ := elf_box HYX.out
        by_cases hlt2 : j < sn
        · have X1 := Lib.hid (show L[j]? = some (L[j]'(by have := HLN.out; omega)) from List.getElem?_eq_getElem _)
          generalize L[j]'(by have := HLN.out; omega) = x at *
          have HDX := Lib.hid (owns_stirs (HOD.out.data x (List.mem_of_getElem? X1.out)) HST.out (SpB.data HAP.out X1.out))
          have HDN := Lib.hid (HDL.out x (List.mem_of_getElem? X1.out))
          obtain ⟨s, dv⟩ := x
          obtain ⟨a, ca, hsv, -, -, hc⟩ := HSO.out.open (fun _ => rfl)
          obtain ⟨b1, o1, ha, z0, z1, z2, z3, z4, z5, z6, z7, z8, z9, -⟩ := sec_cells hc (Below.refl _ _) X1.out
          have e1 : sa = a := by injection hsv
          subst e1 ha
          clear hc hsv z0 z1 z2 z3 z4 z5 z6 z7 z8 c0 c1 c2 c3 c5
          obtain ⟨dm, da, dc, -, rfl, _, _⟩ := (OB.shape HDX.out)
          go_wp2_with fail
          refine (spoil_any s.data _ _ _ HDN.out HDX.out).mono ?_
          rintro r wy ⟨rfl, hgr⟩
          have HSTY := Lib.hid (show Stirs (SpB L (j + 1)) wd wy from (HST.out.sub (fun k _ hk => SpB.step X1.out (.inl hk))).trans (Stirs.of_grown (S := fun k => (Value.slice da dm dc).ownBlock = some k) hgr (fun k hk => hk)) (fun k _ hk => SpB.step X1.out (.inr hk)))
          clear hgr z9 c4
          go_wp2
          go_round
          case rel => exact ⟨j + 1, by go_num, by omega, HSTY⟩
          case measure => simp [intOf] <;> omega
        · obtain rfl : j = sn := by omega
          have HTWX := Lib.hid (HTWD.out.stirsB HST.out (fun k hk hS => by have h1 := HTW.out.ltB k hk; have h2 := SpB.base HOD.out hS; omega))
          go_wp2
          go_round
          case rel => exact ⟨k + 1, by go_num, by omega, HTWX, HBX⟩
          case measure => simp [intOf] <;> omega
    · obtain rfl : k = 2 := by omega
      go_wp2
      go_ret
      exact ⟨rfl, HB.out⟩
end Go.Proofs.Ytgjoimcgiofinaa
namespace Go.Proofs.Ytgjoimcgiofinaa
open Go.ChangeShapes Go.WideShapes Go.ChangeAt Go.RowKit Go.Fd
theorem Try.own : ownKnob Try.prog.godebug = none := by kernel_rfl
theorem Try.laidOut : laidOutB Try.prog = true := by kernel_rfl
/-- All arguments read behind the call as they read before it. -/
theorem belowAll {H : Type} {enc : TypeId × Value → H} {W W' : World} (hb : Below W.heap.size W W') : ∀ {ts : List TypeId} {vs : List Value} {ds : List (DataW H)} {ps : List MemPlace},
    DataW.TrodAll enc Try.prog W 0 (fun _ => true) true ts vs ds ps → (∀ x ∈ ps, x.block < W.heap.size) → (∀ t ∈ ts, Try.prog.readableRec t = true ∧ t < Try.prog.types.size) →
    DataW.TrodAll enc Try.prog W' 0 (fun b => decide (b < W.heap.size)) true ts vs ds ps
  | [], vs, ds, ps, h, _, _ => by obtain ⟨rfl, rfl, rfl⟩ := trodAll_nil h; exact trodAll_mk0
  | t :: ts, vs, ds, ps, h, hlt, ht => by
    obtain ⟨v, vs', d, ds', p, q, rfl, rfl, rfl, h0, h1⟩ := trodAll_cons h
    exact trodAll_cons_mk (Below.trod Try.laidOut (ht t (by simp)).1 (ht t (by simp)).2 h0 hb fun x hx => hlt x (by simp [hx]))
      (belowAll hb h1 (fun x hx => hlt x (by simp [hx])) fun u hu => ht u (by simp [hu]))
/-- The same, the types asked as one closed fact. -/
theorem belowAllB {H : Type} {enc : TypeId × Value → H} {W W' : World} {ts : List TypeId} (ht : (ts.all fun t => Try.prog.readableRec t && decide (t < Try.prog.types.size)) = true) (hb : Below W.heap.size W W') {vs : List Value} {ds : List (DataW H)} {ps : List MemPlace}
    (h : DataW.TrodAll enc Try.prog W 0 (fun _ => true) true ts vs ds ps) (hlt : ∀ x ∈ ps, x.block < W.heap.size) : DataW.TrodAll enc Try.prog W' 0 (fun b => decide (b < W.heap.size)) true ts vs ds ps :=
  belowAll hb h hlt fun t htm => by
    have := List.all_eq_true.1 ht t htm
    simp only [Bool.and_eq_true, decide_eq_true_eq] at this
    exact this
set_option maxRecDepth 100000 in
/-- A slice of integers, as it is read. -/
theorem reads_ints {H : Type} {enc : TypeId × Value → H} {W : World} {base : Nat} {t e : TypeId} {k : IntKind} {v : Value} {d : DataW H} {p : List MemPlace} (ht : Try.prog.underlying t = some (.slice e)) (he : Try.prog.underlying e = some (.int k)) (hc : Try.prog.cellsOf e = 1)
    (hv : Value.okWide Try.prog W .any base t v) (h : DataW.Trod enc Try.prog W 0 (fun _ => true) true t v d p) : ∃ zs : List Int, Reads W 1 v zs.length (zs.map (Value.int k)) ∧ ∀ n ∈ zs, (Lit.int k n).wf = true := by
  obtain ⟨a0, len, cap, rfl⟩ := okWide_slice ht hv
  obtain ⟨fuel, hf⟩ := h
  rcases open_ints ht he hc hf with ⟨hcs, hx⟩ | ⟨a, len', cap', zs, hcs, _, hl, hm, hz, hx, hcell, hwz⟩
  · simp [Value.cells] at hcs
    obtain ⟨rfl, rfl, rfl⟩ := hcs
    exact ⟨[], Reads.nil W 1, fun n hn => by cases hn⟩
  · simp [Value.cells] at hcs
    obtain ⟨rfl, rfl, rfl⟩ := hcs
    simp only [if_true] at hz
    refine ⟨zs.take len, ⟨by simp, some a, cap, by rw [List.length_take]; congr 1; omega, by rw [List.length_take]; omega, (fun h => by cases h), fun j hj => ?_⟩, fun n hn => hwz n (List.mem_of_mem_take hn)⟩
    simp only [List.length_map, List.length_take] at hj
    obtain ⟨b, off, spot⟩ := a
    have h0 := hcell 0 (by omega)
    have hspot : spot = none := by simpa [Addr.add] using World.cell?_spot h0
    subst hspot
    refine ⟨b, off, rfl, ?_⟩
    have := hcell j (by omega)
    rw [add_plain] at this
    rw [this, List.getElem?_map, List.getElem?_take, if_pos (by omega), List.getD_eq_getElem?_getD, List.getElem?_eq_getElem (by omega)]
    rfl
set_option maxRecDepth 100000 in
/-- Bytes, as they are read. -/
theorem reads_bytes {H : Type} {enc : TypeId × Value → H} {W : World} {base : Nat} {v : Value} {d : DataW H} {p : List MemPlace} (hv : Value.okWide Try.prog W .any base 23 v) (h : DataW.Trod enc Try.prog W 0 (fun _ => true) true 23 v d p) :
    ∃ l : List UInt8, Reads W 1 v l.length (l.map fun c => Value.int .u8 (c.toNat : Int)) := by
  obtain ⟨zs, h1, h2⟩ := reads_ints (k := .u8) (e := 5) (by kernel_rfl) (by kernel_rfl) (by kernel_rfl) hv h
  refine ⟨zs.map fun n => UInt8.ofNat n.toNat, ?_⟩
  have e : (zs.map fun n => UInt8.ofNat n.toNat).map (fun c => Value.int .u8 (c.toNat : Int)) = zs.map (Value.int .u8) := by
    rw [List.map_map]
    apply List.map_congr_left
    intro n hn
    have := h2 n hn
    simp [Lit.wf, IntKind.min, IntKind.max, IntKind.signed, IntKind.bits] at this
    simp
    omega
  rw [e, List.length_map]
  exact h1
end Go.Proofs.Ytgjoimcgiofinaa
namespace Go.Proofs.Ytgjoimcgiofinaa
open Go.ChangeShapes Go.WideShapes Go.ChangeAt Go.RowKit Go.Fd
set_option maxRecDepth 100000 in
theorem elfReads_lifted (os : Os) (started : os.Started) (H : Type) (enc : TypeId × Value → H) :
    ReturnsInHanded {} Try.checked os 11 .any (Rows.elfReadsSpec.pre6 enc Try.prog Try.f11 Rows.elfReadsRow.domain false) (Rows.elfReadsSpec.post enc Try.prog Try.f11 false true false false) := by
  refine returnsInHanded_of_change (C := Try.checked) Try.own started (by kernel_rfl) Try.func11
    (ChangeSpec.witness6 (enc := enc) (C := Try.checked) false ⟨#[], #[.slice none 0 0], []⟩ 8 (by kernel_rfl) (by kernel_rfl) (by kernel_rfl) (by kernel_rfl)) ?_
  intro W base args ds gs before hval0 hW hcnd _
  have hval : ∀ (j : Nat) t v, Try.f11.params[j]? = some t → args[j]? = some v → Value.okWide Try.prog W .any base t v := hval0
  have hW' := hW
  obtain ⟨p, q, hA0, hV, rfl, hfz, hnd⟩ := hW
  have hA : DataW.TrodAll enc Try.prog W 0 (fun _ => true) true Try.f11.params.toList args.toList ds p := hA0
  have hlt : ∀ x ∈ p, x.block < W.heap.size := fun x hx => hW'.lt x (by simp [hx])
  have hback : ∀ W', Below W.heap.size W W' → DataW.TrodAll enc Try.prog W' 0 (fun b => decide (b < W.heap.size)) true Try.f11.params.toList args.toList ds p :=
    fun W' hb => belowAllB (by kernel_rfl) hb hA hlt
  rw [Try.params11] at hA hval
  obtain ⟨v0, vs0, d0, ds0, p0, q0, hargs, rfl, rfl, h0, r0⟩ := trodAll_cons hA
  obtain ⟨rfl, rfl, rfl⟩ := trodAll_nil r0
  obtain rfl : args = #[v0] := by
    cases args
    simp at hargs
    simp [hargs]
  clear hargs
  obtain ⟨rfl, rfl⟩ := trodVars_none hV
  have fin : ∀ (e : Ending) (W' : World), (e = .returned (.bool true) ∧ Below W.heap.size W W') → ∃ v, e = Ending.returned v ∧ Rows.elfReadsSpec.post enc Try.checked.prog Try.f11 false true false false W #[v0] v W' := by
    rintro e W' ⟨rfl, hb⟩
    exact ⟨_, rfl, _, _, _, [], _, [], hW', trodAll_mk1 (shut_bool Try.underlying4 true), hback W' hb, rfl, hb.frame _, fun h => by cases h⟩
  obtain ⟨l, hl⟩ := reads_bytes (hval 0 23 v0 rfl rfl) h0
  exact (elfReadsLaw_any l v0 W hl).mono fin
theorem elfReads_holds : Rows.ElfReadsSaid :=
  OpenClaim.holds_of_wide 11 Try.f11 rfl rfl rfl rfl rfl rfl rfl ⟨rfl, rfl, rfl, rfl, rfl⟩ rfl rfl rfl rfl rfl (by kernel_rfl) Try.func11 (by kernel_rfl)
    (of_decide_eq_true (by kernel_rfl)) (by unfold Func.isWrapper; rw [if_neg (of_decide_eq_false (by kernel_rfl))]; exact ⟨rfl, rfl⟩)
    (fun os started H enc _ => elfReads_lifted os started H enc)
end Go.Proofs.Ytgjoimcgiofinaa
#print axioms Go.Proofs.Ytgjoimcgiofinaa.elfReads_holds
