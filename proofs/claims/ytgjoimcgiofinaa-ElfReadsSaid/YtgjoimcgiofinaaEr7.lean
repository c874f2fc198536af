/-
  Part 7 of 8: laws and walks for elfReads_holds; no condition of its own.
-/
import Derived.Test.YtgjoimcgiofinaaEr6
namespace Go.Proofs.Ytgjoimcgiofinaa
open Go.RowKit Go.Fd
def secB2 (s : SecM) : Bool := secB s && mayS s.name
theorem names_ok {e : ElfM} (hl : e.secs.length ≤ 250) : (buildR (namesOf e.secs)).2.2 = 0 ↔ (e.secs.all fun s => mayS s.name) = true := by
  have hall : (namesOf e.secs).all mayS = e.secs.all fun s => mayS s.name := by
    unfold namesOf
    rw [List.all_append, List.all_map]
    have : [tabName].all mayS = true := by decide
    rw [this, Bool.and_true]
    rfl
  constructor
  · intro h
    rw [← hall]
    exact (build_ok h).1
  · intro h
    rw [← hall] at h
    have hb := buildT_len (namesOf e.secs) (fun x hx => mayS_len (List.all_eq_true.1 h x hx))
    rw [namesOf_len] at hb
    unfold buildR
    rw [if_pos h, if_neg (by omega)]
theorem mayE_4 {e : ElfM} (h : e.secs.all secB2 = false) : mayE e = false := by
  rw [Bool.eq_false_iff]
  intro hm
  unfold mayE at hm
  simp only [Bool.and_eq_true] at hm
  obtain ⟨⟨h1, h2⟩, h3⟩ := hm
  have hl : e.secs.length ≤ 250 := by
    unfold may1 at h1
    simp only [Bool.and_eq_true, decide_eq_true_eq] at h1
    exact h1.1.2
  unfold may3 at h3
  simp only [Bool.and_eq_true, decide_eq_true_eq] at h3
  have h4 := (names_ok hl).1 h3.1
  unfold may2 at h2
  simp only [Bool.and_eq_true] at h2
  rw [Bool.eq_false_iff] at h
  apply h
  rw [List.all_eq_true]
  intro s hs
  have h5 := List.all_eq_true.1 h2.1 s hs
  have h6 := List.all_eq_true.1 h4 s hs
  unfold secB2 secB
  rw [h6]
  simpa using h5
set_option maxHeartbeats 4000000 in
set_option maxRecDepth 100000 in
theorem ref4May_any (e : ElfM) (L : List (SecM × Value)) (sv gv : Value) (w : World) (h : ElfAt w e L sv gv) (ho : ElfOk e) :
    Calls Try.prog 44 #[elfV e sv gv] w fun r w' => r = .returned (.bool (mayE e)) ∧ Below w.heap.size w w' := by
  obtain ⟨a, ca, rfl, hca, -, hc⟩ := h.rd.open (fun _ => rfl)
  obtain ⟨ga, gc, rfl, hgc, -, hcg⟩ := h.segs.open (fun _ => rfl)
  have HC := Lib.hid hc
  have HCG := Lib.hid hcg
  have HAT := Lib.hid h
  have HOK := Lib.hid ho
  have HD := Lib.hid h.data
  have HSE := Lib.hid (fun k x (hk : L[k]? = some x) => sec_of h.secs hk)
  have HEL := Lib.hid (show e.secs.length = L.length by rw [h.secs, List.length_map])
  obtain ⟨nl, hnl⟩ : ∃ n, n = L.length := ⟨_, rfl⟩
  obtain ⟨gn, hgn⟩ : ∃ n, n = e.segs.length := ⟨_, rfl⟩
  rw [← hnl] at hca HAT ⊢
  rw [← hgn] at hgc HAT ⊢
  have HL := Lib.hid hnl
  have HGN := Lib.hid hgn
  have hnl9 : nl ≤ 1000000000 := by have := HOK.out.secs; have := HEL.out; omega
  have hgn9 : gn ≤ 1000000000 := by have := HOK.out.segs; omega
  clear hc hcg h hnl hgn ho
  have HM1 : Hid (may1 e = ((decide (e.typ = 1) || decide (e.typ = 2)) && !decide (mach e.target = 0) && decide (nl ≤ 250) && decide (gn ≤ 16))) := by
    unfold may1
    rw [HEL.out, ← HL.out, ← HGN.out]
    exact rfl
  have HMC := Lib.hid (fun w => ref4Machine_any e.target w)
  have hmc := mach_le e.target
  generalize mach e.target = mt at *
  by_cases h1 : may1 e = true
  · have hm1 := h1
    rw [HM1.out] at hm1
    simp only [Bool.and_eq_true, Bool.or_eq_true, Bool.not_eq_true', decide_eq_true_eq, decide_eq_false_iff_not] at hm1
    obtain ⟨⟨⟨hty, hmt⟩, hn250⟩, hg16⟩ := hm1
    have ht : (e.typ != 1) = false ∨ ((e.typ != 1) = true ∧ (e.typ != 2) = false) := by
      rcases hty with h | h
      · exact .inl (by rw [h]; rfl)
      · exact .inr (by rw [h]; exact ⟨rfl, rfl⟩)
    have hmt0 : ((mt : Int) == 0) = false := by rw [beq_eq_false_iff_ne]; omega
    have HM2 := Lib.hid h1
    have HX9 := Lib.hid hmt
    clear h1 hty hmt HM1
    rcases ht with ht1 | ⟨ht1, ht2⟩
    all_goals
      go_enter Try.func44, Try.ntmps44
      go_wp2_with (first
        | ((with_reducible show wpList _ _ _ (⟨_, .box _ _, _, _, _, _⟩ :: _) _ _); go_must (refine wpList_box rfl ?_; intro w1 hx1 hb1 hs1; obtain ⟨c0, c1, c2, c3, c4, c5⟩ := elf_box hx1))
        | (go_at_call 76; refine (HMC.out _).mono ?_; rintro r w2 ⟨rfl, rfl⟩))
      have HX1 := Lib.hid hx1
      have HB1 := Lib.hid hb1
      clear c0 c1 c2 c3 c4 c5 hx1 hb1
      go_loopw [3] (fun i wr => ∃ k : Nat, i = .int .i64 k ∧ k ≤ nl ∧ Hid ((e.secs.take k).all secB2 = true) ∧ Hid (Below w1.heap.size w1 wr)) (fun i _ => nl - (intOf i).toNat)
      case atStart => exact ⟨0, rfl, Nat.zero_le _, rfl, Below.refl _ _⟩
      case round =>
        obtain ⟨k, rfl, hk, HT, HB⟩ := hrel
        have hbs := HB.out.size
        have HBW := Lib.hid (HB1.out.trans (HB.out.mono HB1.out.size))
        obtain ⟨d0, d1, d2, d3, d4, d5⟩ := elf_box (heap_below HB.out HX1.out)
        clear d0 d1 d2 d3
        by_cases hlt : k < nl
        · clear d5
          have X1 := Lib.hid (show L[k]? = some (L[k]'(by have := HL.out; omega)) from List.getElem?_eq_getElem _)
          generalize L[k]'(by have := HL.out; omega) = x at *
          obtain ⟨s, dv⟩ := x
          obtain ⟨dm, da, dc, hdm, rfl, _, _⟩ := (HD.out _ (List.mem_of_getElem? X1.out)).shape
          have X2 := Lib.hid (HSE.out _ _ X1.out)
          have hdl : dm ≤ 2147483648 := by
            have h1 := dsum_mem (List.mem_of_getElem? X2.out)
            have h2 := HOK.out.data
            have h3 := hdm.out
            dsimp only at h1 h3
            omega
          have HMA := Lib.hid (fun w => ref3May_any s.name w (HOK.out.names _ (List.mem_of_getElem? X2.out)))
          have HPO := Lib.hid (fun w => ref4Power_any s.align w (HOK.out.fits.secs _ (List.mem_of_getElem? X2.out)).2.2.2.1)
          obtain ⟨b1, o1, ha, c10, c11, c12, c13, c14, c15, c16, c17, c18, c19, -⟩ := sec_cells HC.out HBW.out X1.out
          subst ha
          have HSB : Hid (secB2 s = ((!decide (s.typ = 0) && powB s.align && !decide (s.name = []) && (if s.typ = 8 then decide (dm = 0) && decide (s.size ≤ 1073741824) else decide (s.size = dm))) && decide (dm ≤ 4194304) && mayS s.name)) := by unfold secB2 secB fineB; rw [hdm.out]; exact rfl
          have HGO := Lib.hid (fun hb : secB2 s = true => all_step (f := secB2) X2.out HT.out hb)
          have HNO := Lib.hid (fun hb : secB2 s = false => mayE_4 (e := e) (all_no (f := secB2) X2.out hb))
          obtain ⟨name, typ, flags, addr, align, size, link, info, ent, data⟩ := s
          dsimp only at *
          generalize powB align = pb at *
          generalize mayS name = ms at *
          generalize secB2 ⟨name, typ, flags, addr, align, size, link, info, ent, data⟩ = sb at *
          by_cases hn : name = []
          · have hne : name.isEmpty = true := by simp [hn]
            have HR := Lib.hid (HNO.out (by rw [HSB.out]; simp [hn]))
            have HX := Lib.hid hn
            clear HNO HGO HSB hn
            go_wp2_with (first
              | ((with_reducible show wpList _ _ _ (⟨none, .store _ _ _, _, _, _, _⟩ :: _) _ _); go_must (refine wpList_storeNew rfl rfl (by kernel_rfl) rfl (by simp [Value.oneCell']) ?_; intro w2 hh2 hb2; obtain ⟨e0, e1, e2, e3, e4, e5, e6, e7, e8, e9⟩ := sec_box (x := (⟨name, typ, flags, addr, align, size, link, info, ent, data⟩, .slice da dm dc)) hh2; have HB2 := Lib.hid (HB.out.trans (hb2.mono HB.out.size))))
              | (go_at_call 57; refine (HMA.out _).mono ?_; rintro r w4 ⟨rfl, rfl⟩)
              | (go_at_call 77; refine (HPO.out _).mono ?_; rintro r w5 ⟨rfl, rfl⟩))
            go_ret
            exact ⟨by rw [HR.out]; rfl, HB1.out.trans (HB2.out.mono HB1.out.size)⟩
          have hne : name.isEmpty = false := by simpa using hn
          have HXn := Lib.hid hn
          cases ms with
          | false =>
            have HR := Lib.hid (HNO.out (by rw [HSB.out]; simp))
            clear HNO HGO HSB hn
            go_wp2_with (first
              | ((with_reducible show wpList _ _ _ (⟨none, .store _ _ _, _, _, _, _⟩ :: _) _ _); go_must (refine wpList_storeNew rfl rfl (by kernel_rfl) rfl (by simp [Value.oneCell']) ?_; intro w2 hh2 hb2; obtain ⟨e0, e1, e2, e3, e4, e5, e6, e7, e8, e9⟩ := sec_box (x := (⟨name, typ, flags, addr, align, size, link, info, ent, data⟩, .slice da dm dc)) hh2; have HB2 := Lib.hid (HB.out.trans (hb2.mono HB.out.size))))
              | (go_at_call 57; refine (HMA.out _).mono ?_; rintro r w4 ⟨rfl, rfl⟩)
              | (go_at_call 77; refine (HPO.out _).mono ?_; rintro r w5 ⟨rfl, rfl⟩))
            go_ret
            exact ⟨by rw [HR.out]; rfl, HB1.out.trans (HB2.out.mono HB1.out.size)⟩
          | true =>
          cases pb with
          | false =>
            have HR := Lib.hid (HNO.out (by rw [HSB.out]; simp))
            clear HNO HGO HSB hn
            go_wp2_with (first
              | ((with_reducible show wpList _ _ _ (⟨none, .store _ _ _, _, _, _, _⟩ :: _) _ _); go_must (refine wpList_storeNew rfl rfl (by kernel_rfl) rfl (by simp [Value.oneCell']) ?_; intro w2 hh2 hb2; obtain ⟨e0, e1, e2, e3, e4, e5, e6, e7, e8, e9⟩ := sec_box (x := (⟨name, typ, flags, addr, align, size, link, info, ent, data⟩, .slice da dm dc)) hh2; have HB2 := Lib.hid (HB.out.trans (hb2.mono HB.out.size))))
              | (go_at_call 57; refine (HMA.out _).mono ?_; rintro r w4 ⟨rfl, rfl⟩)
              | (go_at_call 77; refine (HPO.out _).mono ?_; rintro r w5 ⟨rfl, rfl⟩))
            go_ret
            exact ⟨by rw [HR.out]; rfl, HB1.out.trans (HB2.out.mono HB1.out.size)⟩
          | true =>
          by_cases h0 : typ = 0
          · have h0' : ((typ : Int) == 0) = true := by rw [beq_iff_eq]; omega
            have HR := Lib.hid (HNO.out (by rw [HSB.out]; simp [h0]))
            have HX := Lib.hid h0
            clear HNO HGO HSB hn h0
            go_wp2_with (first
              | ((with_reducible show wpList _ _ _ (⟨none, .store _ _ _, _, _, _, _⟩ :: _) _ _); go_must (refine wpList_storeNew rfl rfl (by kernel_rfl) rfl (by simp [Value.oneCell']) ?_; intro w2 hh2 hb2; obtain ⟨e0, e1, e2, e3, e4, e5, e6, e7, e8, e9⟩ := sec_box (x := (⟨name, typ, flags, addr, align, size, link, info, ent, data⟩, .slice da dm dc)) hh2; have HB2 := Lib.hid (HB.out.trans (hb2.mono HB.out.size))))
              | (go_at_call 57; refine (HMA.out _).mono ?_; rintro r w4 ⟨rfl, rfl⟩)
              | (go_at_call 77; refine (HPO.out _).mono ?_; rintro r w5 ⟨rfl, rfl⟩))
            go_ret
            exact ⟨by rw [HR.out]; rfl, HB1.out.trans (HB2.out.mono HB1.out.size)⟩
          have h0' : ((typ : Int) == 0) = false := by rw [beq_eq_false_iff_ne]; omega
          have HSB1 : Hid (sb = ((if typ = 8 then decide (dm = 0) && decide (size ≤ 1073741824) else decide (size = dm)) && decide (dm ≤ 4194304))) := by rw [HSB.out, decide_eq_false h0, decide_eq_false hn]; simp [Hid]
          have HX0 := Lib.hid h0
          clear HSB h0 hn
          have hcase : (((typ : Int) == 8) = true ∧ ((typ : Int) != 8) = false ∧ ((dm : Int) != 0) = false ∧ ¬ (1073741824 : Int) < (size : Int) ∧ Hid (sb = decide (dm ≤ 4194304))) ∨ (((typ : Int) == 8) = false ∧ ((typ : Int) != 8) = true ∧ ((size : Int) != (dm : Int)) = false ∧ Hid (sb = decide (dm ≤ 4194304))) ∨
              (((typ : Int) == 8) = true ∧ ((typ : Int) != 8) = false ∧ ((dm : Int) != 0) = true ∧ Hid (sb = false)) ∨ (((typ : Int) == 8) = true ∧ ((typ : Int) != 8) = false ∧ ((dm : Int) != 0) = false ∧ (1073741824 : Int) < (size : Int) ∧ Hid (sb = false)) ∨ (((typ : Int) == 8) = false ∧ ((typ : Int) != 8) = true ∧ ((size : Int) != (dm : Int)) = true ∧ Hid (sb = false)) := by
            rw [beq_iff_eq, beq_eq_false_iff_ne, bne_iff_ne, bne_eq_false_iff_eq, bne_iff_ne, bne_eq_false_iff_eq, bne_iff_ne, bne_eq_false_iff_eq, HSB1.out]
            by_cases h8 : typ = 8
            · rw [if_pos h8]
              by_cases hm : dm = 0
              · by_cases hs : size ≤ 1073741824
                · exact .inl ⟨by omega, by omega, by omega, by omega, by rw [decide_eq_true hm, decide_eq_true hs]; exact rfl⟩
                · exact .inr (.inr (.inr (.inl ⟨by omega, by omega, by omega, by omega, by rw [decide_eq_false hs]; simp [Hid]⟩)))
              · exact .inr (.inr (.inl ⟨by omega, by omega, by omega, by rw [decide_eq_false hm]; simp [Hid]⟩))
            · rw [if_neg h8]
              by_cases hs : size = dm
              · exact .inr (.inl ⟨by omega, by omega, by omega, by rw [decide_eq_true hs]; exact rfl⟩)
              · exact .inr (.inr (.inr (.inr ⟨by omega, by omega, by omega, by rw [decide_eq_false hs]; exact rfl⟩)))
          clear HSB1
          rcases hcase with ⟨h8, h8', hm, hs, HSB⟩ | ⟨h8, h8', hm, HSB⟩ | ⟨h8, h8', hm, HSB⟩ | ⟨h8, h8', hm, hs, HSB⟩ | ⟨h8, h8', hm, HSB⟩
          case inr.inr.inl | inr.inr.inr.inl | inr.inr.inr.inr =>
            have HR := Lib.hid (HNO.out HSB.out)
            clear HNO HGO HSB
            go_wp2_with (first
              | ((with_reducible show wpList _ _ _ (⟨none, .store _ _ _, _, _, _, _⟩ :: _) _ _); go_must (refine wpList_storeNew rfl rfl (by kernel_rfl) rfl (by simp [Value.oneCell']) ?_; intro w2 hh2 hb2; obtain ⟨e0, e1, e2, e3, e4, e5, e6, e7, e8, e9⟩ := sec_box (x := (⟨name, typ, flags, addr, align, size, link, info, ent, data⟩, .slice da dm dc)) hh2; have HB2 := Lib.hid (HB.out.trans (hb2.mono HB.out.size))))
              | (go_at_call 57; refine (HMA.out _).mono ?_; rintro r w4 ⟨rfl, rfl⟩)
              | (go_at_call 77; refine (HPO.out _).mono ?_; rintro r w5 ⟨rfl, rfl⟩))
            go_ret
            exact ⟨by rw [HR.out]; rfl, HB1.out.trans (HB2.out.mono HB1.out.size)⟩
          all_goals
            by_cases hd4 : dm ≤ 4194304
            · have HT1 := Lib.hid (HGO.out (by rw [HSB.out, decide_eq_true hd4]))
              clear HNO HGO HSB
              go_wp2_with (first
                | ((with_reducible show wpList _ _ _ (⟨none, .store _ _ _, _, _, _, _⟩ :: _) _ _); go_must (refine wpList_storeNew rfl rfl (by kernel_rfl) rfl (by simp [Value.oneCell']) ?_; intro w2 hh2 hb2; obtain ⟨e0, e1, e2, e3, e4, e5, e6, e7, e8, e9⟩ := sec_box (x := (⟨name, typ, flags, addr, align, size, link, info, ent, data⟩, .slice da dm dc)) hh2; have HB2 := Lib.hid (HB.out.trans (hb2.mono HB.out.size))))
                | (go_at_call 57; refine (HMA.out _).mono ?_; rintro r w4 ⟨rfl, rfl⟩)
                | (go_at_call 77; refine (HPO.out _).mono ?_; rintro r w5 ⟨rfl, rfl⟩))
              go_roundw
              case rel =>
                first
                  | exact ⟨k + 1, by go_num, by omega, HT1.out, HB2.out⟩
                  | ((repeat apply Exists.intro); exact ⟨⟨k + 1, by go_num, by omega, HT1.out, HB2.out⟩, rfl⟩)
              case measure => simp [intOf] <;> omega
            · have HR := Lib.hid (HNO.out (by rw [HSB.out, decide_eq_false hd4]))
              clear HNO HGO HSB
              go_wp2_with (first
                | ((with_reducible show wpList _ _ _ (⟨none, .store _ _ _, _, _, _, _⟩ :: _) _ _); go_must (refine wpList_storeNew rfl rfl (by kernel_rfl) rfl (by simp [Value.oneCell']) ?_; intro w2 hh2 hb2; obtain ⟨e0, e1, e2, e3, e4, e5, e6, e7, e8, e9⟩ := sec_box (x := (⟨name, typ, flags, addr, align, size, link, info, ent, data⟩, .slice da dm dc)) hh2; have HB2 := Lib.hid (HB.out.trans (hb2.mono HB.out.size))))
                | (go_at_call 57; refine (HMA.out _).mono ?_; rintro r w4 ⟨rfl, rfl⟩)
                | (go_at_call 77; refine (HPO.out _).mono ?_; rintro r w5 ⟨rfl, rfl⟩))
              go_ret
              exact ⟨by rw [HR.out]; rfl, HB1.out.trans (HB2.out.mono HB1.out.size)⟩
        ·
          have hkn : e.secs.take k = e.secs := List.take_of_length_le (by have := HL.out; have := HEL.out; omega)
          have HALL : Hid (e.secs.all secB2 = true) := by
            have := HT.out
            rw [hkn] at this
            exact this
          have HBF := Lib.hid HB.out
          clear HT hkn
          go_wp2
          go_loopw [5] (fun i wx => ∃ k : Nat, i = .int .i64 k ∧ k ≤ gn ∧ Hid ((e.segs.take k).all (fun s => powB s.align) = true) ∧ Hid (Below w1.heap.size w1 wx)) (fun i _ => gn - (intOf i).toNat)
          case atStart => exact ⟨0, rfl, Nat.zero_le _, rfl, HBF.out⟩
          case round =>
            clear d4 d5
            obtain ⟨k, rfl, hk, HT, HB⟩ := hrel
            have hbs := HB.out.size
            have HBW := Lib.hid (HB1.out.trans (HB.out.mono HB1.out.size))
            obtain ⟨d0, d1, d2, d3, d4, d5⟩ := elf_box (heap_below HB.out HX1.out)
            by_cases hlt : k < gn
            · clear d0 d1 d2 d3 d4
              have X1 := Lib.hid (show e.segs[k]? = some (e.segs[k]'(by have := HGN.out; omega)) from List.getElem?_eq_getElem _)
              generalize e.segs[k]'(by have := HGN.out; omega) = x at *
              have HPO := Lib.hid (fun w => ref4Power_any x.align w (HOK.out.fits.segs _ (List.mem_of_getElem? X1.out)).2.2.2.2.2.2)
              have HGO := Lib.hid (fun hb : powB x.align = true => all_step (f := fun s : SegM => powB s.align) X1.out HT.out hb)
              have HNO := Lib.hid (fun hb : powB x.align = false => mayE_3 (all_no (f := fun s : SegM => powB s.align) X1.out hb))
              obtain ⟨b1, o1, ha, c10, c11, c12, c13, c14, c15, c16, -⟩ := seg_cells HCG.out HBW.out X1.out
              subst ha
              obtain ⟨typ, flags, off, vaddr, filesz, memsz, align⟩ := x
              dsimp only at *
              generalize powB align = pb at *
              cases pb with
              | false =>
                have HR := Lib.hid (HNO.out rfl)
                clear HNO HGO
                go_wp2_with (go_at_call 77; refine (HPO.out _).mono ?_; rintro r w4 ⟨rfl, rfl⟩)
                go_ret
                exact ⟨by rw [HR.out]; rfl, HBW.out⟩
              | true =>
                have HT1 := Lib.hid (HGO.out rfl)
                clear HNO HGO
                go_wp2_with (go_at_call 77; refine (HPO.out _).mono ?_; rintro r w4 ⟨rfl, rfl⟩)
                go_roundw
                case rel =>
                  first
                    | exact ⟨k + 1, by go_num, by omega, HT1.out, HB.out⟩
                    | ((repeat apply Exists.intro); exact ⟨⟨k + 1, by go_num, by omega, HT1.out, HB.out⟩, rfl⟩)
                case measure => simp [intOf] <;> omega
            · have hkn : e.segs.take k = e.segs := List.take_of_length_le (by have := HGN.out; omega)
              have HALG : Hid ((e.segs.all fun s => powB s.align) = true) := by
                have := HT.out
                rw [hkn] at this
                exact this
              have HAS : Hid (e.secs.all secB = true) := by
                refine List.all_eq_true.2 fun s hs => ?_
                have := List.all_eq_true.1 HALL.out s hs
                unfold secB2 at this
                simp only [Bool.and_eq_true] at this
                exact this.1
              have HM3 := Lib.hid (mayE_all HM2.out HAS.out HALG.out)
              have hz : (buildR (namesOf e.secs)).2.2 = 0 := (names_ok (by have := HEL.out; have := HL.out; omega)).2 (List.all_eq_true.2 fun s hs => by
                have := List.all_eq_true.1 HALL.out s hs
                unfold secB2 at this
                simp only [Bool.and_eq_true] at this
                exact this.2)
              have HPW : Hid (∀ s ∈ e.secs, powB s.align = true) := fun s hs => fineB_pow (by
                have := List.all_eq_true.1 HAS.out s hs
                unfold secB at this
                simp only [Bool.and_eq_true] at this
                exact this.1)
              have HPL := Lib.hid (ref4Places_any e L _ _ _ (HAT.out.mono HBW.out) (by have := HL.out; omega) (by have := HGN.out; omega) HPW.out HOK.out.fits.secs HOK.out.data)
              clear HT hkn
              go_wp2_with fail
              clear d0 d1 d2 d3 d4 d5
              refine HPL.out.mono ?_
              rintro r w2 ⟨v1, rfl, -, hb2⟩
              have HB2 := Lib.hid (HB.out.trans (hb2.mono HB.out.size))
              have HBW2 := Lib.hid (HB1.out.trans (HB2.out.mono HB1.out.size))
              clear hb2 HPL
              have HNA := Lib.hid (ref4Names_any e L _ _ _ (HAT.out.mono HBW2.out) (by have := HL.out; omega))
              obtain ⟨d0, d1, d2, d3, d4, d5⟩ := elf_box (heap_below HB2.out HX1.out)
              go_wp2_with fail
              clear d0 d1 d2 d3 d4 d5
              refine HNA.out.mono ?_
              rintro r w3 ⟨v2, rfl, ow2, hb3⟩
              have HB3 := Lib.hid (HB2.out.trans (hb3.mono HB2.out.size))
              have HBW3 := Lib.hid (HB1.out.trans (HB3.out.mono HB1.out.size))
              have HBU := Lib.hid (ref3Build_any (namesOf e.secs) v2 w3 (by rw [namesOf_len]; have h1 := HEL.out; have h2 := HL.out; omega) (fun s hs => by
                unfold namesOf at hs
                rw [List.mem_append, List.mem_map, List.mem_singleton] at hs
                rcases hs with ⟨x, hx, rfl⟩ | rfl
                · exact HOK.out.names _ hx
                · decide) ow2.rd)
              clear ow2 hb3 HNA
              go_wp2_with fail
              have HTL := Lib.hid (tabOf_len e)
              have HTD : Hid (tabOf e = (buildR (namesOf e.secs)).1) := rfl
              refine HBU.out.mono ?_
              rintro r w4 ⟨v3, v4, rfl, ob3, -, hb4⟩
              have HB4 := Lib.hid (HB3.out.trans (hb4.mono HB3.out.size))
              have HBW4 := Lib.hid (HB1.out.trans (HB4.out.mono HB1.out.size))
              obtain ⟨tn, ta, tc, htn, rfl, _, _⟩ := ob3.bs.shape
              rw [← HTD.out] at htn
              have htl : tn ≤ 40000 := by have h1 := HTL.out; have h2 := htn.out; have h3 := HEL.out; have h4 := HL.out; omega
              clear ob3 hb4 HBU
              have HM4 := Lib.hid (may3_yes hz htn.out)
              have hhl := headsOf_le (t := tn) HPW.out (by have := HEL.out; have := HL.out; omega) (by have := HGN.out; omega) HOK.out.data (by omega)
              have HFIN : Hid (mayE e = decide ((headsOf e tn : Int) + 64 * ((nl : Int) + 2) ≤ 4194304)) := by
                have h1 := HEL.out; have h2 := HL.out; rw [HM3.out, HM4.out, Bool.eq_iff_iff, decide_eq_true_iff, decide_eq_true_iff]
                constructor <;> intro h <;> omega
              have HU := Lib.hid (fun w => ref4Up_any ((placesOf e).2 + tn) 8 w (by omega) (by decide) (by decide))
              have HUD : Hid (upN ((placesOf e).2 + tn) 8 = headsOf e tn) := rfl
              rw [HUD.out] at HU
              rw [hz]
              have HXZ := Lib.hid hz
              clear hz HM3 HM4 HUD
              generalize headsOf e tn = hh at *
              generalize (placesOf e).2 = pe at *
              obtain ⟨hpe, hhl⟩ := hhl
              obtain ⟨d0, d1, d2, d3, d4, d5⟩ := elf_box (heap_below HB4.out HX1.out)
              have hAB := fun (x : Above w4) (b k : Nat) (h : b < w4.heap.size) => Above.cell x b k h
              have hblt : w.heap.size < w4.heap.size := block_lt d4
              go_wp2
              refine wp_region_walk 13 [(4, .is (.int .i64 (hh : Nat)))] (by kernel_rfl) (by kernel_rfl) ?_
              simp only [List.take_succ_cons, List.take_zero, List.drop_succ_cons, List.drop_zero]
              repeat (first
                | (refine walk_quiet rfl rfl rfl ?_; intro K hK; go_big_quiet_op; go_big_quiet_on)
                | (refine walk_is rfl rfl (fun wx hwx _ => WpYld.callIs (run_callL (vals := [.int .i64 ((pe : Int) + tn), .int .i64 8]) Try.func79 (by kernel_rfl) rfl rfl) (HU.out wx)) ?_; go_frame))
              refine walk_nil ?_
              intro wz hbz hF
              have HBZ := Lib.hid (HBW4.out.trans (hbz.mono HBW4.out.size))
              clear hF hbz
              go_wp2
              go_ret
              exact ⟨by rw [HFIN.out]; rfl, HBZ.out⟩
  · have HR := Lib.hid (mayE_1 (by simpa using h1))
    have hm1 : ((decide (e.typ = 1) || decide (e.typ = 2)) && !decide (mt = 0) && decide (nl ≤ 250) && decide (gn ≤ 16)) = false := by rw [← HM1.out]; simpa using h1
    have ht : ((e.typ != 1) = true ∧ (e.typ != 2) = true) ∨ ((e.typ != 1) = false ∨ ((e.typ != 1) = true ∧ (e.typ != 2) = false)) ∧ (((mt : Int) == 0) = true ∨ ((mt : Int) == 0) = false ∧ (250 < nl ∨ nl ≤ 250 ∧ 16 < gn)) := by
      by_cases t1 : e.typ = 1
      · refine .inr ⟨.inl (by rw [t1]; rfl), ?_⟩
        simp only [t1, decide_true, Bool.true_or, Bool.true_and, Bool.and_eq_false_iff, Bool.not_eq_false', decide_eq_true_eq, decide_eq_false_iff_not] at hm1
        rw [beq_iff_eq, beq_eq_false_iff_ne]
        omega
      · by_cases t2 : e.typ = 2
        · refine .inr ⟨.inr (by rw [t2]; exact ⟨rfl, rfl⟩), ?_⟩
          simp only [t2, decide_true, Bool.or_true, Bool.true_and, Bool.and_eq_false_iff, Bool.not_eq_false', decide_eq_true_eq, decide_eq_false_iff_not] at hm1
          rw [beq_iff_eq, beq_eq_false_iff_ne]
          omega
        · exact .inl ⟨by simpa using t1, by simpa using t2⟩
    have HX8 := Lib.hid h1
    clear h1 hm1 HM1
    rcases ht with ⟨ht1, ht2⟩ | ⟨ht1 | ⟨ht1, ht2⟩, hmt | ⟨hmt, hn | ⟨hn, hg⟩⟩⟩
    all_goals
      go_enter Try.func44, Try.ntmps44
      go_wp2_with (first
        | ((with_reducible show wpList _ _ _ (⟨_, .box _ _, _, _, _, _⟩ :: _) _ _); go_must (refine wpList_box rfl ?_; intro w1 hx1 hb1 hs1; obtain ⟨c0, c1, c2, c3, c4, c5⟩ := elf_box hx1))
        | (go_at_call 76; refine (HMC.out _).mono ?_; rintro r w2 ⟨rfl, rfl⟩))
      go_ret
      exact ⟨by rw [HR.out]; rfl, hb1⟩
end Go.Proofs.Ytgjoimcgiofinaa
namespace Go.Proofs.Ytgjoimcgiofinaa
open Go.RowKit Go.Fd
/-- append in a region that draws: bytes behind bytes. -/
theorem step_catB {ops : Array Oper} {o : Oper} {a : Act} {w : World} {K : Act → World → Prop} {Q : Exit → Act → World → Prop} {E : Prop}
    (hg : o.guard = none) (s x : Operand) (hop : o.op = Op.call { callee := Callee.builtin Builtin.append, args := #[s, x], argTypes := #[23, 23] })
    {base : Nat} {v u : Value} {l m : List UInt8} (hown : OB w base v l) (hy : Bs w u m) (hs : a.eval s = v) (hx : a.eval x = u) (hn : l.length + m.length ≤ 140737488355328) (hb : base ≤ w.heap.size)
    (hK : ∀ v' w', OB w' base v' (l ++ m) → w.grownBy w' v.ownBlock → K (a.put o.dst v') w') :
    if Region.wanted o (yielded ops a.tmps) = true then Oper.wp Try.prog o a w K Q else E := by
  have hw : Region.wanted o (yielded ops a.tmps) = true := by simp [Region.wanted, hg]
  rw [if_pos hw]
  obtain ⟨v', w', hrun, h6, h7⟩ := run_cat (ty := o.type) TB hown hy hn hb
  unfold Oper.wp
  simp [execOp, hop, resolve, invoke, builtin, hs, hx, hrun, Result.andThen]
  exact hK v' w' h6 h7
theorem ob_lit7 {w : World} {l : List UInt8} {cs : Array Value} {n : Nat} (hc : cs = (l.map B).toArray) (hn : n = l.length) (hl : l.length ≤ 1000000) : OB (w.alloc (.cells cs 5)) w.heap.size (.slice (some ⟨w.heap.size, 0, none⟩) n n) l := by
  subst hc hn
  exact ⟨by simp, .inr ⟨w.heap.size, l.length, _, rfl, Nat.le_refl _, heap_alloc_last w _, Nat.le_refl _, maxLen_of (by omega), by simp, by simp only [Nat.mul_one]; exact List.take_of_length_le (by simp)⟩⟩
theorem tabSec_fits {n : Nat} (h : n < 18446744073709551616) : (tabSec n).fits := by
  refine ⟨?_, ?_, ?_, ?_, h, ?_, ?_, ?_⟩
  all_goals (simp [tabSec])
theorem keep_h {w w' : World} {b : Nat} {cs : Array Value} {e : TypeId} {fr : Nat × Nat} (h : Keeps 5 w w') (he : e ≠ 5) (hb : w.heap[b]? = some (.cells cs e fr)) : w'.heap[b]? = some (.cells cs e fr) := h _ _ _ _ he hb
set_option maxHeartbeats 4000000 in
set_option maxRecDepth 100000 in
theorem ref4Write_any (e : ElfM) (L : List (SecM × Value)) (sv gv : Value) (w : World) (h : ElfAt w e L sv gv) (ho : ElfOk e) :
    Calls Try.prog 46 #[elfV e sv gv] w fun r w' => ∃ v, r = .returned (.tuple #[v, .int .i64 (fileW e).2]) ∧ OB w' w.heap.size v (fileW e).1 ∧ Below w.heap.size w w' := by
  obtain ⟨a, ca, rfl, hca, -, hc⟩ := h.rd.open (fun _ => rfl)
  obtain ⟨ga, gc, rfl, hgc, -, hcg⟩ := h.segs.open (fun _ => rfl)
  have HC := Lib.hid hc
  have HCG := Lib.hid hcg
  have HAT := Lib.hid h
  have HOK := Lib.hid ho
  have HD := Lib.hid h.data
  have HSE := Lib.hid (fun k x (hk : L[k]? = some x) => sec_of h.secs hk)
  have HEL := Lib.hid (show e.secs.length = L.length by rw [h.secs, List.length_map])
  obtain ⟨nl, hnl⟩ : ∃ n, n = L.length := ⟨_, rfl⟩
  obtain ⟨gn, hgn⟩ : ∃ n, n = e.segs.length := ⟨_, rfl⟩
  rw [← hnl] at hca HAT ⊢
  rw [← hgn] at hgc HAT ⊢
  have HL := Lib.hid hnl
  have HGN := Lib.hid hgn
  have HMY := Lib.hid (fun wx (hx : Below w.heap.size w wx) => ref4May_any e L _ _ wx (HAT.out.mono hx) HOK.out)
  clear hc hcg h hnl hgn ho
  cases hmy : mayE e with
  | false =>
    have HR := Lib.hid (fileW_no hmy)
    rw [hmy] at HMY
    clear hmy
    go_enter Try.func46, Try.ntmps46
    go_wp2_with (first
      | ((with_reducible show wpList _ _ _ (⟨_, .box _ _, _, _, _, _⟩ :: _) _ _); go_must (refine wpList_box rfl ?_; intro w1 hx1 hb1 hs1; obtain ⟨c0, c1, c2, c3, c4, c5⟩ := elf_box hx1)))
    refine (HMY.out _ hb1).mono ?_
    rintro r w2 ⟨rfl, hb2⟩
    go_wp2
    go_ret2
    exact ⟨_, by rw [HR.out]; rfl, by rw [HR.out]; exact OB.nil _ _, hb1.trans (hb2.mono hb1.size)⟩
  | true =>
    have HR := Lib.hid (fileW_ok hmy)
    have HK := Lib.hid (mayK hmy)
    rw [hmy] at HMY
    clear hmy
    have hnl2 : nl ≤ 250 := by have h1 := HK.out.secs; have h2 := HEL.out; have h3 := HL.out; omega
    have hgn2 : gn ≤ 16 := by have h1 := HK.out.segs; have h2 := HGN.out; omega
    go_enter Try.func46, Try.ntmps46
    go_wp2_with (first
      | ((with_reducible show wpList _ _ _ (⟨_, .box _ _, _, _, _, _⟩ :: _) _ _); go_must (refine wpList_box rfl ?_; intro w1 hx1 hb1 hs1; obtain ⟨c0, c1, c2, c3, c4, c5⟩ := elf_box hx1)))
    have HX1 := Lib.hid hx1
    have HB1 := Lib.hid hb1
    have hs1' := hs1
    clear hx1 hb1 c0 c1 c2 c3 c4 c5
    refine (HMY.out _ HB1.out).mono ?_
    rintro r w2 ⟨rfl, hb2⟩
    have HX2 := Lib.hid (heap_below hb2 HX1.out)
    have HB2 := Lib.hid (HB1.out.trans (hb2.mono HB1.out.size))
    have hs2 := hb2.size
    clear hb2 HMY
    obtain ⟨c0, c1, c2, c3, c4, c5⟩ := elf_box HX2.out
    have HPL := Lib.hid (ref4Places_any e L _ _ w2 (HAT.out.mono HB2.out) (by have := HL.out; omega) (by have := HGN.out; omega) HK.out.pow HOK.out.fits.secs HOK.out.data)
    obtain ⟨pe, hpe⟩ : ∃ pe, pe = (placesOf e).2 := ⟨_, rfl⟩
    rw [← hpe] at HPL
    have HPE := Lib.hid hpe
    clear hpe
    go_wp2_with fail
    clear c0 c1 c2 c3 c4 c5
    refine HPL.out.mono ?_
    rintro r w3 ⟨v3, rfl, ow3, hb3⟩
    obtain ⟨pa, pc, rfl, hpc, -, hpac⟩ := (show Rd I64 w3 v3 (placesOf e).1 from ow3.rd).open 0
    have HPC3 := Lib.hid hpac
    have hpl : (placesOf e).1.length = nl := by have h1 := plF_len (g := segsB e) (n := front e) e.secs; have h2 := HEL.out; have h3 := HL.out; exact h1.trans (by omega)
    rw [hpl] at hpc ⊢
    have HPLN := Lib.hid hpl
    have HX3 := Lib.hid (heap_below hb3 HX2.out)
    have HB3 := Lib.hid (HB2.out.trans (hb3.mono HB2.out.size))
    have hs3 := hb3.size
    clear ow3 hb3 hpac hpl HPL
    obtain ⟨c0, c1, c2, c3, c4, c5⟩ := elf_box HX3.out
    have HNA := Lib.hid (ref4Names_any e L _ _ w3 (HAT.out.mono HB3.out) (by have := HL.out; omega))
    go_wp2_with fail
    clear c0 c1 c2 c3 c4 c5
    refine HNA.out.mono ?_
    rintro r w4 ⟨v4, rfl, ow4, hb4⟩
    have HX4 := Lib.hid (heap_below hb4 HX3.out)
    have HB4 := Lib.hid (HB3.out.trans (hb4.mono HB3.out.size))
    have hs4 := hb4.size
    have HBU := Lib.hid (ref3Build_any (namesOf e.secs) v4 w4 (by rw [namesOf_len]; have h1 := HEL.out; have h2 := HL.out; omega) (fun s hs => by
      unfold namesOf at hs
      rw [List.mem_append, List.mem_map, List.mem_singleton] at hs
      rcases hs with ⟨x, hx, rfl⟩ | rfl
      · exact HOK.out.names _ hx
      · decide) ow4.rd)
    rw [HK.out.ok] at HBU
    have HB34 := Lib.hid hb4
    clear ow4 hb4 HNA
    go_wp2_with fail
    refine HBU.out.mono ?_
    rintro r w5 ⟨v1, v2, rfl, ob1, ow2, hb5⟩
    have OB1 := Lib.hid (show OB w5 w4.heap.size v1 (tabOf e) from ob1)
    have HX5 := Lib.hid (heap_below hb5 HX4.out)
    have HB5w := Lib.hid (HB4.out.trans (hb5.mono HB4.out.size))
    have hs5 := hb5.size
    obtain ⟨tn, ta, tc, htn, rfl, _, _⟩ := ob1.bs.shape
    replace htn : Hid (tn = (tabOf e).length) := htn
    obtain ⟨aa, ac, rfl, hac, -, haac⟩ := (show Rd I64 w5 v2 (atsOf e) from (show Ow I64 3 w5 w4.heap.size v2 (atsOf e) from ow2).rd).open 0
    have HAC := Lib.hid haac
    have HPC : Hid (∀ j, j < (placesOf e).1.length → ∃ b off, pa = some ⟨b, off, none⟩ ∧ w5.cell? ⟨b, off + j, none⟩ = some (I64 ((placesOf e).1[j]?.getD 0))) := fun j hj => by
      obtain ⟨b, off, h1, h2⟩ := HPC3.out j hj
      have h3 := (HB34.out.cell (block_lt h2)).trans h2
      exact ⟨b, off, h1, (hb5.cell (block_lt h3)).trans h3⟩
    obtain ⟨al, hal⟩ : ∃ al, al = (atsOf e).length := ⟨_, rfl⟩
    have HAK := Lib.hid (atsOf_len HK.out)
    have hal2 : al = nl + 1 := by have h1 := HAK.out.1; have h2 := HEL.out; have h3 := HL.out; omega
    rw [← hal] at hac ⊢
    have HALN := Lib.hid hal
    clear ob1 ow2 hb5 HBU haac hal HPC3 HB34
    subst hal2
    have htl : tn ≤ 40000 := by have h1 := tabOf_len e; have h2 := htn.out; have h3 := HEL.out; have h4 := HL.out; omega
    have hpe9 : pe ≤ 4194304 := by have h1 := HK.out.len; have h2 := heads_ge (e := e); have h3 := HPE.out; omega
    have HU := Lib.hid (fun w => ref4Up_any (pe + tn) 8 w (by omega) (by decide) (by decide))
    obtain ⟨hd, hhdd⟩ : ∃ hd, hd = headsOf e tn := ⟨_, rfl⟩
    have HUD : Hid (upN (pe + tn) 8 = hd) := by rw [hhdd, HPE.out]; exact rfl
    have HHD : Hid (hd = headsOf e (tabOf e).length) := by rw [hhdd, htn.out]; exact rfl
    have hhd : hd + 64 * (nl + 2) ≤ 4194304 := by have h1 := HK.out.len; have h2 := HHD.out; have h3 := HEL.out; have h4 := HL.out; omega
    have HGE := Lib.hid (show pe + tn ≤ hd ∧ hd < pe + tn + 8 by have h1 := heads_ge (e := e); have h2 := HHD.out; have h3 := htn.out; have h4 := HPE.out; omega)
    rw [HUD.out] at HU
    have HMC := Lib.hid (fun w => ref4Machine_any e.target w)
    have hml := mach_le e.target
    have hG5 : w.heap.size < w5.heap.size := by omega
    clear hhdd HUD
    obtain ⟨c0, c1, c2, c3, c4, c5⟩ := elf_box HX5.out
    go_wp2_with (go_at_call 79; refine (HU.out _).mono ?_; rintro r w9 ⟨rfl, rfl⟩)
    clear c0 c1 c2 c3 c4 c5
    have hwt := u64of_cast e.typ
    have hut := u64of_lt e.typ
    have HFT := Lib.hid HOK.out.fits.flags
    have HEN := Lib.hid HOK.out.fits.entry
    have hflg := HOK.out.fits.flags
    refine (till_any [127, 69, 76, 70, 2, 1, 1] 9 16 _ _ w5.heap.size (by decide) rfl (ob_lit7 rfl rfl (by decide)) (by rw [World.size_alloc]; omega)).mono ?_
    rintro r w6 ⟨v6, rfl, ho, hb, -⟩
    have HV6 := Lib.hid ho
    have HB6 := Lib.hid ((below_alloc w5 _).trans hb)
    clear ho hb
    have hmt2 : ∃ mt, mt = mach e.target := ⟨_, rfl⟩
    obtain ⟨mt, hmt2⟩ := hmt2
    have hut2 : ∃ ut, ut = u64of e.typ := ⟨_, rfl⟩
    obtain ⟨ut, hut2⟩ := hut2
    rw [← hmt2] at HMC hml
    rw [← hut2] at hwt hut
    have HMTT := Lib.hid hmt2.symm
    have HUTT := Lib.hid hut2.symm
    clear hmt2 hut2
    obtain ⟨c0, c1, c2, c3, c4, c5⟩ := elf_box (heap_base HB6.out HX5.out hG5)
    go_wp2_with fail
    clear c0 c1 c2 c3 c4 c5
    refine (ref4Put_any _ ut 2 v6 _ w5.heap.size (by simp only [List.length_append, List.length_replicate, List.length_cons, List.length_nil]; omega) hut (by decide) HV6.out HB6.out.size).mono ?_
    rintro r w7 ⟨v7, rfl, ho, hb, hk⟩
    have HV7 := Lib.hid ho
    have HB7 := Lib.hid (HB6.out.trans hb)
    clear ho hb hk
    obtain ⟨c0, c1, c2, c3, c4, c5⟩ := elf_box (heap_base HB7.out HX5.out hG5)
    go_wp2_with (first
      | (go_at_call 76; refine (HMC.out _).mono ?_; rintro r w99 ⟨rfl, rfl⟩))
    clear c0 c1 c2 c3 c4 c5
    refine (ref4Put_any _ mt 2 v7 _ w5.heap.size (by simp only [List.length_append, length_fixed, List.length_replicate, List.length_cons, List.length_nil]; omega) (by omega) (by decide) HV7.out HB7.out.size).mono ?_
    rintro r w8 ⟨v8, rfl, ho, hb, hk⟩
    have HV8 := Lib.hid ho
    have HB8 := Lib.hid (HB7.out.trans hb)
    clear ho hb hk
    obtain ⟨c0, c1, c2, c3, c4, c5⟩ := elf_box (heap_base HB8.out HX5.out hG5)
    go_wp2_with fail
    clear c0 c1 c2 c3 c4 c5
    refine (ref4Put_any _ 1 4 v8 _ w5.heap.size (by simp only [List.length_append, length_fixed, List.length_replicate, List.length_cons, List.length_nil]; omega) (by decide) (by decide) HV8.out HB8.out.size).mono ?_
    rintro r w9 ⟨v9, rfl, ho, hb, hk⟩
    have HV9 := Lib.hid ho
    have HB9 := Lib.hid (HB8.out.trans hb)
    clear ho hb hk
    obtain ⟨c0, c1, c2, c3, c4, c5⟩ := elf_box (heap_base HB9.out HX5.out hG5)
    go_wp2_with fail
    clear c0 c1 c2 c3 c4 c5
    refine (ref4Put_any _ e.entry 8 v9 _ w5.heap.size (by simp only [List.length_append, length_fixed, List.length_replicate, List.length_cons, List.length_nil]; omega) HEN.out (by decide) HV9.out HB9.out.size).mono ?_
    rintro r w10 ⟨v10, rfl, ho, hb, hk⟩
    have HV10 := Lib.hid ho
    have HB10 := Lib.hid (HB9.out.trans hb)
    clear ho hb hk
    obtain ⟨c0, c1, c2, c3, c4, c5⟩ := elf_box (heap_base HB10.out HX5.out hG5)
    have hdec : (0 < gn) ∨ ¬ (0 < gn) := Classical.em _
    rcases hdec with hgs | hgs
    · go_wp2_with fail
      clear c0 c1 c2 c3 c4 c5
      refine (ref4Put_any _ 64 8 v10 _ w5.heap.size (by simp only [List.length_append, length_fixed, List.length_replicate, List.length_cons, List.length_nil]; omega) (by decide) (by decide) HV10.out HB10.out.size).mono ?_
      rintro r w11 ⟨v11, rfl, ho, hb, hk⟩
      have HV11 := Lib.hid ho
      have HB11 := Lib.hid (HB10.out.trans hb)
      clear ho hb hk
      obtain ⟨c0, c1, c2, c3, c4, c5⟩ := elf_box (heap_base HB11.out HX5.out hG5)
      go_wp2_with fail
      clear c0 c1 c2 c3 c4 c5
      refine (ref4Put_any _ hd 8 v11 _ w5.heap.size (by simp only [List.length_append, length_fixed, List.length_replicate, List.length_cons, List.length_nil]; omega) (by omega) (by decide) HV11.out HB11.out.size).mono ?_
      rintro r w12 ⟨v12, rfl, ho, hb, hk⟩
      have HV12 := Lib.hid ho
      have HB12 := Lib.hid (HB11.out.trans hb)
      clear ho hb hk
      obtain ⟨c0, c1, c2, c3, c4, c5⟩ := elf_box (heap_base HB12.out HX5.out hG5)
      go_wp2_with fail
      clear c0 c1 c2 c3 c4 c5
      refine (ref4Put_any _ e.flags 4 v12 _ w5.heap.size (by simp only [List.length_append, length_fixed, List.length_replicate, List.length_cons, List.length_nil]; omega) (by omega) (by decide) HV12.out HB12.out.size).mono ?_
      rintro r w13 ⟨v13, rfl, ho, hb, hk⟩
      have HV13 := Lib.hid ho
      have HB13 := Lib.hid (HB12.out.trans hb)
      clear ho hb hk
      obtain ⟨c0, c1, c2, c3, c4, c5⟩ := elf_box (heap_base HB13.out HX5.out hG5)
      have HF13 := Lib.hid (show OB w13 w5.heap.size v13 ([127, 69, 76, 70, 2, 1, 1] ++ List.replicate 9 0 ++ putL 2 [ut, mt] ++ putL 4 [1] ++ putL 8 [e.entry, 64, hd] ++ putL 4 [e.flags]) by
        have := HV13.out
        unfold putL
        simp only [List.append_assoc, List.flatMap_cons, List.flatMap_nil, List.append_nil] at this ⊢
        exact this)
      have hT0 : ∃ T, T = [127, 69, 76, 70, 2, 1, 1] ++ List.replicate 9 0 ++ putL 2 [ut, mt] ++ putL 4 [1] ++ putL 8 [e.entry, 64, hd] ++ putL 4 [e.flags] := ⟨_, rfl⟩
      obtain ⟨T0, hT0⟩ := hT0
      rw [← hT0] at HF13
      have HLT0 := Lib.hid (show T0.length = 52 by rw [hT0]; simp only [List.length_append, putL_len, List.length_replicate]; rfl)
      have HHB := Lib.hid (show headB e hd = T0 ++ putL 2 [64, 56, gn, 64, nl + 2, nl + 1] by
        rw [hT0]
        unfold headB segsB
        rw [show e.secs.length = nl by have h1 := HEL.out; have h2 := HL.out; omega, ← HGN.out, decide_eq_true hgs, HMTT.out, HUTT.out]
        rfl)
      clear hT0 HV13
      obtain ⟨sm, hsm⟩ : ∃ sm, sm = [64, 56, gn, 64, nl + 2, nl + 1] := ⟨_, rfl⟩
      rw [← hsm] at HHB
      have HSB := Lib.hid (show ∀ n ∈ sm, n ≤ 1000 by intro n hn; rw [hsm] at hn; simp only [List.mem_cons, List.not_mem_nil, or_false] at hn; omega)
      have HSL := Lib.hid (show sm.length = 6 by rw [hsm]; rfl)
      have HSA := Lib.hid (fun (w : World) => (show (w.alloc (.cells #[.int .i64 64, .int .i64 56, .int .i64 gn, .int .i64 64, .int .i64 ((nl : Int) + 2), .int .i64 ((nl : Int) + 1)] 3)).heap[w.heap.size]? = some (.cells (sm.map I64).toArray 3 (0, 0)) by rw [hsm]; exact heap_alloc_last w _))
      have hvs : ∃ m ad cap, v13 = .slice ad m cap := by obtain ⟨m, ad, cap, -, h, -⟩ := HF13.out.shape; exact ⟨m, ad, cap, h⟩
      obtain ⟨mv, av, cv, rfl⟩ := hvs
      clear hsm
      go_wp2
      have HS14 := Lib.hid (HSA.out w13)
      go_loopw [11, 13] (fun x i wr => ∃ k : Nat, i = .int .i64 k ∧ k ≤ 6 ∧ Hid (OB wr w5.heap.size x (T0 ++ putL 2 (sm.take k))) ∧ Hid (Below w5.heap.size w5 wr) ∧ Hid (wr.heap[w13.heap.size]? = some (.cells (sm.map I64).toArray 3 (0, 0)))) (fun _ i _ => 6 - (intOf i).toNat)
      case atStart => exact ⟨0, rfl, by omega, by have := HF13.out.mono (below_alloc w13 (.cells #[.int .i64 64, .int .i64 56, .int .i64 gn, .int .i64 64, .int .i64 ((nl : Int) + 2), .int .i64 ((nl : Int) + 1)] 3)); simpa [Hid, putL] using this, HB13.out.trans ((below_alloc w13 _).mono HB13.out.size), HS14.out⟩
      case round =>
        clear c0 c1 c2 c3 c4 c5
        obtain ⟨k, rfl, hk, HO, HB, HS⟩ := hrel
        by_cases hlt : k < 6
        · have X1 := Lib.hid (show sm[k]? = some (sm[k]'(by have := HSL.out; omega)) from List.getElem?_eq_getElem _)
          generalize sm[k]'(by have := HSL.out; omega) = n at *
          have hn1 := HSB.out n (List.mem_of_getElem? X1.out)
          have cS := cell_rec HS.out k
          rw [List.getElem?_toArray, List.getElem?_map, X1.out] at cS
          simp only [Option.map_some] at cS
          have HST := Lib.hid (show putL 2 (sm.take (k + 1)) = putL 2 (sm.take k) ++ fixed n 2 from flatf_step X1.out)
          have HTL := Lib.hid (show (T0 ++ putL 2 (sm.take k)).length ≤ 100 by rw [List.length_append, HLT0.out, putL_len, List.length_take]; omega)
          have HV20 := HO
          have HB20 := HB
          go_wp2_with fail
          refine (ref4Put_any _ n 2 _ _ w5.heap.size (by have := HTL.out; omega) (by omega) (by decide) HV20.out HB20.out.size).mono ?_
          rintro r w21 ⟨v21, rfl, ho, hb, hk⟩
          have HV21 := Lib.hid ho
          have HB21 := Lib.hid (HB20.out.trans hb)
          have HS21 := Lib.hid (keep_h hk (by decide) HS.out)
          clear ho hb hk
          have HF21 := Lib.hid (show OB w21 w5.heap.size v21 (T0 ++ putL 2 (sm.take (k + 1))) by rw [HST.out, ← List.append_assoc]; exact HV21.out)
          go_wp2
          go_roundw
          case rel =>
            first
              | exact ⟨k + 1, by go_num, by omega, HF21.out, HB21.out, HS21.out⟩
              | ((repeat apply Exists.intro); exact ⟨⟨k + 1, by go_num, by omega, HF21.out, HB21.out, HS21.out⟩, rfl⟩)
          case measure => simp [intOf] <;> omega
        · obtain rfl : k = 6 := by omega
          have HF22 := Lib.hid (show OB wr w5.heap.size u11 (headB e hd) by
            rw [HHB.out]
            have := HO.out
            rw [List.take_of_length_le (by have := HSL.out; omega)] at this
            exact this)
          have HB22 := Lib.hid HB.out
          have HLH := Lib.hid (headB_len e hd)
          clear HO HB HS HS14 HSA HHB HF13
          obtain ⟨c0, c1, c2, c3, c4, c5⟩ := elf_box (heap_base HB22.out HX5.out hG5)
          go_wp2
          go_loopw [11, 14] (fun x i wr => ∃ k : Nat, i = .int .i64 k ∧ k ≤ gn ∧ Hid (OB wr w5.heap.size x (headB e hd ++ (e.segs.take k).flatMap segBy)) ∧ Hid (Below w5.heap.size w5 wr)) (fun _ i _ => gn - (intOf i).toNat)
          case atStart => exact ⟨0, rfl, Nat.zero_le _, by simpa [Hid] using HF22.out, HB22.out⟩
          case round =>
            clear c0 c1 c2 c3 c4 c5
            obtain ⟨k, rfl, hk, HO, HB⟩ := hrel
            have HBW := Lib.hid (HB5w.out.trans (HB.out.mono (by omega)))
            obtain ⟨c0, c1, c2, c3, c4, c5⟩ := elf_box (heap_base HB.out HX5.out hG5)
            by_cases hlt : k < gn
            · clear c0 c1 c2 c3 c4
              have X1 := Lib.hid (show e.segs[k]? = some (e.segs[k]'(by have := HGN.out; omega)) from List.getElem?_eq_getElem _)
              generalize e.segs[k]'(by have := HGN.out; omega) = x at *
              obtain ⟨b1, o1, ha, c10, c11, c12, c13, c14, c15, c16, -⟩ := seg_cells HCG.out HBW.out X1.out
              subst ha
              have HFS := Lib.hid (HOK.out.fits.segs _ (List.mem_of_getElem? X1.out))
              have HST : Hid ((e.segs.take (k + 1)).flatMap segBy = (e.segs.take k).flatMap segBy ++ segBy x) := by rw [List.take_add_one, X1.out, List.flatMap_append]; simp [Hid]
              have HTL := Lib.hid (show (headB e hd ++ (e.segs.take k).flatMap segBy).length ≤ 5000 by
                rw [List.length_append, headB_len, flat_len' segBy_len, List.length_take]; omega)
              obtain ⟨typ, flags, off, vaddr, filesz, memsz, align⟩ := x
              generalize hT : headB e hd ++ (e.segs.take k).flatMap segBy = T at *
              have HT := Lib.hid hT
              clear hT
              dsimp only at *
              have hty : typ < 4294967296 := HFS.out.1
              have hfl : flags < 4294967296 := HFS.out.2.1
              go_wp2_with (first
                | ((with_reducible show wpList _ _ _ (⟨none, .store _ _ _, _, _, _, _⟩ :: _) _ _); go_must (refine wpList_storeNew rfl rfl (by kernel_rfl) rfl (by simp [Value.oneCell']) ?_; intro w26 hh26 hb26; obtain ⟨e0, e1, e2, e3, e4, e5, e6⟩ := seg_box (x := ⟨typ, flags, off, vaddr, filesz, memsz, align⟩) hh26; have HH26 := Lib.hid hh26; have HV26 := Lib.hid (HO.out.mono hb26); have HB26 := Lib.hid (HB.out.trans (hb26.mono HB.out.size)); clear hb26 hh26)))
              clear c5 c10 c11 c12 c13 c14 c15 c16
              refine (ref4Put_any _ typ 4 _ _ w5.heap.size (by have := HTL.out; omega) (by omega) (by decide) HV26.out HB26.out.size).mono ?_
              rintro r w27 ⟨v27, rfl, ho, hb, hk⟩
              have HV27 := Lib.hid ho
              have HB27 := Lib.hid (HB26.out.trans hb)
              have HH27 := Lib.hid (keep_h hk (by decide) HH26.out)
              clear ho hb hk
              clear e0 e1 e2 e3 e4 e5 e6
              obtain ⟨e0, e1, e2, e3, e4, e5, e6⟩ := seg_box (x := ⟨typ, flags, off, vaddr, filesz, memsz, align⟩) HH27.out
              go_wp2_with fail
              refine (ref4Put_any _ flags 4 v27 _ w5.heap.size (by have := HTL.out; rw [List.length_append, length_fixed]; omega) (by omega) (by decide) HV27.out HB27.out.size).mono ?_
              rintro r w28 ⟨v28, rfl, ho, hb, hk⟩
              have HV28 := Lib.hid ho
              have HB28 := Lib.hid (HB27.out.trans hb)
              have HH28 := Lib.hid (keep_h hk (by decide) HH27.out)
              clear ho hb hk
              clear e0 e1 e2 e3 e4 e5 e6
              obtain ⟨e0, e1, e2, e3, e4, e5, e6⟩ := seg_box (x := ⟨typ, flags, off, vaddr, filesz, memsz, align⟩) HH28.out
              obtain ⟨sx, hsx⟩ : ∃ sx, sx = [off, vaddr, vaddr, filesz, memsz, align] := ⟨_, rfl⟩
              have HSX := Lib.hid hsx
              have HXB := Lib.hid (show ∀ n ∈ sx, n < 18446744073709551616 by
                intro n hn
                have h1 := HFS.out.2.2.1
                have h2 := HFS.out.2.2.2.1
                have h3 := HFS.out.2.2.2.2.1
                have h4 := HFS.out.2.2.2.2.2.1
                have h5 := HFS.out.2.2.2.2.2.2
                rw [hsx] at hn
                simp only [List.mem_cons, List.not_mem_nil, or_false] at hn
                dsimp only at h1 h2 h3 h4 h5
                omega)
              have HXL := Lib.hid (show sx.length = 6 by rw [hsx]; rfl)
              have HS29 := Lib.hid (show (w28.alloc (.cells #[.int .u64 off, .int .u64 vaddr, .int .u64 vaddr, .int .u64 filesz, .int .u64 memsz, .int .u64 align] 53)).heap[w28.heap.size]? = some (.cells (sx.map U64).toArray 53 (0, 0)) by rw [hsx]; exact heap_alloc_last w28 _)
              have HL28 := Lib.hid (show (T ++ fixed typ 4 ++ fixed flags 4).length ≤ 5008 by rw [List.length_append, List.length_append, length_fixed, length_fixed]; have := HTL.out; omega)
              generalize hT2 : T ++ fixed typ 4 ++ fixed flags 4 = T2 at *
              have HT2 := Lib.hid hT2
              clear hsx hT2
              go_wp2
              go_loopw [11, 17] (fun x i wr => ∃ j : Nat, i = .int .i64 j ∧ j ≤ 6 ∧ Hid (OB wr w5.heap.size x (T2 ++ putL 8 (sx.take j))) ∧ Hid (Below w5.heap.size w5 wr) ∧ Hid (wr.heap[w28.heap.size]? = some (.cells (sx.map U64).toArray 53 (0, 0)))) (fun _ i _ => 6 - (intOf i).toNat)
              case atStart => exact ⟨0, rfl, by omega, by have := HV28.out.mono (below_alloc w28 (.cells #[.int .u64 off, .int .u64 vaddr, .int .u64 vaddr, .int .u64 filesz, .int .u64 memsz, .int .u64 align] 53)); simpa [Hid, putL] using this, HB28.out.trans ((below_alloc w28 _).mono HB28.out.size), HS29.out⟩
              case round =>
                clear e0 e1 e2 e3 e4 e5 e6
                obtain ⟨j, rfl, hj, HO, HB, HS⟩ := hrel
                by_cases hlt2 : j < 6
                · have X2 := Lib.hid (show sx[j]? = some (sx[j]'(by have := HXL.out; omega)) from List.getElem?_eq_getElem _)
                  generalize sx[j]'(by have := HXL.out; omega) = n at *
                  have HN1 := Lib.hid (HXB.out n (List.mem_of_getElem? X2.out))
                  have cS := cell_rec HS.out j
                  rw [List.getElem?_toArray, List.getElem?_map, X2.out] at cS
                  simp only [Option.map_some] at cS
                  have HST2 := Lib.hid (show putL 8 (sx.take (j + 1)) = putL 8 (sx.take j) ++ fixed n 8 from flatf_step X2.out)
                  have HTL2 := Lib.hid (show (T2 ++ putL 8 (sx.take j)).length ≤ 6000 by rw [List.length_append, putL_len, List.length_take]; have := HL28.out; omega)
                  have HV30 := HO
                  have HB30 := HB
                  go_wp2_with fail
                  refine (ref4Put_any _ n 8 _ _ w5.heap.size (by have := HTL2.out; omega) HN1.out (by decide) HV30.out HB30.out.size).mono ?_
                  rintro r w31 ⟨v31, rfl, ho, hb, hk⟩
                  have HV31 := Lib.hid ho
                  have HB31 := Lib.hid (HB30.out.trans hb)
                  have HS31 := Lib.hid (keep_h hk (by decide) HS.out)
                  clear ho hb hk
                  have HF31 := Lib.hid (show OB w31 w5.heap.size v31 (T2 ++ putL 8 (sx.take (j + 1))) by rw [HST2.out, ← List.append_assoc]; exact HV31.out)
                  go_wp2
                  go_roundw
                  case rel =>
                    first
                      | exact ⟨j + 1, by go_num, by omega, HF31.out, HB31.out, HS31.out⟩
                      | ((repeat apply Exists.intro); exact ⟨⟨j + 1, by go_num, by omega, HF31.out, HB31.out, HS31.out⟩, rfl⟩)
                  case measure => simp [intOf] <;> omega
                · obtain rfl : j = 6 := by omega
                  have HF32 := Lib.hid (show OB wr w5.heap.size u11 (headB e hd ++ (e.segs.take (k + 1)).flatMap segBy) by
                    rw [HST.out, ← List.append_assoc, HT.out]
                    have := HO.out
                    rw [List.take_of_length_le (by have := HXL.out; omega), ← HT2.out, HSX.out] at this
                    unfold segBy
                    rw [show putL 4 [typ, flags] = fixed typ 4 ++ fixed flags 4 by simp [putL]]
                    simp only [List.append_assoc] at this ⊢
                    exact this)
                  have HB32 := Lib.hid HB.out
                  clear HO HB
                  go_wp2
                  go_roundw
                  case rel =>
                    first
                      | exact ⟨k + 1, by go_num, by omega, HF32.out, HB32.out⟩
                      | ((repeat apply Exists.intro); exact ⟨⟨k + 1, by go_num, by omega, HF32.out, HB32.out⟩, rfl⟩)
                  case measure => simp [intOf] <;> omega
            · have hkn : e.segs.take k = e.segs := List.take_of_length_le (by have := HGN.out; omega)
              have HFR := Lib.hid (show OB wr w5.heap.size u11 (frontB e) by
                have := HO.out
                rw [hkn] at this
                unfold frontB
                rw [← HHD.out]
                exact this)
              have HBR := Lib.hid HB.out
              clear HO HB hkn
              obtain ⟨c0, c1, c2, c3, c4, c5⟩ := elf_box (heap_base HBR.out HX5.out hG5)
              go_wp2
              go_loopw [11, 18] (fun x i wr => ∃ k : Nat, i = .int .i64 k ∧ k ≤ nl ∧ Hid (OB wr w5.heap.size x (bodyF (frontB e) ((e.secs.zip (placesOf e).1).take k))) ∧ Hid (Below w5.heap.size w5 wr)) (fun _ i _ => nl - (intOf i).toNat)
              case atStart => exact ⟨0, rfl, Nat.zero_le _, HFR.out, HBR.out⟩
              case round =>
                clear c0 c1 c2 c3 c4 c5
                obtain ⟨k, rfl, hk, HO, HB⟩ := hrel
                have HBW := Lib.hid (HB5w.out.trans (HB.out.mono (by omega)))
                by_cases hlt : k < nl
                · obtain ⟨c0, c1, c2, c3, c4, c5⟩ := elf_box (heap_base HB.out HX5.out hG5)
                  clear c0 c1 c2 c3 c5
                  have X1 := Lib.hid (show L[k]? = some (L[k]'(by have := HL.out; omega)) from List.getElem?_eq_getElem _)
                  generalize L[k]'(by have := HL.out; omega) = x at *
                  obtain ⟨s, dv⟩ := x
                  have HDB := Lib.hid (HD.out _ (List.mem_of_getElem? X1.out))
                  obtain ⟨dm, da, dc, hdm, rfl, _, _⟩ := HDB.out.shape
                  have X2 := Lib.hid (HSE.out _ _ X1.out)
                  have HZP := Lib.hid (zipP (g := segsB e) (n := front e) X2.out)
                  have HFN := Lib.hid (HK.out.fine _ (List.mem_of_getElem? X2.out))
                  have HST := Lib.hid (show bodyF (frontB e) ((e.secs.zip (placesOf e).1).take (k + 1)) = bodyF (frontB e) ((e.secs.zip (placesOf e).1).take k) ++ List.replicate (placeS (segsB e) (plF (segsB e) (front e) (e.secs.take k)).2 s - (bodyF (frontB e) ((e.secs.zip (placesOf e).1).take k)).length) 0 ++ s.data from bodyF_step (acc := frontB e) HZP.out)
                  have HLN := Lib.hid (body_len (g := segsB e) (frontB_len e) HK.out.pow k (by have h1 := HEL.out; have h2 := HL.out; omega))
                  have HLE := Lib.hid (placeS_le (g := segsB e) (p := (plF (segsB e) (front e) (e.secs.take k)).2) (HK.out.pow _ (List.mem_of_getElem? X2.out)))
                  have HPB := Lib.hid (place_bd HK.out (k + 1))
                  rw [plF_step X2.out] at HPB
                  have hp9 : placeS (segsB e) (plF (segsB e) (front e) (e.secs.take k)).2 s + dm ≤ 4194304 := by
                    have h1 : placeS (segsB e) (plF (segsB e) (front e) (e.secs.take k)).2 s + s.data.length ≤ (placesOf e).2 := HPB.out
                    have h3 := HPE.out
                    have h4 := hdm.out
                    dsimp only at h4
                    omega
                  obtain ⟨b1, o1, ha, c10, c11, c12, c13, c14, c15, c16, c17, c18, c19, hb1lt⟩ := sec_cells HC.out HBW.out X1.out
                  subst ha
                  clear c10 c12 c13 c14 c15 c16 c17 c18
                  obtain ⟨bP, oP, hP1, cP⟩ := HPC.out k (by have := HPLN.out; omega)
                  have HPGx : (placesOf e).1[k]? = some (placeS (segsB e) (plF (segsB e) (front e) (e.secs.take k)).2 s) := plF_get (g := segsB e) (n := front e) X2.out
                  rw [HPGx] at cP
                  simp only [Option.getD_some] at cP
                  replace cP := (HB.out.cell (block_lt cP)).trans cP
                  subst hP1
                  have HPGY := Lib.hid HPGx
                  generalize hT : bodyF (frontB e) ((e.secs.zip (placesOf e).1).take k) = T at *
                  have HT := Lib.hid hT
                  have HTL := Lib.hid (show T.length = (plF (segsB e) (front e) (e.secs.take k)).2 by rw [← hT]; exact HLN.out)
                  have HP8 : Hid (s.typ = 8 → placeS (segsB e) (plF (segsB e) (front e) (e.secs.take k)).2 s = T.length ∧ s.data = []) := fun h8 => by
                    refine ⟨?_, ?_⟩
                    · rw [HTL.out]; unfold placeS; rw [if_pos h8]
                    · have h1 := HFN.out
                      unfold fineB at h1
                      rw [if_pos h8] at h1
                      simp only [Bool.and_eq_true, decide_eq_true_eq] at h1
                      exact List.eq_nil_of_length_eq_zero h1.2.1
                  generalize placeS (segsB e) (plF (segsB e) (front e) (e.secs.take k)).2 s = p at *
                  obtain ⟨d, hd1⟩ : ∃ d, p = T.length + d := ⟨p - T.length, by have h1 := HLE.out.1; have h2 := HTL.out; omega⟩
                  have HD1 := Lib.hid hd1
                  clear hT HPGx hd1
                  obtain ⟨name, typ, flags, addr, align, size, link, info, ent, data⟩ := s
                  dsimp only at *
                  by_cases h8 : typ = 8
                  · have h8' : ((typ : Int) != 8) = false := by rw [bne_eq_false_iff_eq]; omega
                    obtain ⟨hpT, hdn⟩ := HP8.out h8
                    have hdm0 : dm = 0 := by have := hdm.out; rw [hdn] at this; simpa using this
                    have hdz : ¬ (0 < dm) := by omega
                    have HF40 := Lib.hid (show OB wr w5.heap.size u11 (bodyF (frontB e) ((e.secs.zip (placesOf e).1).take (k + 1))) by
                      rw [HST.out, hdn, hpT, Nat.sub_self, List.replicate_zero, List.append_nil, List.append_nil]
                      exact HO.out)
                    have HX8 := Lib.hid h8
                    have HX9 := Lib.hid hdm0
                    clear h8 hdm0 hpT hdn
                    go_wp2
                    go_roundw
                    case rel =>
                      first
                        | exact ⟨k + 1, by go_num, by omega, HF40.out, HB.out⟩
                        | ((repeat apply Exists.intro); exact ⟨⟨k + 1, by go_num, by omega, HF40.out, HB.out⟩, rfl⟩)
                    case measure => simp [intOf] <;> omega
                  · have h8' : ((typ : Int) != 8) = true := by rw [bne_iff_ne]; omega
                    have HX8 := Lib.hid h8
                    clear h8
                    have hdd : 0 < dm ∨ ¬ (0 < dm) := Classical.em _
                    rcases hdd with hdd | hdd
                    all_goals
                      have HVD := Lib.hid (show OB wr.drew w5.heap.size u11 T from HO.out.mono ((Below.refl _ _).drew))
                      have HBD := Lib.hid (HB.out.trans (show Below w5.heap.size wr wr.drew from (Below.refl _ _).drew))
                      have HL1 := Lib.hid (show T.length + d ≤ 1000000000 by have := HD1.out; omega)
                      have HZ1 := Lib.hid (show (p : Int) = ((T.length + d : Nat) : Int) by rw [HD1.out])
                      have HLEN := Lib.hid (show (T ++ List.replicate d 0).length + data.length ≤ 140737488355328 by rw [List.length_append, List.length_replicate]; have h1 := HD1.out; have h2 := hdm.out; omega)
                      have HPD := Lib.hid (show p - T.length = d by have := HD1.out; omega)
                      go_wp2
                      go_region_law (first
                        | (refine step_catB rfl (.tmp 174) (.tmp 180) rfl HV40.out HD40.out rfl rfl HLEN.out HB40.out.size ?_; intro v41 w41 hv41 hg41; have HV41 := Lib.hid hv41; have HB41 := Lib.hid (HB40.out.trans (below_of_grown hg41 HB40.out.size fun k hk => (World.ownsRow.lt HV40.out k hk).1)); clear hv41 hg41)
                        | (go_simp; go_at_call 80; refine (till_any T d _ _ _ w5.heap.size HL1.out HZ1.out HVD.out HBD.out.size).mono ?_; rintro r w40 ⟨v40, rfl, ho, hb, -⟩; have HV40 := Lib.hid ho; have HB40 := Lib.hid (HBD.out.trans hb); have HD40 := Lib.hid (HDB.out.mono (HB5w.out.trans (HB40.out.mono (by omega)))); have k4 := (hb.cell (p := ⟨w.heap.size, 4, none⟩) hG5).trans c4; have k19 := (hb.cell (p := ⟨b1, o1 + k * 10 + 9, none⟩) (by show b1 < _; omega)).trans c19; clear ho hb))
                      all_goals
                        have HF41 := Lib.hid (show OB w41 w5.heap.size v41 (bodyF (frontB e) ((e.secs.zip (placesOf e).1).take (k + 1))) by rw [HST.out, HPD.out]; exact HV41.out)
                        clear c4 k4 k19 c19 c11
                        go_wp2
                        go_roundw
                        case rel =>
                          first
                            | exact ⟨k + 1, by go_num, by omega, HF41.out, HB41.out⟩
                            | ((repeat apply Exists.intro); exact ⟨⟨k + 1, by go_num, by omega, HF41.out, HB41.out⟩, rfl⟩)
                        case measure => simp [intOf] <;> omega
                · have hkn : (e.secs.zip (placesOf e).1).take k = e.secs.zip (placesOf e).1 := List.take_of_length_le (by rw [List.length_zip]; have h1 := HEL.out; have h2 := HL.out; omega)
                  have HV42 := Lib.hid (show OB wr w5.heap.size u11 (bodyB e) by
                    have := HO.out
                    rw [hkn] at this
                    exact this)
                  have HBL := Lib.hid (show (bodyB e).length = pe by rw [bodyB_len HK.out.pow, ← HPE.out])
                  have HB42 := Lib.hid HB.out
                  obtain ⟨c0, c1, c2, c3, c4, c5⟩ := elf_box (heap_base HB.out HX5.out hG5)
                  clear HO HB hkn c0 c1 c2 c3 c5
                  go_wp2_with fail
                  clear c4
                  refine (till_any (bodyB e) 0 (pe : Int) _ wr w5.heap.size (by have h1 := HBL.out; omega) (by rw [HBL.out]; rfl) HV42.out HB42.out.size).mono ?_
                  rintro r w43 ⟨v43, rfl, ho, hb, -⟩
                  rw [List.replicate_zero, List.append_nil] at ho
                  have HV43 := Lib.hid ho
                  have HB43 := Lib.hid (HB42.out.trans hb)
                  have HTB := Lib.hid (OB1.out.bs.mono HB43.out)
                  clear ho hb
                  go_wp2_with ((with_reducible show wpList _ _ _ (⟨some 186, _, _, _, _, _⟩ :: _) _ _); go_must (refine wpList_catB HV43.out HTB.out rfl rfl (by have h1 := HBL.out; have h2 := htn.out; omega) HB43.out.size ?_; intro v44 w44 hv44 hg44 hb44; have HV44 := Lib.hid hv44; have HB44 := Lib.hid (HB43.out.trans hb44); clear hv44 hg44 hb44))
                  have HTN : Hid ((bodyB e ++ tabOf e).length = pe + tn) := by
                    show _ = _
                    rw [List.length_append, HBL.out, ← htn.out]
                  obtain ⟨dd, hdd⟩ : ∃ dd, hd + 64 = pe + tn + dd := ⟨hd + 64 - (pe + tn), by have := HGE.out.1; omega⟩
                  have HDD := Lib.hid hdd
                  clear hdd
                  refine (till_any (bodyB e ++ tabOf e) dd ((hd : Int) + 64) _ w44 w5.heap.size (by rw [HTN.out]; have := HDD.out; omega) (by rw [HTN.out]; have := HDD.out; omega) HV44.out HB44.out.size).mono ?_
                  rintro r w45 ⟨v45, rfl, ho, hb, -⟩
                  have HV45 := Lib.hid (show OB w45 w5.heap.size v45 (midB e) by
                    unfold midB
                    rw [← HHD.out, ← HPE.out, ← htn.out, show hd + 64 - (pe + tn) = dd by have := HDD.out; omega]
                    exact ho)
                  have HB45 := Lib.hid (HB44.out.trans hb)
                  have HML := Lib.hid (show (midB e).length = hd + 64 by rw [midB_len HK.out, ← HHD.out])
                  clear ho hb
                  go_wp2
                  go_loopw [11, 19] (fun x i wr => ∃ k : Nat, i = .int .i64 k ∧ k ≤ nl ∧ Hid (OB wr w5.heap.size x (midB e ++ ((e.secs.zip ((atsOf e).zip (placesOf e).1)).take k).flatMap fun p => hdrBy p.2.1 p.1 p.2.2)) ∧ Hid (Below w5.heap.size w5 wr)) (fun _ i _ => nl - (intOf i).toNat)
                  case atStart => exact ⟨0, rfl, Nat.zero_le _, by simpa [Hid] using HV45.out, HB45.out⟩
                  case round =>
                    obtain ⟨k, rfl, hk, HO, HB⟩ := hrel
                    have HBW := Lib.hid (HB5w.out.trans (HB.out.mono (by omega)))
                    obtain ⟨c0, c1, c2, c3, c4, c5⟩ := elf_box (heap_base HB.out HX5.out hG5)
                    clear c0 c1 c2 c3 c5
                    by_cases hlt : k < nl
                    · have X1 := Lib.hid (show L[k]? = some (L[k]'(by have := HL.out; omega)) from List.getElem?_eq_getElem _)
                      generalize L[k]'(by have := HL.out; omega) = x at *
                      obtain ⟨s, dv⟩ := x
                      obtain ⟨dm, da, dc, hdm, rfl, _, _⟩ := (HD.out _ (List.mem_of_getElem? X1.out)).shape
                      have X2 := Lib.hid (HSE.out _ _ X1.out)
                      have HFS := Lib.hid (HOK.out.fits.secs _ (List.mem_of_getElem? X2.out))
                      obtain ⟨b1, o1, ha, c10, c11, c12, c13, c14, c15, c16, c17, c18, c19, -⟩ := sec_cells HC.out HBW.out X1.out
                      subst ha
                      have XA := Lib.hid (show (atsOf e)[k]? = some ((atsOf e)[k]'(by have := HALN.out; omega)) from List.getElem?_eq_getElem _)
                      have XP := Lib.hid (show (placesOf e).1[k]? = some ((placesOf e).1[k]'(by have := HPLN.out; omega)) from List.getElem?_eq_getElem _)
                      have hpbx : ∀ x, (placesOf e).1[k]? = some x → x ≤ 4194304 := fun x hx => by
                        have h2 := plF_get (g := segsB e) (n := front e) X2.out
                        have h3 : (placesOf e).1[k]? = some (placeS (segsB e) (plF (segsB e) (front e) (e.secs.take k)).2 s) := h2
                        rw [h3] at hx
                        injection hx with hx
                        have h4 := place_bd HK.out (k + 1)
                        rw [plF_step X2.out] at h4
                        have h5 : placeS (segsB e) (plF (segsB e) (front e) (e.secs.take k)).2 s + s.data.length ≤ (placesOf e).2 := h4
                        have h6 := HPE.out
                        omega
                      have hab : (atsOf e)[k]'(by have := HALN.out; omega) ≤ 130000 := HAK.out.2 _ (List.getElem_mem _)
                      obtain ⟨bA, oA, hA1, cA⟩ := HAC.out k (by have := HALN.out; omega)
                      obtain ⟨bP, oP, hP1, cP⟩ := HPC.out k (by have := HPLN.out; omega)
                      rw [XA.out] at cA
                      rw [XP.out] at cP
                      have HST : Hid (((e.secs.zip ((atsOf e).zip (placesOf e).1)).take (k + 1)).flatMap (fun p => hdrBy p.2.1 p.1 p.2.2) = ((e.secs.zip ((atsOf e).zip (placesOf e).1)).take k).flatMap (fun p => hdrBy p.2.1 p.1 p.2.2) ++ hdrBy ((atsOf e)[k]'(by have := HALN.out; omega)) s ((placesOf e).1[k]'(by have := HPLN.out; omega))) := by
                        rw [List.take_add_one, show (e.secs.zip ((atsOf e).zip (placesOf e).1))[k]? = some (s, _, _) by rw [List.getElem?_zip_eq_some]; exact ⟨X2.out, by rw [List.getElem?_zip_eq_some]; exact ⟨XA.out, XP.out⟩⟩, List.flatMap_append]
                        simp [Hid]
                      have hpb := hpbx _ XP.out
                      clear hpbx
                      generalize (atsOf e)[k]'(by have := HALN.out; omega) = na at *
                      generalize (placesOf e).1[k]'(by have := HPLN.out; omega) = pl at *
                      simp only [Option.getD_some] at cA cP
                      replace cA := (HB.out.cell (block_lt cA)).trans cA
                      replace cP := (HB.out.cell (block_lt cP)).trans cP
                      subst hA1
                      subst hP1
                      have HTL := Lib.hid (show (midB e ++ ((e.secs.zip ((atsOf e).zip (placesOf e).1)).take k).flatMap fun p => hdrBy p.2.1 p.1 p.2.2).length ≤ 8000000 by
                        rw [List.length_append, HML.out, flat_len' (f := fun p : SecM × Nat × Nat => hdrBy p.2.1 p.1 p.2.2) (fun p => hdrBy_len p.2.1 p.1 p.2.2), List.length_take]
                        omega)
                      generalize hT : (midB e ++ ((e.secs.zip ((atsOf e).zip (placesOf e).1)).take k).flatMap fun p => hdrBy p.2.1 p.1 p.2.2) = T at *
                      have HT := Lib.hid hT
                      have hAB := fun (x : Above wr) (b k : Nat) (h : b < wr.heap.size) => Above.cell x b k h
                      have hbltA : bA < wr.heap.size := block_lt cA
                      have hbltP : bP < wr.heap.size := block_lt cP
                      have hbltE : w.heap.size < wr.heap.size := block_lt c4
                      have hblt1 : b1 < wr.heap.size := block_lt c10
                      clear hT
                      go_wp2
                      refine wp_region_walk 14 [] (by kernel_rfl) (by kernel_rfl) ?_
                      simp only [List.take_succ_cons, List.take_zero, List.drop_succ_cons, List.drop_zero]
                      repeat (refine walk_quiet rfl rfl rfl ?_; intro K hK; go_big_quiet_op; go_big_quiet_on)
                      refine walk_nil ?_
                      intro wz hbz hF
                      have HVz := Lib.hid (HO.out.mono hbz)
                      have HBz := Lib.hid (HB.out.trans (hbz.mono HB.out.size))
                      clear hF hbz hAB hbltA hbltP hbltE hblt1 cA cP c4 c10 c11 c12 c13 c14 c15 c16 c17 c18 c19
                      go_wp2_with fail
                      refine (header_any T na pl s (.slice da dm dc) _ wz w5.heap.size (by have := HTL.out; omega) (by omega) (by omega) HFS.out rfl HVz.out HBz.out.size).mono ?_
                      rintro r w46 ⟨v46, rfl, ho, hb, -⟩
                      have HF46 := Lib.hid (show OB w46 w5.heap.size v46 (midB e ++ ((e.secs.zip ((atsOf e).zip (placesOf e).1)).take (k + 1)).flatMap fun p => hdrBy p.2.1 p.1 p.2.2) by
                        rw [HST.out, ← List.append_assoc, HT.out]
                        exact ho)
                      have HB46 := Lib.hid (HBz.out.trans hb)
                      clear ho hb
                      go_wp2
                      go_roundw
                      case rel =>
                        first
                          | exact ⟨k + 1, by go_num, by omega, HF46.out, HB46.out⟩
                          | ((repeat apply Exists.intro); exact ⟨⟨k + 1, by go_num, by omega, HF46.out, HB46.out⟩, rfl⟩)
                      case measure => simp [intOf] <;> omega
                    · have hkn : (e.secs.zip ((atsOf e).zip (placesOf e).1)).take k = e.secs.zip ((atsOf e).zip (placesOf e).1) := List.take_of_length_le (by rw [List.length_zip]; have h1 := HEL.out; have h2 := HL.out; omega)
                      have HV50 := Lib.hid (show OB wr w5.heap.size u11 (midB e ++ hdrsB e) by
                        have := HO.out
                        rw [hkn] at this
                        exact this)
                      have HB50 := Lib.hid HB.out
                      have HTL := Lib.hid (show (midB e ++ hdrsB e).length ≤ 8000000 by
                        unfold hdrsB
                        rw [List.length_append, HML.out, flat_len' (f := fun p : SecM × Nat × Nat => hdrBy p.2.1 p.1 p.2.2) (fun p => hdrBy_len p.2.1 p.1 p.2.2), List.length_zip]
                        have h1 := HEL.out
                        have h2 := HL.out
                        have h3 : min e.secs.length ((atsOf e).zip (placesOf e).1).length ≤ e.secs.length := Nat.min_le_left _ _
                        omega)
                      have XA := Lib.hid (show (atsOf e)[nl]? = some ((atsOf e)[nl]'(by have := HALN.out; omega)) from List.getElem?_eq_getElem _)
                      have hab : (atsOf e)[nl]'(by have := HALN.out; omega) ≤ 130000 := HAK.out.2 _ (List.getElem_mem _)
                      obtain ⟨bA, oA, hA1, cA⟩ := HAC.out nl (by have := HALN.out; omega)
                      rw [XA.out] at cA
                      generalize (atsOf e)[nl]'(by have := HALN.out; omega) = na at *
                      simp only [Option.getD_some] at cA
                      replace cA := (HB.out.cell (block_lt cA)).trans cA
                      subst hA1
                      have HFB : Hid (fileB e = midB e ++ hdrsB e ++ hdrBy na (tabSec tn) pe) := by
                        unfold fileB
                        rw [← htn.out, ← HPE.out, show e.secs.length = nl by have h1 := HEL.out; have h2 := HL.out; omega, XA.out]
                        exact rfl
                      generalize hT : midB e ++ hdrsB e = T at *
                      clear HO HB hkn hT c4
                      go_wp2_with fail
                      clear cA
                      refine (header_any T na pe (tabSec tn) (.slice none 0 0) _ wr w5.heap.size (by have := HTL.out; omega) (by omega) (by omega) (tabSec_fits (by omega)) rfl HV50.out HB50.out.size).mono ?_
                      rintro r w51 ⟨v51, rfl, ho, hb, -⟩
                      have HF51 := Lib.hid (show OB w51 w.heap.size v51 (fileB e) by rw [HFB.out]; exact ho.base (by omega))
                      have HB51 := Lib.hid (HB50.out.trans hb)
                      clear ho hb
                      go_wp2
                      go_ret2
                      exact ⟨_, by rw [HR.out]; rfl, by rw [HR.out]; exact HF51.out, HB5w.out.trans (HB51.out.mono (by omega))⟩
    · go_wp2_with fail
      clear c0 c1 c2 c3 c4 c5
      refine (ref4Put_any _ 0 8 v10 _ w5.heap.size (by simp only [List.length_append, length_fixed, List.length_replicate, List.length_cons, List.length_nil]; omega) (by decide) (by decide) HV10.out HB10.out.size).mono ?_
      rintro r w11 ⟨v11, rfl, ho, hb, hk⟩
      have HV11 := Lib.hid ho
      have HB11 := Lib.hid (HB10.out.trans hb)
      clear ho hb hk
      obtain ⟨c0, c1, c2, c3, c4, c5⟩ := elf_box (heap_base HB11.out HX5.out hG5)
      go_wp2_with fail
      clear c0 c1 c2 c3 c4 c5
      refine (ref4Put_any _ hd 8 v11 _ w5.heap.size (by simp only [List.length_append, length_fixed, List.length_replicate, List.length_cons, List.length_nil]; omega) (by omega) (by decide) HV11.out HB11.out.size).mono ?_
      rintro r w12 ⟨v12, rfl, ho, hb, hk⟩
      have HV12 := Lib.hid ho
      have HB12 := Lib.hid (HB11.out.trans hb)
      clear ho hb hk
      obtain ⟨c0, c1, c2, c3, c4, c5⟩ := elf_box (heap_base HB12.out HX5.out hG5)
      go_wp2_with fail
      clear c0 c1 c2 c3 c4 c5
      refine (ref4Put_any _ e.flags 4 v12 _ w5.heap.size (by simp only [List.length_append, length_fixed, List.length_replicate, List.length_cons, List.length_nil]; omega) (by omega) (by decide) HV12.out HB12.out.size).mono ?_
      rintro r w13 ⟨v13, rfl, ho, hb, hk⟩
      have HV13 := Lib.hid ho
      have HB13 := Lib.hid (HB12.out.trans hb)
      clear ho hb hk
      obtain ⟨c0, c1, c2, c3, c4, c5⟩ := elf_box (heap_base HB13.out HX5.out hG5)
      have HF13 := Lib.hid (show OB w13 w5.heap.size v13 ([127, 69, 76, 70, 2, 1, 1] ++ List.replicate 9 0 ++ putL 2 [ut, mt] ++ putL 4 [1] ++ putL 8 [e.entry, 0, hd] ++ putL 4 [e.flags]) by
        have := HV13.out
        unfold putL
        simp only [List.append_assoc, List.flatMap_cons, List.flatMap_nil, List.append_nil] at this ⊢
        exact this)
      have hT0 : ∃ T, T = [127, 69, 76, 70, 2, 1, 1] ++ List.replicate 9 0 ++ putL 2 [ut, mt] ++ putL 4 [1] ++ putL 8 [e.entry, 0, hd] ++ putL 4 [e.flags] := ⟨_, rfl⟩
      obtain ⟨T0, hT0⟩ := hT0
      rw [← hT0] at HF13
      have HLT0 := Lib.hid (show T0.length = 52 by rw [hT0]; simp only [List.length_append, putL_len, List.length_replicate]; rfl)
      have HHB := Lib.hid (show headB e hd = T0 ++ putL 2 [64, 56, gn, 64, nl + 2, nl + 1] by
        rw [hT0]
        unfold headB segsB
        rw [show e.secs.length = nl by have h1 := HEL.out; have h2 := HL.out; omega, ← HGN.out, decide_eq_false hgs, HMTT.out, HUTT.out]
        rfl)
      clear hT0 HV13
      obtain ⟨sm, hsm⟩ : ∃ sm, sm = [64, 56, gn, 64, nl + 2, nl + 1] := ⟨_, rfl⟩
      rw [← hsm] at HHB
      have HSB := Lib.hid (show ∀ n ∈ sm, n ≤ 1000 by intro n hn; rw [hsm] at hn; simp only [List.mem_cons, List.not_mem_nil, or_false] at hn; omega)
      have HSL := Lib.hid (show sm.length = 6 by rw [hsm]; rfl)
      have HSA := Lib.hid (fun (w : World) => (show (w.alloc (.cells #[.int .i64 64, .int .i64 56, .int .i64 gn, .int .i64 64, .int .i64 ((nl : Int) + 2), .int .i64 ((nl : Int) + 1)] 3)).heap[w.heap.size]? = some (.cells (sm.map I64).toArray 3 (0, 0)) by rw [hsm]; exact heap_alloc_last w _))
      have hvs : ∃ m ad cap, v13 = .slice ad m cap := by obtain ⟨m, ad, cap, -, h, -⟩ := HF13.out.shape; exact ⟨m, ad, cap, h⟩
      obtain ⟨mv, av, cv, rfl⟩ := hvs
      clear hsm
      go_wp2
      have HS14 := Lib.hid (HSA.out w13)
      go_loopw [11, 13] (fun x i wr => ∃ k : Nat, i = .int .i64 k ∧ k ≤ 6 ∧ Hid (OB wr w5.heap.size x (T0 ++ putL 2 (sm.take k))) ∧ Hid (Below w5.heap.size w5 wr) ∧ Hid (wr.heap[w13.heap.size]? = some (.cells (sm.map I64).toArray 3 (0, 0)))) (fun _ i _ => 6 - (intOf i).toNat)
      case atStart => exact ⟨0, rfl, by omega, by have := HF13.out.mono (below_alloc w13 (.cells #[.int .i64 64, .int .i64 56, .int .i64 gn, .int .i64 64, .int .i64 ((nl : Int) + 2), .int .i64 ((nl : Int) + 1)] 3)); simpa [Hid, putL] using this, HB13.out.trans ((below_alloc w13 _).mono HB13.out.size), HS14.out⟩
      case round =>
        clear c0 c1 c2 c3 c4 c5
        obtain ⟨k, rfl, hk, HO, HB, HS⟩ := hrel
        by_cases hlt : k < 6
        · have X1 := Lib.hid (show sm[k]? = some (sm[k]'(by have := HSL.out; omega)) from List.getElem?_eq_getElem _)
          generalize sm[k]'(by have := HSL.out; omega) = n at *
          have hn1 := HSB.out n (List.mem_of_getElem? X1.out)
          have cS := cell_rec HS.out k
          rw [List.getElem?_toArray, List.getElem?_map, X1.out] at cS
          simp only [Option.map_some] at cS
          have HST := Lib.hid (show putL 2 (sm.take (k + 1)) = putL 2 (sm.take k) ++ fixed n 2 from flatf_step X1.out)
          have HTL := Lib.hid (show (T0 ++ putL 2 (sm.take k)).length ≤ 100 by rw [List.length_append, HLT0.out, putL_len, List.length_take]; omega)
          have HV20 := HO
          have HB20 := HB
          go_wp2_with fail
          refine (ref4Put_any _ n 2 _ _ w5.heap.size (by have := HTL.out; omega) (by omega) (by decide) HV20.out HB20.out.size).mono ?_
          rintro r w21 ⟨v21, rfl, ho, hb, hk⟩
          have HV21 := Lib.hid ho
          have HB21 := Lib.hid (HB20.out.trans hb)
          have HS21 := Lib.hid (keep_h hk (by decide) HS.out)
          clear ho hb hk
          have HF21 := Lib.hid (show OB w21 w5.heap.size v21 (T0 ++ putL 2 (sm.take (k + 1))) by rw [HST.out, ← List.append_assoc]; exact HV21.out)
          go_wp2
          go_roundw
          case rel =>
            first
              | exact ⟨k + 1, by go_num, by omega, HF21.out, HB21.out, HS21.out⟩
              | ((repeat apply Exists.intro); exact ⟨⟨k + 1, by go_num, by omega, HF21.out, HB21.out, HS21.out⟩, rfl⟩)
          case measure => simp [intOf] <;> omega
        · obtain rfl : k = 6 := by omega
          have HF22 := Lib.hid (show OB wr w5.heap.size u11 (headB e hd) by
            rw [HHB.out]
            have := HO.out
            rw [List.take_of_length_le (by have := HSL.out; omega)] at this
            exact this)
          have HB22 := Lib.hid HB.out
          have HLH := Lib.hid (headB_len e hd)
          clear HO HB HS HS14 HSA HHB HF13
          obtain ⟨c0, c1, c2, c3, c4, c5⟩ := elf_box (heap_base HB22.out HX5.out hG5)
          go_wp2
          go_loopw [11, 14] (fun x i wr => ∃ k : Nat, i = .int .i64 k ∧ k ≤ gn ∧ Hid (OB wr w5.heap.size x (headB e hd ++ (e.segs.take k).flatMap segBy)) ∧ Hid (Below w5.heap.size w5 wr)) (fun _ i _ => gn - (intOf i).toNat)
          case atStart => exact ⟨0, rfl, Nat.zero_le _, by simpa [Hid] using HF22.out, HB22.out⟩
          case round =>
            clear c0 c1 c2 c3 c4 c5
            obtain ⟨k, rfl, hk, HO, HB⟩ := hrel
            have HBW := Lib.hid (HB5w.out.trans (HB.out.mono (by omega)))
            obtain ⟨c0, c1, c2, c3, c4, c5⟩ := elf_box (heap_base HB.out HX5.out hG5)
            by_cases hlt : k < gn
            · exact absurd hlt (by omega)
            · have hkn : e.segs.take k = e.segs := List.take_of_length_le (by have := HGN.out; omega)
              have HFR := Lib.hid (show OB wr w5.heap.size u11 (frontB e) by
                have := HO.out
                rw [hkn] at this
                unfold frontB
                rw [← HHD.out]
                exact this)
              have HBR := Lib.hid HB.out
              clear HO HB hkn
              obtain ⟨c0, c1, c2, c3, c4, c5⟩ := elf_box (heap_base HBR.out HX5.out hG5)
              go_wp2
              go_loopw [11, 18] (fun x i wr => ∃ k : Nat, i = .int .i64 k ∧ k ≤ nl ∧ Hid (OB wr w5.heap.size x (bodyF (frontB e) ((e.secs.zip (placesOf e).1).take k))) ∧ Hid (Below w5.heap.size w5 wr)) (fun _ i _ => nl - (intOf i).toNat)
              case atStart => exact ⟨0, rfl, Nat.zero_le _, HFR.out, HBR.out⟩
              case round =>
                clear c0 c1 c2 c3 c4 c5
                obtain ⟨k, rfl, hk, HO, HB⟩ := hrel
                have HBW := Lib.hid (HB5w.out.trans (HB.out.mono (by omega)))
                by_cases hlt : k < nl
                · obtain ⟨c0, c1, c2, c3, c4, c5⟩ := elf_box (heap_base HB.out HX5.out hG5)
                  clear c0 c1 c2 c3 c5
                  have X1 := Lib.hid (show L[k]? = some (L[k]'(by have := HL.out; omega)) from List.getElem?_eq_getElem _)
                  generalize L[k]'(by have := HL.out; omega) = x at *
                  obtain ⟨s, dv⟩ := x
                  have HDB := Lib.hid (HD.out _ (List.mem_of_getElem? X1.out))
                  obtain ⟨dm, da, dc, hdm, rfl, _, _⟩ := HDB.out.shape
                  have X2 := Lib.hid (HSE.out _ _ X1.out)
                  have HZP := Lib.hid (zipP (g := segsB e) (n := front e) X2.out)
                  have HFN := Lib.hid (HK.out.fine _ (List.mem_of_getElem? X2.out))
                  have HST := Lib.hid (show bodyF (frontB e) ((e.secs.zip (placesOf e).1).take (k + 1)) = bodyF (frontB e) ((e.secs.zip (placesOf e).1).take k) ++ List.replicate (placeS (segsB e) (plF (segsB e) (front e) (e.secs.take k)).2 s - (bodyF (frontB e) ((e.secs.zip (placesOf e).1).take k)).length) 0 ++ s.data from bodyF_step (acc := frontB e) HZP.out)
                  have HLN := Lib.hid (body_len (g := segsB e) (frontB_len e) HK.out.pow k (by have h1 := HEL.out; have h2 := HL.out; omega))
                  have HLE := Lib.hid (placeS_le (g := segsB e) (p := (plF (segsB e) (front e) (e.secs.take k)).2) (HK.out.pow _ (List.mem_of_getElem? X2.out)))
                  have HPB := Lib.hid (place_bd HK.out (k + 1))
                  rw [plF_step X2.out] at HPB
                  have hp9 : placeS (segsB e) (plF (segsB e) (front e) (e.secs.take k)).2 s + dm ≤ 4194304 := by
                    have h1 : placeS (segsB e) (plF (segsB e) (front e) (e.secs.take k)).2 s + s.data.length ≤ (placesOf e).2 := HPB.out
                    have h3 := HPE.out
                    have h4 := hdm.out
                    dsimp only at h4
                    omega
                  obtain ⟨b1, o1, ha, c10, c11, c12, c13, c14, c15, c16, c17, c18, c19, hb1lt⟩ := sec_cells HC.out HBW.out X1.out
                  subst ha
                  clear c10 c12 c13 c14 c15 c16 c17 c18
                  obtain ⟨bP, oP, hP1, cP⟩ := HPC.out k (by have := HPLN.out; omega)
                  have HPGx : (placesOf e).1[k]? = some (placeS (segsB e) (plF (segsB e) (front e) (e.secs.take k)).2 s) := plF_get (g := segsB e) (n := front e) X2.out
                  rw [HPGx] at cP
                  simp only [Option.getD_some] at cP
                  replace cP := (HB.out.cell (block_lt cP)).trans cP
                  subst hP1
                  have HPGY := Lib.hid HPGx
                  generalize hT : bodyF (frontB e) ((e.secs.zip (placesOf e).1).take k) = T at *
                  have HT := Lib.hid hT
                  have HTL := Lib.hid (show T.length = (plF (segsB e) (front e) (e.secs.take k)).2 by rw [← hT]; exact HLN.out)
                  have HP8 : Hid (s.typ = 8 → placeS (segsB e) (plF (segsB e) (front e) (e.secs.take k)).2 s = T.length ∧ s.data = []) := fun h8 => by
                    refine ⟨?_, ?_⟩
                    · rw [HTL.out]; unfold placeS; rw [if_pos h8]
                    · have h1 := HFN.out
                      unfold fineB at h1
                      rw [if_pos h8] at h1
                      simp only [Bool.and_eq_true, decide_eq_true_eq] at h1
                      exact List.eq_nil_of_length_eq_zero h1.2.1
                  generalize placeS (segsB e) (plF (segsB e) (front e) (e.secs.take k)).2 s = p at *
                  obtain ⟨d, hd1⟩ : ∃ d, p = T.length + d := ⟨p - T.length, by have h1 := HLE.out.1; have h2 := HTL.out; omega⟩
                  have HD1 := Lib.hid hd1
                  clear hT HPGx hd1
                  obtain ⟨name, typ, flags, addr, align, size, link, info, ent, data⟩ := s
                  dsimp only at *
                  by_cases h8 : typ = 8
                  · have h8' : ((typ : Int) != 8) = false := by rw [bne_eq_false_iff_eq]; omega
                    obtain ⟨hpT, hdn⟩ := HP8.out h8
                    have hdm0 : dm = 0 := by have := hdm.out; rw [hdn] at this; simpa using this
                    have hdz : ¬ (0 < dm) := by omega
                    have HF40 := Lib.hid (show OB wr w5.heap.size u11 (bodyF (frontB e) ((e.secs.zip (placesOf e).1).take (k + 1))) by
                      rw [HST.out, hdn, hpT, Nat.sub_self, List.replicate_zero, List.append_nil, List.append_nil]
                      exact HO.out)
                    have HX8 := Lib.hid h8
                    have HX9 := Lib.hid hdm0
                    clear h8 hdm0 hpT hdn
                    go_wp2
                    go_roundw
                    case rel =>
                      first
                        | exact ⟨k + 1, by go_num, by omega, HF40.out, HB.out⟩
                        | ((repeat apply Exists.intro); exact ⟨⟨k + 1, by go_num, by omega, HF40.out, HB.out⟩, rfl⟩)
                    case measure => simp [intOf] <;> omega
                  · have h8' : ((typ : Int) != 8) = true := by rw [bne_iff_ne]; omega
                    have HX8 := Lib.hid h8
                    clear h8
                    have hdd : 0 < dm ∨ ¬ (0 < dm) := Classical.em _
                    rcases hdd with hdd | hdd
                    all_goals
                      have HVD := Lib.hid (show OB wr.drew w5.heap.size u11 T from HO.out.mono ((Below.refl _ _).drew))
                      have HBD := Lib.hid (HB.out.trans (show Below w5.heap.size wr wr.drew from (Below.refl _ _).drew))
                      have HL1 := Lib.hid (show T.length + d ≤ 1000000000 by have := HD1.out; omega)
                      have HZ1 := Lib.hid (show (p : Int) = ((T.length + d : Nat) : Int) by rw [HD1.out])
                      have HLEN := Lib.hid (show (T ++ List.replicate d 0).length + data.length ≤ 140737488355328 by rw [List.length_append, List.length_replicate]; have h1 := HD1.out; have h2 := hdm.out; omega)
                      have HPD := Lib.hid (show p - T.length = d by have := HD1.out; omega)
                      go_wp2
                      go_region_law (first
                        | (refine step_catB rfl (.tmp 174) (.tmp 180) rfl HV40.out HD40.out rfl rfl HLEN.out HB40.out.size ?_; intro v41 w41 hv41 hg41; have HV41 := Lib.hid hv41; have HB41 := Lib.hid (HB40.out.trans (below_of_grown hg41 HB40.out.size fun k hk => (World.ownsRow.lt HV40.out k hk).1)); clear hv41 hg41)
                        | (go_simp; go_at_call 80; refine (till_any T d _ _ _ w5.heap.size HL1.out HZ1.out HVD.out HBD.out.size).mono ?_; rintro r w40 ⟨v40, rfl, ho, hb, -⟩; have HV40 := Lib.hid ho; have HB40 := Lib.hid (HBD.out.trans hb); have HD40 := Lib.hid (HDB.out.mono (HB5w.out.trans (HB40.out.mono (by omega)))); have k4 := (hb.cell (p := ⟨w.heap.size, 4, none⟩) hG5).trans c4; have k19 := (hb.cell (p := ⟨b1, o1 + k * 10 + 9, none⟩) (by show b1 < _; omega)).trans c19; clear ho hb))
                      all_goals
                        have HF41 := Lib.hid (show OB w41 w5.heap.size v41 (bodyF (frontB e) ((e.secs.zip (placesOf e).1).take (k + 1))) by rw [HST.out, HPD.out]; exact HV41.out)
                        clear c4 k4 k19 c19 c11
                        go_wp2
                        go_roundw
                        case rel =>
                          first
                            | exact ⟨k + 1, by go_num, by omega, HF41.out, HB41.out⟩
                            | ((repeat apply Exists.intro); exact ⟨⟨k + 1, by go_num, by omega, HF41.out, HB41.out⟩, rfl⟩)
                        case measure => simp [intOf] <;> omega
                · have hkn : (e.secs.zip (placesOf e).1).take k = e.secs.zip (placesOf e).1 := List.take_of_length_le (by rw [List.length_zip]; have h1 := HEL.out; have h2 := HL.out; omega)
                  have HV42 := Lib.hid (show OB wr w5.heap.size u11 (bodyB e) by
                    have := HO.out
                    rw [hkn] at this
                    exact this)
                  have HBL := Lib.hid (show (bodyB e).length = pe by rw [bodyB_len HK.out.pow, ← HPE.out])
                  have HB42 := Lib.hid HB.out
                  obtain ⟨c0, c1, c2, c3, c4, c5⟩ := elf_box (heap_base HB.out HX5.out hG5)
                  clear HO HB hkn c0 c1 c2 c3 c5
                  go_wp2_with fail
                  clear c4
                  refine (till_any (bodyB e) 0 (pe : Int) _ wr w5.heap.size (by have h1 := HBL.out; omega) (by rw [HBL.out]; rfl) HV42.out HB42.out.size).mono ?_
                  rintro r w43 ⟨v43, rfl, ho, hb, -⟩
                  rw [List.replicate_zero, List.append_nil] at ho
                  have HV43 := Lib.hid ho
                  have HB43 := Lib.hid (HB42.out.trans hb)
                  have HTB := Lib.hid (OB1.out.bs.mono HB43.out)
                  clear ho hb
                  go_wp2_with ((with_reducible show wpList _ _ _ (⟨some 186, _, _, _, _, _⟩ :: _) _ _); go_must (refine wpList_catB HV43.out HTB.out rfl rfl (by have h1 := HBL.out; have h2 := htn.out; omega) HB43.out.size ?_; intro v44 w44 hv44 hg44 hb44; have HV44 := Lib.hid hv44; have HB44 := Lib.hid (HB43.out.trans hb44); clear hv44 hg44 hb44))
                  have HTN : Hid ((bodyB e ++ tabOf e).length = pe + tn) := by
                    show _ = _
                    rw [List.length_append, HBL.out, ← htn.out]
                  obtain ⟨dd, hdd⟩ : ∃ dd, hd + 64 = pe + tn + dd := ⟨hd + 64 - (pe + tn), by have := HGE.out.1; omega⟩
                  have HDD := Lib.hid hdd
                  clear hdd
                  refine (till_any (bodyB e ++ tabOf e) dd ((hd : Int) + 64) _ w44 w5.heap.size (by rw [HTN.out]; have := HDD.out; omega) (by rw [HTN.out]; have := HDD.out; omega) HV44.out HB44.out.size).mono ?_
                  rintro r w45 ⟨v45, rfl, ho, hb, -⟩
                  have HV45 := Lib.hid (show OB w45 w5.heap.size v45 (midB e) by
                    unfold midB
                    rw [← HHD.out, ← HPE.out, ← htn.out, show hd + 64 - (pe + tn) = dd by have := HDD.out; omega]
                    exact ho)
                  have HB45 := Lib.hid (HB44.out.trans hb)
                  have HML := Lib.hid (show (midB e).length = hd + 64 by rw [midB_len HK.out, ← HHD.out])
                  clear ho hb
                  go_wp2
                  go_loopw [11, 19] (fun x i wr => ∃ k : Nat, i = .int .i64 k ∧ k ≤ nl ∧ Hid (OB wr w5.heap.size x (midB e ++ ((e.secs.zip ((atsOf e).zip (placesOf e).1)).take k).flatMap fun p => hdrBy p.2.1 p.1 p.2.2)) ∧ Hid (Below w5.heap.size w5 wr)) (fun _ i _ => nl - (intOf i).toNat)
                  case atStart => exact ⟨0, rfl, Nat.zero_le _, by simpa [Hid] using HV45.out, HB45.out⟩
                  case round =>
                    obtain ⟨k, rfl, hk, HO, HB⟩ := hrel
                    have HBW := Lib.hid (HB5w.out.trans (HB.out.mono (by omega)))
                    obtain ⟨c0, c1, c2, c3, c4, c5⟩ := elf_box (heap_base HB.out HX5.out hG5)
                    clear c0 c1 c2 c3 c5
                    by_cases hlt : k < nl
                    · have X1 := Lib.hid (show L[k]? = some (L[k]'(by have := HL.out; omega)) from List.getElem?_eq_getElem _)
                      generalize L[k]'(by have := HL.out; omega) = x at *
                      obtain ⟨s, dv⟩ := x
                      obtain ⟨dm, da, dc, hdm, rfl, _, _⟩ := (HD.out _ (List.mem_of_getElem? X1.out)).shape
                      have X2 := Lib.hid (HSE.out _ _ X1.out)
                      have HFS := Lib.hid (HOK.out.fits.secs _ (List.mem_of_getElem? X2.out))
                      obtain ⟨b1, o1, ha, c10, c11, c12, c13, c14, c15, c16, c17, c18, c19, -⟩ := sec_cells HC.out HBW.out X1.out
                      subst ha
                      have XA := Lib.hid (show (atsOf e)[k]? = some ((atsOf e)[k]'(by have := HALN.out; omega)) from List.getElem?_eq_getElem _)
                      have XP := Lib.hid (show (placesOf e).1[k]? = some ((placesOf e).1[k]'(by have := HPLN.out; omega)) from List.getElem?_eq_getElem _)
                      have hpbx : ∀ x, (placesOf e).1[k]? = some x → x ≤ 4194304 := fun x hx => by
                        have h2 := plF_get (g := segsB e) (n := front e) X2.out
                        have h3 : (placesOf e).1[k]? = some (placeS (segsB e) (plF (segsB e) (front e) (e.secs.take k)).2 s) := h2
                        rw [h3] at hx
                        injection hx with hx
                        have h4 := place_bd HK.out (k + 1)
                        rw [plF_step X2.out] at h4
                        have h5 : placeS (segsB e) (plF (segsB e) (front e) (e.secs.take k)).2 s + s.data.length ≤ (placesOf e).2 := h4
                        have h6 := HPE.out
                        omega
                      have hab : (atsOf e)[k]'(by have := HALN.out; omega) ≤ 130000 := HAK.out.2 _ (List.getElem_mem _)
                      obtain ⟨bA, oA, hA1, cA⟩ := HAC.out k (by have := HALN.out; omega)
                      obtain ⟨bP, oP, hP1, cP⟩ := HPC.out k (by have := HPLN.out; omega)
                      rw [XA.out] at cA
                      rw [XP.out] at cP
                      have HST : Hid (((e.secs.zip ((atsOf e).zip (placesOf e).1)).take (k + 1)).flatMap (fun p => hdrBy p.2.1 p.1 p.2.2) = ((e.secs.zip ((atsOf e).zip (placesOf e).1)).take k).flatMap (fun p => hdrBy p.2.1 p.1 p.2.2) ++ hdrBy ((atsOf e)[k]'(by have := HALN.out; omega)) s ((placesOf e).1[k]'(by have := HPLN.out; omega))) := by
                        rw [List.take_add_one, show (e.secs.zip ((atsOf e).zip (placesOf e).1))[k]? = some (s, _, _) by rw [List.getElem?_zip_eq_some]; exact ⟨X2.out, by rw [List.getElem?_zip_eq_some]; exact ⟨XA.out, XP.out⟩⟩, List.flatMap_append]
                        simp [Hid]
                      have hpb := hpbx _ XP.out
                      clear hpbx
                      generalize (atsOf e)[k]'(by have := HALN.out; omega) = na at *
                      generalize (placesOf e).1[k]'(by have := HPLN.out; omega) = pl at *
                      simp only [Option.getD_some] at cA cP
                      replace cA := (HB.out.cell (block_lt cA)).trans cA
                      replace cP := (HB.out.cell (block_lt cP)).trans cP
                      subst hA1
                      subst hP1
                      have HTL := Lib.hid (show (midB e ++ ((e.secs.zip ((atsOf e).zip (placesOf e).1)).take k).flatMap fun p => hdrBy p.2.1 p.1 p.2.2).length ≤ 8000000 by
                        rw [List.length_append, HML.out, flat_len' (f := fun p : SecM × Nat × Nat => hdrBy p.2.1 p.1 p.2.2) (fun p => hdrBy_len p.2.1 p.1 p.2.2), List.length_take]
                        omega)
                      generalize hT : (midB e ++ ((e.secs.zip ((atsOf e).zip (placesOf e).1)).take k).flatMap fun p => hdrBy p.2.1 p.1 p.2.2) = T at *
                      have HT := Lib.hid hT
                      have hAB := fun (x : Above wr) (b k : Nat) (h : b < wr.heap.size) => Above.cell x b k h
                      have hbltA : bA < wr.heap.size := block_lt cA
                      have hbltP : bP < wr.heap.size := block_lt cP
                      have hbltE : w.heap.size < wr.heap.size := block_lt c4
                      have hblt1 : b1 < wr.heap.size := block_lt c10
                      clear hT
                      go_wp2
                      refine wp_region_walk 14 [] (by kernel_rfl) (by kernel_rfl) ?_
                      simp only [List.take_succ_cons, List.take_zero, List.drop_succ_cons, List.drop_zero]
                      repeat (refine walk_quiet rfl rfl rfl ?_; intro K hK; go_big_quiet_op; go_big_quiet_on)
                      refine walk_nil ?_
                      intro wz hbz hF
                      have HVz := Lib.hid (HO.out.mono hbz)
                      have HBz := Lib.hid (HB.out.trans (hbz.mono HB.out.size))
                      clear hF hbz hAB hbltA hbltP hbltE hblt1 cA cP c4 c10 c11 c12 c13 c14 c15 c16 c17 c18 c19
                      go_wp2_with fail
                      refine (header_any T na pl s (.slice da dm dc) _ wz w5.heap.size (by have := HTL.out; omega) (by omega) (by omega) HFS.out rfl HVz.out HBz.out.size).mono ?_
                      rintro r w46 ⟨v46, rfl, ho, hb, -⟩
                      have HF46 := Lib.hid (show OB w46 w5.heap.size v46 (midB e ++ ((e.secs.zip ((atsOf e).zip (placesOf e).1)).take (k + 1)).flatMap fun p => hdrBy p.2.1 p.1 p.2.2) by
                        rw [HST.out, ← List.append_assoc, HT.out]
                        exact ho)
                      have HB46 := Lib.hid (HBz.out.trans hb)
                      clear ho hb
                      go_wp2
                      go_roundw
                      case rel =>
                        first
                          | exact ⟨k + 1, by go_num, by omega, HF46.out, HB46.out⟩
                          | ((repeat apply Exists.intro); exact ⟨⟨k + 1, by go_num, by omega, HF46.out, HB46.out⟩, rfl⟩)
                      case measure => simp [intOf] <;> omega
                    · have hkn : (e.secs.zip ((atsOf e).zip (placesOf e).1)).take k = e.secs.zip ((atsOf e).zip (placesOf e).1) := List.take_of_length_le (by rw [List.length_zip]; have h1 := HEL.out; have h2 := HL.out; omega)
                      have HV50 := Lib.hid (show OB wr w5.heap.size u11 (midB e ++ hdrsB e) by
                        have := HO.out
                        rw [hkn] at this
                        exact this)
                      have HB50 := Lib.hid HB.out
                      have HTL := Lib.hid (show (midB e ++ hdrsB e).length ≤ 8000000 by
                        unfold hdrsB
                        rw [List.length_append, HML.out, flat_len' (f := fun p : SecM × Nat × Nat => hdrBy p.2.1 p.1 p.2.2) (fun p => hdrBy_len p.2.1 p.1 p.2.2), List.length_zip]
                        have h1 := HEL.out
                        have h2 := HL.out
                        have h3 : min e.secs.length ((atsOf e).zip (placesOf e).1).length ≤ e.secs.length := Nat.min_le_left _ _
                        omega)
                      have XA := Lib.hid (show (atsOf e)[nl]? = some ((atsOf e)[nl]'(by have := HALN.out; omega)) from List.getElem?_eq_getElem _)
                      have hab : (atsOf e)[nl]'(by have := HALN.out; omega) ≤ 130000 := HAK.out.2 _ (List.getElem_mem _)
                      obtain ⟨bA, oA, hA1, cA⟩ := HAC.out nl (by have := HALN.out; omega)
                      rw [XA.out] at cA
                      generalize (atsOf e)[nl]'(by have := HALN.out; omega) = na at *
                      simp only [Option.getD_some] at cA
                      replace cA := (HB.out.cell (block_lt cA)).trans cA
                      subst hA1
                      have HFB : Hid (fileB e = midB e ++ hdrsB e ++ hdrBy na (tabSec tn) pe) := by
                        unfold fileB
                        rw [← htn.out, ← HPE.out, show e.secs.length = nl by have h1 := HEL.out; have h2 := HL.out; omega, XA.out]
                        exact rfl
                      generalize hT : midB e ++ hdrsB e = T at *
                      clear HO HB hkn hT c4
                      go_wp2_with fail
                      clear cA
                      refine (header_any T na pe (tabSec tn) (.slice none 0 0) _ wr w5.heap.size (by have := HTL.out; omega) (by omega) (by omega) (tabSec_fits (by omega)) rfl HV50.out HB50.out.size).mono ?_
                      rintro r w51 ⟨v51, rfl, ho, hb, -⟩
                      have HF51 := Lib.hid (show OB w51 w.heap.size v51 (fileB e) by rw [HFB.out]; exact ho.base (by omega))
                      have HB51 := Lib.hid (HB50.out.trans hb)
                      clear ho hb
                      go_wp2
                      go_ret2
                      exact ⟨_, by rw [HR.out]; rfl, by rw [HR.out]; exact HF51.out, HB5w.out.trans (HB51.out.mono (by omega))⟩
end Go.Proofs.Ytgjoimcgiofinaa
namespace Go.Proofs.Ytgjoimcgiofinaa
open Go.RowKit Go.Fd
/-- A file's header, as it is looked at. -/
structure HeadK (e : ElfM) (l : List UInt8) : Prop where
  magic : Has l 0 [127, 69, 76, 70, 2, 1, 1]
  typ : Has l 16 (fixed (u64of e.typ) 2)
  one : Has l 20 (fixed 1 4)
  front : Has l 32 (fixed (if segsB e = true then 64 else 0) 8)
  heads : Has l 40 (fixed (headsOf e (tabOf e).length) 8)
  hsize : Has l 52 (fixed 64 2)
  gsize : Has l 54 (fixed 56 2)
  ng : Has l 56 (fixed e.segs.length 2)
  ssize : Has l 58 (fixed 64 2)
  ns : Has l 60 (fixed (e.secs.length + 2) 2)
  own : Has l 62 (fixed (e.secs.length + 1) 2)
theorem head_has (e : ElfM) : HeadK e (fileB e) := by
  have t0 := has_head (headB_has e (headsOf e (tabOf e).length) (i := 0) rfl rfl)
  exact ⟨t0, has_head (headB_has e (headsOf e (tabOf e).length) (i := 2) (q := 16) rfl (by simp; rfl)),
    has_head (headB_has e (headsOf e (tabOf e).length) (i := 4) (q := 20) rfl (by simp [length_fixed]; rfl)),
    has_head (headB_has e (headsOf e (tabOf e).length) (i := 6) (q := 32) rfl (by simp [length_fixed]; rfl)),
    has_head (headB_has e (headsOf e (tabOf e).length) (i := 7) (q := 40) rfl (by simp [length_fixed]; rfl)),
    has_head (headB_has e (headsOf e (tabOf e).length) (i := 9) (q := 52) rfl (by simp [length_fixed]; rfl)),
    has_head (headB_has e (headsOf e (tabOf e).length) (i := 10) (q := 54) rfl (by simp [length_fixed]; rfl)),
    has_head (headB_has e (headsOf e (tabOf e).length) (i := 11) (q := 56) rfl (by simp [length_fixed]; rfl)),
    has_head (headB_has e (headsOf e (tabOf e).length) (i := 12) (q := 58) rfl (by simp [length_fixed]; rfl)),
    has_head (headB_has e (headsOf e (tabOf e).length) (i := 13) (q := 60) rfl (by simp [length_fixed]; rfl)),
    has_head (headB_has e (headsOf e (tabOf e).length) (i := 14) (q := 62) rfl (by simp [length_fixed]; rfl))⟩
/-- What the header's numbers are. -/
structure HeadN (e : ElfM) (l : List UInt8) : Prop where
  len : l.length = headsOf e (tabOf e).length + 64 * (e.secs.length + 2)
  magic : l.take 7 = [127, 69, 76, 70, 2, 1, 1]
  typ : gN l 16 2 = e.typ.toNat
  one : gN l 20 4 = 1
  front : gN l 32 8 = if segsB e = true then 64 else 0
  heads : gN l 40 8 = headsOf e (tabOf e).length
  hsize : gN l 52 2 = 64
  gsize : gN l 54 2 = 56
  ng : gN l 56 2 = e.segs.length
  ssize : gN l 58 2 = 64
  ns : gN l 60 2 = e.secs.length + 2
  own : gN l 62 2 = e.secs.length + 1
theorem head_num {e : ElfM} (h : MayK e) : HeadN e (fileB e) := by
  have k := head_has e
  have hlen := fileB_len h
  have hge := heads_ge (e := e)
  have hle := h.len
  have hsl := h.secs
  have hgl := h.segs
  have hfr : front e ≤ (placesOf e).2 := (plF_le (g := segsB e) (n := front e) h.pow).1
  refine ⟨hlen, by have := k.magic.cut; simpa using this, ?_, k.one.num sz4 (by omega), k.front.num sz8 (by split <;> omega), k.heads.num sz8 (by omega), k.hsize.num sz2 (by omega), k.gsize.num sz2 (by omega), k.ng.num sz2 (by omega), k.ssize.num sz2 (by omega), k.ns.num sz2 (by omega), k.own.num sz2 (by omega)⟩
  rw [k.typ.num sz2 (by rcases h.typ with h1 | h1 <;> rw [h1] <;> decide)]
  rcases h.typ with h1 | h1 <;> rw [h1] <;> decide
end Go.Proofs.Ytgjoimcgiofinaa
