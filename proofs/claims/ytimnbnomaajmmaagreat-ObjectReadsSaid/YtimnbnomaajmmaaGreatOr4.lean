/-
  Part 4 of 8: laws and walks for objectReads_holds; no condition of its own.
-/
import Derived.Test.YtimnbnomaajmmaaGreatOr3
import Derived.Laws.Pointers
namespace Go.Proofs.YtimnbnomaajmmaaGreat
open Go.RowKit Go.Fd
theorem heap_base {w w' : World} {base b : Nat} {o : Obj} (h : Below base w w') (hb : w.heap[b]? = some o) (hlt : b < base) : w'.heap[b]? = some o := by rw [h.block b hlt]; exact hb
theorem FileAt.lt {w : World} {base g : Nat} {l : List UInt8} (h : FileAt w base g l) : g < w.heap.size := by obtain ⟨v, h1, -⟩ := h; exact (Array.getElem?_eq_some_iff.1 h1).1
set_option maxHeartbeats 4000000 in
set_option maxRecDepth 100000 in
theorem writeE_any (e : ElfM) (L : List (SecM × Value)) (sv gv : Value) (w : World) (h : ElfAt w e L sv gv) (ho : ElfOk e) :
    Calls Tryz.prog 24 #[elfV e sv gv] w fun r w' => ∃ v, r = .returned (.tuple #[v, .int .i64 (fileW e).2]) ∧ OB w' w.heap.size v (fileW e).1 ∧ Below w.heap.size w w' := by
  obtain ⟨a, ca, rfl, hca, -, hc⟩ := h.rd.open (fun _ => rfl)
  obtain ⟨ga, gc, rfl, hgc, -, hcg⟩ := h.segs.open (fun _ => rfl)
  have HC := Lib.hid hc
  have HCG := Lib.hid hcg
  have HAT := Lib.hid h
  have HOK := Lib.hid ho
  have HD := Lib.hid h.data
  have HSE := Lib.hid (fun k x (hk : L[k]? = some x) => sec_of h.secs hk)
  have HEL := Lib.hid (show e.secs.length = L.length by rw [h.secs, List.length_map])
  obtain ⟨nl, hnl⟩ : ∃ n, n = L.length := ⟨_, rfl⟩
  obtain ⟨gn, hgn⟩ : ∃ n, n = e.segs.length := ⟨_, rfl⟩
  rw [← hnl] at hca HAT ⊢
  rw [← hgn] at hgc HAT ⊢
  have HL := Lib.hid hnl
  have HGN := Lib.hid hgn
  have HMY := Lib.hid (fun wx (hx : Below w.heap.size w wx) => may_any e L _ _ wx (HAT.out.mono hx) HOK.out)
  clear hc hcg h hnl hgn ho
  cases hmy : mayE e with
  | false =>
    have HR := Lib.hid (fileW_no hmy)
    rw [hmy] at HMY
    clear hmy
    go_enter Tryz.func24, Tryz.ntmps24
    go_wp2_with (first
      | ((with_reducible show wpList _ _ _ (⟨_, .box _ _, _, _, _, _⟩ :: _) _ _); go_must (refine wpList_box rfl ?_; intro w1 hx1 hb1 hs1; obtain ⟨c0, c1, c2, c3, c4, c5⟩ := elf_box hx1)))
    refine (HMY.out _ hb1).mono ?_
    rintro r w2 ⟨rfl, hb2⟩
    go_wp2
    go_ret2
    exact ⟨_, by rw [HR.out]; rfl, by rw [HR.out]; exact OB.nil _ _, hb1.trans (hb2.mono hb1.size)⟩
  | true =>
    have HR := Lib.hid (fileW_ok hmy)
    have HK := Lib.hid (mayK hmy)
    rw [hmy] at HMY
    clear hmy
    have hnl2 : nl ≤ 250 := by have h1 := HK.out.secs; have h2 := HEL.out; have h3 := HL.out; omega
    have hgn2 : gn ≤ 16 := by have h1 := HK.out.segs; have h2 := HGN.out; omega
    go_enter Tryz.func24, Tryz.ntmps24
    go_wp2_with (first
      | ((with_reducible show wpList _ _ _ (⟨_, .box _ _, _, _, _, _⟩ :: _) _ _); go_must (refine wpList_box rfl ?_; intro w1 hx1 hb1 hs1; obtain ⟨c0, c1, c2, c3, c4, c5⟩ := elf_box hx1)))
    have HX1 := Lib.hid hx1
    have HB1 := Lib.hid hb1
    have hs1' := hs1
    clear hx1 hb1 c0 c1 c2 c3 c4 c5
    refine (HMY.out _ HB1.out).mono ?_
    rintro r w2 ⟨rfl, hb2⟩
    have HX2 := Lib.hid (heap_below hb2 HX1.out)
    have HB2 := Lib.hid (HB1.out.trans (hb2.mono HB1.out.size))
    have hs2 := hb2.size
    clear hb2 HMY
    obtain ⟨c0, c1, c2, c3, c4, c5⟩ := elf_box HX2.out
    have HNA := Lib.hid (names_any e L _ _ w2 (HAT.out.mono HB2.out) (by have := HL.out; omega))
    rw [HK.out.ok] at HNA
    go_wp2_with fail
    clear c0 c1 c2 c3 c4 c5
    refine HNA.out.mono ?_
    rintro r w3 ⟨v1, v2, rfl, ob1, ow2, hb3⟩
    have OB1 := Lib.hid (show OB w3 w2.heap.size v1 (tabOf e) from ob1)
    have OW2 := Lib.hid (show Ow I64 3 w3 w2.heap.size v2 (atsOf e) from ow2)
    have HX3 := Lib.hid (heap_below hb3 HX2.out)
    have HB3 := Lib.hid (HB2.out.trans (hb3.mono HB2.out.size))
    have hs3 := hb3.size
    obtain ⟨tn, ta, tc, htn, rfl, _, _⟩ := ob1.bs.shape
    replace htn : Hid (tn = (tabOf e).length) := htn
    obtain ⟨aa, ac, rfl, hac, -, haac⟩ := (show Rd I64 w3 v2 (atsOf e) from ow2.rd).open 0
    have HAC := Lib.hid haac
    obtain ⟨al, hal⟩ : ∃ al, al = (atsOf e).length := ⟨_, rfl⟩
    have HAK := Lib.hid (atsOf_len HK.out)
    have hal2 : al = nl + 1 := by have h1 := HAK.out.1; have h2 := HEL.out; have h3 := HL.out; omega
    rw [← hal] at hac ⊢
    have HALN := Lib.hid hal
    clear ob1 ow2 hb3 HNA haac hal
    subst hal2
    have htl : tn ≤ 40000 := by have h1 := tabOf_len e; have h2 := htn.out; have h3 := HEL.out; have h4 := HL.out; omega
    have HPL := Lib.hid (places_any e L _ _ tn w3 (HAT.out.mono HB3.out) (by have := HL.out; omega) (by have := HGN.out; omega) HK.out.pow HOK.out.fits.secs HOK.out.data (by omega))
    have HHD : Hid (headsOf e tn = headsOf e (tabOf e).length) := by rw [htn.out]; exact rfl
    have hhd : headsOf e tn + 64 * (nl + 2) ≤ 4194304 := by have h1 := HK.out.len; have h2 := HHD.out; have h3 := HEL.out; have h4 := HL.out; omega
    have HGE := Lib.hid (show (placesOf e).2 + tn ≤ headsOf e tn ∧ headsOf e tn < (placesOf e).2 + tn + 8 by have h1 := heads_ge (e := e); have h2 := HHD.out; have h3 := htn.out; omega)
    obtain ⟨hd, hhdd⟩ : ∃ hd, hd = headsOf e tn := ⟨_, rfl⟩
    obtain ⟨pe, hpe⟩ : ∃ pe, pe = (placesOf e).2 := ⟨_, rfl⟩
    rw [← hhdd] at HPL HHD hhd HGE
    rw [← hpe] at HPL HGE
    have HPE := Lib.hid hpe
    clear hhdd hpe
    obtain ⟨c0, c1, c2, c3, c4, c5⟩ := elf_box HX3.out
    go_wp2_with fail
    clear c0 c1 c2 c3 c4 c5
    refine HPL.out.mono ?_
    rintro r w4 ⟨v3, rfl, ow3, hb4⟩
    obtain ⟨pa, pc, rfl, hpc, -, hpac⟩ := (show Rd I64 w4 v3 (placesOf e).1 from ow3.rd).open 0
    have HPC := Lib.hid hpac
    have hpl : (placesOf e).1.length = nl := by have h1 := plF_len (g := segsB e) (n := front e) e.secs; have h2 := HEL.out; have h3 := HL.out; exact h1.trans (by omega)
    rw [hpl] at hpc ⊢
    have HPLN := Lib.hid hpl
    have HX4 := Lib.hid (heap_below hb4 HX3.out)
    have HB4w := Lib.hid (HB3.out.trans (hb4.mono HB3.out.size))
    have OB14 := Lib.hid (OB1.out.mono hb4)
    have HAC4 : Hid (∀ j, j < (atsOf e).length → ∃ b off, aa = some ⟨b, off, none⟩ ∧ w4.cell? ⟨b, off + j, none⟩ = some (I64 ((atsOf e)[j]?.getD 0))) := fun j hj => by
      obtain ⟨b, off, h1, h2⟩ := HAC.out j hj
      exact ⟨b, off, h1, (hb4.cell (block_lt h2)).trans h2⟩
    have hs4 := hb4.size
    have hG4 : w.heap.size < w4.heap.size := by omega
    have hwf4 : w.heap.size ≤ w3.heap.size := by omega
    clear ow3 hb4 hpac hpl HPL OB1 HAC
    obtain ⟨c0, c1, c2, c3, c4, c5⟩ := elf_box (heap_below (below_alloc w4 (.cells #[.slice none 0 0] 102)) HX4.out)
    go_wp2_with fail
    clear c0 c1 c2 c3 c4 c5
    refine (headF_any e nl gn a ga ca gc hd w4.heap.size w4.heap.size _ ⟨_, heap_alloc_last w4 _, Nat.le_refl _, OB.nil _ _⟩ (by have h2 := HEL.out; have h3 := HL.out; omega) HGN.out HOK.out.fits HK.out.typ (by omega) (by omega) (by omega) (by rw [World.size_alloc]; omega)).mono ?_
    rintro r w5 ⟨rfl, hf5, hb5, hk5⟩
    have HF5 := Lib.hid hf5
    have HB5 := Lib.hid ((below_alloc w4 _).trans hb5)
    clear hf5 hb5 hk5
    obtain ⟨c0, c1, c2, c3, c4, c5⟩ := elf_box (heap_base HB5.out HX4.out hG4)
    go_wp2
    go_loopw [40] (fun i wr => ∃ k : Nat, i = .int .i64 k ∧ k ≤ gn ∧ Hid (FileAt wr w4.heap.size w4.heap.size (headB e hd ++ (e.segs.take k).flatMap segBy)) ∧ Hid (Below w4.heap.size w4 wr)) (fun i _ => gn - (intOf i).toNat)
    case atStart => exact ⟨0, rfl, Nat.zero_le _, by simpa [Hid] using HF5.out, HB5.out⟩
    case round =>
      clear c0 c1 c2 c3 c4 c5
      obtain ⟨k, rfl, hk, HF, HB⟩ := hrel
      have hbs := HB.out.size
      have hgl := HF.out.lt
      have HBW := Lib.hid (HB4w.out.trans (HB.out.mono (by omega)))
      by_cases hlt : k < gn
      · have X1 := Lib.hid (show e.segs[k]? = some (e.segs[k]'(by have := HGN.out; omega)) from List.getElem?_eq_getElem _)
        generalize e.segs[k]'(by have := HGN.out; omega) = x at *
        obtain ⟨b1, o1, ha, c10, c11, c12, c13, c14, c15, c16, -⟩ := seg_cells HCG.out HBW.out X1.out
        subst ha
        have HFS := Lib.hid (HOK.out.fits.segs _ (List.mem_of_getElem? X1.out))
        have HST : Hid ((e.segs.take (k + 1)).flatMap segBy = (e.segs.take k).flatMap segBy ++ segBy x) := by rw [List.take_add_one, X1.out, List.flatMap_append]; simp [Hid]
        have HTL := Lib.hid (show (headB e hd ++ (e.segs.take k).flatMap segBy).length ≤ 5000 by
          rw [List.length_append, headB_len, flat_len' segBy_len, List.length_take]; omega)
        obtain ⟨typ, flags, off, vaddr, filesz, memsz, align⟩ := x
        generalize hT : headB e hd ++ (e.segs.take k).flatMap segBy = T at *
        have HT := Lib.hid hT
        clear hT
        dsimp only at *
        have hty : typ < 4294967296 := HFS.out.1
        have hfl : flags < 4294967296 := HFS.out.2.1
        go_wp2_with (first
          | ((with_reducible show wpList _ _ _ (⟨none, .store _ _ _, _, _, _, _⟩ :: _) _ _); go_must (refine wpList_storeNew rfl rfl (by kernel_rfl) rfl (by simp [Value.oneCell']) ?_; intro w6 hh6 hb6; obtain ⟨e0, e1, e2, e3, e4, e5, e6⟩ := seg_box (x := ⟨typ, flags, off, vaddr, filesz, memsz, align⟩) hh6; have HH6 := Lib.hid hh6; have HF6 := Lib.hid (HF.out.mono hb6); have HB6 := Lib.hid (HB.out.trans (hb6.mono HB.out.size)); have hr6 := HB.out.size; clear hb6 hh6)))
        refine (putF_any [typ, flags] 4 _ w4.heap.size w4.heap.size _ _ (HF6.out.mono (below_alloc _ _)) (heap_alloc_last _ _) (fun h => by have := HF6.out.lt; omega) (by decide) (by have h1 := HTL.out; (try simp only [List.length_append, flat_len' (fun n => length_fixed n _), List.length_replicate, List.length_cons, List.length_nil]); omega) (Nat.le_of_ble_eq_true rfl) (by intro n hn;  simp only [List.mem_cons, List.not_mem_nil, or_false] at hn; omega) (by rw [World.size_alloc]; have := HB6.out.size; omega) 2 (Nat.le_refl _)).mono ?_
        rintro r w7 ⟨rfl, hf, hb, hk⟩
        have HF7 := Lib.hid hf
        have HB7 := Lib.hid ((HB6.out.trans ((below_alloc w6 _).mono HB6.out.size)).trans hb)
        have HH7 := Lib.hid (hk _ _ _ _ (by omega) (by decide) (heap_below (below_alloc _ _) HH6.out))
        clear hf hb hk
        clear e0 e1 e2 e3 e4 e5 e6
        obtain ⟨e0, e1, e2, e3, e4, e5, e6⟩ := seg_box (x := ⟨typ, flags, off, vaddr, filesz, memsz, align⟩) HH7.out
        go_wp2_with fail
        refine (putF_any [off, vaddr, vaddr, filesz, memsz, align] 8 _ w4.heap.size w4.heap.size _ _ (HF7.out.mono (below_alloc _ _)) (heap_alloc_last _ _) (fun h => by have := HF7.out.lt; omega) (by decide) (by have h1 := HTL.out; (try simp only [List.length_append, flat_len' (fun n => length_fixed n _), List.length_cons, List.length_nil]); omega) (Nat.le_of_ble_eq_true rfl) (by intro n hn; have h1 := HFS.out.2.2.1; have h2 := HFS.out.2.2.2.1; have h3 := HFS.out.2.2.2.2.1; have h4 := HFS.out.2.2.2.2.2.1; have h5 := HFS.out.2.2.2.2.2.2; dsimp only at h1 h2 h3 h4 h5; simp only [List.mem_cons, List.not_mem_nil, or_false] at hn; omega) (by rw [World.size_alloc]; have := HB7.out.size; omega) 6 (Nat.le_refl _)).mono ?_
        rintro r w8 ⟨rfl, hf, hb, hk⟩
        have HF8 := Lib.hid hf
        have HB8 := Lib.hid ((HB7.out.trans ((below_alloc w7 _).mono HB7.out.size)).trans hb)
        clear hf hb hk
        have HF9 := Lib.hid (show FileAt w8 w4.heap.size w4.heap.size (headB e hd ++ (e.segs.take (k + 1)).flatMap segBy) by rw [HST.out, ← List.append_assoc, HT.out]; have := HF8.out; rw [List.append_assoc] at this; exact this)
        clear e0 e1 e2 e3 e4 e5 e6
        go_wp2
        go_roundw
        case rel =>
          first
            | exact ⟨k + 1, by go_num, by omega, HF9.out, HB8.out⟩
            | ((repeat apply Exists.intro); exact ⟨⟨k + 1, by go_num, by omega, HF9.out, HB8.out⟩, rfl⟩)
        case measure => simp [intOf] <;> omega
      · have hkn : e.segs.take k = e.segs := List.take_of_length_le (by have := HGN.out; omega)
        have HFR := Lib.hid (show FileAt wr w4.heap.size w4.heap.size (frontB e) by
          have := HF.out
          rw [hkn] at this
          unfold frontB
          rw [← HHD.out]
          exact this)
        have HBR := Lib.hid HB.out
        obtain ⟨c0, c1, c2, c3, c4, c5⟩ := elf_box (heap_base HB.out HX4.out hG4)
        clear HF hkn
        go_wp2
        go_loopw [70] (fun i wr => ∃ k : Nat, i = .int .i64 k ∧ k ≤ nl ∧ Hid (FileAt wr w4.heap.size w4.heap.size (bodyF (frontB e) ((e.secs.zip (placesOf e).1).take k))) ∧ Hid (Below w4.heap.size w4 wr)) (fun i _ => nl - (intOf i).toNat)
        case atStart => exact ⟨0, rfl, Nat.zero_le _, HFR.out, HBR.out⟩
        case round =>
          clear c0 c1 c2 c3 c4 c5
          obtain ⟨k, rfl, hk, HF, HB⟩ := hrel
          have hbs := HB.out.size
          have hgl := HF.out.lt
          have HBW := Lib.hid (HB4w.out.trans (HB.out.mono (by omega)))
          by_cases hlt : k < nl
          · have X1 := Lib.hid (show L[k]? = some (L[k]'(by have := HL.out; omega)) from List.getElem?_eq_getElem _)
            generalize L[k]'(by have := HL.out; omega) = x at *
            obtain ⟨s, dv⟩ := x
            have HDB := Lib.hid (HD.out _ (List.mem_of_getElem? X1.out))
            obtain ⟨dm, da, dc, hdm, rfl, _, _⟩ := HDB.out.shape
            have X2 := Lib.hid (HSE.out _ _ X1.out)
            have HZP := Lib.hid (zipP (g := segsB e) (n := front e) X2.out)
            have HPG := Lib.hid (plF_get (g := segsB e) (n := front e) X2.out)
            have HST := Lib.hid (show bodyF (frontB e) ((e.secs.zip (placesOf e).1).take (k + 1)) = bodyF (frontB e) ((e.secs.zip (placesOf e).1).take k) ++ List.replicate (placeS (segsB e) (plF (segsB e) (front e) (e.secs.take k)).2 s - (bodyF (frontB e) ((e.secs.zip (placesOf e).1).take k)).length) 0 ++ s.data from bodyF_step (acc := frontB e) HZP.out)
            have HLN := Lib.hid (body_len (g := segsB e) (frontB_len e) HK.out.pow k (by have h1 := HEL.out; have h2 := HL.out; omega))
            have HLE := Lib.hid (placeS_le (g := segsB e) (p := (plF (segsB e) (front e) (e.secs.take k)).2) (HK.out.pow _ (List.mem_of_getElem? X2.out)))
            have HPB := Lib.hid (place_bd HK.out (k + 1))
            rw [plF_step X2.out] at HPB
            have hp9 : placeS (segsB e) (plF (segsB e) (front e) (e.secs.take k)).2 s + dm ≤ 4194304 := by
              have h1 : placeS (segsB e) (plF (segsB e) (front e) (e.secs.take k)).2 s + s.data.length ≤ (placesOf e).2 := HPB.out
              have h2 := HGE.out.1
              have h3 := HPE.out
              have h4 := hdm.out
              dsimp only at h4
              omega
            obtain ⟨b1, o1, ha, c10, c11, c12, c13, c14, c15, c16, c17, c18, c19, -⟩ := sec_cells HC.out HBW.out X1.out
            subst ha
            obtain ⟨bP, oP, hP1, cP⟩ := HPC.out k (by have := HPLN.out; omega)
            have HPGx := HPG.out
            replace HPGx : (placesOf e).1[k]? = _ := HPGx
            rw [HPGx] at cP
            simp only [Option.getD_some] at cP
            replace cP := (HB.out.cell (block_lt cP)).trans cP
            subst hP1
            have HPGY := Lib.hid HPGx
            generalize hT : bodyF (frontB e) ((e.secs.zip (placesOf e).1).take k) = T at *
            have HT := Lib.hid hT
            have HTL := Lib.hid (show T.length = (plF (segsB e) (front e) (e.secs.take k)).2 by rw [← hT]; exact HLN.out)
            generalize placeS (segsB e) (plF (segsB e) (front e) (e.secs.take k)).2 s = p at *
            obtain ⟨d, hd1⟩ : ∃ d, p = T.length + d := ⟨p - T.length, by have h1 := HLE.out.1; have h2 := HTL.out; omega⟩
            have HD1 := Lib.hid hd1
            clear hT HPGx hd1
            obtain ⟨name, typ, flags, addr, align, size, link, info, ent, data⟩ := s
            dsimp only at *
            go_wp2_with (first
              | ((with_reducible show wpList _ _ _ (⟨none, .store _ _ _, _, _, _, _⟩ :: _) _ _); go_must (refine wpList_storeNew rfl rfl (by kernel_rfl) rfl (by simp [Value.oneCell']) ?_; intro w6 hh6 hb6; obtain ⟨e0, e1, e2, e3, e4, e5, e6, e7, e8, e9⟩ := sec_box (x := (⟨name, typ, flags, addr, align, size, link, info, ent, data⟩, .slice da dm dc)) hh6; have HH6 := Lib.hid hh6; have HF6 := Lib.hid (HF.out.mono hb6); have HB6 := Lib.hid (HB.out.trans (hb6.mono HB.out.size)); have hr6 := HB.out.size; have cP6 := (hb6.cell (block_lt cP)).trans cP; clear hb6 hh6)))
            refine (fillF_any d w4.heap.size w4.heap.size (p : Int) T w6 HF6.out (by rw [HD1.out]) (by have h1 := HD1.out; omega) HB6.out.size).mono ?_
            rintro r w7 ⟨rfl, hf, hb, hk⟩
            have HH7 := Lib.hid (hk _ _ _ _ (by omega) (by decide) HH6.out)
            have HB7 := Lib.hid (HB6.out.trans hb)
            obtain ⟨v7, hg7, hbg7, hov7⟩ := hf
            have HG7 := Lib.hid hg7
            have HV7 := Lib.hid hov7
            obtain ⟨m7, ad7, cap7, hm7, rfl, _, _⟩ := hov7.shape
            have z7 := cell_rec HG7.out 0
            simp only [List.getElem?_toArray, List.getElem?_cons_zero] at z7
            have HBD7 := Lib.hid (HDB.out.mono (HB4w.out.trans (HB7.out.mono (by omega))))
            clear hb hk hg7 hov7 e0 e1 e2 e3 e4 e5 e6 e7 e8 e9
            obtain ⟨e0, e1, e2, e3, e4, e5, e6, e7, e8, e9⟩ := sec_box (x := (⟨name, typ, flags, addr, align, size, link, info, ent, data⟩, .slice da dm dc)) HH7.out
            go_wp2_with (first
              | ((with_reducible show wpList _ _ _ (⟨some 83, _, _, _, _, _⟩ :: _) _ _); go_must (refine wpList_catU HV7.out HBD7.out rfl rfl (by rw [List.length_append, List.length_replicate]; have h1 := HD1.out; have h2 := hdm.out; omega) HB7.out.size ?_; intro v8 w8 hv8 hg8; have HG8 := Lib.hid (keeps_own HV7.out hg8 _ _ _ _ (by decide) HG7.out); have HV8 := Lib.hid hv8; have HB8 := Lib.hid (HB7.out.trans (below_of_grown hg8 HB7.out.size fun k hk => (World.ownsRow.lt HV7.out k hk).1)); clear hv8 hg8))
              | ((with_reducible show wpList _ _ _ (⟨none, .store _ _ _, _, _, _, _⟩ :: _) _ _); go_must (refine wpList_storeF HG8.out hbg7 HV8.out rfl rfl HB8.out.size ?_; intro w9 hf9 hb9 hk9)))
            have HF9 := Lib.hid (show FileAt w9 w4.heap.size w4.heap.size (bodyF (frontB e) ((e.secs.zip (placesOf e).1).take (k + 1))) by
              rw [HST.out]
              rw [show p - T.length = d by have h1 := HD1.out; omega]
              exact hf9)
            have HB9 := Lib.hid (HB8.out.trans hb9)
            clear hf9 hb9 hk9 z7 e0 e1 e2 e3 e4 e5 e6 e7 e8 e9
            go_roundw
            case rel =>
              first
                | exact ⟨k + 1, by go_num, by omega, HF9.out, HB9.out⟩
                | ((repeat apply Exists.intro); exact ⟨⟨k + 1, by go_num, by omega, HF9.out, HB9.out⟩, rfl⟩)
            case measure => simp [intOf] <;> omega
          · have hkn : (e.secs.zip (placesOf e).1).take k = e.secs.zip (placesOf e).1 := List.take_of_length_le (by rw [List.length_zip]; have h1 := HEL.out; have h2 := HL.out; omega)
            have HF6 := Lib.hid (show FileAt wr w4.heap.size w4.heap.size (bodyB e) by
              have := HF.out
              rw [hkn] at this
              exact this)
            have HBL := Lib.hid (show (bodyB e).length = pe by rw [bodyB_len HK.out.pow, ← HPE.out])
            have HB6 := Lib.hid HB.out
            have hpe4 : pe ≤ 4194304 := by have := HGE.out.1; omega
            clear HF HB hkn
            go_wp2_with fail
            refine (fillF_any 0 w4.heap.size w4.heap.size (pe : Int) (bodyB e) wr HF6.out (by rw [HBL.out]; rfl) (by have h1 := HBL.out; omega) HB6.out.size).mono ?_
            rintro r w7 ⟨rfl, hf, hb, hk⟩
            have HB7 := Lib.hid (HB6.out.trans hb)
            rw [List.replicate_zero, List.append_nil] at hf
            obtain ⟨v7, hg7, hbg7, hov7⟩ := hf
            have HG7 := Lib.hid hg7
            have HV7 := Lib.hid hov7
            obtain ⟨m7, ad7, cap7, hm7, rfl, _, _⟩ := hov7.shape
            have z7 := cell_rec HG7.out 0
            simp only [List.getElem?_toArray, List.getElem?_cons_zero] at z7
            have HTB7 := Lib.hid (OB14.out.bs.mono HB7.out)
            clear hb hk hg7 hov7
            go_wp2_with (first
              | ((with_reducible show wpList _ _ _ (⟨some 89, _, _, _, _, _⟩ :: _) _ _); go_must (refine wpList_catU HV7.out HTB7.out rfl rfl (by have h1 := HBL.out; have h2 := htn.out; omega) HB7.out.size ?_; intro v8 w8 hv8 hg8; have HG8 := Lib.hid (keeps_own HV7.out hg8 _ _ _ _ (by decide) HG7.out); have HV8 := Lib.hid hv8; have HB8 := Lib.hid (HB7.out.trans (below_of_grown hg8 HB7.out.size fun k hk => (World.ownsRow.lt HV7.out k hk).1)); clear hv8 hg8))
              | ((with_reducible show wpList _ _ _ (⟨none, .store _ _ _, _, _, _, _⟩ :: _) _ _); go_must (refine wpList_storeF HG8.out hbg7 HV8.out rfl rfl HB8.out.size ?_; intro w9 hf9 hb9 hk9)))
            have HF9 := Lib.hid hf9
            have HB9 := Lib.hid (HB8.out.trans hb9)
            clear hf9 hb9 hk9 z7
            have HTN : Hid ((bodyB e ++ tabOf e).length = pe + tn) := by
              show _ = _
              rw [List.length_append, HBL.out, ← htn.out]
            obtain ⟨dd, hdd⟩ : ∃ dd, hd + 64 = pe + tn + dd := ⟨hd + 64 - (pe + tn), by have := HGE.out.1; omega⟩
            have HDD := Lib.hid hdd
            clear hdd
            refine (fillF_any dd w4.heap.size w4.heap.size ((hd : Int) + 64) _ w9 HF9.out (by rw [HTN.out]; have := HDD.out; omega) (by rw [HTN.out]; have := HDD.out; omega) HB9.out.size).mono ?_
            rintro r w10 ⟨rfl, hf, hb, hk⟩
            have HF10 := Lib.hid (show FileAt w10 w4.heap.size w4.heap.size (midB e) by
              unfold midB
              rw [← HHD.out, ← HPE.out, ← htn.out, show hd + 64 - (pe + tn) = dd by have := HDD.out; omega]
              exact hf)
            have HB10 := Lib.hid (HB9.out.trans hb)
            have HML := Lib.hid (show (midB e).length = hd + 64 by rw [midB_len HK.out, ← HHD.out])
            clear hf hb hk
            obtain ⟨c0, c1, c2, c3, c4, c5⟩ := elf_box (heap_base HB10.out HX4.out hG4)
            go_wp2
            go_loopw [96] (fun i wr => ∃ k : Nat, i = .int .i64 k ∧ k ≤ nl ∧ Hid (FileAt wr w4.heap.size w4.heap.size (midB e ++ ((e.secs.zip ((atsOf e).zip (placesOf e).1)).take k).flatMap fun p => hdrBy p.2.1 p.1 p.2.2)) ∧ Hid (Below w4.heap.size w4 wr)) (fun i _ => nl - (intOf i).toNat)
            case atStart => exact ⟨0, rfl, Nat.zero_le _, by simpa [Hid] using HF10.out, HB10.out⟩
            case round =>
              clear c0 c1 c2 c3 c4 c5
              obtain ⟨k, rfl, hk, HF, HB⟩ := hrel
              have hbs := HB.out.size
              have hgl := HF.out.lt
              have HBW := Lib.hid (HB4w.out.trans (HB.out.mono (by omega)))
              by_cases hlt : k < nl
              · have X1 := Lib.hid (show L[k]? = some (L[k]'(by have := HL.out; omega)) from List.getElem?_eq_getElem _)
                generalize L[k]'(by have := HL.out; omega) = x at *
                obtain ⟨s, dv⟩ := x
                have HDB := Lib.hid (HD.out _ (List.mem_of_getElem? X1.out))
                obtain ⟨dm, da, dc, hdm, rfl, _, _⟩ := HDB.out.shape
                have X2 := Lib.hid (HSE.out _ _ X1.out)
                have HFS := Lib.hid (HOK.out.fits.secs _ (List.mem_of_getElem? X2.out))
                obtain ⟨b1, o1, ha, c10, c11, c12, c13, c14, c15, c16, c17, c18, c19, -⟩ := sec_cells HC.out HBW.out X1.out
                subst ha
                have XA := Lib.hid (show (atsOf e)[k]? = some ((atsOf e)[k]'(by have := HALN.out; omega)) from List.getElem?_eq_getElem _)
                have XP := Lib.hid (show (placesOf e).1[k]? = some ((placesOf e).1[k]'(by have := HPLN.out; omega)) from List.getElem?_eq_getElem _)
                have hpbx : ∀ x, (placesOf e).1[k]? = some x → x ≤ 4194304 := fun x hx => by
                  have h2 := plF_get (g := segsB e) (n := front e) X2.out
                  have h3 : (placesOf e).1[k]? = some (placeS (segsB e) (plF (segsB e) (front e) (e.secs.take k)).2 s) := h2
                  rw [h3] at hx
                  injection hx with hx
                  have h4 := place_bd HK.out (k + 1)
                  rw [plF_step X2.out] at h4
                  have h5 : placeS (segsB e) (plF (segsB e) (front e) (e.secs.take k)).2 s + s.data.length ≤ (placesOf e).2 := h4
                  have h6 := HPE.out
                  omega
                have hab : (atsOf e)[k]'(by have := HALN.out; omega) ≤ 130000 := HAK.out.2 _ (List.getElem_mem _)
                obtain ⟨bA, oA, hA1, cA⟩ := HAC4.out k (by have := HALN.out; omega)
                obtain ⟨bP, oP, hP1, cP⟩ := HPC.out k (by have := HPLN.out; omega)
                rw [XA.out] at cA
                rw [XP.out] at cP
                have HST : Hid (((e.secs.zip ((atsOf e).zip (placesOf e).1)).take (k + 1)).flatMap (fun p => hdrBy p.2.1 p.1 p.2.2) = ((e.secs.zip ((atsOf e).zip (placesOf e).1)).take k).flatMap (fun p => hdrBy p.2.1 p.1 p.2.2) ++ hdrBy ((atsOf e)[k]'(by have := HALN.out; omega)) s ((placesOf e).1[k]'(by have := HPLN.out; omega))) := by
                  rw [List.take_add_one, show (e.secs.zip ((atsOf e).zip (placesOf e).1))[k]? = some (s, _, _) by rw [List.getElem?_zip_eq_some]; exact ⟨X2.out, by rw [List.getElem?_zip_eq_some]; exact ⟨XA.out, XP.out⟩⟩, List.flatMap_append]
                  simp [Hid]
                generalize (atsOf e)[k]'(by have := HALN.out; omega) = na at *
                generalize (placesOf e).1[k]'(by have := HPLN.out; omega) = pl at *
                have hpb := hpbx _ XP.out
                clear hpbx
                simp only [Option.getD_some] at cA cP
                replace cA := (HB.out.cell (block_lt cA)).trans cA
                have cP0 := cP
                replace cP := (HB.out.cell (block_lt cP)).trans cP
                subst hA1
                subst hP1
                have HTL := Lib.hid (show (midB e ++ ((e.secs.zip ((atsOf e).zip (placesOf e).1)).take k).flatMap fun p => hdrBy p.2.1 p.1 p.2.2).length ≤ 8000000 by
                  rw [List.length_append, HML.out, flat_len' (f := fun p : SecM × Nat × Nat => hdrBy p.2.1 p.1 p.2.2) (fun p => hdrBy_len p.2.1 p.1 p.2.2), List.length_take]
                  omega)
                generalize hT : (midB e ++ ((e.secs.zip ((atsOf e).zip (placesOf e).1)).take k).flatMap fun p => hdrBy p.2.1 p.1 p.2.2) = T at *
                have HT := Lib.hid hT
                clear hT
                obtain ⟨name, typ, flags, addr, align, size, link, info, ent, data⟩ := s
                dsimp only at *
                have hty : typ < 4294967296 := HFS.out.1
                have hli : link < 4294967296 := HFS.out.2.2.2.2.2.1
                have hin : info < 4294967296 := HFS.out.2.2.2.2.2.2.1
                go_wp2_with (first
                  | ((with_reducible show wpList _ _ _ (⟨none, .store _ _ _, _, _, _, _⟩ :: _) _ _); go_must (refine wpList_storeNew rfl rfl (by kernel_rfl) rfl (by simp [Value.oneCell']) ?_; intro w6 hh6 hb6; obtain ⟨e0, e1, e2, e3, e4, e5, e6, e7, e8, e9⟩ := sec_box (x := (⟨name, typ, flags, addr, align, size, link, info, ent, data⟩, .slice da dm dc)) hh6; have HH6 := Lib.hid hh6; have HF6 := Lib.hid (HF.out.mono hb6); have HB6 := Lib.hid (HB.out.trans (hb6.mono HB.out.size)); have hr6 := HB.out.size; have cP6 := (hb6.cell (block_lt cP)).trans cP; have cA6 := (hb6.cell (block_lt cA)).trans cA; clear hb6 hh6)))
                have hAB := fun (x : Above w6) (b k : Nat) (h : b < w6.heap.size) => Above.cell x b k h
                have hbltA : bA < w6.heap.size := block_lt cA6
                have hbltE : wr.heap.size < w6.heap.size := block_lt e0
                go_wp2
                refine wp_region_walk 9 [(8, .lit w6.heap.size 39 #[.int .u64 (na : Int), .int .u64 (typ : Int)])] (by kernel_rfl) (by kernel_rfl) ?_
                simp only [List.take_succ_cons, List.take_zero, List.drop_succ_cons, List.drop_zero]
                repeat (first
                  | (refine walk_quiet rfl rfl rfl ?_; intro K hK; go_big_quiet_op; go_big_quiet_on)
                  | (refine walk_lit rfl rfl (fun wx hwx _ => WpYld.val (run_l2 rfl rfl) (Yld.lit_mk _ hwx).1 (Yld.lit_mk _ hwx).2) (fun gb => ?_); go_frame))
                refine walk_nil ?_
                intro wz hbz hF
                obtain ⟨hgB, hgl2⟩ := Yld.lit_got (hF 8 _ 109 _ rfl rfl rfl rfl)
                have HLT := Lib.hid hgl2
                have HFz := Lib.hid (HF6.out.mono hbz)
                have HBz := Lib.hid (HB6.out.trans (hbz.mono HB6.out.size))
                have HHz := Lib.hid (heap_below hbz HH6.out)
                have HF7 := HFz
                have HB7 := HBz
                have hgbg : gb ≠ w4.heap.size := by have := HF6.out.lt; omega
                clear hF hbz hgl2 hAB hbltA hbltE
                go_wp2_with fail
                refine (putF_any [na, typ] 4 _ w4.heap.size w4.heap.size _ _ HF7.out HLT.out hgbg (by decide) (by have h1 := HTL.out; (try simp only [List.length_append, flat_len' (fun n => length_fixed n _), List.length_replicate, List.length_cons, List.length_nil]); omega) (Nat.le_of_ble_eq_true rfl) (by intro n hn;  simp only [List.mem_cons, List.not_mem_nil, or_false] at hn; omega) HB7.out.size 2 (Nat.le_refl _)).mono ?_
                rintro r w8 ⟨rfl, hf, hb, hk⟩
                have HF8 := Lib.hid hf
                have HB8 := Lib.hid (HB7.out.trans hb)
                have HH8 := Lib.hid (hk _ _ _ _ (by omega) (by decide) HHz.out)
                clear hf hb hk
                clear e0 e1 e2 e3 e4 e5 e6 e7 e8 e9
                obtain ⟨e0, e1, e2, e3, e4, e5, e6, e7, e8, e9⟩ := sec_box (x := (⟨name, typ, flags, addr, align, size, link, info, ent, data⟩, .slice da dm dc)) HH8.out
                have cP8 := ((HB8.out.cell (block_lt cP0)).trans cP0)
                have hAB := fun (x : Above w8) (b k : Nat) (h : b < w8.heap.size) => Above.cell x b k h
                have hbltP : bP < w8.heap.size := block_lt cP8
                have hbltE : wr.heap.size < w8.heap.size := block_lt e0
                go_wp2
                refine wp_region_walk 12 [(11, .lit w8.heap.size 39 #[.int .u64 (flags : Int), .int .u64 (addr : Int), .int .u64 (pl : Int), .int .u64 (size : Int)])] (by kernel_rfl) (by kernel_rfl) ?_
                simp only [List.take_succ_cons, List.take_zero, List.drop_succ_cons, List.drop_zero]
                repeat (first
                  | (refine walk_quiet rfl rfl rfl ?_; intro K hK; go_big_quiet_op; go_big_quiet_on)
                  | (refine walk_lit rfl rfl (fun wx hwx _ => WpYld.val (run_l4 rfl rfl rfl rfl) (Yld.lit_mk _ hwx).1 (Yld.lit_mk _ hwx).2) (fun gc2 => ?_); go_frame))
                refine walk_nil ?_
                intro wy hby hF
                obtain ⟨hgB, hgl2⟩ := Yld.lit_got (hF 11 _ 122 _ rfl rfl rfl rfl)
                have HLT2 := Lib.hid hgl2
                have HF9 := Lib.hid (HF8.out.mono hby)
                have HB9 := Lib.hid (HB8.out.trans (hby.mono HB8.out.size))
                have HHy := Lib.hid (heap_below hby HH8.out)
                have hgcg : gc2 ≠ w4.heap.size := by have := HF8.out.lt; omega
                clear hF hby hgl2 hAB hbltP hbltE cP8
                go_wp2_with fail
                refine (putF_any [flags, addr, pl, size] 8 _ w4.heap.size w4.heap.size _ _ HF9.out HLT2.out hgcg (by decide) (by have h1 := HTL.out; (try simp only [List.length_append, flat_len' (fun n => length_fixed n _), List.length_cons, List.length_nil]); omega) (Nat.le_of_ble_eq_true rfl) (by intro n hn; have h1 := HFS.out.2.1; have h2 := HFS.out.2.2.1; have h3 := HFS.out.2.2.2.2.1; dsimp only at h1 h2 h3; simp only [List.mem_cons, List.not_mem_nil, or_false] at hn; omega) HB9.out.size 4 (Nat.le_refl _)).mono ?_
                rintro r w10 ⟨rfl, hf, hb, hk⟩
                have HF10 := Lib.hid hf
                have HB10 := Lib.hid (HB9.out.trans hb)
                have HH10 := Lib.hid (hk _ _ _ _ (by omega) (by decide) HHy.out)
                clear hf hb hk
                clear e0 e1 e2 e3 e4 e5 e6 e7 e8 e9
                obtain ⟨e0, e1, e2, e3, e4, e5, e6, e7, e8, e9⟩ := sec_box (x := (⟨name, typ, flags, addr, align, size, link, info, ent, data⟩, .slice da dm dc)) HH10.out
                go_wp2_with fail
                refine (putF_any [link, info] 4 _ w4.heap.size w4.heap.size _ _ (HF10.out.mono (below_alloc _ _)) (heap_alloc_last _ _) (fun h => by have := HF10.out.lt; omega) (by decide) (by have h1 := HTL.out; (try simp only [List.length_append, flat_len' (fun n => length_fixed n _), List.length_cons, List.length_nil]); omega) (Nat.le_of_ble_eq_true rfl) (by intro n hn;  simp only [List.mem_cons, List.not_mem_nil, or_false] at hn; omega) (by rw [World.size_alloc]; have := HB10.out.size; omega) 2 (Nat.le_refl _)).mono ?_
                rintro r w11 ⟨rfl, hf, hb, hk⟩
                have HF11 := Lib.hid hf
                have HB11 := Lib.hid ((HB10.out.trans ((below_alloc w10 _).mono HB10.out.size)).trans hb)
                have HH11 := Lib.hid (hk _ _ _ _ (by omega) (by decide) (heap_below (below_alloc _ _) HH10.out))
                clear hf hb hk
                clear e0 e1 e2 e3 e4 e5 e6 e7 e8 e9
                obtain ⟨e0, e1, e2, e3, e4, e5, e6, e7, e8, e9⟩ := sec_box (x := (⟨name, typ, flags, addr, align, size, link, info, ent, data⟩, .slice da dm dc)) HH11.out
                go_wp2_with fail
                refine (putF_any [align, ent] 8 _ w4.heap.size w4.heap.size _ _ (HF11.out.mono (below_alloc _ _)) (heap_alloc_last _ _) (fun h => by have := HF11.out.lt; omega) (by decide) (by have h1 := HTL.out; (try simp only [List.length_append, flat_len' (fun n => length_fixed n _), List.length_cons, List.length_nil]); omega) (Nat.le_of_ble_eq_true rfl) (by intro n hn; have h1 := HFS.out.2.2.2.1; have h2 := HFS.out.2.2.2.2.2.2.2; dsimp only at h1 h2; simp only [List.mem_cons, List.not_mem_nil, or_false] at hn; omega) (by rw [World.size_alloc]; have := HB11.out.size; omega) 2 (Nat.le_refl _)).mono ?_
                rintro r w12 ⟨rfl, hf, hb, hk⟩
                have HF12 := Lib.hid hf
                have HB12 := Lib.hid ((HB11.out.trans ((below_alloc w11 _).mono HB11.out.size)).trans hb)
                clear hf hb hk
                clear e0 e1 e2 e3 e4 e5 e6 e7 e8 e9
                have HF13 := Lib.hid (show FileAt w12 w4.heap.size w4.heap.size (midB e ++ ((e.secs.zip ((atsOf e).zip (placesOf e).1)).take (k + 1)).flatMap fun p => hdrBy p.2.1 p.1 p.2.2) by
                  rw [HST.out, ← List.append_assoc, HT.out]
                  have := HF12.out
                  simp only [List.append_assoc] at this
                  unfold hdrBy
                  simp only [List.append_assoc]
                  exact this)
                go_wp2
                go_roundw
                case rel =>
                  first
                    | exact ⟨k + 1, by go_num, by omega, HF13.out, HB12.out⟩
                    | ((repeat apply Exists.intro); exact ⟨⟨k + 1, by go_num, by omega, HF13.out, HB12.out⟩, rfl⟩)
                case measure => simp [intOf] <;> omega
              · have hkn : (e.secs.zip ((atsOf e).zip (placesOf e).1)).take k = e.secs.zip ((atsOf e).zip (placesOf e).1) := List.take_of_length_le (by rw [List.length_zip]; have h1 := HEL.out; have h2 := HL.out; omega)
                have HF20 := Lib.hid (show FileAt wr w4.heap.size w4.heap.size (midB e ++ hdrsB e) by
                  have := HF.out
                  rw [hkn] at this
                  exact this)
                have HB20 := Lib.hid HB.out
                have HTL := Lib.hid (show (midB e ++ hdrsB e).length ≤ 8000000 by
                  unfold hdrsB
                  rw [List.length_append, HML.out, flat_len' (f := fun p : SecM × Nat × Nat => hdrBy p.2.1 p.1 p.2.2) (fun p => hdrBy_len p.2.1 p.1 p.2.2), List.length_zip]
                  have h1 := HEL.out
                  have h2 := HL.out
                  have h3 : min e.secs.length ((atsOf e).zip (placesOf e).1).length ≤ e.secs.length := Nat.min_le_left _ _
                  omega)
                have XA := Lib.hid (show (atsOf e)[nl]? = some ((atsOf e)[nl]'(by have := HALN.out; omega)) from List.getElem?_eq_getElem _)
                have hab : (atsOf e)[nl]'(by have := HALN.out; omega) ≤ 130000 := HAK.out.2 _ (List.getElem_mem _)
                obtain ⟨bA, oA, hA1, cA⟩ := HAC4.out nl (by have := HALN.out; omega)
                rw [XA.out] at cA
                generalize (atsOf e)[nl]'(by have := HALN.out; omega) = na at *
                simp only [Option.getD_some] at cA
                replace cA := (HB.out.cell (block_lt cA)).trans cA
                subst hA1
                have HFB : Hid (fileB e = midB e ++ hdrsB e ++ hdrBy na (tabSec tn) pe) := by
                  unfold fileB
                  rw [← htn.out, ← HPE.out, show e.secs.length = nl by have h1 := HEL.out; have h2 := HL.out; omega, XA.out]
                  exact rfl
                generalize hT : midB e ++ hdrsB e = T at *
                have hpe5 : pe ≤ 4194304 := hpe4
                clear HF HB hkn hT
                obtain ⟨c0, c1, c2, c3, c4, c5⟩ := elf_box (heap_base HB20.out HX4.out hG4)
                go_wp2_with fail
                clear c0 c1 c2 c3 c4 c5
                refine (putF_any [na, 3] 4 _ w4.heap.size w4.heap.size _ _ (HF20.out.mono (below_alloc _ _)) (heap_alloc_last _ _) (fun h => by have := HF20.out.lt; omega) (by decide) (by have h1 := HTL.out; (try simp only [List.length_append, flat_len' (fun n => length_fixed n _), List.length_replicate, List.length_cons, List.length_nil]); omega) (Nat.le_of_ble_eq_true rfl) (by intro n hn;  simp only [List.mem_cons, List.not_mem_nil, or_false] at hn; omega) (by rw [World.size_alloc]; have := HB20.out.size; omega) 2 (Nat.le_refl _)).mono ?_
                rintro r w21 ⟨rfl, hf, hb, hk⟩
                have HF21 := Lib.hid hf
                have HB21 := Lib.hid ((HB20.out.trans ((below_alloc wr _).mono HB20.out.size)).trans hb)
                clear hf hb hk
                obtain ⟨c0, c1, c2, c3, c4, c5⟩ := elf_box (heap_base HB21.out HX4.out hG4)
                go_wp2_with fail
                clear c0 c1 c2 c3 c4 c5
                refine (putF_any [0, 0, pe, tn] 8 _ w4.heap.size w4.heap.size _ _ (HF21.out.mono (below_alloc _ _)) (heap_alloc_last _ _) (fun h => by have := HF21.out.lt; omega) (by decide) (by have h1 := HTL.out; (try simp only [List.length_append, flat_len' (fun n => length_fixed n _), List.length_cons, List.length_nil]); omega) (Nat.le_of_ble_eq_true rfl) (by intro n hn;  simp only [List.mem_cons, List.not_mem_nil, or_false] at hn; omega) (by rw [World.size_alloc]; have := HB21.out.size; omega) 4 (Nat.le_refl _)).mono ?_
                rintro r w22 ⟨rfl, hf, hb, hk⟩
                have HF22 := Lib.hid hf
                have HB22 := Lib.hid ((HB21.out.trans ((below_alloc w21 _).mono HB21.out.size)).trans hb)
                clear hf hb hk
                obtain ⟨c0, c1, c2, c3, c4, c5⟩ := elf_box (heap_base HB22.out HX4.out hG4)
                go_wp2_with fail
                clear c0 c1 c2 c3 c4 c5
                refine (putF_any [0, 0] 4 _ w4.heap.size w4.heap.size _ _ (HF22.out.mono (below_alloc _ _)) (heap_alloc_last _ _) (fun h => by have := HF22.out.lt; omega) (by decide) (by have h1 := HTL.out; (try simp only [List.length_append, flat_len' (fun n => length_fixed n _), List.length_cons, List.length_nil]); omega) (Nat.le_of_ble_eq_true rfl) (by intro n hn;  simp only [List.mem_cons, List.not_mem_nil, or_false] at hn; omega) (by rw [World.size_alloc]; have := HB22.out.size; omega) 2 (Nat.le_refl _)).mono ?_
                rintro r w23 ⟨rfl, hf, hb, hk⟩
                have HF23 := Lib.hid hf
                have HB23 := Lib.hid ((HB22.out.trans ((below_alloc w22 _).mono HB22.out.size)).trans hb)
                clear hf hb hk
                obtain ⟨c0, c1, c2, c3, c4, c5⟩ := elf_box (heap_base HB23.out HX4.out hG4)
                go_wp2_with fail
                clear c0 c1 c2 c3 c4 c5
                refine (putF_any [1, 0] 8 _ w4.heap.size w4.heap.size _ _ (HF23.out.mono (below_alloc _ _)) (heap_alloc_last _ _) (fun h => by have := HF23.out.lt; omega) (by decide) (by have h1 := HTL.out; (try simp only [List.length_append, flat_len' (fun n => length_fixed n _), List.length_cons, List.length_nil]); omega) (Nat.le_of_ble_eq_true rfl) (by intro n hn;  simp only [List.mem_cons, List.not_mem_nil, or_false] at hn; omega) (by rw [World.size_alloc]; have := HB23.out.size; omega) 2 (Nat.le_refl _)).mono ?_
                rintro r w24 ⟨rfl, hf, hb, hk⟩
                have HF24 := Lib.hid hf
                have HB24 := Lib.hid ((HB23.out.trans ((below_alloc w23 _).mono HB23.out.size)).trans hb)
                clear hf hb hk
                obtain ⟨v24, hg24, hbg24, hov24⟩ := HF24.out
                have z24 := cell_rec hg24 0
                simp only [List.getElem?_toArray, List.getElem?_cons_zero] at z24
                have HV24 := Lib.hid hov24
                clear hg24 hov24
                go_wp2
                go_ret2
                refine ⟨_, by rw [HR.out]; rfl, ?_, HB4w.out.trans (HB24.out.mono (by omega))⟩
                rw [HR.out]
                show OB w24 w.heap.size v24 (fileB e)
                rw [HFB.out]
                have := HV24.out.base (show w.heap.size ≤ w4.heap.size by omega)
                unfold hdrBy
                simp only [List.append_assoc] at this ⊢
                exact this
end Go.Proofs.YtimnbnomaajmmaaGreat
namespace Go.Proofs.YtimnbnomaajmmaaGreat
open Go.RowKit Go.Fd
theorem TSec : SliceT Tryz.prog 48 60 10 96 := SliceT.mk' (z := .agg #[.string ⟨#[]⟩, .int .u32 0, .int .u64 0, .int .u64 0, .int .u64 0, .int .u64 0, .int .u32 0, .int .u32 0, .int .u64 0, .slice none 0 0]) (by kernel_rfl) (by kernel_rfl) rfl (by omega)
theorem TSeg : SliceT Tryz.prog 49 105 7 48 := SliceT.mk' (z := .agg #[.int .u32 0, .int .u32 0, .int .u64 0, .int .u64 0, .int .u64 0, .int .u64 0, .int .u64 0]) (by kernel_rfl) (by kernel_rfl) rfl (by omega)
theorem oneSec {L : List (SecM × Value)} (h : ∀ p ∈ L, p.2.oneCell' = true) : (L.flatMap encSec).all (·.oneCell') = true := by
  rw [List.all_eq_true]
  intro x hx
  obtain ⟨p, hp, hx⟩ := List.mem_flatMap.1 hx
  have := h p hp
  simp only [encSec, List.mem_cons, List.not_mem_nil, or_false] at hx
  rcases hx with rfl | rfl | rfl | rfl | rfl | rfl | rfl | rfl | rfl | rfl <;> first | rfl | exact this
theorem oneSeg (L : List SegM) : (L.flatMap encSeg).all (·.oneCell') = true := by
  rw [List.all_eq_true]
  intro x hx
  obtain ⟨p, hp, hx⟩ := List.mem_flatMap.1 hx
  simp only [encSeg, List.mem_cons, List.not_mem_nil, or_false] at hx
  rcases hx with rfl | rfl | rfl | rfl | rfl | rfl | rfl <;> rfl
abbrev elfZ : Array Value := #[.int .i64 0, .int .i64 0, .int .u32 0, .int .u64 0, .slice none 0 0, .slice none 0 0]
theorem run_allocElf {a : Act} {w : World} {d : Option Tmp} {ty : TypeId} {pos : String} {aft : Array Edge} {g : Option (Nat × Bool)} :
    (execOp a.eval ⟨d, .alloc 51, ty, pos, aft, g⟩).run Tryz.prog w = .ok (.value (.pointer (some ⟨w.heap.size, 0, none⟩))) (w.alloc (.cells elfZ 51)) := by
  kernel_rfl
/-- A block of zeros, named. -/
theorem wpList_allocElf {ops : Array Oper} {rest : List Oper} {Q : Exit → Act → World → Prop} {a : Act} {w : World} {d : Option Tmp} {ty : TypeId} {pos : String} {aft : Array Edge}
    (h : ∀ w1, w1.heap[w.heap.size]? = some (.cells elfZ 51 (0, 0)) → Below w.heap.size w w1 → w.heap.size < w1.heap.size → wpList Tryz.prog ops Q rest (a.put d (.pointer (some ⟨w.heap.size, 0, none⟩))) w1) :
    wpList Tryz.prog ops Q (⟨d, .alloc 51, ty, pos, aft, none⟩ :: rest) a w :=
  wpList_val rfl run_allocElf (h (w.alloc (.cells elfZ 51)) (heap_alloc_last w _) (below_alloc w _) (by rw [World.size_alloc]; omega))
/-- A whole struct into a block that was made. -/
theorem wpList_storeElf {ops : Array Oper} {rest : List Oper} {Q : Exit → Act → World → Prop} {a : Act} {w : World} {d : Option Tmp} {ty : TypeId} {pos : String} {aft : Array Edge} {p x : Operand} {c c' : Array Value} {g B : Nat} (hg : w.heap[g]? = some (.cells c 51 (0, 0))) (hp : a.eval p = .pointer (some ⟨g, 0, none⟩)) (hx : a.eval x = .agg c')
    (ho : c.size = c'.size) (hs : c'.size = 6) (h1 : c'.all (·.oneCell') = true) (hB : B ≤ g) (hBw : B ≤ w.heap.size)
    (h : ∀ w1, w1.heap[g]? = some (.cells c' 51 (0, 0)) → Below B w w1 → wpList Tryz.prog ops Q rest (a.put d undef) w1) :
    wpList Tryz.prog ops Q (⟨d, .store 51 p x, ty, pos, aft, none⟩ :: rest) a w :=
  wpList_storeMade hg hp hx (by rw [hs]; kernel_rfl) ho h1 hB hBw h
/-- One cell of a block that was made. -/
theorem wpList_set {P : Program} {ops : Array Oper} {rest : List Oper} {Q : Exit → Act → World → Prop} {a : Act} {w : World} {d : Option Tmp} {ty t tb : TypeId} {pos : String} {aft : Array Edge} {p x : Operand} {c : Array Value} {g j base m cap : Nat} {ad : Option Addr} (hg : w.heap[g]? = some (.cells c tb (0, 0))) (hj : j < c.size) (hp : a.eval p = .pointer (some ⟨g, j, none⟩)) (hx : a.eval x = .slice ad m cap) (hB : base ≤ g) (hBw : base ≤ w.heap.size) (hs : ∀ w, (sizeOf t).run P w = .ok 1 w)
    (h : ∀ w1, w1.heap[g]? = some (.cells (c.setIfInBounds j (.slice ad m cap)) tb (0, 0)) → Below base w w1 → Stirs (fun k => k = g) w w1 → wpList P ops Q rest (a.put d undef) w1) :
    wpList P ops Q (⟨d, .store t p x, ty, pos, aft, none⟩ :: rest) a w := by
  have hc : w.cell? ⟨g, j, none⟩ = some c[j] := (cell_rec hg j).trans (Array.getElem?_eq_getElem hj)
  have hfz := free_rec' hg j
  have hst : Stirs (fun k => k = g) w (w.setCell ⟨g, j, none⟩ (.slice ad m cap)) := stirs_setCell (S := fun k => k = g) _ g j _ rfl
  refine wpList_did (w' := w.setCell ⟨g, j, none⟩ (.slice ad m cap)) rfl ?_ (h _ ?_ ?_ hst)
  · simp only [execOp, hp, hx]
    simp [go_sem, hs, hc, hfz]
  · simp [World.setCell, Array.getElem?_modify, hg]
  · exact hst.below hBw (fun k hk => by rw [hk]; exact hB)
/-- One cell of a row that is owned. -/
theorem wpList_setRow {P : Program} {ops : Array Oper} {rest : List Oper} {Q : Exit → Act → World → Prop} {a : Act} {w : World} {d : Option Tmp} {ty t e : TypeId} {pos : String} {aft : Array Edge} {p x : Operand} {g j base size n cap m cp : Nat} {xs : List Value} {ad : Option Addr} (hown : w.ownsRow base e size (.slice (some ⟨g, 0, none⟩) n cap) n xs) (hj : j < n * size) (hp : a.eval p = .pointer (some ⟨g, j, none⟩)) (hx : a.eval x = .slice ad m cp) (hBw : base ≤ w.heap.size) (hs : ∀ w, (sizeOf t).run P w = .ok 1 w)
    (h : ∀ w1, w1.ownsRow base e size (.slice (some ⟨g, 0, none⟩) n cap) n (xs.set j (.slice ad m cp)) → Below base w w1 → Stirs (fun k => k = g) w w1 → wpList P ops Q rest (a.put d undef) w1) :
    wpList P ops Q (⟨d, .store t p x, ty, pos, aft, none⟩ :: rest) a w := by
  have hc : w.cell? ⟨g, j, none⟩ = some (xs[j]'(by rw [hown.1]; exact hj)) := (hown.cellAt j hj).trans (List.getElem?_eq_getElem _)
  have hfz := hown.frozenAt j
  have hst : Stirs (fun k => k = g) w (w.setCell ⟨g, j, none⟩ (.slice ad m cp)) := stirs_setCell (S := fun k => k = g) _ g j _ rfl
  refine wpList_did (w' := w.setCell ⟨g, j, none⟩ (.slice ad m cp)) rfl ?_ (h _ (hown.stored j _).1 (hst.below hBw (fun k hk => by rw [hk]; exact (hown.lt g rfl).1)) hst)
  simp only [execOp, hp, hx]
  simp [go_sem, hs, hc, hfz]
theorem own_form {w : World} {base e size n : Nat} {v : Value} {xs : List Value} (h : w.ownsRow base e size v n xs) (hn : 0 < n) : ∃ g cap, v = .slice (some ⟨g, 0, none⟩) n cap := by
  rcases h.2 with ⟨_, h0⟩ | ⟨g, cap, _, hv, _⟩
  · omega
  · exact ⟨g, cap, hv⟩
theorem own_kind {w : World} {base e size n : Nat} {v : Value} {xs : List Value} (h : w.ownsRow base e size v n xs) : ∀ g, v.ownBlock = some g → ∃ c fz, w.heap[g]? = some (.cells c e fz) := by
  intro g hg
  rcases h.2 with ⟨rfl, _⟩ | ⟨g', cap, cur, rfl, _, hh, _⟩
  · cases hg
  · cases hg
    exact ⟨cur, _, hh⟩
/-- The store of a whole struct into a block that was made: that block alone turns. -/
theorem wpList_storeElfS {ops : Array Oper} {rest : List Oper} {Q : Exit → Act → World → Prop} {a : Act} {w : World} {d : Option Tmp} {ty : TypeId} {pos : String} {aft : Array Edge} {p x : Operand} {c c' : Array Value} {g : Nat} (hg : w.heap[g]? = some (.cells c 51 (0, 0))) (hp : a.eval p = .pointer (some ⟨g, 0, none⟩)) (hx : a.eval x = .agg c')
    (ho : c.size = c'.size) (hs : c'.size = 6) (h1 : c'.all (·.oneCell') = true)
    (h : ∀ w1, w1.heap[g]? = some (.cells c' 51 (0, 0)) → Stirs (fun k => k = g) w w1 → wpList Tryz.prog ops Q rest (a.put d undef) w1) :
    wpList Tryz.prog ops Q (⟨d, .store 51 p x, ty, pos, aft, none⟩ :: rest) a w := by
  have hr : (execOp a.eval ⟨d, .store 51 p x, ty, pos, aft, none⟩).run Tryz.prog w = .ok .skip (w.setRow g c') := by
    simp only [execOp, hp, hx, Instr.storeAt, Instr.sureAddr, Sem.run_bind, Sem.run_pure, Result.andThen, run_storeVar_row w g 51 51 c c' hg ((show (Tryz.prog.info? 51).map (·.size) = some 6 by kernel_rfl).trans (by rw [hs])) ho h1]
  refine wpList_did rfl hr (h _ ?_ ?_)
  · simp only [World.setRow]
    rw [Array.getElem?_modify, if_pos rfl, hg]
    rfl
  · refine ⟨rfl, rfl, rfl, by simp [World.setRow], fun k _ hk => ?_⟩
    have : g ≠ k := fun e => hk e.symm
    simp only [World.setRow]
    rw [Array.getElem?_modify, if_neg this]
end Go.Proofs.YtimnbnomaajmmaaGreat
namespace Go.Proofs.YtimnbnomaajmmaaGreat
open Go.RowKit Go.Fd
/-- A section's header, as it is read; whether it is there, with its name and its bytes. -/
def secP (l tab : List UInt8) (a : Nat) : SecM := ⟨(atR tab (gN l a 4 : Nat)).1, gN l (a + 4) 4, gN l (a + 8) 8, gN l (a + 16) 8, gN l (a + 48) 8, gN l (a + 32) 8, gN l (a + 40) 4, gN l (a + 44) 4, gN l (a + 56) 8, if gN l (a + 4) 4 = 8 then [] else (l.drop (gN l (a + 24) 8)).take (gN l (a + 32) 8)⟩
def secOk (l tab : List UInt8) (a : Nat) : Bool := decide (a + 64 ≤ l.length) && decide ((atR tab (gN l a 4 : Nat)).2 = 0) && (decide (gN l (a + 4) 4 = 8) || inB l (gN l (a + 24) 8) (gN l (a + 32) 8))
theorem secOk_no {l tab : List UInt8} {a k s : Nat} (hs : Sized s) (hk : k + s ≤ 64) (h : okB l (a + k) s = false) : secOk l tab a = false := by
  rw [okB_iff hs] at h
  unfold secOk
  rw [show decide (a + 64 ≤ l.length) = false by simp only [decide_eq_false_iff_not] at *; omega]
  rfl
theorem secOk_name {l tab : List UInt8} {a : Nat} (h : (atR tab (gN l a 4 : Nat)).2 ≠ 0) : secOk l tab a = false := by
  unfold secOk
  rw [decide_eq_false h]
  simp
theorem secOk_cut {l tab : List UInt8} {a : Nat} (h8 : gN l (a + 4) 4 ≠ 8) (h : inB l (gN l (a + 24) 8) (gN l (a + 32) 8) = false) : secOk l tab a = false := by
  unfold secOk
  rw [h, decide_eq_false h8]
  simp
theorem secOk_yes {l tab : List UInt8} {a : Nat} (h : okB l (a + 56) 8 = true) (hn : (atR tab (gN l a 4 : Nat)).2 = 0) (hd : gN l (a + 4) 4 = 8 ∨ inB l (gN l (a + 24) 8) (gN l (a + 32) 8) = true) : secOk l tab a = true := by
  rw [okB_iff sz8] at h
  unfold secOk
  simp only [decide_eq_true_eq, Bool.and_eq_true, Bool.or_eq_true] at *
  exact ⟨⟨by omega, hn⟩, hd⟩
/-- A section comes with its bytes in memory of their own, or it goes up. -/
def SecRes (l tab : List UInt8) (a base : Nat) (r : Ending) (w : World) : Prop := secOk l tab a = true ∧ (∃ dv, r = .returned (secV (secP l tab a, dv)) ∧ OB w base dv (secP l tab a).data) ∨ secOk l tab a = false ∧ r = .panicked upF
abbrev secZ : Array Value := #[.string ⟨#[]⟩, .int .u32 0, .int .u64 0, .int .u64 0, .int .u64 0, .int .u64 0, .int .u32 0, .int .u32 0, .int .u64 0, .slice none 0 0]
theorem run_allocSec {a : Act} {w : World} {d : Option Tmp} {ty : TypeId} {pos : String} {aft : Array Edge} {g : Option (Nat × Bool)} :
    (execOp a.eval ⟨d, .alloc 60, ty, pos, aft, g⟩).run Tryz.prog w = .ok (.value (.pointer (some ⟨w.heap.size, 0, none⟩))) (w.alloc (.cells secZ 60)) := by
  kernel_rfl
theorem wpList_allocSec {ops : Array Oper} {rest : List Oper} {Q : Exit → Act → World → Prop} {a : Act} {w : World} {d : Option Tmp} {ty : TypeId} {pos : String} {aft : Array Edge}
    (h : ∀ w1, w1.heap[w.heap.size]? = some (.cells secZ 60 (0, 0)) → Below w.heap.size w w1 → w.heap.size < w1.heap.size → wpList Tryz.prog ops Q rest (a.put d (.pointer (some ⟨w.heap.size, 0, none⟩))) w1) :
    wpList Tryz.prog ops Q (⟨d, .alloc 60, ty, pos, aft, none⟩ :: rest) a w :=
  wpList_val rfl run_allocSec (h (w.alloc (.cells secZ 60)) (heap_alloc_last w _) (below_alloc w _) (by rw [World.size_alloc]; omega))
/-- One cell of a block that was made. -/
theorem wpList_setS {P : Program} {ops : Array Oper} {rest : List Oper} {Q : Exit → Act → World → Prop} {a : Act} {w : World} {d : Option Tmp} {ty t tb : TypeId} {pos : String} {aft : Array Edge} {p x : Operand} {c : Array Value} {g j base : Nat} {s : ByteArray} (hg : w.heap[g]? = some (.cells c tb (0, 0))) (hj : j < c.size) (hp : a.eval p = .pointer (some ⟨g, j, none⟩)) (hx : a.eval x = .string s) (hB : base ≤ g) (hBw : base ≤ w.heap.size) (hs : ∀ w, (sizeOf t).run P w = .ok 1 w)
    (h : ∀ w1, w1.heap[g]? = some (.cells (c.setIfInBounds j (.string s)) tb (0, 0)) → Below base w w1 → Stirs (fun k => k = g) w w1 → wpList P ops Q rest (a.put d undef) w1) :
    wpList P ops Q (⟨d, .store t p x, ty, pos, aft, none⟩ :: rest) a w := by
  have hc : w.cell? ⟨g, j, none⟩ = some c[j] := (cell_rec hg j).trans (Array.getElem?_eq_getElem hj)
  have hfz := free_rec' hg j
  have hst : Stirs (fun k => k = g) w (w.setCell ⟨g, j, none⟩ (.string s)) := stirs_setCell (S := fun k => k = g) _ g j _ rfl
  refine wpList_did (w' := w.setCell ⟨g, j, none⟩ (.string s)) rfl ?_ (h _ ?_ ?_ hst)
  · simp only [execOp, hp, hx]
    simp [go_sem, hs, hc, hfz]
  · simp [World.setCell, Array.getElem?_modify, hg]
  · exact hst.below hBw (fun k hk => by rw [hk]; exact hB)
/-- A whole struct into a block that was made; what else stays. -/
theorem wpList_storeRowS {P : Program} {ops : Array Oper} {rest : List Oper} {Q : Exit → Act → World → Prop} {a : Act} {w : World} {d : Option Tmp} {ty t : TypeId} {pos : String} {aft : Array Edge} {p x : Operand} {c c' : Array Value} {g : Nat} (hg : w.heap[g]? = some (.cells c t (0, 0))) (hp : a.eval p = .pointer (some ⟨g, 0, none⟩)) (hx : a.eval x = .agg c')
    (ho : c.size = c'.size) (hs : (P.info? t).map (·.size) = some c'.size) (h1 : c'.all (·.oneCell') = true)
    (h : ∀ w1, w1.heap[g]? = some (.cells c' t (0, 0)) → Stirs (fun k => k = g) w w1 → wpList P ops Q rest (a.put d undef) w1) :
    wpList P ops Q (⟨d, .store t p x, ty, pos, aft, none⟩ :: rest) a w := by
  have hr : (execOp a.eval ⟨d, .store t p x, ty, pos, aft, none⟩).run P w = .ok .skip (w.setRow g c') := by
    simp only [execOp, hp, hx, Instr.storeAt, Instr.sureAddr, Sem.run_bind, Sem.run_pure, Result.andThen, run_storeVar_row w g t t c c' hg hs ho h1]
  refine wpList_did rfl hr (h _ ?_ ?_)
  · simp only [World.setRow]
    rw [Array.getElem?_modify, if_pos rfl, hg]
    rfl
  · refine ⟨rfl, rfl, rfl, by simp [World.setRow], fun k _ hk => ?_⟩
    have : g ≠ k := fun e => hk e.symm
    simp only [World.setRow]
    rw [Array.getElem?_modify, if_neg this]
set_option maxRecDepth 100000 in
theorem sec1_any (l : List UInt8) (b1 b2 a i : Nat) (v : Value) (w : World) (hl : l.length ≤ 1000000000) (hv : Bs w v l) (h1 : w.heap[b1]? = some (.cells #[v] 72 (0, 0))) (h2 : w.heap[b2]? = some (.cells #[.int .i64 a] 3 (0, 0))) (ha : a ≤ 1000000000) (hi : i ≤ 100) :
    Calls Tryz.prog 94 #[.int .i64 i, .pointer (some ⟨b1, 0, none⟩), .pointer (some ⟨b2, 0, none⟩)] w fun r w' => w = w' ∧ ResU (okB l (a + i) 8) (.int .u64 (gN l (a + i) 8 : Nat)) r := by
  have HU := Lib.hid (ruN l (a + i) 8 v w hl hv)
  obtain ⟨m, ad, cap, -, rfl, _, _⟩ := hv.shape
  have c1 := cell_rec h1 0
  have c2 := cell_rec h2 0
  simp only [List.getElem?_toArray, List.getElem?_cons_zero] at c1 c2
  generalize okB l (a + i) 8 = ob at *
  generalize gN l (a + i) 8 = n at *
  clear h1 h2 hv
  go_enter Tryz.func94, Tryz.ntmps94
  go_wp2_with (go_at_call 29; refine HU.out.mono ?_; rintro e w1 ⟨rfl, ⟨rfl, rfl⟩ | ⟨rfl, rfl⟩⟩)
  · go_ret
    exact ⟨rfl, ResU.yes _⟩
  · exact ⟨rfl, rfl, ResU.no _⟩
/-- Bytes cut out, in a region. -/
abbrev YC (l : List UInt8) (a s : Nat) : Yld := Yld.any (fun v w => inB l a s = true ∧ Bs w v ((l.drop a).take s)) (fun _ _ _ h hb => ⟨h.1, h.2.mono hb⟩)
abbrev YO (base : Nat) (d : List UInt8) : Yld := Yld.any (fun v w => OB w base v d) (fun _ _ _ h hb => h.mono hb)
theorem YA_got {rel : Value → World → Prop} {st} {v : Value} {w : World} (h : (Yld.any rel st).R v w) : rel v w := by
  obtain ⟨x, e, hr⟩ := h
  subst e
  exact hr
theorem YA_mk {rel : Value → World → Prop} {st} {v : Value} {w : World} (h : rel v w) : (Yld.any rel st).R v w := ⟨v, rfl, h⟩
attribute [local irreducible] gN okB inB atR
set_option maxHeartbeats 4000000 in
set_option maxRecDepth 100000 in
theorem sec_any (l tab : List UInt8) (a : Nat) (v tv : Value) (w : World) (hl : l.length ≤ 1000000000) (hv : Bs w v l) (ht : tab.length ≤ 1000000000) (htv : Bs w tv tab) (ha : a ≤ 100000000) :
    Calls Tryz.prog 62 #[v, .int .i64 a, tv] w fun r w' => SecRes l tab a w.heap.size r w' ∧ Below w.heap.size w w' := by
  have HV := Lib.hid hv
  have HTV := Lib.hid htv
  obtain ⟨m, ad, cap, -, rfl, _, _⟩ := hv.shape
  obtain ⟨tm, tad, tcap, -, rfl, _, _⟩ := htv.shape
  have HNO := Lib.hid (fun (k s : Nat) (hs : Sized (s : Int)) (hk : k + s ≤ 64) => secOk_no (l := l) (tab := tab) (a := a) hs hk)
  have HNM := Lib.hid (secOk_name (l := l) (tab := tab) (a := a))
  have HCT := Lib.hid (secOk_cut (l := l) (tab := tab) (a := a))
  have HYES := Lib.hid (secOk_yes (l := l) (tab := tab) (a := a))
  have hb0 := gN4 l a
  have hb1 := gN4 l (a + 4)
  have hb2 := gN4 l (a + 40)
  have hb3 := gN4 l (a + 44)
  have HB24 := Lib.hid (gN8 l (a + 24))
  have HB32 := Lib.hid (gN8 l (a + 32))
  have HAT : Hid (∀ wx, Below w.heap.size w wx → Calls Tryz.prog 64 #[.slice tad tm tcap, .int .i64 (gN l a 4 : Nat)] wx fun e w' => e = .returned (.tuple #[S (atR tab (gN l a 4 : Nat)).1, .int .i64 (atR tab (gN l a 4 : Nat)).2]) ∧ wx = w') := Lib.hid (fun wx hwx => strsAt_any tab (gN l a 4 : Nat) _ wx ht (HTV.out.mono hwx))
  have HSEC : Hid (secP l tab a = ⟨(atR tab (gN l a 4 : Nat)).1, gN l (a + 4) 4, gN l (a + 8) 8, gN l (a + 16) 8, gN l (a + 48) 8, gN l (a + 32) 8, gN l (a + 40) 4, gN l (a + 44) 4, gN l (a + 56) 8, if gN l (a + 4) 4 = 8 then [] else (l.drop (gN l (a + 24) 8)).take (gN l (a + 32) 8)⟩) := rfl
  generalize hq : atR tab (gN l a 4 : Nat) = q at *
  obtain ⟨nm, code⟩ := q
  clear hv htv hq
  go_enter Tryz.func62, Tryz.ntmps62
  go_wp2_with (first
    | ((with_reducible show wpList _ _ _ (⟨some 3, .box _ _, _, _, _, _⟩ :: _) _ _); go_must (refine wpList_boxS rfl ?_; intro w1 hx1 hb1 hs1; have HX1 := Lib.hid hx1; have HB1 := Lib.hid hb1; clear hx1 hb1))
    | ((with_reducible show wpList _ _ _ (⟨some 4, .box _ _, _, _, _, _⟩ :: _) _ _); go_must (refine wpList_boxI rfl ?_; intro w2 hx2 hb2 hs2; have HX2 := Lib.hid hx2; have HX12 := Lib.hid (heap_below hb2 HX1.out); have HB2 := Lib.hid (HB1.out.trans (hb2.mono HB1.out.size)); clear hx2 hb2))
    | ((with_reducible show wpList _ _ _ (⟨some 6, .alloc _, _, _, _, _⟩ :: _) _ _); go_must (refine wpList_allocSec ?_; intro w3 hx3 hb3 hs3; have HX3 := Lib.hid hx3; have HX13 := Lib.hid (heap_below hb3 HX12.out); have HX23 := Lib.hid (heap_below hb3 HX2.out); have HB3 := Lib.hid (HB2.out.trans (hb3.mono HB2.out.size)); clear hx3 hb3)))
  have c1 := cell_rec HX13.out 0
  have c2 := cell_rec HX23.out 0
  simp only [List.getElem?_toArray, List.getElem?_cons_zero] at c1 c2
  have hAB := fun (x : Above w3) (b k : Nat) (h : b < w3.heap.size) => Above.cell x b k h
  have l1 := block_lt c1
  have l2 := block_lt c2
  have HU4 : Hid (∀ wx (_ : Below w3.heap.size w3 wx), Calls Tryz.prog 29 #[.slice ad m cap, .int .i64 ((a : Int) + 4), .int .i64 4] wx fun r w' => wx = w' ∧ ResU (okB l (a + 4) 4) (.int .u64 (gN l (a + 4) 4 : Nat)) r) := Lib.hid (fun wx hwx => ruN l (a + 4) 4 _ wx hl (HV.out.mono (HB3.out.trans (hwx.mono HB3.out.size))))
  have HU40 : Hid (∀ wx (_ : Below w3.heap.size w3 wx), Calls Tryz.prog 29 #[.slice ad m cap, .int .i64 ((a : Int) + 40), .int .i64 4] wx fun r w' => wx = w' ∧ ResU (okB l (a + 40) 4) (.int .u64 (gN l (a + 40) 4 : Nat)) r) := Lib.hid (fun wx hwx => ruN l (a + 40) 4 _ wx hl (HV.out.mono (HB3.out.trans (hwx.mono HB3.out.size))))
  have HU44 : Hid (∀ wx (_ : Below w3.heap.size w3 wx), Calls Tryz.prog 29 #[.slice ad m cap, .int .i64 ((a : Int) + 44), .int .i64 4] wx fun r w' => wx = w' ∧ ResU (okB l (a + 44) 4) (.int .u64 (gN l (a + 44) 4 : Nat)) r) := Lib.hid (fun wx hwx => ruN l (a + 44) 4 _ wx hl (HV.out.mono (HB3.out.trans (hwx.mono HB3.out.size))))
  have HU0 : Hid (∀ wx (_ : Below w3.heap.size w3 wx), Calls Tryz.prog 29 #[.slice ad m cap, .int .i64 a, .int .i64 4] wx fun r w' => wx = w' ∧ ResU (okB l a 4) (.int .u64 (gN l a 4 : Nat)) r) := Lib.hid (fun wx hwx => ruN l a 4 _ wx hl (HV.out.mono (HB3.out.trans (hwx.mono HB3.out.size))))
  have HU8 : Hid (∀ wx (_ : Below w3.heap.size w3 wx), Calls Tryz.prog 94 #[.int .i64 8, .pointer (some ⟨w.heap.size, 0, none⟩), .pointer (some ⟨w1.heap.size, 0, none⟩)] wx fun r w' => wx = w' ∧ ResU (okB l (a + 8) 8) (.int .u64 (gN l (a + 8) 8 : Nat)) r) := Lib.hid (fun wx hwx => sec1_any l w.heap.size w1.heap.size a 8 _ wx hl (HV.out.mono (HB3.out.trans (hwx.mono HB3.out.size))) (heap_below hwx HX13.out) (heap_below hwx HX23.out) (by omega) (by omega))
  have HU16 : Hid (∀ wx (_ : Below w3.heap.size w3 wx), Calls Tryz.prog 94 #[.int .i64 16, .pointer (some ⟨w.heap.size, 0, none⟩), .pointer (some ⟨w1.heap.size, 0, none⟩)] wx fun r w' => wx = w' ∧ ResU (okB l (a + 16) 8) (.int .u64 (gN l (a + 16) 8 : Nat)) r) := Lib.hid (fun wx hwx => sec1_any l w.heap.size w1.heap.size a 16 _ wx hl (HV.out.mono (HB3.out.trans (hwx.mono HB3.out.size))) (heap_below hwx HX13.out) (heap_below hwx HX23.out) (by omega) (by omega))
  have HU32 : Hid (∀ wx (_ : Below w3.heap.size w3 wx), Calls Tryz.prog 94 #[.int .i64 32, .pointer (some ⟨w.heap.size, 0, none⟩), .pointer (some ⟨w1.heap.size, 0, none⟩)] wx fun r w' => wx = w' ∧ ResU (okB l (a + 32) 8) (.int .u64 (gN l (a + 32) 8 : Nat)) r) := Lib.hid (fun wx hwx => sec1_any l w.heap.size w1.heap.size a 32 _ wx hl (HV.out.mono (HB3.out.trans (hwx.mono HB3.out.size))) (heap_below hwx HX13.out) (heap_below hwx HX23.out) (by omega) (by omega))
  have HU48 : Hid (∀ wx (_ : Below w3.heap.size w3 wx), Calls Tryz.prog 94 #[.int .i64 48, .pointer (some ⟨w.heap.size, 0, none⟩), .pointer (some ⟨w1.heap.size, 0, none⟩)] wx fun r w' => wx = w' ∧ ResU (okB l (a + 48) 8) (.int .u64 (gN l (a + 48) 8 : Nat)) r) := Lib.hid (fun wx hwx => sec1_any l w.heap.size w1.heap.size a 48 _ wx hl (HV.out.mono (HB3.out.trans (hwx.mono HB3.out.size))) (heap_below hwx HX13.out) (heap_below hwx HX23.out) (by omega) (by omega))
  have HU56 : Hid (∀ wx (_ : Below w3.heap.size w3 wx), Calls Tryz.prog 94 #[.int .i64 56, .pointer (some ⟨w.heap.size, 0, none⟩), .pointer (some ⟨w1.heap.size, 0, none⟩)] wx fun r w' => wx = w' ∧ ResU (okB l (a + 56) 8) (.int .u64 (gN l (a + 56) 8 : Nat)) r) := Lib.hid (fun wx hwx => sec1_any l w.heap.size w1.heap.size a 56 _ wx hl (HV.out.mono (HB3.out.trans (hwx.mono HB3.out.size))) (heap_below hwx HX13.out) (heap_below hwx HX23.out) (by omega) (by omega))
  have HU24 : Hid (∀ wx (_ : Below w3.heap.size w3 wx), Calls Tryz.prog 94 #[.int .i64 24, .pointer (some ⟨w.heap.size, 0, none⟩), .pointer (some ⟨w1.heap.size, 0, none⟩)] wx fun r w' => wx = w' ∧ ResU (okB l (a + 24) 8) (.int .u64 (gN l (a + 24) 8 : Nat)) r) := Lib.hid (fun wx hwx => sec1_any l w.heap.size w1.heap.size a 24 _ wx hl (HV.out.mono (HB3.out.trans (hwx.mono HB3.out.size))) (heap_below hwx HX13.out) (heap_below hwx HX23.out) (by omega) (by omega))
  have HN0 : Hid (okB l a 4 = false → secOk l tab a = false) := Lib.hid (HNO.out 0 4 sz4 (by omega))
  have HN4 : Hid (okB l (a + 4) 4 = false → secOk l tab a = false) := Lib.hid (HNO.out 4 4 sz4 (by omega))
  have HN8 : Hid (okB l (a + 8) 8 = false → secOk l tab a = false) := Lib.hid (HNO.out 8 8 sz8 (by omega))
  have HN16 : Hid (okB l (a + 16) 8 = false → secOk l tab a = false) := Lib.hid (HNO.out 16 8 sz8 (by omega))
  have HN32 : Hid (okB l (a + 32) 8 = false → secOk l tab a = false) := Lib.hid (HNO.out 32 8 sz8 (by omega))
  have HN40 : Hid (okB l (a + 40) 4 = false → secOk l tab a = false) := Lib.hid (HNO.out 40 4 sz4 (by omega))
  have HN44 : Hid (okB l (a + 44) 4 = false → secOk l tab a = false) := Lib.hid (HNO.out 44 4 sz4 (by omega))
  have HN48 : Hid (okB l (a + 48) 8 = false → secOk l tab a = false) := Lib.hid (HNO.out 48 8 sz8 (by omega))
  have HN56 : Hid (okB l (a + 56) 8 = false → secOk l tab a = false) := Lib.hid (HNO.out 56 8 sz8 (by omega))
  have HN24 : Hid (okB l (a + 24) 8 = false → secOk l tab a = false) := Lib.hid (HNO.out 24 8 sz8 (by omega))
  clear HNO
  refine wp_region_walkU (Up := fun x => x = .panic upF ∧ secOk l tab a = false) 27 [(3, YN l (a + 4) 4), (6, YN l (a + 8) 8), (8, YN l (a + 16) 8), (10, YN l (a + 32) 8), (14, YN l (a + 40) 4), (19, YN l (a + 44) 4), (22, YN l (a + 48) 8), (24, YN l (a + 56) 8), (26, Yld.new w3.heap.size 60 10)] (by kernel_rfl) (by kernel_rfl) ?_ ?_
  · rintro x a' w' ⟨⟨rfl, hso⟩, hd, hb⟩
    exact ⟨hd, .inr ⟨hso, rfl⟩, HB3.out.trans (hb.mono HB3.out.size)⟩
  simp only [List.take_succ_cons, List.take_zero, List.drop_succ_cons, List.drop_zero]
  repeat (refine walk_quiet rfl rfl rfl ?_; intro K hK; go_big_quiet_op; go_big_quiet_on)
  refine walk_ok (c := .int .u64 (gN l (a + 4) 4 : Nat)) (p := okB l (a + 4) 4 = true) rfl rfl (fun wx hwx _ => WpYld.callOk (run_callL (vals := [_, _, _]) Tryz.func29 (by kernel_rfl) rfl rfl) HN4.out (HU4.out wx hwx)) ?_
  go_frame
  repeat (refine walk_quiet rfl rfl rfl ?_; intro K hK; go_big_quiet_op; go_big_quiet_on)
  refine walk_ok (c := .int .u64 (gN l (a + 8) 8 : Nat)) (p := okB l (a + 8) 8 = true) rfl rfl (fun wx hwx _ => WpYld.callOk (run_callF (vals := [_]) Tryz.func94 (by kernel_rfl) rfl rfl rfl) HN8.out (HU8.out wx (hwx))) ?_
  go_frame
  repeat (refine walk_quiet rfl rfl rfl ?_; intro K hK; go_big_quiet_op; go_big_quiet_on)
  refine walk_ok (c := .int .u64 (gN l (a + 16) 8 : Nat)) (p := okB l (a + 16) 8 = true) rfl rfl (fun wx hwx _ => WpYld.callOk (run_callF (vals := [_]) Tryz.func94 (by kernel_rfl) rfl rfl rfl) HN16.out (HU16.out wx (hwx))) ?_
  go_frame
  repeat (refine walk_quiet rfl rfl rfl ?_; intro K hK; go_big_quiet_op; go_big_quiet_on)
  refine walk_ok (c := .int .u64 (gN l (a + 32) 8 : Nat)) (p := okB l (a + 32) 8 = true) rfl rfl (fun wx hwx _ => WpYld.callOk (run_callF (vals := [_]) Tryz.func94 (by kernel_rfl) rfl rfl rfl) HN32.out (HU32.out wx (hwx))) ?_
  go_frame
  repeat (refine walk_quiet rfl rfl rfl ?_; intro K hK; go_big_quiet_op; go_big_quiet_on)
  refine walk_ok (c := .int .u64 (gN l (a + 40) 4 : Nat)) (p := okB l (a + 40) 4 = true) rfl rfl (fun wx hwx _ => WpYld.callOk (run_callL (vals := [_, _, _]) Tryz.func29 (by kernel_rfl) rfl rfl) HN40.out (HU40.out wx hwx)) ?_
  go_frame
  repeat (refine walk_quiet rfl rfl rfl ?_; intro K hK; go_big_quiet_op; go_big_quiet_on)
  refine walk_ok (c := .int .u64 (gN l (a + 44) 4 : Nat)) (p := okB l (a + 44) 4 = true) rfl rfl (fun wx hwx _ => WpYld.callOk (run_callL (vals := [_, _, _]) Tryz.func29 (by kernel_rfl) rfl rfl) HN44.out (HU44.out wx hwx)) ?_
  go_frame
  repeat (refine walk_quiet rfl rfl rfl ?_; intro K hK; go_big_quiet_op; go_big_quiet_on)
  refine walk_ok (c := .int .u64 (gN l (a + 48) 8 : Nat)) (p := okB l (a + 48) 8 = true) rfl rfl (fun wx hwx _ => WpYld.callOk (run_callF (vals := [_]) Tryz.func94 (by kernel_rfl) rfl rfl rfl) HN48.out (HU48.out wx (hwx))) ?_
  go_frame
  repeat (refine walk_quiet rfl rfl rfl ?_; intro K hK; go_big_quiet_op; go_big_quiet_on)
  refine walk_ok (c := .int .u64 (gN l (a + 56) 8 : Nat)) (p := okB l (a + 56) 8 = true) rfl rfl (fun wx hwx _ => WpYld.callOk (run_callF (vals := [_]) Tryz.func94 (by kernel_rfl) rfl rfl rfl) HN56.out (HU56.out wx (hwx))) ?_
  go_frame
  repeat (refine walk_quiet rfl rfl rfl ?_; intro K hK; go_big_quiet_op; go_big_quiet_on)
  refine walk_new rfl rfl (fun wx hwx _ => WpYld.val run_allocSec (Yld.new_mk _ hwx).1 (Yld.new_mk _ hwx).2) (fun gb => ?_)
  go_frame
  refine walk_nil ?_
  intro wz hbz hF
  have H56 : Hid (okB l (a + 56) 8 = true) := Lib.hid (Yld.ok_got (hF 24 _ 36 _ rfl rfl rfl rfl))
  obtain ⟨hgb, cs, hcs, hcn⟩ := Yld.new_got (hF 26 _ 8 _ rfl rfl rfl rfl)
  clear hF hAB c1 c2 HN4 HN8 HN16 HN32 HN40 HN44 HN48 HN56 HU4 HU8 HU16 HU32 HU40 HU44 HU48 HU56
  refine wpList_storeMade hcs rfl rfl (by kernel_rfl) (by rw [hcn]; rfl) (by simp [Value.oneCell']) hgb hbz.size ?_
  clear hcs hcn
  intro w4 hh4 hb4
  have HH4 := Lib.hid hh4
  have h03 : w.heap.size < w3.heap.size := by omega
  have HX14 := Lib.hid (heap_base hb4 (heap_below hbz HX13.out) (by omega))
  have HX24 := Lib.hid (heap_base hb4 (heap_below hbz HX23.out) (by omega))
  have HX34 := Lib.hid (heap_base hb4 (heap_below hbz HX3.out) (by omega))
  have HB34 := Lib.hid (hbz.trans hb4)
  have HB4 := Lib.hid (HB3.out.trans (HB34.out.mono (Nat.le_of_lt h03)))
  have h34 : w3.heap.size ≤ w4.heap.size := HB34.out.size
  clear hh4 hb4 hbz HX12 HX13 HX23 HX1 HX2 HX3
  have c1 := cell_rec HX14.out 0
  have c2 := cell_rec HX24.out 0
  simp only [List.getElem?_toArray, List.getElem?_cons_zero] at c1 c2
  by_cases hcode : code = 0
  · subst hcode
    by_cases h8 : gN l (a + 4) 4 = 8
    · have HOK : Hid (okB l a 4 = true → secOk l tab a = true) := Lib.hid (fun _ => HYES.out H56.out rfl (.inl h8))
      have HFIN : Hid (secP l tab a = ⟨nm, gN l (a + 4) 4, gN l (a + 8) 8, gN l (a + 16) 8, gN l (a + 48) 8, gN l (a + 32) 8, gN l (a + 40) 4, gN l (a + 44) 4, gN l (a + 56) 8, []⟩) := Lib.hid (by rw [HSEC.out, if_pos h8])
      have H8 := Lib.hid h8
      have k8 : ((gN l (a + 4) 4 : Nat) : Int) = 8 := by omega
      have k8b : (((gN l (a + 4) 4 : Nat) : Int) == 8) = true := by rw [k8]; rfl
      have k8c : (((gN l (a + 4) 4 : Nat) : Int) != 8) = false := by rw [k8]; rfl
      clear h8 k8 HSEC HYES HCT HNM
      go_wp2_with (first
        | (go_at_call 29; refine (HU0.out _ HB34.out).mono ?_; rintro e wu ⟨rfl, ⟨hx0, rfl⟩ | ⟨hx0, rfl⟩⟩)
        | (go_at_call 64; refine (HAT.out _ HB4.out).mono ?_; rintro e wu ⟨rfl, rfl⟩)
        | (go_at_call 31; refine (must_ok _).mono ?_; rintro e wu ⟨rfl, rfl⟩)
        | ((with_reducible show wpList _ _ _ (⟨none, .store _ (.tmp 51) _, _, _, _, _⟩ :: _) _ _); go_must (refine wpList_setS HH4.out (show 0 < 10 by decide) rfl rfl hgb h34 (fun w => by kernel_rfl) ?_; intro w5 hh5 hb5 hs5; have HH5 := Lib.hid (show w5.heap[gb]? = some (.cells #[.string ⟨nm.toArray⟩, .int .u32 (gN l (a + 4) 4 : Nat), .int .u64 (gN l (a + 8) 8 : Nat), .int .u64 (gN l (a + 16) 8 : Nat), .int .u64 (gN l (a + 48) 8 : Nat), .int .u64 (gN l (a + 32) 8 : Nat), .int .u32 (gN l (a + 40) 4 : Nat), .int .u32 (gN l (a + 44) 4 : Nat), .int .u64 (gN l (a + 56) 8 : Nat), .slice none 0 0] 60 (0, 0)) from hh5); obtain ⟨z0, z1, z2, z3, z4, z5, z6, z7, z8, z9⟩ := sec_box (x := (⟨nm, gN l (a + 4) 4, gN l (a + 8) 8, gN l (a + 16) 8, gN l (a + 48) 8, gN l (a + 32) 8, gN l (a + 40) 4, gN l (a + 44) 4, gN l (a + 56) 8, []⟩, .slice none 0 0)) HH5.out; have HX35 := Lib.hid (heap_base hb5 HX34.out (by omega)); have HB5 := Lib.hid (HB4.out.trans (hb5.mono (Nat.le_of_lt h03))); clear hh5 hb5 hs5))
        | ((with_reducible show wpList _ _ _ (⟨none, .store _ (.tmp 6) _, _, _, _, _⟩ :: _) _ _); go_must (refine wpList_storeMade HX35.out rfl rfl (by kernel_rfl) rfl (by simp [Value.oneCell']) (Nat.le_trans HB1.out.size (Nat.le_of_lt hs2)) HB5.out.size ?_; intro w6 hh6 hb6; have HH6 := Lib.hid hh6; have HB6 := Lib.hid (HB5.out.trans hb6); clear hh6 hb6)))
      · refine bodyPost_ret (results_cell_row rfl _ _ w2.heap.size _ _ _ _ rfl HH6.out rfl rfl (by kernel_rfl)) rfl ⟨.inl ⟨HOK.out hx0, .slice none 0 0, ?_, ?_⟩, HB6.out⟩
        · rw [HFIN.out]
        · rw [HFIN.out]
          exact OB.nil _ _
      · exact ⟨rfl, .inr ⟨HN0.out hx0, rfl⟩, HB4.out⟩
    · have HOK : Hid (inB l (gN l (a + 24) 8) (gN l (a + 32) 8) = true → secOk l tab a = true) := Lib.hid (fun h => HYES.out H56.out rfl (.inr h))
      have HCUT : Hid (inB l (gN l (a + 24) 8) (gN l (a + 32) 8) = false → secOk l tab a = false) := Lib.hid (HCT.out h8)
      have HFIN : Hid (secP l tab a = ⟨nm, gN l (a + 4) 4, gN l (a + 8) 8, gN l (a + 16) 8, gN l (a + 48) 8, gN l (a + 32) 8, gN l (a + 40) 4, gN l (a + 44) 4, gN l (a + 56) 8, (l.drop (gN l (a + 24) 8)).take (gN l (a + 32) 8)⟩) := Lib.hid (by rw [HSEC.out, if_neg h8])
      have H8 := Lib.hid h8
      have k8b : (((gN l (a + 4) 4 : Nat) : Int) == 8) = false := by rw [beq_eq_false_iff_ne]; omega
      have k8c : (((gN l (a + 4) 4 : Nat) : Int) != 8) = true := by rw [bne_iff_ne]; omega
      clear h8 HSEC HYES HCT HNM
      go_wp2_with (first
        | (go_at_call 29; refine (HU0.out _ HB34.out).mono ?_; rintro e wu ⟨rfl, ⟨hx0, rfl⟩ | ⟨hx0, rfl⟩⟩)
        | (go_at_call 64; refine (HAT.out _ HB4.out).mono ?_; rintro e wu ⟨rfl, rfl⟩)
        | (go_at_call 31; refine (must_ok _).mono ?_; rintro e wu ⟨rfl, rfl⟩)
        | ((with_reducible show wpList _ _ _ (⟨none, .store _ (.tmp 51) _, _, _, _, _⟩ :: _) _ _); go_must (refine wpList_setS HH4.out (show 0 < 10 by decide) rfl rfl hgb h34 (fun w => by kernel_rfl) ?_; intro w5 hh5 hb5 hs5; have HH5 := Lib.hid (show w5.heap[gb]? = some (.cells #[.string ⟨nm.toArray⟩, .int .u32 (gN l (a + 4) 4 : Nat), .int .u64 (gN l (a + 8) 8 : Nat), .int .u64 (gN l (a + 16) 8 : Nat), .int .u64 (gN l (a + 48) 8 : Nat), .int .u64 (gN l (a + 32) 8 : Nat), .int .u32 (gN l (a + 40) 4 : Nat), .int .u32 (gN l (a + 44) 4 : Nat), .int .u64 (gN l (a + 56) 8 : Nat), .slice none 0 0] 60 (0, 0)) from hh5); obtain ⟨z0, z1, z2, z3, z4, z5, z6, z7, z8, z9⟩ := sec_box (x := (⟨nm, gN l (a + 4) 4, gN l (a + 8) 8, gN l (a + 16) 8, gN l (a + 48) 8, gN l (a + 32) 8, gN l (a + 40) 4, gN l (a + 44) 4, gN l (a + 56) 8, []⟩, .slice none 0 0)) HH5.out; have HX15 := Lib.hid (heap_base hb5 HX14.out (by omega)); have HX25 := Lib.hid (heap_base hb5 HX24.out (by omega)); have HX35 := Lib.hid (heap_base hb5 HX34.out (by omega)); have HB35 := Lib.hid (HB34.out.trans hb5); have HB5 := Lib.hid (HB4.out.trans (hb5.mono (Nat.le_of_lt h03))); clear hh5 hb5 hs5)))
      · clear z0 z1 z2 z3 z4 z6 z7 z8 z9
        have d1 := cell_rec HX15.out 0
        have d2 := cell_rec HX25.out 0
        simp only [List.getElem?_toArray, List.getElem?_cons_zero] at d1 d2
        have hAB := fun (x : Above w5) (b k : Nat) (h : b < w5.heap.size) => Above.cell x b k h
        have l3 := block_lt d1
        have l4 := block_lt d2
        have l5 := block_lt z5
        have HU245 : Hid (∀ wx (_ : Below w5.heap.size w5 wx), Calls Tryz.prog 94 #[.int .i64 24, .pointer (some ⟨w.heap.size, 0, none⟩), .pointer (some ⟨w1.heap.size, 0, none⟩)] wx fun r w' => wx = w' ∧ ResU (okB l (a + 24) 8) (.int .u64 (gN l (a + 24) 8 : Nat)) r) := Lib.hid (fun wx hwx => sec1_any l w.heap.size w1.heap.size a 24 _ wx hl (HV.out.mono (HB5.out.trans (hwx.mono HB5.out.size))) (heap_below hwx HX15.out) (heap_below hwx HX25.out) (by omega) (by omega))
        have HCC : Hid (∀ wx (_ : Below w5.heap.size w5 wx), Calls Tryz.prog 61 #[.slice ad m cap, .int .u64 (gN l (a + 24) 8 : Nat), .int .u64 (gN l (a + 32) 8 : Nat)] wx fun r w' => (∃ v, r = .returned v ∧ (YC l (gN l (a + 24) 8) (gN l (a + 32) 8)).R v w' ∧ Below wx.heap.size wx w') ∨ (∃ c, r = .panicked c ∧ (Exit.panic c = .panic upF ∧ secOk l tab a = false) ∧ Below wx.heap.size wx w')) := Lib.hid (fun wx hwx => (cut_any l _ _ _ wx hl (HV.out.mono (HB5.out.trans (hwx.mono HB5.out.size))) HB24.out HB32.out).mono fun r w' ⟨hw, h⟩ => by
          subst hw
          rcases h with ⟨h1, v', h2, h3⟩ | ⟨h1, h2⟩
          · exact .inl ⟨v', h2, YA_mk ⟨h1, h3 _ (HV.out.mono (HB5.out.trans (hwx.mono HB5.out.size)))⟩, Below.refl _ _⟩
          · exact .inr ⟨_, h2, ⟨rfl, HCUT.out h1⟩, Below.refl _ _⟩)
        have HDL : Hid (((l.drop (gN l (a + 24) 8)).take (gN l (a + 32) 8)).length ≤ 1000000000) := Lib.hid (by rw [List.length_take, List.length_drop]; omega)
        refine wp_region_walkU (Up := fun x => x = .panic upF ∧ secOk l tab a = false) 8 [(2, YN l (a + 24) 8), (5, YC l (gN l (a + 24) 8) (gN l (a + 32) 8)), (6, YO w5.heap.size ((l.drop (gN l (a + 24) 8)).take (gN l (a + 32) 8)))] (by kernel_rfl) (by kernel_rfl) ?_ ?_
        · rintro x a' w' ⟨⟨rfl, hso⟩, hd, hb⟩
          exact ⟨hd, .inr ⟨hso, rfl⟩, HB5.out.trans (hb.mono HB5.out.size)⟩
        simp only [List.take_succ_cons, List.take_zero, List.drop_succ_cons, List.drop_zero]
        repeat (refine walk_quiet rfl rfl rfl ?_; intro K hK; go_big_quiet_op; go_big_quiet_on)
        refine walk_ok (c := .int .u64 (gN l (a + 24) 8 : Nat)) (p := okB l (a + 24) 8 = true) rfl rfl (fun wx hwx _ => WpYld.callOk (run_callF (vals := [_]) Tryz.func94 (by kernel_rfl) rfl rfl rfl) HN24.out (HU245.out wx hwx)) ?_
        go_frame
        repeat (refine walk_quiet rfl rfl rfl ?_; intro K hK; go_big_quiet_op; go_big_quiet_on)
        refine walk_any rfl rfl (fun wx hwx _ => WpYld.callUp (run_callL (vals := [_, _, _]) Tryz.func61 (by kernel_rfl) rfl rfl) (HCC.out wx hwx)) (fun vc => ?_)
        go_frame
        refine walk_any rfl rfl (fun wx hwx hd => WpYld.call (run_callL (vals := [vc]) Tryz.func95 (by kernel_rfl) rfl rfl) ((clone_any ((l.drop (gN l (a + 24) 8)).take (gN l (a + 32) 8)) vc wx HDL.out (YA_got (hd 5 _ 60 _ rfl rfl (by kernel_rfl) rfl rfl)).2).mono fun r w' ⟨⟨u, h1, h2⟩, h3⟩ => ⟨u, h1, YA_mk (h2.base hwx.size), h3⟩)) (fun vd => ?_)
        go_frame
        repeat (refine walk_quiet rfl rfl rfl ?_; intro K hK; go_big_quiet_op; go_big_quiet_on)
        refine walk_nil ?_
        intro wy hby hF
        have HIN : Hid (inB l (gN l (a + 24) 8) (gN l (a + 32) 8) = true) := Lib.hid (YA_got (hF 5 _ 60 _ rfl rfl rfl rfl)).1
        have HOD : Hid (OB wy w5.heap.size vd ((l.drop (gN l (a + 24) 8)).take (gN l (a + 32) 8))) := Lib.hid (YA_got (hF 6 _ 61 _ rfl rfl rfl rfl))
        clear hF hAB d1 d2 z5 HCC
        obtain ⟨dm, da, dc, -, rfl, _, _⟩ := HOD.out.shape
        refine wpList_set (heap_below hby HH5.out) (show 9 < 10 by decide) rfl rfl (base := w3.heap.size) hgb (Nat.le_trans HB35.out.size hby.size) (fun w => by kernel_rfl) ?_
        intro w6 hh6 hb6 hs6
        have HH6 := Lib.hid (show w6.heap[gb]? = some (.cells #[.string ⟨nm.toArray⟩, .int .u32 (gN l (a + 4) 4 : Nat), .int .u64 (gN l (a + 8) 8 : Nat), .int .u64 (gN l (a + 16) 8 : Nat), .int .u64 (gN l (a + 48) 8 : Nat), .int .u64 (gN l (a + 32) 8 : Nat), .int .u32 (gN l (a + 40) 4 : Nat), .int .u32 (gN l (a + 44) 4 : Nat), .int .u64 (gN l (a + 56) 8 : Nat), .slice da dm dc] 60 (0, 0)) from hh6)
        have HX36 := Lib.hid (heap_base hb6 (heap_below hby HX35.out) (by omega))
        have HB36 := Lib.hid (HB35.out.trans ((hby.mono HB35.out.size).trans hb6))
        have HB6 := Lib.hid (HB3.out.trans (HB36.out.mono (Nat.le_of_lt h03)))
        have HOD6 : Hid (OB w6 w5.heap.size (.slice da dm dc) ((l.drop (gN l (a + 24) 8)).take (gN l (a + 32) 8))) := Lib.hid (owns_stirs HOD.out hs6 (ob_apart HOD.out (heap_below hby HH5.out) (by decide)))
        have h05 : w.heap.size ≤ w5.heap.size := HB5.out.size
        have h025 : w2.heap.size < w5.heap.size := by have := HB35.out.size; omega
        obtain ⟨z0, z1, z2, z3, z4, z5, z6, z7, z8, z9⟩ := sec_box (x := (⟨nm, gN l (a + 4) 4, gN l (a + 8) 8, gN l (a + 16) 8, gN l (a + 48) 8, gN l (a + 32) 8, gN l (a + 40) 4, gN l (a + 44) 4, gN l (a + 56) 8, []⟩, .slice da dm dc)) HH6.out
        clear hh6 hb6 hs6 hby HH5 HX35 HX15 HX25 HU245 HOD
        go_wp2_with ((with_reducible show wpList _ _ _ (⟨none, .store _ (.tmp 6) _, _, _, _, _⟩ :: _) _ _); go_must (refine wpList_storeRowS HX36.out rfl rfl rfl (by kernel_rfl) (by simp [Value.oneCell']) ?_; intro w7 hh7 hs7; have HH7 := Lib.hid hh7; have HB7 := Lib.hid (HB6.out.trans (hs7.below HB6.out.size (fun j hj => by rw [hj]; omega))); have HOD7 : Hid (OB w7 w5.heap.size (.slice da dm dc) ((l.drop (gN l (a + 24) 8)).take (gN l (a + 32) 8))) := Lib.hid (owns_stirs HOD6.out hs7 (ob_apart HOD6.out HX36.out (by decide))); clear hh7 hs7))
        refine bodyPost_ret (results_cell_row rfl _ _ w2.heap.size _ _ _ _ rfl HH7.out rfl rfl (by kernel_rfl)) rfl ⟨.inl ⟨HOK.out HIN.out, .slice da dm dc, ?_, ?_⟩, HB7.out⟩
        · rw [HFIN.out]
        · rw [HFIN.out]
          exact HOD7.out.base h05
      · exact ⟨rfl, .inr ⟨HN0.out hx0, rfl⟩, HB4.out⟩
  · have hcb : (code == (0 : Int)) = false := by simpa using hcode
    have HX := Lib.hid hcode
    clear hcode
    go_wp2_with (first
      | (go_at_call 29; refine (HU0.out _ HB34.out).mono ?_; rintro e wu ⟨rfl, ⟨hx0, rfl⟩ | ⟨hx0, rfl⟩⟩)
      | (go_at_call 64; refine (HAT.out _ HB4.out).mono ?_; rintro e wu ⟨rfl, rfl⟩)
      | (go_at_call 31; refine (must_no _).mono ?_; rintro e wu ⟨rfl, rfl⟩))
    · exact ⟨rfl, .inr ⟨HNM.out HX.out, rfl⟩, HB4.out⟩
    · exact ⟨rfl, .inr ⟨HN0.out hx0, rfl⟩, HB4.out⟩
end Go.Proofs.YtimnbnomaajmmaaGreat
namespace Go.Proofs.YtimnbnomaajmmaaGreat
open Go.RowKit Go.Fd
def nsegsP (l : List UInt8) : Nat := gN l 56 2
def nsecsP (l : List UInt8) : Nat := gN l 60 2 - 2
def lastP (l : List UInt8) : Nat := gN l 40 8 + 64 * (nsecsP l + 1)
def tabP (l : List UInt8) : List UInt8 := (l.drop (gN l (lastP l + 24) 8)).take (gN l (lastP l + 32) 8)
def segsP (l : List UInt8) (n : Nat) : List SegM := (List.range n).map fun i => segP l (64 + 56 * i)
def secsP (l : List UInt8) (n : Nat) : List SecM := (List.range n).map fun i => secP l (tabP l) (gN l 40 8 + 64 * (i + 1))
/-- What is read of a file of a target. -/
def parseE (l : List UInt8) (target : Int) : ElfM := ⟨(gN l 16 2 : Nat), target, gN l 48 4, gN l 24 8, secsP l (nsecsP l), segsP l (nsegsP l)⟩
/-- Is all there? -/
structure OkP (l : List UInt8) : Prop where
  n1 : gN l 56 2 ≤ 16
  n2 : 2 ≤ gN l 60 2
  n3 : gN l 60 2 ≤ 252
  segs : ∀ i, i < nsegsP l → segOk l (64 + 56 * i) = true
  heads : gN l 40 8 ≤ l.length
  t1 : okB l (lastP l + 24) 8 = true
  t2 : okB l (lastP l + 32) 8 = true
  tab : inB l (gN l (lastP l + 24) 8) (gN l (lastP l + 32) 8) = true
  secs : ∀ i, i < nsecsP l → secOk l (tabP l) (gN l 40 8 + 64 * (i + 1)) = true
theorem segsP_succ (l : List UInt8) (n : Nat) : segsP l (n + 1) = segsP l n ++ [segP l (64 + 56 * n)] := by unfold segsP; rw [List.range_succ, List.map_append]; rfl
theorem secsP_succ (l : List UInt8) (n : Nat) : secsP l (n + 1) = secsP l n ++ [secP l (tabP l) (gN l 40 8 + 64 * (n + 1))] := by unfold secsP; rw [List.range_succ, List.map_append]; rfl
theorem segsP_len (l : List UInt8) (n : Nat) : (segsP l n).length = n := by simp [segsP]
theorem secsP_len (l : List UInt8) (n : Nat) : (secsP l n).length = n := by simp [secsP]
/-- While a file is read: its header stands in block g, the result's block is r. -/
structure AllInv (w wr : World) (g r : Nat) (hd : List Value) (sv gv : Value) (L : List (SecM × Value)) (T : List SegM) : Prop where
  blk : wr.heap[g]? = some (.cells (hd ++ [sv, gv]).toArray 51 (0, 0))
  res : wr.heap[r]? = some (.cells elfZ 51 (0, 0))
  so : OwR 10 encSec 60 wr w.heap.size sv L
  go : OwR 7 encSeg 105 wr w.heap.size gv T
  data : ∀ p ∈ L, OB wr w.heap.size p.2 p.1.data
  below : Below w.heap.size w wr
  hg : w.heap.size ≤ g
  hr : w.heap.size ≤ r
  ne : r ≠ g
theorem AllInv.mono {w wr w' : World} {g r : Nat} {hd : List Value} {sv gv : Value} {L : List (SecM × Value)} {T : List SegM} (h : AllInv w wr g r hd sv gv L T) (hb : Below wr.heap.size wr w') : AllInv w w' g r hd sv gv L T :=
  ⟨heap_below hb h.blk, heap_below hb h.res, h.so.mono hb, h.go.mono hb, fun p hp => (h.data p hp).mono hb, h.below.trans (hb.mono h.below.size), h.hg, h.hr, h.ne⟩
theorem own_ne {w : World} {base e size n : Nat} {v : Value} {xs : List Value} {g : Nat} {cs : Array Value} {t : TypeId} {fr : Nat × Nat} (h : w.ownsRow base e size v n xs) (hg : w.heap[g]? = some (.cells cs t fr)) (he : t ≠ e) : ∀ k, v.ownBlock = some k → k ≠ g := by
  rintro k hk rfl
  obtain ⟨cs1, fz1, h1⟩ := own_kind h k hk
  rw [hg] at h1
  cases h1
  exact he rfl
/-- A segment more. -/
theorem AllInv.seg {w wr w1 w2 : World} {g r : Nat} {hd : List Value} {sv gv gv' : Value} {L : List (SecM × Value)} {T : List SegM} {s : SegM} (h : AllInv w wr g r hd sv gv L T) (hdl : hd.length = 4) (ho : w1.ownsRow w.heap.size 105 7 gv' (T ++ [s]).length ((T ++ [s]).flatMap encSeg)) (hgr : wr.grownBy w1 gv.ownBlock)
    (hb : w2.heap[g]? = some (.cells ((hd ++ [sv, gv]).toArray.setIfInBounds 5 gv') 51 (0, 0))) (hs : Stirs (fun k => k = g) w1 w2) : AllInv w w2 g r hd sv gv' L (T ++ [s]) := by
  have hk := keeps_own h.go hgr
  have hB : Below w.heap.size w w1 := h.below.trans (below_of_grown hgr h.below.size fun k hk => (World.ownsRow.lt h.go k hk).1)
  have hblk := hk _ _ _ _ (show 51 ≠ 105 by decide) h.blk
  have hres := hk _ _ _ _ (show 51 ≠ 105 by decide) h.res
  have hso := owns_grown h.so hgr (fun k hk hk2 => own_apart h.so h.go (by decide) hk hk2)
  refine ⟨?_, hs.kept hres h.ne, owns_stirs hso hs (own_ne hso hblk (by decide)), owns_stirs ho hs (own_ne ho hblk (by decide)), fun p hp => ?_, hB.trans (hs.below hB.size fun k hk => by rw [hk]; exact h.hg), h.hg, h.hr, h.ne⟩
  · rw [hb]
    match hd, hdl with
    | [a, b, c, d], _ => rfl
  · have h1 := owns_grown (h.data p hp) hgr (fun k hk hk2 => own_apart (h.data p hp) h.go (by decide) hk hk2)
    exact owns_stirs h1 hs (own_ne h1 hblk (by decide))
/-- A section more. -/
theorem AllInv.sec {w wr w1 w2 : World} {g r : Nat} {hd : List Value} {sv sv' gv dv : Value} {L : List (SecM × Value)} {T : List SegM} {s : SecM} (h : AllInv w wr g r hd sv gv L T) (hdl : hd.length = 4) (ho : w1.ownsRow w.heap.size 60 10 sv' (L ++ [(s, dv)]).length ((L ++ [(s, dv)]).flatMap encSec)) (hgr : wr.grownBy w1 sv.ownBlock) (hd0 : OB wr w.heap.size dv s.data)
    (hb : w2.heap[g]? = some (.cells ((hd ++ [sv, gv]).toArray.setIfInBounds 4 sv') 51 (0, 0))) (hs : Stirs (fun k => k = g) w1 w2) : AllInv w w2 g r hd sv' gv (L ++ [(s, dv)]) T := by
  have hk := keeps_own h.so hgr
  have hB : Below w.heap.size w w1 := h.below.trans (below_of_grown hgr h.below.size fun k hk => (World.ownsRow.lt h.so k hk).1)
  have hblk := hk _ _ _ _ (show 51 ≠ 60 by decide) h.blk
  have hres := hk _ _ _ _ (show 51 ≠ 60 by decide) h.res
  have hgo := owns_grown h.go hgr (fun k hk hk2 => own_apart h.go h.so (by decide) hk hk2)
  refine ⟨?_, hs.kept hres h.ne, owns_stirs ho hs (own_ne ho hblk (by decide)), owns_stirs hgo hs (own_ne hgo hblk (by decide)), fun p hp => ?_, hB.trans (hs.below hB.size fun k hk => by rw [hk]; exact h.hg), h.hg, h.hr, h.ne⟩
  · rw [hb]
    match hd, hdl with
    | [a, b, c, d], _ => rfl
  · have h0 : OB wr w.heap.size p.2 p.1.data := by
      rcases List.mem_append.1 hp with hp | hp
      · exact h.data p hp
      · rw [List.mem_singleton] at hp
        rw [hp]
        exact hd0
    have h1 := owns_grown h0 hgr (fun k hk hk2 => own_apart h0 h.so (by decide) hk hk2)
    exact owns_stirs h1 hs (own_ne h1 hblk (by decide))
/-- A file that was read lies in memory of its own. -/
structure ElfOwn (w : World) (base : Nat) (e : ElfM) (L : List (SecM × Value)) (sv gv : Value) : Prop where
  secs : e.secs = L.map (·.1)
  so : OwR 10 encSec 60 w base sv L
  go : OwR 7 encSeg 105 w base gv e.segs
  data : ∀ p ∈ L, OB w base p.2 p.1.data
theorem ElfOwn.at {w : World} {base : Nat} {e : ElfM} {L : List (SecM × Value)} {sv gv : Value} (h : ElfOwn w base e L sv gv) : ElfAt w e L sv gv :=
  ⟨h.secs, h.so.rd, fun p hp => (h.data p hp).bs, h.go.rd⟩
/-- No two sections' bytes lie in one block. -/
def ApartS (L : List (SecM × Value)) : Prop := L.Pairwise fun p q => ∀ k, p.2.ownBlock = some k → q.2.ownBlock ≠ some k
theorem ApartS.snoc {L : List (SecM × Value)} {p : SecM × Value} (h : ApartS L) (hn : ∀ q ∈ L, ∀ k, q.2.ownBlock = some k → p.2.ownBlock ≠ some k) : ApartS (L ++ [p]) :=
  List.pairwise_append.2 ⟨h, List.pairwise_singleton _ _, fun a ha b hb => by rw [List.mem_singleton] at hb; subst hb; exact hn a ha⟩
/-- A file comes, or it goes up. -/
def AllRes (l : List UInt8) (target : Int) (base : Nat) (r : Ending) (w : World) : Prop := OkP l ∧ (∃ L sv gv, r = .returned (elfV (parseE l target) sv gv) ∧ ElfOwn w base (parseE l target) L sv gv ∧ ApartS L) ∨ ¬ OkP l ∧ r = .panicked upF
/-- One record in a block of its own, made in a region. -/
def Yld.one (B : Nat) (t : TypeId) (cs : Array Value) : Yld := ⟨Nat, 0, fun g => .slice (some ⟨g, 0, none⟩) 1 1, fun g w => B ≤ g ∧ w.heap[g]? = some (.cells cs t (0, 0)),
  fun g w w' ⟨h1, h2⟩ hb => ⟨h1, by rw [hb.block g (Array.getElem?_eq_some_iff.1 h2).1]; exact h2⟩⟩
theorem walk_one {P : Program} {Up : Exit → Prop} {L r : List Oper} {M : List (Nat × Yld)} {a : Act} {w0 : World} {E : Act → Prop} {i : Nat} {o : Oper} {B : Nat} {t : TypeId} {cs : Array Value} (hw : Region.wanted o (yielded L.toArray a.tmps) = true) (hM : madeAt M i = some (Yld.one B t cs)) (h : ∀ w, Below w0.heap.size w0 w → Deps L M a o w → WpYld P Up o a (Yld.one B t cs) w) (hn : ∀ g : Nat, walk P Up L M w0 E (i + 1) r (a.put o.dst (.slice (some ⟨g, 0, none⟩) 1 1))) : walk P Up L M w0 E i (o :: r) a :=
  walk_made hw hM h hn
theorem Yld.one_got {B g : Nat} {t : TypeId} {cs : Array Value} {w : World} (h : (Yld.one B t cs).R (.slice (some ⟨g, 0, none⟩) 1 1) w) : B ≤ g ∧ w.heap[g]? = some (.cells cs t (0, 0)) := by
  obtain ⟨x, e, hr⟩ := h
  have : g = x := by
    have e' : (Value.slice (some ⟨g, 0, none⟩) 1 1) = .slice (some ⟨x, 0, none⟩) 1 1 := e
    injection e' with e'; injection e' with e'; injection e'
  subst this
  exact hr
theorem Yld.one_mk {w0 w : World} {t : TypeId} (cs : Array Value) (h : Below w0.heap.size w0 w) : (Yld.one w0.heap.size t cs).R (.slice (some ⟨w.heap.size, 0, none⟩) 1 1) (w.alloc (.cells cs t)) ∧ Below w.heap.size w (w.alloc (.cells cs t)) :=
  ⟨⟨w.heap.size, rfl, h.size, heap_alloc_last w _⟩, below_alloc w _⟩
/-- One record in a block of its own reads. -/
theorem rd_one {α : Type} {k : Nat} {enc : α → List Value} {w : World} {g : Nat} {cs : Array Value} {t : TypeId} {fr : Nat × Nat} {x : α} (hk : (enc x).length = k) (h : w.heap[g]? = some (.cells cs t fr)) (hc : cs = (enc x).toArray) : RdR k enc w (.slice (some ⟨g, 0, none⟩) 1 1) [x] := by
  subst hc
  refine ⟨by simp [hk], _, _, rfl, Nat.le_refl _, (fun h => by cases h), fun j hj => ⟨g, 0, rfl, ?_⟩⟩
  rw [Nat.zero_add, cell_rec h j]
  simp
end Go.Proofs.YtimnbnomaajmmaaGreat
namespace Go.Proofs.YtimnbnomaajmmaaGreat
open Go.RowKit Go.Fd
/-- A call that makes memory and comes to a value, if something holds, or goes up. -/
theorem _root_.Go.Fd.WpYld.callRes {P : Program} {o : Oper} {a : Act} {c : Value} {f : FuncId} {args : Array Value} {w : World} {b : Bool} {q : Prop} (hr : (execOp a.eval o).run P w = .ok (.enter f args) w) (hq : b = false → q) (h : Calls P f args w fun e w' => ResU b c e ∧ Below w.heap.size w w') : WpYld P (fun x => x = .panic upF ∧ q) o a (Yld.ok c (b = true)) w :=
  WpYld.callUp hr (h.mono fun e w' ⟨he, hb⟩ => by
    rcases he with ⟨h1, h2⟩ | ⟨h1, h2⟩
    · exact .inl ⟨c, h2, ⟨(), rfl, h1⟩, hb⟩
    · exact .inr ⟨upF, h2, ⟨rfl, hq h1⟩, hb⟩)
theorem run_oneSeg {x : Operand} {s : SegM} {a : Act} {w : World} {d : Option Tmp} {ty : TypeId} {pos : String} {aft : Array Edge} {g : Option (Nat × Bool)} (hx : a.eval x = .agg (encSeg s).toArray) :
    (execOp a.eval ⟨d, .buildSlice 49 1 #[(0, x)], ty, pos, aft, g⟩).run Tryz.prog w = .ok (.value (.slice (some ⟨w.heap.size, 0, none⟩) 1 1)) (w.alloc (.cells (encSeg s).toArray 105)) := by
  simp only [execOp, List.map_toArray, List.map_cons, List.map_nil, hx]
  kernel_rfl
/-- A section with its bytes, in a region. -/
def YSec (q : Prop) (s : SecM) (B : Nat) : Yld := ⟨Value, undef, fun dv => secV (s, dv), fun dv w => q ∧ OB w B dv s.data, fun _ _ _ h hb => ⟨h.1, h.2.mono hb⟩⟩
def YOneSec (s : SecM) (B : Nat) : Yld := ⟨Nat, 0, fun g => .slice (some ⟨g, 0, none⟩) 1 1, fun g w => ∃ dv, w.heap[g]? = some (.cells (encSec (s, dv)).toArray 60 (0, 0)) ∧ OB w B dv s.data, fun _ _ _ h hb => by
  obtain ⟨dv, h1, h2⟩ := h
  exact ⟨dv, heap_below hb h1, h2.mono hb⟩⟩
theorem YSec_got {q : Prop} {s : SecM} {B : Nat} {dv : Value} {w : World} (h : (YSec q s B).R (secV (s, dv)) w) : q ∧ OB w B dv s.data := by
  obtain ⟨(x : Value), e, hr⟩ := h
  have : dv = x := by
    have e1 := congrArg (fun v : Value => match v with | .agg c => c[9]? | _ => none) e
    have e2 : some dv = some x := e1
    injection e2
  subst this
  exact hr
theorem YOneSec_got {s : SecM} {B g : Nat} {w : World} (h : (YOneSec s B).R (.slice (some ⟨g, 0, none⟩) 1 1) w) : ∃ dv, w.heap[g]? = some (.cells (encSec (s, dv)).toArray 60 (0, 0)) ∧ OB w B dv s.data := by
  obtain ⟨x, e, hr⟩ := h
  have : g = x := by
    have e' : (Value.slice (some ⟨g, 0, none⟩) 1 1) = .slice (some ⟨x, 0, none⟩) 1 1 := e
    injection e' with e'; injection e' with e'; injection e'
  subst this
  exact hr
set_option maxRecDepth 100000 in
theorem run_oneSec {x : Operand} {s : SecM} {p : Option Addr} {m c : Nat} {a : Act} {w : World} {d : Option Tmp} {ty : TypeId} {pos : String} {aft : Array Edge} {g : Option (Nat × Bool)} (hx : a.eval x = secV (s, .slice p m c)) :
    (execOp a.eval ⟨d, .buildSlice 48 1 #[(0, x)], ty, pos, aft, g⟩).run Tryz.prog w = .ok (.value (.slice (some ⟨w.heap.size, 0, none⟩) 1 1)) (w.alloc (.cells (encSec (s, .slice p m c)).toArray 60)) := by
  simp only [execOp, List.map_toArray, List.map_cons, List.map_nil, hx]
  kernel_rfl
set_option maxRecDepth 100000 in
theorem wp_oneSec {x : Operand} {s : SecM} {dv : Value} {B : Nat} {Up : Exit → Prop} {a : Act} {w : World} {d : Option Tmp} {ty : TypeId} {pos : String} {aft : Array Edge} {g : Option (Nat × Bool)} (hx : a.eval x = secV (s, dv)) (ho : OB w B dv s.data) :
    WpYld Tryz.prog Up ⟨d, .buildSlice 48 1 #[(0, x)], ty, pos, aft, g⟩ a (YOneSec s B) w := by
  obtain ⟨m, p, c, -, rfl, _, _⟩ := ho.shape
  exact WpYld.val (run_oneSec hx) ⟨w.heap.size, rfl, _, heap_alloc_last w _, ho.mono (below_alloc w _)⟩ (below_alloc w _)
attribute [local irreducible] gN okB inB atR segOk secOk segP secP tabP
set_option maxHeartbeats 8000000 in
set_option maxRecDepth 100000 in
theorem all_any (l : List UInt8) (target : Int) (v : Value) (w : World) (hl : l.length ≤ 4194304) (h64 : 64 ≤ l.length) (hv : Bs w v l) :
    Calls Tryz.prog 30 #[v, .int .i64 target] w fun r w' => AllRes l target w.heap.size r w' ∧ Below w.heap.size w w' := by
  have HV := Lib.hid hv
  obtain ⟨m, ad, cap, hm, rfl, _, _⟩ := hv.shape
  have HL9 := Lib.hid (show l.length ≤ 1000000000 by omega)
  have hm9 : m ≤ 4194304 := by have := hm.out; omega
  have HU16 : Hid (∀ wx, Below w.heap.size w wx → Calls Tryz.prog 29 #[.slice ad m cap, .int .i64 16, .int .i64 2] wx fun r w' => r = .returned (.int .u64 (gN l 16 2 : Nat)) ∧ wx = w') := Lib.hid (fun wx hwx => (ruN l 16 2 _ wx HL9.out (HV.out.mono hwx)).mono fun r w' ⟨hw, h⟩ => by
    rw [okB_iff sz2, show decide (16 + 2 ≤ l.length) = true by simp; omega] at h
    rcases h with ⟨_, h⟩ | ⟨h, _⟩
    · exact ⟨h, hw⟩
    · cases h)
  have HU48 : Hid (∀ wx, Below w.heap.size w wx → Calls Tryz.prog 29 #[.slice ad m cap, .int .i64 48, .int .i64 4] wx fun r w' => r = .returned (.int .u64 (gN l 48 4 : Nat)) ∧ wx = w') := Lib.hid (fun wx hwx => (ruN l 48 4 _ wx HL9.out (HV.out.mono hwx)).mono fun r w' ⟨hw, h⟩ => by
    rw [okB_iff sz4, show decide (48 + 4 ≤ l.length) = true by simp; omega] at h
    rcases h with ⟨_, h⟩ | ⟨h, _⟩
    · exact ⟨h, hw⟩
    · cases h)
  have HU24 : Hid (∀ wx, Below w.heap.size w wx → Calls Tryz.prog 29 #[.slice ad m cap, .int .i64 24, .int .i64 8] wx fun r w' => r = .returned (.int .u64 (gN l 24 8 : Nat)) ∧ wx = w') := Lib.hid (fun wx hwx => (ruN l 24 8 _ wx HL9.out (HV.out.mono hwx)).mono fun r w' ⟨hw, h⟩ => by
    rw [okB_iff sz8, show decide (24 + 8 ≤ l.length) = true by simp; omega] at h
    rcases h with ⟨_, h⟩ | ⟨h, _⟩
    · exact ⟨h, hw⟩
    · cases h)
  have HU56 : Hid (∀ wx, Below w.heap.size w wx → Calls Tryz.prog 29 #[.slice ad m cap, .int .i64 56, .int .i64 2] wx fun r w' => r = .returned (.int .u64 (gN l 56 2 : Nat)) ∧ wx = w') := Lib.hid (fun wx hwx => (ruN l 56 2 _ wx HL9.out (HV.out.mono hwx)).mono fun r w' ⟨hw, h⟩ => by
    rw [okB_iff sz2, show decide (56 + 2 ≤ l.length) = true by simp; omega] at h
    rcases h with ⟨_, h⟩ | ⟨h, _⟩
    · exact ⟨h, hw⟩
    · cases h)
  have HU60 : Hid (∀ wx, Below w.heap.size w wx → Calls Tryz.prog 29 #[.slice ad m cap, .int .i64 60, .int .i64 2] wx fun r w' => r = .returned (.int .u64 (gN l 60 2 : Nat)) ∧ wx = w') := Lib.hid (fun wx hwx => (ruN l 60 2 _ wx HL9.out (HV.out.mono hwx)).mono fun r w' ⟨hw, h⟩ => by
    rw [okB_iff sz2, show decide (60 + 2 ≤ l.length) = true by simp; omega] at h
    rcases h with ⟨_, h⟩ | ⟨h, _⟩
    · exact ⟨h, hw⟩
    · cases h)
  have HU40 : Hid (∀ wx, Below w.heap.size w wx → Calls Tryz.prog 29 #[.slice ad m cap, .int .i64 40, .int .i64 8] wx fun r w' => r = .returned (.int .u64 (gN l 40 8 : Nat)) ∧ wx = w') := Lib.hid (fun wx hwx => (ruN l 40 8 _ wx HL9.out (HV.out.mono hwx)).mono fun r w' ⟨hw, h⟩ => by
    rw [okB_iff sz8, show decide (40 + 8 ≤ l.length) = true by simp; omega] at h
    rcases h with ⟨_, h⟩ | ⟨h, _⟩
    · exact ⟨h, hw⟩
    · cases h)
  have HN1 := Lib.hid (fun h : OkP l => h.n1)
  have HN2 := Lib.hid (fun h : OkP l => h.n2)
  have HN3 := Lib.hid (fun h : OkP l => h.n3)
  have HNS := Lib.hid (fun h : OkP l => h.segs)
  have HNH := Lib.hid (fun h : OkP l => h.heads)
  have HT1 := Lib.hid (fun h : OkP l => h.t1)
  have HT2 := Lib.hid (fun h : OkP l => h.t2)
  have HTB := Lib.hid (fun h : OkP l => h.tab)
  have HNC := Lib.hid (fun h : OkP l => h.secs)
  have b16 := gN2 l 16
  have b48 := gN4 l 48
  have HB24 := Lib.hid (gN8 l 24)
  have b56 := gN2 l 56
  have b60 := gN2 l 60
  have HB40 := Lib.hid (gN8 l 40)
  have HPE : Hid (parseE l target = ⟨(gN l 16 2 : Nat), target, gN l 48 4, gN l 24 8, secsP l (gN l 60 2 - 2), segsP l (gN l 56 2)⟩) := rfl
  have HE0 := Lib.hid (fun (w1 : World) (g r : Nat) (hb : w1.heap[g]? = some (.cells elfZ 51 (0, 0))) (hr : w1.heap[r]? = some (.cells elfZ 51 (0, 0))) => (⟨hb, hr⟩ : w1.heap[g]? = some (.cells elfZ 51 (0, 0)) ∧ w1.heap[r]? = some (.cells elfZ 51 (0, 0))))
  clear HE0
  clear hv
  go_enter Tryz.func30, Tryz.ntmps30
  go_wp2_with (first
    | ((with_reducible show wpList _ _ _ (⟨some 4, .alloc _, _, _, _, _⟩ :: _) _ _); go_must (refine wpList_allocElf ?_; intro w1 hx1 hb1 hs1; have HX1 := Lib.hid hx1; have HB1 := Lib.hid hb1; clear hx1 hb1))
    | (go_at_call 29; (with_reducible refine (HU16.out _ HB1.out).mono ?_); rintro e wu ⟨rfl, rfl⟩)
    | (go_at_call 29; (with_reducible refine (HU48.out _ HB1.out).mono ?_); rintro e wu ⟨rfl, rfl⟩)
    | (go_at_call 29; (with_reducible refine (HU24.out _ HB1.out).mono ?_); rintro e wu ⟨rfl, rfl⟩)
    | ((with_reducible show wpList _ _ _ (⟨some 5, .alloc _, _, _, _, _⟩ :: _) _ _); go_must (refine wpList_allocElf ?_; intro w2 hx2 hb2 hs2; have HX2 := Lib.hid hx2; have HX12 := Lib.hid (heap_below hb2 HX1.out); have HB2 := Lib.hid (HB1.out.trans (hb2.mono HB1.out.size)); clear hx2 hb2))
    | ((with_reducible show wpList _ _ _ (⟨none, .store _ (.tmp 5) _, _, _, _, _⟩ :: _) _ _); go_must (refine wpList_storeElfS HX2.out rfl rfl rfl rfl (by simp [Value.oneCell']) ?_; intro w3 hh3 hs3; have HH3 := Lib.hid hh3; have HX13 := Lib.hid (hs3.kept HX12.out (show ¬ w.heap.size = w1.heap.size by omega)); have HB3 := Lib.hid (HB2.out.trans (hs3.below HB2.out.size (fun j hj => by rw [hj]; exact HB1.out.size))); clear hh3 hs3)))
  by_cases hA : gN l 56 2 ≤ 16 ∧ 2 ≤ gN l 60 2 ∧ gN l 60 2 ≤ 252
  · obtain ⟨hA1, hA2, hA3⟩ := hA
    obtain ⟨k2, hk2⟩ : ∃ k2, gN l 60 2 = k2 + 2 := ⟨gN l 60 2 - 2, by omega⟩
    have hk9 : k2 ≤ 250 := by omega
    have e60 : ((gN l 60 2 : Nat) : Int) - 2 = (k2 : Int) := by rw [hk2]; simp
    have HK2 := Lib.hid hk2
    have d250 : decide ((k2 : Int) ≤ 250) = true := by simp; omega
    have d16 : decide (((gN l 56 2 : Nat) : Int) ≤ 16) = true := by simp; omega
    have HMK := Lib.hid (fun (h1 : ∀ i, i < nsegsP l → segOk l (64 + 56 * i) = true) (h2 : gN l 40 8 ≤ l.length) (h3 : okB l (lastP l + 24) 8 = true) (h4 : okB l (lastP l + 32) 8 = true) (h5 : inB l (gN l (lastP l + 24) 8) (gN l (lastP l + 32) 8) = true) (h6 : ∀ i, i < nsecsP l → secOk l (tabP l) (gN l 40 8 + 64 * (i + 1)) = true) => (⟨hA1, hA2, hA3, h1, h2, h3, h4, h5, h6⟩ : OkP l))
    clear hk2 hA2 hA3
    go_wp2_with (first
      | (go_at_call 29; (with_reducible refine (HU56.out _ HB3.out).mono ?_); rintro e wu ⟨rfl, rfl⟩)
      | (go_at_call 29; (with_reducible refine (HU60.out _ HB3.out).mono ?_); rintro e wu ⟨rfl, rfl⟩)
      | (go_at_call 31; refine (must_ok _).mono ?_; rintro e wu ⟨rfl, rfl⟩))
    have HI0 : Hid (AllInv w w3 w1.heap.size w.heap.size [.int .i64 (gN l 16 2 : Nat), .int .i64 target, .int .u32 (gN l 48 4 : Nat), .int .u64 (gN l 24 8 : Nat)] (.slice none 0 0) (.slice none 0 0) [] []) := ⟨HH3.out, HX13.out, OwR.nil _ _ _ _ _, OwR.nil _ _ _ _ _, (fun p hp => by cases hp), HB3.out, HB1.out.size, Nat.le_refl _, by omega⟩
    clear HX1 HX2 HX12 HX13 HH3 HB1 HB2 HB3 hs1 hs2 e60 d250 d16
    have E56 : Hid (nsegsP l = gN l 56 2) := rfl
    have E60 : Hid (nsecsP l = k2) := Lib.hid (by show gN l 60 2 - 2 = k2; rw [HK2.out]; rfl)
    generalize gN l 56 2 = ns at *
    go_loopw [42] (fun i wr => ∃ (k : Nat) (q : Option Addr) (n r : Nat), i = .int .i64 k ∧ k ≤ ns ∧ Hid (AllInv w wr w1.heap.size w.heap.size [.int .i64 (gN l 16 2 : Nat), .int .i64 target, .int .u32 (gN l 48 4 : Nat), .int .u64 (gN l 24 8 : Nat)] (.slice none 0 0) (.slice q n r) [] (segsP l k)) ∧ Hid (∀ i, i < k → segOk l (64 + 56 * i) = true)) (fun i _ => ns - (intOf i).toNat)
    case atStart => exact ⟨0, none, 0, 0, rfl, Nat.zero_le _, HI0, fun i hi => absurd hi (Nat.not_lt_zero i)⟩
    case round =>
      obtain ⟨k, q, n, r, rfl, hk, HI, HO⟩ := hrel
      have HB := Lib.hid HI.out.below
      by_cases hlt : k < ns
      · have e5 : wr.cell? ⟨w1.heap.size, 5, none⟩ = some (.slice q n r) := cell_rec HI.out.blk 5
        have hAB := fun (x : Above wr) (b k : Nat) (h : b < wr.heap.size) => Above.cell x b k h
        have l1 := block_lt e5
        have HSG : Hid (∀ wx (_ : Below wr.heap.size wr wx), Calls Tryz.prog 60 #[.slice ad m cap, .int .i64 (64 + 56 * (k : Int))] wx fun r w' => ResU (segOk l (64 + 56 * k)) (.agg (encSeg (segP l (64 + 56 * k))).toArray) r ∧ Below wx.heap.size wx w') := Lib.hid (fun wx hwx => seg_any l (64 + 56 * k) _ wx HL9.out (HV.out.mono (HB.out.trans (hwx.mono HB.out.size))) (by omega))
        have HBAD : Hid (segOk l (64 + 56 * k) = false → ¬ OkP l) := Lib.hid (fun h ho => by have := HNS.out ho k (by rw [E56.out]; exact hlt); rw [h] at this; cases this)
        have hw1 : IntKind.i64.wrap (56 * (k : Int)) = 56 * (k : Int) := by
          have := i64_small (n := 56 * k) (by omega)
          simpa using this
        have HSS := Lib.hid (segsP_succ l k)
        have HSL := Lib.hid (segsP_len l k)
        generalize segP l (64 + 56 * k) = sg at *
        go_wp2
        refine wp_region_walkU (Up := fun x => x = .panic upF ∧ ¬ OkP l) 8 [(6, Yld.ok (.agg (encSeg sg).toArray) (segOk l (64 + 56 * k) = true)), (7, Yld.one wr.heap.size 105 (encSeg sg).toArray)] (by kernel_rfl) (by kernel_rfl) ?_ ?_
        · rintro x a' w' ⟨⟨rfl, hso⟩, hd, hb⟩
          exact ⟨hd, .inr ⟨hso, rfl⟩, HB.out.trans (hb.mono HB.out.size)⟩
        simp only [List.take_succ_cons, List.take_zero, List.drop_succ_cons, List.drop_zero]
        repeat (refine walk_quiet rfl rfl rfl ?_; intro K hK; go_big_quiet_op; go_big_quiet_on)
        refine walk_ok (c := .agg (encSeg sg).toArray) (p := segOk l (64 + 56 * k) = true) rfl rfl (fun wx hwx _ => WpYld.callRes (run_callL (vals := [_, _]) Tryz.func60 (by kernel_rfl) rfl rfl) HBAD.out (HSG.out wx hwx)) ?_
        go_frame
        refine walk_one rfl rfl (fun wx hwx _ => WpYld.val (run_oneSeg rfl) (Yld.one_mk _ hwx).1 (Yld.one_mk _ hwx).2) (fun gb => ?_)
        go_frame
        refine walk_nil ?_
        intro wz hbz hF
        have HSO : Hid (segOk l (64 + 56 * k) = true) := Lib.hid (Yld.ok_got (hF 6 _ 51 _ rfl rfl rfl rfl))
        have HGB := Lib.hid (Yld.one_got (hF 7 _ 52 _ rfl rfl rfl rfl)).2
        have HIZ := Lib.hid (HI.out.mono hbz)
        clear hF hAB e5 hbz hw1
        refine wpList_cat TSeg HIZ.out.go (rd_one rfl HGB.out rfl) rfl rfl (oneSeg [sg]) (by rw [HSL.out]; simp; omega) (by rw [HSL.out]; simp; omega) HIZ.out.below.size ?_
        intro v5 w5 hv5 hg5 hb5
        have HV5 := Lib.hid hv5
        have HG5 := Lib.hid hg5
        have HBL := Lib.hid (keeps_own HIZ.out.go hg5 _ _ _ _ (show 51 ≠ 105 by decide) HIZ.out.blk)
        have HB5 := Lib.hid hb5
        obtain ⟨m5, q5, r5, -, rfl, _, _⟩ := (Reads.of_owns hv5).shape
        clear hv5 hg5 hb5
        have HVV := Lib.hid (show w5.ownsRow w.heap.size 105 7 (.slice q5 m5 r5) (segsP l k ++ [sg]).length ((segsP l k ++ [sg]).flatMap encSeg) by rw [List.length_append, List.flatMap_append]; exact HV5.out)
        have hgt : w.heap.size ≤ w1.heap.size := HI.out.hg
        go_wp2_with ((with_reducible show wpList _ _ _ (⟨none, .store _ (.tmp 54) _, _, _, _, _⟩ :: _) _ _); go_must (refine wpList_set HBL.out (Nat.lt_of_lt_of_eq (show 5 < 6 by decide) rfl) rfl rfl hgt (Nat.le_trans HIZ.out.below.size HB5.out.size) (fun w => by kernel_rfl) ?_; intro w6 hh6 hb6 hs6; have HI6 := Lib.hid (AllInv.seg HIZ.out rfl HVV.out HG5.out hh6 hs6); clear hh6 hb6 hs6))
        go_round
        case rel => exact ⟨k + 1, q5, m5, r5, by go_num, by omega, (by rw [HSS.out]; exact HI6), (fun i hi => by
          rcases Nat.lt_succ_iff_lt_or_eq.1 hi with h | rfl
          · exact HO.out i h
          · exact HSO.out)⟩
        case measure => simp [intOf] <;> omega
      · obtain rfl : k = ns := by omega
        have HSALL : Hid (∀ i, i < nsegsP l → segOk l (64 + 56 * i) = true) := Lib.hid (fun i hi => HO.out i (by rw [E56.out] at hi; exact hi))
        have ELAST : Hid (lastP l = gN l 40 8 + 64 * (k2 + 1)) := Lib.hid (by unfold lastP; rw [E60.out])
        have HTABL : Hid ((l.drop (gN l (lastP l + 24) 8)).take (gN l (lastP l + 32) 8) = tabP l) := Lib.hid (by unfold tabP; rfl)
        have HSP := Lib.hid (secsP_succ l)
        have HC1 := Lib.hid (gN8 l (lastP l + 24))
        have HC2 := Lib.hid (gN8 l (lastP l + 32))
        have HTL := Lib.hid (show (tabP l).length ≤ 1000000000 by rw [← HTABL.out, List.length_take, List.length_drop]; have := HL9.out; omega)
        generalize gN l 40 8 = h40 at *
        by_cases hH : h40 ≤ m
        · have dH : decide (h40 ≤ m) = true := decide_eq_true hH
          have HHD : Hid (h40 ≤ l.length) := Lib.hid (by have := hm.out; omega)
          have hh9 : h40 ≤ 4194304 := by omega
          have HUA : Hid (∀ wx, Below w.heap.size w wx → Calls Tryz.prog 29 #[.slice ad m cap, .int .i64 ((h40 : Int) + 64 * ((k2 : Int) + 1) + 24), .int .i64 8] wx fun r w' => wx = w' ∧ ResU (okB l (lastP l + 24) 8) (.int .u64 (gN l (lastP l + 24) 8 : Nat)) r) := Lib.hid (fun wx hwx => by
            have h1 := ruN l (lastP l + 24) 8 _ wx HL9.out (HV.out.mono hwx)
            rw [show ((lastP l + 24 : Nat) : Int) = (h40 : Int) + 64 * ((k2 : Int) + 1) + 24 by rw [ELAST.out]; push_cast; rfl] at h1
            exact h1)
          have HUB : Hid (∀ wx, Below w.heap.size w wx → Calls Tryz.prog 29 #[.slice ad m cap, .int .i64 ((h40 : Int) + 64 * ((k2 : Int) + 1) + 32), .int .i64 8] wx fun r w' => wx = w' ∧ ResU (okB l (lastP l + 32) 8) (.int .u64 (gN l (lastP l + 32) 8 : Nat)) r) := Lib.hid (fun wx hwx => by
            have h1 := ruN l (lastP l + 32) 8 _ wx HL9.out (HV.out.mono hwx)
            rw [show ((lastP l + 32 : Nat) : Int) = (h40 : Int) + 64 * ((k2 : Int) + 1) + 32 by rw [ELAST.out]; push_cast; rfl] at h1
            exact h1)
          generalize gN l (lastP l + 24) 8 = c24 at *
          generalize gN l (lastP l + 32) 8 = c32 at *
          go_wp2_with (first
            | (go_at_call 29; (with_reducible refine (HU40.out _ HB.out).mono ?_); rintro e wu ⟨rfl, rfl⟩)
            | (go_at_call 31; refine (must_ok _).mono ?_; rintro e wu ⟨rfl, rfl⟩)
            | (go_at_call 29; (with_reducible refine (HUA.out _ HB.out).mono ?_); rintro e wu ⟨rfl, ⟨hx1, rfl⟩ | ⟨hx1, rfl⟩⟩)
            | (go_at_call 29; (with_reducible refine (HUB.out _ HB.out).mono ?_); rintro e wu ⟨rfl, ⟨hx2, rfl⟩ | ⟨hx2, rfl⟩⟩)
            | (go_at_call 61; refine (cut_any l c24 c32 _ _ HL9.out (HV.out.mono HB.out) HC1.out HC2.out).mono ?_; rintro e wu ⟨rfl, ⟨hx3, tv, rfl, htv⟩ | ⟨hx3, rfl⟩⟩))
          · rw [HTABL.out] at htv
            have HTV := Lib.hid htv
            obtain ⟨tm, tad, tcap, -, rfl, _, _⟩ := (htv wr (HV.out.mono HB.out)).shape
            have HX1 := Lib.hid hx1
            have HX2 := Lib.hid hx2
            have HX3 := Lib.hid hx3
            clear hx1 hx2 hx3 htv dH hH
            obtain ⟨wo, rfl⟩ : ∃ wo : World, wo = wr := ⟨_, rfl⟩
            go_loopw [82] (fun i wr => ∃ (j : Nat) (sq : Option Addr) (sn sr : Nat) (L : List (SecM × Value)), i = .int .i64 j ∧ j ≤ k2 ∧ Hid (AllInv w wr w1.heap.size w.heap.size [.int .i64 (gN l 16 2 : Nat), .int .i64 target, .int .u32 (gN l 48 4 : Nat), .int .u64 (gN l 24 8 : Nat)] (.slice sq sn sr) (.slice q n r) L (segsP l k)) ∧ Hid (L.map (·.1) = secsP l j) ∧ Hid (ApartS L) ∧ Hid (∀ i, i < j → secOk l (tabP l) (h40 + 64 * (i + 1)) = true)) (fun i _ => k2 - (intOf i).toNat)
            case atStart => exact ⟨0, none, 0, 0, [], rfl, Nat.zero_le _, HI, rfl, List.Pairwise.nil, (fun i hi => absurd hi (Nat.not_lt_zero i))⟩
            case round =>
              obtain ⟨j, sq, sn, sr, L, rfl, hj, HI2, HL2, HAP, HO2⟩ := hrel
              have HB3 := Lib.hid HI2.out.below
              by_cases hlt2 : j < k2
              · have e4 : wr.cell? ⟨w1.heap.size, 4, none⟩ = some (.slice sq sn sr) := cell_rec HI2.out.blk 4
                have hAB := fun (x : Above wr) (b k : Nat) (h : b < wr.heap.size) => Above.cell x b k h
                have l1 := block_lt e4
                have HSC : Hid (∀ wy (_ : Below wr.heap.size wr wy), Calls Tryz.prog 62 #[.slice ad m cap, .int .i64 ((h40 : Int) + 64 * ((j : Int) + 1)), .slice tad tm tcap] wy fun r w' => SecRes l (tabP l) (h40 + 64 * (j + 1)) wy.heap.size r w' ∧ Below wy.heap.size wy w') := Lib.hid (fun wy hwy => sec_any l (tabP l) (h40 + 64 * (j + 1)) _ _ wy HL9.out (HV.out.mono (HB3.out.trans (hwy.mono HB3.out.size))) HTL.out (HTV.out wy (HV.out.mono (HB3.out.trans (hwy.mono HB3.out.size)))) (by omega))
                have HBAD : Hid (secOk l (tabP l) (h40 + 64 * (j + 1)) = false → ¬ OkP l) := Lib.hid (fun h ho => by have := HNC.out ho j (by rw [E60.out]; exact hlt2); rw [h] at this; cases this)
                have HCY : Hid (∀ wy (_ : Below wr.heap.size wr wy), Calls Tryz.prog 62 #[.slice ad m cap, .int .i64 ((h40 : Int) + 64 * ((j : Int) + 1)), .slice tad tm tcap] wy fun r w' => (∃ v, r = .returned v ∧ (YSec (secOk l (tabP l) (h40 + 64 * (j + 1)) = true) (secP l (tabP l) (h40 + 64 * (j + 1))) wr.heap.size).R v w' ∧ Below wy.heap.size wy w') ∨ (∃ c, r = .panicked c ∧ (Exit.panic c = .panic upF ∧ ¬ OkP l) ∧ Below wy.heap.size wy w')) := Lib.hid (fun wy hwy => (HSC.out wy hwy).mono fun r w' ⟨h, hb⟩ => by
                  rcases h with ⟨h1, dv, h2, h3⟩ | ⟨h1, h2⟩
                  · exact .inl ⟨_, h2, ⟨dv, rfl, h1, h3.base hwy.size⟩, hb⟩
                  · exact .inr ⟨_, h2, ⟨rfl, HBAD.out h1⟩, hb⟩)
                have hw1 : IntKind.i64.wrap ((j : Int) + 1) = (j : Int) + 1 := by
                  have := i64_small (n := j + 1) (by omega)
                  simpa using this
                have hw2 : IntKind.i64.wrap (64 * ((j : Int) + 1)) = 64 * ((j : Int) + 1) := by
                  have := i64_small (n := 64 * (j + 1)) (by omega)
                  simpa using this
                have hw3 : IntKind.i64.wrap ((h40 : Int) + 64 * ((j : Int) + 1)) = (h40 : Int) + 64 * ((j : Int) + 1) := by
                  have := i64_small (n := h40 + 64 * (j + 1)) (by omega)
                  simpa using this
                have HSS := Lib.hid (HSP.out j)
                have HLL := Lib.hid (show L.length = j by have := congrArg List.length HL2.out; rw [secsP_len, List.length_map] at this; exact this)
                have hj9 : j ≤ 250 := by omega
                generalize secP l (tabP l) (h40 + 64 * (j + 1)) = sc at *
                go_wp2
                refine wp_region_walkU (Up := fun x => x = .panic upF ∧ ¬ OkP l) 11 [(9, YSec (secOk l (tabP l) (h40 + 64 * (j + 1)) = true) sc wr.heap.size), (10, YOneSec sc wr.heap.size)] (by kernel_rfl) (by kernel_rfl) ?_ ?_
                · rintro x a' w' ⟨⟨rfl, hso⟩, hd, hb⟩
                  exact ⟨hd, .inr ⟨hso, rfl⟩, HB3.out.trans (hb.mono HB3.out.size)⟩
                simp only [List.take_succ_cons, List.take_zero, List.drop_succ_cons, List.drop_zero]
                repeat (refine walk_quiet rfl rfl rfl ?_; intro K hK; go_big_quiet_op; go_big_quiet_on)
                refine walk_made rfl rfl (fun wy hwy _ => WpYld.callUp (run_callL (vals := [_, _, _]) Tryz.func62 (by kernel_rfl) rfl rfl) (HCY.out wy hwy)) (fun dv => ?_)
                go_frame
                refine walk_made rfl rfl (fun wy hwy hd => wp_oneSec rfl (YSec_got (hd 9 _ 94 _ rfl rfl (by kernel_rfl) rfl rfl)).2) (fun gb => ?_)
                go_frame
                refine walk_nil ?_
                intro wz hbz hF
                have HSO : Hid (secOk l (tabP l) (h40 + 64 * (j + 1)) = true) := Lib.hid (YSec_got (hF 9 _ 94 _ rfl rfl rfl rfl)).1
                obtain ⟨du, hgb, hdu⟩ := YOneSec_got (hF 10 _ 95 _ rfl rfl rfl rfl)
                have HGB := Lib.hid hgb
                have HDU := Lib.hid (hdu.base HI2.out.below.size)
                have HAP2 := Lib.hid (show ApartS (L ++ [(sc, du)]) from HAP.out.snoc (fun q hq k hk hk2 => by have h1 := (World.ownsRow.lt (HI2.out.data q hq) k hk).2; have h2 := (World.ownsRow.lt hdu k hk2).1; omega))
                have HIZ := Lib.hid (HI2.out.mono hbz)
                clear hF hAB e4 hbz hw1 hw2 hw3 hgb hdu
                refine wpList_cat TSec HIZ.out.so (rd_one rfl HGB.out rfl) rfl rfl (oneSec (L := [(sc, du)]) (fun p hp => by rw [List.mem_singleton] at hp; rw [hp]; obtain ⟨m9, p9, c9, -, h9, _, _⟩ := HDU.out.shape; rw [h9]; rfl)) (by rw [HLL.out]; simp; omega) (by rw [HLL.out]; simp; omega) HIZ.out.below.size ?_
                intro v5 w5 hv5 hg5 hb5
                have HV5 := Lib.hid hv5
                have HG5 := Lib.hid hg5
                have HBL := Lib.hid (keeps_own HIZ.out.so hg5 _ _ _ _ (show 51 ≠ 60 by decide) HIZ.out.blk)
                have HB5 := Lib.hid hb5
                obtain ⟨m5, q5, r5, -, rfl, _, _⟩ := (Reads.of_owns hv5).shape
                clear hv5 hg5 hb5
                have HVV := Lib.hid (show w5.ownsRow w.heap.size 60 10 (.slice q5 m5 r5) (L ++ [(sc, du)]).length ((L ++ [(sc, du)]).flatMap encSec) by rw [List.length_append, List.flatMap_append]; exact HV5.out)
                have hgt : w.heap.size ≤ w1.heap.size := HI2.out.hg
                go_wp2_with ((with_reducible show wpList _ _ _ (⟨none, .store _ (.tmp 97) _, _, _, _, _⟩ :: _) _ _); go_must (refine wpList_set HBL.out (Nat.lt_of_lt_of_eq (show 4 < 6 by decide) rfl) rfl rfl hgt (Nat.le_trans HIZ.out.below.size HB5.out.size) (fun w => by kernel_rfl) ?_; intro w6 hh6 hb6 hs6; have HI6 := Lib.hid (AllInv.sec HIZ.out rfl HVV.out HG5.out HDU.out hh6 hs6); clear hh6 hb6 hs6))
                go_round
                case rel => exact ⟨j + 1, q5, m5, r5, L ++ [(sc, du)], by go_num, by omega, HI6, (by rw [List.map_append, HL2.out, HSS.out]; rfl), HAP2, (fun i hi => by
                  rcases Nat.lt_succ_iff_lt_or_eq.1 hi with h | rfl
                  · exact HO2.out i h
                  · exact HSO.out)⟩
                case measure => simp [intOf] <;> omega
              · obtain rfl : j = k2 := by omega
                have HOK : Hid (OkP l) := HMK.out HSALL.out HHD.out HX1.out HX2.out HX3.out (fun i hi => HO2.out i (by rw [E60.out] at hi; exact hi))
                have HIR := Lib.hid HI2.out.res
                have d0 := cell_rec HI2.out.blk 0
                have d1 := cell_rec HI2.out.blk 1
                have d2 := cell_rec HI2.out.blk 2
                have d3 := cell_rec HI2.out.blk 3
                have d4 := cell_rec HI2.out.blk 4
                have d5 := cell_rec HI2.out.blk 5
                simp only [List.getElem?_toArray, List.cons_append, List.nil_append, List.getElem?_cons_zero, List.getElem?_cons_succ] at d0 d1 d2 d3 d4 d5
                go_wp2_with ((with_reducible show wpList _ _ _ (⟨none, .store _ (.tmp 4) _, _, _, _, _⟩ :: _) _ _); go_must (refine wpList_storeElfS HIR.out rfl rfl rfl rfl (by simp [Value.oneCell']) ?_; intro w7 hh7 hs7; have HH7 := Lib.hid hh7; have HS7 := Lib.hid hs7; clear hh7 hs7))
                have HB7 := Lib.hid (HI2.out.below.trans (HS7.out.below HI2.out.below.size (fun i hi => by rw [hi]; exact Nat.le_refl _)))
                refine bodyPost_ret (results_cell_row rfl _ _ w.heap.size _ _ _ _ rfl HH7.out rfl rfl (by kernel_rfl)) rfl ⟨.inl ⟨HOK.out, L, .slice sq sn sr, .slice q n r, ?_, ?_⟩, HB7.out⟩
                · rw [HPE.out, HK2.out]
                · have hs := HI2.out.so
                  have hg := HI2.out.go
                  rw [HPE.out, HK2.out]
                  exact ⟨⟨HL2.out.symm, owns_stirs hs HS7.out (own_ne hs HIR.out (by decide)), owns_stirs hg HS7.out (own_ne hg HIR.out (by decide)), fun p hp => owns_stirs (HI2.out.data p hp) HS7.out (own_ne (HI2.out.data p hp) HIR.out (by decide))⟩, HAP.out⟩
          · exact ⟨rfl, .inr ⟨(fun h => by have := HTB.out h; rw [hx3] at this; cases this), rfl⟩, HB.out⟩
          · exact ⟨rfl, .inr ⟨(fun h => by have := HT2.out h; rw [hx2] at this; cases this), rfl⟩, HB.out⟩
          · exact ⟨rfl, .inr ⟨(fun h => by have := HT1.out h; rw [hx1] at this; cases this), rfl⟩, HB.out⟩
        · have dH : decide (h40 ≤ m) = false := decide_eq_false hH
          have HBAD : Hid (¬ OkP l) := Lib.hid (fun h => hH (by have h1 := HNH.out h; have h2 := hm.out; omega))
          go_wp2_with (first
            | (go_at_call 29; (with_reducible refine (HU40.out _ HB.out).mono ?_); rintro e wu ⟨rfl, rfl⟩)
            | (go_at_call 31; refine (must_no _).mono ?_; rintro e wu ⟨rfl, rfl⟩))
          exact ⟨rfl, .inr ⟨HBAD.out, rfl⟩, HB.out⟩
  · have HBAD : Hid (¬ OkP l) := Lib.hid (fun h => hA ⟨h.n1, h.n2, h.n3⟩)
    by_cases c1 : gN l 56 2 ≤ 16
    · by_cases c2 : 2 ≤ gN l 60 2
      · have c3 : ¬ gN l 60 2 ≤ 252 := fun c3 => hA ⟨c1, c2, c3⟩
        clear hA
        have d3 : decide (((gN l 60 2 : Nat) : Int) - 2 ≤ 250) = false := by simp; omega
        have d2 : decide ((0 : Int) ≤ ((gN l 60 2 : Nat) : Int) - 2) = true := by simp; omega
        go_wp2_with (first
          | (go_at_call 29; (with_reducible refine (HU56.out _ HB3.out).mono ?_); rintro e wu ⟨rfl, rfl⟩)
          | (go_at_call 29; (with_reducible refine (HU60.out _ HB3.out).mono ?_); rintro e wu ⟨rfl, rfl⟩)
          | (go_at_call 31; refine (must_no _).mono ?_; rintro e wu ⟨rfl, rfl⟩))
        exact ⟨rfl, .inr ⟨HBAD.out, rfl⟩, HB3.out⟩
      · clear hA
        have d2 : decide ((0 : Int) ≤ ((gN l 60 2 : Nat) : Int) - 2) = false := by simp; omega
        have d2' : decide ((2 : Int) ≤ ((gN l 60 2 : Nat) : Int)) = false := by simp; omega
        go_wp2_with (first
          | (go_at_call 29; (with_reducible refine (HU56.out _ HB3.out).mono ?_); rintro e wu ⟨rfl, rfl⟩)
          | (go_at_call 29; (with_reducible refine (HU60.out _ HB3.out).mono ?_); rintro e wu ⟨rfl, rfl⟩)
          | (go_at_call 31; refine (must_no _).mono ?_; rintro e wu ⟨rfl, rfl⟩))
        exact ⟨rfl, .inr ⟨HBAD.out, rfl⟩, HB3.out⟩
    · clear hA
      go_wp2_with (first
        | (go_at_call 29; (with_reducible refine (HU56.out _ HB3.out).mono ?_); rintro e wu ⟨rfl, rfl⟩)
        | (go_at_call 29; (with_reducible refine (HU60.out _ HB3.out).mono ?_); rintro e wu ⟨rfl, rfl⟩)
        | (go_at_call 31; refine (must_no _).mono ?_; rintro e wu ⟨rfl, rfl⟩))
      exact ⟨rfl, .inr ⟨HBAD.out, rfl⟩, HB3.out⟩
end Go.Proofs.YtimnbnomaajmmaaGreat
namespace Go.Proofs.YtimnbnomaajmmaaGreat
open Go.RowKit Go.Fd
/-- One number into a block that was there. -/
theorem wpList_setI {P : Program} {ops : Array Oper} {rest : List Oper} {Q : Exit → Act → World → Prop} {a : Act} {w : World} {d : Option Tmp} {ty t tb : TypeId} {pos : String} {aft : Array Edge} {p x : Operand} {c : Array Value} {g j : Nat} {k : IntKind} {n : Int} (hg : w.heap[g]? = some (.cells c tb (0, 0))) (hj : j < c.size) (hp : a.eval p = .pointer (some ⟨g, j, none⟩)) (hx : a.eval x = .int k n) (hs : ∀ w, (sizeOf t).run P w = .ok 1 w)
    (h : ∀ w1, w1.heap[g]? = some (.cells (c.setIfInBounds j (.int k n)) tb (0, 0)) → Stirs (fun k => k = g) w w1 → wpList P ops Q rest (a.put d undef) w1) :
    wpList P ops Q (⟨d, .store t p x, ty, pos, aft, none⟩ :: rest) a w := by
  have hc : w.cell? ⟨g, j, none⟩ = some c[j] := (cell_rec hg j).trans (Array.getElem?_eq_getElem hj)
  have hfz := free_rec' hg j
  have hst : Stirs (fun k => k = g) w (w.setCell ⟨g, j, none⟩ (.int k n)) := stirs_setCell (S := fun k => k = g) _ g j _ rfl
  refine wpList_did (w' := w.setCell ⟨g, j, none⟩ (.int k n)) rfl ?_ (h _ ?_ hst)
  · simp only [execOp, hp, hx]
    simp [go_sem, hs, hc, hfz]
  · simp [World.setCell, Array.getElem?_modify, hg]
set_option maxRecDepth 100000 in
theorem catch_up (g1 g2 : Nat) (c1 : Array Value) (v2 : Value) (older : List PanicEntry) (w : World) (h1 : w.heap[g1]? = some (.cells c1 51 (0, 0))) (hc1 : c1.size = 6) (h2 : w.heap[g2]? = some (.cells #[v2] 29 (0, 0))) (hne : g1 ≠ g2) :
    CallsD Tryz.prog 27 #[.pointer (some ⟨g1, 0, none⟩), .pointer (some ⟨g2, 0, none⟩)] (.panicking ({ v := .iface 70 (.agg #[]), recovered := false } :: older)) w fun e u' w' =>
      e = .returned (.tuple #[]) ∧ u' = .panicking ({ v := .iface 70 (.agg #[]), recovered := true } :: older) ∧ w'.heap[g1]? = some (.cells elfZ 51 (0, 0)) ∧ w'.heap[g2]? = some (.cells #[.int .i64 4] 29 (0, 0)) ∧ Stirs (fun k => k = g1 ∨ k = g2) w w' := by
  refine callsD_of_wpS Tryz.func27 rfl fun c₀ cs hu => ?_
  apply wpS_seq
  apply wpS_region
  simp [wpOpsS, go_sem, recoverD, hu, Tryz.ntmps27, Exit.thenS]
  refine wpS_of_wp ?_
  have hta : ∀ w, (Instr.typeAssert (.iface 70 (.agg #[])) 20 70 true).run Tryz.prog w = .ok (.tuple #[.agg #[], .bool true]) w := fun w => by kernel_rfl
  have H1 := Lib.hid h1
  have H2 := Lib.hid h2
  have HNE := Lib.hid hne
  have HC1 := Lib.hid hc1
  clear h1 h2 hne hc1
  go_wp2_with (first
    | ((with_reducible show wpList _ _ _ (⟨none, .store _ (.tmp 0) _, _, _, _, _⟩ :: _) _ _); go_must (refine wpList_storeElfS (heap_below (below_alloc w _) H1.out) rfl rfl HC1.out rfl (by simp [Value.oneCell']) ?_; intro w1 hh1 hs1; have HH1 := Lib.hid hh1; have HS1 := Lib.hid hs1; clear hh1 hs1))
    | ((with_reducible show wpList _ _ _ (⟨none, .store _ (.tmp 1) _, _, _, _, _⟩ :: _) _ _); go_must (refine wpList_setI (HS1.out.kept (heap_below (below_alloc w _) H2.out) (fun h => HNE.out h.symm)) (show 0 < 1 by decide) rfl rfl (fun w => by kernel_rfl) ?_; intro w2 hh2 hs2; have HH2 := Lib.hid hh2; have HS2 := Lib.hid hs2; clear hh2 hs2)))
  refine ⟨rfl, _, rfl, .tuple #[], by simp [results, Tryz.results27, go_sem], rfl, rfl, HS2.out.kept HH1.out HNE.out, HH2.out, ?_⟩
  refine Stirs.trans (S := fun k => k = g1 ∨ k = g2) (S' := fun k => k = g1 ∨ k = g2) (Stirs.of_below (below_alloc w _)) (Stirs.trans (S := fun k => k = g1 ∨ k = g2) (S' := fun k => k = g2) (HS1.out.sub fun _ _ h => .inl h) HS2.out fun _ _ h => .inr h) fun _ _ h => h
set_option maxRecDepth 100000 in
theorem catch_no (p1 p2 : Value) (w : World) :
    CallsD Tryz.prog 27 #[p1, p2] .returning w fun e u' w' => e = .returned (.tuple #[]) ∧ u' = .returning ∧ w' = w := by
  refine callsD_of_wpS Tryz.func27 rfl fun c₀ cs hu => ?_
  apply wpS_seq
  apply wpS_region
  simp [wpOpsS, go_sem, recoverD, hu, Tryz.ntmps27, Exit.thenS]
  refine wpS_of_wp ?_
  go_wp2
  refine ⟨rfl, .returning, by cases c₀; simp_all, .tuple #[], by simp [results, Tryz.results27, go_sem], rfl, rfl, rfl⟩
end Go.Proofs.YtimnbnomaajmmaaGreat
namespace Go.Proofs.YtimnbnomaajmmaaGreat
open Go.RowKit Go.Fd
def elf0 : ElfM := ⟨0, 0, 0, 0, [], []⟩
/-- The target whose number is n, up to the k-th. -/
def tgt (n : Nat) : Nat → Int
  | 0 => 0
  | k + 1 => if mach ((k : Int) + 1) = n then (k : Int) + 1 else tgt n k
def magicE : List UInt8 := [127, 69, 76, 70, 2, 1, 1]
def targetR (l : List UInt8) : Int := tgt (gN l 18 2) 3
/-- What is told of bytes by their length, their first ones and their target; 0: nothing. -/
def codeR (l : List UInt8) : Int := if 4194304 < l.length then 6 else if l.length < 64 then 2 else if l.take 7 ≠ magicE then 4 else if targetR l = 0 then 11 else 0
open Classical in
/-- What is read of bytes. -/
noncomputable def readE (l : List UInt8) : ElfM × Int :=
  if codeR l ≠ 0 then (elf0, codeR l) else if OkP l ∧ mayE (parseE l (targetR l)) = true ∧ fileB (parseE l (targetR l)) = l then (parseE l (targetR l), 0) else (elf0, 4)
theorem tgt_le (n : Nat) : ∀ k, 0 ≤ tgt n k ∧ tgt n k ≤ k := by
  intro k
  induction k with
  | zero => exact ⟨Int.le_refl _, Int.le_refl _⟩
  | succ k ih =>
    unfold tgt
    split
    · omega
    · omega
theorem atR_len (tab : List UInt8) (a : Int) : (atR tab a).1.length ≤ 128 := by
  unfold atR
  split
  · simp
  · split
    · simp
    · split
      · simp
      · next g _ hg => exact Nat.not_lt.1 hg
theorem secsP_get {l : List UInt8} {n i : Nat} {s : SecM} (h : (secsP l n)[i]? = some s) : s = secP l (tabP l) (gN l 40 8 + 64 * (i + 1)) := by
  unfold secsP at h
  rw [List.getElem?_map] at h
  rcases Nat.lt_or_ge i n with hi | hi
  · rw [List.getElem?_range hi] at h
    simpa using h.symm
  · rw [List.getElem?_eq_none (by simpa using hi)] at h
    cases h
theorem secP_name (l tab : List UInt8) (a : Nat) : (secP l tab a).name.length ≤ 9223372036854775807 := by
  unfold secP
  dsimp only
  have := atR_len tab ((gN l a 4 : Nat) : Int)
  omega
theorem secP_fits (l tab : List UInt8) (a : Nat) : (secP l tab a).fits := ⟨gN4 _ _, gN8 _ _, gN8 _ _, gN8 _ _, gN8 _ _, gN4 _ _, gN4 _ _, gN8 _ _⟩
theorem secP_data (l tab : List UInt8) (a : Nat) : (secP l tab a).data.length ≤ l.length := by
  show (if _ then _ else _ : List UInt8).length ≤ _
  split
  · simp
  · rw [List.length_take, List.length_drop]; omega
theorem dsum_le {l : List SecM} {m : Nat} (h : ∀ s ∈ l, s.data.length ≤ m) : dsum l ≤ l.length * m := by
  unfold dsum
  induction l with
  | nil => simp
  | cons x l ih =>
    rw [List.map_cons, List.sum_cons, List.length_cons, Nat.succ_mul]
    have := h x (by simp)
    have := ih fun s hs => h s (by simp [hs])
    omega
theorem parse_ok {l : List UInt8} (hl : l.length ≤ 4194304) (h : OkP l) : ElfOk (parseE l (targetR l)) := by
  have hs : ∀ s ∈ secsP l (nsecsP l), ∃ a, s = secP l (tabP l) a := fun s hs => by
    obtain ⟨i, hi⟩ := List.mem_iff_getElem?.1 hs
    exact ⟨_, secsP_get hi⟩
  have hg : ∀ s ∈ segsP l (nsegsP l), s.fits := fun s hs => by
    unfold segsP at hs
    obtain ⟨i, -, rfl⟩ := List.mem_map.1 hs
    exact segP_fits _ _
  have h1 := gN2 l 16
  have h2 := tgt_le (gN l 18 2) 3
  have hn : nsecsP l ≤ 250 := by have := h.n3; unfold nsecsP; omega
  have hm : nsegsP l ≤ 16 := h.n1
  refine ⟨⟨?_, ?_, gN4 _ _, gN8 _ _, fun s h => ?_, hg⟩, ?_, fun s h => ?_, ?_, ?_⟩
  · show -9223372036854775808 ≤ ((gN l 16 2 : Nat) : Int) ∧ ((gN l 16 2 : Nat) : Int) < 9223372036854775808
    omega
  · show -9223372036854775808 ≤ targetR l ∧ targetR l < 9223372036854775808
    unfold targetR; omega
  · obtain ⟨a, rfl⟩ := hs s h
    exact secP_fits _ _ _
  · show dsum (secsP l (nsecsP l)) ≤ _
    have := dsum_le (l := secsP l (nsecsP l)) (m := 4194304) fun s h => by
      obtain ⟨a, rfl⟩ := hs s h
      exact Nat.le_trans (secP_data _ _ _) hl
    rw [secsP_len] at this
    have := Nat.mul_le_mul_right 4194304 hn
    omega
  · obtain ⟨a, rfl⟩ := hs s h
    exact secP_name _ _ _
  · show (secsP l (nsecsP l)).length ≤ _
    rw [secsP_len]; omega
  · show (segsP l (nsegsP l)).length ≤ _
    rw [segsP_len]; omega
/-- A file comes, in memory of its own, and an error's number. -/
def RdRes (l : List UInt8) (base : Nat) (r : Ending) (w : World) : Prop := ∃ L sv gv, r = .returned (.tuple #[elfV (readE l).1 sv gv, .int .i64 (readE l).2]) ∧ ElfOwn w base (readE l).1 L sv gv
/-- The same, and no two sections' bytes lie in one block. -/
def RdResA (l : List UInt8) (base : Nat) (r : Ending) (w : World) : Prop := ∃ L sv gv, r = .returned (.tuple #[elfV (readE l).1 sv gv, .int .i64 (readE l).2]) ∧ ElfOwn w base (readE l).1 L sv gv ∧ ApartS L
theorem ElfOwn.zero (w : World) (base : Nat) : ElfOwn w base elf0 [] (.slice none 0 0) (.slice none 0 0) := ⟨rfl, OwR.nil _ _ _ _ _, OwR.nil _ _ _ _ _, fun p hp => by cases hp⟩
set_option maxRecDepth 100000 in
theorem RdRes.code {l : List UInt8} {base : Nat} {w : World} {x : Int} (h : readE l = (elf0, x)) : RdRes l base (.returned (.tuple #[.agg elfZ, .int .i64 x])) w := by
  refine ⟨[], .slice none 0 0, .slice none 0 0, ?_, ?_⟩
  · rw [h]
    rfl
  · rw [h]
    exact ElfOwn.zero _ _
set_option maxRecDepth 100000 in
theorem RdResA.code {l : List UInt8} {base : Nat} {w : World} {x : Int} (h : readE l = (elf0, x)) : RdResA l base (.returned (.tuple #[.agg elfZ, .int .i64 x])) w := by
  refine ⟨[], .slice none 0 0, .slice none 0 0, ?_, ?_⟩
  · rw [h]
    rfl
  · rw [h]
    exact ⟨ElfOwn.zero _ _, List.Pairwise.nil⟩
/-- A block of one error's number. -/
theorem wpList_allocErr {ops : Array Oper} {rest : List Oper} {Q : Exit → Act → World → Prop} {a : Act} {w : World} {d : Option Tmp} {ty : TypeId} {pos : String} {aft : Array Edge}
    (h : ∀ w1, w1.heap[w.heap.size]? = some (.cells #[.int .i64 0] 29 (0, 0)) → Below w.heap.size w w1 → w.heap.size < w1.heap.size → wpList Tryz.prog ops Q rest (a.put d (.pointer (some ⟨w.heap.size, 0, none⟩))) w1) :
    wpList Tryz.prog ops Q (⟨d, .alloc 29, ty, pos, aft, none⟩ :: rest) a w :=
  wpList_val rfl (by kernel_rfl) (h (w.alloc (.cells #[.int .i64 0] 29)) (heap_alloc_last w _) (below_alloc w _) (by rw [World.size_alloc]; omega))
theorem Bs.take {w : World} {ad : Option Addr} {m cap k : Nat} {l : List UInt8} (h : Bs w (.slice ad m cap) l) (hk : k ≤ m) : Bs w (.slice ad k cap) (l.take k) := by
  obtain ⟨h1, a, c, h2, h3, h0, h4⟩ := h
  injection h2 with e1 e2 e3
  subst e1 e3
  refine ⟨by simp, ad, cap, by rw [List.length_take, Nat.min_eq_left (by omega)], by rw [List.length_take]; omega, h0, fun j hj => ?_⟩
  have hj' : j < k ∧ j < l.length := by rw [List.length_map, List.length_take] at hj; omega
  obtain ⟨b, off, e, hc⟩ := h4 j (by simpa using hj'.2)
  refine ⟨b, off, e, hc.trans ?_⟩
  rw [List.map_take, List.getElem?_take, if_pos hj'.1]
attribute [local irreducible] gN okB inB atR segOk secOk segP secP tabP readE
set_option maxHeartbeats 8000000 in
set_option maxRecDepth 100000 in
theorem readEA_any (l : List UInt8) (v : Value) (w : World) (hl : l.length ≤ 1000000000) (hv : Bs w v l) :
    Calls Tryz.prog 14 #[v] w fun r w' => RdResA l w.heap.size r w' ∧ Below w.heap.size w w' := by
  have HV := Lib.hid hv
  obtain ⟨m, ad, cap, hm, rfl, hmc, _⟩ := hv.shape
  have HL9 := Lib.hid hl
  have hm9 : m ≤ 1000000000 := by have := hm.out; omega
  have HC6 := Lib.hid (show 4194304 < m → readE l = (elf0, 6) from fun h => by
    have h1 := hm.out
    unfold readE codeR
    simp only [if_pos (show 4194304 < l.length by omega)]
    rw [if_pos (by decide)])
  have HC2 := Lib.hid (show ¬ 4194304 < m → m < 64 → readE l = (elf0, 2) from fun h h' => by
    have h1 := hm.out
    unfold readE codeR
    simp only [if_neg (show ¬ 4194304 < l.length by omega), if_pos (show l.length < 64 by omega)]
    rw [if_pos (by decide)])
  have HC4 := Lib.hid (show ¬ 4194304 < m → ¬ m < 64 → ¬ l.take 7 = magicE → readE l = (elf0, 4) from fun h h' h'' => by
    have h1 := hm.out
    unfold readE codeR
    simp only [if_neg (show ¬ 4194304 < l.length by omega), if_neg (show ¬ l.length < 64 by omega)]
    rw [if_pos h'']
    rw [if_pos (by decide)])
  clear hv
  by_cases h6 : 4194304 < m
  · have HR := Lib.hid (HC6.out h6)
    have d1 : decide ((4194304 : Int) < (m : Int)) = true := by simp; omega
    clear HC6
    go_enter_defers Tryz.func14, Tryz.ntmps14
    go_wp2_with (first
      | ((with_reducible show wpList _ _ _ (⟨some 2, .alloc _, _, _, _, _⟩ :: _) _ _); go_must (refine wpList_allocElf ?_; intro w1 hx1 hb1 hs1; have HX1 := Lib.hid hx1; have HB1 := Lib.hid hb1; clear hx1 hb1))
      | ((with_reducible show wpList _ _ _ (⟨some 3, .alloc _, _, _, _, _⟩ :: _) _ _); go_must (refine wpList_allocErr ?_; intro w2 hx2 hb2 hs2; have HX2 := Lib.hid hx2; have HX12 := Lib.hid (heap_below hb2 HX1.out); have HB2 := Lib.hid (HB1.out.trans (hb2.mono HB1.out.size)); clear hx2 hb2))
      | ((with_reducible show wpList _ _ _ (⟨none, .store _ (.tmp 2) _, _, _, _, _⟩ :: _) _ _); go_must (refine wpList_storeElfS HX12.out rfl rfl rfl rfl (by simp [Value.oneCell']) ?_; intro w3 hh3 hs3; have HH3 := Lib.hid hh3; have HX23 := Lib.hid (hs3.kept HX2.out (show ¬ w1.heap.size = w.heap.size by omega)); have HB3 := Lib.hid (HB2.out.trans (hs3.below HB2.out.size (fun j hj => by rw [hj]; exact Nat.le_refl _))); clear hh3 hs3))
      | ((with_reducible show wpList _ _ _ (⟨none, .store _ (.tmp 3) _, _, _, _, _⟩ :: _) _ _); go_must (refine wpList_setI HX23.out (show 0 < 1 by decide) rfl rfl (fun w => by kernel_rfl) ?_; intro w4 hh4 hs4; have HH4 := Lib.hid hh4; have HH34 := Lib.hid (hs4.kept HH3.out (show ¬ w.heap.size = w1.heap.size by omega)); have HB4 := Lib.hid (HB3.out.trans (hs4.below HB3.out.size (fun j hj => by rw [hj]; exact HB1.out.size))); clear hh4 hs4)))
    have c0 : w4.cell? ⟨w.heap.size, 0, none⟩ = some (.int .i64 0) := cell_rec HH34.out 0
    have c1 : w4.cell? ⟨w.heap.size, 1, none⟩ = some (.int .i64 0) := cell_rec HH34.out 1
    have c2 : w4.cell? ⟨w.heap.size, 2, none⟩ = some (.int .u32 0) := cell_rec HH34.out 2
    have c3 : w4.cell? ⟨w.heap.size, 3, none⟩ = some (.int .u64 0) := cell_rec HH34.out 3
    have c4 : w4.cell? ⟨w.heap.size, 4, none⟩ = some (.slice none 0 0) := cell_rec HH34.out 4
    have c5 : w4.cell? ⟨w.heap.size, 5, none⟩ = some (.slice none 0 0) := cell_rec HH34.out 5
    have d0 : w4.cell? ⟨w1.heap.size, 0, none⟩ = some (.int .i64 6) := cell_rec HH4.out 0
    refine leaves_cons (f := 27) (args := #[.pointer (some ⟨w.heap.size, 0, none⟩), .pointer (some ⟨w1.heap.size, 0, none⟩)]) (by simp) (by simp [go_sem]) ?_
    refine (catch_no _ _ _).mono ?_
    rintro e u' w'' ⟨rfl, rfl, rfl⟩
    simp [Leaves, settle, results, Tryz.results14, go_sem, c0, c1, c2, c3, c4, c5, d0]
    exact ⟨RdResA.code HR.out, HB4.out⟩
  · have d1 : decide ((4194304 : Int) < (m : Int)) = false := by simp; omega
    have hm4 : m ≤ 4194304 := Nat.not_lt.1 h6
    by_cases h2 : m < 64
    · have HR := Lib.hid (HC2.out h6 h2)
      have d2 : decide ((m : Int) < 64) = true := by simp; omega
      clear HC6 HC2 HC4 h6
      go_enter_defers Tryz.func14, Tryz.ntmps14
      go_wp2_with (first
        | ((with_reducible show wpList _ _ _ (⟨some 2, .alloc _, _, _, _, _⟩ :: _) _ _); go_must (refine wpList_allocElf ?_; intro w1 hx1 hb1 hs1; have HX1 := Lib.hid hx1; have HB1 := Lib.hid hb1; clear hx1 hb1))
        | ((with_reducible show wpList _ _ _ (⟨some 3, .alloc _, _, _, _, _⟩ :: _) _ _); go_must (refine wpList_allocErr ?_; intro w2 hx2 hb2 hs2; have HX2 := Lib.hid hx2; have HX12 := Lib.hid (heap_below hb2 HX1.out); have HB2 := Lib.hid (HB1.out.trans (hb2.mono HB1.out.size)); clear hx2 hb2))
        | ((with_reducible show wpList _ _ _ (⟨none, .store _ (.tmp 2) _, _, _, _, _⟩ :: _) _ _); go_must (refine wpList_storeElfS HX12.out rfl rfl rfl rfl (by simp [Value.oneCell']) ?_; intro w3 hh3 hs3; have HH3 := Lib.hid hh3; have HX23 := Lib.hid (hs3.kept HX2.out (show ¬ w1.heap.size = w.heap.size by omega)); have HB3 := Lib.hid (HB2.out.trans (hs3.below HB2.out.size (fun j hj => by rw [hj]; exact Nat.le_refl _))); clear hh3 hs3))
        | ((with_reducible show wpList _ _ _ (⟨none, .store _ (.tmp 3) _, _, _, _, _⟩ :: _) _ _); go_must (refine wpList_setI HX23.out (show 0 < 1 by decide) rfl rfl (fun w => by kernel_rfl) ?_; intro w4 hh4 hs4; have HH4 := Lib.hid hh4; have HH34 := Lib.hid (hs4.kept HH3.out (show ¬ w.heap.size = w1.heap.size by omega)); have HB4 := Lib.hid (HB3.out.trans (hs4.below HB3.out.size (fun j hj => by rw [hj]; exact HB1.out.size))); clear hh4 hs4)))
      have c0 : w4.cell? ⟨w.heap.size, 0, none⟩ = some (.int .i64 0) := cell_rec HH34.out 0
      have c1 : w4.cell? ⟨w.heap.size, 1, none⟩ = some (.int .i64 0) := cell_rec HH34.out 1
      have c2 : w4.cell? ⟨w.heap.size, 2, none⟩ = some (.int .u32 0) := cell_rec HH34.out 2
      have c3 : w4.cell? ⟨w.heap.size, 3, none⟩ = some (.int .u64 0) := cell_rec HH34.out 3
      have c4 : w4.cell? ⟨w.heap.size, 4, none⟩ = some (.slice none 0 0) := cell_rec HH34.out 4
      have c5 : w4.cell? ⟨w.heap.size, 5, none⟩ = some (.slice none 0 0) := cell_rec HH34.out 5
      have d0 : w4.cell? ⟨w1.heap.size, 0, none⟩ = some (.int .i64 2) := cell_rec HH4.out 0
      refine leaves_cons (f := 27) (args := #[.pointer (some ⟨w.heap.size, 0, none⟩), .pointer (some ⟨w1.heap.size, 0, none⟩)]) (by simp) (by simp [go_sem]) ?_
      refine (catch_no _ _ _).mono ?_
      rintro e u' w'' ⟨rfl, rfl, rfl⟩
      simp [Leaves, settle, results, Tryz.results14, go_sem, c0, c1, c2, c3, c4, c5, d0]
      exact ⟨RdResA.code HR.out, HB4.out⟩
    · have d2 : decide ((m : Int) < 64) = false := by simp; omega
      have hm64 : 64 ≤ m := Nat.not_lt.1 h2
      have HS7 : Hid (∀ wx, Below w.heap.size w wx → (convert 22 9 (.slice ad 7 cap)).run Tryz.prog wx = .ok (.string ⟨(l.take 7).toArray⟩) wx) := Lib.hid (fun wx hwx => run_str ((HV.out.mono hwx).take (by omega)))
      by_cases h4 : l.take 7 = magicE
      · have d4 : (l.take 7 == [127, 69, 76, 70, 2, 1, 1]) = true := by rw [beq_iff_eq]; exact h4
        have d4' : (l.take 7 != [127, 69, 76, 70, 2, 1, 1]) = false := by rw [h4]; rfl
        have HCD : Hid (codeR l = if targetR l = 0 then 11 else 0) := Lib.hid (by
          have h1 := hm.out
          unfold codeR
          rw [if_neg (show ¬ 4194304 < l.length by omega), if_neg (show ¬ l.length < 64 by omega), if_neg (fun h => h h4)])
        have HU18 : Hid (∀ wx, Below w.heap.size w wx → Calls Tryz.prog 29 #[.slice ad m cap, .int .i64 18, .int .i64 2] wx fun r w' => r = .returned (.int .u64 (gN l 18 2 : Nat)) ∧ wx = w') := Lib.hid (fun wx hwx => (ruN l 18 2 _ wx HL9.out (HV.out.mono hwx)).mono fun r w' ⟨hw, h⟩ => by
          have h1 := hm.out
          rw [okB_iff sz2, show decide (18 + 2 ≤ l.length) = true by simp; omega] at h
          rcases h with ⟨_, h⟩ | ⟨h, _⟩
          · exact ⟨h, hw⟩
          · cases h)
        have HTG : Hid (targetR l = tgt (gN l 18 2) 3) := rfl
        have b18 := gN2 l 18
        generalize l.take 7 = t7 at *
        clear HC6 HC2 HC4 h6 h2 h4
        go_enter_defers Tryz.func14, Tryz.ntmps14
        go_wp2_with (first
          | ((with_reducible show wpList _ _ _ (⟨some 2, .alloc _, _, _, _, _⟩ :: _) _ _); go_must (refine wpList_allocElf ?_; intro w1 hx1 hb1 hs1; have HX1 := Lib.hid hx1; have HB1 := Lib.hid hb1; clear hx1 hb1))
          | ((with_reducible show wpList _ _ _ (⟨some 3, .alloc _, _, _, _, _⟩ :: _) _ _); go_must (refine wpList_allocErr ?_; intro w2 hx2 hb2 hs2; have HX2 := Lib.hid hx2; have HX12 := Lib.hid (heap_below hb2 HX1.out); have HB2 := Lib.hid (HB1.out.trans (hb2.mono HB1.out.size)); have hs7 := HS7.out _ HB2.out; clear hx2 hb2)))
        clear hs7 d4 d4' HS7
        generalize gN l 18 2 = n18 at *
        go_loop [4, 5] (fun t i => ∃ k : Nat, i = .int .i64 ((k : Int) + 1) ∧ k ≤ 3 ∧ t = .int .i64 (tgt n18 k)) (fun _ i => 4 - (intOf i).toNat)
        case atStart => exact ⟨0, rfl, by omega, rfl⟩
        case round =>
          obtain ⟨k, rfl, hk, rfl⟩ := hrel
          by_cases hk3 : k < 3
          · have HT1 : Hid (tgt n18 (k + 1) = if mach ((k : Int) + 1) = n18 then (k : Int) + 1 else tgt n18 k) := rfl
            have HM := Lib.hid (fun wx => machine_any ((k : Int) + 1) wx)
            have hm243 := mach_le ((k : Int) + 1)
            by_cases hmk : mach ((k : Int) + 1) = n18
            · have HT2 : Hid (tgt n18 (k + 1) = (k : Int) + 1) := Lib.hid (by rw [HT1.out, if_pos hmk])
              have q1 : ((mach ((k : Int) + 1) : Nat) : Int) = (n18 : Int) := by rw [hmk]
              have q2 : (((mach ((k : Int) + 1) : Nat) : Int) == (n18 : Int)) = true := by rw [q1]; simp
              have HQ := Lib.hid hmk
              clear hmk q1
              go_wp2_with (first
                | (go_at_call 28; refine (HM.out _).mono ?_; rintro e wu ⟨rfl, rfl⟩)
                | (go_at_call 29; refine (HU18.out _ HB2.out).mono ?_; rintro e wu ⟨rfl, rfl⟩))
              go_round
              case rel => exact ⟨k + 1, by go_num, by omega, by rw [HT2.out]⟩
              case measure => simp [intOf] <;> omega
            · have HT2 : Hid (tgt n18 (k + 1) = tgt n18 k) := Lib.hid (by rw [HT1.out, if_neg hmk])
              have q2 : (((mach ((k : Int) + 1) : Nat) : Int) == (n18 : Int)) = false := by rw [beq_eq_false_iff_ne]; omega
              have HQ := Lib.hid hmk
              clear hmk
              go_wp2_with (first
                | (go_at_call 28; refine (HM.out _).mono ?_; rintro e wu ⟨rfl, rfl⟩)
                | (go_at_call 29; refine (HU18.out _ HB2.out).mono ?_; rintro e wu ⟨rfl, rfl⟩))
              go_round
              case rel => exact ⟨k + 1, by go_num, by omega, by rw [HT2.out]⟩
              case measure => simp [intOf] <;> omega
          · obtain rfl : k = 3 := by omega
            have HT3 : Hid (tgt n18 3 = targetR l) := Lib.hid HTG.out.symm
            have HTB := Lib.hid (tgt_le n18 3)
            generalize tgt n18 3 = tg at *
            by_cases ht : tg = 0
            · have HR := Lib.hid (show readE l = (elf0, 11) by
                have h1 := HCD.out
                rw [← HT3.out, if_pos ht] at h1
                unfold readE
                rw [h1, if_pos (by decide)])
              have t1 : (tg == (0 : Int)) = true := by rw [ht]; rfl
              have HZ := Lib.hid ht
              clear ht
              go_wp2_with (first
                | ((with_reducible show wpList _ _ _ (⟨none, .store _ (.tmp 2) _, _, _, _, _⟩ :: _) _ _); go_must (refine wpList_storeElfS HX12.out rfl rfl rfl rfl (by simp [Value.oneCell']) ?_; intro w3 hh3 hs3; have HH3 := Lib.hid hh3; have HX23 := Lib.hid (hs3.kept HX2.out (show ¬ w1.heap.size = w.heap.size by omega)); have HB3 := Lib.hid (HB2.out.trans (hs3.below HB2.out.size (fun j hj => by rw [hj]; exact Nat.le_refl _))); clear hh3 hs3))
                | ((with_reducible show wpList _ _ _ (⟨none, .store _ (.tmp 3) _, _, _, _, _⟩ :: _) _ _); go_must (refine wpList_setI HX23.out (show 0 < 1 by decide) rfl rfl (fun w => by kernel_rfl) ?_; intro w4 hh4 hs4; have HH4 := Lib.hid hh4; have HH34 := Lib.hid (hs4.kept HH3.out (show ¬ w.heap.size = w1.heap.size by omega)); have HB4 := Lib.hid (HB3.out.trans (hs4.below HB3.out.size (fun j hj => by rw [hj]; exact HB1.out.size))); clear hh4 hs4)))
              have c0 : w4.cell? ⟨w.heap.size, 0, none⟩ = some (.int .i64 0) := cell_rec HH34.out 0
              have c1 : w4.cell? ⟨w.heap.size, 1, none⟩ = some (.int .i64 0) := cell_rec HH34.out 1
              have c2 : w4.cell? ⟨w.heap.size, 2, none⟩ = some (.int .u32 0) := cell_rec HH34.out 2
              have c3 : w4.cell? ⟨w.heap.size, 3, none⟩ = some (.int .u64 0) := cell_rec HH34.out 3
              have c4 : w4.cell? ⟨w.heap.size, 4, none⟩ = some (.slice none 0 0) := cell_rec HH34.out 4
              have c5 : w4.cell? ⟨w.heap.size, 5, none⟩ = some (.slice none 0 0) := cell_rec HH34.out 5
              have d0 : w4.cell? ⟨w1.heap.size, 0, none⟩ = some (.int .i64 11) := cell_rec HH4.out 0
              refine leaves_cons (f := 27) (args := #[.pointer (some ⟨w.heap.size, 0, none⟩), .pointer (some ⟨w1.heap.size, 0, none⟩)]) (by simp) (by simp [go_sem]) ?_
              refine (catch_no _ _ _).mono ?_
              rintro e u' w'' ⟨rfl, rfl, rfl⟩
              simp [Leaves, settle, results, Tryz.results14, go_sem, c0, c1, c2, c3, c4, c5, d0]
              exact ⟨RdResA.code HR.out, HB4.out⟩
            · have HCD0 := Lib.hid (show codeR l = 0 by
                have h1 := HCD.out
                rw [← HT3.out, if_neg ht] at h1
                exact h1)
              have t1 : (tg == (0 : Int)) = false := by rw [beq_eq_false_iff_ne]; exact ht
              have HZ := Lib.hid ht
              have HROK := Lib.hid (show OkP l → mayE (parseE l tg) = true → fileB (parseE l tg) = l → readE l = (parseE l tg, 0) from fun h1 h2 h3 => by
                unfold readE
                rw [HT3.out] at h2 h3 ⊢
                rw [if_neg (fun h => h HCD0.out), if_pos ⟨h1, h2, h3⟩])
              have HRNO := Lib.hid (show ¬ (OkP l ∧ mayE (parseE l tg) = true ∧ fileB (parseE l tg) = l) → readE l = (elf0, 4) from fun h1 => by
                unfold readE
                rw [HT3.out] at h1
                rw [if_neg (fun h => h HCD0.out), if_neg h1])
              have HPOK := Lib.hid (show OkP l → ElfOk (parseE l tg) from fun h => by rw [HT3.out]; exact parse_ok (by have := hm.out; omega) h)
              have HALL := Lib.hid (show Calls Tryz.prog 30 #[.slice ad m cap, .int .i64 tg] w2 fun r w' => (OkP l ∧ (∃ L sv gv, r = .returned (elfV (parseE l tg) sv gv) ∧ ElfOwn w' w2.heap.size (parseE l tg) L sv gv ∧ ApartS L) ∨ ¬ OkP l ∧ r = .panicked upF) ∧ Below w2.heap.size w2 w' from all_any l tg _ w2 (by have := hm.out; omega) (by have := hm.out; omega) (HV.out.mono HB2.out))
              clear ht HCD
              generalize parseE l tg = pe at *
              go_wp2_with (fail)
              refine HALL.out.mono ?_
              rintro e wA ⟨⟨hok, L, sv, gv, rfl, hown, hap⟩ | ⟨hno, rfl⟩, hbA⟩
              all_goals try have HAP := Lib.hid hap
              · have HBA := Lib.hid hbA
                have HXA2 := Lib.hid (heap_below hbA HX12.out)
                have HXA3 := Lib.hid (heap_below hbA HX2.out)
                have HBAA := Lib.hid (HB2.out.trans (hbA.mono HB2.out.size))
                obtain ⟨sn, sa, sc, -, rfl, _, _⟩ := hown.so.shape
                obtain ⟨gn, ga, gc, -, rfl, _, _⟩ := hown.go.shape
                have HOWN := Lib.hid (show ElfOwn wA w.heap.size pe L (.slice sa sn sc) (.slice ga gn gc) from ⟨hown.secs, hown.so.rebase HB2.out.size, hown.go.rebase HB2.out.size, fun p hp => (hown.data p hp).base HB2.out.size⟩)
                have HOKP := Lib.hid hok
                clear hbA hown hok
                go_wp2_with ((with_reducible show wpList _ _ _ (⟨none, .store _ (.tmp 2) (.tmp 40), _, _, _, _⟩ :: _) _ _); go_must (refine wpList_storeElfS HXA2.out rfl rfl rfl rfl (by simp [Value.oneCell']) ?_; intro w3 hh3 hs3; have HH3 := Lib.hid hh3; have HX33 := Lib.hid (hs3.kept HXA3.out (show ¬ w1.heap.size = w.heap.size by omega)); have HB3 := Lib.hid (HBAA.out.trans (hs3.below HBAA.out.size (fun j hj => by rw [hj]; exact Nat.le_refl _))); have HS3 := Lib.hid hs3; obtain ⟨c0, c1, c2, c3, c4, c5⟩ := elf_box HH3.out; clear hh3 hs3))
                have HOW3 := Lib.hid (show ElfOwn w3 w.heap.size pe L (.slice sa sn sc) (.slice ga gn gc) from ⟨HOWN.out.secs, owns_stirs HOWN.out.so HS3.out (own_ne HOWN.out.so HXA2.out (by decide)), owns_stirs HOWN.out.go HS3.out (own_ne HOWN.out.go HXA2.out (by decide)), fun p hp => owns_stirs (HOWN.out.data p hp) HS3.out (own_ne (HOWN.out.data p hp) HXA2.out (by decide))⟩)
                have HW := writeE_any pe L _ _ w3 HOW3.out.at (HPOK.out HOKP.out)
                clear HX12 HX2 HALL
                cases hmay : mayE pe with
                | false =>
                  rw [fileW_no hmay] at HW
                  have HMAY := Lib.hid hmay
                  clear hmay
                  refine HW.mono ?_
                  rintro e wB ⟨v9, rfl, hov, hbB⟩
                  obtain ⟨vn, va, vc, -, rfl, _, _⟩ := hov.shape
                  have HBB := Lib.hid hbB
                  clear hov hbB
                  go_wp2_with (go_at_call 31; refine (must_no _).mono ?_; rintro e wu ⟨rfl, rfl⟩)
                  have HPX := Lib.hid (heap_below HBB.out HH3.out)
                  have HPY := Lib.hid (heap_below HBB.out HX33.out)
                  have HBL := Lib.hid (HB3.out.trans (HBB.out.mono HB3.out.size))
                  have HRR := Lib.hid (HRNO.out (fun h => by have := HMAY.out; rw [h.2.1] at this; cases this))
                  clear c0 c1 c2 c3 c4 c5
                  refine leaves_cons (f := 27) (args := #[.pointer (some ⟨w.heap.size, 0, none⟩), .pointer (some ⟨w1.heap.size, 0, none⟩)]) (by simp) (by simp [go_sem]) ?_
                  refine (catch_up w.heap.size w1.heap.size _ _ [] _ HPX.out rfl HPY.out (by omega)).mono ?_
                  rintro e u' wq ⟨rfl, rfl, hq1, hq2, hq3⟩
                  have c0 : wq.cell? ⟨w.heap.size, 0, none⟩ = some (.int .i64 0) := cell_rec hq1 0
                  have c1 : wq.cell? ⟨w.heap.size, 1, none⟩ = some (.int .i64 0) := cell_rec hq1 1
                  have c2 : wq.cell? ⟨w.heap.size, 2, none⟩ = some (.int .u32 0) := cell_rec hq1 2
                  have c3 : wq.cell? ⟨w.heap.size, 3, none⟩ = some (.int .u64 0) := cell_rec hq1 3
                  have c4 : wq.cell? ⟨w.heap.size, 4, none⟩ = some (.slice none 0 0) := cell_rec hq1 4
                  have c5 : wq.cell? ⟨w.heap.size, 5, none⟩ = some (.slice none 0 0) := cell_rec hq1 5
                  have d0 : wq.cell? ⟨w1.heap.size, 0, none⟩ = some (.int .i64 4) := cell_rec hq2 0
                  have HBQ := Lib.hid (HBL.out.trans (hq3.below HBL.out.size (fun j hj => by rcases hj with rfl | rfl <;> omega)))
                  clear hq1 hq2 hq3
                  simp [Leaves, settle, results, Tryz.results14, go_sem, c0, c1, c2, c3, c4, c5, d0]
                  exact ⟨RdResA.code HRR.out, HBQ.out⟩
                | true =>
                  rw [fileW_ok hmay] at HW
                  have HMAY := Lib.hid hmay
                  clear hmay
                  refine HW.mono ?_
                  rintro e wB ⟨v9, rfl, hov, hbB⟩
                  have HOV := Lib.hid hov
                  have HBB := Lib.hid hbB
                  have HEQ := Lib.hid (bytesEq_any _ _ _ _ wB hov.bs (HV.out.mono (HB3.out.trans (hbB.mono HB3.out.size))))
                  obtain ⟨vn, va, vc, -, rfl, _, _⟩ := hov.shape
                  clear hov hbB
                  cases hq0 : decide (fileB pe = l) with
                  | false =>
                    rw [hq0] at HEQ
                    have HNE := Lib.hid (of_decide_eq_false hq0)
                    clear hq0
                    go_wp2_with (first
                      | (go_at_call 16; refine HEQ.out.mono ?_; rintro e wu ⟨rfl, rfl⟩)
                      | (go_at_call 31; refine (must_no _).mono ?_; rintro e wu ⟨rfl, rfl⟩))
                    have HPX := Lib.hid (heap_below HBB.out HH3.out)
                    have HPY := Lib.hid (heap_below HBB.out HX33.out)
                    have HBL := Lib.hid (HB3.out.trans (HBB.out.mono HB3.out.size))
                    have HRR := Lib.hid (HRNO.out (fun h => HNE.out h.2.2))
                    clear c0 c1 c2 c3 c4 c5
                    refine leaves_cons (f := 27) (args := #[.pointer (some ⟨w.heap.size, 0, none⟩), .pointer (some ⟨w1.heap.size, 0, none⟩)]) (by simp) (by simp [go_sem]) ?_
                    refine (catch_up w.heap.size w1.heap.size _ _ [] _ HPX.out rfl HPY.out (by omega)).mono ?_
                    rintro e u' wq ⟨rfl, rfl, hq1, hq2, hq3⟩
                    have c0 : wq.cell? ⟨w.heap.size, 0, none⟩ = some (.int .i64 0) := cell_rec hq1 0
                    have c1 : wq.cell? ⟨w.heap.size, 1, none⟩ = some (.int .i64 0) := cell_rec hq1 1
                    have c2 : wq.cell? ⟨w.heap.size, 2, none⟩ = some (.int .u32 0) := cell_rec hq1 2
                    have c3 : wq.cell? ⟨w.heap.size, 3, none⟩ = some (.int .u64 0) := cell_rec hq1 3
                    have c4 : wq.cell? ⟨w.heap.size, 4, none⟩ = some (.slice none 0 0) := cell_rec hq1 4
                    have c5 : wq.cell? ⟨w.heap.size, 5, none⟩ = some (.slice none 0 0) := cell_rec hq1 5
                    have d0 : wq.cell? ⟨w1.heap.size, 0, none⟩ = some (.int .i64 4) := cell_rec hq2 0
                    have HBQ := Lib.hid (HBL.out.trans (hq3.below HBL.out.size (fun j hj => by rcases hj with rfl | rfl <;> omega)))
                    clear hq1 hq2 hq3
                    simp [Leaves, settle, results, Tryz.results14, go_sem, c0, c1, c2, c3, c4, c5, d0]
                    exact ⟨RdResA.code HRR.out, HBQ.out⟩
                  | true =>
                    rw [hq0] at HEQ
                    have HR := Lib.hid (HROK.out HOKP.out HMAY.out (of_decide_eq_true hq0))
                    have HX5 := Lib.hid (heap_below HBB.out HH3.out)
                    have HX6 := Lib.hid (heap_below HBB.out HX33.out)
                    have HB5 := Lib.hid (HB3.out.trans (HBB.out.mono HB3.out.size))
                    have HOW5 := Lib.hid (show ElfOwn wB w.heap.size pe L (.slice sa sn sc) (.slice ga gn gc) from ⟨HOW3.out.secs, HOW3.out.so.mono HBB.out, HOW3.out.go.mono HBB.out, fun p hp => (HOW3.out.data p hp).mono HBB.out⟩)
                    clear hq0 c0 c1 c2 c3 c4 c5
                    obtain ⟨c0, c1, c2, c3, c4, c5⟩ := elf_box HX5.out
                    go_wp2_with (first
                      | (go_at_call 16; refine HEQ.out.mono ?_; rintro e wu ⟨rfl, rfl⟩)
                      | (go_at_call 31; refine (must_ok _).mono ?_; rintro e wu ⟨rfl, rfl⟩)
                      | ((with_reducible show wpList _ _ _ (⟨none, .store _ (.tmp 2) (.tmp 54), _, _, _, _⟩ :: _) _ _); go_must (refine wpList_storeElfS HX5.out rfl rfl rfl rfl (by simp [Value.oneCell']) ?_; intro w7 hh7 hs7; have HH7 := Lib.hid hh7; have HX7 := Lib.hid (hs7.kept HX6.out (show ¬ w1.heap.size = w.heap.size by omega)); have HB7 := Lib.hid (HB5.out.trans (hs7.below HB5.out.size (fun j hj => by rw [hj]; exact Nat.le_refl _))); have HOW7 := Lib.hid (show ElfOwn w7 w.heap.size pe L (.slice sa sn sc) (.slice ga gn gc) from ⟨HOW5.out.secs, owns_stirs HOW5.out.so hs7 (own_ne HOW5.out.so HX5.out (by decide)), owns_stirs HOW5.out.go hs7 (own_ne HOW5.out.go HX5.out (by decide)), fun p hp => owns_stirs (HOW5.out.data p hp) hs7 (own_ne (HOW5.out.data p hp) HX5.out (by decide))⟩); clear hh7 hs7))
                      | ((with_reducible show wpList _ _ _ (⟨none, .store _ (.tmp 3) _, _, _, _, _⟩ :: _) _ _); go_must (refine wpList_setI HX7.out (show 0 < 1 by decide) rfl rfl (fun w => by kernel_rfl) ?_; intro w8 hh8 hs8; have HH8 := Lib.hid hh8; have HH78 := Lib.hid (hs8.kept HH7.out (show ¬ w.heap.size = w1.heap.size by omega)); have HB8 := Lib.hid (HB7.out.trans (hs8.below HB7.out.size (fun j hj => by rw [hj]; exact HB1.out.size))); have HOW8 := Lib.hid (show ElfOwn w8 w.heap.size pe L (.slice sa sn sc) (.slice ga gn gc) from ⟨HOW7.out.secs, owns_stirs HOW7.out.so hs8 (own_ne HOW7.out.so HX7.out (by decide)), owns_stirs HOW7.out.go hs8 (own_ne HOW7.out.go HX7.out (by decide)), fun p hp => owns_stirs (HOW7.out.data p hp) hs8 (own_ne (HOW7.out.data p hp) HX7.out (by decide))⟩); clear hh8 hs8)))
                    clear c0 c1 c2 c3 c4 c5
                    obtain ⟨c0, c1, c2, c3, c4, c5⟩ := elf_box HH78.out
                    have d0 : w8.cell? ⟨w1.heap.size, 0, none⟩ = some (.int .i64 0) := cell_rec HH8.out 0
                    refine leaves_cons (f := 27) (args := #[.pointer (some ⟨w.heap.size, 0, none⟩), .pointer (some ⟨w1.heap.size, 0, none⟩)]) (by simp) (by simp [go_sem]) ?_
                    refine (catch_no _ _ _).mono ?_
                    rintro e u' w'' ⟨rfl, rfl, rfl⟩
                    simp [Leaves, settle, results, Tryz.results14, go_sem, c0, c1, c2, c3, c4, c5, d0]
                    exact ⟨⟨L, .slice sa sn sc, .slice ga gn gc, by rw [HR.out], by rw [HR.out]; exact HOW8.out, HAP.out⟩, HB8.out⟩
              · obtain ⟨e9, hbel⟩ : True ∧ Below w.heap.size w wA := ⟨trivial, HB2.out.trans (hbA.mono HB2.out.size)⟩
                have HPX := Lib.hid (heap_below hbA HX12.out)
                have HPY := Lib.hid (heap_below hbA HX2.out)
                have HBL := Lib.hid hbel
                have HRR := Lib.hid (HRNO.out (fun h => hno h.1))
                clear e9 hbel
                refine leaves_cons (f := 27) (args := #[.pointer (some ⟨w.heap.size, 0, none⟩), .pointer (some ⟨w1.heap.size, 0, none⟩)]) (by simp) (by simp [go_sem]) ?_
                refine (catch_up w.heap.size w1.heap.size _ _ [] _ HPX.out rfl HPY.out (by omega)).mono ?_
                rintro e u' wq ⟨rfl, rfl, hq1, hq2, hq3⟩
                have c0 : wq.cell? ⟨w.heap.size, 0, none⟩ = some (.int .i64 0) := cell_rec hq1 0
                have c1 : wq.cell? ⟨w.heap.size, 1, none⟩ = some (.int .i64 0) := cell_rec hq1 1
                have c2 : wq.cell? ⟨w.heap.size, 2, none⟩ = some (.int .u32 0) := cell_rec hq1 2
                have c3 : wq.cell? ⟨w.heap.size, 3, none⟩ = some (.int .u64 0) := cell_rec hq1 3
                have c4 : wq.cell? ⟨w.heap.size, 4, none⟩ = some (.slice none 0 0) := cell_rec hq1 4
                have c5 : wq.cell? ⟨w.heap.size, 5, none⟩ = some (.slice none 0 0) := cell_rec hq1 5
                have d0 : wq.cell? ⟨w1.heap.size, 0, none⟩ = some (.int .i64 4) := cell_rec hq2 0
                have HBQ := Lib.hid (HBL.out.trans (hq3.below HBL.out.size (fun j hj => by rcases hj with rfl | rfl <;> omega)))
                clear hq1 hq2 hq3
                simp [Leaves, settle, results, Tryz.results14, go_sem, c0, c1, c2, c3, c4, c5, d0]
                exact ⟨RdResA.code HRR.out, HBQ.out⟩
      · have HR := Lib.hid (HC4.out h6 h2 h4)
        have d4 : (l.take 7 == [127, 69, 76, 70, 2, 1, 1]) = false := by rw [beq_eq_false_iff_ne]; exact h4
        have d4' : (l.take 7 != [127, 69, 76, 70, 2, 1, 1]) = true := by rw [bne_iff_ne]; exact h4
        generalize l.take 7 = t7 at *
        clear HC6 HC2 HC4 h6 h2 h4
        go_enter_defers Tryz.func14, Tryz.ntmps14
        go_wp2_with (first
          | ((with_reducible show wpList _ _ _ (⟨some 2, .alloc _, _, _, _, _⟩ :: _) _ _); go_must (refine wpList_allocElf ?_; intro w1 hx1 hb1 hs1; have HX1 := Lib.hid hx1; have HB1 := Lib.hid hb1; clear hx1 hb1))
          | ((with_reducible show wpList _ _ _ (⟨some 3, .alloc _, _, _, _, _⟩ :: _) _ _); go_must (refine wpList_allocErr ?_; intro w2 hx2 hb2 hs2; have HX2 := Lib.hid hx2; have HX12 := Lib.hid (heap_below hb2 HX1.out); have HB2 := Lib.hid (HB1.out.trans (hb2.mono HB1.out.size)); have hs7 := HS7.out _ HB2.out; clear hx2 hb2))
          | ((with_reducible show wpList _ _ _ (⟨none, .store _ (.tmp 2) _, _, _, _, _⟩ :: _) _ _); go_must (refine wpList_storeElfS HX12.out rfl rfl rfl rfl (by simp [Value.oneCell']) ?_; intro w3 hh3 hs3; have HH3 := Lib.hid hh3; have HX23 := Lib.hid (hs3.kept HX2.out (show ¬ w1.heap.size = w.heap.size by omega)); have HB3 := Lib.hid (HB2.out.trans (hs3.below HB2.out.size (fun j hj => by rw [hj]; exact Nat.le_refl _))); clear hh3 hs3))
          | ((with_reducible show wpList _ _ _ (⟨none, .store _ (.tmp 3) _, _, _, _, _⟩ :: _) _ _); go_must (refine wpList_setI HX23.out (show 0 < 1 by decide) rfl rfl (fun w => by kernel_rfl) ?_; intro w4 hh4 hs4; have HH4 := Lib.hid hh4; have HH34 := Lib.hid (hs4.kept HH3.out (show ¬ w.heap.size = w1.heap.size by omega)); have HB4 := Lib.hid (HB3.out.trans (hs4.below HB3.out.size (fun j hj => by rw [hj]; exact HB1.out.size))); clear hh4 hs4)))
        have c0 : w4.cell? ⟨w.heap.size, 0, none⟩ = some (.int .i64 0) := cell_rec HH34.out 0
        have c1 : w4.cell? ⟨w.heap.size, 1, none⟩ = some (.int .i64 0) := cell_rec HH34.out 1
        have c2 : w4.cell? ⟨w.heap.size, 2, none⟩ = some (.int .u32 0) := cell_rec HH34.out 2
        have c3 : w4.cell? ⟨w.heap.size, 3, none⟩ = some (.int .u64 0) := cell_rec HH34.out 3
        have c4 : w4.cell? ⟨w.heap.size, 4, none⟩ = some (.slice none 0 0) := cell_rec HH34.out 4
        have c5 : w4.cell? ⟨w.heap.size, 5, none⟩ = some (.slice none 0 0) := cell_rec HH34.out 5
        have d0 : w4.cell? ⟨w1.heap.size, 0, none⟩ = some (.int .i64 4) := cell_rec HH4.out 0
        refine leaves_cons (f := 27) (args := #[.pointer (some ⟨w.heap.size, 0, none⟩), .pointer (some ⟨w1.heap.size, 0, none⟩)]) (by simp) (by simp [go_sem]) ?_
        refine (catch_no _ _ _).mono ?_
        rintro e u' w'' ⟨rfl, rfl, rfl⟩
        simp [Leaves, settle, results, Tryz.results14, go_sem, c0, c1, c2, c3, c4, c5, d0]
        exact ⟨RdResA.code HR.out, HB4.out⟩
end Go.Proofs.YtimnbnomaajmmaaGreat
namespace Go.Proofs.YtimnbnomaajmmaaGreat
open Go.RowKit Go.Fd
/-- x stands in l at p. -/
def Has (l : List UInt8) (p : Nat) (x : List UInt8) : Prop := ∃ a b, l = a ++ (x ++ b) ∧ a.length = p
theorem Has.left {l x : List UInt8} {p : Nat} (h : Has l p x) (a : List UInt8) {q : Nat} (hq : q = a.length + p) : Has (a ++ l) q x := by
  obtain ⟨c, d, rfl, rfl⟩ := h
  exact ⟨a ++ c, d, by simp, by simp [hq]⟩
theorem Has.right {l x : List UInt8} {p : Nat} (h : Has l p x) (b : List UInt8) : Has (l ++ b) p x := by
  obtain ⟨c, d, rfl, rfl⟩ := h
  exact ⟨c, d ++ b, by simp, rfl⟩
theorem Has.all (x : List UInt8) : Has x 0 x := ⟨[], [], by simp, rfl⟩
theorem Has.sub {l x y : List UInt8} {p q r : Nat} (h : Has l p x) (k : Has x q y) (hr : r = p + q) : Has l r y := by
  obtain ⟨a, b, rfl, rfl⟩ := h
  obtain ⟨c, d, rfl, rfl⟩ := k
  exact ⟨a ++ c, d ++ b, by simp, by simp [hr]⟩
theorem Has.len {l x : List UInt8} {p : Nat} (h : Has l p x) : p + x.length ≤ l.length := by
  obtain ⟨a, b, rfl, rfl⟩ := h
  simp only [List.length_append]; omega
theorem Has.cut {l x : List UInt8} {p : Nat} (h : Has l p x) : (l.drop p).take x.length = x := by
  obtain ⟨a, b, rfl, rfl⟩ := h
  simp
theorem Has.num {l : List UInt8} {p n s : Nat} (h : Has l p (fixed n s)) (hs : Sized s) (hn : n < 256 ^ s) : gN l p s = n := by
  have h1 := h.len
  have h2 := h.cut
  rw [length_fixed] at h1 h2
  rw [gN_in hs h1, h2, fixed_get, Nat.mod_eq_of_lt hn]
theorem Has.flat {α : Type} {k : Nat} {f : α → List UInt8} (hk : ∀ x, (f x).length = k) {l : List α} {i : Nat} {x : α} (h : l[i]? = some x) : Has (l.flatMap f) (k * i) (f x) := by
  obtain ⟨r, hr⟩ := flat_head hk h
  refine ⟨(l.flatMap f).take (k * i), r, by rw [← hr, List.take_append_drop], ?_⟩
  have hi := (List.getElem?_eq_some_iff.1 h).1
  rw [List.length_take, flat_len' hk, Nat.min_eq_left]
  rw [Nat.mul_comm]
  exact Nat.mul_le_mul_right k (Nat.le_of_lt hi)
theorem putL_cons (s n : Nat) (ns : List Nat) : putL s (n :: ns) = fixed n s ++ putL s ns := rfl
theorem putL_nil (s : Nat) : putL s [] = [] := rfl
/-- A part of bytes that are put together of parts. -/
theorem has_part {ps : List (List UInt8)} {i p : Nat} {x : List UInt8} (h : ps[i]? = some x) (hp : p = ((ps.take i).map List.length).sum) : Has ps.flatten p x := by
  obtain ⟨hi, he⟩ := List.getElem?_eq_some_iff.1 h
  refine ⟨(ps.take i).flatten, (ps.drop (i + 1)).flatten, ?_, by rw [List.length_flatten, hp]⟩
  rw [← he, ← List.flatten_cons, ← List.flatten_append, List.getElem_cons_drop, List.take_append_drop]
theorem segBy_parts (s : SegM) : segBy s = [fixed s.typ 4, fixed s.flags 4, fixed s.off 8, fixed s.vaddr 8, fixed s.vaddr 8, fixed s.filesz 8, fixed s.memsz 8, fixed s.align 8].flatten := by
  unfold segBy
  simp [putL_cons, putL_nil]
theorem segBy_has (s : SegM) {i p : Nat} {x : List UInt8} (h : [fixed s.typ 4, fixed s.flags 4, fixed s.off 8, fixed s.vaddr 8, fixed s.vaddr 8, fixed s.filesz 8, fixed s.memsz 8, fixed s.align 8][i]? = some x) (hp : p = (([fixed s.typ 4, fixed s.flags 4, fixed s.off 8, fixed s.vaddr 8, fixed s.vaddr 8, fixed s.filesz 8, fixed s.memsz 8, fixed s.align 8].take i).map List.length).sum) : Has (segBy s) p x := by
  rw [segBy_parts]; exact has_part h hp
theorem hdrBy_parts (nm : Nat) (s : SecM) (p : Nat) : hdrBy nm s p = [fixed nm 4, fixed s.typ 4, fixed s.flags 8, fixed s.addr 8, fixed p 8, fixed s.size 8, fixed s.link 4, fixed s.info 4, fixed s.align 8, fixed s.ent 8].flatten := by
  unfold hdrBy
  simp [putL_cons, putL_nil]
theorem hdrBy_has (nm : Nat) (s : SecM) (p : Nat) {i q : Nat} {x : List UInt8} (h : [fixed nm 4, fixed s.typ 4, fixed s.flags 8, fixed s.addr 8, fixed p 8, fixed s.size 8, fixed s.link 4, fixed s.info 4, fixed s.align 8, fixed s.ent 8][i]? = some x) (hp : q = (([fixed nm 4, fixed s.typ 4, fixed s.flags 8, fixed s.addr 8, fixed p 8, fixed s.size 8, fixed s.link 4, fixed s.info 4, fixed s.align 8, fixed s.ent 8].take i).map List.length).sum) : Has (hdrBy nm s p) q x := by
  rw [hdrBy_parts]; exact has_part h hp
theorem headB_parts (e : ElfM) (h : Nat) : headB e h = [magicE, List.replicate 9 0, fixed (u64of e.typ) 2, fixed (Go.Fd.mach e.target) 2, fixed 1 4, fixed e.entry 8, fixed (if segsB e = true then 64 else 0) 8, fixed h 8, fixed e.flags 4, fixed 64 2, fixed 56 2, fixed e.segs.length 2, fixed 64 2, fixed (e.secs.length + 2) 2, fixed (e.secs.length + 1) 2].flatten := by
  unfold headB magicE
  simp [putL_cons, putL_nil]
theorem headB_has (e : ElfM) (h : Nat) {i q : Nat} {x : List UInt8} (hx : [magicE, List.replicate 9 0, fixed (u64of e.typ) 2, fixed (Go.Fd.mach e.target) 2, fixed 1 4, fixed e.entry 8, fixed (if segsB e = true then 64 else 0) 8, fixed h 8, fixed e.flags 4, fixed 64 2, fixed 56 2, fixed e.segs.length 2, fixed 64 2, fixed (e.secs.length + 2) 2, fixed (e.secs.length + 1) 2][i]? = some x) (hp : q = (([magicE, List.replicate 9 0, fixed (u64of e.typ) 2, fixed (Go.Fd.mach e.target) 2, fixed 1 4, fixed e.entry 8, fixed (if segsB e = true then 64 else 0) 8, fixed h 8, fixed e.flags 4, fixed 64 2, fixed 56 2, fixed e.segs.length 2, fixed 64 2, fixed (e.secs.length + 2) 2, fixed (e.secs.length + 1) 2].take i).map List.length).sum) : Has (headB e h) q x := by
  rw [headB_parts]; exact has_part hx hp
/-- What was ahead stays ahead. -/
theorem bodyF_pre : ∀ (l : List (SecM × Nat)) (acc : List UInt8), ∃ r, bodyF acc l = acc ++ r := by
  intro l
  induction l with
  | nil => exact fun acc => ⟨[], by simp [bodyF]⟩
  | cons x l ih =>
    intro acc
    obtain ⟨r, hr⟩ := ih (acc ++ List.replicate (x.2 - acc.length) 0 ++ x.1.data)
    exact ⟨List.replicate (x.2 - acc.length) 0 ++ x.1.data ++ r, by
      show bodyF (acc ++ List.replicate (x.2 - acc.length) 0 ++ x.1.data) l = _
      rw [hr]; simp⟩
theorem bodyF_cut (acc : List UInt8) (l : List (SecM × Nat)) (k : Nat) : bodyF acc l = bodyF (bodyF acc (l.take k)) (l.drop k) := by
  unfold bodyF
  rw [← List.foldl_append, List.take_append_drop]
section
variable {e : ElfM}
theorem atsB_ok (h : MayK e) {i : Nat} {x : List UInt8} (hi : (namesOf e.secs)[i]? = some x) : ∃ p, (atsOf e)[i]? = some p ∧ atR (tabOf e) p = (x, 0) ∧ p < (tabOf e).length := by
  obtain ⟨h1, h2⟩ := build_ok h.ok
  obtain ⟨p, e1, _, e2, e3⟩ := build_at h1 hi
  have ht : tabOf e = (buildT (namesOf e.secs)).tab := by unfold tabOf; rw [h2]
  refine ⟨p, by unfold atsOf; rw [h2]; exact e1, by rw [ht]; exact at_place e2 e3, ?_⟩
  rw [ht]
  have := e2.lt
  omega
theorem ats_len (h : MayK e) : (atsOf e).length = e.secs.length + 1 := by
  obtain ⟨h1, h2⟩ := build_ok h.ok
  unfold atsOf
  rw [h2, (build_places _).1]
  simp [namesOf]
theorem places_len (e : ElfM) : (placesOf e).1.length = e.secs.length := plF_len _
theorem hdrs_get (h : MayK e) {i : Nat} {s : SecM} (hi : e.secs[i]? = some s) : ∃ n p, (atsOf e)[i]? = some n ∧ (placesOf e).1[i]? = some p ∧ (e.secs.zip ((atsOf e).zip (placesOf e).1))[i]? = some (s, n, p) := by
  have hlt := (List.getElem?_eq_some_iff.1 hi).1
  have h1 : (atsOf e)[i]? = some ((atsOf e)[i]'(by rw [ats_len h]; omega)) := List.getElem?_eq_getElem _
  have h2 : (placesOf e).1[i]? = some ((placesOf e).1[i]'(by rw [places_len]; omega)) := List.getElem?_eq_getElem _
  refine ⟨_, _, h1, h2, ?_⟩
  rw [List.getElem?_zip_eq_some]
  exact ⟨hi, by rw [List.getElem?_zip_eq_some]; exact ⟨h1, h2⟩⟩
theorem hdrsB_len (h : MayK e) : (hdrsB e).length = 64 * e.secs.length := by
  unfold hdrsB
  rw [flat_len' fun p => hdrBy_len _ _ _, List.length_zip, List.length_zip, ats_len h, places_len]
  omega
theorem fileB_len (h : MayK e) : (fileB e).length = headsOf e (tabOf e).length + 64 * (e.secs.length + 2) := by
  unfold fileB
  rw [List.length_append, List.length_append, midB_len h, hdrsB_len h, hdrBy_len]
  omega
theorem has_mid {p : Nat} {x : List UInt8} (h : Has (bodyB e) p x) : Has (fileB e) p x := by
  unfold fileB midB
  exact (((h.right _).right _).right _).right _
theorem has_front {p : Nat} {x : List UInt8} (h : Has (frontB e) p x) : Has (fileB e) p x := by
  obtain ⟨r, hr⟩ := bodyF_pre (e.secs.zip (placesOf e).1) (frontB e)
  refine has_mid ?_
  unfold bodyB
  rw [hr]
  exact h.right _
theorem has_head {p : Nat} {x : List UInt8} (h : Has (headB e (headsOf e (tabOf e).length)) p x) : Has (fileB e) p x := by
  refine has_front ?_
  unfold frontB
  exact h.right _
theorem has_seg {i : Nat} {s : SegM} (hi : e.segs[i]? = some s) : Has (fileB e) (64 + 56 * i) (segBy s) := by
  refine has_front ?_
  unfold frontB
  exact (Has.flat segBy_len hi).left _ (by rw [headB_len])
theorem has_data (h : MayK e) {i : Nat} {s : SecM} {p : Nat} (hi : e.secs[i]? = some s) (hp : (placesOf e).1[i]? = some p) : Has (fileB e) p s.data := by
  refine has_mid ?_
  have hz : (e.secs.zip (placesOf e).1)[i]? = some (s, p) := by rw [List.getElem?_zip_eq_some]; exact ⟨hi, hp⟩
  have hlt := (List.getElem?_eq_some_iff.1 hi).1
  have hl := body_len (g := segsB e) (frontB_len e) h.pow i (Nat.le_of_lt hlt)
  have hpl : p = placeS (segsB e) (plF (segsB e) (front e) (e.secs.take i)).2 s := by
    have := plF_get (g := segsB e) (n := front e) hi
    unfold placesOf at hp
    rw [this] at hp
    exact (Option.some.inj hp).symm
  have hge := placeS_le (g := segsB e) (p := (plF (segsB e) (front e) (e.secs.take i)).2) (h.pow s (List.mem_of_getElem? hi))
  obtain ⟨r, hr⟩ := bodyF_pre ((e.secs.zip (placesOf e).1).drop (i + 1)) (bodyF (frontB e) ((e.secs.zip (placesOf e).1).take (i + 1)))
  unfold bodyB
  rw [bodyF_cut _ _ (i + 1), hr, bodyF_step hz]
  refine Has.right ?_ _
  have := (Has.all s.data).left (bodyF (frontB e) ((e.secs.zip (placesOf e).1).take i) ++ List.replicate (p - (bodyF (frontB e) ((e.secs.zip (placesOf e).1).take i)).length) 0) (q := p) (by
    rw [List.length_append, List.length_replicate]
    unfold placesOf
    rw [hl, hpl]
    omega)
  exact this
theorem has_tab (h : MayK e) : Has (fileB e) (placesOf e).2 (tabOf e) := by
  unfold fileB midB
  refine Has.right (Has.right (Has.right ?_ _) _) _
  exact (Has.all _).left _ (by rw [bodyB_len h.pow]; rfl)
theorem has_hdr (h : MayK e) {i : Nat} {s : SecM} {n p : Nat} (hz : (e.secs.zip ((atsOf e).zip (placesOf e).1))[i]? = some (s, n, p)) : Has (fileB e) (headsOf e (tabOf e).length + 64 * (i + 1)) (hdrBy n s p) := by
  unfold fileB
  refine Has.right ?_ _
  have := Has.flat (f := fun p : SecM × Nat × Nat => hdrBy p.2.1 p.1 p.2.2) (fun p => hdrBy_len _ _ _) hz
  exact this.left _ (by rw [midB_len h]; omega)
theorem has_last (h : MayK e) : ∃ n, Has (fileB e) (headsOf e (tabOf e).length + 64 * (e.secs.length + 1)) (hdrBy n (tabSec (tabOf e).length) (placesOf e).2) := by
  refine ⟨(atsOf e)[e.secs.length]?.getD 0, ?_⟩
  unfold fileB
  exact (Has.all _).left _ (by rw [List.length_append, midB_len h, hdrsB_len h]; omega)
end
theorem Has.ok {l x : List UInt8} {p q s : Nat} (h : Has l p x) (hs : Sized s) (hq : q + s ≤ x.length) : okB l (p + q) s = true := by
  rw [okB_iff hs]
  have := h.len
  simp only [decide_eq_true_eq]
  omega
theorem seg_back {l : List UInt8} {a : Nat} {s : SegM} (h : Has l a (segBy s)) (hf : s.fits) : segP l a = s ∧ segOk l a = true := by
  obtain ⟨f1, f2, f3, f4, f5, f6, f7⟩ := hf
  have hl := h.len
  rw [segBy_len] at hl
  refine ⟨?_, by rw [segOk_iff]; simpa using hl⟩
  unfold segP
  rw [(h.sub (segBy_has s (i := 0) rfl rfl) rfl : Has l a (fixed s.typ 4)).num sz4 f1, (h.sub (segBy_has s (i := 1) rfl rfl) (r := a + 4) (by simp [length_fixed]) : Has l (a + 4) (fixed s.flags 4)).num sz4 f2,
    (h.sub (segBy_has s (i := 2) rfl rfl) (r := a + 8) (by simp [length_fixed]) : Has l (a + 8) (fixed s.off 8)).num sz8 f3,
    (h.sub (segBy_has s (i := 3) rfl rfl) (r := a + 16) (by simp [length_fixed]) : Has l (a + 16) (fixed s.vaddr 8)).num sz8 f4,
    (h.sub (segBy_has s (i := 5) rfl rfl) (r := a + 32) (by simp [length_fixed]) : Has l (a + 32) (fixed s.filesz 8)).num sz8 f5,
    (h.sub (segBy_has s (i := 6) rfl rfl) (r := a + 40) (by simp [length_fixed]) : Has l (a + 40) (fixed s.memsz 8)).num sz8 f6,
    (h.sub (segBy_has s (i := 7) rfl rfl) (r := a + 48) (by simp [length_fixed]) : Has l (a + 48) (fixed s.align 8)).num sz8 f7]
theorem sec_back {l tab : List UInt8} {a n p : Nat} {s : SecM} (h : Has l a (hdrBy n s p)) (hf : s.fits) (hn : n < 4294967296) (hp : p < 18446744073709551616) (ht : atR tab n = (s.name, 0)) (hfine : fineB s = true) (hd : Has l p s.data) : secP l tab a = s ∧ secOk l tab a = true := by
  obtain ⟨f1, f2, f3, f4, f5, f6, f7, f8⟩ := hf
  have hl := h.len
  rw [hdrBy_len] at hl
  have g0 := (h.sub (hdrBy_has n s p (i := 0) rfl rfl) (r := a) (by simp) : Has l a (fixed n 4)).num sz4 hn
  have g1 := (h.sub (hdrBy_has n s p (i := 1) rfl rfl) (r := a + 4) (by simp [length_fixed]) : Has l (a + 4) (fixed s.typ 4)).num sz4 f1
  have g2 := (h.sub (hdrBy_has n s p (i := 2) rfl rfl) (r := a + 8) (by simp [length_fixed]) : Has l (a + 8) (fixed s.flags 8)).num sz8 f2
  have g3 := (h.sub (hdrBy_has n s p (i := 3) rfl rfl) (r := a + 16) (by simp [length_fixed]) : Has l (a + 16) (fixed s.addr 8)).num sz8 f3
  have g4 := (h.sub (hdrBy_has n s p (i := 4) rfl rfl) (r := a + 24) (by simp [length_fixed]) : Has l (a + 24) (fixed p 8)).num sz8 hp
  have g5 := (h.sub (hdrBy_has n s p (i := 5) rfl rfl) (r := a + 32) (by simp [length_fixed]) : Has l (a + 32) (fixed s.size 8)).num sz8 f5
  have g6 := (h.sub (hdrBy_has n s p (i := 6) rfl rfl) (r := a + 40) (by simp [length_fixed]) : Has l (a + 40) (fixed s.link 4)).num sz4 f6
  have g7 := (h.sub (hdrBy_has n s p (i := 7) rfl rfl) (r := a + 44) (by simp [length_fixed]) : Has l (a + 44) (fixed s.info 4)).num sz4 f7
  have g8 := (h.sub (hdrBy_has n s p (i := 8) rfl rfl) (r := a + 48) (by simp [length_fixed]) : Has l (a + 48) (fixed s.align 8)).num sz8 f4
  have g9 := (h.sub (hdrBy_has n s p (i := 9) rfl rfl) (r := a + 56) (by simp [length_fixed]) : Has l (a + 56) (fixed s.ent 8)).num sz8 f8
  unfold fineB at hfine
  simp only [Bool.and_eq_true, Bool.not_eq_true', decide_eq_false_iff_not] at hfine
  obtain ⟨⟨⟨_, _⟩, _⟩, hfd⟩ := hfine
  have hdl := hd.len
  have hdc := hd.cut
  constructor
  · unfold secP
    rw [g0, g1, g2, g3, g4, g5, g6, g7, g8, g9, ht]
    by_cases h8 : s.typ = 8
    · rw [if_pos h8] at hfd ⊢
      simp only [Bool.and_eq_true, decide_eq_true_eq] at hfd
      have : s.data = [] := List.eq_nil_of_length_eq_zero hfd.1
      cases s
      simp_all
    · rw [if_neg h8] at hfd ⊢
      have hsz : s.size = s.data.length := of_decide_eq_true hfd
      rw [hsz, hdc, ← hsz]
  · unfold secOk
    rw [g0, g1, g4, g5, ht]
    simp only [Bool.and_eq_true, Bool.or_eq_true, decide_eq_true_eq]
    refine ⟨⟨hl, trivial⟩, ?_⟩
    by_cases h8 : s.typ = 8
    · exact .inl h8
    · right
      rw [if_neg h8] at hfd
      have hsz : s.size = s.data.length := of_decide_eq_true hfd
      unfold inB
      simp only [Bool.and_eq_true, decide_eq_true_eq]
      omega
theorem tgt_mach {t : Int} (h : mach t ≠ 0) : tgt (mach t) 3 = t := by
  unfold mach at h ⊢
  split
  · next h1 => subst h1; decide
  · split
    · next h1 => subst h1; decide
    · split
      · next h1 => subst h1; decide
      · next h1 h2 h3 => simp [h1, h2, h3] at h
theorem target_in {t : Int} (h : mach t ≠ 0) : t = 1 ∨ t = 2 ∨ t = 3 := by
  unfold mach at h
  split at h
  · omega
  · split at h
    · omega
    · split at h
      · omega
      · exact absurd rfl h
/-- What is read of a file's bytes is the file. -/
theorem file_back {e : ElfM} (hm : mayE e = true) (hf : e.fits) : codeR (fileB e) = 0 ∧ targetR (fileB e) = e.target ∧ OkP (fileB e) ∧ parseE (fileB e) (targetR (fileB e)) = e := by
  have h := mayK hm
  have hlen := fileB_len h
  have hge := heads_ge (e := e)
  have hle := h.len
  have hsl := h.secs
  have hgl := h.segs
  have hfr : front e ≤ (placesOf e).2 := (plF_le (g := segsB e) (n := front e) h.pow).1
  have hfr2 : 64 ≤ front e := by unfold front; omega
  have hH : headsOf e (tabOf e).length < 4194304 := by omega
  have t0 := has_head (headB_has e (headsOf e (tabOf e).length) (i := 0) rfl rfl)
  have t1 := (has_head (headB_has e (headsOf e (tabOf e).length) (i := 2) (q := 16) rfl (by simp; rfl))).num sz2 (by rcases h.typ with h1 | h1 <;> rw [h1] <;> decide)
  have t2 := (has_head (headB_has e (headsOf e (tabOf e).length) (i := 3) (q := 18) rfl (by simp [length_fixed]; rfl))).num sz2 (by have := mach_le e.target; omega)
  have t3 := (has_head (headB_has e (headsOf e (tabOf e).length) (i := 5) (q := 24) rfl (by simp [length_fixed]; rfl))).num sz8 hf.entry
  have t4 := (has_head (headB_has e (headsOf e (tabOf e).length) (i := 7) (q := 40) rfl (by simp [length_fixed]; rfl))).num sz8 (by omega)
  have t5 := (has_head (headB_has e (headsOf e (tabOf e).length) (i := 8) (q := 48) rfl (by simp [length_fixed]; rfl))).num sz4 hf.flags
  have t6 := (has_head (headB_has e (headsOf e (tabOf e).length) (i := 11) (q := 56) rfl (by simp [length_fixed]; rfl))).num sz2 (by omega)
  have t7 := (has_head (headB_has e (headsOf e (tabOf e).length) (i := 13) (q := 60) rfl (by simp [length_fixed]; rfl))).num sz2 (by omega)
  have htg : targetR (fileB e) = e.target := by unfold targetR; rw [t2]; exact tgt_mach h.mach
  have hns : nsecsP (fileB e) = e.secs.length := by unfold nsecsP; rw [t7]; omega
  have hng : nsegsP (fileB e) = e.segs.length := t6
  have hla : lastP (fileB e) = headsOf e (tabOf e).length + 64 * (e.secs.length + 1) := by unfold lastP; rw [t4, hns]
  obtain ⟨nl, hlast⟩ := has_last h
  have l1 := (hlast.sub (hdrBy_has nl (tabSec (tabOf e).length) (placesOf e).2 (i := 4) rfl rfl) (r := lastP (fileB e) + 24) (by simp [length_fixed, hla]) : Has (fileB e) (lastP (fileB e) + 24) (fixed (placesOf e).2 8))
  have l2 := (hlast.sub (hdrBy_has nl (tabSec (tabOf e).length) (placesOf e).2 (i := 5) rfl rfl) (r := lastP (fileB e) + 32) (by simp [length_fixed, hla]) : Has (fileB e) (lastP (fileB e) + 32) (fixed (tabOf e).length 8))
  have n1 := l1.num sz8 (by omega)
  have n2 := l2.num sz8 (by omega)
  have htab : tabP (fileB e) = tabOf e := by
    unfold tabP
    rw [n1, n2]
    exact (has_tab h).cut
  have hseg : ∀ i s, e.segs[i]? = some s → segP (fileB e) (64 + 56 * i) = s ∧ segOk (fileB e) (64 + 56 * i) = true := fun i s hi => seg_back (has_seg hi) (hf.segs s (List.mem_of_getElem? hi))
  have hsec : ∀ i s, e.secs[i]? = some s → secP (fileB e) (tabP (fileB e)) (gN (fileB e) 40 8 + 64 * (i + 1)) = s ∧ secOk (fileB e) (tabP (fileB e)) (gN (fileB e) 40 8 + 64 * (i + 1)) = true := fun i s hi => by
    obtain ⟨n, p, a1, a2, a3⟩ := hdrs_get h hi
    have hnm : (namesOf e.secs)[i]? = some s.name := by
      unfold namesOf
      rw [List.getElem?_append_left (by rw [List.length_map]; exact (List.getElem?_eq_some_iff.1 hi).1), List.getElem?_map, hi]
      rfl
    obtain ⟨n', b1, b2, b3⟩ := atsB_ok h hnm
    rw [a1] at b1
    cases b1
    have hdt := has_data h hi a2
    rw [t4, htab]
    exact sec_back (has_hdr h a3) (hf.secs s (List.mem_of_getElem? hi)) (by omega) (by have := hdt.len; omega) b2 (h.fine s (List.mem_of_getElem? hi)) hdt
  have lsec : secsP (fileB e) e.secs.length = e.secs := by
    apply List.ext_getElem?
    intro i
    rcases Nat.lt_or_ge i e.secs.length with hi | hi
    · have hx : e.secs[i]? = some e.secs[i] := List.getElem?_eq_getElem hi
      unfold secsP
      rw [List.getElem?_map, List.getElem?_range hi, hx, Option.map_some, (hsec i _ hx).1]
    · rw [List.getElem?_eq_none (by rw [secsP_len]; exact hi), List.getElem?_eq_none hi]
  have lseg : segsP (fileB e) e.segs.length = e.segs := by
    apply List.ext_getElem?
    intro i
    rcases Nat.lt_or_ge i e.segs.length with hi | hi
    · have hx : e.segs[i]? = some e.segs[i] := List.getElem?_eq_getElem hi
      unfold segsP
      rw [List.getElem?_map, List.getElem?_range hi, hx, Option.map_some, (hseg i _ hx).1]
    · rw [List.getElem?_eq_none (by rw [segsP_len]; exact hi), List.getElem?_eq_none hi]
  refine ⟨?_, htg, ⟨by rw [t6]; exact hgl, by rw [t7]; omega, by rw [t7]; omega, fun i hi => ?_, by rw [t4]; omega, ?_, ?_, ?_, fun i hi => ?_⟩, ?_⟩
  · unfold codeR
    rw [if_neg (by omega), if_neg (by omega)]
    have : (fileB e).take 7 = magicE := by have := t0.cut; simpa [magicE] using this
    rw [if_neg (fun hh => hh this), htg, if_neg]
    rcases target_in h.mach with h1 | h1 | h1 <;> omega
  · rw [hng] at hi
    exact (hseg i _ (List.getElem?_eq_getElem hi)).2
  · have := l1.ok (q := 0) sz8 (by simp [length_fixed]); simpa using this
  · have := l2.ok (q := 0) sz8 (by simp [length_fixed]); simpa using this
  · rw [n1, n2]
    unfold inB
    simp only [Bool.and_eq_true, decide_eq_true_eq]
    omega
  · rw [hns] at hi
    exact (hsec i _ (List.getElem?_eq_getElem hi)).2
  · unfold parseE
    rw [hns, hng, lsec, lseg, htg, t1, t3, t5]
    have : ((u64of e.typ : Nat) : Int) = e.typ := by rcases h.typ with h1 | h1 <;> rw [h1] <;> decide
    rw [this]
theorem read_back {e : ElfM} (hm : mayE e = true) (hf : e.fits) : readE (fileB e) = (e, 0) := by
  obtain ⟨h1, h2, h3, h4⟩ := file_back hm hf
  unfold readE
  rw [if_neg (fun h => h h1), h4, if_pos ⟨h3, hm, rfl⟩]
end Go.Proofs.YtimnbnomaajmmaaGreat
namespace Go.Proofs.YtimnbnomaajmmaaGreat
open Go.RowKit Go.Fd
/-- A part. -/
structure PartM where
  name : List UInt8
  flags : List UInt8
  align : Int
  size : Int
  data : List UInt8
  relas : List RelaM
/-- A module. -/
structure ObjM where
  target : Int
  parts : List PartM
  syms : List SymM
/-- awxtn -/
def lettersM : List UInt8 := [97, 119, 120, 116, 110]
/-- Are flags letters in their order? -/
def ordF : List UInt8 → List UInt8 → Bool
  | [], _ => true
  | _ :: _, [] => false
  | c :: fs, x :: ls => if x = c then ordF fs ls else ordF (c :: fs) ls
def hasF (fs : List UInt8) (c : UInt8) : Bool := fs.any fun x => decide (x = c)
def relaN : List UInt8 := [46, 114, 101, 108, 97]
def symtabN : List UInt8 := [46, 115, 121, 109, 116, 97, 98]
def strtabN : List UInt8 := [46, 115, 116, 114, 116, 97, 98]
/-- May a part have the name? -/
def namedF (s : List UInt8) : Bool := decide ((buildR [s]).2.2 = 0) && !decide (s = []) && !decide (s = symtabN) && !decide (s = strtabN) && !decide (s = tabName) && !decide (s.take 5 = relaN)
def pow2F (n : Int) : Bool := decide (1 ≤ n) && decide (n ≤ 4096) && decide (n.toNat &&& (n.toNat - 1) = 0)
def sizedF (p : PartM) : Bool := if hasF p.flags 110 = true then decide (0 ≤ p.size) && decide (p.size ≤ 1048576) && decide (p.data = []) else decide (p.size = (p.data.length : Int))
/-- Why a part may not be. -/
def partE (p : PartM) (there : Bool) : Int :=
  if namedF p.name = false then 7 else if there = true then 8 else if ordF p.flags lettersM = false then 15 else if pow2F p.align = false then 10 else if sizedF p = false then 1 else 0
/-- The first part's error; the names ahead. -/
def partsE : List PartM → List (List UInt8) → Int
  | [], _ => 0
  | p :: ps, seen => if partE p (decide (p.name ∈ seen)) = 0 then partsE ps (seen ++ [p.name]) else partE p (decide (p.name ∈ seen))
def relE (n : Nat) (size : Int) (r : RelaM) : Int :=
  if r.sym < 0 ∨ (n : Int) < r.sym then 14 else if u64of size ≤ r.off then 5 else if r.typ < 0 ∨ 65535 < r.typ then 3 else 0
def firstE {α : Type} (f : α → Int) : List α → Int
  | [] => 0
  | x :: l => if f x = 0 then firstE f l else f x
def secE (n : Nat) (s : SymM) : Int := if (n : Int) < s.sec ∧ s.sec ≠ 65521 ∧ s.sec ≠ 65522 then 15 else 0
/-- Why a module may not be. -/
def mayO (o : ObjM) : Int :=
  if o.target < 1 ∨ 3 < o.target then 11 else
  if 100 < o.parts.length ∨ 16384 < o.syms.length then 6 else
  if partsE o.parts [] ≠ 0 then partsE o.parts [] else
  if (symW o.syms).2.2.2 ≠ 0 then (symW o.syms).2.2.2 else
  if firstE (secE o.parts.length) o.syms ≠ 0 then firstE (secE o.parts.length) o.syms else
  firstE (fun p => firstE (relE o.syms.length p.size) p.relas) o.parts
/-- ELF's flags of letters. -/
def bitsN (fs : List UInt8) : Nat := (if hasF fs 97 then 2 else 0) + (if hasF fs 119 then 1 else 0) + (if hasF fs 120 then 4 else 0) + (if hasF fs 116 then 1024 else 0)
/-- Letters of ELF's flags. -/
def textN (n : Nat) (bare : Bool) : List UInt8 := (if n &&& 2 ≠ 0 then [97] else []) ++ (if n &&& 1 ≠ 0 then [119] else []) ++ (if n &&& 4 ≠ 0 then [120] else []) ++ (if n &&& 1024 ≠ 0 then [116] else []) ++ (if bare then [110] else [])
def secPart (p : PartM) : SecM := ⟨p.name, if hasF p.flags 110 then 8 else 1, bitsN p.flags, 0, u64of p.align, u64of p.size, 0, 0, 0, p.data⟩
def hasRel (p : PartM) : Bool := decide (p.relas ≠ [])
def relSec (symtab i : Nat) (p : PartM) : SecM := ⟨relaN ++ p.name, 4, 64, 0, 8, (relaW p.relas).1.length, symtab, i + 1, 24, (relaW p.relas).1⟩
def relSecs (symtab : Nat) : Nat → List PartM → List SecM
  | _, [] => []
  | i, p :: ps => if hasRel p then relSec symtab i p :: relSecs symtab (i + 1) ps else relSecs symtab (i + 1) ps
def symtabNo (o : ObjM) : Nat := o.parts.length + o.parts.countP hasRel + 1
def symSec (o : ObjM) : SecM := ⟨symtabN, 2, 0, 0, 8, (symW o.syms).1.length, symtabNo o + 1, (symW o.syms).2.2.1, 24, (symW o.syms).1⟩
def strSec (o : ObjM) : SecM := ⟨strtabN, 3, 0, 0, 1, (symW o.syms).2.1.length, 0, 0, 0, (symW o.syms).2.1⟩
/-- A module as a file. -/
def elfO (o : ObjM) : ElfM := ⟨1, o.target, if o.target = 3 then 1 else 0, 0, o.parts.map secPart ++ relSecs (symtabNo o) 0 o.parts ++ [symSec o, strSec o], []⟩
def fileO (o : ObjM) : List UInt8 × Int := if mayO o ≠ 0 then ([], mayO o) else if mayE (elfO o) = true then (fileB (elfO o), 0) else ([], 6)
/-- The names that others may see. -/
def definedO (l : List SymM) : List (List UInt8) := (l.filter fun s => !decide (s.bind = 0) && !decide (s.sec = 0) && !decide (s.name = [])).map (·.name)
/-! ### Sections as a module -/
def partOf (s : SecM) : PartM := ⟨s.name, textN s.flags (decide (s.typ = 8)), wrap64 (s.align : Int), wrap64 (s.size : Int), s.data, []⟩
def setRel (ps : List PartM) (i : Nat) (l : List RelaM) : List PartM := ps.modify i fun p => { p with relas := l }
/-- Where a name's part stands: the last one of that name. -/
def putN (A : List (List UInt8 × Nat)) (s : List UInt8) (n : Nat) : List (List UInt8 × Nat) :=
  if s ∈ A.map (·.1) then A.map (fun p => if p.1 = s then (s, n) else p) else A ++ [(s, n)]
def trimRel (n : List UInt8) : List UInt8 := if n.take 5 = relaN then n.drop 5 else n
/-- The program's way: by names. -/
def modP : List SecM → List PartM → List (List UInt8 × Nat) → Option (List PartM)
  | [], ps, _ => some ps
  | s :: ss, ps, A =>
    if s.typ ≠ 4 then modP ss (ps ++ [partOf s]) (putN A s.name ps.length) else
    match lkp A (trimRel s.name) with
    | none => none
    | some i => if (relaRd s.data).2 ≠ 0 then none else modP ss (setRel ps i (relaRd s.data).1) A
/-- The document's way: by numbers. -/
def modR : List SecM → List PartM → Option (List PartM)
  | [], ps => some ps
  | s :: ss, ps =>
    if s.typ ≠ 4 then modR ss (ps ++ [partOf s]) else
    if s.info < 1 ∨ ps.length < s.info then none else
    if (relaRd s.data).2 ≠ 0 then none else modR ss (setRel ps (s.info - 1) (relaRd s.data).1)
/-- What sections tell, either way. -/
def secsO (md : List SecM → Option (List PartM)) (e : ElfM) : Option ObjM :=
  if e.secs.length < 2 then none else
  if (symRd (e.secs[e.secs.length - 2]?.elim [] (·.data)) (e.secs[e.secs.length - 1]?.elim [] (·.data))).2 ≠ 0 then none else
  (md (e.secs.take (e.secs.length - 2))).map fun ps => ⟨e.target, ps, (symRd (e.secs[e.secs.length - 2]?.elim [] (·.data)) (e.secs[e.secs.length - 1]?.elim [] (·.data))).1⟩
def objNo : ObjM := ⟨0, [], []⟩
/-- The module that a file is. -/
noncomputable def readO (md : List SecM → Option (List PartM)) (b : List UInt8) : ObjM × Int :=
  if (readE b).2 ≠ 0 then (objNo, (readE b).2) else
  match secsO md (readE b).1 with
  | none => (objNo, 4)
  | some o => if fileO o = (b, 0) then (o, 0) else (objNo, 4)
end Go.Proofs.YtimnbnomaajmmaaGreat
namespace Go.Proofs.YtimnbnomaajmmaaGreat
open Go.RowKit Go.Fd
theorem ordF_nil (ls : List UInt8) : ordF [] ls = true := by cases ls <;> rfl
theorem ordF_miss {c : UInt8} {fs : List UInt8} : ∀ {ls : List UInt8}, Lib.indexByte ls c < 0 → ordF (c :: fs) ls = false := by
  intro ls
  induction ls with
  | nil => intro _; rfl
  | cons x ls ih =>
    intro h
    rw [Lib.indexByte] at h
    rw [ordF]
    split at h
    · omega
    · next hx =>
      have hx' : ¬ x = c := by simpa using hx
      rw [if_neg hx']
      refine ih ?_
      have := Lib.indexByte_ge ls c
      split at h
      · next h1 => have h1' := eq_of_beq h1; omega
      · omega
theorem ordF_hit {c : UInt8} {fs : List UInt8} : ∀ {ls : List UInt8} {n : Nat}, Lib.indexByte ls c = (n : Int) → n < ls.length ∧ ordF (c :: fs) ls = ordF fs (ls.drop (n + 1)) := by
  intro ls
  induction ls with
  | nil => intro n h; rw [Lib.indexByte] at h; omega
  | cons x ls ih =>
    intro n h
    rw [Lib.indexByte] at h
    rw [ordF]
    split at h
    · next hx =>
      obtain rfl : n = 0 := by omega
      rw [if_pos (by simpa using hx)]
      exact ⟨by simp, rfl⟩
    · next hx =>
      rw [if_neg (by simpa using hx)]
      split at h
      · omega
      · next h1 =>
        have h1' : ¬ Lib.indexByte ls c = -1 := by simpa using h1
        have := Lib.indexByte_ge ls c
        obtain ⟨m, rfl⟩ : ∃ m, n = m + 1 := ⟨n - 1, by omega⟩
        obtain ⟨h1, h2⟩ := ih (n := m) (by omega)
        exact ⟨by rw [List.length_cons]; omega, by rw [h2]; rfl⟩
theorem hasF_idx (fs : List UInt8) (c : UInt8) : hasF fs c = decide (0 ≤ Lib.indexByte fs c) := by
  rw [← Lib.contains_iff_indexByte]
  unfold hasF
  rw [List.contains_eq_any_beq]
  congr 1
  funext x
  rw [Bool.eq_iff_iff, decide_eq_true_iff, beq_iff_eq]
  exact eq_comm
theorem has_any (fs : List UInt8) (c : UInt8) (w : World) : Calls Tryz.prog 45 #[S fs, .string ⟨#[c]⟩] w fun e w' => e = .returned (.bool (hasF fs c)) ∧ w = w' := by
  refine (Tryz.strings_Contains_one ⟨fs.toArray⟩ c w).mono fun e w' ⟨he, hw⟩ => ⟨?_, hw.symm⟩
  rw [he, hasF_idx]
theorem indexByte_c (l : List UInt8) (c : UInt8) (w : World) : Calls Tryz.prog 91 #[S l, .int .u8 (c.toNat : Int)] w fun e w' => e = .returned (.int .i64 (Lib.indexByte l c)) ∧ w = w' := by
  refine (Tryz.strings_IndexByte ⟨l.toArray⟩ (c.toNat : Int) w).mono fun e w' ⟨he, hw⟩ => ⟨?_, hw.symm⟩
  rw [he]
  have : ((c.toNat : Int)).toNat.toUInt8 = c := by rw [Int.toNat_natCast]; exact UInt8.ofNat_toNat
  rw [this]
theorem run_idxS {l : List UInt8} {k : Nat} {c : UInt8} (h : l[k]? = some c) (w : World) : (Instr.index 9 (S l) (.int .i64 (k : Int))).run Tryz.prog w = .ok (.int .u8 (c.toNat : Int)) w := by
  obtain ⟨h1, h2⟩ := List.getElem?_eq_some_iff.1 h
  rw [run_index_string w _ ⟨l.toArray⟩ .i64 (k : Int) (by kernel_rfl), dif_pos ⟨by omega, by simpa [ByteArray.size] using h1⟩]
  subst h2
  rfl
theorem exec_index {P : Program} {w : World} {a : Act} {v i u : Value} {d : Option Tmp} {t ty : TypeId} {pos : String} {aft : Array Edge} {g : Option (Nat × Bool)} {x ix : Operand} (hr : (Instr.index t v i).run P w = .ok u w)
    (hx : a.eval x = v) (hi : a.eval ix = i) : (execOp a.eval ⟨d, .index t x ix, ty, pos, aft, g⟩).run P w = .ok (.value u) w := by
  simp [execOp, hx, hi, hr]
/-- letters[i:] -/
theorem run_letFrom {i : Nat} (hi : i ≤ 5) (w : World) : (Instr.sliceAt 9 (S lettersM) (some (.int .i64 (i : Int))) none none).run Tryz.prog w = .ok (S (lettersM.drop i)) w := by
  rcases (show i = 0 ∨ i = 1 ∨ i = 2 ∨ i = 3 ∨ i = 4 ∨ i = 5 by omega) with rfl | rfl | rfl | rfl | rfl | rfl
  all_goals kernel_rfl
set_option maxHeartbeats 1000000 in
set_option maxRecDepth 100000 in
theorem ordered6_any (fs : List UInt8) (w : World) (hs : fs.length ≤ 9223372036854775807) : Calls Tryz.prog 57 #[S fs] w fun e w' => e = .returned (.bool (ordF fs lettersM)) ∧ Below w.heap.size w w' := by
  obtain ⟨n, hn⟩ : ∃ n, n = fs.length := ⟨_, rfl⟩
  have HN := Lib.hid hn
  rw [← hn] at hs
  have hn9 := hs
  clear hs
  go_enter Tryz.func57, Tryz.ntmps57
  go_wp2
  rw [show ((fs.length : Nat) : Int) = (n : Int) by rw [hn]]
  clear hn
  go_loopw [3, 8] (fun x i wr => ∃ k at_ : Nat, x = .int .i64 at_ ∧ i = .int .i64 k ∧ k ≤ n ∧ at_ ≤ 5 ∧ Hid (ordF fs lettersM = ordF (fs.drop k) (lettersM.drop at_)) ∧ Hid (Below w.heap.size w wr)) (fun _ i _ => n - (intOf i).toNat)
  case atStart => exact ⟨0, 0, rfl, rfl, Nat.zero_le _, by omega, rfl, Below.refl _ _⟩
  case round =>
    obtain ⟨k, at_, rfl, rfl, hk, ha, HK, HB⟩ := hrel
    by_cases hlt : k < n
    · have HX := Lib.hid (show fs[k]? = some (fs[k]'(by have := HN.out; omega)) from List.getElem?_eq_getElem _)
      generalize fs[k]'(by have := HN.out; omega) = c at *
      have HD := Lib.hid (show fs.drop k = c :: fs.drop (k + 1) by
        obtain ⟨h1, h2⟩ := List.getElem?_eq_some_iff.1 HX.out
        rw [List.drop_eq_getElem_cons h1, h2])
      have HC := Lib.hid (fun w => indexByte_c (lettersM.drop at_) c w)
      obtain ⟨ix, hix⟩ : ∃ ix, ix = Lib.indexByte (lettersM.drop at_) c := ⟨_, rfl⟩
      rw [← hix] at HC
      have HIX := Lib.hid hix
      clear hix
      go_wp2
      refine wp_region_walk 6 [(1, .is (S (lettersM.drop at_))), (4, .is (.int .u8 (c.toNat : Int))), (5, .is (.int .i64 ix))] (by kernel_rfl) (by kernel_rfl) ?_
      simp only [List.take_succ_cons, List.take_zero, List.drop_succ_cons, List.drop_zero]
      repeat (first
        | (refine walk_quiet rfl rfl rfl ?_; intro K hK; go_big_quiet_op; go_big_quiet_on)
        | (refine walk_is rfl rfl (fun wx hwx _ => WpYld.val (exec_sliceFrom (fun w' => run_letFrom ha w') rfl rfl) Yld.is_mk (Below.refl _ _)) ?_; go_frame)
        | (refine walk_is rfl rfl (fun wx hwx _ => WpYld.val (exec_index (run_idxS HX.out _) rfl rfl) Yld.is_mk (Below.refl _ _)) ?_; go_frame)
        | (refine walk_is rfl rfl (fun wx hwx _ => WpYld.callIs (run_callL (vals := [S (lettersM.drop at_), .int .u8 (c.toNat : Int)]) Tryz.func91 (by kernel_rfl) rfl rfl) (HC.out wx)) ?_; go_frame))
      refine walk_nil ?_
      intro wz hbz _
      have HB1 := Lib.hid (HB.out.trans (hbz.mono HB.out.size))
      clear hbz
      by_cases hneg : ix < 0
      · have HR := Lib.hid (show ordF fs lettersM = false by rw [HK.out, HD.out, ordF_miss (by rw [← HIX.out]; exact hneg)])
        go_wp2
        go_ret
        exact ⟨by rw [HR.out]; rfl, HB1.out⟩
      · obtain ⟨m, rfl⟩ : ∃ m : Nat, ix = (m : Int) := ⟨ix.toNat, by omega⟩
        obtain ⟨h1, h2⟩ := ordF_hit (c := c) (fs := fs.drop (k + 1)) (ls := lettersM.drop at_) (n := m) HIX.out.symm
        have HR := Lib.hid (show ordF fs lettersM = ordF (fs.drop (k + 1)) (lettersM.drop (at_ + (m + 1))) by rw [HK.out, HD.out, h2, List.drop_drop])
        rw [List.length_drop] at h1
        have hm5 : at_ + m + 1 ≤ 5 := by have : lettersM.length = 5 := rfl; omega
        clear h1 h2 hneg
        go_wp2
        go_roundw
        case rel => exact ⟨k + 1, at_ + (m + 1), by go_num, by go_num, by omega, by omega, HR.out, HB1.out⟩
        case measure => simp [intOf] <;> omega
    · obtain rfl : k = n := by omega
      have HR := Lib.hid (show ordF fs lettersM = true by rw [HK.out, List.drop_eq_nil_of_le (by have := HN.out; omega), ordF_nil])
      go_wp2
      go_ret
      exact ⟨by rw [HR.out]; rfl, HB.out⟩
end Go.Proofs.YtimnbnomaajmmaaGreat
