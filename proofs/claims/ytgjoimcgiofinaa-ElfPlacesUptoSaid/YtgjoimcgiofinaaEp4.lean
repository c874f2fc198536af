/-
  ElfPlaces holds: places rise, are aligned, and what is loaded lies as far above a page in the file as in memory. Within the bound.
-/
import Derived.Test.YtgjoimcgiofinaaEp3
import Derived.Test.YtgjoimcgiofinaaRows
import Derived.ProofKit
import Derived.SizedLaws
import Derived.OpenShut
import Derived.Lib.SmallJoins
import Derived.Deep.Fields
import Derived.SliceStrings
import Derived.Deep.Slices
import Derived.JoinedCond
import Derived.Shelf.Vars
namespace Go.Proofs.Ytgjoimcgiofinaa
open Go.RowKit Go.Fd
theorem u64_sub {a b : Nat} (ha : a < 18446744073709551616) (hb : b < 18446744073709551616) : IntKind.u64.wrap ((a : Int) - (b : Int)) = (((a + 18446744073709551616 - b) % 18446744073709551616 : Nat) : Int) := by
  simp [IntKind.wrap, IntKind.signed, IntKind.bits]
  omega
theorem i64_sub {a b : Nat} (ha : a ≤ 1000000000) (hb : b ≤ 1000000000) : IntKind.i64.wrap ((a : Int) - (b : Int)) = (a : Int) - (b : Int) := by
  simp [IntKind.wrap, IntKind.signed, IntKind.bits]
  omega
/-- Where a section that is loaded begins. -/
theorem place_load {p addr : Nat} (ha : addr < 18446744073709551616) (hp : p < 18446744073709551616) : ((p + (addr + 18446744073709551616 - p) % 18446744073709551616 % 4096 + 18446744073709551616 - addr) % 18446744073709551616) % 4096 = 0 := by
  omega
set_option maxHeartbeats 4000000 in
set_option maxRecDepth 100000 in
theorem elfPlacesLaw_any (e : ElfM) (L : List (SecM × Value)) (sv gv : Value) (w : World) (h : ElfAt w e L sv gv) (ho : ElfOk e) :
    Calls Try.prog 13 #[elfV e sv gv] w fun r w' => r = .returned (.bool true) ∧ Below w.heap.size w w' := by
  have HA := Lib.hid h
  have HO := Lib.hid ho
  obtain ⟨a, ca, rfl, hca, -, hc⟩ := h.rd.open (fun _ => rfl)
  obtain ⟨gn, ga, gc, hgn, rfl, hgc, _⟩ := h.segs.shape
  have HC := Lib.hid hc
  have HSE := Lib.hid (fun k x (hk : L[k]? = some x) => sec_of h.secs hk)
  have HEL := Lib.hid (show e.secs.length = L.length by rw [h.secs, List.length_map])
  have HLE := Lib.hid (fun w' (hb : Below w.heap.size w w') => light_any e L (.slice a L.length ca) (.slice ga gn gc) w' (h.mono hb) ho)
  have HPL := Lib.hid (fun w' (hb : Below w.heap.size w w') => elfPlaces_any e L (.slice a L.length ca) (.slice ga gn gc) w' (h.mono hb) ho)
  have HD := Lib.hid h.data
  obtain ⟨nl, hnl⟩ : ∃ n, n = L.length := ⟨_, rfl⟩
  rw [← hnl] at HLE HPL HA hca ⊢
  have HL := Lib.hid hnl
  clear h ho hc hnl
  generalize lightB e = le at *
  go_enter Try.func13, Try.ntmps13
  go_wp2_with (first
    | ((with_reducible show wpList _ _ _ (⟨some 1, .box _ _, _, _, _, _⟩ :: _) _ _); go_must (refine wpList_box rfl ?_; intro w1 hx1 hb1 hs1; have HX1 := Lib.hid hx1; have HB1 := Lib.hid hb1; clear hx1 hb1)))
  refine (begun4_any _).mono ?_
  rintro r w3 ⟨rfl, hb3⟩
  have HX3 := Lib.hid (heap_below hb3 HX1.out)
  have HB3 := Lib.hid (HB1.out.trans (hb3.mono HB1.out.size))
  clear hb3
  obtain ⟨c0, c1, c2, c3, c4, c5⟩ := elf_box HX3.out
  go_wp2_with fail
  refine (HLE.out _ HB3.out).mono ?_
  rintro r w4 ⟨rfl, hb4⟩
  have HX4 := Lib.hid (heap_below hb4 HX3.out)
  have HB4 := Lib.hid (HB3.out.trans (hb4.mono HB3.out.size))
  clear hb4 c0 c1 c2 c3 c4 c5
  cases le with
  | false =>
    go_wp2
    go_ret
    exact ⟨rfl, HB4.out⟩
  | true =>
    obtain ⟨d0, d1, d2, d3, d4, d5⟩ := elf_box HX4.out
    go_wp2_with fail
    refine (HPL.out _ HB4.out).mono ?_
    rintro r w5 ⟨v5, rfl, hv5, hb5⟩
    have HX5 := Lib.hid (heap_below hb5 HX4.out)
    have HB5 := Lib.hid (HB4.out.trans (hb5.mono HB4.out.size))
    clear hb5 d0 d1 d2 d3 d4 d5
    cases hm : mayE e with
    | false =>
      rw [hm] at hv5
      simp only [Bool.false_eq_true, if_false] at hv5 ⊢
      obtain ⟨m5, a5, q5, hm5, rfl, _, _⟩ := hv5.shape
      obtain rfl : m5 = 0 := hm5.out
      clear hv5 hm
      go_wp2
      go_ret
      exact ⟨rfl, HB5.out⟩
    | true =>
      have HK := Lib.hid (mayK hm)
      rw [hm] at hv5
      simp only [if_true] at hv5 ⊢
      have HPB := Lib.hid (plF_le (g := segsB e) (n := front e) HK.out.pow)
      have HV5 := Lib.hid hv5
      obtain ⟨m5, a5, q5, hm5, rfl, _, _⟩ := hv5.shape
      obtain rfl : m5 = nl := by have h1 := hm5.out; have h2 := places_len e; have h3 := HEL.out; have h4 := HL.out; omega
      have hgn16 : gn ≤ 16 := by have := hgn.out; have := HK.out.segs; omega
      have hnl9 : m5 ≤ 250 := by have := HK.out.secs; have := HEL.out; have := HL.out; omega
      have HFR : Hid (front e = 64 + 56 * gn) := Lib.hid (by unfold front; rw [hgn.out])
      have HSB : Hid (segsB e = decide (0 < gn)) := Lib.hid (by unfold segsB; rw [hgn.out])
      obtain ⟨d0, d1, d2, d3, d4, d5⟩ := elf_box HX5.out
      clear hv5 hm hm5
      go_wp2
      clear d0 d1 d2 d3 d4 d5
      go_loopw [5, 6] (fun at_ i wr => ∃ k q : Nat, i = .int .i64 k ∧ k ≤ m5 ∧ at_ = .int .i64 q ∧ q ≤ 100000000 ∧ Hid (q = (plF (segsB e) (front e) (e.secs.take k)).2) ∧ Hid (Below w5.heap.size w5 wr)) (fun _ i _ => m5 - (intOf i).toNat)
      case atStart => exact ⟨0, 64 + 56 * gn, rfl, Nat.zero_le _, by go_num, by omega, by rw [HFR.out]; rfl, Below.refl _ _⟩
      case round =>
        obtain ⟨k, q, rfl, hk, rfl, hq, HQ, HB⟩ := hrel
        have HBW := Lib.hid (HB5.out.trans (HB.out.mono HB5.out.size))
        have HXr := Lib.hid (heap_below HB.out HX5.out)
        obtain ⟨d0, d1, d2, d3, d4, d5⟩ := elf_box HXr.out
        clear d0 d1 d2 d3
        by_cases hlt : k < m5
        · have X1 := Lib.hid (show L[k]? = some (L[k]'(by have := HL.out; omega)) from List.getElem?_eq_getElem _)
          generalize L[k]'(by have := HL.out; omega) = x at *
          obtain ⟨s, dv⟩ := x
          obtain ⟨dm, da, dc, hdm, rfl, _, _⟩ := (HD.out _ (List.mem_of_getElem? X1.out)).shape
          have X2 := Lib.hid (HSE.out _ _ X1.out)
          have HFS := Lib.hid (HO.out.fits.secs _ (List.mem_of_getElem? X2.out))
          have HPS := Lib.hid (powB_le (HK.out.pow _ (List.mem_of_getElem? X2.out)))
          have HGT := Lib.hid (plF_get (g := segsB e) (n := front e) X2.out)
          have HST := Lib.hid (plF_step (g := segsB e) (n := front e) X2.out)
          have HGE := Lib.hid (placeS_le (g := segsB e) (p := q) (HK.out.pow _ (List.mem_of_getElem? X2.out)))
          have HBD := Lib.hid (place_bd HK.out (k + 1))
          have HHG := Lib.hid (heads_ge (e := e))
          have HLN := Lib.hid HK.out.len
          obtain ⟨b1, o1, ha, c10, c11, c12, c13, c14, c15, c16, c17, c18, c19, -⟩ := sec_cells HC.out HBW.out X1.out
          subst ha
          obtain ⟨g5, p5, hq5, -, -, -, hcl5, -⟩ := HV5.out.open 0 (by rw [places_len]; have := HEL.out; have := HL.out; omega)
          have hq6 : a5 = some ⟨g5, 0, none⟩ := by injection hq5
          subst hq6
          have HPLC := Lib.hid (hcl5 k (by rw [places_len]; have := HEL.out; have := HL.out; omega))
          have HGP : Hid ((placesOf e).1[k]?.getD 0 = placeS (segsB e) q s) := Lib.hid (by
            rw [HQ.out]
            show ((plF (segsB e) (front e) e.secs).1[k]?).getD 0 = _
            rw [HGT.out]
            rfl)
          rw [HGP.out] at HPLC
          have HNX : Hid ((plF (segsB e) (front e) (e.secs.take (k + 1))).2 = placeS (segsB e) q s + dm) := Lib.hid (by
            rw [HST.out, hdm.out, HQ.out]; rfl)
          have hpb : placeS (segsB e) q s + dm ≤ 4194304 := by
            have h1 := HBD.out
            rw [HNX.out] at h1
            have h2 := HHG.out
            have h3 := HLN.out
            omega
          have hge1 := HGE.out.1
          have HPD : Hid (placeS (segsB e) q s = if s.typ = 8 then q else if (segsB e && decide (s.flags &&& 2 ≠ 0)) = true then q + (s.addr + 18446744073709551616 - q) % 18446744073709551616 % 4096 else upN q s.align) := rfl
          rw [HSB.out] at HPD HNX hge1 hpb HPLC
          generalize placeS (decide (0 < gn)) q s = pl at *
          obtain ⟨name, typ, flags, addr, align, size, link, info, ent, data⟩ := s
          dsimp only at *
          have hfl := flag_run HFS.out.2.1
          dsimp only at hfl
          have e5 : wr.cell? ⟨g5, k, none⟩ = some (.int .i64 pl) := (HB.out.cell (p := ⟨g5, k, none⟩) (block_lt HPLC.out)).trans HPLC.out
          have E5 := Lib.hid e5
          have hd1 : decide (pl < q) = false := by simp; omega
          clear HGE HBD HHG HLN HGT HST hq5 hcl5 HPLC HGP
          by_cases h8 : typ = 8
          · have k8 : ((typ : Int) == 8) = true := by rw [beq_iff_eq]; omega
            have k8' : ((typ : Int) != 8) = false := by rw [bne_eq_false_iff_eq]; omega
            have H8 := Lib.hid h8
            clear h8 hfl
            go_wp2_with ((with_reducible show wpList _ _ _ (⟨none, .store _ _ _, _, _, _, _⟩ :: _) _ _); go_must (refine wpList_storeNew rfl rfl (by kernel_rfl) rfl (by simp [Value.oneCell']) ?_; intro w2 hh2 hb2; obtain ⟨e0, f1, f2, f3, f4, e6, e7, e8, e9, f9⟩ := sec_box (x := (⟨name, typ, flags, addr, align, size, link, info, ent, data⟩, .slice da dm dc)) hh2; have HH2 := Lib.hid hh2; have HB2 := Lib.hid (HB.out.trans (hb2.mono HB.out.size)); have g5c : w2.cell? ⟨g5, k, none⟩ = some (.int .i64 pl) := (hb2.cell (p := ⟨g5, k, none⟩) (block_lt E5.out)).trans E5.out; have HG5 := Lib.hid g5c; have q5 : w2.cell? ⟨w.heap.size, 5, none⟩ = some (.slice ga gn gc) := cell_rec (heap_below hb2 HXr.out) 5; clear hh2 hb2 e0 e6 e7 e8 e9 e5))
            have hAB := fun (x : Above w2) (b k : Nat) (h : b < w2.heap.size) => Above.cell x b k h
            have l1 := block_lt g5c
            have l2 := block_lt f9
            refine wp_region_walk 9 [] (by kernel_rfl) (by kernel_rfl) ?_
            simp only [List.take_succ_cons, List.take_zero, List.drop_succ_cons, List.drop_zero]
            repeat (refine walk_quiet rfl rfl rfl ?_; intro K hK; go_big_quiet_op; go_big_quiet_on)
            refine walk_nil ?_
            intro wz hbwz hF
            have HBWZ := Lib.hid (HB2.out.trans (hbwz.mono HB2.out.size))
            clear hAB l1 l2 hF hbwz f1 f2 f3 f4 f9 g5c
            go_wp2
            go_round
            case rel =>
              first
                | exact ⟨k + 1, pl + dm, by go_num, by omega, by go_num, by omega, (by rw [HSB.out, HNX.out]; exact rfl), HBWZ.out⟩
                | ((repeat apply Exists.intro); exact ⟨⟨k + 1, pl + dm, by go_num, by omega, by go_num, by omega, (by rw [HSB.out, HNX.out]; exact rfl), HBWZ.out⟩, rfl⟩)
            case measure => simp [intOf] <;> omega
          · have k8 : ((typ : Int) == 8) = false := by rw [beq_eq_false_iff_ne]; omega
            have k8' : ((typ : Int) != 8) = true := by rw [bne_iff_ne]; omega
            rw [if_neg h8] at HPD
            have H8 := Lib.hid h8
            clear h8
            by_cases hg2 : 0 < gn ∧ flags &&& 2 ≠ 0
            · obtain ⟨hg1, hg2⟩ := hg2
              rw [decide_eq_true hg2] at hfl
              have HPE : Hid (pl = q + (addr + 18446744073709551616 - q) % 18446744073709551616 % 4096) := Lib.hid (by have := HPD.out; rwa [decide_eq_true hg1, decide_eq_true hg2, if_pos (show (true && true) = true from rfl)] at this)
              have hg1' : decide (0 < gn) = true := decide_eq_true hg1
              obtain ⟨D, hD, hD4⟩ : ∃ D : Nat, IntKind.u64.wrap ((pl : Int) - (addr : Int)) = (D : Int) ∧ D % 4096 = 0 := by
                refine ⟨(pl + 18446744073709551616 - addr) % 18446744073709551616, ?_, ?_⟩
                · have h1 := HFS.out.2.2.1
                  dsimp only at h1
                  exact u64_sub (by omega) h1
                · rw [HPE.out]
                  exact place_load HFS.out.2.2.1 (by omega)
              have hr : (pl : Int) - q < 4096 := by have := HPE.out; omega
              have hm1 : ((D : Int)).tmod 4096 = 0 := by rw [Int.tmod_eq_emod_of_nonneg (by omega)]; omega
              have hm2 : (D : Int) % 4096 = 0 := by omega
              have hw2 : IntKind.i64.wrap ((pl : Int) - (q : Int)) = (pl : Int) - (q : Int) := i64_sub (by omega) (by omega)
              have hd2 : decide ((4096 : Int) ≤ (pl : Int) - (q : Int)) = false := by simp; omega
              have HG2 := Lib.hid hg2
              clear hg2 hD4
              go_wp2_with ((with_reducible show wpList _ _ _ (⟨none, .store _ _ _, _, _, _, _⟩ :: _) _ _); go_must (refine wpList_storeNew rfl rfl (by kernel_rfl) rfl (by simp [Value.oneCell']) ?_; intro w2 hh2 hb2; obtain ⟨e0, f1, f2, f3, f4, e6, e7, e8, e9, f9⟩ := sec_box (x := (⟨name, typ, flags, addr, align, size, link, info, ent, data⟩, .slice da dm dc)) hh2; have HH2 := Lib.hid hh2; have HB2 := Lib.hid (HB.out.trans (hb2.mono HB.out.size)); have g5c : w2.cell? ⟨g5, k, none⟩ = some (.int .i64 pl) := (hb2.cell (p := ⟨g5, k, none⟩) (block_lt E5.out)).trans E5.out; have HG5 := Lib.hid g5c; have q5 : w2.cell? ⟨w.heap.size, 5, none⟩ = some (.slice ga gn gc) := cell_rec (heap_below hb2 HXr.out) 5; clear hh2 hb2 e0 e6 e7 e8 e9 e5))
              have hAB := fun (x : Above w2) (b k : Nat) (h : b < w2.heap.size) => Above.cell x b k h
              have l1 := block_lt g5c
              have l2 := block_lt f9
              refine wp_region_walk 19 [] (by kernel_rfl) (by kernel_rfl) ?_
              simp only [List.take_succ_cons, List.take_zero, List.drop_succ_cons, List.drop_zero]
              repeat (first
                | (refine walk_quiet rfl rfl rfl ?_; intro K hK; go_big_quiet_op; go_big_quiet_on)
                | (refine walk_skip rfl ?_; go_frame))
              refine walk_nil ?_
              intro w3 hbw3 hF
              have HB3w := Lib.hid (HB2.out.trans (hbw3.mono HB2.out.size))
              have g5d : w3.cell? ⟨g5, k, none⟩ = some (.int .i64 pl) := (hbw3.cell (p := ⟨g5, k, none⟩) l1).trans g5c
              have f9d : w3.cell? ⟨wr.heap.size, 9, none⟩ = some (.slice da dm dc) := (hbw3.cell (p := ⟨wr.heap.size, 9, none⟩) l2).trans f9
              clear hAB l1 l2 hF hbw3 f1 f2 f3 f4 f9 g5c q5
              have g5c := g5d
              have f9 := f9d
              clear g5d f9d
              go_wp2
              have hAB := fun (x : Above w3) (b k : Nat) (h : b < w3.heap.size) => Above.cell x b k h
              have l1 := block_lt g5c
              have l2 := block_lt f9
              refine wp_region_walk 9 [] (by kernel_rfl) (by kernel_rfl) ?_
              simp only [List.take_succ_cons, List.take_zero, List.drop_succ_cons, List.drop_zero]
              repeat (first
                | (refine walk_quiet rfl rfl rfl ?_; intro K hK; go_big_quiet_op; go_big_quiet_on)
                | (refine walk_skip rfl ?_; go_frame))
              refine walk_nil ?_
              intro w4 hbw4 hF
              have HB4w := Lib.hid (HB3w.out.trans (hbw4.mono HB3w.out.size))
              clear hAB l1 l2 hF hbw4 f9 g5c
              go_wp2
              go_round
              case rel =>
                first
                  | exact ⟨k + 1, pl + dm, by go_num, by omega, by go_num, by omega, (by rw [HSB.out, HNX.out]; exact rfl), HB4w.out⟩
                  | ((repeat apply Exists.intro); exact ⟨⟨k + 1, pl + dm, by go_num, by omega, by go_num, by omega, (by rw [HSB.out, HNX.out]; exact rfl), HB4w.out⟩, rfl⟩)
              case measure => simp [intOf] <;> omega
            · have HPE : Hid (pl = upN q align) := Lib.hid (by
                have := HPD.out
                rw [if_neg] at this
                · exact this
                · simp only [Bool.and_eq_true, decide_eq_true_eq]
                  exact hg2)
              have ha1 := HPS.out.1
              have ha2 := HPS.out.2
              have hup := upN_le (n := q) (a := align) ha1
              have hdv := upN_dvd q align
              rw [← HPE.out] at hup hdv
              have hpos : (0 : Int) < (align : Int) := by omega
              have hne0 : ((align : Int) == 0) = false := by rw [beq_eq_false_iff_ne]; omega
              have hm2 : (pl : Int) % (align : Int) = 0 := by have := congrArg (Nat.cast : Nat → Int) hdv; simpa using this
              have hm1 : ((pl : Int)).tmod (align : Int) = 0 := by rw [Int.tmod_eq_emod_of_nonneg (by omega)]; exact hm2
              have hw2 : IntKind.i64.wrap ((pl : Int) - (q : Int)) = (pl : Int) - (q : Int) := i64_sub (by omega) (by omega)
              have hd2 : decide ((align : Int) ≤ (pl : Int) - (q : Int)) = false := by simp; omega
              have hw3 : IntKind.u64.wrap ((pl : Int) - (q : Int)) = (pl : Int) - (q : Int) := by
                simp [IntKind.wrap, IntKind.signed, IntKind.bits]
                omega
              have HG2 := Lib.hid hg2
              have HDV := Lib.hid hdv
              clear hg2 hdv
              have hcases : (flags &&& 2 ≠ 0) = (flags &&& 2 ≠ 0) := rfl
              clear hcases
              by_cases hfb : flags &&& 2 ≠ 0
              · rw [decide_eq_true hfb] at hfl
                have hg0 : decide (0 < gn) = false := decide_eq_false (fun h => HG2.out ⟨h, hfb⟩)
                have hg0n : gn = 0 := by have := of_decide_eq_false hg0; omega
                have HFB := Lib.hid hfb
                clear hfb
                have hg0i : decide ((0 : Int) < (gn : Int)) = false := by simp; omega
                have HG0 := Lib.hid hg0n
                clear hg0n
                go_wp2_with ((with_reducible show wpList _ _ _ (⟨none, .store _ _ _, _, _, _, _⟩ :: _) _ _); go_must (refine wpList_storeNew rfl rfl (by kernel_rfl) rfl (by simp [Value.oneCell']) ?_; intro w2 hh2 hb2; obtain ⟨e0, f1, f2, f3, f4, e6, e7, e8, e9, f9⟩ := sec_box (x := (⟨name, typ, flags, addr, align, size, link, info, ent, data⟩, .slice da dm dc)) hh2; have HH2 := Lib.hid hh2; have HB2 := Lib.hid (HB.out.trans (hb2.mono HB.out.size)); have g5c : w2.cell? ⟨g5, k, none⟩ = some (.int .i64 pl) := (hb2.cell (p := ⟨g5, k, none⟩) (block_lt E5.out)).trans E5.out; have HG5 := Lib.hid g5c; have q5 : w2.cell? ⟨w.heap.size, 5, none⟩ = some (.slice ga gn gc) := cell_rec (heap_below hb2 HXr.out) 5; clear hh2 hb2 e0 e6 e7 e8 e9 e5))
                have hAB := fun (x : Above w2) (b k : Nat) (h : b < w2.heap.size) => Above.cell x b k h
                have l1 := block_lt g5c
                have l2 := block_lt f9
                refine wp_region_walk 21 [] (by kernel_rfl) (by kernel_rfl) ?_
                simp only [List.take_succ_cons, List.take_zero, List.drop_succ_cons, List.drop_zero]
                repeat (first
                  | (refine walk_quiet rfl rfl rfl ?_; intro K hK; go_big_quiet_op; go_big_quiet_on)
                  | (refine walk_skip rfl ?_; go_frame))
                refine walk_nil ?_
                intro w3 hbw3 hF
                have HB3w := Lib.hid (HB2.out.trans (hbw3.mono HB2.out.size))
                have g5d : w3.cell? ⟨g5, k, none⟩ = some (.int .i64 pl) := (hbw3.cell (p := ⟨g5, k, none⟩) l1).trans g5c
                have f9d : w3.cell? ⟨wr.heap.size, 9, none⟩ = some (.slice da dm dc) := (hbw3.cell (p := ⟨wr.heap.size, 9, none⟩) l2).trans f9
                clear hAB l1 l2 hF hbw3 f1 f2 f3 f4 f9 g5c q5
                have g5c := g5d
                have f9 := f9d
                clear g5d f9d
                go_wp2
                have hAB := fun (x : Above w3) (b k : Nat) (h : b < w3.heap.size) => Above.cell x b k h
                have l1 := block_lt g5c
                have l2 := block_lt f9
                refine wp_region_walk 9 [] (by kernel_rfl) (by kernel_rfl) ?_
                simp only [List.take_succ_cons, List.take_zero, List.drop_succ_cons, List.drop_zero]
                repeat (first
                  | (refine walk_quiet rfl rfl rfl ?_; intro K hK; go_big_quiet_op; go_big_quiet_on)
                  | (refine walk_skip rfl ?_; go_frame))
                refine walk_nil ?_
                intro w4 hbw4 hF
                have HB4w := Lib.hid (HB3w.out.trans (hbw4.mono HB3w.out.size))
                clear hAB l1 l2 hF hbw4 f9 g5c
                go_wp2
                go_round
                case rel =>
                  first
                    | exact ⟨k + 1, pl + dm, by go_num, by omega, by go_num, by omega, (by rw [HSB.out, HNX.out]; exact rfl), HB4w.out⟩
                    | ((repeat apply Exists.intro); exact ⟨⟨k + 1, pl + dm, by go_num, by omega, by go_num, by omega, (by rw [HSB.out, HNX.out]; exact rfl), HB4w.out⟩, rfl⟩)
                case measure => simp [intOf] <;> omega
              · rw [decide_eq_false hfb] at hfl
                have HFB := Lib.hid hfb
                clear hfb
                go_wp2_with ((with_reducible show wpList _ _ _ (⟨none, .store _ _ _, _, _, _, _⟩ :: _) _ _); go_must (refine wpList_storeNew rfl rfl (by kernel_rfl) rfl (by simp [Value.oneCell']) ?_; intro w2 hh2 hb2; obtain ⟨e0, f1, f2, f3, f4, e6, e7, e8, e9, f9⟩ := sec_box (x := (⟨name, typ, flags, addr, align, size, link, info, ent, data⟩, .slice da dm dc)) hh2; have HH2 := Lib.hid hh2; have HB2 := Lib.hid (HB.out.trans (hb2.mono HB.out.size)); have g5c : w2.cell? ⟨g5, k, none⟩ = some (.int .i64 pl) := (hb2.cell (p := ⟨g5, k, none⟩) (block_lt E5.out)).trans E5.out; have HG5 := Lib.hid g5c; have q5 : w2.cell? ⟨w.heap.size, 5, none⟩ = some (.slice ga gn gc) := cell_rec (heap_below hb2 HXr.out) 5; clear hh2 hb2 e0 e6 e7 e8 e9 e5))
                have hAB := fun (x : Above w2) (b k : Nat) (h : b < w2.heap.size) => Above.cell x b k h
                have l1 := block_lt g5c
                have l2 := block_lt f9
                refine wp_region_walk 21 [] (by kernel_rfl) (by kernel_rfl) ?_
                simp only [List.take_succ_cons, List.take_zero, List.drop_succ_cons, List.drop_zero]
                repeat (first
                  | (refine walk_quiet rfl rfl rfl ?_; intro K hK; go_big_quiet_op; go_big_quiet_on)
                  | (refine walk_skip rfl ?_; go_frame))
                refine walk_nil ?_
                intro w3 hbw3 hF
                have HB3w := Lib.hid (HB2.out.trans (hbw3.mono HB2.out.size))
                have g5d : w3.cell? ⟨g5, k, none⟩ = some (.int .i64 pl) := (hbw3.cell (p := ⟨g5, k, none⟩) l1).trans g5c
                have f9d : w3.cell? ⟨wr.heap.size, 9, none⟩ = some (.slice da dm dc) := (hbw3.cell (p := ⟨wr.heap.size, 9, none⟩) l2).trans f9
                clear hAB l1 l2 hF hbw3 f1 f2 f3 f4 f9 g5c q5
                have g5c := g5d
                have f9 := f9d
                clear g5d f9d
                go_wp2
                have hAB := fun (x : Above w3) (b k : Nat) (h : b < w3.heap.size) => Above.cell x b k h
                have l1 := block_lt g5c
                have l2 := block_lt f9
                refine wp_region_walk 9 [] (by kernel_rfl) (by kernel_rfl) ?_
                simp only [List.take_succ_cons, List.take_zero, List.drop_succ_cons, List.drop_zero]
                repeat (first
                  | (refine walk_quiet rfl rfl rfl ?_; intro K hK; go_big_quiet_op; go_big_quiet_on)
                  | (refine walk_skip rfl ?_; go_frame))
                refine walk_nil ?_
                intro w4 hbw4 hF
                have HB4w := Lib.hid (HB3w.out.trans (hbw4.mono HB3w.out.size))
                clear hAB l1 l2 hF hbw4 f9 g5c
                go_wp2
                go_round
                case rel =>
                  first
                    | exact ⟨k + 1, pl + dm, by go_num, by omega, by go_num, by omega, (by rw [HSB.out, HNX.out]; exact rfl), HB4w.out⟩
                    | ((repeat apply Exists.intro); exact ⟨⟨k + 1, pl + dm, by go_num, by omega, by go_num, by omega, (by rw [HSB.out, HNX.out]; exact rfl), HB4w.out⟩, rfl⟩)
                case measure => simp [intOf] <;> omega
        · obtain rfl : k = m5 := by omega
          go_wp2
          go_ret
          exact ⟨rfl, HBW.out⟩
end Go.Proofs.Ytgjoimcgiofinaa
namespace Go.Proofs.Ytgjoimcgiofinaa
open Go.ChangeShapes Go.WideShapes Go.ChangeAt Go.RowKit Go.Fd
theorem Try.own : ownKnob Try.prog.godebug = none := by kernel_rfl
theorem Try.laidOut : laidOutB Try.prog = true := by kernel_rfl
/-- All arguments read behind the call as they read before it. -/
theorem belowAll {H : Type} {enc : TypeId × Value → H} {W W' : World} (hb : Below W.heap.size W W') : ∀ {ts : List TypeId} {vs : List Value} {ds : List (DataW H)} {ps : List MemPlace},
    DataW.TrodAll enc Try.prog W 0 (fun _ => true) true ts vs ds ps → (∀ x ∈ ps, x.block < W.heap.size) → (∀ t ∈ ts, Try.prog.readableRec t = true ∧ t < Try.prog.types.size) →
    DataW.TrodAll enc Try.prog W' 0 (fun b => decide (b < W.heap.size)) true ts vs ds ps
  | [], vs, ds, ps, h, _, _ => by obtain ⟨rfl, rfl, rfl⟩ := trodAll_nil h; exact trodAll_mk0
  | t :: ts, vs, ds, ps, h, hlt, ht => by
    obtain ⟨v, vs', d, ds', p, q, rfl, rfl, rfl, h0, h1⟩ := trodAll_cons h
    exact trodAll_cons_mk (Below.trod Try.laidOut (ht t (by simp)).1 (ht t (by simp)).2 h0 hb fun x hx => hlt x (by simp [hx]))
      (belowAll hb h1 (fun x hx => hlt x (by simp [hx])) fun u hu => ht u (by simp [hu]))
/-- The same, the types asked as one closed fact. -/
theorem belowAllB {H : Type} {enc : TypeId × Value → H} {W W' : World} {ts : List TypeId} (ht : (ts.all fun t => Try.prog.readableRec t && decide (t < Try.prog.types.size)) = true) (hb : Below W.heap.size W W') {vs : List Value} {ds : List (DataW H)} {ps : List MemPlace}
    (h : DataW.TrodAll enc Try.prog W 0 (fun _ => true) true ts vs ds ps) (hlt : ∀ x ∈ ps, x.block < W.heap.size) : DataW.TrodAll enc Try.prog W' 0 (fun b => decide (b < W.heap.size)) true ts vs ds ps :=
  belowAll hb h hlt fun t htm => by
    have := List.all_eq_true.1 ht t htm
    simp only [Bool.and_eq_true, decide_eq_true_eq] at this
    exact this
theorem wf_u64 {x : Int} (h : (Lit.int .u64 x).wf = true) : 0 ≤ x ∧ x < 18446744073709551616 := by
  simp [Lit.wf, IntKind.min, IntKind.max, IntKind.signed, IntKind.bits] at h
  exact ⟨by omega, by omega⟩
theorem len_6 {α : Type} : ∀ {l : List α}, l.length = 6 → ∃ a0 a1 a2 a3 a4 a5, l = [a0, a1, a2, a3, a4, a5]
  | [a0, a1, a2, a3, a4, a5], _ => ⟨a0, a1, a2, a3, a4, a5, rfl⟩
theorem len_7 {α : Type} : ∀ {l : List α}, l.length = 7 → ∃ a0 a1 a2 a3 a4 a5 a6, l = [a0, a1, a2, a3, a4, a5, a6]
  | [a0, a1, a2, a3, a4, a5, a6], _ => ⟨a0, a1, a2, a3, a4, a5, a6, rfl⟩
end Go.Proofs.Ytgjoimcgiofinaa
namespace Go.Fd
end Go.Fd
namespace Go.Proofs.Ytgjoimcgiofinaa
open Go.ChangeMaps Go.ChangeShapes Go.WideShapes Go.ChangeAt Go.RowKit Go.Fd
/-- A struct of cells, each field of one cell: how each reads. -/
theorem cells_struct {H : Type} {enc : TypeId × Value → H} {P : Program} {w : World} {base : Nat} {spare : Nat → Bool} {held : Bool} {t : TypeId} {fs : Array Field} {cs : List Value} {fuel : Nat} {y : DataW H × List MemPlace}
    (hs : P.underlying t = some (.struct fs)) (hone : Go.Deep.oneCellFields P fs = true) (hC : cs.length = fs.size) (h : DataW.trod enc P w base spare held fuel t cs = some y) :
    ∃ n, ∀ (j : Nat) (f : Field), fs[j]? = some f → ∃ x y, cs[j]? = some x ∧ DataW.trod enc P w base spare held n f.type [x] = some y := by
  obtain ⟨xs, n, _, hx, _, hlen, hg⟩ := DataW.trod_struct hs h
  refine ⟨n, fun j f hj => ?_⟩
  obtain ⟨o, k⟩ := Go.Deep.hone_of hone j f hj
  have hjl : j < fs.size := (Array.getElem?_eq_some_iff.1 hj).1
  have hcl : j < cs.length := by omega
  have h1 := hg j f hj
  rw [o, k] at h1
  have h2 : (List.drop j cs).take 1 = [cs[j]] := by
    rw [List.drop_eq_getElem_cons hcl]
    rfl
  rw [h2] at h1
  exact ⟨_, xs[j]'(by omega), List.getElem?_eq_getElem hcl, h1.trans (List.getElem?_eq_getElem _)⟩
end Go.Proofs.Ytgjoimcgiofinaa
namespace Go.Proofs.Ytgjoimcgiofinaa
open Go
theorem handed_cond {H : Type} {enc : TypeId × Value → H} {a : Assume} {C : Checked} {os : Os} {f : FuncId} {fn : Func} {s : OpenSpec} {k : (H : Type) → List (DataW H) → Bool} (hk : s.cond = some k) {F : Stop.Interp} {conds : List PathCond} {apart fresh handsOn again : Bool}
    (own : ownKnob C.prog.godebug = none) (started : os.Started) (noInit : C.prog.inits.idxOf? f = none) (hfn : C.prog.funcs[f]? = some fn)
    (witness : ∃ (w : World) (tape : Tape) (i : Input), w.os = os ∧ (w.forCall tape i).Shaped C.prog ∧ i.vars = [] ∧ Input.okWide C.prog (w.forCall tape i) .any w.heap.size f i ∧
      s.pre6 enc C.prog fn conds apart (w.forCall tape i).memory i.args ∧ a.holds C.prog (lone (Frame.enter C.prog f i.args .normal) [] (w.forCall tape i)))
    (contract : ∀ (W : World) (base : Nat) (args : Array Value) (ds gs : List (DataW H)) (before : List MemPlace),
      (∀ (j : Nat) t v, fn.params[j]? = some t → args[j]? = some v → Value.okWide C.prog W .any base t v) →
      DataW.Whole enc C.prog fn.params.toList s.vars apart W args.toList ds gs before →
      k H (ds ++ gs) = true →
      (DataW.weightsEach C.prog (fn.params.toList ++ s.bare.plain.varTypes C.prog) (ds ++ gs)).all (· ≤ reachBytes) = true →
      W.ShapedOpen C.prog →
      Calls C.prog f args W fun e W' => ∃ v, e = .returned v ∧ (s.at F).post enc C.prog fn apart fresh handsOn again W args v W') :
    ReturnsInHanded a C os f .any (s.pre6 enc C.prog fn conds apart) ((s.at F).post enc C.prog fn apart fresh handsOn again) := by
  refine returnsInHanded_of_calls own started noInit witness ?_
  intro w tape i _ hsh _ hok hpre _
  obtain ⟨_, _, _, fn', hfn', _, _, _, _, hval⟩ := hok
  obtain rfl : fn' = fn := Option.some.inj (hfn'.symm.trans hfn)
  obtain ⟨ds, gs, before, hw, _, hkk⟩ := (OpenSpec.pre_some hk conds apart _ _).1 hpre.1
  refine (contract (w.forCall tape i) w.heap.size i.args ds gs before hval (DataW.Whole.of_heap (w' := w.forCall tape i) (by rfl) hw) hkk (hpre.2.weights hw) hsh).mono fun e W' ⟨v, he, hp⟩ => ?_
  subst he
  exact ChangeSpec.post_blind hp
end Go.Proofs.Ytgjoimcgiofinaa
namespace Go.Proofs.Ytgjoimcgiofinaa
open Go.ChangeMaps Go.ChangeShapes Go.WideShapes Go.ChangeAt Go.RowKit Go.Fd
section
variable {H : Type}
theorem bulkAll_append (xs ys : List (DataW H)) : Rows.uptoBulkAll (xs ++ ys) = Rows.uptoBulkAll xs + Rows.uptoBulkAll ys := by
  induction xs with
  | nil => simp [Rows.uptoBulkAll]
  | cons x xs ih => rw [List.cons_append, Rows.uptoBulkAll, Rows.uptoBulkAll, ih]; omega
theorem bulk_get {xs : List (DataW H)} {i : Nat} {x : DataW H} (h : xs[i]? = some x) : Rows.uptoBulk x ≤ Rows.uptoBulkAll xs := by
  induction xs generalizing i with
  | nil => simp at h
  | cons y xs ih =>
    rw [Rows.uptoBulkAll]
    cases i with
    | zero => simp at h; subst h; omega
    | succ i => have := ih (by simpa using h); omega
theorem bulk_pair {xs : List (DataW H)} {i j : Nat} {x y : DataW H} (hij : i < j) (hx : xs[i]? = some x) (hy : xs[j]? = some y) : Rows.uptoBulk x + Rows.uptoBulk y ≤ Rows.uptoBulkAll xs := by
  induction xs generalizing i j with
  | nil => simp at hx
  | cons z xs ih =>
    rw [Rows.uptoBulkAll]
    cases j with
    | zero => omega
    | succ j =>
      cases i with
      | zero => simp at hx; subst hx; have := bulk_get (xs := xs) (i := j) (by simpa using hy); omega
      | succ i => have := ih (i := i) (j := j) (by omega) (by simpa using hx) (by simpa using hy); omega
end
set_option maxRecDepth 100000 in
/-- A slice of records, as it is read, with a measure of each. -/
theorem trod_recs {H : Type} {enc : TypeId × Value → H} {W : World} {v : Value} {y : DataW H × List MemPlace} {fuel : Nat} {α : Type} {k : Nat} {ec : α → List Value} {good : α → Prop} {μ : α → Nat} {t e : TypeId}
    (ht : Try.prog.underlying t = some (.slice e)) (hc : Try.prog.cellsOf e = k) (hk0 : 0 < k) (hlen : ∀ x, (ec x).length = k)
    (hstep : ∀ n cs y, DataW.trod enc Try.prog W 0 (fun _ => true) true n e cs = some y → cs.length = k → ∃ x, cs = ec x ∧ good x ∧ μ x ≤ Rows.uptoBulk y.1)
    (h : DataW.trod enc Try.prog W 0 (fun _ => true) true fuel t [v] = some y) : ∃ l : List α, RdR k ec W v l ∧ (∀ x ∈ l, good x) ∧ (l.map μ).sum + 1 ≤ Rows.uptoBulk y.1 := by
  rcases Go.Deep.open_slice ht h with ⟨hcs, hx⟩ | ⟨a, len, cap, m, n, D, Pl, hcs, _, hl, hm, hmm, hd, hel⟩
  · simp at hcs
    subst hcs hx
    exact ⟨[], RdR.nil k ec W, (fun x hx => by cases hx), by simp [Rows.uptoBulk]⟩
  · simp at hcs
    subst hcs hd
    simp only [hc] at hel
    have hall : ∀ n', n' ≤ len → ∃ l : List α, l.length = n' ∧ (l.map μ).sum ≤ Rows.uptoBulkAll ((List.range n').map D) ∧ ∀ i x, l[i]? = some x → good x ∧ ∀ c, c < k → W.cell? (a.add (i * k + c)) = (ec x)[c]? := by
      intro n'
      induction n' with
      | zero => exact fun _ => ⟨[], rfl, by simp, fun i x h => by simp at h⟩
      | succ n' ih =>
        intro hn
        obtain ⟨l, h1, hs, h2⟩ := ih (by omega)
        obtain ⟨cs', h3, h4⟩ := hel n' (by simp at hmm; omega)
        obtain ⟨-, h5, h6⟩ := World.cells?_some h3
        obtain ⟨x, rfl, hg, hμ⟩ := hstep _ _ _ h4 h5
        dsimp only at hμ
        refine ⟨l ++ [x], by simp [h1], ?_, fun i y hi => ?_⟩
        · rw [List.range_succ, List.map_append, List.map_append, List.sum_append, bulkAll_append]
          simp [Rows.uptoBulkAll]
          omega
        · rcases Nat.lt_or_ge i n' with hlt | hge
          · rw [List.getElem?_append_left (by omega)] at hi
            exact h2 i y hi
          · rw [List.getElem?_append_right (by omega)] at hi
            have hi0 : i - l.length = 0 := by
              have := (List.getElem?_eq_some_iff.1 hi).1
              simp at this
              omega
            rw [hi0] at hi
            cases hi
            obtain rfl : i = n' := by omega
            refine ⟨hg, fun c hc => ?_⟩
            have := h6 c hc
            rwa [Go.Deep.add_add] at this
    obtain ⟨l, h1, hs, h2⟩ := hall len (Nat.le_refl _)
    refine ⟨l, ⟨by rw [flat_len hlen], some a, cap, by rw [h1], by omega, (fun h => by cases h), fun j hj => ?_⟩, fun x hx => ?_, ?_⟩
    · rw [flat_len hlen] at hj
      have hjk : j = j / k * k + j % k := by rw [Nat.mul_comm]; exact (Nat.div_add_mod j k).symm
      have hi : j / k < l.length := (Nat.div_lt_iff_lt_mul hk0).2 hj
      have hx : l[j / k]? = some l[j / k] := List.getElem?_eq_getElem hi
      have h3 := (h2 _ _ hx).2 (j % k) (Nat.mod_lt _ hk0)
      rw [← hjk] at h3
      have h4 := flat_get hlen l (j / k) (j % k) _ hx (Nat.mod_lt _ hk0)
      rw [← hjk] at h4
      obtain ⟨b, off, spot⟩ := a
      have hspot : spot = none := by
        have hl0 : 0 < l.length := Nat.lt_of_le_of_lt (Nat.zero_le _) hi
        have hx0 : l[0]? = some (l[0]'hl0) := List.getElem?_eq_getElem _
        have h0 := (h2 0 _ hx0).2 0 hk0
        have h5 : (ec (l[0]'hl0))[0]? = some ((ec (l[0]'hl0))[0]'(by rw [hlen]; exact hk0)) := List.getElem?_eq_getElem _
        rw [h5, Nat.zero_mul, Nat.zero_add] at h0
        simpa [Addr.add] using World.cell?_spot h0
      subst hspot
      refine ⟨b, off, rfl, ?_⟩
      rw [add_plain] at h3
      rw [h3, h4]
    · obtain ⟨i, hi⟩ := List.mem_iff_getElem?.1 hx
      exact (h2 i x hi).1
    · rw [Rows.uptoBulk]
      omega
theorem flat_one {α β : Type} (f : α → β) (l : List α) : l.flatMap (fun c => [f c]) = l.map f := by
  induction l with
  | nil => rfl
  | cons x l ih => rw [List.flatMap_cons, ih]; rfl
set_option maxRecDepth 100000 in
theorem trod_bytes {H : Type} {enc : TypeId × Value → H} {W : World} {v : Value} {y : DataW H × List MemPlace} {fuel : Nat} (h : DataW.trod enc Try.prog W 0 (fun _ => true) true fuel 23 [v] = some y) :
    ∃ l : List UInt8, Bs W v l ∧ l.length + 1 ≤ Rows.uptoBulk y.1 := by
  obtain ⟨l, h1, -, h3⟩ := trod_recs (α := UInt8) (k := 1) (ec := fun c => [B c]) (good := fun _ => True) (μ := fun _ => 1) (e := 5) (by kernel_rfl) (by kernel_rfl) (by decide) (fun _ => rfl) (fun n cs y h hl => by
    obtain ⟨z, rfl, hy, hw⟩ := DataW.trod_int Try.underlying5 h
    refine ⟨UInt8.ofNat z.toNat, ?_, trivial, ?_⟩
    · simp [Lit.wf, IntKind.min, IntKind.max, IntKind.signed, IntKind.bits] at hw
      simp [B]
      omega
    · rw [hy]
      simp [Rows.uptoBulk]) h
  refine ⟨l, ?_, by rw [List.map_const', List.sum_replicate_nat] at h3; omega⟩
  have e := flat_one B l
  unfold RdR at h1
  rw [e] at h1
  exact h1
theorem wf_u32 {x : Int} (h : (Lit.int .u32 x).wf = true) : 0 ≤ x ∧ x < 4294967296 := by
  simp [Lit.wf, IntKind.min, IntKind.max, IntKind.signed, IntKind.bits] at h
  omega
theorem wf_i64 {x : Int} (h : (Lit.int .i64 x).wf = true) : -9223372036854775808 ≤ x ∧ x < 9223372036854775808 := by
  simp [Lit.wf, IntKind.min, IntKind.max, IntKind.signed, IntKind.bits] at h
  omega
theorem len_10 {α : Type} {l : List α} (h : l.length = 10) : ∃ a0 a1 a2 a3 a4 a5 a6 a7 a8 a9, l = [a0, a1, a2, a3, a4, a5, a6, a7, a8, a9] := by
  match l, h with
  | a0 :: a1 :: a2 :: l, h =>
    obtain ⟨b0, b1, b2, b3, b4, b5, b6, rfl⟩ := len_7 (l := l) (by simpa using h)
    exact ⟨_, _, _, _, _, _, _, _, _, _, rfl⟩
/-- A struct of cells, each field of one cell: how each reads, with what was read. -/
theorem cells_struct2 {H : Type} {enc : TypeId × Value → H} {P : Program} {w : World} {base : Nat} {spare : Nat → Bool} {held : Bool} {t : TypeId} {fs : Array Field} {cs : List Value} {fuel : Nat} {y : DataW H × List MemPlace}
    (hs : P.underlying t = some (.struct fs)) (hone : Go.Deep.oneCellFields P fs = true) (hC : cs.length = fs.size) (h : DataW.trod enc P w base spare held fuel t cs = some y) :
    ∃ n ds, y.1 = .agg ds ∧ ∀ (j : Nat) (f : Field), fs[j]? = some f → ∃ x z, cs[j]? = some x ∧ DataW.trod enc P w base spare held n f.type [x] = some z ∧ ds[j]? = some z.1 := by
  obtain ⟨xs, n, _, hx, _, hlen, hg⟩ := DataW.trod_struct hs h
  refine ⟨n, xs.map (·.1), by rw [hx], fun j f hj => ?_⟩
  obtain ⟨o, k⟩ := Go.Deep.hone_of hone j f hj
  have hjl : j < fs.size := (Array.getElem?_eq_some_iff.1 hj).1
  have hcl : j < cs.length := by omega
  have h1 := hg j f hj
  rw [o, k] at h1
  have h2 : (List.drop j cs).take 1 = [cs[j]] := by
    rw [List.drop_eq_getElem_cons hcl]
    rfl
  rw [h2] at h1
  exact ⟨_, xs[j]'(by omega), List.getElem?_eq_getElem hcl, h1.trans (List.getElem?_eq_getElem _), by rw [List.getElem?_map, List.getElem?_eq_getElem (by omega)]; rfl⟩
/-- A file by value, as it is read; how great it is. -/
structure ElfRead (W : World) (v : Value) (n : Nat) (e : ElfM) (L : List (SecM × Value)) (sv gv : Value) : Prop where
  val : v = elfV e sv gv
  at_ : ElfAt W e L sv gv
  fits : e.fits
  names : ∀ s ∈ e.secs, s.name.length ≤ 9223372036854775807
  size : (L.map fun p => p.1.data.length + 1).sum + e.segs.length ≤ n
set_option maxRecDepth 100000 in
theorem trod_segs {H : Type} {enc : TypeId × Value → H} {W : World} {v : Value} {y : DataW H × List MemPlace} {fuel : Nat} (h : DataW.trod enc Try.prog W 0 (fun _ => true) true fuel 59 [v] = some y) :
    ∃ l : List SegM, RdR 7 encSeg W v l ∧ (∀ s ∈ l, s.fits) ∧ l.length ≤ Rows.uptoBulk y.1 := by
  obtain ⟨l, h1, h2, h3⟩ := trod_recs (α := SegM) (k := 7) (ec := encSeg) (good := SegM.fits) (μ := fun _ => 1) (e := 99) (by kernel_rfl) (by kernel_rfl) (by decide) (fun _ => rfl) (fun n cs y h hl => by
    obtain ⟨xs, n', -, rfl, -, -, -⟩ := DataW.trod_struct Try.underlying99 h
    obtain ⟨m, hf⟩ := cells_struct Try.underlying99 (by kernel_rfl) hl h
    obtain ⟨c0, c1, c2, c3, c4, c5, c6, rfl⟩ := len_7 hl
    obtain ⟨x0, y0, e0, t0⟩ := hf 0 _ rfl
    obtain ⟨x1, y1, e1, t1⟩ := hf 1 _ rfl
    obtain ⟨x2, y2, e2, t2⟩ := hf 2 _ rfl
    obtain ⟨x3, y3, e3, t3⟩ := hf 3 _ rfl
    obtain ⟨x4, y4, e4, t4⟩ := hf 4 _ rfl
    obtain ⟨x5, y5, e5, t5⟩ := hf 5 _ rfl
    obtain ⟨x6, y6, e6, t6⟩ := hf 6 _ rfl
    cases e0; cases e1; cases e2; cases e3; cases e4; cases e5; cases e6
    obtain ⟨n0, q0, -, w0⟩ := DataW.trod_int Try.underlying57 t0
    obtain ⟨n1, q1, -, w1⟩ := DataW.trod_int Try.underlying57 t1
    obtain ⟨n2, q2, -, w2⟩ := DataW.trod_int Try.underlying53 t2
    obtain ⟨n3, q3, -, w3⟩ := DataW.trod_int Try.underlying53 t3
    obtain ⟨n4, q4, -, w4⟩ := DataW.trod_int Try.underlying53 t4
    obtain ⟨n5, q5, -, w5⟩ := DataW.trod_int Try.underlying53 t5
    obtain ⟨n6, q6, -, w6⟩ := DataW.trod_int Try.underlying53 t6
    cases q0; cases q1; cases q2; cases q3; cases q4; cases q5; cases q6
    have h0 := wf_u32 w0
    have h1 := wf_u32 w1
    have h2 := wf_u64 w2
    have h3 := wf_u64 w3
    have h4 := wf_u64 w4
    have h5 := wf_u64 w5
    have h6 := wf_u64 w6
    refine ⟨⟨n0.toNat, n1.toNat, n2.toNat, n3.toNat, n4.toNat, n5.toNat, n6.toNat⟩, ?_, ⟨by show n0.toNat < _; omega, by show n1.toNat < _; omega, by show n2.toNat < _; omega, by show n3.toNat < _; omega, by show n4.toNat < _; omega, by show n5.toNat < _; omega, by show n6.toNat < _; omega⟩, by simp [Rows.uptoBulk]⟩
    simp only [encSeg, Int.toNat_of_nonneg h0.1, Int.toNat_of_nonneg h1.1, Int.toNat_of_nonneg h2.1, Int.toNat_of_nonneg h3.1, Int.toNat_of_nonneg h4.1, Int.toNat_of_nonneg h5.1, Int.toNat_of_nonneg h6.1]) h
  exact ⟨l, h1, h2, by rw [List.map_const', List.sum_replicate_nat] at h3; omega⟩
set_option maxRecDepth 100000 in
theorem trod_secs {H : Type} {enc : TypeId × Value → H} {W : World} {v : Value} {y : DataW H × List MemPlace} {fuel : Nat} (h : DataW.trod enc Try.prog W 0 (fun _ => true) true fuel 58 [v] = some y) :
    ∃ l : List (SecM × Value), RdR 10 encSec W v l ∧ (∀ p ∈ l, p.1.fits ∧ p.1.name.length ≤ 9223372036854775807 ∧ Bs W p.2 p.1.data) ∧ (l.map fun p => p.1.data.length + 1).sum + 1 ≤ Rows.uptoBulk y.1 := by
  refine trod_recs (α := SecM × Value) (k := 10) (ec := encSec) (good := fun p => p.1.fits ∧ p.1.name.length ≤ 9223372036854775807 ∧ Bs W p.2 p.1.data) (e := 69) (by kernel_rfl) (by kernel_rfl) (by decide) (fun _ => rfl) (fun n cs y h hl => ?_) h
  obtain ⟨m, ds, hy, hf⟩ := cells_struct2 Try.underlying69 (by kernel_rfl) hl h
  obtain ⟨c0, c1, c2, c3, c4, c5, c6, c7, c8, c9, rfl⟩ := len_10 hl
  obtain ⟨x0, y0, e0, t0, -⟩ := hf 0 _ rfl
  obtain ⟨x1, y1, e1, t1, -⟩ := hf 1 _ rfl
  obtain ⟨x2, y2, e2, t2, -⟩ := hf 2 _ rfl
  obtain ⟨x3, y3, e3, t3, -⟩ := hf 3 _ rfl
  obtain ⟨x4, y4, e4, t4, -⟩ := hf 4 _ rfl
  obtain ⟨x5, y5, e5, t5, -⟩ := hf 5 _ rfl
  obtain ⟨x6, y6, e6, t6, -⟩ := hf 6 _ rfl
  obtain ⟨x7, y7, e7, t7, -⟩ := hf 7 _ rfl
  obtain ⟨x8, y8, e8, t8, -⟩ := hf 8 _ rfl
  obtain ⟨x9, y9, e9, t9, d9⟩ := hf 9 _ rfl
  cases e0; cases e1; cases e2; cases e3; cases e4; cases e5; cases e6; cases e7; cases e8; cases e9
  obtain ⟨s, q0, -, hs⟩ := DataW.trod_string Try.underlying9 t0
  obtain ⟨n1, q1, -, w1⟩ := DataW.trod_int Try.underlying57 t1
  obtain ⟨n2, q2, -, w2⟩ := DataW.trod_int Try.underlying53 t2
  obtain ⟨n3, q3, -, w3⟩ := DataW.trod_int Try.underlying53 t3
  obtain ⟨n4, q4, -, w4⟩ := DataW.trod_int Try.underlying53 t4
  obtain ⟨n5, q5, -, w5⟩ := DataW.trod_int Try.underlying53 t5
  obtain ⟨n6, q6, -, w6⟩ := DataW.trod_int Try.underlying57 t6
  obtain ⟨n7, q7, -, w7⟩ := DataW.trod_int Try.underlying57 t7
  obtain ⟨n8, q8, -, w8⟩ := DataW.trod_int Try.underlying53 t8
  obtain ⟨dl, hdl, hdb⟩ := trod_bytes t9
  cases q0; cases q1; cases q2; cases q3; cases q4; cases q5; cases q6; cases q7; cases q8
  have h1 := wf_u32 w1
  have h2 := wf_u64 w2
  have h3 := wf_u64 w3
  have h4 := wf_u64 w4
  have h5 := wf_u64 w5
  have h6 := wf_u32 w6
  have h7 := wf_u32 w7
  have h8 := wf_u64 w8
  unfold maxLen at hs
  refine ⟨(⟨s.data.toList, n1.toNat, n2.toNat, n3.toNat, n4.toNat, n5.toNat, n6.toNat, n7.toNat, n8.toNat, dl⟩, c9), ?_, ⟨⟨by show n1.toNat < _; omega, by show n2.toNat < _; omega, by show n3.toNat < _; omega, by show n4.toNat < _; omega, by show n5.toNat < _; omega, by show n6.toNat < _; omega, by show n7.toNat < _; omega, by show n8.toNat < _; omega⟩, by show s.data.toList.length ≤ _; simpa using hs, hdl⟩, ?_⟩
  · simp only [encSec, Int.toNat_of_nonneg h1.1, Int.toNat_of_nonneg h2.1, Int.toNat_of_nonneg h3.1, Int.toNat_of_nonneg h4.1, Int.toNat_of_nonneg h5.1, Int.toNat_of_nonneg h6.1, Int.toNat_of_nonneg h7.1, Int.toNat_of_nonneg h8.1]
  · rw [hy, Rows.uptoBulk]
    have := bulk_get d9
    show dl.length + 1 ≤ _
    omega
set_option maxRecDepth 100000 in
theorem reads_elf {H : Type} {enc : TypeId × Value → H} {W : World} {base : Nat} {v : Value} {d : DataW H} {p : List MemPlace} (hv : Value.okWide Try.prog W .any base 61 v) (h : DataW.Trod enc Try.prog W 0 (fun _ => true) true 61 v d p) :
    ∃ e L sv gv, ElfRead W v (Rows.uptoBulk d) e L sv gv := by
  obtain ⟨cs, rfl, hsz⟩ := okWide_struct Try.underlying61 hv
  have h6 : cs.toList.length = 6 := by simp [hsz]; kernel_rfl
  obtain ⟨fuel, hf0⟩ := h
  obtain ⟨m, ds, hy, hf⟩ := cells_struct2 (cs := cs.toList) Try.underlying61 (by kernel_rfl) h6 hf0
  obtain ⟨c0, c1, c2, c3, c4, c5, hcs⟩ := len_6 h6
  rw [hcs] at hf
  obtain ⟨x0, y0, e0, t0, -⟩ := hf 0 _ rfl
  obtain ⟨x1, y1, e1, t1, -⟩ := hf 1 _ rfl
  obtain ⟨x2, y2, e2, t2, -⟩ := hf 2 _ rfl
  obtain ⟨x3, y3, e3, t3, -⟩ := hf 3 _ rfl
  obtain ⟨x4, y4, e4, t4, d4⟩ := hf 4 _ rfl
  obtain ⟨x5, y5, e5, t5, d5⟩ := hf 5 _ rfl
  cases e0; cases e1; cases e2; cases e3; cases e4; cases e5
  obtain ⟨n0, q0, -, w0⟩ := DataW.trod_int Try.underlying3 t0
  obtain ⟨n1, q1, -, w1⟩ := DataW.trod_int Try.underlying3 t1
  obtain ⟨n2, q2, -, w2⟩ := DataW.trod_int Try.underlying57 t2
  obtain ⟨n3, q3, -, w3⟩ := DataW.trod_int Try.underlying53 t3
  obtain ⟨L, hL, hg, hs⟩ := trod_secs t4
  obtain ⟨G, hG, hgg, hgs⟩ := trod_segs t5
  cases q0; cases q1; cases q2; cases q3
  have h0 := wf_i64 w0
  have h1 := wf_i64 w1
  have h2 := wf_u32 w2
  have h3 := wf_u64 w3
  have hbp := bulk_pair (by decide : 4 < 5) d4 d5
  refine ⟨⟨n0, n1, n2.toNat, n3.toNat, L.map (·.1), G⟩, L, c4, c5, ?_, ⟨rfl, hL, fun p hp => (hg p hp).2.2, hG⟩, ⟨h0, h1, by show n2.toNat < _; omega, by show n3.toNat < _; omega, fun s hs => ?_, hgg⟩, fun s hs => ?_, ?_⟩
  · have : cs = #[.int .i64 n0, .int .i64 n1, .int .u32 n2, .int .u64 n3, c4, c5] := by
      rw [← Array.toList_inj, hcs]
    rw [this]
    simp only [elfV, Int.toNat_of_nonneg h2.1, Int.toNat_of_nonneg h3.1]
  · obtain ⟨p, hp, rfl⟩ := List.mem_map.1 hs
    exact (hg p hp).1
  · obtain ⟨p, hp, rfl⟩ := List.mem_map.1 hs
    exact (hg p hp).2.1
  · dsimp only at hy
    rw [hy, Rows.uptoBulk]
    show _ + G.length ≤ _
    omega
theorem ElfRead.ok {W : World} {v : Value} {n : Nat} {e : ElfM} {L : List (SecM × Value)} {sv gv : Value} (h : ElfRead W v n e L sv gv) (hn : n ≤ 1048576) : ElfOk e ∧ dsum e.secs ≤ 1048576 := by
  have h1 := h.size
  have hs : dsum e.secs + e.secs.length = (L.map fun p => p.1.data.length + 1).sum := by
    rw [h.at_.secs]
    clear h h1
    induction L with
    | nil => rfl
    | cons p L ih =>
      unfold dsum at *
      simp only [List.map_cons, List.sum_cons, List.length_cons] at *
      omega
  refine ⟨⟨h.fits, by omega, h.names, by omega, by omega⟩, by omega⟩
end Go.Proofs.Ytgjoimcgiofinaa
namespace Go.Proofs.Ytgjoimcgiofinaa
open Go.ChangeShapes Go.WideShapes Go.ChangeAt Go.RowKit Go.Fd
set_option maxRecDepth 100000 in
theorem elfPlacesUpto_lifted (os : Os) (started : os.Started) (H : Type) (enc : TypeId × Value → H) (F : Stop.Interp) :
    ReturnsInHanded {} Try.checked os 13 .any ((Rows.OpenSpec.upto Rows.elfPlacesSpec).pre6 enc Try.prog Try.f13 Rows.elfPlacesUptoRow.domain false) (((Rows.OpenSpec.upto Rows.elfPlacesSpec).at F).post enc Try.prog Try.f13 false true false false) := by
  refine handed_cond (C := Try.checked) (s := (Rows.OpenSpec.upto Rows.elfPlacesSpec)) (k := Rows.uptoSmall) rfl Try.own started (by kernel_rfl) Try.func13
    (OpenSpec.witness (enc := enc) (C := Try.checked) (s := (Rows.OpenSpec.upto Rows.elfPlacesSpec)) (k := Rows.uptoSmall) rfl false ⟨#[], #[.agg #[.int .i64 0, .int .i64 0, .int .u32 0, .int .u64 0, .slice none 0 0, .slice none 0 0]], []⟩ 8 (by kernel_rfl) (by kernel_rfl) (by kernel_rfl)
      (x := ([.agg [.lit (.int .i64 0), .lit (.int .i64 0), .lit (.int .u32 0), .lit (.int .u64 0), .nil, .nil]], [], [])) (by kernel_rfl) rfl (by kernel_rfl)) ?_
  intro W base args ds gs before hval0 hW hk hz hsh
  have hval : ∀ (j : Nat) t v, Try.f13.params[j]? = some t → args[j]? = some v → Value.okWide Try.prog W .any base t v := hval0
  have hW' := hW
  obtain ⟨p, q, hA0, hV, rfl, hfz, hnd⟩ := hW
  have hA : DataW.TrodAll enc Try.prog W 0 (fun _ => true) true Try.f13.params.toList args.toList ds p := hA0
  have hlt : ∀ x ∈ p, x.block < W.heap.size := fun x hx => hW'.lt x (by simp [hx])
  have hback : ∀ W', Below W.heap.size W W' → DataW.TrodAll enc Try.prog W' 0 (fun b => decide (b < W.heap.size)) true Try.f13.params.toList args.toList ds p :=
    fun W' hb => belowAllB (by kernel_rfl) hb hA hlt
  rw [Try.params13] at hA hval
  obtain ⟨v0, vs0, d0, ds0, p0, q0, hargs, rfl, rfl, h0, r0⟩ := trodAll_cons hA
  obtain ⟨rfl, rfl, rfl⟩ := trodAll_nil r0
  obtain rfl : args = #[v0] := by
    cases args
    simp at hargs
    simp [hargs]
  clear hargs
  obtain ⟨rfl, rfl⟩ := trodVars_none hV
  have fin : ∀ (e : Ending) (W' : World), (e = .returned (.bool true) ∧ Below W.heap.size W W') → ∃ v, e = Ending.returned v ∧ ((Rows.OpenSpec.upto Rows.elfPlacesSpec).at F).post enc Try.checked.prog Try.f13 false true false false W #[v0] v W' := by
    rintro e W' ⟨rfl, hb⟩
    exact ⟨_, rfl, _, _, _, [], _, [], hW', trodAll_mk1 (shut_bool Try.underlying4 true), hback W' hb, rfl, hb.frame _, fun h => by cases h⟩
  obtain ⟨e, L, sv, gv, hr0⟩ := reads_elf (hval 0 61 v0 rfl rfl) h0
  have hb : Rows.uptoBulk d0 ≤ 1048576 := by
    have := of_decide_eq_true hk
    simp [Rows.uptoBulkAll] at this
    omega
  obtain rfl := hr0.val
  exact (elfPlacesLaw_any e L sv gv W hr0.at_ (hr0.ok hb).1).mono fin
theorem elfPlacesUpto_holds : Rows.ElfPlacesUptoSaid :=
  OpenClaim.holds_of_cond 13 Try.f13 rfl rfl rfl rfl rfl rfl rfl ⟨rfl, rfl, rfl, rfl, rfl⟩ rfl rfl rfl rfl rfl (by kernel_rfl) Try.func13 (by kernel_rfl)
    (of_decide_eq_true (by kernel_rfl)) (by unfold Func.isWrapper; rw [if_neg (of_decide_eq_false (by kernel_rfl))]; exact ⟨rfl, rfl⟩)
    (fun os started H enc _ F => elfPlacesUpto_lifted os started H enc F)
end Go.Proofs.Ytgjoimcgiofinaa
#print axioms Go.Proofs.Ytgjoimcgiofinaa.elfPlacesUpto_holds
