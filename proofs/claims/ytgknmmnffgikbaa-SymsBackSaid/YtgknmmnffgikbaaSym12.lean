/-
  Symbols out of bytes: read.
-/
import Derived.Test.YtgknmmnffgikbaaSym11
namespace Go.Fd
open Go.RowKit
section
variable {α : Type} {k : Nat} {enc : α → List Value} {e : TypeId} {w : World} {base : Nat} {v : Value} {l : List α}
theorem flat_drop (hk : ∀ x, (enc x).length = k) : ∀ (l : List α) (i : Nat), (l.flatMap enc).drop (i * k) = (l.drop i).flatMap enc
  | [], i => by simp
  | x :: l, 0 => by simp
  | x :: l, i + 1 => by
    rw [List.flatMap_cons, List.drop_succ_cons, ← flat_drop hk l i, Nat.succ_mul, List.drop_append, List.drop_of_length_le (by rw [hk]; omega), List.nil_append, hk]
    congr 1
    omega
/-- Owned records, opened. -/
theorem OwR.openOwn (h : OwR k enc e w base v l) (hl : 0 < l.length) : ∃ g cap, v = .slice (some ⟨g, 0, none⟩) l.length cap ∧ base ≤ g ∧ g < w.heap.size ∧ l.length ≤ cap ∧
    (∀ i, i < (l.flatMap enc).length → w.cell? ⟨g, i, none⟩ = (l.flatMap enc)[i]?) ∧ (∀ i, w.frozen? ⟨g, i, none⟩ = false) := by
  obtain ⟨h1, h2⟩ := id h
  rcases h2 with ⟨rfl, h0⟩ | ⟨g, cap, cur, rfl, hb, hg, hn, hc, hs, ht⟩
  · omega
  · exact ⟨g, cap, rfl, hb, (Array.getElem?_eq_some_iff.1 hg).1, hn, fun i hi => World.ownsRow.cellAt h i (by rw [h1] at hi; exact hi), fun i => World.ownsRow.frozenAt h i⟩
end
/-- The last record's first cell set anew. -/
theorem set_last {α : Type} {k : Nat} {enc : α → List Value} (hk : ∀ x, (enc x).length = k) (L : List α) (x y : α) (u : Value) (j : Nat) (h : (enc x).set j u = enc y) : ((L ++ [x]).flatMap enc).set (L.length * k + j) u = (L ++ [y]).flatMap enc := by
  rw [List.flatMap_append, List.flatMap_append, List.flatMap_singleton, List.flatMap_singleton, List.set_append, if_neg (by rw [flat_len hk]; omega), flat_len hk, Nat.add_sub_cancel_left, h]
end Go.Fd
namespace Go.Proofs.Ytgknmmnffgikbaa
open Go.RowKit Go.Fd

theorem TSym : SliceT Try.prog 39 55 6 56 := SliceT.mk' (z := .agg #[.string ⟨#[]⟩, .int .i64 0, .int .i64 0, .int .i64 0, .int .u64 0, .int .u64 0]) (by kernel_rfl) (by kernel_rfl) rfl (by omega)
theorem sym_from {w : World} {v : Value} {l : List SymM} (hv : RdR 6 encSym w v l) (i : Nat) {z : Int} (hz : z = (i : Int)) (h : i ≤ l.length) :
    ∃ v', (∀ w', (Instr.sliceAt 39 v (some (.int .i64 z)) none none).run Try.prog w' = .ok v' w') ∧ RdR 6 encSym w v' (l.drop i) := by
  subst hz
  obtain ⟨v', h1, h2⟩ := run_sliceFrom TSym hv (i := (i : Int)) (k := .i64) (by omega) (by omega)
  refine ⟨v', h1, ?_⟩
  unfold RdR
  rw [← flat_drop (k := 6) (enc := encSym) (fun _ => rfl) l i, List.length_drop]
  simpa [show ((l.length : Int) - i).toNat = l.length - i by omega] using h2
theorem ordB_tail (L : List SymM) (s : SymM) : ordB ((L ++ [s]).drop (L.length - 1)) = ordL L s := by
  rcases List.eq_nil_or_concat L with rfl | ⟨L', y, rfl⟩
  · simp [ordL, ordB]
  · have : (L'.concat y ++ [s]).drop ((L'.concat y).length - 1) = [y, s] := by simp
    rw [this, ordB_two]
    unfold ordL
    simp

theorem make24 {a : Act} {w : World} {d : Option Tmp} {ty : TypeId} {pos : String} {aft : Array Edge} {g : Option (Nat × Bool)} :
    (execOp a.eval ⟨d, .makeSlice 23 (.const (.int .i64 24)) (.const (.int .i64 24)), ty, pos, aft, g⟩).run Try.prog w = .ok (.value (.slice (some ⟨w.heap.size, 0, none⟩) 24 24)) (w.alloc (.cells ((List.replicate 24 (0 : UInt8)).map B).toArray 5)) := by
  kernel_rfl
def YB (l : List UInt8) : Yld := Yld.any (fun v w => Bs w v l) fun _ _ _ h hb => h.mono hb
theorem YB_got {v : Value} {l : List UInt8} {w : World} (h : (YB l).R v w) : Bs w v l := by obtain ⟨x, e, h⟩ := h; exact e ▸ h
theorem YB_mk {v : Value} {l : List UInt8} {w : World} (h : Bs w v l) : (YB l).R v w := ⟨v, rfl, h⟩

theorem run_allocSym {a : Act} {w : World} {d : Option Tmp} {ty : TypeId} {pos : String} {aft : Array Edge} {g : Option (Nat × Bool)} :
    (execOp a.eval ⟨d, .alloc 55, ty, pos, aft, g⟩).run Try.prog w = .ok (.value (.pointer (some ⟨w.heap.size, 0, none⟩))) (w.alloc (.cells #[.string ⟨#[]⟩, .int .i64 0, .int .i64 0, .int .i64 0, .int .u64 0, .int .u64 0] 55)) := by
  kernel_rfl
theorem cut_get {b : List UInt8} {a s i : Nat} (h : i < s) : ((b.drop a).take s)[i]?.getD 0 = b[a + i]?.getD 0 := by
  rw [List.getElem?_take, if_pos h, List.getElem?_drop]
theorem cut_cut {b : List UInt8} {a s i n : Nat} (h : i + n ≤ s) : (((b.drop a).take s).drop i).take n = (b.drop (a + i)).take n := by
  rw [List.drop_take, List.take_take, List.drop_drop, Nat.min_eq_left (by omega)]

set_option maxHeartbeats 4000000 in
set_option maxRecDepth 100000 in
theorem symsRead_any (b names : List UInt8) (v u : Value) (w : World) (hl : b.length ≤ 100000) (hln : names.length ≤ 1000000000) (hv : Bs w v b) (hu : Bs w u names) :
    Calls Try.prog 31 #[v, u] w fun e w' => ∃ v', e = .returned (.tuple #[v', .int .i64 (symRd b names).2]) ∧ OwR 6 encSym 55 w' w.heap.size v' (symRd b names).1 ∧ Below w.heap.size w w' := by
  have HV := Lib.hid hv
  have HU := Lib.hid hu
  obtain ⟨ad, cap, rfl, hcap, _, _⟩ := hv.open
  obtain ⟨n, hn⟩ : ∃ n, n = b.length := ⟨_, rfl⟩
  rw [← hn] at hl hcap HV ⊢
  have HN := Lib.hid hn
  have HLN := Lib.hid hln
  clear hv hu hn hln
  by_cases h0 : n % 24 = 0
  · obtain ⟨m, rfl⟩ : ∃ m, n = 24 * m := ⟨n / 24, by omega⟩
    have hm0 : ¬ (16384 : Int) < (m : Int) - 1 := by omega
    clear h0
    rcases Nat.eq_zero_or_pos m with rfl | hm
    · have HR := Lib.hid (symRd_form (b := b) (names := names) (.inr (.inl (by have := HN.out; omega))))
      go_enter Try.func31, Try.ntmps31
      go_wp2
      refine wp_region_walk 17 [] (by kernel_rfl) (by kernel_rfl) ?_
      simp only [List.take_succ_cons, List.take_zero, List.drop_succ_cons, List.drop_zero]
      repeat (first
        | (refine walk_quiet rfl rfl rfl ?_; intro K hK; go_big_quiet_op; go_big_quiet_on)
        | (refine walk_skip rfl ?_; go_frame))
      refine walk_nil ?_
      intro wz hbz _
      go_wp2
      go_ret2
      exact ⟨_, by rw [HR.out]; rfl, by rw [HR.out]; exact OwR.nil _ _ _ _ _, hbz⟩
    · have HD : Hid (24 * m = b.length) := HN
      have hd1 : decide (24 * (m : Int) < 24) = false := by simp; omega
      obtain ⟨s0, hr0, hb0⟩ := run_toB HV.out (j := 24) (k := .i64) (by omega) (by have := HN.out; omega)
      have HEQ := Lib.hid (fun (wx : World) (hx : Below w.heap.size w wx) (vx : Value) (hvx : Bs wx vx (List.replicate 24 0)) => bytesEq_any (b.take 24) (List.replicate 24 0) s0 vx wx (hb0.mono hx) hvx)
      clear hb0
      by_cases hz0 : b.take 24 = List.replicate 24 0
      · have HZ0 := Lib.hid hz0
        have HC0 : Hid (¬ (b.length % 24 ≠ 0 ∨ b.length < 24 ∨ b.take 24 ≠ List.replicate 24 0)) := by
          have := HN.out
          rintro (h | h | h)
          · omega
          · omega
          · exact h hz0
        rw [show decide (b.take 24 = List.replicate 24 0) = true by simpa using hz0] at HEQ
        clear hz0
        go_enter Try.func31, Try.ntmps31
        go_wp2
        refine wp_region_walk 17 [(12, YB (List.replicate 24 0)), (13, .is (.bool true))] (by kernel_rfl) (by kernel_rfl) ?_
        simp only [List.take_succ_cons, List.take_zero, List.drop_succ_cons, List.drop_zero]
        repeat (first
          | (refine walk_quiet rfl rfl rfl ?_; intro K hK; go_big_quiet_op; go_big_quiet_on)
          | (refine walk_any rfl rfl (fun wx _ _ => WpYld.val make24 (YB_mk (bs_lit wx (List.replicate 24 0) _ 24 rfl rfl)) (below_alloc wx _)) (fun vz => ?_); go_frame)
          | (refine walk_is rfl rfl (fun wx hwx hd => WpYld.callIs (run_callL (vals := [s0, vz]) Try.func63 (by kernel_rfl) rfl rfl) (HEQ.out wx hwx vz (YB_got (hd 12 _ _ _ rfl rfl (by kernel_rfl) rfl rfl)))) ?_; go_frame))
        refine walk_nil ?_
        intro wz hbz _
        have HBZ := Lib.hid hbz
        clear hbz HEQ hr0
        go_wp2
        go_loopw [6, 7] (fun lv i wr => ∃ (k p : Nat) (L : List SymM), i = .int .i64 p ∧ p ≤ 24 * m ∧ Hid (p = 24 * (k + 1) ∧ k + 1 ≤ m) ∧ Hid (foldU (stepSym b names) k = .ok L) ∧ Hid (OwR 6 encSym 55 wr w.heap.size lv L) ∧ Hid (Below w.heap.size w wr)) (fun _ i _ => 24 * m - (intOf i).toNat)
        case atStart => exact ⟨0, 24, [], rfl, by omega, ⟨rfl, by omega⟩, rfl, OwR.nil _ _ _ _ _, HBZ.out⟩
        case round =>
          obtain ⟨k, p, L, rfl, hp, HP, HF, HO, HB⟩ := hrel
          by_cases hlt : p < 24 * m
          · have hp24 : p + 24 ≤ 24 * m := by have := HP.out; omega
            obtain ⟨vr, hrr, hbr⟩ := slice_cut HV.out p 24 (z := (p : Int)) (y := (p : Int) + 24) rfl (by omega) (by have := HN.out; omega) (by have := HN.out; omega)
            have hrl : ((b.drop p).take 24).length = 24 := by rw [List.length_take, List.length_drop]; have := HN.out; omega
            have HU0 := Lib.hid (fun wx (hx : Below w.heap.size w wx) => uAt_any ((b.drop p).take 24) 0 4 (z := 0) (y := 4) vr wx rfl rfl (by decide) (by omega) (by omega) (hbr.mono hx))
            have HU2 := Lib.hid (fun wx (hx : Below w.heap.size w wx) => uAt_any ((b.drop p).take 24) 6 2 (z := 6) (y := 2) vr wx rfl rfl (by decide) (by omega) (by omega) (hbr.mono hx))
            have HU3 := Lib.hid (fun wx (hx : Below w.heap.size w wx) => uAt_any ((b.drop p).take 24) 8 8 (z := 8) (y := 8) vr wx rfl rfl (by decide) (by omega) (by omega) (hbr.mono hx))
            have HU4 := Lib.hid (fun wx (hx : Below w.heap.size w wx) => uAt_any ((b.drop p).take 24) 16 8 (z := 16) (y := 8) vr wx rfl rfl (by decide) (by omega) (by omega) (hbr.mono hx))
            rw [cut_cut (by omega)] at HU0 HU2 HU3 HU4
            obtain ⟨ar, cr, rfl, hcr, _, hcell⟩ := hbr.open
            rw [hrl] at hcr hrr HU0 HU2 HU3 HU4
            obtain ⟨br, or, har, c4⟩ := hcell 4 (by omega)
            obtain ⟨br', or', har', c5⟩ := hcell 5 (by omega)
            subst har
            cases har'
            rw [cut_get (by omega)] at c4 c5
            replace c4 := (HB.out.cell (block_lt c4)).trans c4
            replace c5 := (HB.out.cell (block_lt c5)).trans c5
            have HREC : Hid (∀ nm, recS b (k + 1) nm = ⟨nm, ((b[p + 4]?.getD 0).toNat : Int) / 16, ((b[p + 4]?.getD 0).toNat : Int) % 16, numLE ((b.drop (p + 6)).take 2), numLE ((b.drop (p + 8)).take 8), numLE ((b.drop (p + 16)).take 8)⟩) := by
              intro nm
              rw [HP.out.1]
              unfold recS
              rw [Int.natCast_ediv, Int.natCast_emod]
              rfl
            have HREC5 : Hid (rec5 b (k + 1) = b[p + 5]?.getD 0) := by rw [HP.out.1]; rfl
            have HRECA : Hid (recAt b (k + 1) = numLE ((b.drop (p + 0)).take 4)) := by rw [HP.out.1]; rfl
            have hw2 := i64_small (Nat.lt_trans (numLE_cut b (p + 6) 2) (by decide))
            have hw0 := i64_small (numLE_cut b (p + 0) 4)
            have HLL := Lib.hid (foldSym_len b names k L HF.out)
            have hbs := HB.out.size
            have hAB := fun (x : Above wr) (b k : Nat) (h : b < wr.heap.size) => Above.cell x b k h
            have hblt : br < wr.heap.size := block_lt c4
            have hb4 : (b[p + 4]?.getD 0).toNat < 256 := UInt8.toNat_lt _
            have hb5 : (b[p + 5]?.getD 0).toNat < 256 := UInt8.toNat_lt _
            generalize b[p + 4]?.getD 0 = y4 at *
            generalize b[p + 5]?.getD 0 = y5 at *
            generalize numLE ((b.drop (p + 0)).take 4) = n0 at *
            generalize numLE ((b.drop (p + 6)).take 2) = n2 at *
            generalize numLE ((b.drop (p + 8)).take 8) = n3 at *
            generalize numLE ((b.drop (p + 16)).take 8) = n4 at *
            clear hcell hbr
            go_wp2
            refine wp_region_walk 19 [(11, .is (.int .u64 n2)), (14, .is (.int .u64 n3)), (16, .is (.int .u64 n4)), (18, .new wr.heap.size 55 6)] (by kernel_rfl) (by kernel_rfl) ?_
            simp only [List.take_succ_cons, List.take_zero, List.drop_succ_cons, List.drop_zero]
            repeat (first
              | (refine walk_quiet rfl rfl rfl ?_; intro K hK; go_big_quiet_op; go_big_quiet_on)
              | (refine walk_is rfl rfl (fun wx hwx _ => WpYld.callIs (run_callL (vals := [_, .int .i64 6, .int .i64 2]) Try.func64 (by kernel_rfl) rfl rfl) (HU2.out wx (HB.out.trans (hwx.mono HB.out.size)))) ?_; go_frame)
              | (refine walk_is rfl rfl (fun wx hwx _ => WpYld.callIs (run_callL (vals := [_, .int .i64 8, .int .i64 8]) Try.func64 (by kernel_rfl) rfl rfl) (HU3.out wx (HB.out.trans (hwx.mono HB.out.size)))) ?_; go_frame)
              | (refine walk_is rfl rfl (fun wx hwx _ => WpYld.callIs (run_callL (vals := [_, .int .i64 16, .int .i64 8]) Try.func64 (by kernel_rfl) rfl rfl) (HU4.out wx (HB.out.trans (hwx.mono HB.out.size)))) ?_; go_frame)
              | (refine walk_new rfl rfl (fun wx hwx _ => WpYld.val run_allocSym (Yld.new_mk _ hwx).1 (Yld.new_mk _ hwx).2) (fun gb => ?_); go_frame))
            refine walk_nil ?_
            intro wz hbz hF
            obtain ⟨hgB, cs, hgh, hgs⟩ := Yld.new_got (hF 18 _ 9 _ rfl rfl rfl rfl)
            refine wpList_storeMade hgh rfl rfl (by kernel_rfl) hgs (by simp [Value.oneCell']) hgB hbz.size ?_
            intro w1 hh1 hb1
            have hb01 := hbz.trans hb1
            have e0 := cell_rec hh1 0
            have e1 := cell_rec hh1 1
            have e2 := cell_rec hh1 2
            have e3 := cell_rec hh1 3
            have e4 := cell_rec hh1 4
            have e5 := cell_rec hh1 5
            simp only [List.getElem?_toArray, List.getElem?_cons_succ, List.getElem?_cons_zero] at e0 e1 e2 e3 e4 e5
            have c5' := (hb01.cell hblt (p := ⟨br, or + 5, none⟩)).trans c5
            have HB01 := Lib.hid hb01
            have HO1 := Lib.hid (HO.out.mono hb01)
            have HB1 := Lib.hid (HB.out.trans (hb01.mono HB.out.size))
            clear hb1 hbz hh1 hb01 hgh hgs hF hrr hw2 hAB c4 c5
            generalize (y4.toNat : Int) / 16 = zb at *
            generalize (y4.toNat : Int) % 16 = zt at *
            have KC := Lib.hid (fun w => kind_any zb zt w)
            by_cases hbad : kindB zb zt = false ∨ y5 ≠ 0
            · have HR := Lib.hid (symRd_err HC0.out (by have := HP.out; have := HN.out; omega) HF.out (step_arg (by rw [HREC.out, HREC5.out]; exact hbad)))
              cases hkb : kindB zb zt with
              | false =>
                rw [hkb] at KC
                have HX := Lib.hid hkb
                have HX2 := Lib.hid hbad
                clear hkb hbad
                go_wp2_with (go_at_call 58; refine (KC.out _).mono ?_; rintro e w2 ⟨rfl, rfl⟩)
                go_ret2
                exact ⟨_, by rw [HR.out]; rfl, by rw [HR.out]; exact OwR.nil _ _ _ _ _, HB1.out⟩
              | true =>
                have hy : ((y5.toNat : Int) != 0) = true := by
                  rw [hkb] at hbad
                  rcases hbad with h | h
                  · cases h
                  · simpa [← UInt8.toNat_inj] using h
                rw [hkb] at KC
                have HX := Lib.hid hkb
                have HX2 := Lib.hid hbad
                clear hkb hbad
                go_wp2_with (go_at_call 58; refine (KC.out _).mono ?_; rintro e w2 ⟨rfl, rfl⟩)
                go_ret2
                exact ⟨_, by rw [HR.out]; rfl, by rw [HR.out]; exact OwR.nil _ _ _ _ _, HB1.out⟩
            · have hkb : kindB zb zt = true := by
                cases h : kindB zb zt with
                | true => rfl
                | false => exact absurd (.inl h) hbad
              have hy : ((y5.toNat : Int) != 0) = false := by
                have : y5 = 0 := by
                  rcases Classical.em (y5 = 0) with h | h
                  · exact h
                  · exact absurd (.inr h) hbad
                rw [this]; rfl
              have HOKA : Hid (¬ (kindB (recS b (k + 1) []).bind (recS b (k + 1) []).typ = false ∨ rec5 b (k + 1) ≠ 0)) := by rw [HREC.out, HREC5.out]; exact hbad
              rw [hkb] at KC
              have HX := Lib.hid hkb
              clear hkb hbad
              have hlen : (L ++ [(⟨[], zb, zt, (n2 : Int), n3, n4⟩ : SymM)]).length = k + 1 := by rw [List.length_append, HLL.out]; rfl
              have HLEN := Lib.hid hlen
              clear hlen
              have hk250 : k ≤ 5000 := by have := HP.out; omega
              go_wp2_with (first
                | (go_at_call 58; refine (KC.out _).mono ?_; rintro e w2 ⟨rfl, rfl⟩)
                | ((with_reducible show wpList _ _ _ (⟨some 81, _, _, _, _, _⟩ :: _) _ _); go_must (refine wpList_pushR TSym HO1.out rfl rfl ⟨[], zb, zt, n2, n3, n4⟩ rfl rfl (by simp [Value.oneCell']) (by have := HLL.out; omega) (by have := HLL.out; omega) HB1.out.size ?_; intro v2 w2 hv2 _ hb2; have HO2 := Lib.hid hv2; have HB2 := Lib.hid (HB1.out.trans hb2); obtain ⟨g2, cap2, rfl, hg2a, hg2b, hg2c, hg2d, hg2e⟩ := HO2.out.openOwn (by rw [HLEN.out]; omega); rw [HLEN.out] at hg2c ⊢; have HG2 := Lib.hid hg2d; obtain ⟨v3, hr3, hd3⟩ := sym_from HO2.out.rd (k - 1) (z := max ((k : Int) + 1 - 2) 0) (by omega) (by rw [HLEN.out]; omega); rw [HLEN.out] at hr3; have HD3 := Lib.hid hd3; clear hv2 hb2 e0 e1 e2 e3 e4 e5 hg2d hd3)))
              have HOC := Lib.hid (ordered_any _ v3 w2 (by rw [List.length_drop, HLEN.out]; omega) HD3.out)
              have HORD : Hid (ordB ((L ++ [(⟨[], zb, zt, (n2 : Int), n3, n4⟩ : SymM)]).drop (k - 1)) = ordL L (recS b (k + 1) [])) := by
                rw [HREC.out, ← HLL.out]; exact ordB_tail L _
              cases ho : ordL L (recS b (k + 1) []) with
              | false =>
                have HR := Lib.hid (symRd_err HC0.out (by have := HP.out; have := HN.out; omega) HF.out (step_ord HOKA.out ho))
                rw [ordR_bad (HORD.out.trans ho)] at HOC
                clear ho
                refine HOC.out.mono ?_
                rintro e w3 ⟨rfl, hb3⟩
                go_wp2
                go_ret2
                exact ⟨_, by rw [HR.out]; rfl, by rw [HR.out]; exact OwR.nil _ _ _ _ _, HB2.out.trans (hb3.mono HB2.out.size)⟩
              | true =>
                have HSN : Hid ((atR names (recAt b (k + 1))).2 ≠ 0 → stepSym b names k L = .error (atR names (recAt b (k + 1))).2) := step_name HOKA.out ho
                have HSO : Hid ((atR names (recAt b (k + 1))).2 = 0 → stepSym b names k L = .ok (L ++ [recS b (k + 1) (atR names (recAt b (k + 1))).1])) := step_sym HOKA.out ho
                rw [ordR_ok (HORD.out.trans ho)] at HOC
                clear ho HORD
                generalize locs ((L ++ [(⟨[], zb, zt, (n2 : Int), n3, n4⟩ : SymM)]).drop (k - 1)) = nloc at *
                refine HOC.out.mono ?_
                rintro e w3 ⟨rfl, hb3⟩
                have HB3 := Lib.hid (HB2.out.trans (hb3.mono HB2.out.size))
                have HO3 := Lib.hid (HO2.out.mono hb3)
                have hg3b : g2 < w3.heap.size := Nat.lt_of_lt_of_le hg2b hb3.size
                have hcell3 : w3.cell? ⟨g2, k * 6 + 0, none⟩ = some (.string ⟨#[]⟩) := by
                  have h1 := HG2.out (k * 6 + 0) (by rw [flat_len (k := 6) (fun _ => rfl), HLEN.out]; omega)
                  have h2 := flat_get (k := 6) (enc := encSym) (fun _ => rfl) (L ++ [(⟨[], zb, zt, (n2 : Int), n3, n4⟩ : SymM)]) k 0 ⟨[], zb, zt, (n2 : Int), n3, n4⟩ (by rw [List.getElem?_append_right (by rw [HLL.out]; omega), HLL.out]; simp) (by omega)
                  rw [h2] at h1
                  exact (hb3.cell (block_lt h1)).trans h1
                have hfz3 : w3.frozen? ⟨g2, k * 6 + 0, none⟩ = false := by
                  have := HO3.out.frozenAt (k * 6 + 0)
                  exact this
                have HA := Lib.hid (fun wx (hx : Below w.heap.size w wx) => strsAt_any names (n0 : Int) u wx HLN.out (HU.out.mono hx))
                rw [HRECA.out] at HSN HSO
                clear hb3
                go_wp2_with fail
                refine (HU0.out w3 HB3.out).mono ?_
                rintro e w4 ⟨rfl, rfl⟩
                go_wp2_with fail
                refine (HA.out w3 HB3.out).mono ?_
                rintro e w4 ⟨rfl, rfl⟩
                rw [Nat.add_zero] at hcell3 hfz3
                generalize atR names (n0 : Int) = r at *
                obtain ⟨nm, z⟩ := r
                by_cases hz : z = 0
                · have HF1 := Lib.hid (foldU_ok HF.out (HSO.out hz))
                  subst hz
                  have HO4 : Hid (OwR 6 encSym 55 (w3.setCell ⟨g2, k * 6, none⟩ (S nm)) w.heap.size (.slice (some ⟨g2, 0, none⟩) (k + 1) cap2) (L ++ [recS b (k + 1) nm])) := by
                    have h1 := HO3.out
                    unfold OwR at h1 ⊢
                    rw [HLEN.out] at h1
                    have h2 := (World.ownsRow.stored h1 (k * 6) (S nm)).1
                    have h3 := set_last (k := 6) (enc := encSym) (fun _ => rfl) L ⟨[], zb, zt, (n2 : Int), n3, n4⟩ ⟨nm, zb, zt, (n2 : Int), n3, n4⟩ (S nm) 0 rfl
                    rw [HLL.out, Nat.add_zero] at h3
                    rw [h3] at h2
                    rw [List.length_append, HLL.out, HREC.out]
                    exact h2
                  have HB4 : Hid (Below w.heap.size w (w3.setCell ⟨g2, k * 6, none⟩ (S nm))) := HB3.out.setCell hg2a _
                  have HP1 : Hid (p + 24 = 24 * (k + 1 + 1) ∧ k + 1 + 1 ≤ m) := by have := HP.out; constructor <;> omega
                  clear HO3 HO2 HSN HSO HG2
                  go_wp2
                  go_roundw
                  case rel =>
                    first
                      | exact ⟨k + 1, p + 24, _, by go_num, by omega, HP1.out, HF1.out, HO4.out, HB4.out⟩
                      | ((repeat apply Exists.intro); exact ⟨⟨k + 1, p + 24, _, by go_num, by omega, HP1.out, HF1.out, HO4.out, HB4.out⟩, rfl⟩)
                  case measure => simp [intOf] <;> omega
                · have HR := Lib.hid (symRd_err HC0.out (by have := HP.out; have := HN.out; omega) HF.out (HSN.out hz))
                  have hz2 : (z != 0) = true := by simpa using hz
                  have HZ := Lib.hid hz
                  clear hz HSN HSO
                  go_wp2
                  go_ret2
                  exact ⟨_, by rw [HR.out]; rfl, by rw [HR.out]; exact OwR.nil _ _ _ _ _, HB3.out⟩
          · have HRD := Lib.hid (symRd_ok HC0.out (by have := HP.out; have := HN.out; omega) HF.out)
            clear HF
            go_wp2
            go_ret2
            exact ⟨_, by rw [HRD.out]; rfl, by rw [HRD.out]; exact HO.out, HB.out⟩
      · have HR := Lib.hid (symRd_form (b := b) (names := names) (.inr (.inr hz0)))
        rw [show decide (b.take 24 = List.replicate 24 0) = false by simpa using hz0] at HEQ
        have HZ0 := Lib.hid hz0
        clear hz0
        go_enter Try.func31, Try.ntmps31
        go_wp2
        refine wp_region_walk 17 [(12, YB (List.replicate 24 0)), (13, .is (.bool false))] (by kernel_rfl) (by kernel_rfl) ?_
        simp only [List.take_succ_cons, List.take_zero, List.drop_succ_cons, List.drop_zero]
        repeat (first
          | (refine walk_quiet rfl rfl rfl ?_; intro K hK; go_big_quiet_op; go_big_quiet_on)
          | (refine walk_any rfl rfl (fun wx _ _ => WpYld.val make24 (YB_mk (bs_lit wx (List.replicate 24 0) _ 24 rfl rfl)) (below_alloc wx _)) (fun vz => ?_); go_frame)
          | (refine walk_is rfl rfl (fun wx hwx hd => WpYld.callIs (run_callL (vals := [s0, vz]) Try.func63 (by kernel_rfl) rfl rfl) (HEQ.out wx hwx vz (YB_got (hd 12 _ _ _ rfl rfl (by kernel_rfl) rfl rfl)))) ?_; go_frame))
        refine walk_nil ?_
        intro wz hbz _
        go_wp2
        go_ret2
        exact ⟨_, by rw [HR.out]; rfl, by rw [HR.out]; exact OwR.nil _ _ _ _ _, hbz⟩
  · have HR := Lib.hid (symRd_form (b := b) (names := names) (.inl (by rw [← HN.out]; exact h0)))
    have hz : ((n : Int) % 24 == 0) = false := by simp; omega
    have hz2 : ((n : Int) % 24 != 0) = true := by simp; omega
    have hz3 : ¬ (16384 : Int) < (n : Int) / 24 - 1 := by omega
    go_enter Try.func31, Try.ntmps31
    go_wp2
    refine wp_region_walk 17 [] (by kernel_rfl) (by kernel_rfl) ?_
    simp only [List.take_succ_cons, List.take_zero, List.drop_succ_cons, List.drop_zero]
    repeat (first
      | (refine walk_quiet rfl rfl rfl ?_; intro K hK; go_big_quiet_op; go_big_quiet_on)
      | (refine walk_skip rfl ?_; go_frame))
    refine walk_nil ?_
    intro wz hbz _
    go_wp2
    go_ret2
    exact ⟨_, by rw [HR.out]; rfl, by rw [HR.out]; exact OwR.nil _ _ _ _ _, hbz⟩
end Go.Proofs.Ytgknmmnffgikbaa
