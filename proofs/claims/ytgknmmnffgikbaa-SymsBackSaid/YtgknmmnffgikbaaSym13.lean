/-
  Symbols out of bytes: the reference's reading.
-/
import Derived.Test.YtgknmmnffgikbaaSym12
namespace Go.Proofs.Ytgknmmnffgikbaa
open Go.RowKit Go.Fd

theorem free_rec {w : World} {g : Nat} {cs : Array Value} {t : TypeId} (h : w.heap[g]? = some (.cells cs t (0, 0))) (c : Nat) : w.frozen? ⟨g, c, none⟩ = false := by simp [World.frozen?, h]
theorem zeros_step {b : List UInt8} {j : Nat} (hj : j < b.length) (h : b.take j = List.replicate j 0) (h0 : b[j]?.getD 0 = 0) : b.take (j + 1) = List.replicate (j + 1) 0 := by
  rw [List.take_add_one, h, List.getElem?_eq_getElem hj, List.replicate_succ']
  rw [List.getElem?_eq_getElem hj] at h0
  simp at h0
  simp [h0]
theorem zeros_not {b : List UInt8} {j n : Nat} (hj : j < n) (hn : n ≤ b.length) (h0 : b[j]?.getD 0 ≠ 0) : b.take n ≠ List.replicate n 0 := by
  intro h
  apply h0
  have : (b.take n)[j]? = some 0 := by rw [h]; simp [hj]
  rw [List.getElem?_take, if_pos hj] at this
  rw [this]; rfl

set_option maxHeartbeats 4000000 in
set_option maxRecDepth 100000 in
theorem ref5Read_any (b names : List UInt8) (v u : Value) (w : World) (hl : b.length ≤ 100000) (hln : names.length ≤ 1000000000) (hv : Bs w v b) (hu : Bs w u names) :
    Calls Try.prog 33 #[v, u] w fun e w' => ∃ v', e = .returned (.tuple #[v', .int .i64 (symRd b names).2]) ∧ OwR 6 encSym 55 w' w.heap.size v' (symRd b names).1 ∧ Below w.heap.size w w' := by
  have HV := Lib.hid hv
  have HU := Lib.hid hu
  obtain ⟨ad, cap, rfl, hcap, _, hcl⟩ := hv.open
  have HCL := Lib.hid hcl
  obtain ⟨n, hn⟩ : ∃ n, n = b.length := ⟨_, rfl⟩
  rw [← hn] at hl hcap HV HCL ⊢
  have HN := Lib.hid hn
  have HLN := Lib.hid hln
  clear hv hu hn hln hcl
  by_cases h0 : n % 24 = 0
  · obtain ⟨m, rfl⟩ : ∃ m, n = 24 * m := ⟨n / 24, by omega⟩
    have hm0 : ¬ (16385 : Int) < (m : Int) := by omega
    clear h0
    rcases Nat.eq_zero_or_pos m with rfl | hm
    · have HR := Lib.hid (symRd_form (b := b) (names := names) (.inr (.inl (by have := HN.out; omega))))
      go_enter Try.func33, Try.ntmps33
      go_wp2
      go_ret2
      exact ⟨_, by rw [HR.out]; rfl, by rw [HR.out]; exact OwR.nil _ _ _ _ _, Below.refl _ _⟩
    · obtain ⟨bt, ot, had, -⟩ := HCL.out 0 (by omega)
      subst had
      have HCE : Hid (∀ i, i < 24 * m → w.cell? ⟨bt, ot + i, none⟩ = some (.int .u8 (b[i]?.getD 0).toNat)) := fun i hi => by
        obtain ⟨b', o', e1, e2⟩ := HCL.out i hi
        cases e1
        exact e2
      clear HCL
      have hd1 : ¬ (24 * (m : Int) < 24) := by omega
      go_enter Try.func33, Try.ntmps33
      go_wp2
      go_loop [6] (fun i => ∃ j : Nat, i = .int .i64 j ∧ j ≤ 24 ∧ Hid (b.take j = List.replicate j 0)) (fun i => 24 - (intOf i).toNat)
      case atStart => exact ⟨0, rfl, by omega, rfl⟩
      case round =>
        obtain ⟨j, rfl, hj, HJ⟩ := hrel
        by_cases hj24 : j < 24
        · have c := HCE.out j (by omega)
          by_cases hz : b[j]?.getD 0 = 0
          · have HJ1 := Lib.hid (zeros_step (by have := HN.out; omega) HJ.out hz)
            rw [hz] at c
            have HZ := Lib.hid hz
            clear hz
            go_wp2
            go_round
            case rel => exact ⟨j + 1, by go_num, by omega, HJ1.out⟩
            case measure => simp [intOf] <;> omega
          · have HR := Lib.hid (symRd_form (b := b) (names := names) (.inr (.inr (zeros_not (n := 24) hj24 (by have := HN.out; omega) hz))))
            have hz2 : (((b[j]?.getD 0).toNat : Int) != 0) = true := by simpa [← UInt8.toNat_inj] using hz
            have HZ := Lib.hid hz
            clear hz
            generalize b[j]?.getD 0 = y at *
            go_wp2
            go_ret2
            exact ⟨_, by rw [HR.out]; rfl, by rw [HR.out]; exact OwR.nil _ _ _ _ _, Below.refl _ _⟩
        · obtain rfl : j = 24 := by omega
          have HC0 : Hid (¬ (b.length % 24 ≠ 0 ∨ b.length < 24 ∨ b.take 24 ≠ List.replicate 24 0)) := by
            have := HN.out
            rintro (h | h | h)
            · omega
            · omega
            · exact h HJ.out
          clear HJ
          go_wp2
          go_loopw [7, 8] (fun lv i wr => ∃ (k p : Nat) (L : List SymM), i = .int .i64 p ∧ p ≤ 24 * m ∧ Hid (p = 24 * (k + 1) ∧ k + 1 ≤ m) ∧ Hid (foldU (stepSym b names) k = .ok L) ∧ Hid (OwR 6 encSym 55 wr w.heap.size lv L) ∧ Hid (Below w.heap.size w wr)) (fun _ i _ => 24 * m - (intOf i).toNat)
          case atStart => exact ⟨0, 24, [], rfl, by omega, ⟨rfl, by omega⟩, rfl, OwR.nil _ _ _ _ _, Below.refl _ _⟩
          case round =>
            obtain ⟨k, p, L, rfl, hp, HP, HF, HO, HB⟩ := hrel
            by_cases hlt : p < 24 * m
            · have hp24 : p + 24 ≤ 24 * m := by have := HP.out; omega
              obtain ⟨s2, hr2, hb2⟩ := slice_cut HV.out (p + 6) 2 (z := (p : Int) + 6) (y := (p : Int) + 8) (by omega) (by omega) (by have := HN.out; omega) (by have := HN.out; omega)
              have HN2 : Hid (∀ wx, Below w.heap.size w wx → Calls Try.prog 65 #[s2] wx fun e w' => e = .returned (.int .u64 (numLE ((b.drop (p + 6)).take 2))) ∧ wx = w') := fun wx hx => num_any _ _ _ (by rw [List.length_take]; omega) (hb2.mono hx)
              clear hb2
              obtain ⟨s3, hr3, hb3⟩ := slice_cut HV.out (p + 8) 8 (z := (p : Int) + 8) (y := (p : Int) + 16) (by omega) (by omega) (by have := HN.out; omega) (by have := HN.out; omega)
              have HN3 : Hid (∀ wx, Below w.heap.size w wx → Calls Try.prog 65 #[s3] wx fun e w' => e = .returned (.int .u64 (numLE ((b.drop (p + 8)).take 8))) ∧ wx = w') := fun wx hx => num_any _ _ _ (by rw [List.length_take]; omega) (hb3.mono hx)
              clear hb3
              obtain ⟨s4, hr4, hb4⟩ := slice_cut HV.out (p + 16) 8 (z := (p : Int) + 16) (y := (p : Int) + 24) (by omega) (by omega) (by have := HN.out; omega) (by have := HN.out; omega)
              have HN4 : Hid (∀ wx, Below w.heap.size w wx → Calls Try.prog 65 #[s4] wx fun e w' => e = .returned (.int .u64 (numLE ((b.drop (p + 16)).take 8))) ∧ wx = w') := fun wx hx => num_any _ _ _ (by rw [List.length_take]; omega) (hb4.mono hx)
              clear hb4
              obtain ⟨s0, hr0, hb0⟩ := slice_cut HV.out p 4 (z := (p : Int)) (y := (p : Int) + 4) (by omega) (by omega) (by have := HN.out; omega) (by have := HN.out; omega)
              have HN0 : Hid (∀ wx, Below w.heap.size w wx → Calls Try.prog 65 #[s0] wx fun e w' => e = .returned (.int .u64 (numLE ((b.drop p).take 4))) ∧ wx = w') := fun wx hx => num_any _ _ _ (by rw [List.length_take]; omega) (hb0.mono hx)
              clear hb0
              have c4 := HCE.out (p + 4) (by omega)
              have c5 := HCE.out (p + 5) (by omega)
              replace c4 := (HB.out.cell (block_lt c4)).trans c4
              replace c5 := (HB.out.cell (block_lt c5)).trans c5
              have HREC : Hid (∀ nm, recS b (k + 1) nm = ⟨nm, ((b[p + 4]?.getD 0).toNat : Int) / 16, ((b[p + 4]?.getD 0).toNat : Int) % 16, numLE ((b.drop (p + 6)).take 2), numLE ((b.drop (p + 8)).take 8), numLE ((b.drop (p + 16)).take 8)⟩) := by
                intro nm
                rw [HP.out.1]
                unfold recS
                rw [Int.natCast_ediv, Int.natCast_emod]
                rfl
              have HREC5 : Hid (rec5 b (k + 1) = b[p + 5]?.getD 0) := by rw [HP.out.1]; rfl
              have HRECA : Hid (recAt b (k + 1) = numLE ((b.drop p).take 4)) := by rw [HP.out.1]; rfl
              have hw2 := i64_small (Nat.lt_trans (numLE_cut b (p + 6) 2) (by decide))
              have hw0 := i64_small (numLE_cut b p 4)
              have HLL := Lib.hid (foldSym_len b names k L HF.out)
              have hbs := HB.out.size
              have hAB := fun (x : Above wr) (b k : Nat) (h : b < wr.heap.size) => Above.cell x b k h
              have hblt : bt < wr.heap.size := block_lt c4
              have hb4 : (b[p + 4]?.getD 0).toNat < 256 := UInt8.toNat_lt _
              have hb5 : (b[p + 5]?.getD 0).toNat < 256 := UInt8.toNat_lt _
              generalize b[p + 4]?.getD 0 = y4 at *
              generalize b[p + 5]?.getD 0 = y5 at *
              generalize numLE ((b.drop p).take 4) = n0 at *
              generalize numLE ((b.drop (p + 6)).take 2) = n2 at *
              generalize numLE ((b.drop (p + 8)).take 8) = n3 at *
              generalize numLE ((b.drop (p + 16)).take 8) = n4 at *
              go_wp2
              refine wp_region_walk 38 [(20, .is (.int .u64 n2)), (28, .is (.int .u64 n3)), (35, .is (.int .u64 n4)), (37, .new wr.heap.size 55 6)] (by kernel_rfl) (by kernel_rfl) ?_
              simp only [List.take_succ_cons, List.take_zero, List.drop_succ_cons, List.drop_zero]
              repeat (first
                | (refine walk_quiet rfl rfl rfl ?_; intro K hK; go_big_quiet_op; go_big_quiet_on)
                | (refine walk_is rfl rfl (fun wx hwx _ => WpYld.callIs (run_callL (vals := [s2]) Try.func65 (by kernel_rfl) rfl rfl) (HN2.out wx (HB.out.trans (hwx.mono HB.out.size)))) ?_; go_frame)
                | (refine walk_is rfl rfl (fun wx hwx _ => WpYld.callIs (run_callL (vals := [s3]) Try.func65 (by kernel_rfl) rfl rfl) (HN3.out wx (HB.out.trans (hwx.mono HB.out.size)))) ?_; go_frame)
                | (refine walk_is rfl rfl (fun wx hwx _ => WpYld.callIs (run_callL (vals := [s4]) Try.func65 (by kernel_rfl) rfl rfl) (HN4.out wx (HB.out.trans (hwx.mono HB.out.size)))) ?_; go_frame)
                | (refine walk_new rfl rfl (fun wx hwx _ => WpYld.val run_allocSym (Yld.new_mk _ hwx).1 (Yld.new_mk _ hwx).2) (fun gb => ?_); go_frame))
              refine walk_nil ?_
              intro wz hbz hF
              obtain ⟨hgB, cs, hgh, hgs⟩ := Yld.new_got (hF 37 _ 9 _ rfl rfl rfl rfl)
              refine wpList_storeMade hgh rfl rfl (by kernel_rfl) hgs (by simp [Value.oneCell']) hgB hbz.size ?_
              intro w1 hh1 hb1
              have hb01 := hbz.trans hb1
              have e0 := cell_rec hh1 0
              have e1 := cell_rec hh1 1
              have e2 := cell_rec hh1 2
              have e3 := cell_rec hh1 3
              have e4 := cell_rec hh1 4
              have e5 := cell_rec hh1 5
              simp only [List.getElem?_toArray, List.getElem?_cons_succ, List.getElem?_cons_zero] at e0 e1 e2 e3 e4 e5
              have c5' := (hb01.cell hblt (p := ⟨bt, ot + (p + 5), none⟩)).trans c5
              have HO1 := Lib.hid (HO.out.mono hb01)
              have HB1 := Lib.hid (HB.out.trans (hb01.mono HB.out.size))
              have HH1 := Lib.hid hh1
              have HB01 := Lib.hid hb01
              have hfz := free_rec hh1 0
              clear hb1 hbz hh1 hb01 hgh hgs hF hr2 hr3 hr4 hw2 hAB c4 c5
              generalize (y4.toNat : Int) / 16 = zb at *
              generalize (y4.toNat : Int) % 16 = zt at *
              have KC := Lib.hid (fun w => kinds_any zb zt w)
              by_cases hbad : kindB zb zt = false ∨ y5 ≠ 0
              · have HR := Lib.hid (symRd_err HC0.out (by have := HP.out; have := HN.out; omega) HF.out (step_arg (by rw [HREC.out, HREC5.out]; exact hbad)))
                cases hkb : kindB zb zt with
                | false =>
                  rw [hkb] at KC
                  have HX := Lib.hid hkb
                  have HX2 := Lib.hid hbad
                  clear hkb hbad
                  go_wp2_with (go_at_call 66; refine (KC.out _).mono ?_; rintro e w2 ⟨rfl, rfl⟩)
                  go_ret2
                  exact ⟨_, by rw [HR.out]; rfl, by rw [HR.out]; exact OwR.nil _ _ _ _ _, HB1.out⟩
                | true =>
                  have hy : ((y5.toNat : Int) != 0) = true := by
                    rw [hkb] at hbad
                    rcases hbad with h | h
                    · cases h
                    · simpa [← UInt8.toNat_inj] using h
                  rw [hkb] at KC
                  have HX := Lib.hid hkb
                  have HX2 := Lib.hid hbad
                  clear hkb hbad
                  go_wp2_with (go_at_call 66; refine (KC.out _).mono ?_; rintro e w2 ⟨rfl, rfl⟩)
                  go_ret2
                  exact ⟨_, by rw [HR.out]; rfl, by rw [HR.out]; exact OwR.nil _ _ _ _ _, HB1.out⟩
              · have hkb : kindB zb zt = true := by
                  cases h : kindB zb zt with
                  | true => rfl
                  | false => exact absurd (.inl h) hbad
                have hy : ((y5.toNat : Int) != 0) = false := by
                  have : y5 = 0 := by
                    rcases Classical.em (y5 = 0) with h | h
                    · exact h
                    · exact absurd (.inr h) hbad
                  rw [this]; rfl
                have HOKA : Hid (¬ (kindB (recS b (k + 1) []).bind (recS b (k + 1) []).typ = false ∨ rec5 b (k + 1) ≠ 0)) := by rw [HREC.out, HREC5.out]; exact hbad
                rw [hkb] at KC
                have HX := Lib.hid hkb
                clear hkb hbad
                have HNA := Lib.hid (fun wx (hx : Below w.heap.size w wx) => ref3At_any names (n0 : Int) u wx HLN.out (HU.out.mono hx))
                have HORD : Hid (ordL L (recS b (k + 1) []) = (decide (zb ≠ 0) || (match L.getLast? with | some y => decide (y.bind = 0) | none => true))) := by rw [HREC.out]; rfl
                have HSR : Hid (ordL L (recS b (k + 1) []) = false → symRd b names = ([], 24)) := fun ho => symRd_err HC0.out (by have := HP.out; have := HN.out; omega) HF.out (step_ord HOKA.out ho)
                have HSN : Hid (ordL L (recS b (k + 1) []) = true → (atR names (recAt b (k + 1))).2 ≠ 0 → symRd b names = ([], (atR names (recAt b (k + 1))).2)) := fun ho hz => symRd_err HC0.out (by have := HP.out; have := HN.out; omega) HF.out (step_name HOKA.out ho hz)
                have HSO : Hid (ordL L (recS b (k + 1) []) = true → (atR names (recAt b (k + 1))).2 = 0 → foldU (stepSym b names) (k + 1) = .ok (L ++ [recS b (k + 1) (atR names (recAt b (k + 1))).1])) := fun ho hz => foldU_ok HF.out (step_sym HOKA.out ho hz)
                rw [HRECA.out] at HSN HSO
                generalize atR names (n0 : Int) = r at *
                obtain ⟨nm, z⟩ := r
                rw [HORD.out] at HSR HSN HSO
                obtain ⟨ml, al, cal, hml, rfl, hmc, _⟩ := HO1.out.shape
                obtain rfl : ml = k := hml.out.trans HLL.out
                have HFIN : Hid (∃ bd : Bool, (decide (zb ≠ 0) || (match L.getLast? with | some y => decide (y.bind = 0) | none => true)) = bd) := ⟨_, rfl⟩
                -- what the last one's Bind is
                have HLAST : Hid (0 < ml → ∃ bl ol y, al = some ⟨bl, ol, none⟩ ∧ L.getLast? = some y ∧ w1.cell? ⟨bl, ol + (ml - 1) * 6 + 1, none⟩ = some (.int .i64 y.bind)) := by
                  intro hpos
                  obtain ⟨y, hx⟩ : ∃ y, L[ml - 1]? = some y := ⟨_, List.getElem?_eq_getElem (by rw [HLL.out]; omega)⟩
                  obtain ⟨a', c', e1, -, -, hcc⟩ := HO1.out.rd.open (fun _ => rfl)
                  obtain ⟨bl, ol, e2, h3⟩ := hcc (ml - 1) _ hx (by decide)
                  cases e1
                  have h4 := h3 1 (by decide)
                  rw [← Nat.add_assoc] at h4
                  exact ⟨bl, ol, _, e2, by rw [List.getLast?_eq_getElem?, HLL.out]; exact hx, h4⟩
                clear hml HFIN
                have hk5 : ml ≤ 5000 := by have := HP.out; omega
                rcases Nat.eq_zero_or_pos ml with h00 | hpos
                · have hnone : L.getLast? = none := by
                    have : L = [] := List.eq_nil_of_length_eq_zero (by rw [HLL.out]; exact h00)
                    rw [this]; rfl
                  have HSN' := Lib.hid (HSN.out (by rw [hnone]; simp))
                  have HSO' := Lib.hid (HSO.out (by rw [hnone]; simp))
                  have hdd : decide ((0 : Int) < (ml : Int)) = false := by simp [h00]
                  have hdd2 : decide (0 < ml) = false := by simp [h00]
                  have HX0 := Lib.hid h00
                  clear HSR HSN HSO hnone HLAST h00
                  by_cases hz : z = 0
                  · have HF1 := Lib.hid (HSO'.out hz)
                    subst hz
                    have HB4 := Lib.hid (show Below wr.heap.size wr (w1.setCell ⟨gb, 0, none⟩ (S nm)) from HB01.out.setCell hgB _)
                    have HO4 := Lib.hid (HO.out.mono HB4.out)
                    have HB5 := Lib.hid (HB.out.trans (HB4.out.mono HB.out.size))
                    have HP1 : Hid (p + 24 = 24 * (ml + 1 + 1) ∧ ml + 1 + 1 ≤ m) := by have := HP.out; constructor <;> omega
                    clear HSN' HSO'
                    go_wp2_with (first
                      | (go_at_call 66; refine (KC.out _).mono ?_; rintro e w2 ⟨rfl, rfl⟩)
                      | (go_at_call 65; refine (HN0.out w1 HB1.out).mono ?_; rintro e w2 ⟨rfl, rfl⟩)
                      | (go_at_call 21; refine (HNA.out w1 HB1.out).mono ?_; rintro e w2 ⟨rfl, rfl⟩)
                      | ((with_reducible show wpList _ _ _ (⟨some 129, _, _, _, _, _⟩ :: _) _ _); go_must (refine wpList_pushR TSym HO4.out rfl (by show Value.slice (some ⟨w1.heap.size, 0, none⟩) 1 1 = _; simp [World.setCell]) ⟨nm, zb, zt, n2, n3, n4⟩ rfl rfl (by simp [Value.oneCell']) (by have := HLL.out; omega) (by have := HLL.out; omega) HB5.out.size ?_; intro v6 w6 hv6 _ hb6; have HO6 := Lib.hid (show OwR 6 encSym 55 w6 w.heap.size v6 (L ++ [recS b (ml + 1) nm]) by rw [HREC.out]; exact hv6); have HB6 := Lib.hid (HB5.out.trans hb6); clear hv6 hb6)))
                    go_roundw
                    case rel =>
                      first
                        | exact ⟨ml + 1, p + 24, _, by go_num, by omega, HP1.out, HF1.out, HO6.out, HB6.out⟩
                        | ((repeat apply Exists.intro); exact ⟨⟨ml + 1, p + 24, _, by go_num, by omega, HP1.out, HF1.out, HO6.out, HB6.out⟩, rfl⟩)
                    case measure => simp [intOf] <;> omega
                  · have HR := Lib.hid (HSN'.out hz)
                    have hz2 : (z != 0) = true := by simpa using hz
                    have HZ := Lib.hid hz
                    clear hz HSN' HSO'
                    go_wp2_with (first
                      | (go_at_call 66; refine (KC.out _).mono ?_; rintro e w2 ⟨rfl, rfl⟩)
                      | (go_at_call 65; refine (HN0.out w1 HB1.out).mono ?_; rintro e w2 ⟨rfl, rfl⟩)
                      | (go_at_call 21; refine (HNA.out w1 HB1.out).mono ?_; rintro e w2 ⟨rfl, rfl⟩))
                    go_ret2
                    exact ⟨_, by rw [HR.out]; rfl, by rw [HR.out]; exact OwR.nil _ _ _ _ _, HB1.out⟩
                · obtain ⟨bl, ol, y, rfl, hlast, cy⟩ := HLAST.out hpos
                  rw [hlast] at HSR HSN HSO
                  have hdd : decide ((0 : Int) < (ml : Int)) = true := by simpa using hpos
                  have hdd2 : decide (0 < ml) = true := by simpa using hpos
                  have HLA := Lib.hid hlast
                  clear hlast HLAST
                  by_cases hzb : zb = 0
                  · have hzb1 : (zb == 0) = true := by simpa using hzb
                    by_cases hyb : y.bind = 0
                    · have hyb1 : (y.bind != 0) = false := by simpa using hyb
                      have HSN' := Lib.hid (HSN.out (by simp [hyb]))
                      have HSO' := Lib.hid (HSO.out (by simp [hyb]))
                      have HX3 := Lib.hid hyb
                      have HX4 := Lib.hid hzb
                      clear HSR HSN HSO hyb hzb
                      by_cases hz : z = 0
                      · have HF1 := Lib.hid (HSO'.out hz)
                        subst hz
                        have HB4 := Lib.hid (show Below wr.heap.size wr (w1.setCell ⟨gb, 0, none⟩ (S nm)) from HB01.out.setCell hgB _)
                        have HO4 := Lib.hid (HO.out.mono HB4.out)
                        have HB5 := Lib.hid (HB.out.trans (HB4.out.mono HB.out.size))
                        have HP1 : Hid (p + 24 = 24 * (ml + 1 + 1) ∧ ml + 1 + 1 ≤ m) := by have := HP.out; constructor <;> omega
                        clear HSN' HSO'
                        go_wp2_with (first
                          | (go_at_call 66; refine (KC.out _).mono ?_; rintro e w2 ⟨rfl, rfl⟩)
                          | (go_at_call 65; refine (HN0.out w1 HB1.out).mono ?_; rintro e w2 ⟨rfl, rfl⟩)
                          | (go_at_call 21; refine (HNA.out w1 HB1.out).mono ?_; rintro e w2 ⟨rfl, rfl⟩)
                          | ((with_reducible show wpList _ _ _ (⟨some 129, _, _, _, _, _⟩ :: _) _ _); go_must (refine wpList_pushR TSym HO4.out rfl (by show Value.slice (some ⟨w1.heap.size, 0, none⟩) 1 1 = _; simp [World.setCell]) ⟨nm, zb, zt, n2, n3, n4⟩ rfl rfl (by simp [Value.oneCell']) (by have := HLL.out; omega) (by have := HLL.out; omega) HB5.out.size ?_; intro v6 w6 hv6 _ hb6; have HO6 := Lib.hid (show OwR 6 encSym 55 w6 w.heap.size v6 (L ++ [recS b (ml + 1) nm]) by rw [HREC.out]; exact hv6); have HB6 := Lib.hid (HB5.out.trans hb6); clear hv6 hb6)))
                        go_roundw
                        case rel =>
                          first
                            | exact ⟨ml + 1, p + 24, _, by go_num, by omega, HP1.out, HF1.out, HO6.out, HB6.out⟩
                            | ((repeat apply Exists.intro); exact ⟨⟨ml + 1, p + 24, _, by go_num, by omega, HP1.out, HF1.out, HO6.out, HB6.out⟩, rfl⟩)
                        case measure => simp [intOf] <;> omega
                      · have HR := Lib.hid (HSN'.out hz)
                        have hz2 : (z != 0) = true := by simpa using hz
                        have HZ := Lib.hid hz
                        clear hz HSN' HSO'
                        go_wp2_with (first
                          | (go_at_call 66; refine (KC.out _).mono ?_; rintro e w2 ⟨rfl, rfl⟩)
                          | (go_at_call 65; refine (HN0.out w1 HB1.out).mono ?_; rintro e w2 ⟨rfl, rfl⟩)
                          | (go_at_call 21; refine (HNA.out w1 HB1.out).mono ?_; rintro e w2 ⟨rfl, rfl⟩))
                        go_ret2
                        exact ⟨_, by rw [HR.out]; rfl, by rw [HR.out]; exact OwR.nil _ _ _ _ _, HB1.out⟩
                    · have hyb1 : (y.bind != 0) = true := by simpa using hyb
                      have HR := Lib.hid (HSR.out (by simp [hyb, hzb]))
                      have HX3 := Lib.hid hyb
                      have HX4 := Lib.hid hzb
                      clear HSR HSN HSO hyb hzb
                      go_wp2_with (go_at_call 66; refine (KC.out _).mono ?_; rintro e w2 ⟨rfl, rfl⟩)
                      go_ret2
                      exact ⟨_, by rw [HR.out]; rfl, by rw [HR.out]; exact OwR.nil _ _ _ _ _, HB1.out⟩
                  · have hzb1 : (zb == 0) = false := by simpa using hzb
                    have HSN' := Lib.hid (HSN.out (by simp [hzb]))
                    have HSO' := Lib.hid (HSO.out (by simp [hzb]))
                    have HX4 := Lib.hid hzb
                    clear HSR HSN HSO hzb
                    by_cases hz : z = 0
                    · have HF1 := Lib.hid (HSO'.out hz)
                      subst hz
                      have HB4 := Lib.hid (show Below wr.heap.size wr (w1.setCell ⟨gb, 0, none⟩ (S nm)) from HB01.out.setCell hgB _)
                      have HO4 := Lib.hid (HO.out.mono HB4.out)
                      have HB5 := Lib.hid (HB.out.trans (HB4.out.mono HB.out.size))
                      have HP1 : Hid (p + 24 = 24 * (ml + 1 + 1) ∧ ml + 1 + 1 ≤ m) := by have := HP.out; constructor <;> omega
                      clear HSN' HSO'
                      go_wp2_with (first
                        | (go_at_call 66; refine (KC.out _).mono ?_; rintro e w2 ⟨rfl, rfl⟩)
                        | (go_at_call 65; refine (HN0.out w1 HB1.out).mono ?_; rintro e w2 ⟨rfl, rfl⟩)
                        | (go_at_call 21; refine (HNA.out w1 HB1.out).mono ?_; rintro e w2 ⟨rfl, rfl⟩)
                        | ((with_reducible show wpList _ _ _ (⟨some 129, _, _, _, _, _⟩ :: _) _ _); go_must (refine wpList_pushR TSym HO4.out rfl (by show Value.slice (some ⟨w1.heap.size, 0, none⟩) 1 1 = _; simp [World.setCell]) ⟨nm, zb, zt, n2, n3, n4⟩ rfl rfl (by simp [Value.oneCell']) (by have := HLL.out; omega) (by have := HLL.out; omega) HB5.out.size ?_; intro v6 w6 hv6 _ hb6; have HO6 := Lib.hid (show OwR 6 encSym 55 w6 w.heap.size v6 (L ++ [recS b (ml + 1) nm]) by rw [HREC.out]; exact hv6); have HB6 := Lib.hid (HB5.out.trans hb6); clear hv6 hb6)))
                      go_roundw
                      case rel =>
                        first
                          | exact ⟨ml + 1, p + 24, _, by go_num, by omega, HP1.out, HF1.out, HO6.out, HB6.out⟩
                          | ((repeat apply Exists.intro); exact ⟨⟨ml + 1, p + 24, _, by go_num, by omega, HP1.out, HF1.out, HO6.out, HB6.out⟩, rfl⟩)
                      case measure => simp [intOf] <;> omega
                    · have HR := Lib.hid (HSN'.out hz)
                      have hz2 : (z != 0) = true := by simpa using hz
                      have HZ := Lib.hid hz
                      clear hz HSN' HSO'
                      go_wp2_with (first
                        | (go_at_call 66; refine (KC.out _).mono ?_; rintro e w2 ⟨rfl, rfl⟩)
                        | (go_at_call 65; refine (HN0.out w1 HB1.out).mono ?_; rintro e w2 ⟨rfl, rfl⟩)
                        | (go_at_call 21; refine (HNA.out w1 HB1.out).mono ?_; rintro e w2 ⟨rfl, rfl⟩))
                      go_ret2
                      exact ⟨_, by rw [HR.out]; rfl, by rw [HR.out]; exact OwR.nil _ _ _ _ _, HB1.out⟩
            · have HRD := Lib.hid (symRd_ok HC0.out (by have := HP.out; have := HN.out; omega) HF.out)
              clear HF
              go_wp2
              go_ret2
              exact ⟨_, by rw [HRD.out]; rfl, by rw [HRD.out]; exact HO.out, HB.out⟩
  · have HR := Lib.hid (symRd_form (b := b) (names := names) (.inl (by rw [← HN.out]; exact h0)))
    have hz : ((n : Int) % 24 == 0) = false := by simp; omega
    have hz2 : ((n : Int) % 24 != 0) = true := by simp; omega
    have hz3 : ¬ (16385 : Int) < (n : Int) / 24 := by omega
    go_enter Try.func33, Try.ntmps33
    go_wp2
    go_ret2
    exact ⟨_, by rw [HR.out]; rfl, by rw [HR.out]; exact OwR.nil _ _ _ _ _, Below.refl _ _⟩
end Go.Proofs.Ytgknmmnffgikbaa
