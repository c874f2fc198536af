/-
  The statement StrsAll, walked.
-/
import Derived.Test.YtgknmmnffgikbaaStrBeg
namespace Go.Proofs.Ytgknmmnffgikbaa
open Go.RowKit Go.Fd

theorem buildR_len (names : List (List UInt8)) : (buildR names).1.length ≤ 1 + 129 * names.length ∧ (buildR names).2.1.length ≤ names.length := by
  unfold buildR
  split
  · next h =>
    have hb := buildT_len names (fun x hx => mayS_len (List.all_eq_true.1 h x hx))
    split
    · simp
    · exact ⟨hb.1, Nat.le_of_eq hb.2.1⟩
  · simp

theorem ow_ints {e : TypeId} {w : World} {base : Nat} {v : Value} {l : List Nat} (h : Ow I64 e w base v l) : Ow (Value.int .i64) e w base v (l.map fun n : Nat => (n : Int)) := by
  have e1 : (l.map fun n : Nat => (n : Int)).map (Value.int .i64) = l.map I64 := by rw [List.map_map]; rfl
  unfold Ow at h ⊢
  rw [e1, List.length_map]
  exact h

theorem ints_same (l : List Nat) (v u : Value) (w : World) (hl : l.length ≤ 1000000000) (hv : Rd I64 w v l) (hu : Rd I64 w u l) :
    Calls Try.prog 23 #[v, u] w fun e w' => e = .returned (.bool true) ∧ Below w.heap.size w w' := by
  have h := ints_any l l v u w hl hl hv hu
  rwa [show decide (l = l) = true by simp] at h

theorem Twined.grown {w w' : World} {b B : Nat} {t : Value} {m : List UInt8} {row : Option Nat} (ht : Twined w b t m) (hg : w.grownBy w' row) (hB : ∀ k, t.ownBlock = some k → k < B) (hu : ∀ g, row = some g → B ≤ g) : Twined w' b t m := by
  obtain ⟨g, cap, rfl, h2, h3, h4⟩ := ht
  exact ⟨g, cap, rfl, h2, h3, owns_grown h4 hg fun k hk e => by have h1 := hB k hk; have h2 := hu k e; omega⟩
theorem Twined.lt {w : World} {b : Nat} {t : Value} {m : List UInt8} (ht : Twined w b t m) : ∀ k, t.ownBlock = some k → b ≤ k ∧ k < w.heap.size := by
  obtain ⟨g, cap, rfl, h2, h3, h4⟩ := ht
  intro k hk
  exact World.ownsRow.lt h4 k hk
theorem Twined.ptr {w : World} {b : Nat} {t : Value} {m : List UInt8} (ht : Twined w b t m) : ∃ a n c, t = .slice (some a) n c := by
  obtain ⟨g, cap, rfl, _⟩ := ht
  exact ⟨_, _, _, rfl⟩

set_option maxHeartbeats 4000000 in
set_option maxRecDepth 100000 in
theorem strsAll_any (names : List (List UInt8)) (tab : List UInt8) (at_ : Int) (name : List UInt8) (nv tv : Value) (mx : Int) (w : World) (hnv : Rd S w nv names) (htv : Bs w tv tab) (hs : ∀ s ∈ names, s.length ≤ 9223372036854775807) (hn : name.length ≤ 9223372036854775807) (hmx : w.cell? ⟨0, 0, none⟩ = some (.int .i64 mx)) :
    Calls Try.prog 3 #[nv, tv, .int .i64 at_, S name] w fun e w' => e = .returned (.bool true) ∧ Below w.heap.size w w' := by
  have HNV := Lib.hid hnv
  have HTV := Lib.hid htv
  obtain ⟨m, ad, cap, hm, rfl, hmc, _⟩ := hnv.shape
  obtain ⟨n, ad2, cap2, hn2, rfl, hmc2, _⟩ := htv.shape
  have HMX := Lib.hid hmx
  have HW0 := Lib.hid (block_lt hmx)
  clear hnv htv hmx
  by_cases hbig : 200 < m
  · go_enter Try.func3, Try.ntmps3
    go_wp2_with fail
    refine (begun3_any _).mono ?_
    rintro e w1 ⟨rfl, hb1⟩
    go_wp2
    go_ret
    exact ⟨rfl, hb1⟩
  by_cases hbig2 : 4000 < n
  · go_enter Try.func3, Try.ntmps3
    go_wp2_with fail
    refine (begun3_any _).mono ?_
    rintro e w1 ⟨rfl, hb1⟩
    go_wp2
    go_ret
    exact ⟨rfl, hb1⟩
  have HNL := Lib.hid (show names.length ≤ 200 by have := hm.out; omega)
  have HTL := Lib.hid (show tab.length ≤ 4000 by have := hn2.out; omega)
  have HRL := Lib.hid (buildR_len names)
  have HP1 := Lib.hid (fun t w h => build_any names t w (Nat.le_trans HNL.out (by decide)) h)
  have HP2 := Lib.hid (fun t w h => strsAt_any tab at_ t w (Nat.le_trans HTL.out (by decide)) h)
  have HP3 := Lib.hid (fun t w h hp hc => strsFind_any tab name t mx w (Nat.le_trans HTL.out (by decide)) h hp hc)
  have HR1 := Lib.hid (fun t w h => ref3Build_any names t w (Nat.le_trans HNL.out (by decide)) hs h)
  have HR2 := Lib.hid (fun t w h => ref3At_any tab at_ t w (Nat.le_trans HTL.out (by decide)) h)
  have HR3 := Lib.hid (fun t w h => ref3Find_any tab name t w (Nat.le_trans HTL.out (by decide)) hn h)
  clear hs hn
  generalize buildR names = r1 at *
  generalize atR tab at_ = r2 at *
  generalize findR tab name = r3 at *
  obtain ⟨r11, r12, r13⟩ := r1
  obtain ⟨r21, r22⟩ := r2
  obtain ⟨r31, r32⟩ := r3
  have HL1 := Lib.hid (show r11.length ≤ 1000000000 by have h1 := HRL.out.1; have h2 := HNL.out; dsimp only at h1; omega)
  have HL2 := Lib.hid (show r12.length ≤ 1000000000 by have h1 := HRL.out.2; have h2 := HNL.out; dsimp only at h1; omega)
  go_enter Try.func3, Try.ntmps3
  go_wp2_with fail
  refine (begun3_any _).mono ?_
  rintro e w1 ⟨rfl, hb1⟩
  have HB1 := Lib.hid hb1
  clear hb1
  go_wp2
  go_loopw [9] (fun i wr => ∃ k : Nat, k ≤ 2 ∧ i = .int .i64 k ∧ Hid (Below w.heap.size w wr)) (fun i _ => 2 - (intOf i).toNat)
  case atStart => exact ⟨0, by omega, rfl, HB1.out⟩
  case round =>
    obtain ⟨k, hk, rfl, HB⟩ := hrel
    by_cases hlt : k < 2
    · go_wp2_with fail
      refine (twin_any tab _ _ (Nat.le_trans HTL.out (by decide)) (HTV.out.mono HB.out)).mono ?_
      rintro e w1 ⟨t, rfl, ht1, hb1⟩
      have HTL1 := Lib.hid ht1.lt
      have HS1 := Lib.hid hb1.size
      have HB1 := Lib.hid (HB.out.trans (hb1.mono HB.out.size))
      have HT1 := Lib.hid ht1
      clear ht1 hb1
      go_wp2_with fail
      refine (HP1.out _ _ (HNV.out.mono HB1.out)).mono ?_
      rintro e w2 ⟨b, l, rfl, hbv, hlv, hb2⟩
      have HBL := Lib.hid hbv.lt
      have HLL := Lib.hid (World.ownsRow.lt hlv)
      have HAP := Lib.hid (fun k h => own_apart hbv hlv (by decide) (k := k) h)
      have HS2 := Lib.hid hb2.size
      have HB2 := Lib.hid (HB1.out.trans (hb2.mono HB1.out.size))
      have HT2 := Lib.hid (HT1.out.mono hb2)
      have HBV2 := Lib.hid hbv
      have HLV2 := Lib.hid hlv
      clear hbv hlv hb2 HT1
      go_wp2_with fail
      refine (HP2.out t _ HT2.out.bs).mono ?_
      rintro e w3 ⟨rfl, rfl⟩
      go_wp2_with fail
      refine (HP3.out t _ HT2.out.bs HT2.out.ptr ((HB2.out.cell HW0.out).trans HMX.out)).mono ?_
      rintro e w3 ⟨rfl, hb3⟩
      have HB3 := Lib.hid (HB2.out.trans (hb3.mono HB2.out.size))
      have HT3 := Lib.hid (HT2.out.mono hb3)
      have HBV3 := Lib.hid (HBV2.out.mono hb3)
      have HLV3 := Lib.hid (HLV2.out.mono hb3)
      have HS3 := Lib.hid hb3.size
      clear hb3 HT2 HBV2 HLV2
      go_wp2_with fail
      refine (HR1.out _ _ (HNV.out.mono HB3.out)).mono ?_
      rintro e w4 ⟨b2, l2, rfl, hbv4, hlv4, hb4⟩
      have HB4 := Lib.hid (HB3.out.trans (hb4.mono HB3.out.size))
      have HT4 := Lib.hid (HT3.out.mono hb4)
      have HBV4 := Lib.hid (HBV3.out.mono hb4)
      have HLV4 := Lib.hid (HLV3.out.mono hb4)
      have HS4 := Lib.hid hb4.size
      have s1 := run_str HBV4.out.bs
      have s2 := run_str hbv4.bs
      have HI := Lib.hid (ints_same r12 l l2 w4 HL2.out HLV4.out.rd hlv4.rd)
      clear hb4 HT3 HBV3 HLV3 hbv4 hlv4
      go_wp2_with fail
      refine (HR2.out _ _ (HTV.out.mono HB4.out)).mono ?_
      rintro e w5 ⟨rfl, rfl⟩
      go_wp2_with fail
      refine (HR3.out _ _ (HTV.out.mono HB4.out)).mono ?_
      rintro e w5 ⟨rfl, rfl⟩
      go_wp2_with fail
      refine HI.out.mono ?_
      rintro e w5 ⟨rfl, hb5⟩
      have HB5 := Lib.hid (HB4.out.trans (hb5.mono HB4.out.size))
      have HT5 := Lib.hid (HT4.out.mono hb5)
      have HBV5 := Lib.hid (HBV4.out.mono hb5)
      have HLV5 := Lib.hid (HLV4.out.mono hb5)
      have HS5 := Lib.hid hb5.size
      clear hb5 HT4 HBV4 HLV4 s1 s2 HI
      go_wp2_with fail
      refine (kept_any tab _ t _ _ (Nat.le_trans HTL.out (by decide)) HT5.out (HTV.out.mono HB5.out)).mono ?_
      rintro e w6 ⟨rfl, rfl⟩
      go_wp2_with fail
      refine (spoil_any r11 _ b _ HL1.out HBV5.out).mono ?_
      rintro e w6 ⟨rfl, hg6⟩
      have HB6 := Lib.hid (HB5.out.trans (below_of_grown hg6 HB5.out.size fun k hk => by have h1 := (HBL.out k hk).1; have h2 := HB.out.size; have h3 := HS1.out; omega))
      have HLV6 := Lib.hid (ow_ints (owns_grown HLV5.out hg6 fun k hk e => HAP.out k e hk))
      have HS6 := Lib.hid hg6.size
      have HLN := Lib.hid (show (r12.map fun n : Nat => (n : Int)).length ≤ 1000000000 by rw [List.length_map]; exact HL2.out)
      obtain ⟨nl, la, lc, hnl, rfl, _, _⟩ := HLV6.out.shape
      clear hg6 HBV5 HLV5
      generalize (r12.map fun n : Nat => (n : Int)) = q at *
      have hnl' : nl ≤ 1000000000 := by have := hnl.out; have := HLN.out; omega
      go_wp2
      go_loopw [25] (fun iv wr => ∃ (i : Nat) (q' : List Int), iv = .int .i64 i ∧ i ≤ nl ∧ Hid (nl = q'.length) ∧ Hid (Ow (Value.int .i64) 3 wr w1.heap.size (.slice la nl lc) q') ∧ Hid (Below w.heap.size w wr)) (fun iv _ => nl - (intOf iv).toNat)
      case atStart => exact ⟨0, q, rfl, Nat.zero_le _, hnl.out, HLV6.out, HB6.out⟩
      case round =>
        obtain ⟨i, q', rfl, hi, HQ, HO, HBW⟩ := hrel
        by_cases hin : i < nl
        · obtain ⟨g', cap', e1, hbg, _, _, hcell, hfz⟩ := HO.out.open 0 (by have := HQ.out; omega)
          simp only [Value.slice.injEq] at e1
          obtain ⟨rfl, -, rfl⟩ := e1
          have hci := hcell i (by have := HQ.out; omega)
          have hfi := hfz i
          generalize q'[i]?.getD 0 = z at *
          have HX := Lib.hid (show w.heap.size ≤ g' by have h2 := HB.out.size; have h3 := HS1.out; omega)
          clear hcell hfz hbg
          go_wp2
          go_roundw
          case rel => exact ⟨i + 1, q'.set i (-5), by go_num, by omega, by show _ = _; rw [List.length_set]; exact HQ.out, by have := HO.out; rw [HQ.out] at this ⊢; exact this.stored i (-5), HBW.out.trans ((stirs_setCell (S := fun k => k = g') _ g' i _ rfl).below HBW.out.size (fun k hk => by rw [hk]; exact HX.out))⟩
          case measure => simp [intOf] <;> omega
        · go_wp2
          go_roundw
          case rel => exact ⟨k + 1, by omega, by go_num, HBW.out⟩
          case measure => simp [intOf] <;> omega
    · go_wp2
      go_ret
      exact ⟨rfl, HB.out⟩
end Go.Proofs.Ytgknmmnffgikbaa
