/-
  LEB128 numbers with a sign, read: octet.ReadSleb.
-/
import Derived.Test.YtbbpeggljhkjhaaOct15
import Derived.Test.YtbbpeggljhkjhaaOct7
namespace Go.Proofs.Ytbbpeggljhkjhaa
open Go.RowKit Go.Fd

theorem and64 (c : UInt8) (h : c.toNat < 128) : (bits .and .u8 (c.toNat : Int) 64 != 0) = decide (64 ≤ c.toNat) := by
  rw [show (64 : Int) = ((64 : Nat) : Int) from rfl, u8_and_nat _ _ (by omega) (by omega)]
  have : ∀ x : Fin 128, (((x.val &&& 64 : Nat) : Int) != 0) = decide (64 ≤ x.val) := by decide +kernel
  exact this ⟨c.toNat, h⟩

set_option maxHeartbeats 1000000 in
set_option maxRecDepth 100000 in
theorem octReadSleb_any (l : List UInt8) (at_ : Int) (v : Value) (w : World) (hl : l.length ≤ 1000000000) (hv : Bs w v l) :
    Calls Try.prog 8 #[v, .int .i64 at_] w fun e w' =>
      e = .returned (.tuple #[.int .i64 (readSlebR l at_).1, .int .i64 (readSlebR l at_).2.1, .int .i64 (readSlebR l at_).2.2]) ∧ w = w' := by
  have hg := seven_any l at_ v w hl hv
  have HLE := Lib.hid (sevenR_len l at_)
  have HLA := Lib.hid (sevenR_last l at_)
  have HR := Lib.hid (show readSlebR l at_ = if (sevenR l at_).2 ≠ 0 then (0, 0, (sevenR l at_).2) else if (sevenR l at_).1.length = 10 ∧ (low7 (sevenR l at_).1)[9]?.getD 0 ≠ 0 ∧ (low7 (sevenR l at_).1)[9]?.getD 0 ≠ 127 then (0, 0, 3) else (slebVal (low7 (sevenR l at_).1), (sevenR l at_).1.length, 0) from rfl)
  generalize sevenR l at_ = r at *
  obtain ⟨g, e⟩ := r
  have HG := Lib.hid hg
  clear hg
  by_cases he : e = 0
  · subst he
    obtain ⟨hl1, hl10⟩ := HLE.out rfl
    have HLB := Lib.hid (show (g[g.length - 1]?.getD 0).toNat < 128 from HLA.out rfl)
    clear HLA HLE
    have HL7 := Lib.hid (low7_lt g)
    have HLOW := Lib.hid (show (low7 g).length = g.length by simp [low7])
    have HR2 := Lib.hid (show readSlebR l at_ = if g.length = 10 ∧ (low7 g)[9]?.getD 0 ≠ 0 ∧ (low7 g)[9]?.getD 0 ≠ 127 then (0, 0, 3) else (slebVal (low7 g), g.length, 0) by rw [HR.out]; rfl)
    go_enter Try.func8, Try.ntmps8
    go_wp2_with (go_at_call 30; go_must (refine HG.out.mono ?_; rintro e w1 ⟨v1, rfl, hown, rfl⟩; obtain ⟨a1, cap1, rfl, hcap1, _, hc1⟩ := hown.open; have HC := Lib.hid hc1; clear hc1))
    go_loop [9, 24] (fun n i => ∃ (k m : Nat), k ≤ g.length ∧ i = .int .i64 k ∧ n = .int .u64 m ∧ Hid (m = lebVal ((low7 g).take k) % 18446744073709551616) ∧ (9 < k → (low7 g)[9]?.getD 0 = 0 ∨ (low7 g)[9]?.getD 0 = 127)) (fun _ i => g.length - (intOf i).toNat)
    case atStart => exact ⟨0, 0, Nat.zero_le _, rfl, rfl, rfl, by omega⟩
    case round =>
      obtain ⟨k, m, hk, rfl, rfl, HM, h9⟩ := hrel
      have H9 := Lib.hid h9
      clear h9
      by_cases hlt : k < g.length
      · obtain ⟨b, off, rfl, hcell⟩ := HC.out k hlt
        have HGET := Lib.hid (low7_get g k hlt)
        have HS := Lib.hid (take_snoc' (low7 g) k _ HGET.out)
        have HV := Lib.hid (lebVal_snoc ((low7 g).take k) ((g[k]?.getD 0).toNat % 128))
        have HTL := Lib.hid (show ((low7 g).take k).length = k by rw [List.length_take, HLOW.out]; omega)
        have HN := Lib.hid (Nat.lt_of_lt_of_eq (lebVal_lt ((low7 g).take k) fun d hd => HL7.out d (List.mem_of_mem_take hd)) (by rw [HTL.out]))
        have HMM := Lib.hid (show m = lebVal ((low7 g).take k) by
          rw [HM.out, Nat.mod_eq_of_lt]
          exact Nat.lt_of_lt_of_le HN.out (Nat.le_trans (Nat.pow_le_pow_right (by omega) (by omega : k ≤ 9)) (by decide)))
        have HLAST := Lib.hid (fun h9 : k = 9 => show (g[k]?.getD 0).toNat < 128 from by have := HLB.out; rw [show g.length - 1 = k by omega] at this; exact this)
        have HK := Lib.hid (show k = 9 → (low7 g)[9]?.getD 0 = (g[k]?.getD 0).toNat % 128 by rintro rfl; rw [HGET.out]; rfl)
        generalize g[k]?.getD 0 = c at *
        have hcu := c.toNat_lt
        have HA := Lib.hid (and127 c)
        have ha1 : 0 ≤ bits .and .u8 (c.toNat : Int) 127 := by rw [HA.out]; omega
        have ha2 : bits .and .u8 (c.toNat : Int) 127 < 128 := by rw [HA.out]; omega
        by_cases hk9 : k = 9
        · subst hk9
          have hc128 := HLAST.out rfl
          have HK2 := Lib.hid (show (low7 g)[9]?.getD 0 = c.toNat by rw [HK.out rfl]; omega)
          by_cases hd : c.toNat = 0 ∨ c.toNat = 127
          · have HO := Lib.hid (or_group9 m c.toNat (by rw [HMM.out]; exact HN.out) hd)
            have HD := Lib.hid hd
            have HCM := Lib.hid (show c.toNat % 128 = c.toNat by omega)
            have hd0 : ((c.toNat : Int) != 0) = false ∧ bits .and .u8 (c.toNat : Int) 127 ≤ 1 ∨ ((c.toNat : Int) != 0) = true ∧ ((c.toNat : Int) != 127) = false := by
              rcases hd with h | h
              · exact .inl ⟨by rw [h]; rfl, by rw [HA.out, h]; decide⟩
              · exact .inr ⟨by rw [h]; rfl, by rw [h]; rfl⟩
            clear hd
            rcases hd0 with ⟨hd0, _⟩ | ⟨hd0, hd1⟩
            all_goals
              go_wp2
              go_round
              case rel => exact ⟨10, (m + c.toNat * 128 ^ 9) % 18446744073709551616, by omega, rfl, by rw [← HO.out, HA.out, HCM.out]; first | done | rw [IntKind.wrap_u64, Int.emod_eq_of_lt (by omega) (by have := HD.out; have := HA.out; omega)], by show _ = _; rw [HS.out, HV.out, HTL.out, ← HMM.out, HCM.out], fun _ => by rw [HK2.out]; exact HD.out⟩
              case measure => simp [intOf] <;> omega
          · have hd0 : ((c.toNat : Int) != 0) = true := bne_iff_ne.2 (by omega)
            have hd1 : ((c.toNat : Int) != 127) = true := bne_iff_ne.2 (by omega)
            have HR3 := Lib.hid (show readSlebR l at_ = (0, 0, 3) by rw [HR2.out]; exact if_pos ⟨by omega, by rw [HK2.out]; omega, by rw [HK2.out]; omega⟩)
            clear hd
            go_wp2
            go_ret3
            exact ⟨by rw [HR3.out]; rfl, rfl⟩
        · have hb9 : ((k : Int) == 9) = false := beq_eq_false_iff_ne.2 (by omega)
          have HO' := Lib.hid (or_groupW m (c.toNat % 128) k (by rw [HMM.out]; exact HN.out) (by omega) (by omega) fun h => absurd h hk9)
          go_wp2
          go_round
          case rel => exact ⟨k + 1, m + c.toNat % 128 * 128 ^ k, by omega, by go_num, by rw [← HO'.out, HA.out], by show _ = _; rw [HS.out, HV.out, HTL.out, ← HMM.out, Nat.mod_eq_of_lt (group_lt _ _ _ (by rw [HMM.out]; exact HN.out) (by omega) (by omega))], fun h => by omega⟩
          case measure => simp [intOf] <;> omega
      · obtain rfl : k = g.length := by omega
        have HTK := Lib.hid (show (low7 g).take g.length = low7 g by rw [← HLOW.out, List.take_length])
        have HR3 := Lib.hid (show readSlebR l at_ = (slebVal (low7 g), g.length, 0) by rw [HR2.out]; exact if_neg (fun h => by have := H9.out (by omega); omega))
        rw [HTK.out] at HM
        obtain ⟨b, off, rfl, hcell⟩ := HC.out (g.length - 1) (by omega)
        have HLT := Lib.hid (show lebVal (low7 g) < 128 ^ g.length by rw [← HLOW.out]; exact lebVal_lt (low7 g) HL7.out)
        have HSV := Lib.hid (show slebVal (low7 g) = if g.length < 10 ∧ 64 ≤ (g[g.length - 1]?.getD 0).toNat then (lebVal (low7 g) : Int) - 128 ^ g.length else IntKind.i64.wrap (lebVal (low7 g) % 18446744073709551616 : Nat) by
          unfold slebVal
          rw [HLOW.out, low7_get g (g.length - 1) (by omega), Option.getD_some, Nat.mod_eq_of_lt HLB.out])
        have hc128 := HLB.out
        clear HLB
        generalize g[g.length - 1]?.getD 0 = c at *
        have ht := and64 c hc128
        by_cases h10 : g.length < 10
        · have HMM := Lib.hid (show m = lebVal (low7 g) by rw [HM.out, Nat.mod_eq_of_lt]; exact Nat.lt_of_lt_of_le HLT.out (Nat.le_trans (Nat.pow_le_pow_right (by omega) (by omega : g.length ≤ 9)) (by decide)))
          by_cases h64 : 64 ≤ c.toNat
          · rw [decide_eq_true h64] at ht
            have HSV2 := Lib.hid (show wrap64 (bits .or .u64 (m : Int) (IntKind.u64.wrap (18446744073709551615 * 2 ^ (7 * g.length)))) = slebVal (low7 g) by rw [sleb_high m g.length (by rw [HMM.out]; exact HLT.out) (by omega), HSV.out, if_pos ⟨h10, h64⟩, HMM.out])
            go_wp2
            go_ret3
            exact ⟨by rw [HR3.out, ← HSV2.out]; rfl, rfl⟩
          · rw [decide_eq_false h64] at ht
            have HSV2 := Lib.hid (show wrap64 (m : Int) = slebVal (low7 g) by rw [HSV.out, if_neg (by omega), HM.out, wrapEq])
            go_wp2
            go_ret3
            exact ⟨by rw [HR3.out, ← HSV2.out]; rfl, rfl⟩
        · have HSV2 := Lib.hid (show wrap64 (m : Int) = slebVal (low7 g) by rw [HSV.out, if_neg (by omega), HM.out, wrapEq])
          go_wp2
          go_ret3
          exact ⟨by rw [HR3.out, ← HSV2.out]; rfl, rfl⟩
  · have HR2 := Lib.hid (show readSlebR l at_ = (0, 0, e) by rw [HR.out]; exact if_pos he)
    have he' : (e != 0) = true := bne_iff_ne.2 he
    clear he
    go_enter Try.func8, Try.ntmps8
    go_wp2_with (go_at_call 30; go_must (refine HG.out.mono ?_; rintro e w1 ⟨v1, rfl, hown, rfl⟩))
    go_ret3
    exact ⟨by rw [HR2.out]; rfl, rfl⟩
end Go.Proofs.Ytbbpeggljhkjhaa
