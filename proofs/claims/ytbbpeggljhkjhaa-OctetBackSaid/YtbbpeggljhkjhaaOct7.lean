/-
  LEB128 numbers with a sign, read: the reference's ReadSleb.
-/
import Derived.Test.YtbbpeggljhkjhaaOct6
namespace Go.Proofs.Ytbbpeggljhkjhaa
open Go.RowKit Go.Fd

def slebVal (q : List Nat) : Int :=
  if q.length < 10 ∧ 64 ≤ q[q.length - 1]?.getD 0 then (lebVal q : Int) - 128 ^ q.length else IntKind.i64.wrap (lebVal q % 18446744073709551616 : Nat)

def readSlebR (l : List UInt8) (at_ : Int) : Int × Nat × Int :=
  if (sevenR l at_).2 ≠ 0 then (0, 0, (sevenR l at_).2) else
    if (sevenR l at_).1.length = 10 ∧ (low7 (sevenR l at_).1)[9]?.getD 0 ≠ 0 ∧ (low7 (sevenR l at_).1)[9]?.getD 0 ≠ 127 then (0, 0, 3) else (slebVal (low7 (sevenR l at_).1), (sevenR l at_).1.length, 0)

theorem or_group9 (n d : Nat) (hn : n < 128 ^ 9) (hd : d = 0 ∨ d = 127) :
    bits .or .u64 (n : Int) (IntKind.u64.wrap ((d : Int) * 9223372036854775808)) = (((n + d * 128 ^ 9) % 18446744073709551616 : Nat) : Int) := by
  have e0 : (128 : Nat) ^ 9 = 9223372036854775808 := by decide
  rw [e0] at hn ⊢
  rcases hd with rfl | rfl
  · rw [show IntKind.u64.wrap (((0 : Nat) : Int) * 9223372036854775808) = ((0 : Nat) : Int) from by rw [IntKind.wrap_u64]; rfl, u64_or_nat _ _ (by omega) (by omega), Nat.or_zero]
    omega
  · rw [show IntKind.u64.wrap (((127 : Nat) : Int) * 9223372036854775808) = ((9223372036854775808 : Nat) : Int) from by rw [IntKind.wrap_u64]; omega, u64_or_nat _ _ (by omega) (by omega), Nat.or_comm, nat_join 63 _ _ (by kernel_rfl) (by omega)]
    omega

theorem group_lt (m d k : Nat) (hm : m < 128 ^ k) (hd : d < 128) (hk : k < 9) : m + d * 128 ^ k < 18446744073709551616 := by
  have h1 : d * 128 ^ k ≤ 127 * 128 ^ k := Nat.mul_le_mul_right _ (by omega)
  have h2 : 128 ^ k ≤ 128 ^ 8 := Nat.pow_le_pow_right (by omega) (by omega)
  have h3 : (128 : Nat) ^ 8 = 72057594037927936 := by decide
  omega

theorem sleb_high (m L : Nat) (hm : m < 128 ^ L) (hL : L ≤ 9) : wrap64 (bits .or .u64 (m : Int) (IntKind.u64.wrap (18446744073709551615 * 2 ^ (7 * L)))) = (m : Int) - 128 ^ L := by
  have e : (2 : Nat) ^ (7 * L) = 128 ^ L := by rw [Nat.pow_mul]
  have hp : 128 ^ L ≤ 9223372036854775808 := Nat.le_trans (Nat.pow_le_pow_right (by omega) hL) (by decide)
  have hp0 : 0 < 128 ^ L := Nat.pow_pos (by omega)
  have hd : 18446744073709551616 % 128 ^ L = 0 := by
    have : (18446744073709551616 : Nat) = 2 * 128 ^ 9 := by decide
    rw [this, show (128 : Nat) ^ 9 = 128 ^ (9 - L) * 128 ^ L by rw [← Nat.pow_add]; congr 1; omega, ← Nat.mul_assoc]
    exact Nat.mul_mod_left _ _
  have h1 : (18446744073709551615 * 2 ^ (7 * L) : Int) = ((18446744073709551615 * 128 ^ L : Nat) : Int) := by rw [← e]; simp
  rw [h1, IntKind.wrap_u64, show (128 : Int) ^ L = ((128 ^ L : Nat) : Int) by simp]
  have hal : (18446744073709551616 - 128 ^ L) % 2 ^ (7 * L) = 0 := by
    rw [e]
    exact (Nat.sub_mod_eq_zero_of_mod_eq (by rw [hd, Nat.mod_self]))
  generalize 128 ^ L = p at *
  rw [show ((18446744073709551615 * p : Nat) : Int) % 18446744073709551616 = ((18446744073709551616 - p : Nat) : Int) by omega, u64_or_nat _ _ (by omega) (by omega), Nat.or_comm, nat_join (7 * L) _ _ hal (by omega)]
  rw [wrap64]
  omega

set_option maxHeartbeats 1000000 in
set_option maxRecDepth 100000 in
theorem refReadSleb_any (l : List UInt8) (at_ : Int) (v : Value) (w : World) (hl : l.length ≤ 1000000000) (hv : Bs w v l) (hat : at_ < 9223372036854775808) :
    Calls Try.prog 10 #[v, .int .i64 at_] w fun e w' =>
      e = .returned (.tuple #[.int .i64 (readSlebR l at_).1, .int .i64 (readSlebR l at_).2.1, .int .i64 (readSlebR l at_).2.2]) ∧ Below w.heap.size w w' := by
  have hg := groups_any l at_ v w hl hv hat
  have HLE := Lib.hid (sevenR_len l at_)
  have HR := Lib.hid (show readSlebR l at_ = if (sevenR l at_).2 ≠ 0 then (0, 0, (sevenR l at_).2) else if (sevenR l at_).1.length = 10 ∧ (low7 (sevenR l at_).1)[9]?.getD 0 ≠ 0 ∧ (low7 (sevenR l at_).1)[9]?.getD 0 ≠ 127 then (0, 0, 3) else (slebVal (low7 (sevenR l at_).1), (sevenR l at_).1.length, 0) from rfl)
  generalize sevenR l at_ = r at *
  obtain ⟨g, e⟩ := r
  have HG := Lib.hid hg
  clear hg hat
  by_cases he : e = 0
  · subst he
    have hlen := HLE.out rfl
    obtain ⟨hl1, hl10⟩ := hlen
    have hlow : (low7 g).length = g.length := by simp [low7]
    have HL7 := Lib.hid (low7_lt g)
    rw [← hlow] at hl1 hl10
    have HR2 := Lib.hid (show readSlebR l at_ = if (low7 g).length = 10 ∧ (low7 g)[9]?.getD 0 ≠ 0 ∧ (low7 g)[9]?.getD 0 ≠ 127 then (0, 0, 3) else (slebVal (low7 g), (low7 g).length, 0) by rw [HR.out, hlow]; rfl)
    clear hlow HLE HR
    generalize low7 g = q at *
    go_enter Try.func10, Try.ntmps10
    go_wp2_with (go_at_call 31; refine HG.out.mono ?_; rintro e w1 ⟨v1, rfl, hown, hb1⟩; obtain ⟨a1, cap1, rfl, hcap1, hc1⟩ := hown.open; have HC := Lib.hid hc1; clear hc1)
    go_loop [9, 10] (fun n i => ∃ (k m : Nat), k ≤ q.length ∧ i = .int .i64 k ∧ n = .int .u64 m ∧ Hid (m = lebVal (q.take k) % 18446744073709551616) ∧ (9 < k → q[9]?.getD 0 = 0 ∨ q[9]?.getD 0 = 127)) (fun _ i => q.length - (intOf i).toNat)
    case atStart => exact ⟨0, 0, Nat.zero_le _, rfl, rfl, rfl, by omega⟩
    case round =>
      obtain ⟨k, m, hk, rfl, rfl, HM, h9⟩ := hrel
      have H9 := Lib.hid h9
      clear h9
      by_cases hlt : k < q.length
      · obtain ⟨b, off, rfl, hcell⟩ := HC.out k hlt
        have hdm : q[k]?.getD 0 < 128 := HL7.out _ (by rw [List.getElem?_eq_getElem hlt]; exact List.getElem_mem _)
        have HS := Lib.hid (take_snoc' q k (q[k]?.getD 0) (by rw [List.getElem?_eq_getElem hlt]; rfl))
        have HV := Lib.hid (lebVal_snoc (q.take k) (q[k]?.getD 0))
        have htl : (q.take k).length = k := by rw [List.length_take]; omega
        have HN := Lib.hid (Nat.lt_of_lt_of_eq (lebVal_lt (q.take k) fun d hd => HL7.out d (List.mem_of_mem_take hd)) (by rw [htl]))
        have HTL := Lib.hid htl
        clear htl
        have hm' : m = lebVal (q.take k) := by
          rw [HM.out, Nat.mod_eq_of_lt]
          exact Nat.lt_of_lt_of_le HN.out (Nat.le_trans (Nat.pow_le_pow_right (by omega) (by omega : k ≤ 9)) (by decide))
        have HMM := Lib.hid hm'
        clear hm'
        have HK := Lib.hid (show ∀ d, q[k]?.getD 0 = d → k = 9 → q[9]?.getD 0 = d by rintro d rfl rfl; rfl)
        generalize q[k]?.getD 0 = d at *
        by_cases hk9 : k = 9
        · subst hk9
          have HK2 := Lib.hid (HK.out d rfl rfl)
          by_cases hd : d = 0 ∨ d = 127
          · have HO := Lib.hid (or_group9 m d (by rw [HMM.out]; exact HN.out) hd)
            have HD := Lib.hid hd
            have hd0 : ((d : Int) != 0) = false ∧ d ≤ 1 ∨ ((d : Int) != 0) = true ∧ ((d : Int) != 127) = false := by
              rcases hd with rfl | rfl
              · exact .inl ⟨rfl, by omega⟩
              · exact .inr ⟨rfl, rfl⟩
            clear hd
            rcases hd0 with ⟨hd0, _⟩ | ⟨hd0, hd1⟩
            all_goals
              go_wp2
              go_round
              case rel => exact ⟨10, (m + d * 128 ^ 9) % 18446744073709551616, by omega, rfl, by first | (rw [← HO.out]; done) | (rw [← HO.out, IntKind.wrap_u64, Int.emod_eq_of_lt (by omega) (by omega)]), by show _ = _; rw [HS.out, HV.out, HTL.out, ← HMM.out], fun _ => by rw [HK2.out]; exact HD.out⟩
              case measure => simp [intOf] <;> omega
          · have hd0 : ((d : Int) != 0) = true := bne_iff_ne.2 (by omega)
            have hd1 : ((d : Int) != 127) = true := bne_iff_ne.2 (by omega)
            have HR3 := Lib.hid (show readSlebR l at_ = (0, 0, 3) by rw [HR2.out]; exact if_pos ⟨by omega, by rw [HK2.out]; omega, by rw [HK2.out]; omega⟩)
            clear hd
            go_wp2
            go_ret3
            exact ⟨by rw [HR3.out]; rfl, hb1⟩
        · have hb9 : ((k : Int) == 9) = false := beq_eq_false_iff_ne.2 (by omega)
          have HO' := Lib.hid (or_groupW m d k (by rw [HMM.out]; exact HN.out) (by omega) hdm fun h => absurd h hk9)
          go_wp2
          go_round
          case rel => exact ⟨k + 1, m + d * 128 ^ k, by omega, by go_num, by rw [HO'.out], by show _ = _; rw [HS.out, HV.out, HTL.out, ← HMM.out, Nat.mod_eq_of_lt (group_lt _ _ _ (by rw [HMM.out]; exact HN.out) hdm (by omega))], fun h => by omega⟩
          case measure => simp [intOf] <;> omega
      · obtain rfl : k = q.length := by omega
        have HR3 := Lib.hid (show readSlebR l at_ = (slebVal q, q.length, 0) by rw [HR2.out]; exact if_neg (fun h => by have := H9.out (by omega); omega))
        obtain ⟨b, off, rfl, hcell⟩ := HC.out (q.length - 1) (by omega)
        have HSV := Lib.hid (show slebVal q = if q.length < 10 ∧ 64 ≤ q[q.length - 1]?.getD 0 then (lebVal q : Int) - 128 ^ q.length else IntKind.i64.wrap (lebVal q % 18446744073709551616 : Nat) from rfl)
        generalize q[q.length - 1]?.getD 0 = d at *
        have htk : q.take q.length = q := List.take_length
        rw [htk] at HM
        have HLT := Lib.hid (lebVal_lt q HL7.out)
        clear htk
        by_cases h10 : q.length < 10
        · have HMM := Lib.hid (show m = lebVal q by rw [HM.out, Nat.mod_eq_of_lt]; exact Nat.lt_of_lt_of_le HLT.out (Nat.le_trans (Nat.pow_le_pow_right (by omega) (by omega : q.length ≤ 9)) (by decide)))
          by_cases h64 : 64 ≤ d
          · have HSV2 := Lib.hid (show wrap64 (bits .or .u64 (m : Int) (IntKind.u64.wrap (18446744073709551615 * 2 ^ (7 * q.length)))) = slebVal q by rw [sleb_high m q.length (by rw [HMM.out]; exact HLT.out) (by omega), HSV.out, if_pos ⟨h10, h64⟩, HMM.out])
            go_wp2
            go_ret3
            exact ⟨by rw [HR3.out, ← HSV2.out]; rfl, hb1⟩
          · have HSV2 := Lib.hid (show wrap64 (m : Int) = slebVal q by rw [HSV.out, if_neg (by omega), HM.out, wrapEq])
            go_wp2
            go_ret3
            exact ⟨by rw [HR3.out, ← HSV2.out]; rfl, hb1⟩
        · have HSV2 := Lib.hid (show wrap64 (m : Int) = slebVal q by rw [HSV.out, if_neg (by omega), HM.out, wrapEq])
          go_wp2
          go_ret3
          exact ⟨by rw [HR3.out, ← HSV2.out]; rfl, hb1⟩
  · have HR2 := Lib.hid (show readSlebR l at_ = (0, 0, e) by rw [HR.out]; exact if_pos he)
    have he' : (e != 0) = true := bne_iff_ne.2 he
    clear he
    go_enter Try.func10, Try.ntmps10
    go_wp2_with (go_at_call 31; refine HG.out.mono ?_; rintro e w1 ⟨v1, rfl, hown, hb1⟩)
    go_ret3
    exact ⟨by rw [HR2.out]; rfl, hb1⟩
end Go.Proofs.Ytbbpeggljhkjhaa
