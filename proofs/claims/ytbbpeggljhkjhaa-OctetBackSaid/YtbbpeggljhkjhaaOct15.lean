/-
  LEB128 numbers, read: octet.ReadLeb, ReadSleb.
-/
import Derived.Test.YtbbpeggljhkjhaaOct14
namespace Go.Proofs.Ytbbpeggljhkjhaa
open Go.RowKit Go.Fd

theorem sevens_last (l g : List UInt8) (h : sevens l = some g) : (g[g.length - 1]?.getD 0).toNat < 128 := by
  induction l generalizing g with
  | nil => simp [sevens] at h
  | cons c r ih =>
    rw [sevens] at h
    split at h
    · next hc => simp at h; subst h; simpa using hc
    · cases hr : sevens r with
      | none => rw [hr] at h; simp at h
      | some x =>
        rw [hr] at h; simp at h; subst h
        have h1 := sevens_len _ _ hr
        have := ih x hr
        rw [List.length_cons, show x.length + 1 - 1 = (x.length - 1) + 1 by omega, List.getElem?_cons_succ]
        exact this
theorem sevenR_last (l : List UInt8) (at_ : Int) (h : (sevenR l at_).2 = 0) : ((sevenR l at_).1[(sevenR l at_).1.length - 1]?.getD 0).toNat < 128 := by
  rw [sevenR] at h ⊢
  split at h
  · simp at h
  · next h0 =>
    rw [if_neg h0]
    split at h
    · simp at h
    · next g hg =>
      split at h
      · simp at h
      · next h1 => simp only [if_neg h1]; exact sevens_last _ _ hg

theorem and127 (c : UInt8) : bits .and .u8 (c.toNat : Int) 127 = ((c.toNat % 128 : Nat) : Int) := by
  have := c.toNat_lt
  rw [show (127 : Int) = ((127 : Nat) : Int) from rfl, u8_and_nat _ _ (by omega) (by omega), nat_mask7]

theorem low7_get (g : List UInt8) (k : Nat) (hk : k < g.length) : (low7 g)[k]? = some ((g[k]?.getD 0).toNat % 128) := by
  unfold low7
  rw [List.getElem?_map, List.getElem?_eq_getElem hk]; rfl

set_option maxRecDepth 100000 in
theorem octReadLeb_any (l : List UInt8) (at_ : Int) (v : Value) (w : World) (hl : l.length ≤ 1000000000) (hv : Bs w v l) :
    Calls Try.prog 7 #[v, .int .i64 at_] w fun e w' =>
      e = .returned (.tuple #[.int .u64 (readLebR l at_).1, .int .i64 (readLebR l at_).2.1, .int .i64 (readLebR l at_).2.2]) ∧ w = w' := by
  have hg := seven_any l at_ v w hl hv
  have HLE := Lib.hid (sevenR_len l at_)
  have HLA := Lib.hid (sevenR_last l at_)
  have HR := Lib.hid (show readLebR l at_ = if (sevenR l at_).2 ≠ 0 then (0, 0, (sevenR l at_).2) else if (sevenR l at_).1.length = 10 ∧ 1 < (low7 (sevenR l at_).1)[9]?.getD 0 then (0, 0, 3) else (lebVal (low7 (sevenR l at_).1), (sevenR l at_).1.length, 0) from rfl)
  generalize sevenR l at_ = r at *
  obtain ⟨g, e⟩ := r
  have HG := Lib.hid hg
  clear hg
  by_cases he : e = 0
  · subst he
    obtain ⟨hl1, hl10⟩ := HLE.out rfl
    have HLB := Lib.hid (show (g[g.length - 1]?.getD 0).toNat < 128 from HLA.out rfl)
    clear HLA HLE
    have HL7 := Lib.hid (low7_lt g)
    have hlow : (low7 g).length = g.length := by simp [low7]
    have HLOW := Lib.hid hlow
    have HR2 := Lib.hid (show readLebR l at_ = if g.length = 10 ∧ 1 < (low7 g)[9]?.getD 0 then (0, 0, 3) else (lebVal (low7 g), g.length, 0) by rw [HR.out]; rfl)
    clear hlow
    go_enter Try.func7, Try.ntmps7
    go_wp2_with (go_at_call 30; go_must (refine HG.out.mono ?_; rintro e w1 ⟨v1, rfl, hown, rfl⟩; obtain ⟨a1, cap1, rfl, hcap1, _, hc1⟩ := hown.open; have HC := Lib.hid hc1; clear hc1))
    go_loop [9, 23] (fun n i => ∃ k : Nat, k ≤ g.length ∧ i = .int .i64 k ∧ n = .int .u64 (lebVal ((low7 g).take k)) ∧ (9 < k → (low7 g)[9]?.getD 0 ≤ 1)) (fun _ i => g.length - (intOf i).toNat)
    case atStart => exact ⟨0, Nat.zero_le _, rfl, rfl, by omega⟩
    case round =>
      obtain ⟨k, hk, rfl, rfl, h9⟩ := hrel
      have H9 := Lib.hid h9
      clear h9
      by_cases hlt : k < g.length
      · obtain ⟨b, off, rfl, hcell⟩ := HC.out k hlt
        have HGET := Lib.hid (low7_get g k hlt)
        have HS := Lib.hid (take_snoc' (low7 g) k _ HGET.out)
        have HV := Lib.hid (lebVal_snoc ((low7 g).take k) ((g[k]?.getD 0).toNat % 128))
        have HTL := Lib.hid (show ((low7 g).take k).length = k by rw [List.length_take, HLOW.out]; omega)
        have HN := Lib.hid (Nat.lt_of_lt_of_eq (lebVal_lt ((low7 g).take k) fun d hd => HL7.out d (List.mem_of_mem_take hd)) (by rw [HTL.out]))
        have HLAST := Lib.hid (fun h9 : k = 9 => show (g[k]?.getD 0).toNat < 128 from by have := HLB.out; rw [show g.length - 1 = k by omega] at this; exact this)
        have HK := Lib.hid (show k = 9 → (low7 g)[9]?.getD 0 = (g[k]?.getD 0).toNat % 128 by rintro rfl; rw [HGET.out]; rfl)
        generalize g[k]?.getD 0 = c at *
        have hcu := c.toNat_lt
        have HA := Lib.hid (and127 c)
        have ha1 : 0 ≤ bits .and .u8 (c.toNat : Int) 127 := by rw [HA.out]; omega
        have ha2 : bits .and .u8 (c.toNat : Int) 127 < 128 := by rw [HA.out]; omega
        generalize lebVal ((low7 g).take k) = n at *
        by_cases hk9 : k = 9
        · subst hk9
          have hc128 := HLAST.out rfl
          by_cases hd1 : 1 < c.toNat
          · have HR3 := Lib.hid (show readLebR l at_ = (0, 0, 3) by rw [HR2.out]; exact if_pos ⟨by omega, by rw [HK.out rfl]; omega⟩)
            go_wp2
            go_ret3
            exact ⟨by rw [HR3.out]; rfl, rfl⟩
          · have HO := Lib.hid (or_group n (c.toNat % 128) 9 HN.out (by omega) (by omega) fun _ => by omega).2
            have ha3 : bits .and .u8 (c.toNat : Int) 127 ≤ 1 := by rw [HA.out]; omega
            go_wp2
            go_round
            case rel => exact ⟨10, by omega, rfl, by rw [HS.out, HV.out, HTL.out, ← HO.out, HA.out]; simp, fun _ => by rw [HK.out rfl]; omega⟩
            case measure => simp [intOf] <;> omega
        · have hb9 : ((k : Int) == 9) = false := beq_eq_false_iff_ne.2 (by omega)
          have HO' := Lib.hid (or_groupW n (c.toNat % 128) k HN.out (by omega) (by omega) fun h => absurd h hk9)
          go_wp2
          go_round
          case rel => exact ⟨k + 1, by omega, by go_num, by rw [HS.out, HV.out, HTL.out, ← HO'.out, HA.out], fun h => by omega⟩
          case measure => simp [intOf] <;> omega
      · obtain rfl : k = g.length := by omega
        have HTK := Lib.hid (show (low7 g).take g.length = low7 g by rw [← HLOW.out, List.take_length])
        have HR3 := Lib.hid (show readLebR l at_ = (lebVal (low7 g), g.length, 0) by rw [HR2.out]; exact if_neg (fun h => by have := H9.out (by omega); omega))
        go_wp2
        go_ret3
        exact ⟨by rw [HR3.out, ← HTK.out]; simp [HTK.out], rfl⟩
  · have HR2 := Lib.hid (show readLebR l at_ = (0, 0, e) by rw [HR.out]; exact if_pos he)
    have he' : (e != 0) = true := bne_iff_ne.2 he
    clear he
    go_enter Try.func7, Try.ntmps7
    go_wp2_with (go_at_call 30; go_must (refine HG.out.mono ?_; rintro e w1 ⟨v1, rfl, hown, rfl⟩))
    go_ret3
    exact ⟨by rw [HR2.out]; rfl, rfl⟩
end Go.Proofs.Ytbbpeggljhkjhaa
