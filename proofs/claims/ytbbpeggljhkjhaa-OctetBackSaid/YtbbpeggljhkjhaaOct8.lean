/-
  Bytes filled up, and texts: the reference's Pad and Text.
-/
import Derived.Test.YtbbpeggljhkjhaaByt
namespace Go.Proofs.Ytbbpeggljhkjhaa
open Go.RowKit Go.Fd

def padN (n a : Nat) : Nat := (a - n % a) % a
theorem pad_lt (n a j : Nat) (ha : 0 < a) (h : j < padN n a) : (n + j) % a ≠ 0 := by
  unfold padN at h
  have h1 := Nat.mod_lt n ha
  have h3 : n % a ≠ 0 := by intro e; rw [e, Nat.sub_zero, Nat.mod_self] at h; omega
  rw [Nat.mod_eq_of_lt (show a - n % a < a by omega)] at h
  rw [Nat.add_mod, Nat.mod_eq_of_lt (show j < a by omega), Nat.mod_eq_of_lt (by omega)]
  omega
theorem pad_eq (n a : Nat) (ha : 0 < a) : (n + padN n a) % a = 0 := by
  unfold padN
  have h1 := Nat.mod_lt n ha
  by_cases h : n % a = 0
  · rw [h, Nat.sub_zero, Nat.mod_self]; simpa using h
  · rw [Nat.mod_eq_of_lt (show a - n % a < a by omega), Nat.add_mod, Nat.mod_eq_of_lt (show a - n % a < a by omega), show n % a + (a - n % a) = a by omega, Nat.mod_self]
theorem padN_lt (n a : Nat) (ha : 0 < a) : padN n a < a := Nat.mod_lt _ ha

def padR (l : List UInt8) (align : Int) (fill : UInt8) : List UInt8 × Int :=
  if align < 1 ∨ 65536 < align then ([], 1) else (l ++ List.replicate (padN l.length align.toNat) fill, 0)

theorem pad_test (n j : Nat) (a : Nat) (ha : 0 < a) (hj : j ≤ padN n a) (m : Nat) (hm : m = n + j) : ((m : Int) % (a : Int) != 0) = decide (j < padN n a) := by
  subst hm
  by_cases h : j < padN n a
  · have := pad_lt n a j ha h
    rw [decide_eq_true h, bne_iff_ne]
    omega
  · have e : j = padN n a := by omega
    have := pad_eq n a ha
    rw [decide_eq_false h, e]
    have : ((n + padN n a : Nat) : Int) % (a : Int) = 0 := by omega
    rw [this]; rfl

set_option maxRecDepth 100000 in
theorem refPad_any (l : List UInt8) (align : Int) (fill : UInt8) (v : Value) (w : World) (hl : l.length ≤ 1000000000) (hv : Bs w v l) :
    Calls Try.prog 25 #[v, .int .i64 align, .int .u8 fill.toNat] w fun e w' =>
      ∃ v', e = .returned (.tuple #[v', .int .i64 (padR l align fill).2]) ∧ OB w' w.heap.size v' (padR l align fill).1 ∧ Below w.heap.size w w' := by
  by_cases h1 : align < 1
  · have HR := Lib.hid (show padR l align fill = ([], 1) by rw [padR, if_pos (.inl h1)])
    go_enter Try.func25, Try.ntmps25
    go_wp2
    go_ret2
    exact ⟨_, by rw [HR.out]; rfl, by rw [HR.out]; exact OB.nil _ _, Below.refl _ _⟩
  by_cases h2 : 65536 < align
  · have HR := Lib.hid (show padR l align fill = ([], 1) by rw [padR, if_pos (.inr h2)])
    go_enter Try.func25, Try.ntmps25
    go_wp2
    go_ret2
    exact ⟨_, by rw [HR.out]; rfl, by rw [HR.out]; exact OB.nil _ _, Below.refl _ _⟩
  have HR := Lib.hid (show padR l align fill = (l ++ List.replicate (padN l.length align.toNat) fill, 0) by rw [padR, if_neg (by omega)])
  obtain ⟨al, rfl⟩ := Int.eq_ofNat_of_zero_le (by omega : 0 ≤ align)
  rw [Int.toNat_natCast] at HR
  have hpn := padN_lt l.length al (by omega)
  have HT := Lib.hid (fun j hj m hm => pad_test l.length j al (by omega) hj m hm)
  generalize padN l.length al = p at *
  go_enter Try.func25, Try.ntmps25
  go_wp2_with (with_reducible show wpList _ _ _ (⟨some 16, _, _, _, _, _⟩ :: _) _ _; refine wpList_catB (OB.nil _ w.heap.size) hv rfl rfl (by simp; omega) (Nat.le_refl _) ?_; intro v1 w1 hv1 _ hb1)
  go_loopw [8] (fun v wr => ∃ j : Nat, j ≤ p ∧ OB wr w.heap.size v (l ++ List.replicate j fill) ∧ Below w.heap.size w wr ∧ Hid (lenV v = l.length + j)) (fun v _ => l.length + p - lenV v)
  case atStart =>
    obtain ⟨m, a1, cap1, hm, rfl, _⟩ := hv1.shape
    exact ⟨0, Nat.zero_le _, by simpa using hv1, hb1, by have := hm.out; show m = _; simpa using this⟩
  case round =>
    obtain ⟨j, hj, hown, hb, HL⟩ := hrel
    obtain ⟨m, a1, cap1, hm, rfl, hcm, _⟩ := hown.shape
    have HM := Lib.hid (show m = l.length + j from HL.out)
    have hmb : m ≤ 1000065536 := by have := HM.out; omega
    have ht := HT.out j hj m HM.out
    by_cases hlt : j < p
    · rw [decide_eq_true hlt] at ht
      go_wp2_with (at_builtin; go_must (refine wpList_pushB hown rfl rfl fill rfl (by simp; omega) hb.size ?_; intro v2 w2 hv2 _ hb2))
      go_roundw
      case rel => exact ⟨j + 1, by omega, by rw [List.replicate_succ', ← List.append_assoc]; exact hv2, hb.trans hb2, by obtain ⟨m, a1, cap1, hm, rfl, _⟩ := hv2.shape; have := hm.out; show m = _; simp at this; omega⟩
      case measure =>
        obtain ⟨m', a2, cap2, hm', rfl, _⟩ := hv2.shape
        have e1 := hm'.out
        have e2 := HM.out
        simp at e1
        simp [lenV]; omega
    · rw [decide_eq_false hlt] at ht
      obtain rfl : j = p := by omega
      go_wp2
      go_ret2
      exact ⟨_, by rw [HR.out]; rfl, by rw [HR.out]; exact hown, hb⟩

/-- The bytes ahead of the next 0. -/
def upto0 : List UInt8 → Option (List UInt8)
  | [] => none
  | c :: r => if c = 0 then some [] else (upto0 r).map (c :: ·)

def textR (l : List UInt8) (at_ : Int) : List UInt8 × Int :=
  if at_ < 0 ∨ (l.length : Int) < at_ then ([], 5) else match upto0 (l.drop at_.toNat) with
    | none => ([], 2)
    | some g => (g, 0)

theorem upto0_hit (l : List UInt8) (k : Nat) (hk : k < l.length) (h : l[k]?.getD 0 = 0) : upto0 (l.drop k) = some [] := by
  rw [List.drop_eq_getElem_cons hk, upto0]
  rw [List.getElem?_eq_getElem hk, Option.getD_some] at h
  rw [if_pos h]
theorem upto0_miss (l : List UInt8) (k : Nat) (hk : k < l.length) (h : ¬ l[k]?.getD 0 = 0) : upto0 (l.drop k) = (upto0 (l.drop (k + 1))).map ((l[k]?.getD 0) :: ·) := by
  rw [List.drop_eq_getElem_cons hk, upto0]
  rw [List.getElem?_eq_getElem hk, Option.getD_some] at h ⊢
  rw [if_neg h]

theorem u8_zero (c : UInt8) : ((c.toNat : Int) == 0) = decide (c = 0) := by
  by_cases h : c = 0
  · subst h; rfl
  · rw [decide_eq_false h]
    have : c.toNat ≠ 0 := fun e => h (UInt8.toNat_inj.1 e)
    exact beq_eq_false_iff_ne.2 (by omega)

set_option maxRecDepth 100000 in
theorem refText_any (l : List UInt8) (at_ : Int) (v : Value) (w : World) (hl : l.length ≤ 1000000000) (hv : Bs w v l) :
    Calls Try.prog 28 #[v, .int .i64 at_] w fun e w' => e = .returned (.tuple #[S (textR l at_).1, .int .i64 (textR l at_).2]) ∧ w = w' := by
  have hv0 := hv
  obtain ⟨a, cap, rfl, hcap, _, hc⟩ := hv.open
  have HC := Lib.hid hc
  clear hc
  by_cases h1 : at_ < 0
  · have HR := Lib.hid (show textR l at_ = ([], 5) by rw [textR, if_pos (.inl h1)])
    go_enter Try.func28, Try.ntmps28
    go_wp2
    go_ret2
    exact ⟨by rw [HR.out]; rfl, rfl⟩
  by_cases h2 : (l.length : Int) < at_
  · have HR := Lib.hid (show textR l at_ = ([], 5) by rw [textR, if_pos (.inr h2)])
    go_enter Try.func28, Try.ntmps28
    go_wp2
    go_ret2
    exact ⟨by rw [HR.out]; rfl, rfl⟩
  obtain ⟨s, rfl⟩ := Int.eq_ofNat_of_zero_le (by omega : 0 ≤ at_)
  have HR := Lib.hid (show textR l s = match upto0 (l.drop s) with | none => ([], 2) | some g => (g, 0) by rw [textR, if_neg (by omega), Int.toNat_natCast])
  have hs : s ≤ l.length := by omega
  go_enter Try.func28, Try.ntmps28
  go_wp2
  go_loop [6] (fun i => ∃ k : Nat, s ≤ k ∧ k ≤ l.length ∧ i = .int .i64 k ∧ Hid (upto0 (l.drop s) = (upto0 (l.drop k)).map ((l.drop s).take (k - s) ++ ·))) (fun i => l.length - (intOf i).toNat)
  case atStart => exact ⟨s, Nat.le_refl _, hs, rfl, by show _ = _; simp⟩
  case round =>
    obtain ⟨k, hsk, hk, rfl, HP⟩ := hrel
    by_cases hlt : k < l.length
    · obtain ⟨b, off, rfl, hcell⟩ := HC.out k hlt
      have HHIT := Lib.hid (upto0_hit l k hlt)
      have HMISS := Lib.hid (upto0_miss l k hlt)
      have HTK := Lib.hid (show (l.drop s).take (k + 1 - s) = (l.drop s).take (k - s) ++ [l[k]?.getD 0] by
        rw [show k + 1 - s = (k - s) + 1 by omega]
        refine take_snoc' _ _ _ ?_
        rw [List.getElem?_drop, show s + (k - s) = k by omega, List.getElem?_eq_getElem hlt]; rfl)
      have hz := u8_zero (l[k]?.getD 0)
      generalize l[k]?.getD 0 = c at *
      by_cases hc0 : c = 0
      · rw [decide_eq_true hc0] at hz
        have HR2 := Lib.hid (show textR l s = ((l.drop s).take (k - s), 0) by rw [HR.out, HP.out, HHIT.out hc0]; simp)
        clear hc0
        obtain ⟨v', hrun, hv'⟩ := run_sliceB hv0 (i := s) (j := k) (k := .i64) (k' := .i64) (by omega) (by omega) (by omega)
        have HRUN := Lib.hid hrun
        have hstr := run_str hv'
        rw [show ((s : Int)).toNat = s from rfl, show ((k : Int) - (s : Int)).toNat = k - s by omega] at hstr
        clear hrun
        go_wp2_with (with_reducible show wpList _ _ _ (⟨some 30, _, _, _, _, _⟩ :: _) _ _; refine wpList_val rfl (exec_slice2 HRUN.out rfl rfl rfl) ?_)
        go_ret2
        exact ⟨by rw [HR2.out]; rfl, rfl⟩
      · rw [decide_eq_false hc0] at hz
        have HP2 := Lib.hid (show upto0 (l.drop s) = (upto0 (l.drop (k + 1))).map ((l.drop s).take (k + 1 - s) ++ ·) by rw [HP.out, HMISS.out hc0, HTK.out]; simp [Function.comp_def])
        clear hc0
        go_wp2
        go_round
        case rel => exact ⟨k + 1, by omega, by omega, by go_num, HP2.out⟩
        case measure => simp [intOf] <;> omega
    · obtain rfl : k = l.length := by omega
      have HR2 := Lib.hid (show textR l s = ([], 2) by rw [HR.out, HP.out]; simp [upto0])
      go_wp2
      go_ret2
      exact ⟨by rw [HR2.out]; rfl, rfl⟩
end Go.Proofs.Ytbbpeggljhkjhaa
