/-
  LEB128 numbers, read: octet.seven, ReadLeb, ReadSleb.
-/
import Derived.Test.YtbbpeggljhkjhaaOct6
namespace Go.Proofs.Ytbbpeggljhkjhaa
open Go.RowKit Go.Fd

def idxR (l : List UInt8) : Int := match sevens l with
  | none => -1
  | some g => (g.length : Int) - 1

theorem small_any (c : UInt8) (b : Bool) (w : World) (h : decide ((c.toNat : Int) < 128) = b) : Calls Try.prog 41 #[.int .u8 c.toNat] w fun e w' => e = .returned (.bool b) ∧ w = w' := by
  subst h
  go_enter Try.func41, Try.ntmps41
  go_wp2
  go_ret
  exact ⟨rfl, rfl⟩

theorem take_drop_snoc (l : List UInt8) (k : Nat) (hk : k < l.length) (h : ¬ (l[k]?.getD 0).toNat < 128) (hp : sevens l = (sevens (l.drop k)).map (l.take k ++ ·)) : sevens l = (sevens (l.drop (k + 1))).map (l.take (k + 1) ++ ·) := by
  rw [hp, sevens_miss l k hk h, take_snoc' l k (l[k]?.getD 0) (by rw [List.getElem?_eq_getElem hk]; rfl)]
  simp [Function.comp_def]

set_option maxRecDepth 100000 in
theorem indexFunc_any (l : List UInt8) (v : Value) (w : World) (hl : l.length ≤ 1000000000) (hv : Bs w v l) :
    Calls Try.prog 40 #[v, .func (.func 41) #[] #[]] w fun e w' => e = .returned (.int .i64 (idxR l)) ∧ w = w' := by
  obtain ⟨a, cap, rfl, hcap, _, hc⟩ := hv.open
  have HC := Lib.hid hc
  clear hc
  go_enter Try.func40, Try.ntmps40
  go_wp2
  go_loop [8] (fun i => ∃ k : Nat, k ≤ l.length ∧ i = .int .i64 k ∧ Hid (sevens l = (sevens (l.drop k)).map (l.take k ++ ·))) (fun i => l.length - (intOf i).toNat)
  case atStart => exact ⟨0, Nat.zero_le _, rfl, by show _ = _; simp⟩
  case round =>
    obtain ⟨k, hk, rfl, HP⟩ := hrel
    by_cases hlt : k < l.length
    · obtain ⟨b, off, rfl, hcell⟩ := HC.out k hlt
      have HHIT := Lib.hid (sevens_hit l k hlt)
      have HMISS := Lib.hid (fun h => take_drop_snoc l k hlt h HP.out)
      generalize l[k]?.getD 0 = c at *
      by_cases h : c.toNat < 128
      · have HE := Lib.hid (show idxR l = k by unfold idxR; rw [HP.out, HHIT.out h]; simp; omega)
        have hd : decide ((c.toNat : Int) < 128) = true := by simp; omega
        go_wp2_with (go_at_call 41; go_must (refine (small_any c true _ hd).mono ?_; rintro e w' ⟨rfl, rfl⟩))
        go_ret
        exact ⟨by rw [HE.out]; rfl, rfl⟩
      · have HE := Lib.hid (HMISS.out h)
        have hd : decide ((c.toNat : Int) < 128) = false := by simp; omega
        go_wp2_with (go_at_call 41; go_must (refine (small_any c false _ hd).mono ?_; rintro e w' ⟨rfl, rfl⟩))
        go_round
        case rel => exact ⟨k + 1, by omega, by go_num, HE.out⟩
        case measure => simp [intOf] <;> omega
    · obtain rfl : k = l.length := by omega
      have HE := Lib.hid (show idxR l = -1 by unfold idxR; rw [HP.out]; simp [sevens])
      go_wp2
      go_ret
      exact ⟨by rw [HE.out]; rfl, rfl⟩

theorem sevens_prefix (l g : List UInt8) (h : sevens l = some g) : g = l.take g.length ∧ g.length ≤ l.length := by
  induction l generalizing g with
  | nil => simp [sevens] at h
  | cons c r ih =>
    rw [sevens] at h
    split at h
    · simp at h; subst h; simp
    · cases hr : sevens r with
      | none => rw [hr] at h; simp at h
      | some x =>
        rw [hr] at h; simp at h; subst h
        obtain ⟨h1, h2⟩ := ih x hr
        refine ⟨?_, by simpa using h2⟩
        rw [List.length_cons, List.take_succ_cons, ← h1]

theorem seven_any (l : List UInt8) (at_ : Int) (v : Value) (w : World) (hl : l.length ≤ 1000000000) (hv : Bs w v l) :
    Calls Try.prog 30 #[v, .int .i64 at_] w fun e w' => ∃ v', e = .returned (.tuple #[v', .int .i64 (sevenR l at_).2]) ∧ Bs w v' (sevenR l at_).1 ∧ w = w' := by
  obtain ⟨a, cap, rfl, hcap, _, _⟩ := hv.open
  by_cases h1 : at_ < 0
  · have HR := Lib.hid (show sevenR l at_ = ([], 5) by rw [sevenR, if_pos (.inl h1)])
    go_enter Try.func30, Try.ntmps30
    go_wp2
    go_ret2
    exact ⟨_, by rw [HR.out]; rfl, by rw [HR.out]; exact Bs.nil _, rfl⟩
  by_cases h2 : (l.length : Int) < at_
  · have HR := Lib.hid (show sevenR l at_ = ([], 5) by rw [sevenR, if_pos (.inr h2)])
    go_enter Try.func30, Try.ntmps30
    go_wp2
    go_ret2
    exact ⟨_, by rw [HR.out]; rfl, by rw [HR.out]; exact Bs.nil _, rfl⟩
  have hsev : sevenR l at_ = match sevens (l.drop at_.toNat) with | none => ([], 2) | some g => if g.length > 10 then ([], 3) else (g, 0) := by rw [sevenR, if_neg (by omega)]; rfl
  obtain ⟨v1, hrun, hv1⟩ := run_fromB hv (i := at_) (k := .i64) (by omega) (by omega)
  have HRUN := Lib.hid hrun
  have HI := Lib.hid (indexFunc_any _ v1 w (by rw [List.length_drop]; omega) hv1)
  have hidx : idxR (l.drop at_.toNat) = match sevens (l.drop at_.toNat) with | none => -1 | some g => (g.length : Int) - 1 := rfl
  clear hrun
  cases hs : sevens (l.drop at_.toNat) with
  | none =>
    rw [hs] at hidx hsev
    have HR := Lib.hid hsev
    rw [hidx] at HI
    clear hidx hsev hs
    go_enter Try.func30, Try.ntmps30
    go_wp2_with (first
      | (with_reducible show wpList _ _ _ (⟨some 17, _, _, _, _, _⟩ :: _) _ _; go_must (refine wpList_val rfl (exec_sliceFrom HRUN.out rfl rfl) ?_))
      | (go_at_call 40; go_must (refine HI.out.mono ?_; rintro e w' ⟨rfl, rfl⟩)))
    go_ret2
    exact ⟨_, by rw [HR.out]; rfl, by rw [HR.out]; exact Bs.nil _, rfl⟩
  | some g =>
    have hg1 := sevens_len _ _ hs
    obtain ⟨hg2, hg3⟩ := sevens_prefix _ _ hs
    rw [List.length_drop] at hg3
    have HG := Lib.hid hg2
    rw [hs] at hidx hsev
    simp only at hsev hidx
    rw [hidx] at HI
    clear hidx hs hg2
    by_cases h10 : g.length > 10
    · rw [if_pos h10] at hsev
      have HR := Lib.hid hsev
      clear hsev
      go_enter Try.func30, Try.ntmps30
      go_wp2_with (first
        | (with_reducible show wpList _ _ _ (⟨some 17, _, _, _, _, _⟩ :: _) _ _; go_must (refine wpList_val rfl (exec_sliceFrom HRUN.out rfl rfl) ?_))
        | (go_at_call 40; go_must (refine HI.out.mono ?_; rintro e w' ⟨rfl, rfl⟩)))
      go_ret2
      exact ⟨_, by rw [HR.out]; rfl, by rw [HR.out]; exact Bs.nil _, rfl⟩
    · rw [if_neg h10] at hsev
      have HR := Lib.hid hsev
      clear hsev
      obtain ⟨v2, hrun2, hv2⟩ := run_sliceB hv (i := at_) (j := at_ + (g.length - 1) + 1) (k := .i64) (k' := .i64) (by omega) (by omega) (by omega)
      have HRUN2 := Lib.hid hrun2
      rw [show (at_ + ((g.length : Int) - 1) + 1 - at_).toNat = g.length by omega, ← HG.out] at hv2
      clear hrun2
      go_enter Try.func30, Try.ntmps30
      go_wp2_with (first
        | (with_reducible show wpList _ _ _ (⟨some 17, _, _, _, _, _⟩ :: _) _ _; go_must (refine wpList_val rfl (exec_sliceFrom HRUN.out rfl rfl) ?_))
        | (go_at_call 40; go_must (refine HI.out.mono ?_; rintro e w' ⟨rfl, rfl⟩))
        | (with_reducible show wpList _ _ _ (⟨some 31, _, _, _, _, _⟩ :: _) _ _; go_must (refine wpList_val rfl (exec_slice2 HRUN2.out rfl rfl rfl) ?_)))
      go_ret2
      exact ⟨_, by rw [HR.out]; rfl, by rw [HR.out]; exact hv2, rfl⟩
end Go.Proofs.Ytbbpeggljhkjhaa
