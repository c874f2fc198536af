/-
  The statement OctetAll, walked.
-/
import Derived.Test.YtbbpeggljhkjhaaOBeg
import Derived.Test.YtbbpeggljhkjhaaPersB
namespace Go.Proofs.Ytbbpeggljhkjhaa
open Go.RowKit Go.Fd

theorem putR_len (l : List UInt8) (n : Nat) (size : Int) (big : Bool) (hl : l.length ≤ 3000) : (putR l n size big).1.length ≤ 1000000000 := by
  unfold putR
  split
  · next h =>
    split
    · have := fixed_len_int n h
      cases big <;> simp <;> omega
    · simp
  · simp
theorem padR_len (l : List UInt8) (align : Int) (fill : UInt8) (hl : l.length ≤ 3000) : (padR l align fill).1.length ≤ 1000000000 := by
  unfold padR
  split
  · simp
  · next h =>
    have := padN_lt l.length align.toNat (by omega)
    simp; omega

/-- An owned slice stays as it is where another block is written over. -/
theorem ob_kept {w w' : World} {b : Nat} {u s : Value} {m : List UInt8} (hs : OB w b s m) (hg : w.grownBy w' u.ownBlock) (hne : ∀ k g, s.ownBlock = some k → u.ownBlock = some g → k ≠ g) : OB w' b s m := by
  cases he : u.ownBlock with
  | none => exact hs.mono (below_grown (by rw [he] at hg; exact hg))
  | some g => exact grown_owns hs (by rw [he] at hg; exact hg) fun k hk => hne k g hk he
theorem twined_kept {w w' : World} {b B : Nat} {u t : Value} {m : List UInt8} (ht : Twined w b t m) (hg : w.grownBy w' u.ownBlock) (hB : ∀ k, t.ownBlock = some k → k < B) (hu : ∀ g, u.ownBlock = some g → B ≤ g) : Twined w' b t m := by
  obtain ⟨g, cap, rfl, h2, h3, h4⟩ := ht
  refine ⟨g, cap, rfl, h2, h3, ob_kept h4 hg fun k g' hk hg' => ?_⟩
  have h1 := hB g rfl
  have h5 := hu g' hg'
  simp [Value.ownBlock] at hk
  omega
theorem Twined.lt {w : World} {b : Nat} {t : Value} {m : List UInt8} (ht : Twined w b t m) : ∀ k, t.ownBlock = some k → b ≤ k ∧ k < w.heap.size := by
  obtain ⟨g, cap, rfl, h2, h3, h4⟩ := ht
  intro k hk
  exact World.ownsRow.lt h4 k hk

set_option maxHeartbeats 4000000 in
set_option maxRecDepth 100000 in
theorem octetAll_any (l : List UInt8) (n : Nat) (size at_ align : Int) (fill : UInt8) (v : Value) (w : World) (hn : n < 18446744073709551616) (hat : at_ < 9223372036854775808) (hv : Bs w v l) (hl : l.length ≤ 3000) :
    Calls Try.prog 5 #[v, .int .u64 n, .int .i64 size, .int .i64 at_, .int .i64 align, .int .u8 fill.toNat] w fun e w' => e = .returned (.bool true) ∧ Below w.heap.size w w' := by
  obtain ⟨m, a, cap, hm, rfl, hmc, _⟩ := hv.shape
  have hml : m ≤ 3000 := by have := hm.out; omega
  have HAT := Lib.hid hat
  have HN := Lib.hid hn
  have HPL1 := Lib.hid (putR_len l n size false hl)
  have HPL2 := Lib.hid (putR_len l n size true hl)
  have HPL3 := Lib.hid (padR_len l align fill hl)
  have HP1 := Lib.hid (fun t w h => octPut_any l n size t w (by omega) hn h)
  have HP2 := Lib.hid (fun t w h => octBig_any l n size t w (by omega) hn h)
  have HP3 := Lib.hid (fun t w h => octPad_any l align fill t w (by omega) h)
  have HP4 := Lib.hid (fun t w h => octU_any l at_ size t w (by omega) h)
  have HP5 := Lib.hid (fun t w h => octBigU_any l at_ size t w (by omega) h)
  have HP6 := Lib.hid (fun t w h => octText_any l at_ t w (by omega) h)
  have HR1 := Lib.hid (fun t w h => refPut_any l n size t w (by omega) hn h)
  have HR2 := Lib.hid (fun t w h => refBig_any l n size t w (by omega) hn h)
  have HR3 := Lib.hid (fun t w h => refPad_any l align fill t w (by omega) h)
  have HR4 := Lib.hid (fun t w h => refU_any l at_ size t w (by omega) h hat)
  have HR5 := Lib.hid (fun t w h => refBigU_any l at_ size t w (by omega) h hat)
  have HR6 := Lib.hid (fun t w h => refText_any l at_ t w (by omega) h)
  generalize putR l n size false = r1 at *
  generalize putR l n size true = r2 at *
  generalize padR l align fill = r3 at *
  generalize getR l at_ size false = r4 at *
  generalize getR l at_ size true = r5 at *
  generalize textR l at_ = r6 at *
  obtain ⟨r11, r12⟩ := r1
  obtain ⟨r21, r22⟩ := r2
  obtain ⟨r31, r32⟩ := r3
  obtain ⟨r41, r42⟩ := r4
  obtain ⟨r51, r52⟩ := r5
  obtain ⟨r61, r62⟩ := r6
  clear hat hn
  go_enter Try.func5, Try.ntmps5
  go_wp2_with (go_at_call 6; go_must (refine (begun_any _).mono ?_; rintro e w1 ⟨rfl, hb1⟩))
  go_loopw [13] (fun i wr => ∃ k : Nat, k ≤ 2 ∧ i = .int .i64 k ∧ Below w.heap.size w wr) (fun i _ => 2 - (intOf i).toNat)
  case atStart => exact ⟨0, by omega, rfl, hb1⟩
  case round =>
    obtain ⟨k, hk, rfl, hb⟩ := hrel
    by_cases hlt : k < 2
    · go_wp2_with fail
      refine (twin_any l _ _ (by omega) (hv.mono hb)).mono ?_
      rintro e w1 ⟨t, rfl, ht1, hb1⟩
      have HTL := Lib.hid ht1.lt
      have HW := Lib.hid hb.size
      go_wp2_with fail
      refine (HP1.out t _ ht1.bs).mono ?_
      rintro e w2 ⟨p, rfl, hp2, hb2⟩
      have HPB := Lib.hid hp2.lt
      go_wp2_with fail
      refine (HP2.out t _ (ht1.bs.mono hb2)).mono ?_
      rintro e w3 ⟨q, rfl, hq3, hb3⟩
      have HQB := Lib.hid hq3.lt
      have hb13 := hb2.trans (hb3.mono hb2.size)
      go_wp2_with fail
      refine (HP3.out t _ (ht1.bs.mono hb13)).mono ?_
      rintro e w4 ⟨r, rfl, hr4, hb4⟩
      have HRB := Lib.hid hr4.lt
      have hb14 := hb13.trans (hb4.mono hb13.size)
      have HZ := Lib.hid (And.intro hb1.size (And.intro hb2.size (And.intro hb3.size hb4.size)))
      have ht4 := ht1.mono hb14
      have hb04 := hb.trans ((hb1.trans (hb14.mono hb1.size)).mono hb.size)
      have hp4 := (hp2.mono hb3).mono hb4
      have hq4 := hq3.mono hb4
      clear hb hb1 hb2 hb3 hb4 hb13 hb14 ht1 hp2 hq3
      go_wp2_with fail
      refine (HP4.out t _ ht4.bs).mono ?_
      rintro e w5 ⟨rfl, rfl⟩
      go_wp2_with fail
      refine (HP5.out t _ ht4.bs).mono ?_
      rintro e w5 ⟨rfl, rfl⟩
      go_wp2_with fail
      refine (HP6.out t _ ht4.bs).mono ?_
      rintro e w5 ⟨rfl, rfl⟩
      go_wp2_with fail
      refine (HR1.out _ _ (hv.mono hb04)).mono ?_
      rintro e w5 ⟨p', rfl, hp5, hb5⟩
      have hb05 := hb04.trans (hb5.mono hb04.size)
      go_wp2_with fail
      refine (HR2.out _ _ (hv.mono hb05)).mono ?_
      rintro e w6 ⟨q', rfl, hq6, hb6⟩
      have hb06 := hb05.trans (hb6.mono hb05.size)
      go_wp2_with fail
      refine (HR3.out _ _ (hv.mono hb06)).mono ?_
      rintro e w7 ⟨r', rfl, hr7, hb7⟩
      have hb07 := hb06.trans (hb7.mono hb06.size)
      go_wp2_with fail
      refine (HR4.out _ _ (hv.mono hb07)).mono ?_
      rintro e w8 ⟨rfl, hb8⟩
      have hb08 := hb07.trans (hb8.mono hb07.size)
      go_wp2_with fail
      refine (HR5.out _ _ (hv.mono hb08)).mono ?_
      rintro e w9 ⟨rfl, hb9⟩
      have hb09 := hb08.trans (hb9.mono hb08.size)
      have hb79 := hb8.trans (hb9.mono hb8.size)
      have hb69 := hb7.trans (hb79.mono hb7.size)
      have hb59 := hb6.trans (hb69.mono hb6.size)
      have hb49 := hb5.trans (hb59.mono hb5.size)
      have hp9 := hp4.mono hb49
      have hq9 := hq4.mono hb49
      have hr9 := hr4.mono hb49
      have ht9 := ht4.mono hb49
      have s1 := run_str hp9.bs
      have s2 := run_str hq9.bs
      have s3 := run_str hr9.bs
      have s4 := run_str (hp5.bs.mono hb59)
      have s5 := run_str (hq6.bs.mono hb69)
      have s6 := run_str (hr7.bs.mono hb79)
      have HZ2 := Lib.hid (Nat.le_trans hb04.size (Nat.le_refl _))
      have HT := Lib.hid ht9
      have HP := Lib.hid hp9
      have HQ := Lib.hid hq9
      have HR := Lib.hid hr9
      have HV := Lib.hid (hv.mono hb09)
      clear hb04 hb05 hb06 hb07 hb08 hb5 hb6 hb7 hb8 hb9 hb79 hb69 hb59 hb49 hp4 hq4 hr4 ht4 hp9 hq9 hr9 ht9 hp5 hq6 hr7
      go_wp2_with fail
      refine (HR6.out _ _ HV.out).mono ?_
      rintro e w10 ⟨rfl, rfl⟩
      go_wp2_with fail
      have HB9 := Lib.hid hb09
      clear hb09 s1 s2 s3 s4 s5 s6
      refine (spoil_any r11 w1.heap.size p _ HPL1.out HP.out).mono ?_
      rintro e w10 ⟨rfl, hg10⟩
      have HT10 := Lib.hid (twined_kept HT.out hg10 (B := w1.heap.size) (fun k hk => (HTL.out k hk).2) (fun g hg => (HPB.out g hg).1))
      have HQ10 := Lib.hid (ob_kept HQ.out hg10 (fun k g hk hg => by have h1 := (HQB.out k hk).1; have h2 := (HPB.out g hg).2; omega))
      have HR10 := Lib.hid (ob_kept HR.out hg10 (fun k g hk hg => by have h1 := (HRB.out k hk).1; have h2 := (HPB.out g hg).2; have h3 := HZ.out; omega))
      have HB10 := Lib.hid (HB9.out.trans (below_of_grown hg10 HB9.out.size fun k hk => by have h1 := (HPB.out k hk).1; have h3 := HZ.out; have h4 := HW.out; omega))
      clear hg10 HT HQ HR HB9
      go_wp2_with fail
      refine (spoil_any r21 w2.heap.size q _ HPL2.out HQ10.out).mono ?_
      rintro e w11 ⟨rfl, hg11⟩
      have HT11 := Lib.hid (twined_kept HT10.out hg11 (B := w1.heap.size) (fun k hk => (HTL.out k hk).2) (fun g hg => by have h1 := (HQB.out g hg).1; have h3 := HZ.out; omega))
      have HR11 := Lib.hid (ob_kept HR10.out hg11 (fun k g hk hg => by have h1 := (HRB.out k hk).1; have h2 := (HQB.out g hg).2; omega))
      have HB11 := Lib.hid (HB10.out.trans (below_of_grown hg11 HB10.out.size fun k hk => by have h1 := (HQB.out k hk).1; have h3 := HZ.out; have h4 := HW.out; omega))
      clear hg11 HT10 HQ10 HR10 HB10
      go_wp2_with fail
      refine (spoil_any r31 w3.heap.size r _ HPL3.out HR11.out).mono ?_
      rintro e w12 ⟨rfl, hg12⟩
      have HT12 := Lib.hid (twined_kept HT11.out hg12 (B := w1.heap.size) (fun k hk => (HTL.out k hk).2) (fun g hg => by have h1 := (HRB.out g hg).1; have h3 := HZ.out; omega))
      have hb12 := HB11.out.trans (below_of_grown hg12 HB11.out.size fun k hk => by have h1 := (HRB.out k hk).1; have h3 := HZ.out; have h4 := HW.out; omega)
      clear hg12 HT11 HR11 HB11
      go_wp2_with fail
      refine (kept_any l _ t _ _ (by omega) HT12.out (hv.mono hb12)).mono ?_
      rintro e w13 ⟨rfl, rfl⟩
      go_wp2
      go_roundw
      case rel => exact ⟨k + 1, by omega, by go_num, hb12⟩
      case measure => simp [intOf] <;> omega
    · go_wp2
      go_ret
      exact ⟨rfl, hb⟩
end Go.Proofs.Ytbbpeggljhkjhaa
