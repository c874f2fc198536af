/-
  The statement OctetBack, walked.
-/
import Derived.Test.YtbbpeggljhkjhaaOBackP
import Derived.Test.YtbbpeggljhkjhaaOBeg
namespace Go.Proofs.Ytbbpeggljhkjhaa
open Go.RowKit Go.Fd

theorem putR_same (l : List UInt8) (n : Nat) (size : Int) : (putR l n size true).2 = (putR l n size false).2 ∧ (putR l n size true).1.length = (putR l n size false).1.length := by
  unfold putR
  split
  · split <;> simp
  · simp
theorem putR_bound (l : List UInt8) (n : Nat) (size : Int) (big : Bool) (hl : l.length ≤ 1000) : (putR l n size big).1.length ≤ 1008 := by
  unfold putR
  split
  · next h =>
    split
    · have := fixed_len_int n h
      cases big <;> simp <;> omega
    · simp
  · simp
theorem leb_le (n : Nat) : (leb 9 n).length ≤ 10 := by
  have : ∀ k n, (leb k n).length ≤ k + 1 := by
    intro k
    induction k with
    | zero => intro n; simp [leb]
    | succ k ih => intro n; rw [leb]; split <;> simp; exact ih _
  exact this 9 n
theorem sleb_le (n : Int) : (sleb 9 n).length ≤ 10 := by
  have : ∀ k n, (sleb k n).length ≤ k + 1 := by
    intro k
    induction k with
    | zero => intro n; simp [sleb]
    | succ k ih => intro n; rw [sleb]; split <;> simp; exact ih _
  exact this 9 n
theorem w64_lo (x : Int) : -9223372036854775808 ≤ wrap64 x := by rw [wrap64]; omega
theorem w64_hi (x : Int) : wrap64 x < 9223372036854775808 := by rw [wrap64]; omega

set_option maxHeartbeats 4000000 in
set_option maxRecDepth 100000 in
theorem octetBack_any (l : List UInt8) (n : Nat) (size : Int) (v : Value) (w : World) (hn : n < 18446744073709551616) (hv : Bs w v l) (hl : l.length ≤ 1000) :
    Calls Try.prog 4 #[v, .int .u64 n, .int .i64 size] w fun e w' => e = .returned (.bool true) ∧ Below w.heap.size w w' := by
  obtain ⟨m, a, cap, hm, rfl, hmc, _⟩ := hv.shape
  have hml : m ≤ 1000 := by have := hm.out; omega
  have HN := Lib.hid hn
  have HP1 := Lib.hid (fun t w h => octPut_any l n size t w (by omega) hn h)
  have HP2 := Lib.hid (fun t w h => octBig_any l n size t w (by omega) hn h)
  have HSAME := Lib.hid (putR_same l n size)
  have HB1 := Lib.hid (putR_bound l n size false hl)
  have HB2 := Lib.hid (putR_bound l n size true hl)
  have HG1 := Lib.hid (get_put l n size false)
  have HG2 := Lib.hid (get_put l n size true)
  have HL1 := Lib.hid (read_leb l [7] n hn)
  have HL2 := Lib.hid (read_sleb l [7] (wrap64 n) (w64_lo _) (w64_hi _))
  have HLB1 := Lib.hid (leb_le n)
  have HLB2 := Lib.hid (sleb_le (wrap64 n))
  generalize putR l n size false = r1 at *
  generalize putR l n size true = r2 at *
  obtain ⟨p1, e1⟩ := r1
  obtain ⟨p2, e2⟩ := r2
  obtain rfl : e2 = e1 := HSAME.out.1
  clear hn
  by_cases he : e2 = 0
  · subst he
    have HGG1 := Lib.hid (HG1.out rfl)
    have HGG2 := Lib.hid (HG2.out rfl)
    clear HG1 HG2
    go_enter Try.func4, Try.ntmps4
    go_wp2_with (go_at_call 6; go_must (refine (begun_any _).mono ?_; rintro e w1 ⟨rfl, hb1⟩))
    go_wp2_with fail
    refine (HP1.out _ _ (hv.mono hb1)).mono ?_
    rintro e w2 ⟨p, rfl, hp2, hb2⟩
    have hb02 := hb1.trans (hb2.mono hb1.size)
    go_wp2_with fail
    refine (HP2.out _ _ (hv.mono hb02)).mono ?_
    rintro e w3 ⟨q, rfl, hq3, hb3⟩
    have hb03 := hb02.trans (hb3.mono hb02.size)
    have hp3 := hp2.bs.mono hb3
    have hq3 := hq3.bs
    clear hb1 hb2 hb3 hp2 hb02
    obtain ⟨mp, ap, capp, hmp, rfl, hcp, _⟩ := id hp3.shape
    obtain ⟨mq, aq, capq, hmq, rfl, hcq, _⟩ := id hq3.shape
    obtain rfl : mq = mp := by rw [hmq.out, hmp.out]; exact HSAME.out.2
    obtain rfl : mq = p1.length := hmp.out
    have HMB : p1.length ≤ 1008 := HB1.out
    have HMB2 : p2.length ≤ 1008 := HB2.out
    have HSZ := Lib.hid (HGG1.out.2)
    go_wp2_with fail
    refine (octU_any p1 m size _ _ (by omega) hp3).mono ?_
    rintro e w4 ⟨rfl, rfl⟩
    go_wp2_with fail
    refine (octBigU_any p2 m size _ _ (by omega) hq3).mono ?_
    rintro e w4 ⟨rfl, rfl⟩
    have G1 : getR p1 m size false = (n, 0) := by rw [hm.out]; exact HGG1.out.1
    have G2 : getR p2 m size true = (n, 0) := by rw [hm.out]; exact HGG2.out.1
    rw [G1, G2]
    clear G1 G2
    have hsz : wrap64 (↑m + size) = p1.length := by have h1 := hm.out; have h2 := HSZ.out; rw [wrap64]; omega
    have hv3 := hv.mono hb03
    clear HSZ hp3 hq3 hcp hcq HGG1 HGG2
    go_wp2_with (first
      | (with_reducible show wpList _ _ _ (⟨some 96, _, _, _, _, _⟩ :: _) _ _; go_must (refine wpList_catB (OB.nil _ w3.heap.size) hv3 rfl rfl (by simp; omega) (Nat.le_refl _) ?_; intro u1 w4 hu1 _ hb4)))
    refine (octLeb_any n _ HN.out).mono ?_
    rintro e w5 ⟨u2, rfl, hu2, hb5⟩
    have hu1' := hu1.mono hb5
    have HSX := Lib.hid (Nat.le_trans hb4.size hb5.size)
    have hb35 := hb4.trans (hb5.mono hb4.size)
    have HK1 := HLB1.out
    clear hb4 hb5 hu1
    go_wp2_with (first
      | (with_reducible show wpList _ _ _ (⟨some 99, _, _, _, _, _⟩ :: _) _ _; go_must (refine wpList_catB hu1' hu2.bs rfl rfl (by simp; omega) HSX.out ?_; intro u3 w6 hu3 _ hb6))
      | (with_reducible show wpList _ _ _ (⟨some 101, _, _, _, _, _⟩ :: _) _ _; go_must (refine wpList_pushB hu3 rfl rfl (7 : UInt8) rfl (by simp; omega) (Nat.le_trans HSX.out hb6.size) ?_; intro u w7 hu _ hb7))
      | (with_reducible show wpList _ _ _ (⟨some 103, _, _, _, _, _⟩ :: _) _ _; go_must (refine wpList_catB (OB.nil _ w7.heap.size) (hv3.mono (hb35.trans (hb6.trans hb7))) rfl rfl (by simp; omega) (Nat.le_refl _) ?_; intro s1 w8 hs1 _ hb8)))
    have hv7 := hv3.mono (hb35.trans (hb6.trans hb7))
    have hb37 := hb35.trans (hb6.trans hb7)
    rw [List.nil_append] at hu hs1
    have huL : (l ++ leb 9 n ++ [7]).length ≤ 1000000000 := by simp; omega
    have hu7 := hu.bs
    obtain ⟨mu, au, capu, hmu, rfl, _, _⟩ := id hu7.shape
    clear hu hu3 hu2 hu1' hb35 hb6 hb7
    go_wp2_with fail
    refine (octSleb_any (wrap64 n) _ (w64_lo _) (w64_hi _)).mono ?_
    rintro e w9 ⟨s2, rfl, hs2, hb9⟩
    have hs19 := hs1.mono hb9
    have HSY := Lib.hid (Nat.le_trans hb8.size hb9.size)
    have hb79 := hb8.trans (hb9.mono hb8.size)
    have HK2 := HLB2.out
    clear hb8 hb9 hs1
    go_wp2_with (first
      | (with_reducible show wpList _ _ _ (⟨some 107, _, _, _, _, _⟩ :: _) _ _; go_must (refine wpList_catB hs19 hs2.bs rfl rfl (by (try simp); omega) HSY.out ?_; intro s3 w10 hs3 _ hb10))
      | (with_reducible show wpList _ _ _ (⟨some 109, _, _, _, _, _⟩ :: _) _ _; go_must (refine wpList_pushB hs3 rfl rfl (7 : UInt8) rfl (by simp; omega) (Nat.le_trans HSY.out hb10.size) ?_; intro s w11 hs _ hb11; obtain ⟨ms, sa, caps, hms, rfl, _, _⟩ := id hs.bs.shape)))
    have HMS := hms.out
    have HMU := hmu.out
    have hb7b := hb79.trans (hb10.trans hb11)
    have hb3b := hb37.trans (hb7b.mono hb37.size)
    have hu11 := hu7.mono hb7b
    have hs11 := hs.bs
    have hsL : (l ++ sleb 9 (wrap64 n) ++ [7]).length ≤ 1000000000 := by simp; omega
    clear hs hs3 hs2 hs19 hb10 hb11 hb79 hb37 hu7 hb7b
    have G3 : readLebR (l ++ leb 9 n ++ [7]) m = (n, (leb 9 n).length, 0) := by rw [hm.out]; exact HL1.out
    have G4 : readSlebR (l ++ sleb 9 (wrap64 n) ++ [7]) m = (wrap64 n, (sleb 9 (wrap64 n)).length, 0) := by rw [hm.out]; exact HL2.out
    have HMU2 := Lib.hid (show mu = m + (leb 9 n).length + 1 by rw [HMU, hm.out]; simp; omega)
    have HMS2 := Lib.hid (show ms = m + (sleb 9 (wrap64 n)).length + 1 by rw [HMS, hm.out]; simp; omega)
    clear HMU HMS hmu hms HL1 HL2
    refine (octReadLeb_any (l ++ leb 9 n ++ [7]) m _ w11 huL hu11).mono ?_
    rintro e w12 ⟨rfl, rfl⟩
    rw [G3]
    go_wp2_with fail
    refine (octReadSleb_any (l ++ sleb 9 (wrap64 n) ++ [7]) m _ w11 hsL hs11).mono ?_
    rintro e w12 ⟨rfl, rfl⟩
    rw [G4]
    clear G3 G4 hu11 hs11 huL hsL
    have t1 : wrap64 (↑mu - ↑m) = ((leb 9 n).length : Int) + 1 := by have h1 := HMU2.out; rw [wrap64]; omega
    have t2 : wrap64 (((leb 9 n).length : Int)) = (leb 9 n).length := by rw [wrap64]; omega
    have t3 : wrap64 (↑ms - ↑m) = ((sleb 9 (wrap64 n)).length : Int) + 1 := by have h1 := HMS2.out; rw [wrap64]; omega
    have t4 : wrap64 (((sleb 9 (wrap64 n)).length : Int)) = (sleb 9 (wrap64 n)).length := by rw [wrap64]; omega
    clear HMU2 HMS2 HK1 HK2 hv hv3 HN HLB1 HLB2 HB1 HB2 HMB HMB2 hsz HSAME HP1 HP2
    generalize (leb 9 n).length = k1 at t1 t2 ⊢
    generalize (sleb 9 (wrap64 n)).length = k2 at t3 t4 ⊢
    go_wp2_with fail
    go_ret
    exact ⟨rfl, hb03.trans (hb3b.mono hb03.size)⟩
  · go_enter Try.func4, Try.ntmps4
    go_wp2_with (go_at_call 6; go_must (refine (begun_any _).mono ?_; rintro e w1 ⟨rfl, hb1⟩))
    clear HG1 HG2
    go_wp2_with fail
    refine (HP1.out _ _ (hv.mono hb1)).mono ?_
    rintro e w2 ⟨p, rfl, hp2, hb2⟩
    have hb02 := hb1.trans (hb2.mono hb1.size)
    go_wp2_with fail
    refine (HP2.out _ _ (hv.mono hb02)).mono ?_
    rintro e w3 ⟨q, rfl, hq3, hb3⟩
    have hb03 := hb02.trans (hb3.mono hb02.size)
    have hp3 := hp2.bs.mono hb3
    have hq3 := hq3.bs
    clear hb1 hb2 hb3 hp2 hb02
    obtain ⟨mp, ap, capp, hmp, rfl, hcp, _⟩ := id hp3.shape
    obtain ⟨mq, aq, capq, hmq, rfl, hcq, _⟩ := id hq3.shape
    obtain rfl : mq = mp := by rw [hmq.out, hmp.out]; exact HSAME.out.2
    have hv3 := hv.mono hb03
    clear hp3 hq3 hcp hcq
    go_wp2_with (first
      | (with_reducible show wpList _ _ _ (⟨some 96, _, _, _, _, _⟩ :: _) _ _; go_must (refine wpList_catB (OB.nil _ w3.heap.size) hv3 rfl rfl (by simp; omega) (Nat.le_refl _) ?_; intro u1 w4 hu1 _ hb4)))
    refine (octLeb_any n _ HN.out).mono ?_
    rintro e w5 ⟨u2, rfl, hu2, hb5⟩
    have hu1' := hu1.mono hb5
    have HSX := Lib.hid (Nat.le_trans hb4.size hb5.size)
    have hb35 := hb4.trans (hb5.mono hb4.size)
    have HK1 := HLB1.out
    clear hb4 hb5 hu1
    go_wp2_with (first
      | (with_reducible show wpList _ _ _ (⟨some 99, _, _, _, _, _⟩ :: _) _ _; go_must (refine wpList_catB hu1' hu2.bs rfl rfl (by simp; omega) HSX.out ?_; intro u3 w6 hu3 _ hb6))
      | (with_reducible show wpList _ _ _ (⟨some 101, _, _, _, _, _⟩ :: _) _ _; go_must (refine wpList_pushB hu3 rfl rfl (7 : UInt8) rfl (by simp; omega) (Nat.le_trans HSX.out hb6.size) ?_; intro u w7 hu _ hb7))
      | (with_reducible show wpList _ _ _ (⟨some 103, _, _, _, _, _⟩ :: _) _ _; go_must (refine wpList_catB (OB.nil _ w7.heap.size) (hv3.mono (hb35.trans (hb6.trans hb7))) rfl rfl (by simp; omega) (Nat.le_refl _) ?_; intro s1 w8 hs1 _ hb8)))
    have hv7 := hv3.mono (hb35.trans (hb6.trans hb7))
    have hb37 := hb35.trans (hb6.trans hb7)
    rw [List.nil_append] at hu hs1
    have huL : (l ++ leb 9 n ++ [7]).length ≤ 1000000000 := by simp; omega
    have hu7 := hu.bs
    obtain ⟨mu, au, capu, hmu, rfl, _, _⟩ := id hu7.shape
    clear hu hu3 hu2 hu1' hb35 hb6 hb7
    go_wp2_with fail
    refine (octSleb_any (wrap64 n) _ (w64_lo _) (w64_hi _)).mono ?_
    rintro e w9 ⟨s2, rfl, hs2, hb9⟩
    have hs19 := hs1.mono hb9
    have HSY := Lib.hid (Nat.le_trans hb8.size hb9.size)
    have hb79 := hb8.trans (hb9.mono hb8.size)
    have HK2 := HLB2.out
    clear hb8 hb9 hs1
    go_wp2_with (first
      | (with_reducible show wpList _ _ _ (⟨some 107, _, _, _, _, _⟩ :: _) _ _; go_must (refine wpList_catB hs19 hs2.bs rfl rfl (by (try simp); omega) HSY.out ?_; intro s3 w10 hs3 _ hb10))
      | (with_reducible show wpList _ _ _ (⟨some 109, _, _, _, _, _⟩ :: _) _ _; go_must (refine wpList_pushB hs3 rfl rfl (7 : UInt8) rfl (by simp; omega) (Nat.le_trans HSY.out hb10.size) ?_; intro s w11 hs _ hb11; obtain ⟨ms, sa, caps, hms, rfl, _, _⟩ := id hs.bs.shape)))
    have HMS := hms.out
    have HMU := hmu.out
    have hb7b := hb79.trans (hb10.trans hb11)
    have hb3b := hb37.trans (hb7b.mono hb37.size)
    have hu11 := hu7.mono hb7b
    have hs11 := hs.bs
    have hsL : (l ++ sleb 9 (wrap64 n) ++ [7]).length ≤ 1000000000 := by simp; omega
    clear hs hs3 hs2 hs19 hb10 hb11 hb79 hb37 hu7 hb7b
    have G3 : readLebR (l ++ leb 9 n ++ [7]) m = (n, (leb 9 n).length, 0) := by rw [hm.out]; exact HL1.out
    have G4 : readSlebR (l ++ sleb 9 (wrap64 n) ++ [7]) m = (wrap64 n, (sleb 9 (wrap64 n)).length, 0) := by rw [hm.out]; exact HL2.out
    have HMU2 := Lib.hid (show mu = m + (leb 9 n).length + 1 by rw [HMU, hm.out]; simp; omega)
    have HMS2 := Lib.hid (show ms = m + (sleb 9 (wrap64 n)).length + 1 by rw [HMS, hm.out]; simp; omega)
    clear HMU HMS hmu hms HL1 HL2
    refine (octReadLeb_any (l ++ leb 9 n ++ [7]) m _ w11 huL hu11).mono ?_
    rintro e w12 ⟨rfl, rfl⟩
    rw [G3]
    go_wp2_with fail
    refine (octReadSleb_any (l ++ sleb 9 (wrap64 n) ++ [7]) m _ w11 hsL hs11).mono ?_
    rintro e w12 ⟨rfl, rfl⟩
    rw [G4]
    clear G3 G4 hu11 hs11 huL hsL
    have t1 : wrap64 (↑mu - ↑m) = ((leb 9 n).length : Int) + 1 := by have h1 := HMU2.out; rw [wrap64]; omega
    have t2 : wrap64 (((leb 9 n).length : Int)) = (leb 9 n).length := by rw [wrap64]; omega
    have t3 : wrap64 (↑ms - ↑m) = ((sleb 9 (wrap64 n)).length : Int) + 1 := by have h1 := HMS2.out; rw [wrap64]; omega
    have t4 : wrap64 (((sleb 9 (wrap64 n)).length : Int)) = (sleb 9 (wrap64 n)).length := by rw [wrap64]; omega
    clear HMU2 HMS2 HK1 HK2 hv hv3 HN HLB1 HLB2 HB1 HB2 HSAME HP1 HP2
    generalize (leb 9 n).length = k1 at t1 t2 ⊢
    generalize (sleb 9 (wrap64 n)).length = k2 at t3 t4 ⊢
    go_wp2_with fail
    go_ret
    exact ⟨rfl, hb03.trans (hb3b.mono hb03.size)⟩
end Go.Proofs.Ytbbpeggljhkjhaa
