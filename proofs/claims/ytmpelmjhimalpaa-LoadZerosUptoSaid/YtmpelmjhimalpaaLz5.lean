/-
  LoadZeros holds: a segment's bytes stand at its address, and zeros behind them. Within the bound.
-/
import Derived.Test.YtmpelmjhimalpaaLz4
import Derived.Deep.DeepCutAuto
import Derived.Test.YtmpelmjhimalpaaRows
import Derived.ProofKit
import Derived.SizedLaws
import Derived.OpenShut
import Derived.Lib.SmallJoins
import Derived.Deep.Fields
import Derived.SliceStrings
import Derived.Deep.Slices
import Derived.JoinedCond
import Derived.Shelf.Vars
namespace Go.Proofs.Ytmpelmjhimalpaa
open Go.RowKit Go.Fd
set_option maxRecDepth 100000 in
theorem run_allocSegP {d : Option Tmp} {ty : TypeId} {pos : String} {aft : Array Edge} {g : Option (Nat × Bool)} {a : Act} {w : World} :
    (execOp a.eval ⟨d, .alloc 30, ty, pos, aft, g⟩).run Try.prog w = .ok (.value (.pointer (some ⟨w.heap.size, 0, none⟩))) (w.alloc (.cells segZ 30)) := by kernel_rfl
theorem rem_i64 {P : Program} {w : World} {t : TypeId} {x y : Operand} {a b c : Nat} (hb : 0 < b) (hc : (a : Int).tmod b = (c : Int)) :
    (do eqGuard .rem t x y (.int .i64 a) (.int .i64 b); binOp .rem t (.int .i64 a) (.int .i64 b) : Sem Value).run P w = .ok (.int .i64 c) w := by
  have hb0 : ¬ b = 0 := by omega
  simp [eqGuard, binOp, Op.intDiv, hb0, hc]
theorem and2_u32 {f : Nat} (hf : f < 4294967296) : bits .and .u32 (f : Int) 2 = ((f &&& 2 : Nat) : Int) := by
  have hx : f &&& 2 < 4294967296 := Nat.lt_of_le_of_lt Nat.and_le_right (by decide)
  have h1 : (BitVec.ofInt 32 (f : Int)).toNat = f := by
    rw [BitVec.ofInt_natCast, BitVec.toNat_ofNat]; exact Nat.mod_eq_of_lt (by omega)
  have h2 : (BitVec.ofInt 32 ((2 : Nat) : Int)).toNat = 2 := rfl
  show IntKind.u32.wrap ((BitVec.ofInt 32 (f : Int) &&& BitVec.ofInt 32 ((2 : Nat) : Int)).toNat : Int) = _
  rw [BitVec.toNat_and, h1, h2]
  simp [IntKind.wrap, IntKind.bits, IntKind.signed]
  omega
theorem and7_u32 {f : Nat} (hf : f < 4294967296) : bits .and .u32 (f : Int) 7 = ((f &&& 7 : Nat) : Int) := by
  have hx : f &&& 7 < 4294967296 := Nat.lt_of_le_of_lt Nat.and_le_right (by decide)
  have h1 : (BitVec.ofInt 32 (f : Int)).toNat = f := by
    rw [BitVec.ofInt_natCast, BitVec.toNat_ofNat]; exact Nat.mod_eq_of_lt (by omega)
  have h2 : (BitVec.ofInt 32 ((7 : Nat) : Int)).toNat = 7 := rfl
  show IntKind.u32.wrap ((BitVec.ofInt 32 (f : Int) &&& BitVec.ofInt 32 ((7 : Nat) : Int)).toNat : Int) = _
  rw [BitVec.toNat_and, h1, h2]
  simp [IntKind.wrap, IntKind.bits, IntKind.signed]
  omega
theorem and4_u32 {f : Nat} (hf : f < 4294967296) : bits .and .u32 (f : Int) 4 = ((f &&& 4 : Nat) : Int) := by
  have hx : f &&& 4 < 4294967296 := Nat.lt_of_le_of_lt Nat.and_le_right (by decide)
  have h1 : (BitVec.ofInt 32 (f : Int)).toNat = f := by
    rw [BitVec.ofInt_natCast, BitVec.toNat_ofNat]; exact Nat.mod_eq_of_lt (by omega)
  have h2 : (BitVec.ofInt 32 ((4 : Nat) : Int)).toNat = 4 := rfl
  show IntKind.u32.wrap ((BitVec.ofInt 32 (f : Int) &&& BitVec.ofInt 32 ((4 : Nat) : Int)).toNat : Int) = _
  rw [BitVec.toNat_and, h1, h2]
  simp [IntKind.wrap, IntKind.bits, IntKind.signed]
  omega
theorem prog_ok {l : List UInt8} {e : ElfM} (h : readE l = (e, 0)) (h2 : (progR l).2 = 0) : allR e.target l e.segs = ((progR l).1, 0) := by
  by_cases ht : (readE l).1.typ = 2
  · have h3 := prog_a (by rw [h]) ht
    rw [h] at h3
    rw [← h3]
    exact Prod.ext rfl h2
  · rw [prog_t (by rw [h]) ht] at h2
    exact absurd h2 (by decide)
set_option maxHeartbeats 8000000 in
set_option maxRecDepth 100000 in
theorem loadZeros_any (e : ElfM) (L : List (SecM × Value)) (sv gv : Value) (k : Int) (w : World) (h : ElfAt w e L sv gv) (ho : ElfOk e) (hk9 : k < 9223372036854775808) :
    Calls Try.prog 4 #[elfV e sv gv, .int .i64 k] w fun r w' => r = .returned (.bool true) ∧ Below w.heap.size w w' := by
  have HA := Lib.hid h
  have HO := Lib.hid ho
  obtain ⟨sm, sa, sc, -, rfl, _, _⟩ := h.rd.shape
  obtain ⟨gm, ga, gc, hgm, rfl, _, _⟩ := h.segs.shape
  have HGM := Lib.hid hgm.out
  have HLE := Lib.hid (fun w' (hb : Below w.heap.size w w') => light_any e L (.slice sa sm sc) (.slice ga gm gc) w' (h.mono hb) ho)
  have HWE := Lib.hid (fun w' (hb : Below w.heap.size w w') => writeE_any e L (.slice sa sm sc) (.slice ga gm gc) w' (h.mono hb) ho)
  have hl30 : lightB e = true → gm ≤ 30 := fun hb => by
    unfold lightB at hb
    simp only [Bool.and_eq_true, decide_eq_true_eq] at hb
    have := HGM.out
    omega
  have HL30 := Lib.hid hl30
  clear h ho hgm hl30
  generalize lightB e = le at *
  go_enter Try.func4, Try.ntmps4
  go_wp2_with ((with_reducible show wpList _ _ _ (⟨_, .box _ _, _, _, _, _⟩ :: _) _ _); go_must (refine wpList_box rfl ?_; intro w1 hx1 hb1 hs1; have HX1 := Lib.hid hx1; have HB1 := Lib.hid hb1; clear hx1 hb1))
  refine (begun26_any _).mono ?_
  rintro r w2 ⟨rfl, hb2⟩
  have HX2 := Lib.hid (heap_below hb2 HX1.out)
  have HB2 := Lib.hid (HB1.out.trans (hb2.mono HB1.out.size))
  clear hb2
  obtain ⟨c0, c1, c2, c3, c4, c5⟩ := elf_box HX2.out
  go_wp2_with fail
  refine (HLE.out _ HB2.out).mono ?_
  rintro r w3 ⟨rfl, hb3⟩
  have HX3 := Lib.hid (heap_below hb3 HX2.out)
  have HB3 := Lib.hid (HB2.out.trans (hb3.mono HB2.out.size))
  clear hb3 c0 c1 c2 c3 c4 c5
  obtain ⟨c0, c1, c2, c3, c4, c5⟩ := elf_box HX3.out
  cases le with
  | false =>
    go_wp2
    go_ret
    exact ⟨rfl, HB3.out⟩
  | true =>
    have hg30 : gm ≤ 30 := HL30.out rfl
    clear HL30
    by_cases hg0 : gm = 0
    · have hgz : ((gm : Int) == 0) = true := by simpa using hg0
      clear hg0
      go_wp2
      go_ret
      exact ⟨rfl, HB3.out⟩
    have hgz : ((gm : Int) == 0) = false := by simpa using hg0
    by_cases hk0 : k < 0
    · go_wp2
      go_ret
      exact ⟨rfl, HB3.out⟩
    obtain ⟨kn, rfl⟩ : ∃ kn : Nat, k = (kn : Int) := ⟨k.toNat, by omega⟩
    have hgp : 0 < gm := Nat.pos_of_ne_zero hg0
    have hkn9 : kn < 9223372036854775808 := by omega
    clear hk9
    clear hg0
    go_wp2_with fail
    refine (HWE.out _ HB3.out).mono ?_
    rintro r w4 ⟨v4, rfl, hv4, hb4⟩
    have HX4 := Lib.hid (heap_below hb4 HX3.out)
    have HB4 := Lib.hid (HB3.out.trans (hb4.mono HB3.out.size))
    have HVL := Lib.hid (fun k hk => ob_lt hv4 (k := k) hk)
    clear hb4 c0 c1 c2 c3 c4 c5
    cases hm : mayE e with
    | false =>
      rw [fileW_no hm] at hv4 ⊢
      have HV4 := Lib.hid hv4.bs
      clear hv4 hm
      go_wp2_with fail
      refine (program_any [] _ _ (by decide) HV4.out HVL.out).mono ?_
      rintro r w5 ⟨hpr, hb5⟩
      rcases hpr with ⟨-, rfl⟩ | ⟨h0, -⟩
      rotate_left
      · rw [prog_nil] at h0
        exact absurd h0 (by decide)
      have HB5 := Lib.hid (HB4.out.trans (hb5.mono HB4.out.size))
      clear hb5
      generalize (progR []).2 = c at *
      go_wp2_with ((with_reducible show wpList _ _ _ (⟨none, .store _ _ _, _, _, _, _⟩ :: _) _ _); go_must (refine wpList_storeNew rfl rfl (by kernel_rfl) rfl (by simp [Value.oneCell']) ?_; intro w6 hh6 hb6; have HB6 := Lib.hid (HB5.out.trans (hb6.mono HB5.out.size)); clear hh6 hb6))
      go_ret
      exact ⟨rfl, HB6.out⟩
    | true =>
      rw [fileW_ok hm] at hv4 ⊢
      have HRB := Lib.hid (read_back hm HO.out.fits)
      have HLB := Lib.hid (show (fileB e).length ≤ 1000000000 by have h1 := fileB_len (mayK hm); have h2 := (mayK hm).len; omega)
      have HV4 := Lib.hid hv4.bs
      clear hv4 hm
      generalize fileB e = B at *
      obtain ⟨m4, a4, q4, hm4, rfl, _, _⟩ := HV4.out.shape
      have HM4 := Lib.hid hm4.out
      clear hm4
      go_wp2_with fail
      refine (program_any B _ _ HLB.out HV4.out HVL.out).mono ?_
      rintro r w5 ⟨hpr, hb5⟩
      have HX5 := Lib.hid (heap_below hb5 HX4.out)
      have HB5 := Lib.hid (HB4.out.trans (hb5.mono HB4.out.size))
      have HV5 := Lib.hid (HV4.out.mono hb5)
      clear hb5
      rcases hpr with ⟨hc, rfl⟩ | ⟨hc, base, bp, rfl, hbase, hbw, hmm⟩
      · have ec : ((progR B).2 != 0) = true := by simpa using hc
        clear hc
        generalize (progR B).2 = c at *
        go_wp2_with ((with_reducible show wpList _ _ _ (⟨none, .store _ _ _, _, _, _, _⟩ :: _) _ _); go_must (refine wpList_storeNew rfl rfl (by kernel_rfl) rfl (by simp [Value.oneCell']) ?_; intro w6 hh6 hb6; have HB6 := Lib.hid (HB5.out.trans (hb6.mono HB5.out.size)); clear hh6 hb6))
        go_ret
        exact ⟨rfl, HB6.out⟩
      have HAR := Lib.hid (prog_ok HRB.out hc)
      generalize (progR B).1 = W at *
      have HMM := Lib.hid hmm.near
      clear hmm hc
      generalize ptR (readE B).1.target (thR B.length (readE B).1.segs 0 seg1).1 = pt at *
      go_upto_region 9 with ((with_reducible show wpList _ _ _ (⟨none, .store _ _ _, _, _, _, _⟩ :: _) _ _); go_must (refine wpList_storeNew rfl rfl (by kernel_rfl) rfl (by simp [Value.oneCell']) ?_; intro w6 hh6 hb6; have HX6 := Lib.hid (heap_below hb6 HX5.out); have HB6 := Lib.hid (HB5.out.trans (hb6.mono HB5.out.size)); have HM6 := Lib.hid (HMM.out.mono hb6); have HB56 := Lib.hid hb6; have HV6 := Lib.hid (HV5.out.mono hb6); clear hh6 hb6))
      have HW56 := Lib.hid (show w5.heap.size ≤ w6.heap.size from HB56.out.size)
      obtain ⟨c0, c1, c2, c3, c4, c5⟩ := elf_box HX6.out
      obtain ⟨kk, hkk⟩ : ∃ kk : Nat, kk = kn % gm := ⟨_, rfl⟩
      have hkl : kk < gm := by rw [hkk]; exact Nat.mod_lt _ hgp
      have HTM := Lib.hid (show (kn : Int).tmod gm = (kk : Int) by rw [Int.tmod_eq_emod_of_nonneg (by omega), hkk]; simp)
      have HTE := Lib.hid (show (kn : Int) % (gm : Int) = (kk : Int) by rw [hkk]; simp)
      clear hkk
      have X1 := Lib.hid (show e.segs[kk]? = some (e.segs[kk]'(by have := HGM.out; omega)) from List.getElem?_eq_getElem _)
      generalize e.segs[kk]'(by have := HGM.out; omega) = s at *
      obtain ⟨a', c', he', -, -, hc⟩ := HA.out.segs.open (fun _ => rfl)
      simp only [Value.slice.injEq] at he'
      obtain ⟨rfl, -, rfl⟩ := he'
      have HCL := Lib.hid hc
      obtain ⟨b1, o1, ha, c10, c11, c12, c13, c14, c15, c16, -⟩ := seg_cells hc HB6.out X1.out
      subst ha
      clear hc
      have hAB := fun (x : Above w6) (b k : Nat) (h : b < w6.heap.size) => Above.cell x b k h
      have l1 := block_lt c5
      have l2 := block_lt c10
      refine wp_region_walk 10 [(6, .is (.int .i64 (kk : Int))), (9, Yld.new w6.heap.size 30 7)] (by kernel_rfl) (by kernel_rfl) ?_
      simp only [List.take_succ_cons, List.take_zero, List.drop_succ_cons, List.drop_zero]
      try go_frame
      repeat (first
        | (refine walk_quiet rfl rfl rfl ?_; intro K hK; go_big_quiet_op; go_big_quiet_on)
        | (refine walk_skip rfl ?_; go_frame))
      refine walk_is rfl rfl (fun wz hwz _ => WpYld.val (run_bin rfl rfl (rem_i64 hgp HTM.out)) ⟨(), rfl, trivial⟩ (Below.refl _ _)) ?_
      go_frame
      repeat (first
        | (refine walk_quiet rfl rfl rfl ?_; intro K hK; go_big_quiet_op; go_big_quiet_on)
        | (refine walk_skip rfl ?_; go_frame))
      refine walk_new rfl rfl (fun wx hwx _ => WpYld.val run_allocSegP (Yld.new_mk _ hwx).1 (Yld.new_mk _ hwx).2) (fun gb => ?_)
      go_frame
      refine walk_nil ?_
      intro wz hbz hF
      obtain ⟨hgb, cs, hcs, hcn⟩ := Yld.new_got (hF 9 _ 10 _ rfl rfl rfl rfl)
      have HX68 := Lib.hid (heap_below hbz HX6.out)
      clear hF hAB l1 l2 c0 c1 c2 c3 c4 c5 c10 c11 c12 c13 c14 c15 c16
      refine wpList_storeMade hcs rfl rfl (by kernel_rfl) (by rw [hcn]; rfl) (by simp [Value.oneCell']) hgb hbz.size ?_
      clear hcs hcn
      intro w8 hh8 hb8
      have HH8 := Lib.hid (show w8.heap[gb]? = some (.cells (encSeg s).toArray 30 (0, 0)) from hh8)
      have HB68 := Lib.hid (hbz.trans hb8)
      have HX8 := Lib.hid (heap_below HB68.out HX6.out)
      have HB8 := Lib.hid (HB6.out.trans (HB68.out.mono HB6.out.size))
      have HM8 := Lib.hid (HM6.out.mono HB68.out)
      have HV8 := Lib.hid (HV6.out.mono HB68.out)
      have HGB := Lib.hid hgb
      clear hh8 hb8 hbz HX68 hgb
      have HAL := Lib.hid (all_top HAR.out)
      obtain ⟨d0, d1, d2, d3, d4, d5, d6⟩ := seg_box (x := s) HH8.out
      by_cases ht : s.typ = 1
      rotate_left
      · have et : ((s.typ : Int) != 1) = true := by simp; omega
        clear ht
        go_wp2
        go_ret
        exact ⟨rfl, HB8.out⟩
      have et : ((s.typ : Int) != 1) = false := by simp; omega
      have HTY := Lib.hid ht
      clear ht
      by_cases h0 : s.memsz = 0
      · have e0 : ((s.memsz : Int) == 0) = true := by simpa using h0
        clear h0
        go_wp2
        go_ret
        exact ⟨rfl, HB8.out⟩
      have e0 : ((s.memsz : Int) == 0) = false := by simpa using h0
      have hmp : 0 < s.memsz := Nat.pos_of_ne_zero h0
      clear h0
      by_cases h8 : 8192 < s.memsz
      · go_wp2
        go_ret
        exact ⟨rfl, HB8.out⟩
      by_cases hv : 274877906944 < s.vaddr
      · go_wp2
        go_ret
        exact ⟨rfl, HB8.out⟩
      go_wp2_with fail
      clear d0 d1 d2 d3 d4 d5 d6
      go_loopw [11, 12] (fun iv _ wr => ∃ i : Nat, iv = .int .i64 i ∧ i ≤ gm ∧ Hid (∀ j o, j < i → e.segs[j]? = some o → j ≠ kk → o.typ = 1 → 0 < o.memsz → Apart s o) ∧ Hid (Below w8.heap.size w8 wr)) (fun iv _ _ => gm - (intOf iv).toNat)
      case atStart => exact ⟨0, rfl, Nat.zero_le _, fun j o h => absurd h (Nat.not_lt_zero _), Below.refl _ _⟩
      case round =>
        obtain ⟨i, rfl, hi, HAP, HBR⟩ := hrel
        have HXR := Lib.hid (heap_below HBR.out HX8.out)
        have HHR := Lib.hid (heap_below HBR.out HH8.out)
        obtain ⟨c0, c1, c2, c3, c4, c5⟩ := elf_box HXR.out
        by_cases hlt : i < gm
        · have Y1 := Lib.hid (show e.segs[i]? = some (e.segs[i]'(by have := HGM.out; omega)) from List.getElem?_eq_getElem _)
          generalize e.segs[i]'(by have := HGM.out; omega) = o at *
          obtain ⟨b2, o2, ha2, c10, c11, c12, c13, c14, c15, c16, -⟩ := seg_cells HCL.out (HB8.out.trans (HBR.out.mono HB8.out.size)) Y1.out
          simp only [Option.some.injEq, Addr.mk.injEq, and_true] at ha2
          obtain ⟨rfl, rfl⟩ := ha2
          have htop : o.typ = 1 → o.vaddr + o.memsz ≤ 274877906944 := HAL.out o (List.mem_of_getElem? Y1.out)
          have HTOP := Lib.hid htop
          clear htop
          obtain ⟨d0, d1, d2, d3, d4, d5, d6⟩ := seg_box (x := s) HHR.out
          have HST : Hid (∀ P : Prop, P → (¬ P ∨ True)) := fun _ _ => .inr trivial
          by_cases hik : i = kk
          · have hne : ((i : Int) != (kn : Int) % (gm : Int)) = false := by rw [HTE.out, hik]; simp
            have HIK := Lib.hid hik
            clear hik
            go_wp2_with ((with_reducible show wpList _ _ _ (⟨none, .store _ _ _, _, _, _, _⟩ :: _) _ _); go_must (refine wpList_storeNew rfl rfl (by kernel_rfl) rfl (by simp [Value.oneCell']) ?_; intro wn hhn hbn; obtain ⟨e0', e1', e2', e3', e4', e5', e6'⟩ := seg_box (x := o) hhn; have HBN := Lib.hid (HBR.out.trans (hbn.mono HBR.out.size)); clear c0 c1 c2 c3 c4 c5 d0 d1 d2 d3 d4 d5 d6; obtain ⟨c0, c1, c2, c3, c4, c5⟩ := elf_box (heap_below hbn HXR.out); obtain ⟨d0, d1, d2, d3, d4, d5, d6⟩ := seg_box (x := s) (heap_below hbn HHR.out); clear hhn hbn c10 c11 c12 c13 c14 c15 c16))
            go_roundw
            case rel => exact ⟨i + 1, by go_num, by omega, fun j o' hj hx hn h1 h2 => if hji : j < i then HAP.out j o' hji hx hn h1 h2 else (by
                obtain rfl : j = i := by omega
                obtain rfl : o = o' := Option.some.inj (Y1.out.symm.trans hx)
                exact absurd HIK.out hn), HBN.out⟩
            case measure => simp [intOf] <;> omega
          have hne : ((i : Int) != (kn : Int) % (gm : Int)) = true := by rw [HTE.out]; simp; omega
          clear hik
          by_cases hot : o.typ = 1
          rotate_left
          · have eo : ((o.typ : Int) == 1) = false := by simp; omega
            have HOT := Lib.hid hot
            clear hot
            go_wp2_with ((with_reducible show wpList _ _ _ (⟨none, .store _ _ _, _, _, _, _⟩ :: _) _ _); go_must (refine wpList_storeNew rfl rfl (by kernel_rfl) rfl (by simp [Value.oneCell']) ?_; intro wn hhn hbn; obtain ⟨e0', e1', e2', e3', e4', e5', e6'⟩ := seg_box (x := o) hhn; have HBN := Lib.hid (HBR.out.trans (hbn.mono HBR.out.size)); clear c0 c1 c2 c3 c4 c5 d0 d1 d2 d3 d4 d5 d6; obtain ⟨c0, c1, c2, c3, c4, c5⟩ := elf_box (heap_below hbn HXR.out); obtain ⟨d0, d1, d2, d3, d4, d5, d6⟩ := seg_box (x := s) (heap_below hbn HHR.out); clear hhn hbn c10 c11 c12 c13 c14 c15 c16))
            go_roundw
            case rel => exact ⟨i + 1, by go_num, by omega, fun j o' hj hx hn h1 h2 => if hji : j < i then HAP.out j o' hji hx hn h1 h2 else (by
                obtain rfl : j = i := by omega
                obtain rfl : o = o' := Option.some.inj (Y1.out.symm.trans hx)
                exact absurd h1 HOT.out), HBN.out⟩
            case measure => simp [intOf] <;> omega
          have eo : ((o.typ : Int) == 1) = true := by simp; omega
          have HTP := Lib.hid (HTOP.out hot)
          clear hot
          by_cases hom : 0 < o.memsz
          rotate_left
          · clear HTP
            go_wp2_with ((with_reducible show wpList _ _ _ (⟨none, .store _ _ _, _, _, _, _⟩ :: _) _ _); go_must (refine wpList_storeNew rfl rfl (by kernel_rfl) rfl (by simp [Value.oneCell']) ?_; intro wn hhn hbn; obtain ⟨e0', e1', e2', e3', e4', e5', e6'⟩ := seg_box (x := o) hhn; have HBN := Lib.hid (HBR.out.trans (hbn.mono HBR.out.size)); clear c0 c1 c2 c3 c4 c5 d0 d1 d2 d3 d4 d5 d6; obtain ⟨c0, c1, c2, c3, c4, c5⟩ := elf_box (heap_below hbn HXR.out); obtain ⟨d0, d1, d2, d3, d4, d5, d6⟩ := seg_box (x := s) (heap_below hbn HHR.out); clear hhn hbn c10 c11 c12 c13 c14 c15 c16))
            go_roundw
            case rel => exact ⟨i + 1, by go_num, by omega, fun j o' hj hx hn h1 h2 => if hji : j < i then HAP.out j o' hji hx hn h1 h2 else (by
                obtain rfl : j = i := by omega
                obtain rfl : o = o' := Option.some.inj (Y1.out.symm.trans hx)
                exact absurd h2 hom), HBN.out⟩
            case measure => simp [intOf] <;> omega
          have hq1 : o.vaddr + o.memsz ≤ 274877906944 := HTP.out
          have w1' : IntKind.u64.wrap ((s.vaddr : Int) + s.memsz) = (s.vaddr : Int) + s.memsz := by rw [IntKind.wrap_u64]; omega
          by_cases hp1 : o.vaddr / 4096 ≤ (s.vaddr + s.memsz - 1) / 4096
          rotate_left
          · have hd1 : decide ((o.vaddr : Int) / 4096 ≤ ((s.vaddr : Int) + s.memsz - 1) / 4096) = false := by simp; omega
            have HP1 := Lib.hid hp1
            clear hp1
            go_wp2_with ((with_reducible show wpList _ _ _ (⟨none, .store _ _ _, _, _, _, _⟩ :: _) _ _); go_must (refine wpList_storeNew rfl rfl (by kernel_rfl) rfl (by simp [Value.oneCell']) ?_; intro wn hhn hbn; obtain ⟨e0', e1', e2', e3', e4', e5', e6'⟩ := seg_box (x := o) hhn; have HBN := Lib.hid (HBR.out.trans (hbn.mono HBR.out.size)); clear c0 c1 c2 c3 c4 c5 d0 d1 d2 d3 d4 d5 d6; obtain ⟨c0, c1, c2, c3, c4, c5⟩ := elf_box (heap_below hbn HXR.out); obtain ⟨d0, d1, d2, d3, d4, d5, d6⟩ := seg_box (x := s) (heap_below hbn HHR.out); clear hhn hbn c10 c11 c12 c13 c14 c15 c16))
            go_roundw
            case rel => exact ⟨i + 1, by go_num, by omega, fun j o' hj hx hn h1 h2 => if hji : j < i then HAP.out j o' hji hx hn h1 h2 else (by
                obtain rfl : j = i := by omega
                obtain rfl : o = o' := Option.some.inj (Y1.out.symm.trans hx)
                exact apart_of (fun hh => HP1.out hh.1)), HBN.out⟩
            case measure => simp [intOf] <;> omega
          have hd1 : decide ((o.vaddr : Int) / 4096 ≤ ((s.vaddr : Int) + s.memsz - 1) / 4096) = true := by simp; omega
          clear hp1
          by_cases hp2 : s.vaddr / 4096 ≤ (o.vaddr + o.memsz - 1) / 4096
          rotate_left
          · have hd2 : decide ((s.vaddr : Int) / 4096 ≤ ((o.vaddr : Int) + o.memsz - 1) / 4096) = false := by simp; omega
            have HP2 := Lib.hid hp2
            clear hp2
            go_wp2_with ((with_reducible show wpList _ _ _ (⟨none, .store _ _ _, _, _, _, _⟩ :: _) _ _); go_must (refine wpList_storeNew rfl rfl (by kernel_rfl) rfl (by simp [Value.oneCell']) ?_; intro wn hhn hbn; obtain ⟨e0', e1', e2', e3', e4', e5', e6'⟩ := seg_box (x := o) hhn; have HBN := Lib.hid (HBR.out.trans (hbn.mono HBR.out.size)); clear c0 c1 c2 c3 c4 c5 d0 d1 d2 d3 d4 d5 d6; obtain ⟨c0, c1, c2, c3, c4, c5⟩ := elf_box (heap_below hbn HXR.out); obtain ⟨d0, d1, d2, d3, d4, d5, d6⟩ := seg_box (x := s) (heap_below hbn HHR.out); clear hhn hbn c10 c11 c12 c13 c14 c15 c16))
            go_roundw
            case rel => exact ⟨i + 1, by go_num, by omega, fun j o' hj hx hn h1 h2 => if hji : j < i then HAP.out j o' hji hx hn h1 h2 else (by
                obtain rfl : j = i := by omega
                obtain rfl : o = o' := Option.some.inj (Y1.out.symm.trans hx)
                exact apart_of (fun hh => HP2.out hh.2)), HBN.out⟩
            case measure => simp [intOf] <;> omega
          have hd2 : decide ((s.vaddr : Int) / 4096 ≤ ((o.vaddr : Int) + o.memsz - 1) / 4096) = true := by simp; omega
          clear hp2
          go_wp2_with ((with_reducible show wpList _ _ _ (⟨none, .store _ _ _, _, _, _, _⟩ :: _) _ _); go_must (refine wpList_storeNew rfl rfl (by kernel_rfl) rfl (by simp [Value.oneCell']) ?_; intro wn hhn hbn; obtain ⟨e0', e1', e2', e3', e4', e5', e6'⟩ := seg_box (x := o) hhn; have HBN := Lib.hid (HBR.out.trans (hbn.mono HBR.out.size)); clear c0 c1 c2 c3 c4 c5 d0 d1 d2 d3 d4 d5 d6; obtain ⟨c0, c1, c2, c3, c4, c5⟩ := elf_box (heap_below hbn HXR.out); obtain ⟨d0, d1, d2, d3, d4, d5, d6⟩ := seg_box (x := s) (heap_below hbn HHR.out); clear hhn hbn c10 c11 c12 c13 c14 c15 c16))
          go_ret
          exact ⟨rfl, HB8.out.trans (HBN.out.mono HB8.out.size)⟩
        · obtain rfl : i = gm := by omega
          have HLD := Lib.hid (laid_at HAR.out X1.out HTY.out hmp (fun j o hj hn h1 h2 => HAP.out j o (by have := (List.getElem?_eq_some_iff.1 hj).1; have := HGM.out; omega) hj hn h1 h2))
          have hfl : s.flags < 4294967296 := (HO.out.fits.segs s (List.mem_of_getElem? X1.out)).2.1
          have HFZ := Lib.hid (show s.off < 18446744073709551616 ∧ s.filesz < 18446744073709551616 from ⟨(HO.out.fits.segs s (List.mem_of_getElem? X1.out)).2.2.1, (HO.out.fits.segs s (List.mem_of_getElem? X1.out)).2.2.2.2.1⟩)
          have HMR := Lib.hid (HM8.out.mono HBR.out)
          have HBW := Lib.hid (HB8.out.trans (HBR.out.mono HB8.out.size))
          have HVR := Lib.hid (HV8.out.mono HBR.out)
          clear HAP HAL HCL HTM HTE HX8 HH8 HX6 HX5 HX4 HX3 HX2 HX1 HA HO HLE HWE HRB HAR HTY X1 HMM HM6 HM8 HV4 HV5 HV6 HV8 hgz hgp hkl
          clear HBR
          have hR : rightsV W (s.vaddr / 4096) = s.flags &&& 7 := by have := HLD.out.right 0 hmp; simpa using this
          have HRI := Lib.hid (fun (wx : World) (h : Mem wx base bp (fun k => w4.heap.size ≤ k ∧ base ≤ k ∧ k < w5.heap.size) W) => rights_mem wx h s.vaddr (by omega))
          rw [hR] at HRI
          clear hR
          have HAT := Lib.hid (fun (wx : World) (hb : Stirs (fun k => w4.heap.size ≤ k ∧ base ≤ k ∧ k < w5.heap.size) wr wx) => at26_any B (.slice a4 m4 q4) s.off s.filesz wx (Reads.stirs HVR.out hb (fun k hk h => absurd (HVL.out k hk) (Nat.not_lt.2 h.1))) (fun hz => by have := HLD.out.len; omega) HLB.out)
          have HLS := Lib.hid (laid_store HLD.out hmp)
          have HST := Lib.hid (fun (wx : World) (h : Mem wx base bp (fun k => w4.heap.size ≤ k ∧ base ≤ k ∧ k < w5.heap.size) W) => store_mem wx h s.vaddr (by omega) 1 (firstB B s).toNat)
          rw [show (if s.filesz = 0 then 0 else B[s.off]?.getD 0 : UInt8) = firstB B s from rfl] at HAT
          have hfx : (firstB B s).toNat < 256 := UInt8.toNat_lt _
          generalize (firstB B s).toNat = fx at *
          generalize storeR W s.vaddr 1 fx = st at *
          obtain ⟨W', code⟩ := st
          have hcd : code = if s.flags &&& 2 = 0 then 21 else 0 := HLS.out.1
          have HLD2 := Lib.hid HLS.out.2
          have HAN := Lib.hid (and7_run hfl)
          have HRI2 := Lib.hid (fun (wx : World) (h : Mem wx base bp (fun k => w4.heap.size ≤ k ∧ base ≤ k ∧ k < w5.heap.size) W') => rights_mem wx h s.vaddr (by omega))
          rw [show rightsV W' (s.vaddr / 4096) = s.flags &&& 7 from by have := HLD2.out.right 0 hmp; simpa using this] at HRI2
          have hw56 := HW56.out
          go_upto_region 18 with fail
          go_cut [158] (fun q wx => q = .bool false ∧ Hid (Mem wx base bp (fun k => w4.heap.size ≤ k ∧ base ≤ k ∧ k < w5.heap.size) W') ∧ Hid (Stirs (fun k => w4.heap.size ≤ k ∧ base ≤ k ∧ k < w5.heap.size) wr wx))
          case first =>
            obtain ⟨d0, d1, d2, d3, d4, d5, d6⟩ := seg_box (x := s) HHR.out
            have hgn : ¬ (w4.heap.size ≤ gb ∧ base ≤ gb ∧ gb < w5.heap.size) := fun hh => by have := HGB.out; have := hw56; omega
            let F : Ph := ⟨fun t wx => Mem wx base bp (fun k => w4.heap.size ≤ k ∧ base ≤ k ∧ k < w5.heap.size) (if t = 0 then W else W') ∧ Stirs (fun k => w4.heap.size ≤ k ∧ base ≤ k ∧ k < w5.heap.size) wr wx, Stirs (fun k => w4.heap.size ≤ k ∧ base ≤ k ∧ k < w5.heap.size), [20], fun _ _ => False⟩
            have HF : Hid F.Ok := Lib.hid ⟨fun t wx wy h hb => ⟨h.1.mono hb, h.2.thenBelow hb⟩, fun wx wy hb => Stirs.of_below hb⟩
            have hAB : ∀ (x : In F) (k : Nat), x.w.cell? ⟨gb, k, none⟩ = wr.cell? ⟨gb, k, none⟩ := fun x k => World.cell?_of_block (x.h.2.block gb (block_lt d0) hgn)
            have hcb : ∃ b : Bool, code = (if b then 0 else 21) ∧ (bits .and .u32 (s.flags : Int) 2 != 0) = b := by
              by_cases hz : s.flags &&& 2 = 0
              · exact ⟨false, by rw [hcd, if_pos hz]; rfl, by rw [and2_u32 hfl, hz]; rfl⟩
              · exact ⟨true, by rw [hcd, if_neg hz]; rfl, by rw [and2_u32 hfl]; simp; omega⟩
            obtain ⟨b, hc1, hc2⟩ := hcb
            have HC2 := Lib.hid hc2
            have HCE : Hid ((code == 0) = b) := Lib.hid (by rw [hc1]; cases b <;> rfl)
            clear hc1 hc2 hcd
            have HBB := Lib.hid (show (b != b) = false from by cases b <;> rfl)
            have hne : Nonempty (In F) := ⟨⟨wr, 0, HMR.out, Stirs.refl _ _⟩⟩
            have HRV := Lib.hid (show ∀ (tz : Nat) (wz : World), Mem wz base bp (fun k => w4.heap.size ≤ k ∧ base ≤ k ∧ k < w5.heap.size) (if tz = 0 then W else W') → Calls Try.prog 13 #[ptr bp, .int .u64 (s.vaddr : Int)] wz fun r w' => r = .returned (.int .i64 ((s.flags &&& 7 : Nat) : Int)) ∧ wz = w' from fun tz wz h => by
              split at h
              · exact HRI.out wz h
              · exact HRI2.out wz h)
            have HCV := Lib.hid (show ∀ wz : World, (convert 25 3 (.int .u32 (bits .and .u32 (s.flags : Int) 7))).run Try.prog wz = .ok (.int .i64 ((s.flags &&& 7 : Nat) : Int)) wz from fun wz => by
              rw [and7_u32 hfl]
              exact convU32I _ _ (Nat.lt_of_le_of_lt Nat.and_le_right (by decide)))
            have HAS := Lib.hid (show ∀ wz : World, Stirs (fun k => w4.heap.size ≤ k ∧ base ≤ k ∧ k < w5.heap.size) wr wz → Calls Try.prog 14 #[.slice a4 m4 q4, .int .u64 (s.off : Int), .int .u64 (s.filesz : Int)] wz fun r w' => r = .returned (.int .u8 (fx : Int)) ∧ wz = w' from fun wz h => HAT.out wz h)
            have HSS2 := Lib.hid (show ∀ (tz : Nat) (wz : World), phI [20] 20 tz → (Mem wz base bp (fun k => w4.heap.size ≤ k ∧ base ≤ k ∧ k < w5.heap.size) (if tz = 0 then W else W') ∧ Stirs (fun k => w4.heap.size ≤ k ∧ base ≤ k ∧ k < w5.heap.size) wr wz) → Calls Try.prog 11 #[ptr bp, .int .u64 (s.vaddr : Int), .int .i64 1, .int .u64 (fx : Int)] wz fun r w' => (∃ v, r = .returned v ∧ (YldT.is F (.int .i64 code)).R v w' ∧ F.T wz w' ∧ F.I (nxI [20] 20 tz) w') ∨ (∃ c, r = .panicked c ∧ F.Up (.panic c) w') from fun tz wz hph h => by
              have ht0 : tz = 0 := by
                have := hph (by simp)
                cases tz with
                | zero => rfl
                | succ n => simp at this
              subst ht0
              refine (HST.out wz h.1).mono ?_
              rintro r w' ⟨rfl, hm, hs⟩
              exact .inl ⟨_, rfl, YldT.is_mk, hs, hm, h.2.trans hs fun _ _ h => h⟩)
            refine wp_region_walkT F HF.out 28 [(3, .is F (.int .i64 ((s.flags &&& 7 : Nat) : Int))), (7, .is F (.int .i64 ((s.flags &&& 7 : Nat) : Int))), (18, .is F (.int .u8 (fx : Int))), (20, .is F (.int .i64 code)), (21, .is F (.bool b)), (25, .is F (.bool b)), (26, .is F (.bool false))] (by kernel_rfl) (by kernel_rfl) (by kernel_rfl) ⟨HMR.out, Stirs.refl _ _⟩ (fun _ _ _ h => h.elim) ?_
            simp only [List.take_succ_cons, List.take_zero, List.drop_succ_cons, List.drop_zero]
            try go_frame
            iterate 3 (refine walkT_quiet rfl rfl rfl rfl ?_; intro K hK; go_big_quiet_op; go_big_quiet_on)
            refine walkT_is rfl rfl (fun tz wz hph hz _ => WpT.same HF.out (run_callL (vals := [_, _]) Try.func13 (by kernel_rfl) rfl rfl) hz (HRV.out tz wz hz.1)) ?_
            go_frame
            iterate 3 (refine walkT_quiet rfl rfl rfl rfl ?_; intro K hK; go_big_quiet_op; go_big_quiet_on)
            refine walkT_is rfl rfl (fun tz wz hph hz _ => WpT.val (run_conv rfl (by first | exact HCV.out _ | skip)) YldT.is_mk (Stirs.refl _ _) hz) ?_
            go_frame
            iterate 10 (refine walkT_quiet rfl rfl rfl rfl ?_; intro K hK; go_big_quiet_op; go_big_quiet_on)
            refine walkT_is rfl rfl (fun tz wz hph hz _ => WpT.same HF.out (run_callL (vals := [_, _, _]) Try.func14 (by kernel_rfl) rfl rfl) hz (HAS.out wz hz.2)) ?_
            go_frame
            iterate 1 (refine walkT_quiet rfl rfl rfl rfl ?_; intro K hK; go_big_quiet_op; go_big_quiet_on)
            refine walkT_is rfl rfl (fun tz wz hph hz _ => WpT.call (run_callL (vals := [_, _, _, _]) Try.func11 (by kernel_rfl) rfl rfl) (HSS2.out tz wz hph hz)) ?_
            go_frame
            refine walkT_is rfl rfl (fun tz wz hph hz _ => WpT.val (run_bin rfl rfl (eql_run HCE.out)) YldT.is_mk (Stirs.refl _ _) hz) ?_
            go_frame
            iterate 3 (refine walkT_quiet rfl rfl rfl rfl ?_; intro K hK; go_big_quiet_op; go_big_quiet_on)
            refine walkT_is rfl rfl (fun tz wz hph hz _ => WpT.val (run_bin rfl rfl (neq_run HC2.out)) YldT.is_mk (Stirs.refl _ _) hz) ?_
            go_frame
            refine walkT_is rfl rfl (fun tz wz hph hz _ => WpT.val (run_bin rfl rfl (neqB_run HBB.out)) YldT.is_mk (Stirs.refl _ _) hz) ?_
            go_frame
            iterate 1 (refine walkT_quiet rfl rfl rfl rfl ?_; intro K hK; go_big_quiet_op; go_big_quiet_on)
            refine walkT_nil ?_
            intro wz hiz hFz
            have HIZ := Lib.hid hiz
            clear hiz hFz hAB d0 d1 d2 d3 d4 d5 d6
            go_wp2
            go_meet
            exact ⟨rfl, HIZ.out.1, HIZ.out.2⟩
          case rest =>
            obtain ⟨rfl, hmc, hsc⟩ := hcut
            have hgn : ¬ (w4.heap.size ≤ gb ∧ base ≤ gb ∧ gb < w5.heap.size) := fun hh => by have := HGB.out; have := hw56; omega
            have HHC := Lib.hid (hsc.out.kept HHR.out hgn)
            have HVC : Hid (Bs wc (.slice a4 m4 q4) B) := Lib.hid (Reads.stirs HVR.out hsc.out (fun k hk h => absurd (HVL.out k hk) (Nat.not_lt.2 h.1)))
            have HBC := Lib.hid (HBW.out.trans (hsc.out.below HBW.out.size (fun k h => Nat.le_trans HB4.out.size h.1)))
            have HLB2 := Lib.hid (laid_bytes HLD2.out hmp (by omega))
            have HBY := Lib.hid (bytes_mem wc hmc.out s.vaddr (by omega) (s.memsz : Int))
            have hlen : s.off + s.filesz ≤ m4 := by have := HLD.out.len; have := HM4.out; omega
            have hm9 : m4 ≤ 1000000000 := by have := HLB.out; have := HM4.out; omega
            have hle := HLD.out.le
            obtain ⟨d0, d1, d2, d3, d4, d5, d6⟩ := seg_box (x := s) HHC.out
            clear HRI HRI2 HAT HST HLS HLD HLD2 HAN hcd HMR HVR HHR HBW hmc hsc hgn
            by_cases h4 : s.flags &&& 4 = 0
            · rw [HLB2.out.1 h4] at HBY
              have hb4 : (bits .and .u32 (s.flags : Int) 4 == 0) = true := by rw [and4_u32 hfl, h4]; rfl
              clear h4 HLB2
              go_wp2_with fail
              refine HBY.out.mono ?_
              rintro r w9 ⟨v9, rfl, hv9, hb9⟩
              have HB9 := Lib.hid (HBC.out.trans (hb9.mono HBC.out.size))
              clear d0 d1 d2 d3 d4 d5 d6
              obtain ⟨d0, d1, d2, d3, d4, d5, d6⟩ := seg_box (x := s) (heap_below hb9 HHC.out)
              clear hv9 hb9
              go_wp2
              go_ret
              exact ⟨rfl, HB9.out⟩
            · rw [HLB2.out.2 h4] at HBY
              have hb4 : (bits .and .u32 (s.flags : Int) 4 == 0) = false := by rw [and4_u32 hfl]; simp; omega
              clear h4 HLB2
              go_wp2_with fail
              refine HBY.out.mono ?_
              rintro r w9 ⟨v9, rfl, hv9, hb9⟩
              have HB9 := Lib.hid (HBC.out.trans (hb9.mono HBC.out.size))
              have HH9 := Lib.hid (heap_below hb9 HHC.out)
              have HV9 : Hid (Bs w9 (.slice a4 m4 q4) B) := Lib.hid (HVC.out.mono hb9)
              clear d0 d1 d2 d3 d4 d5 d6
              obtain ⟨d0, d1, d2, d3, d4, d5, d6⟩ := seg_box (x := s) HH9.out
              obtain ⟨m9, a9, q9, hm9', rfl, _, _⟩ := hv9.shape
              have hm9e := hm9'.out
              simp only [List.length_map, List.length_range] at hm9e
              obtain rfl := hm9e
              have HC9 := Lib.hid (show ∀ n, n < s.memsz → ∃ b off, a9 = some ⟨b, off, none⟩ ∧ w9.cell? ⟨b, off + n, none⟩ = some (.int .u8 (((if n < s.filesz then B[s.off + n]?.getD 0 else 0 : UInt8)).toNat : Int)) from fun n hn => by
                obtain ⟨ad', cap', e1, _, _, hc⟩ := hv9.bs.open
                simp only [Value.slice.injEq] at e1
                obtain ⟨rfl, _, rfl⟩ := e1
                obtain ⟨b, off, h1, h2⟩ := hc n (by simp; exact hn)
                refine ⟨b, off, h1, h2.trans ?_⟩
                rw [List.getElem?_map, List.getElem?_range hn]
                rfl)
              have HVB := Lib.hid (show ∀ j, j < m4 → ∃ b off, a4 = some ⟨b, off, none⟩ ∧ w9.cell? ⟨b, off + j, none⟩ = some (.int .u8 ((B[j]?.getD 0).toNat : Int)) from fun j hj => by
                obtain ⟨ad', cap', e1, _, _, hc⟩ := HV9.out.open
                simp only [Value.slice.injEq] at e1
                obtain ⟨rfl, _, rfl⟩ := e1
                exact hc j (by have := HM4.out; omega))
              clear hv9 hb9 hm9'
              go_wp2_with fail
              clear d0 d1 d2 d3 d4 d5 d6
              go_loopw [15, 16] (fun nv _ wx => ∃ n : Nat, nv = .int .u64 n ∧ n ≤ s.memsz ∧ Hid (Below w9.heap.size w9 wx)) (fun nv _ _ => s.memsz - (intOf nv).toNat)
              case atStart => exact ⟨0, rfl, Nat.zero_le _, Below.refl _ _⟩
              case round =>
                obtain ⟨n, rfl, hn, HBX⟩ := hrel
                obtain ⟨wx, rfl⟩ : ∃ wx, wx = wr := ⟨_, rfl⟩
                obtain ⟨d0, d1, d2, d3, d4, d5, d6⟩ := seg_box (x := s) (heap_below HBX.out HH9.out)
                by_cases hlt : n < s.memsz
                · obtain ⟨cb, co, rfl, cc⟩ := HC9.out n hlt
                  have cc' := (HBX.out.cell (block_lt cc)).trans cc
                  clear cc
                  by_cases hnf : n < s.filesz
                  · rw [if_pos hnf] at cc'
                    obtain ⟨vb, vo, rfl, dc⟩ := HVB.out (s.off + n) (by omega)
                    have dc' := (HBX.out.cell (block_lt dc)).trans dc
                    clear dc
                    generalize ((B[s.off + n]?.getD 0).toNat : Int) = c1 at *
                    go_wp2
                    go_roundw
                    case rel => exact ⟨n + 1, by go_num, by omega, HBX.out⟩
                    case measure => simp [intOf] <;> omega
                  · rw [if_neg hnf] at cc'
                    have cc' : wx.cell? ⟨cb, co + n, none⟩ = some (.int .u8 0) := cc'
                    go_wp2
                    go_roundw
                    case rel => exact ⟨n + 1, by go_num, by omega, HBX.out⟩
                    case measure => simp [intOf] <;> omega
                · go_wp2
                  go_ret
                  exact ⟨rfl, HB9.out.trans (HBX.out.mono HB9.out.size)⟩
end Go.Proofs.Ytmpelmjhimalpaa
namespace Go.Proofs.Ytmpelmjhimalpaa
open Go.ChangeShapes Go.WideShapes Go.ChangeAt Go.RowKit Go.Fd
theorem Try.own : ownKnob Try.prog.godebug = none := by kernel_rfl
theorem Try.laidOut : laidOutB Try.prog = true := by kernel_rfl
/-- All arguments read behind the call as they read before it. -/
theorem belowAll {H : Type} {enc : TypeId × Value → H} {W W' : World} (hb : Below W.heap.size W W') : ∀ {ts : List TypeId} {vs : List Value} {ds : List (DataW H)} {ps : List MemPlace},
    DataW.TrodAll enc Try.prog W 0 (fun _ => true) true ts vs ds ps → (∀ x ∈ ps, x.block < W.heap.size) → (∀ t ∈ ts, Try.prog.readableRec t = true ∧ t < Try.prog.types.size) →
    DataW.TrodAll enc Try.prog W' 0 (fun b => decide (b < W.heap.size)) true ts vs ds ps
  | [], vs, ds, ps, h, _, _ => by obtain ⟨rfl, rfl, rfl⟩ := trodAll_nil h; exact trodAll_mk0
  | t :: ts, vs, ds, ps, h, hlt, ht => by
    obtain ⟨v, vs', d, ds', p, q, rfl, rfl, rfl, h0, h1⟩ := trodAll_cons h
    exact trodAll_cons_mk (Below.trod Try.laidOut (ht t (by simp)).1 (ht t (by simp)).2 h0 hb fun x hx => hlt x (by simp [hx]))
      (belowAll hb h1 (fun x hx => hlt x (by simp [hx])) fun u hu => ht u (by simp [hu]))
/-- The same, the types asked as one closed fact. -/
theorem belowAllB {H : Type} {enc : TypeId × Value → H} {W W' : World} {ts : List TypeId} (ht : (ts.all fun t => Try.prog.readableRec t && decide (t < Try.prog.types.size)) = true) (hb : Below W.heap.size W W') {vs : List Value} {ds : List (DataW H)} {ps : List MemPlace}
    (h : DataW.TrodAll enc Try.prog W 0 (fun _ => true) true ts vs ds ps) (hlt : ∀ x ∈ ps, x.block < W.heap.size) : DataW.TrodAll enc Try.prog W' 0 (fun b => decide (b < W.heap.size)) true ts vs ds ps :=
  belowAll hb h hlt fun t htm => by
    have := List.all_eq_true.1 ht t htm
    simp only [Bool.and_eq_true, decide_eq_true_eq] at this
    exact this
theorem wf_u64 {x : Int} (h : (Lit.int .u64 x).wf = true) : 0 ≤ x ∧ x < 18446744073709551616 := by
  simp [Lit.wf, IntKind.min, IntKind.max, IntKind.signed, IntKind.bits] at h
  exact ⟨by omega, by omega⟩
theorem wf_i64' {x : Int} (h : (Lit.int .i64 x).wf = true) : -9223372036854775808 ≤ x ∧ x < 9223372036854775808 := by
  simp [Lit.wf, IntKind.min, IntKind.max, IntKind.signed, IntKind.bits] at h
  exact ⟨by omega, by omega⟩
theorem len_6 {α : Type} : ∀ {l : List α}, l.length = 6 → ∃ a0 a1 a2 a3 a4 a5, l = [a0, a1, a2, a3, a4, a5]
  | [a0, a1, a2, a3, a4, a5], _ => ⟨a0, a1, a2, a3, a4, a5, rfl⟩
theorem len_7 {α : Type} : ∀ {l : List α}, l.length = 7 → ∃ a0 a1 a2 a3 a4 a5 a6, l = [a0, a1, a2, a3, a4, a5, a6]
  | [a0, a1, a2, a3, a4, a5, a6], _ => ⟨a0, a1, a2, a3, a4, a5, a6, rfl⟩
end Go.Proofs.Ytmpelmjhimalpaa
namespace Go.Fd
end Go.Fd
namespace Go.Proofs.Ytmpelmjhimalpaa
open Go.ChangeMaps Go.ChangeShapes Go.WideShapes Go.ChangeAt Go.RowKit Go.Fd
/-- A struct of cells, each field of one cell: how each reads. -/
theorem cells_struct {H : Type} {enc : TypeId × Value → H} {P : Program} {w : World} {base : Nat} {spare : Nat → Bool} {held : Bool} {t : TypeId} {fs : Array Field} {cs : List Value} {fuel : Nat} {y : DataW H × List MemPlace}
    (hs : P.underlying t = some (.struct fs)) (hone : Go.Deep.oneCellFields P fs = true) (hC : cs.length = fs.size) (h : DataW.trod enc P w base spare held fuel t cs = some y) :
    ∃ n, ∀ (j : Nat) (f : Field), fs[j]? = some f → ∃ x y, cs[j]? = some x ∧ DataW.trod enc P w base spare held n f.type [x] = some y := by
  obtain ⟨xs, n, _, hx, _, hlen, hg⟩ := DataW.trod_struct hs h
  refine ⟨n, fun j f hj => ?_⟩
  obtain ⟨o, k⟩ := Go.Deep.hone_of hone j f hj
  have hjl : j < fs.size := (Array.getElem?_eq_some_iff.1 hj).1
  have hcl : j < cs.length := by omega
  have h1 := hg j f hj
  rw [o, k] at h1
  have h2 : (List.drop j cs).take 1 = [cs[j]] := by
    rw [List.drop_eq_getElem_cons hcl]
    rfl
  rw [h2] at h1
  exact ⟨_, xs[j]'(by omega), List.getElem?_eq_getElem hcl, h1.trans (List.getElem?_eq_getElem _)⟩
end Go.Proofs.Ytmpelmjhimalpaa
namespace Go.Proofs.Ytmpelmjhimalpaa
open Go
theorem handed_cond {H : Type} {enc : TypeId × Value → H} {a : Assume} {C : Go.Checked} {os : Os} {f : FuncId} {fn : Func} {s : OpenSpec} {k : (H : Type) → List (DataW H) → Bool} (hk : s.cond = some k) {F : Stop.Interp} {conds : List PathCond} {apart fresh handsOn again : Bool}
    (own : ownKnob C.prog.godebug = none) (started : os.Started) (noInit : C.prog.inits.idxOf? f = none) (hfn : C.prog.funcs[f]? = some fn)
    (witness : ∃ (w : World) (tape : Tape) (i : Input), w.os = os ∧ (w.forCall tape i).Shaped C.prog ∧ i.vars = [] ∧ Input.okWide C.prog (w.forCall tape i) .any w.heap.size f i ∧
      s.pre6 enc C.prog fn conds apart (w.forCall tape i).memory i.args ∧ a.holds C.prog (lone (Frame.enter C.prog f i.args .normal) [] (w.forCall tape i)))
    (contract : ∀ (W : World) (base : Nat) (args : Array Value) (ds gs : List (DataW H)) (before : List MemPlace),
      (∀ (j : Nat) t v, fn.params[j]? = some t → args[j]? = some v → Value.okWide C.prog W .any base t v) →
      DataW.Whole enc C.prog fn.params.toList s.vars apart W args.toList ds gs before →
      k H (ds ++ gs) = true →
      (DataW.weightsEach C.prog (fn.params.toList ++ s.bare.plain.varTypes C.prog) (ds ++ gs)).all (· ≤ reachBytes) = true →
      W.ShapedOpen C.prog →
      Calls C.prog f args W fun e W' => ∃ v, e = .returned v ∧ (s.at F).post enc C.prog fn apart fresh handsOn again W args v W') :
    ReturnsInHanded a C os f .any (s.pre6 enc C.prog fn conds apart) ((s.at F).post enc C.prog fn apart fresh handsOn again) := by
  refine returnsInHanded_of_calls own started noInit witness ?_
  intro w tape i _ hsh _ hok hpre _
  obtain ⟨_, _, _, fn', hfn', _, _, _, _, hval⟩ := hok
  obtain rfl : fn' = fn := Option.some.inj (hfn'.symm.trans hfn)
  obtain ⟨ds, gs, before, hw, _, hkk⟩ := (OpenSpec.pre_some hk conds apart _ _).1 hpre.1
  refine (contract (w.forCall tape i) w.heap.size i.args ds gs before hval (DataW.Whole.of_heap (w' := w.forCall tape i) (by rfl) hw) hkk (hpre.2.weights hw) hsh).mono fun e W' ⟨v, he, hp⟩ => ?_
  subst he
  exact ChangeSpec.post_blind hp
end Go.Proofs.Ytmpelmjhimalpaa
namespace Go.Proofs.Ytmpelmjhimalpaa
open Go.ChangeMaps Go.ChangeShapes Go.WideShapes Go.ChangeAt Go.RowKit Go.Fd
section
variable {H : Type}
theorem bulkAll_append (xs ys : List (DataW H)) : Rows.uptoBulkAll (xs ++ ys) = Rows.uptoBulkAll xs + Rows.uptoBulkAll ys := by
  induction xs with
  | nil => simp [Rows.uptoBulkAll]
  | cons x xs ih => rw [List.cons_append, Rows.uptoBulkAll, Rows.uptoBulkAll, ih]; omega
theorem bulk_get {xs : List (DataW H)} {i : Nat} {x : DataW H} (h : xs[i]? = some x) : Rows.uptoBulk x ≤ Rows.uptoBulkAll xs := by
  induction xs generalizing i with
  | nil => simp at h
  | cons y xs ih =>
    rw [Rows.uptoBulkAll]
    cases i with
    | zero => simp at h; subst h; omega
    | succ i => have := ih (by simpa using h); omega
theorem bulk_pair {xs : List (DataW H)} {i j : Nat} {x y : DataW H} (hij : i < j) (hx : xs[i]? = some x) (hy : xs[j]? = some y) : Rows.uptoBulk x + Rows.uptoBulk y ≤ Rows.uptoBulkAll xs := by
  induction xs generalizing i j with
  | nil => simp at hx
  | cons z xs ih =>
    rw [Rows.uptoBulkAll]
    cases j with
    | zero => omega
    | succ j =>
      cases i with
      | zero => simp at hx; subst hx; have := bulk_get (xs := xs) (i := j) (by simpa using hy); omega
      | succ i => have := ih (i := i) (j := j) (by omega) (by simpa using hx) (by simpa using hy); omega
end
set_option maxRecDepth 100000 in
/-- A slice of records, as it is read, with a measure of each. -/
theorem trod_recs {H : Type} {enc : TypeId × Value → H} {W : World} {v : Value} {y : DataW H × List MemPlace} {fuel : Nat} {α : Type} {k : Nat} {ec : α → List Value} {good : α → Prop} {μ : α → Nat} {t e : TypeId}
    (ht : Try.prog.underlying t = some (.slice e)) (hc : Try.prog.cellsOf e = k) (hk0 : 0 < k) (hlen : ∀ x, (ec x).length = k)
    (hstep : ∀ n cs y, DataW.trod enc Try.prog W 0 (fun _ => true) true n e cs = some y → cs.length = k → ∃ x, cs = ec x ∧ good x ∧ μ x ≤ Rows.uptoBulk y.1)
    (h : DataW.trod enc Try.prog W 0 (fun _ => true) true fuel t [v] = some y) : ∃ l : List α, RdR k ec W v l ∧ (∀ x ∈ l, good x) ∧ (l.map μ).sum + 1 ≤ Rows.uptoBulk y.1 := by
  rcases Go.Deep.open_slice ht h with ⟨hcs, hx⟩ | ⟨a, len, cap, m, n, D, Pl, hcs, _, hl, hm, hmm, hd, hel⟩
  · simp at hcs
    subst hcs hx
    exact ⟨[], RdR.nil k ec W, (fun x hx => by cases hx), by simp [Rows.uptoBulk]⟩
  · simp at hcs
    subst hcs hd
    simp only [hc] at hel
    have hall : ∀ n', n' ≤ len → ∃ l : List α, l.length = n' ∧ (l.map μ).sum ≤ Rows.uptoBulkAll ((List.range n').map D) ∧ ∀ i x, l[i]? = some x → good x ∧ ∀ c, c < k → W.cell? (a.add (i * k + c)) = (ec x)[c]? := by
      intro n'
      induction n' with
      | zero => exact fun _ => ⟨[], rfl, by simp, fun i x h => by simp at h⟩
      | succ n' ih =>
        intro hn
        obtain ⟨l, h1, hs, h2⟩ := ih (by omega)
        obtain ⟨cs', h3, h4⟩ := hel n' (by simp at hmm; omega)
        obtain ⟨-, h5, h6⟩ := World.cells?_some h3
        obtain ⟨x, rfl, hg, hμ⟩ := hstep _ _ _ h4 h5
        dsimp only at hμ
        refine ⟨l ++ [x], by simp [h1], ?_, fun i y hi => ?_⟩
        · rw [List.range_succ, List.map_append, List.map_append, List.sum_append, bulkAll_append]
          simp [Rows.uptoBulkAll]
          omega
        · rcases Nat.lt_or_ge i n' with hlt | hge
          · rw [List.getElem?_append_left (by omega)] at hi
            exact h2 i y hi
          · rw [List.getElem?_append_right (by omega)] at hi
            have hi0 : i - l.length = 0 := by
              have := (List.getElem?_eq_some_iff.1 hi).1
              simp at this
              omega
            rw [hi0] at hi
            cases hi
            obtain rfl : i = n' := by omega
            refine ⟨hg, fun c hc => ?_⟩
            have := h6 c hc
            rwa [Go.Deep.add_add] at this
    obtain ⟨l, h1, hs, h2⟩ := hall len (Nat.le_refl _)
    refine ⟨l, ⟨by rw [flat_len hlen], some a, cap, by rw [h1], by omega, (fun h => by cases h), fun j hj => ?_⟩, fun x hx => ?_, ?_⟩
    · rw [flat_len hlen] at hj
      have hjk : j = j / k * k + j % k := by rw [Nat.mul_comm]; exact (Nat.div_add_mod j k).symm
      have hi : j / k < l.length := (Nat.div_lt_iff_lt_mul hk0).2 hj
      have hx : l[j / k]? = some l[j / k] := List.getElem?_eq_getElem hi
      have h3 := (h2 _ _ hx).2 (j % k) (Nat.mod_lt _ hk0)
      rw [← hjk] at h3
      have h4 := flat_get hlen l (j / k) (j % k) _ hx (Nat.mod_lt _ hk0)
      rw [← hjk] at h4
      obtain ⟨b, off, spot⟩ := a
      have hspot : spot = none := by
        have hl0 : 0 < l.length := Nat.lt_of_le_of_lt (Nat.zero_le _) hi
        have hx0 : l[0]? = some (l[0]'hl0) := List.getElem?_eq_getElem _
        have h0 := (h2 0 _ hx0).2 0 hk0
        have h5 : (ec (l[0]'hl0))[0]? = some ((ec (l[0]'hl0))[0]'(by rw [hlen]; exact hk0)) := List.getElem?_eq_getElem _
        rw [h5, Nat.zero_mul, Nat.zero_add] at h0
        simpa [Addr.add] using World.cell?_spot h0
      subst hspot
      refine ⟨b, off, rfl, ?_⟩
      rw [add_plain] at h3
      rw [h3, h4]
    · obtain ⟨i, hi⟩ := List.mem_iff_getElem?.1 hx
      exact (h2 i x hi).1
    · rw [Rows.uptoBulk]
      omega
theorem flat_one {α β : Type} (f : α → β) (l : List α) : l.flatMap (fun c => [f c]) = l.map f := by
  induction l with
  | nil => rfl
  | cons x l ih => rw [List.flatMap_cons, ih]; rfl
set_option maxRecDepth 100000 in
theorem trod_bytes {H : Type} {enc : TypeId × Value → H} {W : World} {v : Value} {y : DataW H × List MemPlace} {fuel : Nat} (h : DataW.trod enc Try.prog W 0 (fun _ => true) true fuel 22 [v] = some y) :
    ∃ l : List UInt8, Bs W v l ∧ l.length + 1 ≤ Rows.uptoBulk y.1 := by
  obtain ⟨l, h1, -, h3⟩ := trod_recs (α := UInt8) (k := 1) (ec := fun c => [B c]) (good := fun _ => True) (μ := fun _ => 1) (e := 5) (by kernel_rfl) (by kernel_rfl) (by decide) (fun _ => rfl) (fun n cs y h hl => by
    obtain ⟨z, rfl, hy, hw⟩ := DataW.trod_int Try.underlying5 h
    refine ⟨UInt8.ofNat z.toNat, ?_, trivial, ?_⟩
    · simp [Lit.wf, IntKind.min, IntKind.max, IntKind.signed, IntKind.bits] at hw
      simp [B]
      omega
    · rw [hy]
      simp [Rows.uptoBulk]) h
  refine ⟨l, ?_, by rw [List.map_const', List.sum_replicate_nat] at h3; omega⟩
  have e := flat_one B l
  unfold RdR at h1
  rw [e] at h1
  exact h1
theorem wf_u32 {x : Int} (h : (Lit.int .u32 x).wf = true) : 0 ≤ x ∧ x < 4294967296 := by
  simp [Lit.wf, IntKind.min, IntKind.max, IntKind.signed, IntKind.bits] at h
  omega
theorem wf_i64 {x : Int} (h : (Lit.int .i64 x).wf = true) : -9223372036854775808 ≤ x ∧ x < 9223372036854775808 := by
  simp [Lit.wf, IntKind.min, IntKind.max, IntKind.signed, IntKind.bits] at h
  omega
theorem len_10 {α : Type} {l : List α} (h : l.length = 10) : ∃ a0 a1 a2 a3 a4 a5 a6 a7 a8 a9, l = [a0, a1, a2, a3, a4, a5, a6, a7, a8, a9] := by
  match l, h with
  | a0 :: a1 :: a2 :: l, h =>
    obtain ⟨b0, b1, b2, b3, b4, b5, b6, rfl⟩ := len_7 (l := l) (by simpa using h)
    exact ⟨_, _, _, _, _, _, _, _, _, _, rfl⟩
/-- A struct of cells, each field of one cell: how each reads, with what was read. -/
theorem cells_struct2 {H : Type} {enc : TypeId × Value → H} {P : Program} {w : World} {base : Nat} {spare : Nat → Bool} {held : Bool} {t : TypeId} {fs : Array Field} {cs : List Value} {fuel : Nat} {y : DataW H × List MemPlace}
    (hs : P.underlying t = some (.struct fs)) (hone : Go.Deep.oneCellFields P fs = true) (hC : cs.length = fs.size) (h : DataW.trod enc P w base spare held fuel t cs = some y) :
    ∃ n ds, y.1 = .agg ds ∧ ∀ (j : Nat) (f : Field), fs[j]? = some f → ∃ x z, cs[j]? = some x ∧ DataW.trod enc P w base spare held n f.type [x] = some z ∧ ds[j]? = some z.1 := by
  obtain ⟨xs, n, _, hx, _, hlen, hg⟩ := DataW.trod_struct hs h
  refine ⟨n, xs.map (·.1), by rw [hx], fun j f hj => ?_⟩
  obtain ⟨o, k⟩ := Go.Deep.hone_of hone j f hj
  have hjl : j < fs.size := (Array.getElem?_eq_some_iff.1 hj).1
  have hcl : j < cs.length := by omega
  have h1 := hg j f hj
  rw [o, k] at h1
  have h2 : (List.drop j cs).take 1 = [cs[j]] := by
    rw [List.drop_eq_getElem_cons hcl]
    rfl
  rw [h2] at h1
  exact ⟨_, xs[j]'(by omega), List.getElem?_eq_getElem hcl, h1.trans (List.getElem?_eq_getElem _), by rw [List.getElem?_map, List.getElem?_eq_getElem (by omega)]; rfl⟩
/-- A file by value, as it is read; how great it is. -/
structure ElfRead (W : World) (v : Value) (n : Nat) (e : ElfM) (L : List (SecM × Value)) (sv gv : Value) : Prop where
  val : v = elfV e sv gv
  at_ : ElfAt W e L sv gv
  fits : e.fits
  names : ∀ s ∈ e.secs, s.name.length ≤ 9223372036854775807
  size : (L.map fun p => p.1.data.length + 1).sum + e.segs.length ≤ n
set_option maxRecDepth 100000 in
theorem trod_segs {H : Type} {enc : TypeId × Value → H} {W : World} {v : Value} {y : DataW H × List MemPlace} {fuel : Nat} (h : DataW.trod enc Try.prog W 0 (fun _ => true) true fuel 31 [v] = some y) :
    ∃ l : List SegM, RdR 7 encSeg W v l ∧ (∀ s ∈ l, s.fits) ∧ l.length ≤ Rows.uptoBulk y.1 := by
  obtain ⟨l, h1, h2, h3⟩ := trod_recs (α := SegM) (k := 7) (ec := encSeg) (good := SegM.fits) (μ := fun _ => 1) (e := 30) (by kernel_rfl) (by kernel_rfl) (by decide) (fun _ => rfl) (fun n cs y h hl => by
    obtain ⟨xs, n', -, rfl, -, -, -⟩ := DataW.trod_struct Try.underlying30 h
    obtain ⟨m, hf⟩ := cells_struct Try.underlying30 (by kernel_rfl) hl h
    obtain ⟨c0, c1, c2, c3, c4, c5, c6, rfl⟩ := len_7 hl
    obtain ⟨x0, y0, e0, t0⟩ := hf 0 _ rfl
    obtain ⟨x1, y1, e1, t1⟩ := hf 1 _ rfl
    obtain ⟨x2, y2, e2, t2⟩ := hf 2 _ rfl
    obtain ⟨x3, y3, e3, t3⟩ := hf 3 _ rfl
    obtain ⟨x4, y4, e4, t4⟩ := hf 4 _ rfl
    obtain ⟨x5, y5, e5, t5⟩ := hf 5 _ rfl
    obtain ⟨x6, y6, e6, t6⟩ := hf 6 _ rfl
    cases e0; cases e1; cases e2; cases e3; cases e4; cases e5; cases e6
    obtain ⟨n0, q0, -, w0⟩ := DataW.trod_int Try.underlying25 t0
    obtain ⟨n1, q1, -, w1⟩ := DataW.trod_int Try.underlying25 t1
    obtain ⟨n2, q2, -, w2⟩ := DataW.trod_int Try.underlying24 t2
    obtain ⟨n3, q3, -, w3⟩ := DataW.trod_int Try.underlying24 t3
    obtain ⟨n4, q4, -, w4⟩ := DataW.trod_int Try.underlying24 t4
    obtain ⟨n5, q5, -, w5⟩ := DataW.trod_int Try.underlying24 t5
    obtain ⟨n6, q6, -, w6⟩ := DataW.trod_int Try.underlying24 t6
    cases q0; cases q1; cases q2; cases q3; cases q4; cases q5; cases q6
    have h0 := wf_u32 w0
    have h1 := wf_u32 w1
    have h2 := wf_u64 w2
    have h3 := wf_u64 w3
    have h4 := wf_u64 w4
    have h5 := wf_u64 w5
    have h6 := wf_u64 w6
    refine ⟨⟨n0.toNat, n1.toNat, n2.toNat, n3.toNat, n4.toNat, n5.toNat, n6.toNat⟩, ?_, ⟨by show n0.toNat < _; omega, by show n1.toNat < _; omega, by show n2.toNat < _; omega, by show n3.toNat < _; omega, by show n4.toNat < _; omega, by show n5.toNat < _; omega, by show n6.toNat < _; omega⟩, by simp [Rows.uptoBulk]⟩
    simp only [encSeg, Int.toNat_of_nonneg h0.1, Int.toNat_of_nonneg h1.1, Int.toNat_of_nonneg h2.1, Int.toNat_of_nonneg h3.1, Int.toNat_of_nonneg h4.1, Int.toNat_of_nonneg h5.1, Int.toNat_of_nonneg h6.1]) h
  exact ⟨l, h1, h2, by rw [List.map_const', List.sum_replicate_nat] at h3; omega⟩
set_option maxRecDepth 100000 in
theorem trod_secs {H : Type} {enc : TypeId × Value → H} {W : World} {v : Value} {y : DataW H × List MemPlace} {fuel : Nat} (h : DataW.trod enc Try.prog W 0 (fun _ => true) true fuel 28 [v] = some y) :
    ∃ l : List (SecM × Value), RdR 10 encSec W v l ∧ (∀ p ∈ l, p.1.fits ∧ p.1.name.length ≤ 9223372036854775807 ∧ Bs W p.2 p.1.data) ∧ (l.map fun p => p.1.data.length + 1).sum + 1 ≤ Rows.uptoBulk y.1 := by
  refine trod_recs (α := SecM × Value) (k := 10) (ec := encSec) (good := fun p => p.1.fits ∧ p.1.name.length ≤ 9223372036854775807 ∧ Bs W p.2 p.1.data) (e := 27) (by kernel_rfl) (by kernel_rfl) (by decide) (fun _ => rfl) (fun n cs y h hl => ?_) h
  obtain ⟨m, ds, hy, hf⟩ := cells_struct2 Try.underlying27 (by kernel_rfl) hl h
  obtain ⟨c0, c1, c2, c3, c4, c5, c6, c7, c8, c9, rfl⟩ := len_10 hl
  obtain ⟨x0, y0, e0, t0, -⟩ := hf 0 _ rfl
  obtain ⟨x1, y1, e1, t1, -⟩ := hf 1 _ rfl
  obtain ⟨x2, y2, e2, t2, -⟩ := hf 2 _ rfl
  obtain ⟨x3, y3, e3, t3, -⟩ := hf 3 _ rfl
  obtain ⟨x4, y4, e4, t4, -⟩ := hf 4 _ rfl
  obtain ⟨x5, y5, e5, t5, -⟩ := hf 5 _ rfl
  obtain ⟨x6, y6, e6, t6, -⟩ := hf 6 _ rfl
  obtain ⟨x7, y7, e7, t7, -⟩ := hf 7 _ rfl
  obtain ⟨x8, y8, e8, t8, -⟩ := hf 8 _ rfl
  obtain ⟨x9, y9, e9, t9, d9⟩ := hf 9 _ rfl
  cases e0; cases e1; cases e2; cases e3; cases e4; cases e5; cases e6; cases e7; cases e8; cases e9
  obtain ⟨s, q0, -, hs⟩ := DataW.trod_string Try.underlying9 t0
  obtain ⟨n1, q1, -, w1⟩ := DataW.trod_int Try.underlying25 t1
  obtain ⟨n2, q2, -, w2⟩ := DataW.trod_int Try.underlying24 t2
  obtain ⟨n3, q3, -, w3⟩ := DataW.trod_int Try.underlying24 t3
  obtain ⟨n4, q4, -, w4⟩ := DataW.trod_int Try.underlying24 t4
  obtain ⟨n5, q5, -, w5⟩ := DataW.trod_int Try.underlying24 t5
  obtain ⟨n6, q6, -, w6⟩ := DataW.trod_int Try.underlying25 t6
  obtain ⟨n7, q7, -, w7⟩ := DataW.trod_int Try.underlying25 t7
  obtain ⟨n8, q8, -, w8⟩ := DataW.trod_int Try.underlying24 t8
  obtain ⟨dl, hdl, hdb⟩ := trod_bytes t9
  cases q0; cases q1; cases q2; cases q3; cases q4; cases q5; cases q6; cases q7; cases q8
  have h1 := wf_u32 w1
  have h2 := wf_u64 w2
  have h3 := wf_u64 w3
  have h4 := wf_u64 w4
  have h5 := wf_u64 w5
  have h6 := wf_u32 w6
  have h7 := wf_u32 w7
  have h8 := wf_u64 w8
  unfold maxLen at hs
  refine ⟨(⟨s.data.toList, n1.toNat, n2.toNat, n3.toNat, n4.toNat, n5.toNat, n6.toNat, n7.toNat, n8.toNat, dl⟩, c9), ?_, ⟨⟨by show n1.toNat < _; omega, by show n2.toNat < _; omega, by show n3.toNat < _; omega, by show n4.toNat < _; omega, by show n5.toNat < _; omega, by show n6.toNat < _; omega, by show n7.toNat < _; omega, by show n8.toNat < _; omega⟩, by show s.data.toList.length ≤ _; simpa using hs, hdl⟩, ?_⟩
  · simp only [encSec, Int.toNat_of_nonneg h1.1, Int.toNat_of_nonneg h2.1, Int.toNat_of_nonneg h3.1, Int.toNat_of_nonneg h4.1, Int.toNat_of_nonneg h5.1, Int.toNat_of_nonneg h6.1, Int.toNat_of_nonneg h7.1, Int.toNat_of_nonneg h8.1]
  · rw [hy, Rows.uptoBulk]
    have := bulk_get d9
    show dl.length + 1 ≤ _
    omega
set_option maxRecDepth 100000 in
theorem reads_elf {H : Type} {enc : TypeId × Value → H} {W : World} {base : Nat} {v : Value} {d : DataW H} {p : List MemPlace} (hv : Value.okWide Try.prog W .any base 33 v) (h : DataW.Trod enc Try.prog W 0 (fun _ => true) true 33 v d p) :
    ∃ e L sv gv, ElfRead W v (Rows.uptoBulk d) e L sv gv := by
  obtain ⟨cs, rfl, hsz⟩ := okWide_struct Try.underlying33 hv
  have h6 : cs.toList.length = 6 := by simp [hsz]; kernel_rfl
  obtain ⟨fuel, hf0⟩ := h
  obtain ⟨m, ds, hy, hf⟩ := cells_struct2 (cs := cs.toList) Try.underlying33 (by kernel_rfl) h6 hf0
  obtain ⟨c0, c1, c2, c3, c4, c5, hcs⟩ := len_6 h6
  rw [hcs] at hf
  obtain ⟨x0, y0, e0, t0, -⟩ := hf 0 _ rfl
  obtain ⟨x1, y1, e1, t1, -⟩ := hf 1 _ rfl
  obtain ⟨x2, y2, e2, t2, -⟩ := hf 2 _ rfl
  obtain ⟨x3, y3, e3, t3, -⟩ := hf 3 _ rfl
  obtain ⟨x4, y4, e4, t4, d4⟩ := hf 4 _ rfl
  obtain ⟨x5, y5, e5, t5, d5⟩ := hf 5 _ rfl
  cases e0; cases e1; cases e2; cases e3; cases e4; cases e5
  obtain ⟨n0, q0, -, w0⟩ := DataW.trod_int Try.underlying3 t0
  obtain ⟨n1, q1, -, w1⟩ := DataW.trod_int Try.underlying3 t1
  obtain ⟨n2, q2, -, w2⟩ := DataW.trod_int Try.underlying25 t2
  obtain ⟨n3, q3, -, w3⟩ := DataW.trod_int Try.underlying24 t3
  obtain ⟨L, hL, hg, hs⟩ := trod_secs t4
  obtain ⟨G, hG, hgg, hgs⟩ := trod_segs t5
  cases q0; cases q1; cases q2; cases q3
  have h0 := wf_i64 w0
  have h1 := wf_i64 w1
  have h2 := wf_u32 w2
  have h3 := wf_u64 w3
  have hbp := bulk_pair (by decide : 4 < 5) d4 d5
  refine ⟨⟨n0, n1, n2.toNat, n3.toNat, L.map (·.1), G⟩, L, c4, c5, ?_, ⟨rfl, hL, fun p hp => (hg p hp).2.2, hG⟩, ⟨h0, h1, by show n2.toNat < _; omega, by show n3.toNat < _; omega, fun s hs => ?_, hgg⟩, fun s hs => ?_, ?_⟩
  · have : cs = #[.int .i64 n0, .int .i64 n1, .int .u32 n2, .int .u64 n3, c4, c5] := by
      rw [← Array.toList_inj, hcs]
    rw [this]
    simp only [elfV, Int.toNat_of_nonneg h2.1, Int.toNat_of_nonneg h3.1]
  · obtain ⟨p, hp, rfl⟩ := List.mem_map.1 hs
    exact (hg p hp).1
  · obtain ⟨p, hp, rfl⟩ := List.mem_map.1 hs
    exact (hg p hp).2.1
  · dsimp only at hy
    rw [hy, Rows.uptoBulk]
    show _ + G.length ≤ _
    omega
theorem ElfRead.ok {W : World} {v : Value} {n : Nat} {e : ElfM} {L : List (SecM × Value)} {sv gv : Value} (h : ElfRead W v n e L sv gv) (hn : n ≤ 1048576) : ElfOk e ∧ dsum e.secs ≤ 1048576 := by
  have h1 := h.size
  have hs : dsum e.secs + e.secs.length = (L.map fun p => p.1.data.length + 1).sum := by
    rw [h.at_.secs]
    clear h h1
    induction L with
    | nil => rfl
    | cons p L ih =>
      unfold dsum at *
      simp only [List.map_cons, List.sum_cons, List.length_cons] at *
      omega
  refine ⟨⟨h.fits, by omega, h.names, by omega, by omega⟩, by omega⟩
end Go.Proofs.Ytmpelmjhimalpaa
namespace Go.Proofs.Ytmpelmjhimalpaa
open Go.ChangeShapes Go.WideShapes Go.ChangeAt Go.RowKit Go.Fd
set_option maxRecDepth 100000 in
theorem loadZerosUpto_lifted (os : Os) (started : os.Started) (H : Type) (enc : TypeId × Value → H) (F : Stop.Interp) :
    ReturnsInHanded {} Try.checked os 4 .any ((Rows.OpenSpec.upto Rows.loadZerosSpec).pre6 enc Try.prog Try.f4 Rows.loadZerosUptoRow.domain false) (((Rows.OpenSpec.upto Rows.loadZerosSpec).at F).post enc Try.prog Try.f4 false true false false) := by
  refine handed_cond (C := Try.checked) (s := (Rows.OpenSpec.upto Rows.loadZerosSpec)) (k := Rows.uptoSmall) rfl Try.own started (by kernel_rfl) Try.func4
    (OpenSpec.witness (enc := enc) (C := Try.checked) (s := (Rows.OpenSpec.upto Rows.loadZerosSpec)) (k := Rows.uptoSmall) rfl false ⟨#[], #[.agg #[.int .i64 0, .int .i64 0, .int .u32 0, .int .u64 0, .slice none 0 0, .slice none 0 0], .int .i64 0], []⟩ 8 (by kernel_rfl) (by kernel_rfl) (by kernel_rfl)
      (x := ([.agg [.lit (.int .i64 0), .lit (.int .i64 0), .lit (.int .u32 0), .lit (.int .u64 0), .nil, .nil], .lit (.int .i64 0)], [], [])) (by kernel_rfl) rfl (by kernel_rfl)) ?_
  intro W base args ds gs before hval0 hW hk hz hsh
  have hval : ∀ (j : Nat) t v, Try.f4.params[j]? = some t → args[j]? = some v → Value.okWide Try.prog W .any base t v := hval0
  have hW' := hW
  obtain ⟨p, q, hA0, hV, rfl, hfz, hnd⟩ := hW
  have hA : DataW.TrodAll enc Try.prog W 0 (fun _ => true) true Try.f4.params.toList args.toList ds p := hA0
  have hlt : ∀ x ∈ p, x.block < W.heap.size := fun x hx => hW'.lt x (by simp [hx])
  have hback : ∀ W', Below W.heap.size W W' → DataW.TrodAll enc Try.prog W' 0 (fun b => decide (b < W.heap.size)) true Try.f4.params.toList args.toList ds p :=
    fun W' hb => belowAllB (by kernel_rfl) hb hA hlt
  rw [Try.params4] at hA hval
  obtain ⟨v0, vs0, d0, ds0, p0, q0, hargs, rfl, rfl, h0, r0⟩ := trodAll_cons hA
  obtain ⟨v1, vs1, d1, ds1, p1, q1, rfl, rfl, rfl, h1, r1⟩ := trodAll_cons r0
  obtain ⟨rfl, rfl, rfl⟩ := trodAll_nil r1
  obtain rfl : args = #[v0, v1] := by
    cases args
    simp at hargs
    simp [hargs]
  clear hargs
  obtain ⟨rfl, rfl⟩ := trodVars_none hV
  have fin : ∀ (e : Ending) (W' : World), (e = .returned (.bool true) ∧ Below W.heap.size W W') → ∃ v, e = Ending.returned v ∧ ((Rows.OpenSpec.upto Rows.loadZerosSpec).at F).post enc Try.checked.prog Try.f4 false true false false W #[v0, v1] v W' := by
    rintro e W' ⟨rfl, hb⟩
    exact ⟨_, rfl, _, _, _, [], _, [], hW', trodAll_mk1 (shut_bool Try.underlying4 true), hback W' hb, rfl, hb.frame _, fun h => by cases h⟩
  obtain ⟨e, L, sv, gv, hr0⟩ := reads_elf (hval 0 33 v0 rfl rfl) h0
  have hb : Rows.uptoBulk d0 ≤ 1048576 := by
    have := of_decide_eq_true hk
    simp [Rows.uptoBulkAll] at this
    omega
  obtain rfl := hr0.val
  obtain ⟨k, rfl, rfl, rfl, w1⟩ := open_int Try.underlying3 (hval 1 3 v1 rfl rfl) h1
  exact (loadZeros_any e L sv gv k W hr0.at_ (hr0.ok hb).1 (wf_i64' w1).2).mono fin
theorem loadZerosUpto_holds : Rows.LoadZerosUptoSaid :=
  OpenClaim.holds_of_cond 4 Try.f4 rfl rfl rfl rfl rfl rfl rfl ⟨rfl, rfl, rfl, rfl, rfl⟩ rfl rfl rfl rfl rfl (by kernel_rfl) Try.func4 (by kernel_rfl)
    (of_decide_eq_true (by kernel_rfl)) (by unfold Func.isWrapper; rw [if_neg (of_decide_eq_false (by kernel_rfl))]; exact ⟨rfl, rfl⟩)
    (fun os started H enc _ F => loadZerosUpto_lifted os started H enc F)
end Go.Proofs.Ytmpelmjhimalpaa
#print axioms Go.Proofs.Ytmpelmjhimalpaa.loadZerosUpto_holds
