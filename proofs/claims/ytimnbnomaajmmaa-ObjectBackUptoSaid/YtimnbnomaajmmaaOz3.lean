/-
  Part 3 of 7: laws and walks for objectBackUpto_holds; no condition of its own.
-/
import Derived.Test.YtimnbnomaajmmaaOz2
import Derived.Defers
import Derived.Recover
import Derived.Laws.ResultCell
import Derived.Laws.OwnMore
import Derived.WalkSpells
import Derived.Lib.SliceRun
import Derived.Laws.Pointers
namespace Go.Proofs.Ytimnbnomaajmmaa
open Go.RowKit Go.Fd
def putL (size : Nat) (ns : List Nat) : List UInt8 := ns.flatMap (fixed · size)
theorem putL_len (size : Nat) (ns : List Nat) : (putL size ns).length = ns.length * size := flat_len' (fun n => length_fixed n size) ns
def headB (e : ElfM) (heads : Nat) : List UInt8 :=
  [127, 69, 76, 70, 2, 1, 1] ++ List.replicate 9 0 ++ putL 2 [u64of e.typ, mach e.target] ++ putL 4 [1] ++ putL 8 [e.entry, if segsB e = true then 64 else 0, heads] ++ putL 4 [e.flags] ++ putL 2 [64, 56, e.segs.length, 64, e.secs.length + 2, e.secs.length + 1]
theorem headB_len (e : ElfM) (heads : Nat) : (headB e heads).length = 64 := by
  unfold headB
  simp only [List.length_append, putL_len, List.length_replicate]
  rfl
theorem lit64_2 (x y : Int) (w : World) : (Instr.buildSlice 102 2 #[(0, .int .u64 x), (1, .int .u64 y)]).run Try.prog w = .ok (.slice (some ⟨w.heap.size, 0, none⟩) 2 2) (w.alloc (.cells #[.int .u64 x, .int .u64 y] 44)) := by kernel_rfl
theorem lit64_4 (x y z u : Int) (w : World) : (Instr.buildSlice 102 4 #[(0, .int .u64 x), (1, .int .u64 y), (2, .int .u64 z), (3, .int .u64 u)]).run Try.prog w = .ok (.slice (some ⟨w.heap.size, 0, none⟩) 4 4) (w.alloc (.cells #[.int .u64 x, .int .u64 y, .int .u64 z, .int .u64 u] 44)) := by kernel_rfl
theorem run_l2 {x y : Operand} {m n : Int} {a : Act} {w : World} {d : Option Tmp} {ty : TypeId} {pos : String} {aft : Array Edge} {g : Option (Nat × Bool)} (hx : a.eval x = .int .u64 m) (hy : a.eval y = .int .u64 n) :
    (execOp a.eval ⟨d, .buildSlice 102 2 #[(0, x), (1, y)], ty, pos, aft, g⟩).run Try.prog w = .ok (.value (.slice (some ⟨w.heap.size, 0, none⟩) 2 2)) (w.alloc (.cells #[.int .u64 m, .int .u64 n] 44)) := by
  simp only [execOp, List.map_toArray, List.map_cons, List.map_nil, hx, hy, Sem.run_bind, lit64_2, Result.andThen_ok]
  rfl
theorem run_l4 {x y z u : Operand} {m n p q : Int} {a : Act} {w : World} {d : Option Tmp} {ty : TypeId} {pos : String} {aft : Array Edge} {g : Option (Nat × Bool)} (hx : a.eval x = .int .u64 m) (hy : a.eval y = .int .u64 n) (hz : a.eval z = .int .u64 p) (hu : a.eval u = .int .u64 q) :
    (execOp a.eval ⟨d, .buildSlice 102 4 #[(0, x), (1, y), (2, z), (3, u)], ty, pos, aft, g⟩).run Try.prog w = .ok (.value (.slice (some ⟨w.heap.size, 0, none⟩) 4 4)) (w.alloc (.cells #[.int .u64 m, .int .u64 n, .int .u64 p, .int .u64 q] 44)) := by
  simp only [execOp, List.map_toArray, List.map_cons, List.map_nil, hx, hy, hz, hu, Sem.run_bind, lit64_4, Result.andThen_ok]
  rfl
set_option maxHeartbeats 4000000 in
set_option maxRecDepth 100000 in
theorem headF_any (e : ElfM) (nl gn : Nat) (a ga : Option Addr) (ca gc heads g base : Nat) (w : World) (hf : FileAt w base g []) (hnl : nl = e.secs.length) (hgn : gn = e.segs.length) (hfit : e.fits) (ht : e.typ = 1 ∨ e.typ = 2) (hn : nl ≤ 1000) (hg : gn ≤ 1000) (hh : heads ≤ 1000000000000) (hbase : base ≤ w.heap.size) :
    Calls Try.prog 43 #[.pointer (some ⟨g, 0, none⟩), elfV e (.slice a nl ca) (.slice ga gn gc), .int .i64 heads] w fun r w' => r = .returned (.tuple #[]) ∧ FileAt w' base g (headB e heads) ∧ Below base w w' ∧ KeepF g w w' := by
  have HF := Lib.hid hf
  have HFIT := Lib.hid hfit
  have hglt : g < w.heap.size := by obtain ⟨v, h1, -⟩ := hf; exact (Array.getElem?_eq_some_iff.1 h1).1
  obtain ⟨ty, hty, hty2⟩ : ∃ ty : Nat, e.typ = (ty : Int) ∧ ty ≤ 2 := by
    rcases ht with h | h
    · exact ⟨1, h, by omega⟩
    · exact ⟨2, h, by omega⟩
  have HTY := Lib.hid (show u64of e.typ = ty by rw [hty]; unfold u64of; omega)
  have HMC := Lib.hid (fun w => machine_any e.target w)
  have hml := mach_le e.target
  have HHB : Hid (headB e heads = [127, 69, 76, 70, 2, 1, 1] ++ List.replicate 9 0 ++ putL 2 [ty, mach e.target] ++ putL 4 [1] ++ putL 8 [e.entry, if decide (0 < gn) = true then 64 else 0, heads] ++ putL 4 [e.flags] ++ putL 2 [64, 56, gn, 64, nl + 2, nl + 1]) := by
    unfold headB segsB
    rw [HTY.out, hnl, hgn]
    exact rfl
  have HEN := Lib.hid hfit.entry
  have HFL := Lib.hid hfit.flags
  have hfl := hfit.flags
  generalize mach e.target = mt at *
  generalize headB e heads = HBY at *
  have HHT := Lib.hid ht
  clear hf hfit ht hnl hgn HTY
  obtain ⟨etyp, etarget, eflags, eentry, esecs, esegs⟩ := e
  dsimp only at *
  subst hty
  clear HFIT HHT
  go_enter Try.func43, Try.ntmps43
  go_wp2_with (first
    | ((with_reducible show wpList _ _ _ (⟨_, .box _ _, _, _, _, _⟩ :: _) _ _); go_must (refine wpList_box rfl ?_; intro w1 hx1 hb1 hs1; obtain ⟨c0, c1, c2, c3, c4, c5⟩ := elf_box (e := ⟨ty, etarget, eflags, eentry, esecs, esegs⟩) hx1; obtain ⟨v, hg1, hbg, hov⟩ := HF.out; have HG1 := Lib.hid (heap_below hb1 hg1); have HOV1 := Lib.hid (hov.mono hb1); have HB1 := Lib.hid (hb1.mono hbase); obtain ⟨m0, ad0, cap0, hm0, rfl, _, _⟩ := hov.shape; have z0 := cell_rec HG1.out 0; simp only [List.getElem?_toArray, List.getElem?_cons_zero] at z0; clear hg1 hov))
    | ((with_reducible show wpList _ _ _ (⟨some 12, _, _, _, _, _⟩ :: _) _ _); go_must (refine wpList_catF (HOV1.out.mono (below_alloc _ _)) (bs_heap (l := [127, 69, 76, 70, 2, 1, 1]) (n := 7) (heap_alloc_last _ _) rfl rfl) rfl rfl (by simp) (Nat.le_trans hbase (by rw [World.size_alloc]; have := HB1.out.size; omega)) (fun v3 w3 hv3 hg3 hb3 => ?_) rfl; have HG3 := Lib.hid (keeps_own (HOV1.out.mono (below_alloc _ _)) hg3 _ _ _ _ (by decide) (heap_below (below_alloc _ _) HG1.out)); have HX3 := Lib.hid (keeps_own (HOV1.out.mono (below_alloc _ _)) hg3 _ _ _ _ (by decide) (heap_below (below_alloc _ _) hx1)); have HV3 := Lib.hid hv3; have HB3 := Lib.hid ((HB1.out.trans ((below_alloc w1 _).mono (Nat.le_trans hbase HB1.out.size))).trans hb3); have HK3 := Lib.hid (((KeepF.below (g := g) hb1).trans (KeepF.below (below_alloc w1 _))).trans (KeepF.of (keeps_own (HOV1.out.mono (below_alloc _ _)) hg3))); clear hv3 hg3 hb3))
    | ((with_reducible show wpList _ _ _ (⟨none, .store _ _ _, _, _, _, _⟩ :: _) _ _); go_must (refine wpList_storeF HG3.out hbg HV3.out rfl rfl (Nat.le_trans hbase HB3.out.size) ?_; intro w4 hf4 hb4 hk4)))
  have HF4 := Lib.hid hf4
  have HX4 := Lib.hid (hk4 _ _ _ _ (by omega) (by decide) HX3.out)
  have HB4 := Lib.hid (HB3.out.trans hb4)
  have HK4 := Lib.hid (HK3.out.trans hk4)
  clear hf4 hb4 hk4 c0 c1 c2 c3 c4 c5 hx1 z0
  refine (fillF_any 9 g base 16 _ w4 HF4.out rfl (by decide) (Nat.le_trans hbase HB4.out.size)).mono ?_
  rintro r w5 ⟨rfl, hf, hb, hk⟩
  have HF5 := Lib.hid hf
  have HX5 := Lib.hid (hk _ _ _ _ (by omega) (by decide) HX4.out)
  have HB5 := Lib.hid (HB4.out.trans hb)
  have HK5 := Lib.hid (HK4.out.trans hk)
  clear hf hb hk
  obtain ⟨c0, c1, c2, c3, c4, c5⟩ := elf_box (e := ⟨ty, etarget, eflags, eentry, esecs, esegs⟩) HX5.out
  by_cases hgs : 0 < gn
  · have hdec := decide_eq_true hgs
    go_wp2
    have hAB := fun (x : Above w5) (b k : Nat) (h : b < w5.heap.size) => Above.cell x b k h
    have hblt : w.heap.size < w5.heap.size := block_lt c0
    refine wp_region_walk 8 [(6, .is (.int .u64 (mt : Int))), (7, .lit w5.heap.size 44 #[.int .u64 (ty : Int), .int .u64 (mt : Int)])] (by kernel_rfl) (by kernel_rfl) ?_
    simp only [List.take_succ_cons, List.take_zero, List.drop_succ_cons, List.drop_zero]
    repeat (first
      | (refine walk_quiet rfl rfl rfl ?_; intro K hK; go_big_quiet_op; go_big_quiet_on)
      | (refine walk_is rfl rfl (fun wx hwx _ => WpYld.callIs (run_callL (vals := [.int .i64 etarget]) Try.func65 (by kernel_rfl) rfl rfl) (HMC.out wx)) ?_; go_frame)
      | (refine walk_lit rfl rfl (fun wx hwx _ => WpYld.val (run_l2 rfl rfl) (Yld.lit_mk _ hwx).1 (Yld.lit_mk _ hwx).2) (fun gb => ?_); go_frame))
    refine walk_nil ?_
    intro wz hbz hF
    obtain ⟨hgB, hgl⟩ := Yld.lit_got (hF 7 _ 27 _ rfl rfl rfl rfl)
    have HL6 := Lib.hid hgl
    have HF6 := Lib.hid (HF5.out.mono hbz)
    have HX6 := Lib.hid (heap_below hbz HX5.out)
    have HB6 := Lib.hid (HB5.out.trans (hbz.mono (Nat.le_trans hbase HB5.out.size)))
    have HK6 := Lib.hid (HK5.out.trans (KeepF.below (g := g) hbz))
    have hgbg : gb ≠ g := fun h => by have := HB5.out.size; omega
    clear hF hbz hgl hAB hblt c0 c1 c2 c3 c4 c5
    go_wp2_with fail
    refine (putF_any [ty, mt] 2 _ g base _ _ HF6.out HL6.out hgbg (by decide) (by simp only [List.length_append, List.length_replicate, List.length_cons, List.length_nil]; omega) (Nat.le_of_ble_eq_true rfl) (by intro n hn; have h1 := HEN.out; have h2 := HFL.out; simp only [List.mem_cons, List.not_mem_nil, or_false] at hn; omega) (Nat.le_trans hbase HB6.out.size) 2 (Nat.le_refl _)).mono ?_
    rintro r w7 ⟨rfl, hf, hb, hk⟩
    have HF7 := Lib.hid hf
    have HX7 := Lib.hid (hk _ _ _ _ (by omega) (by decide) HX6.out)
    have HB7 := Lib.hid (HB6.out.trans hb)
    have HK7 := Lib.hid (HK6.out.trans hk)
    clear hf hb hk
    obtain ⟨c0, c1, c2, c3, c4, c5⟩ := elf_box (e := ⟨ty, etarget, eflags, eentry, esecs, esegs⟩) HX7.out
    go_wp2_with fail
    clear c0 c1 c2 c3 c4 c5
    refine (putF_any [1] 4 _ g base _ _ (HF7.out.mono (below_alloc _ _)) (heap_alloc_last _ _) (fun h => by have := HB7.out.size; omega) (by decide) (by simp only [List.length_append, flat_len' (fun n => length_fixed n _), List.length_replicate, List.length_cons, List.length_nil]; omega) (Nat.le_of_ble_eq_true rfl) (by intro n hn; have h1 := HEN.out; have h2 := HFL.out; simp only [List.mem_cons, List.not_mem_nil, or_false] at hn; omega) (Nat.le_trans hbase (by rw [World.size_alloc]; have := HB7.out.size; omega)) 1 (Nat.le_refl _)).mono ?_
    rintro r w8 ⟨rfl, hf, hb, hk⟩
    have HF8 := Lib.hid hf
    have HX8 := Lib.hid (hk _ _ _ _ (by omega) (by decide) (heap_below (below_alloc _ _) HX7.out))
    have HB8 := Lib.hid ((HB7.out.trans ((below_alloc w7 _).mono (Nat.le_trans hbase HB7.out.size))).trans hb)
    have HK8 := Lib.hid ((HK7.out.trans (KeepF.below (below_alloc w7 _))).trans hk)
    clear hf hb hk
    obtain ⟨c0, c1, c2, c3, c4, c5⟩ := elf_box (e := ⟨ty, etarget, eflags, eentry, esecs, esegs⟩) HX8.out
    go_wp2_with fail
    clear c0 c1 c2 c3 c4 c5
    refine (putF_any [eentry, 64, heads] 8 _ g base _ _ (HF8.out.mono (below_alloc _ _)) (heap_alloc_last _ _) (fun h => by have := HB8.out.size; omega) (by decide) (by simp only [List.length_append, flat_len' (fun n => length_fixed n _), List.length_replicate, List.length_cons, List.length_nil]; omega) (Nat.le_of_ble_eq_true rfl) (by intro n hn; have h1 := HEN.out; have h2 := HFL.out; simp only [List.mem_cons, List.not_mem_nil, or_false] at hn; omega) (Nat.le_trans hbase (by rw [World.size_alloc]; have := HB8.out.size; omega)) 3 (Nat.le_refl _)).mono ?_
    rintro r w9 ⟨rfl, hf, hb, hk⟩
    have HF9 := Lib.hid hf
    have HX9 := Lib.hid (hk _ _ _ _ (by omega) (by decide) (heap_below (below_alloc _ _) HX8.out))
    have HB9 := Lib.hid ((HB8.out.trans ((below_alloc w8 _).mono (Nat.le_trans hbase HB8.out.size))).trans hb)
    have HK9 := Lib.hid ((HK8.out.trans (KeepF.below (below_alloc w8 _))).trans hk)
    clear hf hb hk
    obtain ⟨c0, c1, c2, c3, c4, c5⟩ := elf_box (e := ⟨ty, etarget, eflags, eentry, esecs, esegs⟩) HX9.out
    go_wp2_with fail
    clear c0 c1 c2 c3 c4 c5
    refine (putF_any [eflags] 4 _ g base _ _ (HF9.out.mono (below_alloc _ _)) (heap_alloc_last _ _) (fun h => by have := HB9.out.size; omega) (by decide) (by simp only [List.length_append, flat_len' (fun n => length_fixed n _), List.length_replicate, List.length_cons, List.length_nil]; omega) (Nat.le_of_ble_eq_true rfl) (by intro n hn; have h1 := HEN.out; have h2 := HFL.out; simp only [List.mem_cons, List.not_mem_nil, or_false] at hn; omega) (Nat.le_trans hbase (by rw [World.size_alloc]; have := HB9.out.size; omega)) 1 (Nat.le_refl _)).mono ?_
    rintro r w10 ⟨rfl, hf, hb, hk⟩
    have HF10 := Lib.hid hf
    have HX10 := Lib.hid (hk _ _ _ _ (by omega) (by decide) (heap_below (below_alloc _ _) HX9.out))
    have HB10 := Lib.hid ((HB9.out.trans ((below_alloc w9 _).mono (Nat.le_trans hbase HB9.out.size))).trans hb)
    have HK10 := Lib.hid ((HK9.out.trans (KeepF.below (below_alloc w9 _))).trans hk)
    clear hf hb hk
    obtain ⟨c0, c1, c2, c3, c4, c5⟩ := elf_box (e := ⟨ty, etarget, eflags, eentry, esecs, esegs⟩) HX10.out
    go_wp2_with fail
    clear c0 c1 c2 c3 c4 c5
    refine (putF_any [64, 56, gn, 64, nl + 2, nl + 1] 2 _ g base _ _ (HF10.out.mono (below_alloc _ _)) (heap_alloc_last _ _) (fun h => by have := HB10.out.size; omega) (by decide) (by simp only [List.length_append, flat_len' (fun n => length_fixed n _), List.length_replicate, List.length_cons, List.length_nil]; omega) (Nat.le_of_ble_eq_true rfl) (by intro n hn; have h1 := HEN.out; have h2 := HFL.out; simp only [List.mem_cons, List.not_mem_nil, or_false] at hn; omega) (Nat.le_trans hbase (by rw [World.size_alloc]; have := HB10.out.size; omega)) 6 (Nat.le_refl _)).mono ?_
    rintro r w11 ⟨rfl, hf, hb, hk⟩
    have HF11 := Lib.hid hf
    have HX11 := Lib.hid (hk _ _ _ _ (by omega) (by decide) (heap_below (below_alloc _ _) HX10.out))
    have HB11 := Lib.hid ((HB10.out.trans ((below_alloc w10 _).mono (Nat.le_trans hbase HB10.out.size))).trans hb)
    have HK11 := Lib.hid ((HK10.out.trans (KeepF.below (below_alloc w10 _))).trans hk)
    clear hf hb hk
    go_wp2
    go_end0
    refine ⟨rfl, ?_, HB11.out, HK11.out⟩
    rw [HHB.out]
    rw [hdec]
    exact HF11.out
  · have hdec := decide_eq_false hgs
    go_wp2
    have hAB := fun (x : Above w5) (b k : Nat) (h : b < w5.heap.size) => Above.cell x b k h
    have hblt : w.heap.size < w5.heap.size := block_lt c0
    refine wp_region_walk 8 [(6, .is (.int .u64 (mt : Int))), (7, .lit w5.heap.size 44 #[.int .u64 (ty : Int), .int .u64 (mt : Int)])] (by kernel_rfl) (by kernel_rfl) ?_
    simp only [List.take_succ_cons, List.take_zero, List.drop_succ_cons, List.drop_zero]
    repeat (first
      | (refine walk_quiet rfl rfl rfl ?_; intro K hK; go_big_quiet_op; go_big_quiet_on)
      | (refine walk_is rfl rfl (fun wx hwx _ => WpYld.callIs (run_callL (vals := [.int .i64 etarget]) Try.func65 (by kernel_rfl) rfl rfl) (HMC.out wx)) ?_; go_frame)
      | (refine walk_lit rfl rfl (fun wx hwx _ => WpYld.val (run_l2 rfl rfl) (Yld.lit_mk _ hwx).1 (Yld.lit_mk _ hwx).2) (fun gb => ?_); go_frame))
    refine walk_nil ?_
    intro wz hbz hF
    obtain ⟨hgB, hgl⟩ := Yld.lit_got (hF 7 _ 27 _ rfl rfl rfl rfl)
    have HL6 := Lib.hid hgl
    have HF6 := Lib.hid (HF5.out.mono hbz)
    have HX6 := Lib.hid (heap_below hbz HX5.out)
    have HB6 := Lib.hid (HB5.out.trans (hbz.mono (Nat.le_trans hbase HB5.out.size)))
    have HK6 := Lib.hid (HK5.out.trans (KeepF.below (g := g) hbz))
    have hgbg : gb ≠ g := fun h => by have := HB5.out.size; omega
    clear hF hbz hgl hAB hblt c0 c1 c2 c3 c4 c5
    go_wp2_with fail
    refine (putF_any [ty, mt] 2 _ g base _ _ HF6.out HL6.out hgbg (by decide) (by simp only [List.length_append, List.length_replicate, List.length_cons, List.length_nil]; omega) (Nat.le_of_ble_eq_true rfl) (by intro n hn; have h1 := HEN.out; have h2 := HFL.out; simp only [List.mem_cons, List.not_mem_nil, or_false] at hn; omega) (Nat.le_trans hbase HB6.out.size) 2 (Nat.le_refl _)).mono ?_
    rintro r w7 ⟨rfl, hf, hb, hk⟩
    have HF7 := Lib.hid hf
    have HX7 := Lib.hid (hk _ _ _ _ (by omega) (by decide) HX6.out)
    have HB7 := Lib.hid (HB6.out.trans hb)
    have HK7 := Lib.hid (HK6.out.trans hk)
    clear hf hb hk
    obtain ⟨c0, c1, c2, c3, c4, c5⟩ := elf_box (e := ⟨ty, etarget, eflags, eentry, esecs, esegs⟩) HX7.out
    go_wp2_with fail
    clear c0 c1 c2 c3 c4 c5
    refine (putF_any [1] 4 _ g base _ _ (HF7.out.mono (below_alloc _ _)) (heap_alloc_last _ _) (fun h => by have := HB7.out.size; omega) (by decide) (by simp only [List.length_append, flat_len' (fun n => length_fixed n _), List.length_replicate, List.length_cons, List.length_nil]; omega) (Nat.le_of_ble_eq_true rfl) (by intro n hn; have h1 := HEN.out; have h2 := HFL.out; simp only [List.mem_cons, List.not_mem_nil, or_false] at hn; omega) (Nat.le_trans hbase (by rw [World.size_alloc]; have := HB7.out.size; omega)) 1 (Nat.le_refl _)).mono ?_
    rintro r w8 ⟨rfl, hf, hb, hk⟩
    have HF8 := Lib.hid hf
    have HX8 := Lib.hid (hk _ _ _ _ (by omega) (by decide) (heap_below (below_alloc _ _) HX7.out))
    have HB8 := Lib.hid ((HB7.out.trans ((below_alloc w7 _).mono (Nat.le_trans hbase HB7.out.size))).trans hb)
    have HK8 := Lib.hid ((HK7.out.trans (KeepF.below (below_alloc w7 _))).trans hk)
    clear hf hb hk
    obtain ⟨c0, c1, c2, c3, c4, c5⟩ := elf_box (e := ⟨ty, etarget, eflags, eentry, esecs, esegs⟩) HX8.out
    go_wp2_with fail
    clear c0 c1 c2 c3 c4 c5
    refine (putF_any [eentry, 0, heads] 8 _ g base _ _ (HF8.out.mono (below_alloc _ _)) (heap_alloc_last _ _) (fun h => by have := HB8.out.size; omega) (by decide) (by simp only [List.length_append, flat_len' (fun n => length_fixed n _), List.length_replicate, List.length_cons, List.length_nil]; omega) (Nat.le_of_ble_eq_true rfl) (by intro n hn; have h1 := HEN.out; have h2 := HFL.out; simp only [List.mem_cons, List.not_mem_nil, or_false] at hn; omega) (Nat.le_trans hbase (by rw [World.size_alloc]; have := HB8.out.size; omega)) 3 (Nat.le_refl _)).mono ?_
    rintro r w9 ⟨rfl, hf, hb, hk⟩
    have HF9 := Lib.hid hf
    have HX9 := Lib.hid (hk _ _ _ _ (by omega) (by decide) (heap_below (below_alloc _ _) HX8.out))
    have HB9 := Lib.hid ((HB8.out.trans ((below_alloc w8 _).mono (Nat.le_trans hbase HB8.out.size))).trans hb)
    have HK9 := Lib.hid ((HK8.out.trans (KeepF.below (below_alloc w8 _))).trans hk)
    clear hf hb hk
    obtain ⟨c0, c1, c2, c3, c4, c5⟩ := elf_box (e := ⟨ty, etarget, eflags, eentry, esecs, esegs⟩) HX9.out
    go_wp2_with fail
    clear c0 c1 c2 c3 c4 c5
    refine (putF_any [eflags] 4 _ g base _ _ (HF9.out.mono (below_alloc _ _)) (heap_alloc_last _ _) (fun h => by have := HB9.out.size; omega) (by decide) (by simp only [List.length_append, flat_len' (fun n => length_fixed n _), List.length_replicate, List.length_cons, List.length_nil]; omega) (Nat.le_of_ble_eq_true rfl) (by intro n hn; have h1 := HEN.out; have h2 := HFL.out; simp only [List.mem_cons, List.not_mem_nil, or_false] at hn; omega) (Nat.le_trans hbase (by rw [World.size_alloc]; have := HB9.out.size; omega)) 1 (Nat.le_refl _)).mono ?_
    rintro r w10 ⟨rfl, hf, hb, hk⟩
    have HF10 := Lib.hid hf
    have HX10 := Lib.hid (hk _ _ _ _ (by omega) (by decide) (heap_below (below_alloc _ _) HX9.out))
    have HB10 := Lib.hid ((HB9.out.trans ((below_alloc w9 _).mono (Nat.le_trans hbase HB9.out.size))).trans hb)
    have HK10 := Lib.hid ((HK9.out.trans (KeepF.below (below_alloc w9 _))).trans hk)
    clear hf hb hk
    obtain ⟨c0, c1, c2, c3, c4, c5⟩ := elf_box (e := ⟨ty, etarget, eflags, eentry, esecs, esegs⟩) HX10.out
    go_wp2_with fail
    clear c0 c1 c2 c3 c4 c5
    refine (putF_any [64, 56, gn, 64, nl + 2, nl + 1] 2 _ g base _ _ (HF10.out.mono (below_alloc _ _)) (heap_alloc_last _ _) (fun h => by have := HB10.out.size; omega) (by decide) (by simp only [List.length_append, flat_len' (fun n => length_fixed n _), List.length_replicate, List.length_cons, List.length_nil]; omega) (Nat.le_of_ble_eq_true rfl) (by intro n hn; have h1 := HEN.out; have h2 := HFL.out; simp only [List.mem_cons, List.not_mem_nil, or_false] at hn; omega) (Nat.le_trans hbase (by rw [World.size_alloc]; have := HB10.out.size; omega)) 6 (Nat.le_refl _)).mono ?_
    rintro r w11 ⟨rfl, hf, hb, hk⟩
    have HF11 := Lib.hid hf
    have HX11 := Lib.hid (hk _ _ _ _ (by omega) (by decide) (heap_below (below_alloc _ _) HX10.out))
    have HB11 := Lib.hid ((HB10.out.trans ((below_alloc w10 _).mono (Nat.le_trans hbase HB10.out.size))).trans hb)
    have HK11 := Lib.hid ((HK10.out.trans (KeepF.below (below_alloc w10 _))).trans hk)
    clear hf hb hk
    go_wp2
    go_end0
    refine ⟨rfl, ?_, HB11.out, HK11.out⟩
    rw [HHB.out]
    rw [hdec]
    exact HF11.out
end Go.Proofs.Ytimnbnomaajmmaa
namespace Go.Fd
theorem plF_pre {g : Bool} {n : Nat} {l : List SecM} {k : Nat} : ∀ j, k ≤ j → j ≤ l.length → (plF g n (l.take j)).1.take k = (plF g n (l.take k)).1 := by
  intro j
  induction j with
  | zero => intro h1 _; obtain rfl : k = 0 := by omega
            rfl
  | succ j ih =>
    intro h1 h2
    rcases Nat.lt_or_ge j k with h3 | h3
    · obtain rfl : k = j + 1 := by omega
      rw [List.take_of_length_le]
      rw [plF_len, List.length_take]
      omega
    · have hx : l[j]? = some l[j] := List.getElem?_eq_getElem (by omega)
      rw [plF_step hx]
      show ((plF g n (l.take j)).1 ++ [_]).take k = _
      rw [List.take_append_of_le_length (by rw [plF_len, List.length_take]; omega), ih h3 (by omega)]
theorem plF_get {g : Bool} {n : Nat} {l : List SecM} {k : Nat} {x : SecM} (h : l[k]? = some x) : (plF g n l).1[k]? = some (placeS g (plF g n (l.take k)).2 x) := by
  have hk := (List.getElem?_eq_some_iff.1 h).1
  have h1 := plF_pre (g := g) (n := n) (l := l) (k := k + 1) l.length (by omega) (Nat.le_refl _)
  rw [List.take_length, plF_step h] at h1
  have h2 : ((plF g n l).1.take (k + 1))[k]? = (plF g n l).1[k]? := by rw [List.getElem?_take, if_pos (by omega)]
  rw [← h2, h1]
  show ((plF g n (l.take k)).1 ++ [_])[k]? = _
  have h3 : (plF g n (l.take k)).1.length = k := by rw [plF_len, List.length_take]; omega
  rw [List.getElem?_append_right (by omega), h3, Nat.sub_self]
  rfl
/-- Sections' bytes behind others, each at its place. -/
def bodyF (acc : List UInt8) (l : List (SecM × Nat)) : List UInt8 := l.foldl (fun acc p => acc ++ List.replicate (p.2 - acc.length) 0 ++ p.1.data) acc
theorem bodyF_step {acc : List UInt8} {l : List (SecM × Nat)} {k : Nat} {x : SecM × Nat} (h : l[k]? = some x) : bodyF acc (l.take (k + 1)) = bodyF acc (l.take k) ++ List.replicate (x.2 - (bodyF acc (l.take k)).length) 0 ++ x.1.data := by
  rw [List.take_add_one, h]
  unfold bodyF
  rw [List.foldl_append]
  rfl
theorem zipP {g : Bool} {n : Nat} {l : List SecM} {k : Nat} {x : SecM} (h : l[k]? = some x) : (l.zip (plF g n l).1)[k]? = some (x, placeS g (plF g n (l.take k)).2 x) := by
  rw [List.getElem?_zip_eq_some]
  exact ⟨h, plF_get h⟩
theorem body_len {g : Bool} {n : Nat} {l : List SecM} {acc : List UInt8} (ha : acc.length = n) (hp : ∀ s ∈ l, powB s.align = true) : ∀ k, k ≤ l.length → (bodyF acc ((l.zip (plF g n l).1).take k)).length = (plF g n (l.take k)).2 := by
  intro k
  induction k with
  | zero => intro _; exact ha
  | succ k ih =>
    intro hk
    have hx : l[k]? = some l[k] := List.getElem?_eq_getElem (by omega)
    have h1 := ih (by omega)
    have h2 := placeS_le (g := g) (p := (plF g n (l.take k)).2) (hp _ (List.mem_of_getElem? hx))
    rw [bodyF_step (zipP hx), plF_step hx, List.length_append, List.length_append, List.length_replicate, h1]
    show _ + _ + _ = placeS _ _ _ + _
    dsimp only
    omega
end Go.Fd
namespace Go.Proofs.Ytimnbnomaajmmaa
open Go.RowKit Go.Fd
def segBy (s : SegM) : List UInt8 := putL 4 [s.typ, s.flags] ++ putL 8 [s.off, s.vaddr, s.vaddr, s.filesz, s.memsz, s.align]
def hdrBy (name : Nat) (s : SecM) (p : Nat) : List UInt8 := putL 4 [name, s.typ] ++ putL 8 [s.flags, s.addr, p, s.size] ++ putL 4 [s.link, s.info] ++ putL 8 [s.align, s.ent]
theorem segBy_len (s : SegM) : (segBy s).length = 56 := by unfold segBy; simp only [List.length_append, putL_len]; rfl
theorem hdrBy_len (name : Nat) (s : SecM) (p : Nat) : (hdrBy name s p).length = 64 := by unfold hdrBy; simp only [List.length_append, putL_len]; rfl
/-- The names' places in the table. -/
def atsOf (e : ElfM) : List Nat := (buildR (namesOf e.secs)).2.1
/-- The header's and the segments' bytes. -/
def frontB (e : ElfM) : List UInt8 := headB e (headsOf e (tabOf e).length) ++ e.segs.flatMap segBy
theorem frontB_len (e : ElfM) : (frontB e).length = front e := by
  unfold frontB front
  rw [List.length_append, headB_len, flat_len' segBy_len]
  omega
def bodyB (e : ElfM) : List UInt8 := bodyF (frontB e) (e.secs.zip (placesOf e).1)
theorem bodyB_len {e : ElfM} (hp : ∀ s ∈ e.secs, powB s.align = true) : (bodyB e).length = (placesOf e).2 := by
  have := body_len (g := segsB e) (frontB_len e) hp e.secs.length (Nat.le_refl _)
  rw [List.take_of_length_le (by rw [List.length_zip, plF_len]; omega), List.take_length] at this
  exact this
/-- All ahead of the sections' headers. -/
def midB (e : ElfM) : List UInt8 := bodyB e ++ tabOf e ++ List.replicate (headsOf e (tabOf e).length + 64 - ((placesOf e).2 + (tabOf e).length)) 0
def hdrsB (e : ElfM) : List UInt8 := (e.secs.zip ((atsOf e).zip (placesOf e).1)).flatMap fun p => hdrBy p.2.1 p.1 p.2.2
def tabSec (n : Nat) : SecM := ⟨[], 3, 0, 0, 1, n, 0, 0, 0, []⟩
/-- A file's bytes. -/
def fileB (e : ElfM) : List UInt8 := midB e ++ hdrsB e ++ hdrBy ((atsOf e)[e.secs.length]?.getD 0) (tabSec (tabOf e).length) (placesOf e).2
def fileW (e : ElfM) : List UInt8 × Int := if mayE e = true then (fileB e, 0) else ([], 1)
theorem fileW_no {e : ElfM} (h : mayE e = false) : fileW e = ([], 1) := by unfold fileW; rw [if_neg (by simp [h])]
theorem fileW_ok {e : ElfM} (h : mayE e = true) : fileW e = (fileB e, 0) := by unfold fileW; rw [if_pos h]
/-- What is known of a file that may be. -/
structure MayK (e : ElfM) : Prop where
  typ : e.typ = 1 ∨ e.typ = 2
  mach : mach e.target ≠ 0
  secs : e.secs.length ≤ 250
  segs : e.segs.length ≤ 16
  fine : ∀ s ∈ e.secs, fineB s = true
  pow : ∀ s ∈ e.secs, powB s.align = true
  segp : ∀ s ∈ e.segs, powB s.align = true
  ok : (buildR (namesOf e.secs)).2.2 = 0
  names : ∀ s ∈ e.secs, mayS s.name = true
  len : headsOf e (tabOf e).length + 64 * (e.secs.length + 2) ≤ 4194304
theorem mayK {e : ElfM} (h : mayE e = true) : MayK e := by
  unfold mayE at h
  simp only [Bool.and_eq_true] at h
  obtain ⟨⟨h1, h2⟩, h3⟩ := h
  unfold may1 at h1
  simp only [Bool.and_eq_true, Bool.or_eq_true, Bool.not_eq_true', decide_eq_true_eq, decide_eq_false_iff_not] at h1
  unfold may2 at h2
  simp only [Bool.and_eq_true, List.all_eq_true, decide_eq_true_eq] at h2
  unfold may3 at h3
  simp only [Bool.and_eq_true, decide_eq_true_eq] at h3
  have hn := h3.1
  refine ⟨h1.1.1.1, h1.1.1.2, h1.1.2, h1.2, fun s hs => (h2.1 s hs).1, fun s hs => fineB_pow (h2.1 s hs).1, h2.2, hn, fun s hs => ?_, h3.2⟩
  have := (build_ok hn).1
  unfold namesOf at this
  rw [List.all_append, Bool.and_eq_true, List.all_map] at this
  exact List.all_eq_true.1 this.1 s hs
theorem heads_ge {e : ElfM} : (placesOf e).2 + (tabOf e).length ≤ headsOf e (tabOf e).length ∧ headsOf e (tabOf e).length < (placesOf e).2 + (tabOf e).length + 8 := by
  have := upN_le (n := (placesOf e).2 + (tabOf e).length) (a := 8) (by omega)
  exact this
theorem atsOf_len {e : ElfM} (h : MayK e) : (atsOf e).length = e.secs.length + 1 ∧ ∀ p ∈ atsOf e, p ≤ 130000 := by
  have := ats_ok h.ok (by rw [namesOf_len]; have := h.secs; omega)
  rw [namesOf_len] at this
  exact this
theorem midB_len {e : ElfM} (h : MayK e) : (midB e).length = headsOf e (tabOf e).length + 64 := by
  unfold midB
  rw [List.length_append, List.length_append, List.length_replicate, bodyB_len h.pow]
  have := heads_ge (e := e)
  omega
theorem place_bd {e : ElfM} (h : MayK e) (k : Nat) : (plF (segsB e) (front e) (e.secs.take k)).2 ≤ (placesOf e).2 := by
  have : ∀ j, k ≤ j → (plF (segsB e) (front e) (e.secs.take k)).2 ≤ (plF (segsB e) (front e) (e.secs.take j)).2 := by
    intro j
    induction j with
    | zero => intro hj; obtain rfl : k = 0 := by omega
              exact Nat.le_refl _
    | succ j ih =>
      intro hj
      rcases Nat.lt_or_ge j k with h3 | h3
      · obtain rfl : k = j + 1 := by omega
        exact Nat.le_refl _
      · refine Nat.le_trans (ih h3) ?_
        rcases Nat.lt_or_ge j e.secs.length with hl | hl
        · have hx : e.secs[j]? = some e.secs[j] := List.getElem?_eq_getElem hl
          rw [plF_step hx]
          have := placeS_le (g := segsB e) (p := (plF (segsB e) (front e) (e.secs.take j)).2) (h.pow _ (List.mem_of_getElem? hx))
          show _ ≤ placeS _ _ _ + _
          omega
        · rw [List.take_of_length_le hl, List.take_of_length_le (by omega)]
          exact Nat.le_refl _
  rcases Nat.lt_or_ge k e.secs.length with hk | hk
  · have := this e.secs.length (by omega)
    rw [List.take_length] at this
    exact this
  · rw [List.take_of_length_le hk]
    exact Nat.le_refl _
end Go.Proofs.Ytimnbnomaajmmaa
namespace Go.Proofs.Ytimnbnomaajmmaa
open Go.RowKit Go.Fd
/-- What goes up. -/
abbrev upF : List PanicEntry := [{ v := .iface 107 (.agg #[]), recovered := false }]
set_option maxRecDepth 100000 in
theorem must_ok (w : World) : Calls Try.prog 68 #[.bool true] w fun r w' => r = .returned (.tuple #[]) ∧ w = w' := by
  go_enter Try.func68, Try.ntmps68
  go_wp2
  go_end0
  exact ⟨rfl, rfl⟩
set_option maxRecDepth 100000 in
theorem must_no (w : World) : Calls Try.prog 68 #[.bool false] w fun r w' => r = .panicked upF ∧ w = w' := by
  go_enter Try.func68, Try.ntmps68
  go_wp2
  exact ⟨rfl, rfl, rfl⟩
set_option maxRecDepth 100000 in
/-- A number at a place, or nothing. -/
theorem ru_any (l : List UInt8) (at_ size : Int) (v : Value) (w : World) (hl : l.length ≤ 1000000000) (hv : Bs w v l) :
    Calls Try.prog 66 #[v, .int .i64 at_, .int .i64 size] w fun r w' => w = w' ∧ ((getR l at_ size false).2 = 0 ∧ r = .returned (.int .u64 (getR l at_ size false).1) ∨ (getR l at_ size false).2 ≠ 0 ∧ r = .panicked upF) := by
  have HU := Lib.hid (octU_any l at_ size v w hl hv)
  generalize getR l at_ size false = q at *
  obtain ⟨n, z⟩ := q
  by_cases hz : z = 0
  · subst hz
    go_enter Try.func66, Try.ntmps66
    go_wp2_with (first
      | (go_at_call 86; refine HU.out.mono ?_; rintro e w1 ⟨rfl, rfl⟩)
      | (go_at_call 68; refine (must_ok _).mono ?_; rintro e w2 ⟨rfl, rfl⟩))
    go_ret
    exact ⟨rfl, .inl ⟨trivial, rfl⟩⟩
  · have hz1 : (z == (0 : Int)) = false := by simpa using hz
    have HX := Lib.hid hz
    clear hz
    go_enter Try.func66, Try.ntmps66
    go_wp2_with (first
      | (go_at_call 86; refine HU.out.mono ?_; rintro e w1 ⟨rfl, rfl⟩)
      | (go_at_call 68; refine (must_no _).mono ?_; rintro e w2 ⟨rfl, rfl⟩))
    exact ⟨rfl, rfl, .inr ⟨HX.out, rfl⟩⟩
/-- Is a stretch in the bytes? -/
def inB (l : List UInt8) (at_ size : Nat) : Bool := decide (at_ ≤ l.length) && decide (size ≤ l.length - at_)
theorem TR : SliceT Try.prog 108 5 1 1 := SliceT.mk' (z := .int .u8 0) (by kernel_rfl) (by kernel_rfl) rfl (by omega)
theorem slice_cutR {w : World} {v : Value} {l : List UInt8} (hv : Bs w v l) (a s : Nat) {z y : Int} (hz : z = (a : Int)) (hy : y = (a : Int) + s) (hin : a + s ≤ l.length) :
    ∃ v', (∀ w', (Instr.sliceAt 108 v (some (.int .u64 z)) (some (.int .u64 y)) none).run Try.prog w' = .ok v' w') ∧ ∀ w2, Bs w2 v l → Bs w2 v' ((l.drop a).take s) := by
  subst hz hy
  have key : ∀ w2, Bs w2 v l → ∃ v', (∀ w', (Instr.sliceAt 108 v (some (.int .u64 (a : Int))) (some (.int .u64 ((a : Int) + s))) none).run Try.prog w' = .ok v' w') ∧ Bs w2 v' ((l.drop a).take s) := by
    intro w2 hv2
    obtain ⟨v', h, hr⟩ := run_sliceAt TR hv2 (i := (a : Int)) (j := (a : Int) + s) (k := .u64) (k' := .u64) (by omega) (by omega) (by omega)
    refine ⟨v', h, ?_⟩
    rw [show ((a : Int) + s - a).toNat = s by omega] at hr
    unfold Bs
    rw [List.length_take, List.length_drop, List.map_take, List.map_drop, show min s (l.length - a) = s by omega]
    simpa using hr
  obtain ⟨v', h, -⟩ := key w hv
  refine ⟨v', h, fun w2 hv2 => ?_⟩
  obtain ⟨v2, h2, hb⟩ := key w2 hv2
  have e := h w
  rw [h2 w] at e
  injection e with e _
  exact e ▸ hb
set_option maxRecDepth 100000 in
theorem cut_any (l : List UInt8) (a s : Nat) (v : Value) (w : World) (hl : l.length ≤ 1000000000) (hv : Bs w v l) (ha : a < 18446744073709551616) (hs : s < 18446744073709551616) :
    Calls Try.prog 88 #[v, .int .u64 a, .int .u64 s] w fun r w' => w = w' ∧ (inB l a s = true ∧ (∃ v', r = .returned v' ∧ ∀ w2, Bs w2 v l → Bs w2 v' ((l.drop a).take s)) ∨ inB l a s = false ∧ r = .panicked upF) := by
  have HV := Lib.hid hv
  obtain ⟨m, ad, cap, hm, rfl, hmc, _⟩ := hv.shape
  have hm9 : m ≤ 1000000000 := by have := hm.out; omega
  clear hv
  by_cases h1 : a ≤ m
  · by_cases h2 : s ≤ m - a
    · have HR : Hid (inB l a s = true) := by unfold inB; rw [← hm.out, decide_eq_true h1, decide_eq_true h2]; exact rfl
      obtain ⟨v', hr, hb⟩ := slice_cutR HV.out a s (z := (a : Int)) (y := (a : Int) + s) rfl rfl (by have := hm.out; omega)
      have HB := Lib.hid hb
      have h3 : ((s : Int) ≤ (m : Int) - (a : Int)) := by omega
      have HX := Lib.hid ha
      clear ha hs hb
      go_enter Try.func88, Try.ntmps88
      go_wp2_with (go_at_call 68; refine (must_ok _).mono ?_; rintro e w2 ⟨rfl, rfl⟩)
      go_ret
      exact ⟨rfl, .inl ⟨HR.out, _, rfl, HB.out⟩⟩
    · have HR : Hid (inB l a s = false) := by unfold inB; rw [← hm.out, decide_eq_true h1, decide_eq_false h2]; exact rfl
      have h3 : ¬ ((s : Int) ≤ (m : Int) - (a : Int)) := by omega
      go_enter Try.func88, Try.ntmps88
      go_wp2_with (go_at_call 68; refine (must_no _).mono ?_; rintro e w2 ⟨rfl, rfl⟩)
      exact ⟨rfl, rfl, .inr ⟨HR.out, rfl⟩⟩
  · have HR : Hid (inB l a s = false) := by unfold inB; rw [← hm.out, decide_eq_false h1]; exact rfl
    have HX := Lib.hid ha
    clear ha hs
    go_enter Try.func88, Try.ntmps88
    go_wp2_with (go_at_call 68; refine (must_no _).mono ?_; rintro e w2 ⟨rfl, rfl⟩)
    exact ⟨rfl, rfl, .inr ⟨HR.out, rfl⟩⟩
end Go.Proofs.Ytimnbnomaajmmaa
namespace Go.Proofs.Ytimnbnomaajmmaa
open Go.RowKit Go.Fd
/-- A number at a place, and whether it is there. -/
def gN (l : List UInt8) (a s : Nat) : Nat := (getR l a s false).1
def okB (l : List UInt8) (a s : Nat) : Bool := decide ((getR l a s false).2 = 0)
theorem gN_lt (l : List UInt8) (a s : Nat) : gN l a s < 256 ^ s := by
  unfold gN getR
  split
  · split
    · exact Nat.pow_pos (by omega)
    · split
      · exact Nat.pow_pos (by omega)
      · have h := numLE_lt ((l.drop (a : Int).toNat).take (s : Int).toNat)
        refine Nat.lt_of_lt_of_le h (Nat.pow_le_pow_right (by omega) ?_)
        rw [List.length_take]
        omega
  · exact Nat.pow_pos (by omega)
theorem gN2 (l : List UInt8) (a : Nat) : gN l a 2 < 65536 := gN_lt l a 2
theorem gN4 (l : List UInt8) (a : Nat) : gN l a 4 < 4294967296 := gN_lt l a 4
theorem gN8 (l : List UInt8) (a : Nat) : gN l a 8 < 18446744073709551616 := gN_lt l a 8
theorem okB_iff {l : List UInt8} {a s : Nat} (hs : Sized s) : okB l a s = decide (a + s ≤ l.length) := by
  unfold okB getR
  rw [if_pos hs]
  by_cases h : a + s ≤ l.length
  · rw [if_neg (by omega), if_neg (by omega), decide_eq_true h]; rfl
  · rw [decide_eq_false h]
    split
    · rfl
    · rw [if_pos (by omega)]; rfl
theorem gN_in {l : List UInt8} {a s : Nat} (hs : Sized s) (h : a + s ≤ l.length) : gN l a s = numLE ((l.drop a).take s) := by
  unfold gN getR
  rw [if_pos hs, if_neg (by omega), if_neg (by omega)]
  simp
theorem sz2 : Sized 2 := by unfold Sized; omega
theorem sz4 : Sized 4 := by unfold Sized; omega
theorem sz8 : Sized 8 := by unfold Sized; omega
end Go.Proofs.Ytimnbnomaajmmaa
namespace Go.Proofs.Ytimnbnomaajmmaa
open Go.RowKit Go.Fd
/-- A segment's header, as it is read; whether it is there. -/
def segP (l : List UInt8) (a : Nat) : SegM := ⟨gN l a 4, gN l (a + 4) 4, gN l (a + 8) 8, gN l (a + 16) 8, gN l (a + 32) 8, gN l (a + 40) 8, gN l (a + 48) 8⟩
def segOk (l : List UInt8) (a : Nat) : Bool := okB l a 4 && okB l (a + 4) 4 && okB l (a + 8) 8 && okB l (a + 16) 8 && okB l (a + 32) 8 && okB l (a + 40) 8 && okB l (a + 48) 8
theorem segOk_iff {l : List UInt8} {a : Nat} : segOk l a = decide (a + 56 ≤ l.length) := by
  unfold segOk
  rw [show okB l a 4 = _ from okB_iff sz4, show okB l (a + 4) 4 = _ from okB_iff sz4, show okB l (a + 8) 8 = _ from okB_iff sz8, show okB l (a + 16) 8 = _ from okB_iff sz8, show okB l (a + 32) 8 = _ from okB_iff sz8, show okB l (a + 40) 8 = _ from okB_iff sz8, show okB l (a + 48) 8 = _ from okB_iff sz8, Bool.eq_iff_iff]
  simp only [Bool.and_eq_true, decide_eq_true_eq]
  omega
theorem segP_fits (l : List UInt8) (a : Nat) : (segP l a).fits := ⟨gN4 _ _, gN4 _ _, gN8 _ _, gN8 _ _, gN8 _ _, gN8 _ _, gN8 _ _⟩
end Go.Proofs.Ytimnbnomaajmmaa
namespace Go.Fd
open Go.RowKit
/-- One value, if something holds. -/
def Yld.ok (c : Value) (q : Prop) : Yld := ⟨Unit, (), fun _ => c, fun _ _ => q, fun _ _ _ h _ => h⟩
theorem Yld.ok_got {c v : Value} {p : Prop} {w : World} (h : (Yld.ok c p).R v w) : p := by obtain ⟨_, _, h⟩ := h; exact h
section
variable {P : Program} {Up : Exit → Prop} {L r : List Oper} {M : List (Nat × Yld)} {a : Act} {w0 : World} {E : Act → Prop} {i : Nat} {o : Oper}
theorem walk_ok {c : Value} {p : Prop} (hw : Region.wanted o (yielded L.toArray a.tmps) = true) (hM : madeAt M i = some (Yld.ok c p)) (h : ∀ w, Below w0.heap.size w0 w → Deps L M a o w → WpYld P Up o a (Yld.ok c p) w) (hn : walk P Up L M w0 E (i + 1) r (a.put o.dst c)) : walk P Up L M w0 E i (o :: r) a :=
  walk_made hw hM h fun _ => hn
/-- A call that comes to a value, if something holds, or goes up. -/
theorem WpYld.callOk {c : Value} {f : FuncId} {args : Array Value} {w : World} {b : Bool} {q : Prop} {ch : List PanicEntry} (hr : (execOp a.eval o).run P w = .ok (.enter f args) w) (hq : b = false → q) (h : Calls P f args w fun e w' => w = w' ∧ (b = true ∧ e = .returned c ∨ b = false ∧ e = .panicked ch)) : WpYld P (fun x => x = .panic ch ∧ q) o a (Yld.ok c (b = true)) w :=
  WpYld.callUp hr (h.mono fun e w' ⟨hw, he⟩ => by
    subst hw
    rcases he with ⟨h1, h2⟩ | ⟨h1, h2⟩
    · exact .inl ⟨c, h2, ⟨(), rfl, h1⟩, Below.refl _ _⟩
    · exact .inr ⟨ch, h2, ⟨rfl, hq h1⟩, Below.refl _ _⟩)
end
/-- The call of a closure. -/
theorem run_callF {P : Program} {a : Act} {w : World} {d : Option Tmp} {ty : TypeId} {pos : String} {aft : Array Edge} {g : Option (Nat × Bool)} {f : FuncId} {fn : Func} {x : Operand} {caps : Array Value} {xs : List Operand} {ts : Array TypeId} {vals : List Value} (hf : P.funcs[f]? = some fn) (hn : (fn.name == "runtime.NumGoroutine") = false) {c : Code} (hb : fn.body = some c) (he : a.eval x = .func (.func f) #[] caps) (hx : xs.map a.eval = vals) :
    (execOp a.eval ⟨d, .call { callee := .value x, args := xs.toArray, argTypes := ts }, ty, pos, aft, g⟩).run P w = .ok (.enter f (vals.toArray ++ caps)) w := by
  have h1 : fn.name ≠ "runtime.NumGoroutine" := by simpa using hn
  have hc : (callFunc f (vals.toArray ++ caps)).run P w = .ok (.enter f (vals.toArray ++ caps)) w := by
    simp [callFunc, hf, h1, hb]
  have hx' : Array.map a.eval xs.toArray = vals.toArray := by rw [List.map_toArray, hx]
  simp only [execOp, resolve, hx']
  show Sem.run P (do let d ← Deferred.ofValue (a.eval x) vals.toArray; invoke d.target d.args) w = _
  rw [he]
  simp [Deferred.ofValue, invoke, hc]
/-- A value into a block of its own. -/
theorem wpList_boxS {P : Program} {ops : Array Oper} {rest : List Oper} {Q : Exit → Act → World → Prop} {a : Act} {w : World} {d : Option Tmp} {ty t : TypeId} {pos : String} {aft : Array Edge} {x : Operand} {ad : Option Addr} {m c : Nat} (hx : a.eval x = .slice ad m c)
    (h : ∀ w1, w1.heap[w.heap.size]? = some (.cells #[.slice ad m c] t (0, 0)) → Below w.heap.size w w1 → w.heap.size < w1.heap.size → wpList P ops Q rest (a.put d (.pointer (some ⟨w.heap.size, 0, none⟩))) w1) :
    wpList P ops Q (⟨d, .box t x, ty, pos, aft, none⟩ :: rest) a w := by
  refine wpList_val (w' := w.alloc (.cells #[.slice ad m c] t)) (v := .pointer (some ⟨w.heap.size, 0, none⟩)) rfl ?_ (h (w.alloc (.cells #[.slice ad m c] t)) (heap_alloc_last w _) (below_alloc w _) (by rw [World.size_alloc]; omega))
  simp only [execOp, hx]
  rfl
theorem wpList_boxI {P : Program} {ops : Array Oper} {rest : List Oper} {Q : Exit → Act → World → Prop} {a : Act} {w : World} {d : Option Tmp} {ty t : TypeId} {pos : String} {aft : Array Edge} {x : Operand} {k : IntKind} {n : Int} (hx : a.eval x = .int k n)
    (h : ∀ w1, w1.heap[w.heap.size]? = some (.cells #[.int k n] t (0, 0)) → Below w.heap.size w w1 → w.heap.size < w1.heap.size → wpList P ops Q rest (a.put d (.pointer (some ⟨w.heap.size, 0, none⟩))) w1) :
    wpList P ops Q (⟨d, .box t x, ty, pos, aft, none⟩ :: rest) a w := by
  refine wpList_val (w' := w.alloc (.cells #[.int k n] t)) (v := .pointer (some ⟨w.heap.size, 0, none⟩)) rfl ?_ (h (w.alloc (.cells #[.int k n] t)) (heap_alloc_last w _) (below_alloc w _) (by rw [World.size_alloc]; omega))
  simp only [execOp, hx]
  rfl
end Go.Fd
namespace Go.Proofs.Ytimnbnomaajmmaa
open Go.RowKit Go.Fd
/-- A call comes to a value, or goes up. -/
def ResU (b : Bool) (c : Value) (r : Ending) : Prop := b = true ∧ r = .returned c ∨ b = false ∧ r = .panicked upF
theorem ResU.yes (c : Value) : ResU true c (.returned c) := .inl ⟨rfl, rfl⟩
theorem ResU.no (c : Value) : ResU false c (.panicked upF) := .inr ⟨rfl, rfl⟩
theorem ruN (l : List UInt8) (a s : Nat) (v : Value) (w : World) (hl : l.length ≤ 1000000000) (hv : Bs w v l) :
    Calls Try.prog 66 #[v, .int .i64 a, .int .i64 s] w fun r w' => w = w' ∧ ResU (okB l a s) (.int .u64 (gN l a s : Nat)) r :=
  (ru_any l a s v w hl hv).mono fun r w' ⟨h1, h2⟩ => ⟨h1, h2.imp (fun ⟨h, e⟩ => ⟨by unfold okB; exact decide_eq_true h, e⟩) (fun ⟨h, e⟩ => ⟨by unfold okB; exact decide_eq_false h, e⟩)⟩
set_option maxRecDepth 100000 in
theorem seg1_any (l : List UInt8) (b1 b2 a i : Nat) (v : Value) (w : World) (hl : l.length ≤ 1000000000) (hv : Bs w v l) (h1 : w.heap[b1]? = some (.cells #[v] 108 (0, 0))) (h2 : w.heap[b2]? = some (.cells #[.int .i64 a] 3 (0, 0))) (ha : a ≤ 1000000000) (hi : i ≤ 100) :
    Calls Try.prog 108 #[.int .i64 i, .pointer (some ⟨b1, 0, none⟩), .pointer (some ⟨b2, 0, none⟩)] w fun r w' => w = w' ∧ ResU (okB l (a + i) 8) (.int .u64 (gN l (a + i) 8 : Nat)) r := by
  have HU := Lib.hid (ruN l (a + i) 8 v w hl hv)
  obtain ⟨m, ad, cap, -, rfl, _, _⟩ := hv.shape
  have c1 := cell_rec h1 0
  have c2 := cell_rec h2 0
  simp only [List.getElem?_toArray, List.getElem?_cons_zero] at c1 c2
  generalize okB l (a + i) 8 = ob at *
  generalize gN l (a + i) 8 = n at *
  clear h1 h2 hv
  go_enter Try.func108, Try.ntmps108
  go_wp2_with (go_at_call 66; refine HU.out.mono ?_; rintro e w1 ⟨rfl, ⟨rfl, rfl⟩ | ⟨rfl, rfl⟩⟩)
  · go_ret
    exact ⟨rfl, ResU.yes _⟩
  · exact ⟨rfl, rfl, ResU.no _⟩
end Go.Proofs.Ytimnbnomaajmmaa
namespace Go.Proofs.Ytimnbnomaajmmaa
open Go.RowKit Go.Fd
abbrev segZ : Array Value := #[.int .u32 0, .int .u32 0, .int .u64 0, .int .u64 0, .int .u64 0, .int .u64 0, .int .u64 0]
theorem wpList_allocSeg {ops : Array Oper} {rest : List Oper} {Q : Exit → Act → World → Prop} {a : Act} {w : World} {d : Option Tmp} {ty : TypeId} {pos : String} {aft : Array Edge}
    (h : ∀ w1, w1.heap[w.heap.size]? = some (.cells segZ 93 (0, 0)) → Below w.heap.size w w1 → w.heap.size < w1.heap.size → wpList Try.prog ops Q rest (a.put d (.pointer (some ⟨w.heap.size, 0, none⟩))) w1) :
    wpList Try.prog ops Q (⟨d, .alloc 93, ty, pos, aft, none⟩ :: rest) a w :=
  wpList_val rfl (by kernel_rfl) (h (w.alloc (.cells segZ 93)) (heap_alloc_last w _) (below_alloc w _) (by rw [World.size_alloc]; omega))
/-- A number at a place, in a region. -/
abbrev YN (l : List UInt8) (a s : Nat) : Yld := Yld.ok (.int .u64 (gN l a s : Nat)) (okB l a s = true)
theorem segOk_no {l : List UInt8} {a k s : Nat} (hs : Sized s) (hk : k + s ≤ 56) (h : okB l (a + k) s = false) : segOk l a = false := by
  rw [okB_iff hs] at h
  rw [segOk_iff]
  simp only [decide_eq_false_iff_not] at *
  omega
theorem segOk_yes {l : List UInt8} {a : Nat} (h : okB l (a + 48) 8 = true) : segOk l a = true := by
  rw [okB_iff sz8] at h
  rw [segOk_iff]
  simp only [decide_eq_true_eq] at *
  omega
attribute [local irreducible] gN okB
set_option maxHeartbeats 1000000 in
set_option maxRecDepth 100000 in
theorem seg_any (l : List UInt8) (a : Nat) (v : Value) (w : World) (hl : l.length ≤ 1000000000) (hv : Bs w v l) (ha : a ≤ 100000000) :
    Calls Try.prog 87 #[v, .int .i64 a] w fun r w' => ResU (segOk l a) (.agg (encSeg (segP l a)).toArray) r ∧ Below w.heap.size w w' := by
  have HV := Lib.hid hv
  obtain ⟨m, ad, cap, -, rfl, _, _⟩ := hv.shape
  have HNO := Lib.hid (fun (k s : Nat) (hs : Sized (s : Int)) (hk : k + s ≤ 56) => segOk_no (l := l) (a := a) hs hk)
  have HYES := Lib.hid (segOk_yes (l := l) (a := a))
  have HSG : Hid (encSeg (segP l a) = [.int .u32 (gN l a 4 : Nat), .int .u32 (gN l (a + 4) 4 : Nat), .int .u64 (gN l (a + 8) 8 : Nat), .int .u64 (gN l (a + 16) 8 : Nat), .int .u64 (gN l (a + 32) 8 : Nat), .int .u64 (gN l (a + 40) 8 : Nat), .int .u64 (gN l (a + 48) 8 : Nat)]) := rfl
  have hb0 := gN4 l a
  have hb1 := gN4 l (a + 4)
  clear hv
  go_enter Try.func87, Try.ntmps87
  go_wp2_with (first
    | ((with_reducible show wpList _ _ _ (⟨some 2, .box _ _, _, _, _, _⟩ :: _) _ _); go_must (refine wpList_boxS rfl ?_; intro w1 hx1 hb1 hs1; have HX1 := Lib.hid hx1; have HB1 := Lib.hid hb1; clear hx1 hb1))
    | ((with_reducible show wpList _ _ _ (⟨some 3, .box _ _, _, _, _, _⟩ :: _) _ _); go_must (refine wpList_boxI rfl ?_; intro w2 hx2 hb2 hs2; have HX2 := Lib.hid hx2; have HX12 := Lib.hid (heap_below hb2 HX1.out); have HB2 := Lib.hid (HB1.out.trans (hb2.mono HB1.out.size)); clear hx2 hb2))
    | ((with_reducible show wpList _ _ _ (⟨some 4, .alloc _, _, _, _, _⟩ :: _) _ _); go_must (refine wpList_allocSeg ?_; intro w3 hx3 hb3 hs3; have HX3 := Lib.hid hx3; have HX13 := Lib.hid (heap_below hb3 HX12.out); have HX23 := Lib.hid (heap_below hb3 HX2.out); have HB3 := Lib.hid (HB2.out.trans (hb3.mono HB2.out.size)); clear hx3 hb3)))
  have c1 := cell_rec HX13.out 0
  have c2 := cell_rec HX23.out 0
  simp only [List.getElem?_toArray, List.getElem?_cons_zero] at c1 c2
  have hAB := fun (x : Above w3) (b k : Nat) (h : b < w3.heap.size) => Above.cell x b k h
  have l1 := block_lt c1
  have l2 := block_lt c2
  have HU0 := Lib.hid (fun wx (hwx : Below w3.heap.size w3 wx) => (ruN l a 4 _ wx hl (HV.out.mono (HB3.out.trans (hwx.mono HB3.out.size)))))
  have HU1 : Hid (∀ wx (_ : Below w3.heap.size w3 wx), Calls Try.prog 66 #[.slice ad m cap, .int .i64 ((a : Int) + 4), .int .i64 4] wx fun r w' => wx = w' ∧ ResU (okB l (a + 4) 4) (.int .u64 (gN l (a + 4) 4 : Nat)) r) := Lib.hid (fun wx hwx => ruN l (a + 4) 4 _ wx hl (HV.out.mono (HB3.out.trans (hwx.mono HB3.out.size))))
  have HU8 : Hid (∀ wx (_ : Below w3.heap.size w3 wx), Calls Try.prog 108 #[.int .i64 8, .pointer (some ⟨w.heap.size, 0, none⟩), .pointer (some ⟨w1.heap.size, 0, none⟩)] wx fun r w' => wx = w' ∧ ResU (okB l (a + 8) 8) (.int .u64 (gN l (a + 8) 8 : Nat)) r) := Lib.hid (fun wx hwx => seg1_any l w.heap.size w1.heap.size a 8 _ wx hl (HV.out.mono (HB3.out.trans (hwx.mono HB3.out.size))) (heap_below hwx HX13.out) (heap_below hwx HX23.out) (by omega) (by omega))
  have HU16 : Hid (∀ wx (_ : Below w3.heap.size w3 wx), Calls Try.prog 108 #[.int .i64 16, .pointer (some ⟨w.heap.size, 0, none⟩), .pointer (some ⟨w1.heap.size, 0, none⟩)] wx fun r w' => wx = w' ∧ ResU (okB l (a + 16) 8) (.int .u64 (gN l (a + 16) 8 : Nat)) r) := Lib.hid (fun wx hwx => seg1_any l w.heap.size w1.heap.size a 16 _ wx hl (HV.out.mono (HB3.out.trans (hwx.mono HB3.out.size))) (heap_below hwx HX13.out) (heap_below hwx HX23.out) (by omega) (by omega))
  have HU32 : Hid (∀ wx (_ : Below w3.heap.size w3 wx), Calls Try.prog 108 #[.int .i64 32, .pointer (some ⟨w.heap.size, 0, none⟩), .pointer (some ⟨w1.heap.size, 0, none⟩)] wx fun r w' => wx = w' ∧ ResU (okB l (a + 32) 8) (.int .u64 (gN l (a + 32) 8 : Nat)) r) := Lib.hid (fun wx hwx => seg1_any l w.heap.size w1.heap.size a 32 _ wx hl (HV.out.mono (HB3.out.trans (hwx.mono HB3.out.size))) (heap_below hwx HX13.out) (heap_below hwx HX23.out) (by omega) (by omega))
  have HU40 : Hid (∀ wx (_ : Below w3.heap.size w3 wx), Calls Try.prog 108 #[.int .i64 40, .pointer (some ⟨w.heap.size, 0, none⟩), .pointer (some ⟨w1.heap.size, 0, none⟩)] wx fun r w' => wx = w' ∧ ResU (okB l (a + 40) 8) (.int .u64 (gN l (a + 40) 8 : Nat)) r) := Lib.hid (fun wx hwx => seg1_any l w.heap.size w1.heap.size a 40 _ wx hl (HV.out.mono (HB3.out.trans (hwx.mono HB3.out.size))) (heap_below hwx HX13.out) (heap_below hwx HX23.out) (by omega) (by omega))
  have HU48 : Hid (∀ wx (_ : Below w3.heap.size w3 wx), Calls Try.prog 108 #[.int .i64 48, .pointer (some ⟨w.heap.size, 0, none⟩), .pointer (some ⟨w1.heap.size, 0, none⟩)] wx fun r w' => wx = w' ∧ ResU (okB l (a + 48) 8) (.int .u64 (gN l (a + 48) 8 : Nat)) r) := Lib.hid (fun wx hwx => seg1_any l w.heap.size w1.heap.size a 48 _ wx hl (HV.out.mono (HB3.out.trans (hwx.mono HB3.out.size))) (heap_below hwx HX13.out) (heap_below hwx HX23.out) (by omega) (by omega))
  have HN0 : Hid (okB l a 4 = false → segOk l a = false) := Lib.hid (HNO.out 0 4 sz4 (by omega))
  have HN1 : Hid (okB l (a + 4) 4 = false → segOk l a = false) := Lib.hid (HNO.out 4 4 sz4 (by omega))
  have HN8 : Hid (okB l (a + 8) 8 = false → segOk l a = false) := Lib.hid (HNO.out 8 8 sz8 (by omega))
  have HN16 : Hid (okB l (a + 16) 8 = false → segOk l a = false) := Lib.hid (HNO.out 16 8 sz8 (by omega))
  have HN32 : Hid (okB l (a + 32) 8 = false → segOk l a = false) := Lib.hid (HNO.out 32 8 sz8 (by omega))
  have HN40 : Hid (okB l (a + 40) 8 = false → segOk l a = false) := Lib.hid (HNO.out 40 8 sz8 (by omega))
  have HN48 : Hid (okB l (a + 48) 8 = false → segOk l a = false) := Lib.hid (HNO.out 48 8 sz8 (by omega))
  clear HNO
  refine wp_region_walkU (Up := fun x => x = .panic upF ∧ segOk l a = false) 20 [(2, YN l a 4), (7, YN l (a + 4) 4), (10, YN l (a + 8) 8), (12, YN l (a + 16) 8), (14, YN l (a + 32) 8), (16, YN l (a + 40) 8), (18, YN l (a + 48) 8)] (by kernel_rfl) (by kernel_rfl) ?_ ?_
  · rintro x a' w' ⟨⟨rfl, hso⟩, hd, hb⟩
    refine ⟨hd, ?_, HB3.out.trans (hb.mono HB3.out.size)⟩
    rw [hso]
    exact ResU.no _
  simp only [List.take_succ_cons, List.take_zero, List.drop_succ_cons, List.drop_zero]
  repeat (refine walk_quiet rfl rfl rfl ?_; intro K hK; go_big_quiet_op; go_big_quiet_on)
  refine walk_ok (c := .int .u64 (gN l a 4 : Nat)) (p := okB l a 4 = true) rfl rfl (fun wx hwx _ => WpYld.callOk (run_callL (vals := [_, _, _]) Try.func66 (by kernel_rfl) rfl rfl) HN0.out (HU0.out wx hwx)) ?_
  go_frame
  repeat (refine walk_quiet rfl rfl rfl ?_; intro K hK; go_big_quiet_op; go_big_quiet_on)
  refine walk_ok (c := .int .u64 (gN l (a + 4) 4 : Nat)) (p := okB l (a + 4) 4 = true) rfl rfl (fun wx hwx _ => WpYld.callOk (run_callL (vals := [_, _, _]) Try.func66 (by kernel_rfl) rfl rfl) HN1.out (HU1.out wx hwx)) ?_
  go_frame
  repeat (refine walk_quiet rfl rfl rfl ?_; intro K hK; go_big_quiet_op; go_big_quiet_on)
  refine walk_ok (c := .int .u64 (gN l (a + 8) 8 : Nat)) (p := okB l (a + 8) 8 = true) rfl rfl (fun wx hwx _ => WpYld.callOk (run_callF (vals := [_]) Try.func108 (by kernel_rfl) rfl rfl rfl) HN8.out (HU8.out wx hwx)) ?_
  go_frame
  repeat (refine walk_quiet rfl rfl rfl ?_; intro K hK; go_big_quiet_op; go_big_quiet_on)
  refine walk_ok (c := .int .u64 (gN l (a + 16) 8 : Nat)) (p := okB l (a + 16) 8 = true) rfl rfl (fun wx hwx _ => WpYld.callOk (run_callF (vals := [_]) Try.func108 (by kernel_rfl) rfl rfl rfl) HN16.out (HU16.out wx hwx)) ?_
  go_frame
  repeat (refine walk_quiet rfl rfl rfl ?_; intro K hK; go_big_quiet_op; go_big_quiet_on)
  refine walk_ok (c := .int .u64 (gN l (a + 32) 8 : Nat)) (p := okB l (a + 32) 8 = true) rfl rfl (fun wx hwx _ => WpYld.callOk (run_callF (vals := [_]) Try.func108 (by kernel_rfl) rfl rfl rfl) HN32.out (HU32.out wx hwx)) ?_
  go_frame
  repeat (refine walk_quiet rfl rfl rfl ?_; intro K hK; go_big_quiet_op; go_big_quiet_on)
  refine walk_ok (c := .int .u64 (gN l (a + 40) 8 : Nat)) (p := okB l (a + 40) 8 = true) rfl rfl (fun wx hwx _ => WpYld.callOk (run_callF (vals := [_]) Try.func108 (by kernel_rfl) rfl rfl rfl) HN40.out (HU40.out wx hwx)) ?_
  go_frame
  repeat (refine walk_quiet rfl rfl rfl ?_; intro K hK; go_big_quiet_op; go_big_quiet_on)
  refine walk_ok (c := .int .u64 (gN l (a + 48) 8 : Nat)) (p := okB l (a + 48) 8 = true) rfl rfl (fun wx hwx _ => WpYld.callOk (run_callF (vals := [_]) Try.func108 (by kernel_rfl) rfl rfl rfl) HN48.out (HU48.out wx hwx)) ?_
  go_frame
  repeat (refine walk_quiet rfl rfl rfl ?_; intro K hK; go_big_quiet_op; go_big_quiet_on)
  refine walk_nil ?_
  intro wz hbz hF
  have HLAST : Hid (segOk l a = true) := Lib.hid (HYES.out (Yld.ok_got (hF 18 _ 25 _ rfl rfl rfl rfl)))
  clear hF hAB c1 c2
  have HX3z := Lib.hid (heap_below hbz HX3.out)
  refine wpList_storeMade HX3z.out rfl rfl (by kernel_rfl) rfl (by simp [Value.oneCell']) (Nat.le_trans HB1.out.size (Nat.le_of_lt hs2)) (Nat.le_trans HB3.out.size hbz.size) ?_
  intro wn hhn hbn
  have HBN := Lib.hid (HB3.out.trans ((hbz.mono HB3.out.size).trans hbn))
  have HHN := Lib.hid hhn
  clear hhn hbn hbz HX3z HX3 HX13 HX23 HX12 HX1 HX2
  go_wp2
  refine bodyPost_ret (results_cell_row rfl _ _ w2.heap.size _ _ _ _ rfl HHN.out rfl rfl (by kernel_rfl)) rfl ⟨?_, HBN.out⟩
  rw [HLAST.out, HSG.out]
  exact ResU.yes _
end Go.Proofs.Ytimnbnomaajmmaa
namespace Go.Proofs.Ytimnbnomaajmmaa
open Go.RowKit Go.Fd
theorem run_litB0 {a : Act} {w : World} {d : Option Tmp} {ty : TypeId} {pos : String} {aft : Array Edge} {g : Option (Nat × Bool)} :
    (execOp a.eval ⟨d, .buildSlice 29 0 #[], ty, pos, aft, g⟩).run Try.prog w = .ok (.value (.slice (some ⟨w.heap.size, 0, none⟩) 0 0)) (w.alloc (.cells #[] 5)) := by
  kernel_rfl
set_option maxRecDepth 100000 in
theorem clone_any (l : List UInt8) (v : Value) (w : World) (hl : l.length ≤ 1000000000) (hv : Bs w v l) :
    Calls Try.prog 110 #[v] w fun r w' => (∃ u, r = .returned u ∧ OB w' w.heap.size u l) ∧ Below w.heap.size w w' := by
  have HV := Lib.hid hv
  obtain ⟨m, ad, cap, hm, rfl, hmc, hnil⟩ := hv.shape
  have HM := Lib.hid hm.out
  clear hv
  cases ad with
  | none =>
    have h0 := hnil rfl
    have hl0 : l = [] := List.eq_nil_of_length_eq_zero (by have := HM.out; omega)
    have hm0 : m = 0 := by omega
    subst hl0 hm0 h0
    have hq := fun (w : World) (a : Option Addr) (n c : Nat) => Lib.run_eql_slice_nil (P := Try.prog) w 29 5 a n c 0 0 (by kernel_rfl)
    go_enter Try.func110, Try.ntmps110
    go_wp2
    go_ret
    exact ⟨⟨_, rfl, OB.nil _ _⟩, Below.refl _ _⟩
  | some a =>
    have HO := Lib.hid (show OB (w.alloc (.cells #[] 5)) w.heap.size (.slice (some ⟨w.heap.size, 0, none⟩) 0 0) [] from World.ownsRow_lit (base := w.heap.size) (size := 1) w #[] 0 (Nat.le_refl _) (by unfold maxLen; omega) rfl)
    have HB := Lib.hid (below_alloc w (.cells #[] 5))
    have HS : w.heap.size < (w.alloc (.cells #[] 5)).heap.size := by rw [World.size_alloc]; omega
    obtain ⟨w1, hw1⟩ : ∃ w1, w1 = w.alloc (.cells #[] 5) := ⟨_, rfl⟩
    rw [← hw1] at HO HB HS
    have HW := Lib.hid hw1
    clear hw1 hnil
    have hq := fun (w : World) (a : Option Addr) (n c : Nat) => Lib.run_eql_slice_nil (P := Try.prog) w 29 5 a n c 0 0 (by kernel_rfl)
    go_enter Try.func110, Try.ntmps110
    go_wp2_with (first
      | ((with_reducible show wpList _ _ _ (⟨some 5, _, _, _, _, _⟩ :: _) _ _); go_must (refine wpList_val rfl run_litB0 ?_; rw [← HW.out]))
      | ((with_reducible show wpList _ _ _ (⟨some 7, _, _, _, _, _⟩ :: _) _ _); go_must (refine wpList_catB HO.out (HV.out.mono HB.out) rfl rfl (by simp; omega) (Nat.le_of_lt HS) ?_; intro v2 w2 hv2 _ hb2; have HV2 := Lib.hid hv2; have HB2 := Lib.hid (HB.out.trans hb2); clear hv2 hb2)))
    go_ret
    exact ⟨⟨_, rfl, by have := HV2.out; rwa [List.nil_append] at this⟩, HB2.out⟩
end Go.Proofs.Ytimnbnomaajmmaa
namespace Go.Proofs.Ytimnbnomaajmmaa
open Go.RowKit Go.Fd
theorem append_types {P : Program} {w : World} {t u ty e e' : TypeId} {b : Option Addr} {n c : Nat} {x : Value} (ht : P.underlying t = some (.slice e)) (hu : P.underlying u = some (.slice e')) : (Builtin.append_ #[t, u] ty #[.slice b n c, x]).run P w = (Builtin.append_ #[t, t] ty #[.slice b n c, x]).run P w := by
  simp [Builtin.append_, run_underlying ht, run_underlying hu]
theorem run_cat {P : Program} {w : World} {t ty e : TypeId} (T : SliceT P t e 1 1) {v u : Value} {base : Nat} {l m : List UInt8} (hown : w.ownsRow base e 1 v l.length (l.map B)) (hy : Bs w u m) (hn : l.length + m.length ≤ 140737488355328) (hb : base ≤ w.heap.size) :
    ∃ v' w', (Builtin.append_ #[t, t] ty #[v, u]).run P w = .ok v' w' ∧ w'.ownsRow base e 1 v' (l ++ m).length ((l ++ m).map B) ∧ w.grownBy w' v.ownBlock := by
  obtain ⟨i, z, h1', h2, h3, h4, h5⟩ := T.info
  obtain ⟨hl, au, cap, rfl, hcap, h00, hc⟩ := hy
  rcases au with _ | ad
  · have hm0 : m = [] := by
      cases m with
      | nil => rfl
      | cons c m => obtain ⟨b, off, h', _⟩ := hc 0 (by simp); cases h'
    subst hm0
    obtain rfl := h00 rfl
    refine ⟨v, w, run_append_owned_none (w := w) base t ty e i 1 T.ht h1' v l.length (l.map B) hown, ?_, World.grownBy.refl _ _⟩
    rw [List.append_nil]
    exact hown
  · obtain ⟨v', w', hrun, h6, h7, -⟩ := run_append_own (w := w) base t ty e i z 1 1 T.ht h1' h2 h3 h4 h5 T.pos v l.length (l.map B) hown ad m.length cap (m.map B) (by simp) (fun j y hj => by
      have hlt : j < (m.map B).length := (List.getElem?_eq_some_iff.1 hj).1
      obtain ⟨b, off, e1, e2⟩ := hc j hlt
      cases e1
      have e3 : (⟨b, off, none⟩ : Addr).add j = ⟨b, off + j, none⟩ := by unfold Addr.add; split <;> simp_all
      rw [e3, e2, hj]) (fun u hu => List.all_eq_true.1 (allB m) u hu) (maxLen_of (by omega)) (by omega) hb
    refine ⟨v', w', hrun, ?_, h7⟩
    rw [List.length_append, List.map_append]
    exact h6
theorem wpList_catU {ops : Array Oper} {rest : List Oper} {Q : Exit → Act → World → Prop} {a : Act} {w : World} {d : Option Tmp} {ty : TypeId} {pos : String} {aft : Array Edge} {s x : Operand} {v u : Value} {base : Nat} {l m : List UInt8} (hown : OB w base v l) (hy : Bs w u m)
    (hs : a.eval s = v) (hx : a.eval x = u) (hn : l.length + m.length ≤ 140737488355328) (hb : base ≤ w.heap.size)
    (h : ∀ v' w', OB w' base v' (l ++ m) → w.grownBy w' v.ownBlock → wpList Try.prog ops Q rest (a.put d v') w') :
    wpList Try.prog ops Q (⟨d, .call { callee := .builtin .append, args := #[s, x], argTypes := #[90, 29] }, ty, pos, aft, none⟩ :: rest) a w := by
  obtain ⟨v', w', hrun, h6, h7⟩ := run_cat (ty := ty) TF hown hy hn hb
  obtain ⟨m0, ad, cap, hm, rfl, _, _⟩ := hown.shape
  refine wpList_val (v := v') (w' := w') rfl ?_ (h v' w' h6 h7)
  have hr2 := (append_types (P := Try.prog) (w := w) (ty := ty) (b := ad) (n := m0) (c := cap) (x := u) TF.ht TB.ht).trans hrun
  simp [execOp, resolve, invoke, builtin, hs, hx, hr2, Result.andThen]
end Go.Proofs.Ytimnbnomaajmmaa
namespace Go.Proofs.Ytimnbnomaajmmaa
open Go.RowKit Go.Fd
theorem heap_base {w w' : World} {base b : Nat} {o : Obj} (h : Below base w w') (hb : w.heap[b]? = some o) (hlt : b < base) : w'.heap[b]? = some o := by rw [h.block b hlt]; exact hb
theorem FileAt.lt {w : World} {base g : Nat} {l : List UInt8} (h : FileAt w base g l) : g < w.heap.size := by obtain ⟨v, h1, -⟩ := h; exact (Array.getElem?_eq_some_iff.1 h1).1
set_option maxHeartbeats 4000000 in
set_option maxRecDepth 100000 in
theorem writeE_any (e : ElfM) (L : List (SecM × Value)) (sv gv : Value) (w : World) (h : ElfAt w e L sv gv) (ho : ElfOk e) :
    Calls Try.prog 22 #[elfV e sv gv] w fun r w' => ∃ v, r = .returned (.tuple #[v, .int .i64 (fileW e).2]) ∧ OB w' w.heap.size v (fileW e).1 ∧ Below w.heap.size w w' := by
  obtain ⟨a, ca, rfl, hca, -, hc⟩ := h.rd.open (fun _ => rfl)
  obtain ⟨ga, gc, rfl, hgc, -, hcg⟩ := h.segs.open (fun _ => rfl)
  have HC := Lib.hid hc
  have HCG := Lib.hid hcg
  have HAT := Lib.hid h
  have HOK := Lib.hid ho
  have HD := Lib.hid h.data
  have HSE := Lib.hid (fun k x (hk : L[k]? = some x) => sec_of h.secs hk)
  have HEL := Lib.hid (show e.secs.length = L.length by rw [h.secs, List.length_map])
  obtain ⟨nl, hnl⟩ : ∃ n, n = L.length := ⟨_, rfl⟩
  obtain ⟨gn, hgn⟩ : ∃ n, n = e.segs.length := ⟨_, rfl⟩
  rw [← hnl] at hca HAT ⊢
  rw [← hgn] at hgc HAT ⊢
  have HL := Lib.hid hnl
  have HGN := Lib.hid hgn
  have HMY := Lib.hid (fun wx (hx : Below w.heap.size w wx) => may_any e L _ _ wx (HAT.out.mono hx) HOK.out)
  clear hc hcg h hnl hgn ho
  cases hmy : mayE e with
  | false =>
    have HR := Lib.hid (fileW_no hmy)
    rw [hmy] at HMY
    clear hmy
    go_enter Try.func22, Try.ntmps22
    go_wp2_with (first
      | ((with_reducible show wpList _ _ _ (⟨_, .box _ _, _, _, _, _⟩ :: _) _ _); go_must (refine wpList_box rfl ?_; intro w1 hx1 hb1 hs1; obtain ⟨c0, c1, c2, c3, c4, c5⟩ := elf_box hx1)))
    refine (HMY.out _ hb1).mono ?_
    rintro r w2 ⟨rfl, hb2⟩
    go_wp2
    go_ret2
    exact ⟨_, by rw [HR.out]; rfl, by rw [HR.out]; exact OB.nil _ _, hb1.trans (hb2.mono hb1.size)⟩
  | true =>
    have HR := Lib.hid (fileW_ok hmy)
    have HK := Lib.hid (mayK hmy)
    rw [hmy] at HMY
    clear hmy
    have hnl2 : nl ≤ 250 := by have h1 := HK.out.secs; have h2 := HEL.out; have h3 := HL.out; omega
    have hgn2 : gn ≤ 16 := by have h1 := HK.out.segs; have h2 := HGN.out; omega
    go_enter Try.func22, Try.ntmps22
    go_wp2_with (first
      | ((with_reducible show wpList _ _ _ (⟨_, .box _ _, _, _, _, _⟩ :: _) _ _); go_must (refine wpList_box rfl ?_; intro w1 hx1 hb1 hs1; obtain ⟨c0, c1, c2, c3, c4, c5⟩ := elf_box hx1)))
    have HX1 := Lib.hid hx1
    have HB1 := Lib.hid hb1
    have hs1' := hs1
    clear hx1 hb1 c0 c1 c2 c3 c4 c5
    refine (HMY.out _ HB1.out).mono ?_
    rintro r w2 ⟨rfl, hb2⟩
    have HX2 := Lib.hid (heap_below hb2 HX1.out)
    have HB2 := Lib.hid (HB1.out.trans (hb2.mono HB1.out.size))
    have hs2 := hb2.size
    clear hb2 HMY
    obtain ⟨c0, c1, c2, c3, c4, c5⟩ := elf_box HX2.out
    have HNA := Lib.hid (names_any e L _ _ w2 (HAT.out.mono HB2.out) (by have := HL.out; omega))
    rw [HK.out.ok] at HNA
    go_wp2_with fail
    clear c0 c1 c2 c3 c4 c5
    refine HNA.out.mono ?_
    rintro r w3 ⟨v1, v2, rfl, ob1, ow2, hb3⟩
    have OB1 := Lib.hid (show OB w3 w2.heap.size v1 (tabOf e) from ob1)
    have OW2 := Lib.hid (show Ow I64 3 w3 w2.heap.size v2 (atsOf e) from ow2)
    have HX3 := Lib.hid (heap_below hb3 HX2.out)
    have HB3 := Lib.hid (HB2.out.trans (hb3.mono HB2.out.size))
    have hs3 := hb3.size
    obtain ⟨tn, ta, tc, htn, rfl, _, _⟩ := ob1.bs.shape
    replace htn : Hid (tn = (tabOf e).length) := htn
    obtain ⟨aa, ac, rfl, hac, -, haac⟩ := (show Rd I64 w3 v2 (atsOf e) from ow2.rd).open 0
    have HAC := Lib.hid haac
    obtain ⟨al, hal⟩ : ∃ al, al = (atsOf e).length := ⟨_, rfl⟩
    have HAK := Lib.hid (atsOf_len HK.out)
    have hal2 : al = nl + 1 := by have h1 := HAK.out.1; have h2 := HEL.out; have h3 := HL.out; omega
    rw [← hal] at hac ⊢
    have HALN := Lib.hid hal
    clear ob1 ow2 hb3 HNA haac hal
    subst hal2
    have htl : tn ≤ 40000 := by have h1 := tabOf_len e; have h2 := htn.out; have h3 := HEL.out; have h4 := HL.out; omega
    have HPL := Lib.hid (places_any e L _ _ tn w3 (HAT.out.mono HB3.out) (by have := HL.out; omega) (by have := HGN.out; omega) HK.out.pow HOK.out.fits.secs HOK.out.data (by omega))
    have HHD : Hid (headsOf e tn = headsOf e (tabOf e).length) := by rw [htn.out]; exact rfl
    have hhd : headsOf e tn + 64 * (nl + 2) ≤ 4194304 := by have h1 := HK.out.len; have h2 := HHD.out; have h3 := HEL.out; have h4 := HL.out; omega
    have HGE := Lib.hid (show (placesOf e).2 + tn ≤ headsOf e tn ∧ headsOf e tn < (placesOf e).2 + tn + 8 by have h1 := heads_ge (e := e); have h2 := HHD.out; have h3 := htn.out; omega)
    obtain ⟨hd, hhdd⟩ : ∃ hd, hd = headsOf e tn := ⟨_, rfl⟩
    obtain ⟨pe, hpe⟩ : ∃ pe, pe = (placesOf e).2 := ⟨_, rfl⟩
    rw [← hhdd] at HPL HHD hhd HGE
    rw [← hpe] at HPL HGE
    have HPE := Lib.hid hpe
    clear hhdd hpe
    obtain ⟨c0, c1, c2, c3, c4, c5⟩ := elf_box HX3.out
    go_wp2_with fail
    clear c0 c1 c2 c3 c4 c5
    refine HPL.out.mono ?_
    rintro r w4 ⟨v3, rfl, ow3, hb4⟩
    obtain ⟨pa, pc, rfl, hpc, -, hpac⟩ := (show Rd I64 w4 v3 (placesOf e).1 from ow3.rd).open 0
    have HPC := Lib.hid hpac
    have hpl : (placesOf e).1.length = nl := by have h1 := plF_len (g := segsB e) (n := front e) e.secs; have h2 := HEL.out; have h3 := HL.out; exact h1.trans (by omega)
    rw [hpl] at hpc ⊢
    have HPLN := Lib.hid hpl
    have HX4 := Lib.hid (heap_below hb4 HX3.out)
    have HB4w := Lib.hid (HB3.out.trans (hb4.mono HB3.out.size))
    have OB14 := Lib.hid (OB1.out.mono hb4)
    have HAC4 : Hid (∀ j, j < (atsOf e).length → ∃ b off, aa = some ⟨b, off, none⟩ ∧ w4.cell? ⟨b, off + j, none⟩ = some (I64 ((atsOf e)[j]?.getD 0))) := fun j hj => by
      obtain ⟨b, off, h1, h2⟩ := HAC.out j hj
      exact ⟨b, off, h1, (hb4.cell (block_lt h2)).trans h2⟩
    have hs4 := hb4.size
    have hG4 : w.heap.size < w4.heap.size := by omega
    have hwf4 : w.heap.size ≤ w3.heap.size := by omega
    clear ow3 hb4 hpac hpl HPL OB1 HAC
    obtain ⟨c0, c1, c2, c3, c4, c5⟩ := elf_box (heap_below (below_alloc w4 (.cells #[.slice none 0 0] 90)) HX4.out)
    go_wp2_with fail
    clear c0 c1 c2 c3 c4 c5
    refine (headF_any e nl gn a ga ca gc hd w4.heap.size w4.heap.size _ ⟨_, heap_alloc_last w4 _, Nat.le_refl _, OB.nil _ _⟩ (by have h2 := HEL.out; have h3 := HL.out; omega) HGN.out HOK.out.fits HK.out.typ (by omega) (by omega) (by omega) (by rw [World.size_alloc]; omega)).mono ?_
    rintro r w5 ⟨rfl, hf5, hb5, hk5⟩
    have HF5 := Lib.hid hf5
    have HB5 := Lib.hid ((below_alloc w4 _).trans hb5)
    clear hf5 hb5 hk5
    obtain ⟨c0, c1, c2, c3, c4, c5⟩ := elf_box (heap_base HB5.out HX4.out hG4)
    go_wp2
    go_loopw [40] (fun i wr => ∃ k : Nat, i = .int .i64 k ∧ k ≤ gn ∧ Hid (FileAt wr w4.heap.size w4.heap.size (headB e hd ++ (e.segs.take k).flatMap segBy)) ∧ Hid (Below w4.heap.size w4 wr)) (fun i _ => gn - (intOf i).toNat)
    case atStart => exact ⟨0, rfl, Nat.zero_le _, by simpa [Hid] using HF5.out, HB5.out⟩
    case round =>
      clear c0 c1 c2 c3 c4 c5
      obtain ⟨k, rfl, hk, HF, HB⟩ := hrel
      have hbs := HB.out.size
      have hgl := HF.out.lt
      have HBW := Lib.hid (HB4w.out.trans (HB.out.mono (by omega)))
      by_cases hlt : k < gn
      · have X1 := Lib.hid (show e.segs[k]? = some (e.segs[k]'(by have := HGN.out; omega)) from List.getElem?_eq_getElem _)
        generalize e.segs[k]'(by have := HGN.out; omega) = x at *
        obtain ⟨b1, o1, ha, c10, c11, c12, c13, c14, c15, c16, -⟩ := seg_cells HCG.out HBW.out X1.out
        subst ha
        have HFS := Lib.hid (HOK.out.fits.segs _ (List.mem_of_getElem? X1.out))
        have HST : Hid ((e.segs.take (k + 1)).flatMap segBy = (e.segs.take k).flatMap segBy ++ segBy x) := by rw [List.take_add_one, X1.out, List.flatMap_append]; simp [Hid]
        have HTL := Lib.hid (show (headB e hd ++ (e.segs.take k).flatMap segBy).length ≤ 5000 by
          rw [List.length_append, headB_len, flat_len' segBy_len, List.length_take]; omega)
        obtain ⟨typ, flags, off, vaddr, filesz, memsz, align⟩ := x
        generalize hT : headB e hd ++ (e.segs.take k).flatMap segBy = T at *
        have HT := Lib.hid hT
        clear hT
        dsimp only at *
        have hty : typ < 4294967296 := HFS.out.1
        have hfl : flags < 4294967296 := HFS.out.2.1
        go_wp2_with (first
          | ((with_reducible show wpList _ _ _ (⟨none, .store _ _ _, _, _, _, _⟩ :: _) _ _); go_must (refine wpList_storeNew rfl rfl (by kernel_rfl) rfl (by simp [Value.oneCell']) ?_; intro w6 hh6 hb6; obtain ⟨e0, e1, e2, e3, e4, e5, e6⟩ := seg_box (x := ⟨typ, flags, off, vaddr, filesz, memsz, align⟩) hh6; have HH6 := Lib.hid hh6; have HF6 := Lib.hid (HF.out.mono hb6); have HB6 := Lib.hid (HB.out.trans (hb6.mono HB.out.size)); have hr6 := HB.out.size; clear hb6 hh6)))
        refine (putF_any [typ, flags] 4 _ w4.heap.size w4.heap.size _ _ (HF6.out.mono (below_alloc _ _)) (heap_alloc_last _ _) (fun h => by have := HF6.out.lt; omega) (by decide) (by have h1 := HTL.out; (try simp only [List.length_append, flat_len' (fun n => length_fixed n _), List.length_replicate, List.length_cons, List.length_nil]); omega) (Nat.le_of_ble_eq_true rfl) (by intro n hn;  simp only [List.mem_cons, List.not_mem_nil, or_false] at hn; omega) (by rw [World.size_alloc]; have := HB6.out.size; omega) 2 (Nat.le_refl _)).mono ?_
        rintro r w7 ⟨rfl, hf, hb, hk⟩
        have HF7 := Lib.hid hf
        have HB7 := Lib.hid ((HB6.out.trans ((below_alloc w6 _).mono HB6.out.size)).trans hb)
        have HH7 := Lib.hid (hk _ _ _ _ (by omega) (by decide) (heap_below (below_alloc _ _) HH6.out))
        clear hf hb hk
        clear e0 e1 e2 e3 e4 e5 e6
        obtain ⟨e0, e1, e2, e3, e4, e5, e6⟩ := seg_box (x := ⟨typ, flags, off, vaddr, filesz, memsz, align⟩) HH7.out
        go_wp2_with fail
        refine (putF_any [off, vaddr, vaddr, filesz, memsz, align] 8 _ w4.heap.size w4.heap.size _ _ (HF7.out.mono (below_alloc _ _)) (heap_alloc_last _ _) (fun h => by have := HF7.out.lt; omega) (by decide) (by have h1 := HTL.out; (try simp only [List.length_append, flat_len' (fun n => length_fixed n _), List.length_cons, List.length_nil]); omega) (Nat.le_of_ble_eq_true rfl) (by intro n hn; have h1 := HFS.out.2.2.1; have h2 := HFS.out.2.2.2.1; have h3 := HFS.out.2.2.2.2.1; have h4 := HFS.out.2.2.2.2.2.1; have h5 := HFS.out.2.2.2.2.2.2; dsimp only at h1 h2 h3 h4 h5; simp only [List.mem_cons, List.not_mem_nil, or_false] at hn; omega) (by rw [World.size_alloc]; have := HB7.out.size; omega) 6 (Nat.le_refl _)).mono ?_
        rintro r w8 ⟨rfl, hf, hb, hk⟩
        have HF8 := Lib.hid hf
        have HB8 := Lib.hid ((HB7.out.trans ((below_alloc w7 _).mono HB7.out.size)).trans hb)
        clear hf hb hk
        have HF9 := Lib.hid (show FileAt w8 w4.heap.size w4.heap.size (headB e hd ++ (e.segs.take (k + 1)).flatMap segBy) by rw [HST.out, ← List.append_assoc, HT.out]; have := HF8.out; rw [List.append_assoc] at this; exact this)
        clear e0 e1 e2 e3 e4 e5 e6
        go_wp2
        go_roundw
        case rel =>
          first
            | exact ⟨k + 1, by go_num, by omega, HF9.out, HB8.out⟩
            | ((repeat apply Exists.intro); exact ⟨⟨k + 1, by go_num, by omega, HF9.out, HB8.out⟩, rfl⟩)
        case measure => simp [intOf] <;> omega
      · have hkn : e.segs.take k = e.segs := List.take_of_length_le (by have := HGN.out; omega)
        have HFR := Lib.hid (show FileAt wr w4.heap.size w4.heap.size (frontB e) by
          have := HF.out
          rw [hkn] at this
          unfold frontB
          rw [← HHD.out]
          exact this)
        have HBR := Lib.hid HB.out
        obtain ⟨c0, c1, c2, c3, c4, c5⟩ := elf_box (heap_base HB.out HX4.out hG4)
        clear HF hkn
        go_wp2
        go_loopw [70] (fun i wr => ∃ k : Nat, i = .int .i64 k ∧ k ≤ nl ∧ Hid (FileAt wr w4.heap.size w4.heap.size (bodyF (frontB e) ((e.secs.zip (placesOf e).1).take k))) ∧ Hid (Below w4.heap.size w4 wr)) (fun i _ => nl - (intOf i).toNat)
        case atStart => exact ⟨0, rfl, Nat.zero_le _, HFR.out, HBR.out⟩
        case round =>
          clear c0 c1 c2 c3 c4 c5
          obtain ⟨k, rfl, hk, HF, HB⟩ := hrel
          have hbs := HB.out.size
          have hgl := HF.out.lt
          have HBW := Lib.hid (HB4w.out.trans (HB.out.mono (by omega)))
          by_cases hlt : k < nl
          · have X1 := Lib.hid (show L[k]? = some (L[k]'(by have := HL.out; omega)) from List.getElem?_eq_getElem _)
            generalize L[k]'(by have := HL.out; omega) = x at *
            obtain ⟨s, dv⟩ := x
            have HDB := Lib.hid (HD.out _ (List.mem_of_getElem? X1.out))
            obtain ⟨dm, da, dc, hdm, rfl, _, _⟩ := HDB.out.shape
            have X2 := Lib.hid (HSE.out _ _ X1.out)
            have HZP := Lib.hid (zipP (g := segsB e) (n := front e) X2.out)
            have HPG := Lib.hid (plF_get (g := segsB e) (n := front e) X2.out)
            have HST := Lib.hid (show bodyF (frontB e) ((e.secs.zip (placesOf e).1).take (k + 1)) = bodyF (frontB e) ((e.secs.zip (placesOf e).1).take k) ++ List.replicate (placeS (segsB e) (plF (segsB e) (front e) (e.secs.take k)).2 s - (bodyF (frontB e) ((e.secs.zip (placesOf e).1).take k)).length) 0 ++ s.data from bodyF_step (acc := frontB e) HZP.out)
            have HLN := Lib.hid (body_len (g := segsB e) (frontB_len e) HK.out.pow k (by have h1 := HEL.out; have h2 := HL.out; omega))
            have HLE := Lib.hid (placeS_le (g := segsB e) (p := (plF (segsB e) (front e) (e.secs.take k)).2) (HK.out.pow _ (List.mem_of_getElem? X2.out)))
            have HPB := Lib.hid (place_bd HK.out (k + 1))
            rw [plF_step X2.out] at HPB
            have hp9 : placeS (segsB e) (plF (segsB e) (front e) (e.secs.take k)).2 s + dm ≤ 4194304 := by
              have h1 : placeS (segsB e) (plF (segsB e) (front e) (e.secs.take k)).2 s + s.data.length ≤ (placesOf e).2 := HPB.out
              have h2 := HGE.out.1
              have h3 := HPE.out
              have h4 := hdm.out
              dsimp only at h4
              omega
            obtain ⟨b1, o1, ha, c10, c11, c12, c13, c14, c15, c16, c17, c18, c19, -⟩ := sec_cells HC.out HBW.out X1.out
            subst ha
            obtain ⟨bP, oP, hP1, cP⟩ := HPC.out k (by have := HPLN.out; omega)
            have HPGx := HPG.out
            replace HPGx : (placesOf e).1[k]? = _ := HPGx
            rw [HPGx] at cP
            simp only [Option.getD_some] at cP
            replace cP := (HB.out.cell (block_lt cP)).trans cP
            subst hP1
            have HPGY := Lib.hid HPGx
            generalize hT : bodyF (frontB e) ((e.secs.zip (placesOf e).1).take k) = T at *
            have HT := Lib.hid hT
            have HTL := Lib.hid (show T.length = (plF (segsB e) (front e) (e.secs.take k)).2 by rw [← hT]; exact HLN.out)
            generalize placeS (segsB e) (plF (segsB e) (front e) (e.secs.take k)).2 s = p at *
            obtain ⟨d, hd1⟩ : ∃ d, p = T.length + d := ⟨p - T.length, by have h1 := HLE.out.1; have h2 := HTL.out; omega⟩
            have HD1 := Lib.hid hd1
            clear hT HPGx hd1
            obtain ⟨name, typ, flags, addr, align, size, link, info, ent, data⟩ := s
            dsimp only at *
            go_wp2_with (first
              | ((with_reducible show wpList _ _ _ (⟨none, .store _ _ _, _, _, _, _⟩ :: _) _ _); go_must (refine wpList_storeNew rfl rfl (by kernel_rfl) rfl (by simp [Value.oneCell']) ?_; intro w6 hh6 hb6; obtain ⟨e0, e1, e2, e3, e4, e5, e6, e7, e8, e9⟩ := sec_box (x := (⟨name, typ, flags, addr, align, size, link, info, ent, data⟩, .slice da dm dc)) hh6; have HH6 := Lib.hid hh6; have HF6 := Lib.hid (HF.out.mono hb6); have HB6 := Lib.hid (HB.out.trans (hb6.mono HB.out.size)); have hr6 := HB.out.size; have cP6 := (hb6.cell (block_lt cP)).trans cP; clear hb6 hh6)))
            refine (fillF_any d w4.heap.size w4.heap.size (p : Int) T w6 HF6.out (by rw [HD1.out]) (by have h1 := HD1.out; omega) HB6.out.size).mono ?_
            rintro r w7 ⟨rfl, hf, hb, hk⟩
            have HH7 := Lib.hid (hk _ _ _ _ (by omega) (by decide) HH6.out)
            have HB7 := Lib.hid (HB6.out.trans hb)
            obtain ⟨v7, hg7, hbg7, hov7⟩ := hf
            have HG7 := Lib.hid hg7
            have HV7 := Lib.hid hov7
            obtain ⟨m7, ad7, cap7, hm7, rfl, _, _⟩ := hov7.shape
            have z7 := cell_rec HG7.out 0
            simp only [List.getElem?_toArray, List.getElem?_cons_zero] at z7
            have HBD7 := Lib.hid (HDB.out.mono (HB4w.out.trans (HB7.out.mono (by omega))))
            clear hb hk hg7 hov7 e0 e1 e2 e3 e4 e5 e6 e7 e8 e9
            obtain ⟨e0, e1, e2, e3, e4, e5, e6, e7, e8, e9⟩ := sec_box (x := (⟨name, typ, flags, addr, align, size, link, info, ent, data⟩, .slice da dm dc)) HH7.out
            go_wp2_with (first
              | ((with_reducible show wpList _ _ _ (⟨some 83, _, _, _, _, _⟩ :: _) _ _); go_must (refine wpList_catU HV7.out HBD7.out rfl rfl (by rw [List.length_append, List.length_replicate]; have h1 := HD1.out; have h2 := hdm.out; omega) HB7.out.size ?_; intro v8 w8 hv8 hg8; have HG8 := Lib.hid (keeps_own HV7.out hg8 _ _ _ _ (by decide) HG7.out); have HV8 := Lib.hid hv8; have HB8 := Lib.hid (HB7.out.trans (below_of_grown hg8 HB7.out.size fun k hk => (World.ownsRow.lt HV7.out k hk).1)); clear hv8 hg8))
              | ((with_reducible show wpList _ _ _ (⟨none, .store _ _ _, _, _, _, _⟩ :: _) _ _); go_must (refine wpList_storeF HG8.out hbg7 HV8.out rfl rfl HB8.out.size ?_; intro w9 hf9 hb9 hk9)))
            have HF9 := Lib.hid (show FileAt w9 w4.heap.size w4.heap.size (bodyF (frontB e) ((e.secs.zip (placesOf e).1).take (k + 1))) by
              rw [HST.out]
              rw [show p - T.length = d by have h1 := HD1.out; omega]
              exact hf9)
            have HB9 := Lib.hid (HB8.out.trans hb9)
            clear hf9 hb9 hk9 z7 e0 e1 e2 e3 e4 e5 e6 e7 e8 e9
            go_roundw
            case rel =>
              first
                | exact ⟨k + 1, by go_num, by omega, HF9.out, HB9.out⟩
                | ((repeat apply Exists.intro); exact ⟨⟨k + 1, by go_num, by omega, HF9.out, HB9.out⟩, rfl⟩)
            case measure => simp [intOf] <;> omega
          · have hkn : (e.secs.zip (placesOf e).1).take k = e.secs.zip (placesOf e).1 := List.take_of_length_le (by rw [List.length_zip]; have h1 := HEL.out; have h2 := HL.out; omega)
            have HF6 := Lib.hid (show FileAt wr w4.heap.size w4.heap.size (bodyB e) by
              have := HF.out
              rw [hkn] at this
              exact this)
            have HBL := Lib.hid (show (bodyB e).length = pe by rw [bodyB_len HK.out.pow, ← HPE.out])
            have HB6 := Lib.hid HB.out
            have hpe4 : pe ≤ 4194304 := by have := HGE.out.1; omega
            clear HF HB hkn
            go_wp2_with fail
            refine (fillF_any 0 w4.heap.size w4.heap.size (pe : Int) (bodyB e) wr HF6.out (by rw [HBL.out]; rfl) (by have h1 := HBL.out; omega) HB6.out.size).mono ?_
            rintro r w7 ⟨rfl, hf, hb, hk⟩
            have HB7 := Lib.hid (HB6.out.trans hb)
            rw [List.replicate_zero, List.append_nil] at hf
            obtain ⟨v7, hg7, hbg7, hov7⟩ := hf
            have HG7 := Lib.hid hg7
            have HV7 := Lib.hid hov7
            obtain ⟨m7, ad7, cap7, hm7, rfl, _, _⟩ := hov7.shape
            have z7 := cell_rec HG7.out 0
            simp only [List.getElem?_toArray, List.getElem?_cons_zero] at z7
            have HTB7 := Lib.hid (OB14.out.bs.mono HB7.out)
            clear hb hk hg7 hov7
            go_wp2_with (first
              | ((with_reducible show wpList _ _ _ (⟨some 89, _, _, _, _, _⟩ :: _) _ _); go_must (refine wpList_catU HV7.out HTB7.out rfl rfl (by have h1 := HBL.out; have h2 := htn.out; omega) HB7.out.size ?_; intro v8 w8 hv8 hg8; have HG8 := Lib.hid (keeps_own HV7.out hg8 _ _ _ _ (by decide) HG7.out); have HV8 := Lib.hid hv8; have HB8 := Lib.hid (HB7.out.trans (below_of_grown hg8 HB7.out.size fun k hk => (World.ownsRow.lt HV7.out k hk).1)); clear hv8 hg8))
              | ((with_reducible show wpList _ _ _ (⟨none, .store _ _ _, _, _, _, _⟩ :: _) _ _); go_must (refine wpList_storeF HG8.out hbg7 HV8.out rfl rfl HB8.out.size ?_; intro w9 hf9 hb9 hk9)))
            have HF9 := Lib.hid hf9
            have HB9 := Lib.hid (HB8.out.trans hb9)
            clear hf9 hb9 hk9 z7
            have HTN : Hid ((bodyB e ++ tabOf e).length = pe + tn) := by
              show _ = _
              rw [List.length_append, HBL.out, ← htn.out]
            obtain ⟨dd, hdd⟩ : ∃ dd, hd + 64 = pe + tn + dd := ⟨hd + 64 - (pe + tn), by have := HGE.out.1; omega⟩
            have HDD := Lib.hid hdd
            clear hdd
            refine (fillF_any dd w4.heap.size w4.heap.size ((hd : Int) + 64) _ w9 HF9.out (by rw [HTN.out]; have := HDD.out; omega) (by rw [HTN.out]; have := HDD.out; omega) HB9.out.size).mono ?_
            rintro r w10 ⟨rfl, hf, hb, hk⟩
            have HF10 := Lib.hid (show FileAt w10 w4.heap.size w4.heap.size (midB e) by
              unfold midB
              rw [← HHD.out, ← HPE.out, ← htn.out, show hd + 64 - (pe + tn) = dd by have := HDD.out; omega]
              exact hf)
            have HB10 := Lib.hid (HB9.out.trans hb)
            have HML := Lib.hid (show (midB e).length = hd + 64 by rw [midB_len HK.out, ← HHD.out])
            clear hf hb hk
            obtain ⟨c0, c1, c2, c3, c4, c5⟩ := elf_box (heap_base HB10.out HX4.out hG4)
            go_wp2
            go_loopw [96] (fun i wr => ∃ k : Nat, i = .int .i64 k ∧ k ≤ nl ∧ Hid (FileAt wr w4.heap.size w4.heap.size (midB e ++ ((e.secs.zip ((atsOf e).zip (placesOf e).1)).take k).flatMap fun p => hdrBy p.2.1 p.1 p.2.2)) ∧ Hid (Below w4.heap.size w4 wr)) (fun i _ => nl - (intOf i).toNat)
            case atStart => exact ⟨0, rfl, Nat.zero_le _, by simpa [Hid] using HF10.out, HB10.out⟩
            case round =>
              clear c0 c1 c2 c3 c4 c5
              obtain ⟨k, rfl, hk, HF, HB⟩ := hrel
              have hbs := HB.out.size
              have hgl := HF.out.lt
              have HBW := Lib.hid (HB4w.out.trans (HB.out.mono (by omega)))
              by_cases hlt : k < nl
              · have X1 := Lib.hid (show L[k]? = some (L[k]'(by have := HL.out; omega)) from List.getElem?_eq_getElem _)
                generalize L[k]'(by have := HL.out; omega) = x at *
                obtain ⟨s, dv⟩ := x
                have HDB := Lib.hid (HD.out _ (List.mem_of_getElem? X1.out))
                obtain ⟨dm, da, dc, hdm, rfl, _, _⟩ := HDB.out.shape
                have X2 := Lib.hid (HSE.out _ _ X1.out)
                have HFS := Lib.hid (HOK.out.fits.secs _ (List.mem_of_getElem? X2.out))
                obtain ⟨b1, o1, ha, c10, c11, c12, c13, c14, c15, c16, c17, c18, c19, -⟩ := sec_cells HC.out HBW.out X1.out
                subst ha
                have XA := Lib.hid (show (atsOf e)[k]? = some ((atsOf e)[k]'(by have := HALN.out; omega)) from List.getElem?_eq_getElem _)
                have XP := Lib.hid (show (placesOf e).1[k]? = some ((placesOf e).1[k]'(by have := HPLN.out; omega)) from List.getElem?_eq_getElem _)
                have hpbx : ∀ x, (placesOf e).1[k]? = some x → x ≤ 4194304 := fun x hx => by
                  have h2 := plF_get (g := segsB e) (n := front e) X2.out
                  have h3 : (placesOf e).1[k]? = some (placeS (segsB e) (plF (segsB e) (front e) (e.secs.take k)).2 s) := h2
                  rw [h3] at hx
                  injection hx with hx
                  have h4 := place_bd HK.out (k + 1)
                  rw [plF_step X2.out] at h4
                  have h5 : placeS (segsB e) (plF (segsB e) (front e) (e.secs.take k)).2 s + s.data.length ≤ (placesOf e).2 := h4
                  have h6 := HPE.out
                  omega
                have hab : (atsOf e)[k]'(by have := HALN.out; omega) ≤ 130000 := HAK.out.2 _ (List.getElem_mem _)
                obtain ⟨bA, oA, hA1, cA⟩ := HAC4.out k (by have := HALN.out; omega)
                obtain ⟨bP, oP, hP1, cP⟩ := HPC.out k (by have := HPLN.out; omega)
                rw [XA.out] at cA
                rw [XP.out] at cP
                have HST : Hid (((e.secs.zip ((atsOf e).zip (placesOf e).1)).take (k + 1)).flatMap (fun p => hdrBy p.2.1 p.1 p.2.2) = ((e.secs.zip ((atsOf e).zip (placesOf e).1)).take k).flatMap (fun p => hdrBy p.2.1 p.1 p.2.2) ++ hdrBy ((atsOf e)[k]'(by have := HALN.out; omega)) s ((placesOf e).1[k]'(by have := HPLN.out; omega))) := by
                  rw [List.take_add_one, show (e.secs.zip ((atsOf e).zip (placesOf e).1))[k]? = some (s, _, _) by rw [List.getElem?_zip_eq_some]; exact ⟨X2.out, by rw [List.getElem?_zip_eq_some]; exact ⟨XA.out, XP.out⟩⟩, List.flatMap_append]
                  simp [Hid]
                generalize (atsOf e)[k]'(by have := HALN.out; omega) = na at *
                generalize (placesOf e).1[k]'(by have := HPLN.out; omega) = pl at *
                have hpb := hpbx _ XP.out
                clear hpbx
                simp only [Option.getD_some] at cA cP
                replace cA := (HB.out.cell (block_lt cA)).trans cA
                have cP0 := cP
                replace cP := (HB.out.cell (block_lt cP)).trans cP
                subst hA1
                subst hP1
                have HTL := Lib.hid (show (midB e ++ ((e.secs.zip ((atsOf e).zip (placesOf e).1)).take k).flatMap fun p => hdrBy p.2.1 p.1 p.2.2).length ≤ 8000000 by
                  rw [List.length_append, HML.out, flat_len' (f := fun p : SecM × Nat × Nat => hdrBy p.2.1 p.1 p.2.2) (fun p => hdrBy_len p.2.1 p.1 p.2.2), List.length_take]
                  omega)
                generalize hT : (midB e ++ ((e.secs.zip ((atsOf e).zip (placesOf e).1)).take k).flatMap fun p => hdrBy p.2.1 p.1 p.2.2) = T at *
                have HT := Lib.hid hT
                clear hT
                obtain ⟨name, typ, flags, addr, align, size, link, info, ent, data⟩ := s
                dsimp only at *
                have hty : typ < 4294967296 := HFS.out.1
                have hli : link < 4294967296 := HFS.out.2.2.2.2.2.1
                have hin : info < 4294967296 := HFS.out.2.2.2.2.2.2.1
                go_wp2_with (first
                  | ((with_reducible show wpList _ _ _ (⟨none, .store _ _ _, _, _, _, _⟩ :: _) _ _); go_must (refine wpList_storeNew rfl rfl (by kernel_rfl) rfl (by simp [Value.oneCell']) ?_; intro w6 hh6 hb6; obtain ⟨e0, e1, e2, e3, e4, e5, e6, e7, e8, e9⟩ := sec_box (x := (⟨name, typ, flags, addr, align, size, link, info, ent, data⟩, .slice da dm dc)) hh6; have HH6 := Lib.hid hh6; have HF6 := Lib.hid (HF.out.mono hb6); have HB6 := Lib.hid (HB.out.trans (hb6.mono HB.out.size)); have hr6 := HB.out.size; have cP6 := (hb6.cell (block_lt cP)).trans cP; have cA6 := (hb6.cell (block_lt cA)).trans cA; clear hb6 hh6)))
                have hAB := fun (x : Above w6) (b k : Nat) (h : b < w6.heap.size) => Above.cell x b k h
                have hbltA : bA < w6.heap.size := block_lt cA6
                have hbltE : wr.heap.size < w6.heap.size := block_lt e0
                go_wp2
                refine wp_region_walk 9 [(8, .lit w6.heap.size 44 #[.int .u64 (na : Int), .int .u64 (typ : Int)])] (by kernel_rfl) (by kernel_rfl) ?_
                simp only [List.take_succ_cons, List.take_zero, List.drop_succ_cons, List.drop_zero]
                repeat (first
                  | (refine walk_quiet rfl rfl rfl ?_; intro K hK; go_big_quiet_op; go_big_quiet_on)
                  | (refine walk_lit rfl rfl (fun wx hwx _ => WpYld.val (run_l2 rfl rfl) (Yld.lit_mk _ hwx).1 (Yld.lit_mk _ hwx).2) (fun gb => ?_); go_frame))
                refine walk_nil ?_
                intro wz hbz hF
                obtain ⟨hgB, hgl2⟩ := Yld.lit_got (hF 8 _ 109 _ rfl rfl rfl rfl)
                have HLT := Lib.hid hgl2
                have HFz := Lib.hid (HF6.out.mono hbz)
                have HBz := Lib.hid (HB6.out.trans (hbz.mono HB6.out.size))
                have HHz := Lib.hid (heap_below hbz HH6.out)
                have HF7 := HFz
                have HB7 := HBz
                have hgbg : gb ≠ w4.heap.size := by have := HF6.out.lt; omega
                clear hF hbz hgl2 hAB hbltA hbltE
                go_wp2_with fail
                refine (putF_any [na, typ] 4 _ w4.heap.size w4.heap.size _ _ HF7.out HLT.out hgbg (by decide) (by have h1 := HTL.out; (try simp only [List.length_append, flat_len' (fun n => length_fixed n _), List.length_replicate, List.length_cons, List.length_nil]); omega) (Nat.le_of_ble_eq_true rfl) (by intro n hn;  simp only [List.mem_cons, List.not_mem_nil, or_false] at hn; omega) HB7.out.size 2 (Nat.le_refl _)).mono ?_
                rintro r w8 ⟨rfl, hf, hb, hk⟩
                have HF8 := Lib.hid hf
                have HB8 := Lib.hid (HB7.out.trans hb)
                have HH8 := Lib.hid (hk _ _ _ _ (by omega) (by decide) HHz.out)
                clear hf hb hk
                clear e0 e1 e2 e3 e4 e5 e6 e7 e8 e9
                obtain ⟨e0, e1, e2, e3, e4, e5, e6, e7, e8, e9⟩ := sec_box (x := (⟨name, typ, flags, addr, align, size, link, info, ent, data⟩, .slice da dm dc)) HH8.out
                have cP8 := ((HB8.out.cell (block_lt cP0)).trans cP0)
                have hAB := fun (x : Above w8) (b k : Nat) (h : b < w8.heap.size) => Above.cell x b k h
                have hbltP : bP < w8.heap.size := block_lt cP8
                have hbltE : wr.heap.size < w8.heap.size := block_lt e0
                go_wp2
                refine wp_region_walk 12 [(11, .lit w8.heap.size 44 #[.int .u64 (flags : Int), .int .u64 (addr : Int), .int .u64 (pl : Int), .int .u64 (size : Int)])] (by kernel_rfl) (by kernel_rfl) ?_
                simp only [List.take_succ_cons, List.take_zero, List.drop_succ_cons, List.drop_zero]
                repeat (first
                  | (refine walk_quiet rfl rfl rfl ?_; intro K hK; go_big_quiet_op; go_big_quiet_on)
                  | (refine walk_lit rfl rfl (fun wx hwx _ => WpYld.val (run_l4 rfl rfl rfl rfl) (Yld.lit_mk _ hwx).1 (Yld.lit_mk _ hwx).2) (fun gc2 => ?_); go_frame))
                refine walk_nil ?_
                intro wy hby hF
                obtain ⟨hgB, hgl2⟩ := Yld.lit_got (hF 11 _ 122 _ rfl rfl rfl rfl)
                have HLT2 := Lib.hid hgl2
                have HF9 := Lib.hid (HF8.out.mono hby)
                have HB9 := Lib.hid (HB8.out.trans (hby.mono HB8.out.size))
                have HHy := Lib.hid (heap_below hby HH8.out)
                have hgcg : gc2 ≠ w4.heap.size := by have := HF8.out.lt; omega
                clear hF hby hgl2 hAB hbltP hbltE cP8
                go_wp2_with fail
                refine (putF_any [flags, addr, pl, size] 8 _ w4.heap.size w4.heap.size _ _ HF9.out HLT2.out hgcg (by decide) (by have h1 := HTL.out; (try simp only [List.length_append, flat_len' (fun n => length_fixed n _), List.length_cons, List.length_nil]); omega) (Nat.le_of_ble_eq_true rfl) (by intro n hn; have h1 := HFS.out.2.1; have h2 := HFS.out.2.2.1; have h3 := HFS.out.2.2.2.2.1; dsimp only at h1 h2 h3; simp only [List.mem_cons, List.not_mem_nil, or_false] at hn; omega) HB9.out.size 4 (Nat.le_refl _)).mono ?_
                rintro r w10 ⟨rfl, hf, hb, hk⟩
                have HF10 := Lib.hid hf
                have HB10 := Lib.hid (HB9.out.trans hb)
                have HH10 := Lib.hid (hk _ _ _ _ (by omega) (by decide) HHy.out)
                clear hf hb hk
                clear e0 e1 e2 e3 e4 e5 e6 e7 e8 e9
                obtain ⟨e0, e1, e2, e3, e4, e5, e6, e7, e8, e9⟩ := sec_box (x := (⟨name, typ, flags, addr, align, size, link, info, ent, data⟩, .slice da dm dc)) HH10.out
                go_wp2_with fail
                refine (putF_any [link, info] 4 _ w4.heap.size w4.heap.size _ _ (HF10.out.mono (below_alloc _ _)) (heap_alloc_last _ _) (fun h => by have := HF10.out.lt; omega) (by decide) (by have h1 := HTL.out; (try simp only [List.length_append, flat_len' (fun n => length_fixed n _), List.length_cons, List.length_nil]); omega) (Nat.le_of_ble_eq_true rfl) (by intro n hn;  simp only [List.mem_cons, List.not_mem_nil, or_false] at hn; omega) (by rw [World.size_alloc]; have := HB10.out.size; omega) 2 (Nat.le_refl _)).mono ?_
                rintro r w11 ⟨rfl, hf, hb, hk⟩
                have HF11 := Lib.hid hf
                have HB11 := Lib.hid ((HB10.out.trans ((below_alloc w10 _).mono HB10.out.size)).trans hb)
                have HH11 := Lib.hid (hk _ _ _ _ (by omega) (by decide) (heap_below (below_alloc _ _) HH10.out))
                clear hf hb hk
                clear e0 e1 e2 e3 e4 e5 e6 e7 e8 e9
                obtain ⟨e0, e1, e2, e3, e4, e5, e6, e7, e8, e9⟩ := sec_box (x := (⟨name, typ, flags, addr, align, size, link, info, ent, data⟩, .slice da dm dc)) HH11.out
                go_wp2_with fail
                refine (putF_any [align, ent] 8 _ w4.heap.size w4.heap.size _ _ (HF11.out.mono (below_alloc _ _)) (heap_alloc_last _ _) (fun h => by have := HF11.out.lt; omega) (by decide) (by have h1 := HTL.out; (try simp only [List.length_append, flat_len' (fun n => length_fixed n _), List.length_cons, List.length_nil]); omega) (Nat.le_of_ble_eq_true rfl) (by intro n hn; have h1 := HFS.out.2.2.2.1; have h2 := HFS.out.2.2.2.2.2.2.2; dsimp only at h1 h2; simp only [List.mem_cons, List.not_mem_nil, or_false] at hn; omega) (by rw [World.size_alloc]; have := HB11.out.size; omega) 2 (Nat.le_refl _)).mono ?_
                rintro r w12 ⟨rfl, hf, hb, hk⟩
                have HF12 := Lib.hid hf
                have HB12 := Lib.hid ((HB11.out.trans ((below_alloc w11 _).mono HB11.out.size)).trans hb)
                clear hf hb hk
                clear e0 e1 e2 e3 e4 e5 e6 e7 e8 e9
                have HF13 := Lib.hid (show FileAt w12 w4.heap.size w4.heap.size (midB e ++ ((e.secs.zip ((atsOf e).zip (placesOf e).1)).take (k + 1)).flatMap fun p => hdrBy p.2.1 p.1 p.2.2) by
                  rw [HST.out, ← List.append_assoc, HT.out]
                  have := HF12.out
                  simp only [List.append_assoc] at this
                  unfold hdrBy
                  simp only [List.append_assoc]
                  exact this)
                go_wp2
                go_roundw
                case rel =>
                  first
                    | exact ⟨k + 1, by go_num, by omega, HF13.out, HB12.out⟩
                    | ((repeat apply Exists.intro); exact ⟨⟨k + 1, by go_num, by omega, HF13.out, HB12.out⟩, rfl⟩)
                case measure => simp [intOf] <;> omega
              · have hkn : (e.secs.zip ((atsOf e).zip (placesOf e).1)).take k = e.secs.zip ((atsOf e).zip (placesOf e).1) := List.take_of_length_le (by rw [List.length_zip]; have h1 := HEL.out; have h2 := HL.out; omega)
                have HF20 := Lib.hid (show FileAt wr w4.heap.size w4.heap.size (midB e ++ hdrsB e) by
                  have := HF.out
                  rw [hkn] at this
                  exact this)
                have HB20 := Lib.hid HB.out
                have HTL := Lib.hid (show (midB e ++ hdrsB e).length ≤ 8000000 by
                  unfold hdrsB
                  rw [List.length_append, HML.out, flat_len' (f := fun p : SecM × Nat × Nat => hdrBy p.2.1 p.1 p.2.2) (fun p => hdrBy_len p.2.1 p.1 p.2.2), List.length_zip]
                  have h1 := HEL.out
                  have h2 := HL.out
                  have h3 : min e.secs.length ((atsOf e).zip (placesOf e).1).length ≤ e.secs.length := Nat.min_le_left _ _
                  omega)
                have XA := Lib.hid (show (atsOf e)[nl]? = some ((atsOf e)[nl]'(by have := HALN.out; omega)) from List.getElem?_eq_getElem _)
                have hab : (atsOf e)[nl]'(by have := HALN.out; omega) ≤ 130000 := HAK.out.2 _ (List.getElem_mem _)
                obtain ⟨bA, oA, hA1, cA⟩ := HAC4.out nl (by have := HALN.out; omega)
                rw [XA.out] at cA
                generalize (atsOf e)[nl]'(by have := HALN.out; omega) = na at *
                simp only [Option.getD_some] at cA
                replace cA := (HB.out.cell (block_lt cA)).trans cA
                subst hA1
                have HFB : Hid (fileB e = midB e ++ hdrsB e ++ hdrBy na (tabSec tn) pe) := by
                  unfold fileB
                  rw [← htn.out, ← HPE.out, show e.secs.length = nl by have h1 := HEL.out; have h2 := HL.out; omega, XA.out]
                  exact rfl
                generalize hT : midB e ++ hdrsB e = T at *
                have hpe5 : pe ≤ 4194304 := hpe4
                clear HF HB hkn hT
                obtain ⟨c0, c1, c2, c3, c4, c5⟩ := elf_box (heap_base HB20.out HX4.out hG4)
                go_wp2_with fail
                clear c0 c1 c2 c3 c4 c5
                refine (putF_any [na, 3] 4 _ w4.heap.size w4.heap.size _ _ (HF20.out.mono (below_alloc _ _)) (heap_alloc_last _ _) (fun h => by have := HF20.out.lt; omega) (by decide) (by have h1 := HTL.out; (try simp only [List.length_append, flat_len' (fun n => length_fixed n _), List.length_replicate, List.length_cons, List.length_nil]); omega) (Nat.le_of_ble_eq_true rfl) (by intro n hn;  simp only [List.mem_cons, List.not_mem_nil, or_false] at hn; omega) (by rw [World.size_alloc]; have := HB20.out.size; omega) 2 (Nat.le_refl _)).mono ?_
                rintro r w21 ⟨rfl, hf, hb, hk⟩
                have HF21 := Lib.hid hf
                have HB21 := Lib.hid ((HB20.out.trans ((below_alloc wr _).mono HB20.out.size)).trans hb)
                clear hf hb hk
                obtain ⟨c0, c1, c2, c3, c4, c5⟩ := elf_box (heap_base HB21.out HX4.out hG4)
                go_wp2_with fail
                clear c0 c1 c2 c3 c4 c5
                refine (putF_any [0, 0, pe, tn] 8 _ w4.heap.size w4.heap.size _ _ (HF21.out.mono (below_alloc _ _)) (heap_alloc_last _ _) (fun h => by have := HF21.out.lt; omega) (by decide) (by have h1 := HTL.out; (try simp only [List.length_append, flat_len' (fun n => length_fixed n _), List.length_cons, List.length_nil]); omega) (Nat.le_of_ble_eq_true rfl) (by intro n hn;  simp only [List.mem_cons, List.not_mem_nil, or_false] at hn; omega) (by rw [World.size_alloc]; have := HB21.out.size; omega) 4 (Nat.le_refl _)).mono ?_
                rintro r w22 ⟨rfl, hf, hb, hk⟩
                have HF22 := Lib.hid hf
                have HB22 := Lib.hid ((HB21.out.trans ((below_alloc w21 _).mono HB21.out.size)).trans hb)
                clear hf hb hk
                obtain ⟨c0, c1, c2, c3, c4, c5⟩ := elf_box (heap_base HB22.out HX4.out hG4)
                go_wp2_with fail
                clear c0 c1 c2 c3 c4 c5
                refine (putF_any [0, 0] 4 _ w4.heap.size w4.heap.size _ _ (HF22.out.mono (below_alloc _ _)) (heap_alloc_last _ _) (fun h => by have := HF22.out.lt; omega) (by decide) (by have h1 := HTL.out; (try simp only [List.length_append, flat_len' (fun n => length_fixed n _), List.length_cons, List.length_nil]); omega) (Nat.le_of_ble_eq_true rfl) (by intro n hn;  simp only [List.mem_cons, List.not_mem_nil, or_false] at hn; omega) (by rw [World.size_alloc]; have := HB22.out.size; omega) 2 (Nat.le_refl _)).mono ?_
                rintro r w23 ⟨rfl, hf, hb, hk⟩
                have HF23 := Lib.hid hf
                have HB23 := Lib.hid ((HB22.out.trans ((below_alloc w22 _).mono HB22.out.size)).trans hb)
                clear hf hb hk
                obtain ⟨c0, c1, c2, c3, c4, c5⟩ := elf_box (heap_base HB23.out HX4.out hG4)
                go_wp2_with fail
                clear c0 c1 c2 c3 c4 c5
                refine (putF_any [1, 0] 8 _ w4.heap.size w4.heap.size _ _ (HF23.out.mono (below_alloc _ _)) (heap_alloc_last _ _) (fun h => by have := HF23.out.lt; omega) (by decide) (by have h1 := HTL.out; (try simp only [List.length_append, flat_len' (fun n => length_fixed n _), List.length_cons, List.length_nil]); omega) (Nat.le_of_ble_eq_true rfl) (by intro n hn;  simp only [List.mem_cons, List.not_mem_nil, or_false] at hn; omega) (by rw [World.size_alloc]; have := HB23.out.size; omega) 2 (Nat.le_refl _)).mono ?_
                rintro r w24 ⟨rfl, hf, hb, hk⟩
                have HF24 := Lib.hid hf
                have HB24 := Lib.hid ((HB23.out.trans ((below_alloc w23 _).mono HB23.out.size)).trans hb)
                clear hf hb hk
                obtain ⟨v24, hg24, hbg24, hov24⟩ := HF24.out
                have z24 := cell_rec hg24 0
                simp only [List.getElem?_toArray, List.getElem?_cons_zero] at z24
                have HV24 := Lib.hid hov24
                clear hg24 hov24
                go_wp2
                go_ret2
                refine ⟨_, by rw [HR.out]; rfl, ?_, HB4w.out.trans (HB24.out.mono (by omega))⟩
                rw [HR.out]
                show OB w24 w.heap.size v24 (fileB e)
                rw [HFB.out]
                have := HV24.out.base (show w.heap.size ≤ w4.heap.size by omega)
                unfold hdrBy
                simp only [List.append_assoc] at this ⊢
                exact this
end Go.Proofs.Ytimnbnomaajmmaa
namespace Go.Proofs.Ytimnbnomaajmmaa
open Go.RowKit Go.Fd
theorem TSec : SliceT Try.prog 49 54 10 96 := SliceT.mk' (z := .agg #[.string ⟨#[]⟩, .int .u32 0, .int .u64 0, .int .u64 0, .int .u64 0, .int .u64 0, .int .u32 0, .int .u32 0, .int .u64 0, .slice none 0 0]) (by kernel_rfl) (by kernel_rfl) rfl (by omega)
theorem TSeg : SliceT Try.prog 50 93 7 48 := SliceT.mk' (z := .agg #[.int .u32 0, .int .u32 0, .int .u64 0, .int .u64 0, .int .u64 0, .int .u64 0, .int .u64 0]) (by kernel_rfl) (by kernel_rfl) rfl (by omega)
theorem oneSec {L : List (SecM × Value)} (h : ∀ p ∈ L, p.2.oneCell' = true) : (L.flatMap encSec).all (·.oneCell') = true := by
  rw [List.all_eq_true]
  intro x hx
  obtain ⟨p, hp, hx⟩ := List.mem_flatMap.1 hx
  have := h p hp
  simp only [encSec, List.mem_cons, List.not_mem_nil, or_false] at hx
  rcases hx with rfl | rfl | rfl | rfl | rfl | rfl | rfl | rfl | rfl | rfl <;> first | rfl | exact this
theorem oneSeg (L : List SegM) : (L.flatMap encSeg).all (·.oneCell') = true := by
  rw [List.all_eq_true]
  intro x hx
  obtain ⟨p, hp, hx⟩ := List.mem_flatMap.1 hx
  simp only [encSeg, List.mem_cons, List.not_mem_nil, or_false] at hx
  rcases hx with rfl | rfl | rfl | rfl | rfl | rfl | rfl <;> rfl
abbrev elfZ : Array Value := #[.int .i64 0, .int .i64 0, .int .u32 0, .int .u64 0, .slice none 0 0, .slice none 0 0]
theorem run_allocElf {a : Act} {w : World} {d : Option Tmp} {ty : TypeId} {pos : String} {aft : Array Edge} {g : Option (Nat × Bool)} :
    (execOp a.eval ⟨d, .alloc 52, ty, pos, aft, g⟩).run Try.prog w = .ok (.value (.pointer (some ⟨w.heap.size, 0, none⟩))) (w.alloc (.cells elfZ 52)) := by
  kernel_rfl
/-- A block of zeros, named. -/
theorem wpList_allocElf {ops : Array Oper} {rest : List Oper} {Q : Exit → Act → World → Prop} {a : Act} {w : World} {d : Option Tmp} {ty : TypeId} {pos : String} {aft : Array Edge}
    (h : ∀ w1, w1.heap[w.heap.size]? = some (.cells elfZ 52 (0, 0)) → Below w.heap.size w w1 → w.heap.size < w1.heap.size → wpList Try.prog ops Q rest (a.put d (.pointer (some ⟨w.heap.size, 0, none⟩))) w1) :
    wpList Try.prog ops Q (⟨d, .alloc 52, ty, pos, aft, none⟩ :: rest) a w :=
  wpList_val rfl run_allocElf (h (w.alloc (.cells elfZ 52)) (heap_alloc_last w _) (below_alloc w _) (by rw [World.size_alloc]; omega))
/-- A whole struct into a block that was made. -/
theorem wpList_storeElf {ops : Array Oper} {rest : List Oper} {Q : Exit → Act → World → Prop} {a : Act} {w : World} {d : Option Tmp} {ty : TypeId} {pos : String} {aft : Array Edge} {p x : Operand} {c c' : Array Value} {g B : Nat} (hg : w.heap[g]? = some (.cells c 52 (0, 0))) (hp : a.eval p = .pointer (some ⟨g, 0, none⟩)) (hx : a.eval x = .agg c')
    (ho : c.size = c'.size) (hs : c'.size = 6) (h1 : c'.all (·.oneCell') = true) (hB : B ≤ g) (hBw : B ≤ w.heap.size)
    (h : ∀ w1, w1.heap[g]? = some (.cells c' 52 (0, 0)) → Below B w w1 → wpList Try.prog ops Q rest (a.put d undef) w1) :
    wpList Try.prog ops Q (⟨d, .store 52 p x, ty, pos, aft, none⟩ :: rest) a w :=
  wpList_storeMade hg hp hx (by rw [hs]; kernel_rfl) ho h1 hB hBw h
/-- One cell of a block that was made. -/
theorem wpList_set {P : Program} {ops : Array Oper} {rest : List Oper} {Q : Exit → Act → World → Prop} {a : Act} {w : World} {d : Option Tmp} {ty t tb : TypeId} {pos : String} {aft : Array Edge} {p x : Operand} {c : Array Value} {g j base m cap : Nat} {ad : Option Addr} (hg : w.heap[g]? = some (.cells c tb (0, 0))) (hj : j < c.size) (hp : a.eval p = .pointer (some ⟨g, j, none⟩)) (hx : a.eval x = .slice ad m cap) (hB : base ≤ g) (hBw : base ≤ w.heap.size) (hs : ∀ w, (sizeOf t).run P w = .ok 1 w)
    (h : ∀ w1, w1.heap[g]? = some (.cells (c.setIfInBounds j (.slice ad m cap)) tb (0, 0)) → Below base w w1 → Stirs (fun k => k = g) w w1 → wpList P ops Q rest (a.put d undef) w1) :
    wpList P ops Q (⟨d, .store t p x, ty, pos, aft, none⟩ :: rest) a w := by
  have hc : w.cell? ⟨g, j, none⟩ = some c[j] := (cell_rec hg j).trans (Array.getElem?_eq_getElem hj)
  have hfz := free_rec' hg j
  have hst : Stirs (fun k => k = g) w (w.setCell ⟨g, j, none⟩ (.slice ad m cap)) := stirs_setCell (S := fun k => k = g) _ g j _ rfl
  refine wpList_did (w' := w.setCell ⟨g, j, none⟩ (.slice ad m cap)) rfl ?_ (h _ ?_ ?_ hst)
  · simp only [execOp, hp, hx]
    simp [go_sem, hs, hc, hfz]
  · simp [World.setCell, Array.getElem?_modify, hg]
  · exact hst.below hBw (fun k hk => by rw [hk]; exact hB)
/-- One cell of a row that is owned. -/
theorem wpList_setRow {P : Program} {ops : Array Oper} {rest : List Oper} {Q : Exit → Act → World → Prop} {a : Act} {w : World} {d : Option Tmp} {ty t e : TypeId} {pos : String} {aft : Array Edge} {p x : Operand} {g j base size n cap m cp : Nat} {xs : List Value} {ad : Option Addr} (hown : w.ownsRow base e size (.slice (some ⟨g, 0, none⟩) n cap) n xs) (hj : j < n * size) (hp : a.eval p = .pointer (some ⟨g, j, none⟩)) (hx : a.eval x = .slice ad m cp) (hBw : base ≤ w.heap.size) (hs : ∀ w, (sizeOf t).run P w = .ok 1 w)
    (h : ∀ w1, w1.ownsRow base e size (.slice (some ⟨g, 0, none⟩) n cap) n (xs.set j (.slice ad m cp)) → Below base w w1 → Stirs (fun k => k = g) w w1 → wpList P ops Q rest (a.put d undef) w1) :
    wpList P ops Q (⟨d, .store t p x, ty, pos, aft, none⟩ :: rest) a w := by
  have hc : w.cell? ⟨g, j, none⟩ = some (xs[j]'(by rw [hown.1]; exact hj)) := (hown.cellAt j hj).trans (List.getElem?_eq_getElem _)
  have hfz := hown.frozenAt j
  have hst : Stirs (fun k => k = g) w (w.setCell ⟨g, j, none⟩ (.slice ad m cp)) := stirs_setCell (S := fun k => k = g) _ g j _ rfl
  refine wpList_did (w' := w.setCell ⟨g, j, none⟩ (.slice ad m cp)) rfl ?_ (h _ (hown.stored j _).1 (hst.below hBw (fun k hk => by rw [hk]; exact (hown.lt g rfl).1)) hst)
  simp only [execOp, hp, hx]
  simp [go_sem, hs, hc, hfz]
theorem own_form {w : World} {base e size n : Nat} {v : Value} {xs : List Value} (h : w.ownsRow base e size v n xs) (hn : 0 < n) : ∃ g cap, v = .slice (some ⟨g, 0, none⟩) n cap := by
  rcases h.2 with ⟨_, h0⟩ | ⟨g, cap, _, hv, _⟩
  · omega
  · exact ⟨g, cap, hv⟩
theorem own_kind {w : World} {base e size n : Nat} {v : Value} {xs : List Value} (h : w.ownsRow base e size v n xs) : ∀ g, v.ownBlock = some g → ∃ c fz, w.heap[g]? = some (.cells c e fz) := by
  intro g hg
  rcases h.2 with ⟨rfl, _⟩ | ⟨g', cap, cur, rfl, _, hh, _⟩
  · cases hg
  · cases hg
    exact ⟨cur, _, hh⟩
/-- The store of a whole struct into a block that was made: that block alone turns. -/
theorem wpList_storeElfS {ops : Array Oper} {rest : List Oper} {Q : Exit → Act → World → Prop} {a : Act} {w : World} {d : Option Tmp} {ty : TypeId} {pos : String} {aft : Array Edge} {p x : Operand} {c c' : Array Value} {g : Nat} (hg : w.heap[g]? = some (.cells c 52 (0, 0))) (hp : a.eval p = .pointer (some ⟨g, 0, none⟩)) (hx : a.eval x = .agg c')
    (ho : c.size = c'.size) (hs : c'.size = 6) (h1 : c'.all (·.oneCell') = true)
    (h : ∀ w1, w1.heap[g]? = some (.cells c' 52 (0, 0)) → Stirs (fun k => k = g) w w1 → wpList Try.prog ops Q rest (a.put d undef) w1) :
    wpList Try.prog ops Q (⟨d, .store 52 p x, ty, pos, aft, none⟩ :: rest) a w := by
  have hr : (execOp a.eval ⟨d, .store 52 p x, ty, pos, aft, none⟩).run Try.prog w = .ok .skip (w.setRow g c') := by
    simp only [execOp, hp, hx, Instr.storeAt, Instr.sureAddr, Sem.run_bind, Sem.run_pure, Result.andThen, run_storeVar_row w g 52 52 c c' hg ((show (Try.prog.info? 52).map (·.size) = some 6 by kernel_rfl).trans (by rw [hs])) ho h1]
  refine wpList_did rfl hr (h _ ?_ ?_)
  · simp only [World.setRow]
    rw [Array.getElem?_modify, if_pos rfl, hg]
    rfl
  · refine ⟨rfl, rfl, rfl, by simp [World.setRow], fun k _ hk => ?_⟩
    have : g ≠ k := fun e => hk e.symm
    simp only [World.setRow]
    rw [Array.getElem?_modify, if_neg this]
end Go.Proofs.Ytimnbnomaajmmaa
namespace Go.Proofs.Ytimnbnomaajmmaa
open Go.RowKit Go.Fd
/-- A section's header, as it is read; whether it is there, with its name and its bytes. -/
def secP (l tab : List UInt8) (a : Nat) : SecM := ⟨(atR tab (gN l a 4 : Nat)).1, gN l (a + 4) 4, gN l (a + 8) 8, gN l (a + 16) 8, gN l (a + 48) 8, gN l (a + 32) 8, gN l (a + 40) 4, gN l (a + 44) 4, gN l (a + 56) 8, if gN l (a + 4) 4 = 8 then [] else (l.drop (gN l (a + 24) 8)).take (gN l (a + 32) 8)⟩
def secOk (l tab : List UInt8) (a : Nat) : Bool := decide (a + 64 ≤ l.length) && decide ((atR tab (gN l a 4 : Nat)).2 = 0) && (decide (gN l (a + 4) 4 = 8) || inB l (gN l (a + 24) 8) (gN l (a + 32) 8))
theorem secOk_no {l tab : List UInt8} {a k s : Nat} (hs : Sized s) (hk : k + s ≤ 64) (h : okB l (a + k) s = false) : secOk l tab a = false := by
  rw [okB_iff hs] at h
  unfold secOk
  rw [show decide (a + 64 ≤ l.length) = false by simp only [decide_eq_false_iff_not] at *; omega]
  rfl
theorem secOk_name {l tab : List UInt8} {a : Nat} (h : (atR tab (gN l a 4 : Nat)).2 ≠ 0) : secOk l tab a = false := by
  unfold secOk
  rw [decide_eq_false h]
  simp
theorem secOk_cut {l tab : List UInt8} {a : Nat} (h8 : gN l (a + 4) 4 ≠ 8) (h : inB l (gN l (a + 24) 8) (gN l (a + 32) 8) = false) : secOk l tab a = false := by
  unfold secOk
  rw [h, decide_eq_false h8]
  simp
theorem secOk_yes {l tab : List UInt8} {a : Nat} (h : okB l (a + 56) 8 = true) (hn : (atR tab (gN l a 4 : Nat)).2 = 0) (hd : gN l (a + 4) 4 = 8 ∨ inB l (gN l (a + 24) 8) (gN l (a + 32) 8) = true) : secOk l tab a = true := by
  rw [okB_iff sz8] at h
  unfold secOk
  simp only [decide_eq_true_eq, Bool.and_eq_true, Bool.or_eq_true] at *
  exact ⟨⟨by omega, hn⟩, hd⟩
/-- A section comes with its bytes in memory of their own, or it goes up. -/
def SecRes (l tab : List UInt8) (a base : Nat) (r : Ending) (w : World) : Prop := secOk l tab a = true ∧ (∃ dv, r = .returned (secV (secP l tab a, dv)) ∧ OB w base dv (secP l tab a).data) ∨ secOk l tab a = false ∧ r = .panicked upF
abbrev secZ : Array Value := #[.string ⟨#[]⟩, .int .u32 0, .int .u64 0, .int .u64 0, .int .u64 0, .int .u64 0, .int .u32 0, .int .u32 0, .int .u64 0, .slice none 0 0]
theorem run_allocSec {a : Act} {w : World} {d : Option Tmp} {ty : TypeId} {pos : String} {aft : Array Edge} {g : Option (Nat × Bool)} :
    (execOp a.eval ⟨d, .alloc 54, ty, pos, aft, g⟩).run Try.prog w = .ok (.value (.pointer (some ⟨w.heap.size, 0, none⟩))) (w.alloc (.cells secZ 54)) := by
  kernel_rfl
theorem wpList_allocSec {ops : Array Oper} {rest : List Oper} {Q : Exit → Act → World → Prop} {a : Act} {w : World} {d : Option Tmp} {ty : TypeId} {pos : String} {aft : Array Edge}
    (h : ∀ w1, w1.heap[w.heap.size]? = some (.cells secZ 54 (0, 0)) → Below w.heap.size w w1 → w.heap.size < w1.heap.size → wpList Try.prog ops Q rest (a.put d (.pointer (some ⟨w.heap.size, 0, none⟩))) w1) :
    wpList Try.prog ops Q (⟨d, .alloc 54, ty, pos, aft, none⟩ :: rest) a w :=
  wpList_val rfl run_allocSec (h (w.alloc (.cells secZ 54)) (heap_alloc_last w _) (below_alloc w _) (by rw [World.size_alloc]; omega))
/-- One cell of a block that was made. -/
theorem wpList_setS {P : Program} {ops : Array Oper} {rest : List Oper} {Q : Exit → Act → World → Prop} {a : Act} {w : World} {d : Option Tmp} {ty t tb : TypeId} {pos : String} {aft : Array Edge} {p x : Operand} {c : Array Value} {g j base : Nat} {s : ByteArray} (hg : w.heap[g]? = some (.cells c tb (0, 0))) (hj : j < c.size) (hp : a.eval p = .pointer (some ⟨g, j, none⟩)) (hx : a.eval x = .string s) (hB : base ≤ g) (hBw : base ≤ w.heap.size) (hs : ∀ w, (sizeOf t).run P w = .ok 1 w)
    (h : ∀ w1, w1.heap[g]? = some (.cells (c.setIfInBounds j (.string s)) tb (0, 0)) → Below base w w1 → Stirs (fun k => k = g) w w1 → wpList P ops Q rest (a.put d undef) w1) :
    wpList P ops Q (⟨d, .store t p x, ty, pos, aft, none⟩ :: rest) a w := by
  have hc : w.cell? ⟨g, j, none⟩ = some c[j] := (cell_rec hg j).trans (Array.getElem?_eq_getElem hj)
  have hfz := free_rec' hg j
  have hst : Stirs (fun k => k = g) w (w.setCell ⟨g, j, none⟩ (.string s)) := stirs_setCell (S := fun k => k = g) _ g j _ rfl
  refine wpList_did (w' := w.setCell ⟨g, j, none⟩ (.string s)) rfl ?_ (h _ ?_ ?_ hst)
  · simp only [execOp, hp, hx]
    simp [go_sem, hs, hc, hfz]
  · simp [World.setCell, Array.getElem?_modify, hg]
  · exact hst.below hBw (fun k hk => by rw [hk]; exact hB)
/-- A whole struct into a block that was made; what else stays. -/
theorem wpList_storeRowS {P : Program} {ops : Array Oper} {rest : List Oper} {Q : Exit → Act → World → Prop} {a : Act} {w : World} {d : Option Tmp} {ty t : TypeId} {pos : String} {aft : Array Edge} {p x : Operand} {c c' : Array Value} {g : Nat} (hg : w.heap[g]? = some (.cells c t (0, 0))) (hp : a.eval p = .pointer (some ⟨g, 0, none⟩)) (hx : a.eval x = .agg c')
    (ho : c.size = c'.size) (hs : (P.info? t).map (·.size) = some c'.size) (h1 : c'.all (·.oneCell') = true)
    (h : ∀ w1, w1.heap[g]? = some (.cells c' t (0, 0)) → Stirs (fun k => k = g) w w1 → wpList P ops Q rest (a.put d undef) w1) :
    wpList P ops Q (⟨d, .store t p x, ty, pos, aft, none⟩ :: rest) a w := by
  have hr : (execOp a.eval ⟨d, .store t p x, ty, pos, aft, none⟩).run P w = .ok .skip (w.setRow g c') := by
    simp only [execOp, hp, hx, Instr.storeAt, Instr.sureAddr, Sem.run_bind, Sem.run_pure, Result.andThen, run_storeVar_row w g t t c c' hg hs ho h1]
  refine wpList_did rfl hr (h _ ?_ ?_)
  · simp only [World.setRow]
    rw [Array.getElem?_modify, if_pos rfl, hg]
    rfl
  · refine ⟨rfl, rfl, rfl, by simp [World.setRow], fun k _ hk => ?_⟩
    have : g ≠ k := fun e => hk e.symm
    simp only [World.setRow]
    rw [Array.getElem?_modify, if_neg this]
set_option maxRecDepth 100000 in
theorem sec1_any (l : List UInt8) (b1 b2 a i : Nat) (v : Value) (w : World) (hl : l.length ≤ 1000000000) (hv : Bs w v l) (h1 : w.heap[b1]? = some (.cells #[v] 108 (0, 0))) (h2 : w.heap[b2]? = some (.cells #[.int .i64 a] 3 (0, 0))) (ha : a ≤ 1000000000) (hi : i ≤ 100) :
    Calls Try.prog 109 #[.int .i64 i, .pointer (some ⟨b1, 0, none⟩), .pointer (some ⟨b2, 0, none⟩)] w fun r w' => w = w' ∧ ResU (okB l (a + i) 8) (.int .u64 (gN l (a + i) 8 : Nat)) r := by
  have HU := Lib.hid (ruN l (a + i) 8 v w hl hv)
  obtain ⟨m, ad, cap, -, rfl, _, _⟩ := hv.shape
  have c1 := cell_rec h1 0
  have c2 := cell_rec h2 0
  simp only [List.getElem?_toArray, List.getElem?_cons_zero] at c1 c2
  generalize okB l (a + i) 8 = ob at *
  generalize gN l (a + i) 8 = n at *
  clear h1 h2 hv
  go_enter Try.func109, Try.ntmps109
  go_wp2_with (go_at_call 66; refine HU.out.mono ?_; rintro e w1 ⟨rfl, ⟨rfl, rfl⟩ | ⟨rfl, rfl⟩⟩)
  · go_ret
    exact ⟨rfl, ResU.yes _⟩
  · exact ⟨rfl, rfl, ResU.no _⟩
/-- Bytes cut out, in a region. -/
abbrev YC (l : List UInt8) (a s : Nat) : Yld := Yld.any (fun v w => inB l a s = true ∧ Bs w v ((l.drop a).take s)) (fun _ _ _ h hb => ⟨h.1, h.2.mono hb⟩)
abbrev YO (base : Nat) (d : List UInt8) : Yld := Yld.any (fun v w => OB w base v d) (fun _ _ _ h hb => h.mono hb)
theorem YA_got {rel : Value → World → Prop} {st} {v : Value} {w : World} (h : (Yld.any rel st).R v w) : rel v w := by
  obtain ⟨x, e, hr⟩ := h
  subst e
  exact hr
theorem YA_mk {rel : Value → World → Prop} {st} {v : Value} {w : World} (h : rel v w) : (Yld.any rel st).R v w := ⟨v, rfl, h⟩
attribute [local irreducible] gN okB inB atR
set_option maxHeartbeats 4000000 in
set_option maxRecDepth 100000 in
theorem sec_any (l tab : List UInt8) (a : Nat) (v tv : Value) (w : World) (hl : l.length ≤ 1000000000) (hv : Bs w v l) (ht : tab.length ≤ 1000000000) (htv : Bs w tv tab) (ha : a ≤ 100000000) :
    Calls Try.prog 89 #[v, .int .i64 a, tv] w fun r w' => SecRes l tab a w.heap.size r w' ∧ Below w.heap.size w w' := by
  have HV := Lib.hid hv
  have HTV := Lib.hid htv
  obtain ⟨m, ad, cap, -, rfl, _, _⟩ := hv.shape
  obtain ⟨tm, tad, tcap, -, rfl, _, _⟩ := htv.shape
  have HNO := Lib.hid (fun (k s : Nat) (hs : Sized (s : Int)) (hk : k + s ≤ 64) => secOk_no (l := l) (tab := tab) (a := a) hs hk)
  have HNM := Lib.hid (secOk_name (l := l) (tab := tab) (a := a))
  have HCT := Lib.hid (secOk_cut (l := l) (tab := tab) (a := a))
  have HYES := Lib.hid (secOk_yes (l := l) (tab := tab) (a := a))
  have hb0 := gN4 l a
  have hb1 := gN4 l (a + 4)
  have hb2 := gN4 l (a + 40)
  have hb3 := gN4 l (a + 44)
  have HB24 := Lib.hid (gN8 l (a + 24))
  have HB32 := Lib.hid (gN8 l (a + 32))
  have HAT : Hid (∀ wx, Below w.heap.size w wx → Calls Try.prog 91 #[.slice tad tm tcap, .int .i64 (gN l a 4 : Nat)] wx fun e w' => e = .returned (.tuple #[S (atR tab (gN l a 4 : Nat)).1, .int .i64 (atR tab (gN l a 4 : Nat)).2]) ∧ wx = w') := Lib.hid (fun wx hwx => strsAt_any tab (gN l a 4 : Nat) _ wx ht (HTV.out.mono hwx))
  have HSEC : Hid (secP l tab a = ⟨(atR tab (gN l a 4 : Nat)).1, gN l (a + 4) 4, gN l (a + 8) 8, gN l (a + 16) 8, gN l (a + 48) 8, gN l (a + 32) 8, gN l (a + 40) 4, gN l (a + 44) 4, gN l (a + 56) 8, if gN l (a + 4) 4 = 8 then [] else (l.drop (gN l (a + 24) 8)).take (gN l (a + 32) 8)⟩) := rfl
  generalize hq : atR tab (gN l a 4 : Nat) = q at *
  obtain ⟨nm, code⟩ := q
  clear hv htv hq
  go_enter Try.func89, Try.ntmps89
  go_wp2_with (first
    | ((with_reducible show wpList _ _ _ (⟨some 3, .box _ _, _, _, _, _⟩ :: _) _ _); go_must (refine wpList_boxS rfl ?_; intro w1 hx1 hb1 hs1; have HX1 := Lib.hid hx1; have HB1 := Lib.hid hb1; clear hx1 hb1))
    | ((with_reducible show wpList _ _ _ (⟨some 4, .box _ _, _, _, _, _⟩ :: _) _ _); go_must (refine wpList_boxI rfl ?_; intro w2 hx2 hb2 hs2; have HX2 := Lib.hid hx2; have HX12 := Lib.hid (heap_below hb2 HX1.out); have HB2 := Lib.hid (HB1.out.trans (hb2.mono HB1.out.size)); clear hx2 hb2))
    | ((with_reducible show wpList _ _ _ (⟨some 6, .alloc _, _, _, _, _⟩ :: _) _ _); go_must (refine wpList_allocSec ?_; intro w3 hx3 hb3 hs3; have HX3 := Lib.hid hx3; have HX13 := Lib.hid (heap_below hb3 HX12.out); have HX23 := Lib.hid (heap_below hb3 HX2.out); have HB3 := Lib.hid (HB2.out.trans (hb3.mono HB2.out.size)); clear hx3 hb3)))
  have c1 := cell_rec HX13.out 0
  have c2 := cell_rec HX23.out 0
  simp only [List.getElem?_toArray, List.getElem?_cons_zero] at c1 c2
  have hAB := fun (x : Above w3) (b k : Nat) (h : b < w3.heap.size) => Above.cell x b k h
  have l1 := block_lt c1
  have l2 := block_lt c2
  have HU4 : Hid (∀ wx (_ : Below w3.heap.size w3 wx), Calls Try.prog 66 #[.slice ad m cap, .int .i64 ((a : Int) + 4), .int .i64 4] wx fun r w' => wx = w' ∧ ResU (okB l (a + 4) 4) (.int .u64 (gN l (a + 4) 4 : Nat)) r) := Lib.hid (fun wx hwx => ruN l (a + 4) 4 _ wx hl (HV.out.mono (HB3.out.trans (hwx.mono HB3.out.size))))
  have HU40 : Hid (∀ wx (_ : Below w3.heap.size w3 wx), Calls Try.prog 66 #[.slice ad m cap, .int .i64 ((a : Int) + 40), .int .i64 4] wx fun r w' => wx = w' ∧ ResU (okB l (a + 40) 4) (.int .u64 (gN l (a + 40) 4 : Nat)) r) := Lib.hid (fun wx hwx => ruN l (a + 40) 4 _ wx hl (HV.out.mono (HB3.out.trans (hwx.mono HB3.out.size))))
  have HU44 : Hid (∀ wx (_ : Below w3.heap.size w3 wx), Calls Try.prog 66 #[.slice ad m cap, .int .i64 ((a : Int) + 44), .int .i64 4] wx fun r w' => wx = w' ∧ ResU (okB l (a + 44) 4) (.int .u64 (gN l (a + 44) 4 : Nat)) r) := Lib.hid (fun wx hwx => ruN l (a + 44) 4 _ wx hl (HV.out.mono (HB3.out.trans (hwx.mono HB3.out.size))))
  have HU0 : Hid (∀ wx (_ : Below w3.heap.size w3 wx), Calls Try.prog 66 #[.slice ad m cap, .int .i64 a, .int .i64 4] wx fun r w' => wx = w' ∧ ResU (okB l a 4) (.int .u64 (gN l a 4 : Nat)) r) := Lib.hid (fun wx hwx => ruN l a 4 _ wx hl (HV.out.mono (HB3.out.trans (hwx.mono HB3.out.size))))
  have HU8 : Hid (∀ wx (_ : Below w3.heap.size w3 wx), Calls Try.prog 109 #[.int .i64 8, .pointer (some ⟨w.heap.size, 0, none⟩), .pointer (some ⟨w1.heap.size, 0, none⟩)] wx fun r w' => wx = w' ∧ ResU (okB l (a + 8) 8) (.int .u64 (gN l (a + 8) 8 : Nat)) r) := Lib.hid (fun wx hwx => sec1_any l w.heap.size w1.heap.size a 8 _ wx hl (HV.out.mono (HB3.out.trans (hwx.mono HB3.out.size))) (heap_below hwx HX13.out) (heap_below hwx HX23.out) (by omega) (by omega))
  have HU16 : Hid (∀ wx (_ : Below w3.heap.size w3 wx), Calls Try.prog 109 #[.int .i64 16, .pointer (some ⟨w.heap.size, 0, none⟩), .pointer (some ⟨w1.heap.size, 0, none⟩)] wx fun r w' => wx = w' ∧ ResU (okB l (a + 16) 8) (.int .u64 (gN l (a + 16) 8 : Nat)) r) := Lib.hid (fun wx hwx => sec1_any l w.heap.size w1.heap.size a 16 _ wx hl (HV.out.mono (HB3.out.trans (hwx.mono HB3.out.size))) (heap_below hwx HX13.out) (heap_below hwx HX23.out) (by omega) (by omega))
  have HU32 : Hid (∀ wx (_ : Below w3.heap.size w3 wx), Calls Try.prog 109 #[.int .i64 32, .pointer (some ⟨w.heap.size, 0, none⟩), .pointer (some ⟨w1.heap.size, 0, none⟩)] wx fun r w' => wx = w' ∧ ResU (okB l (a + 32) 8) (.int .u64 (gN l (a + 32) 8 : Nat)) r) := Lib.hid (fun wx hwx => sec1_any l w.heap.size w1.heap.size a 32 _ wx hl (HV.out.mono (HB3.out.trans (hwx.mono HB3.out.size))) (heap_below hwx HX13.out) (heap_below hwx HX23.out) (by omega) (by omega))
  have HU48 : Hid (∀ wx (_ : Below w3.heap.size w3 wx), Calls Try.prog 109 #[.int .i64 48, .pointer (some ⟨w.heap.size, 0, none⟩), .pointer (some ⟨w1.heap.size, 0, none⟩)] wx fun r w' => wx = w' ∧ ResU (okB l (a + 48) 8) (.int .u64 (gN l (a + 48) 8 : Nat)) r) := Lib.hid (fun wx hwx => sec1_any l w.heap.size w1.heap.size a 48 _ wx hl (HV.out.mono (HB3.out.trans (hwx.mono HB3.out.size))) (heap_below hwx HX13.out) (heap_below hwx HX23.out) (by omega) (by omega))
  have HU56 : Hid (∀ wx (_ : Below w3.heap.size w3 wx), Calls Try.prog 109 #[.int .i64 56, .pointer (some ⟨w.heap.size, 0, none⟩), .pointer (some ⟨w1.heap.size, 0, none⟩)] wx fun r w' => wx = w' ∧ ResU (okB l (a + 56) 8) (.int .u64 (gN l (a + 56) 8 : Nat)) r) := Lib.hid (fun wx hwx => sec1_any l w.heap.size w1.heap.size a 56 _ wx hl (HV.out.mono (HB3.out.trans (hwx.mono HB3.out.size))) (heap_below hwx HX13.out) (heap_below hwx HX23.out) (by omega) (by omega))
  have HU24 : Hid (∀ wx (_ : Below w3.heap.size w3 wx), Calls Try.prog 109 #[.int .i64 24, .pointer (some ⟨w.heap.size, 0, none⟩), .pointer (some ⟨w1.heap.size, 0, none⟩)] wx fun r w' => wx = w' ∧ ResU (okB l (a + 24) 8) (.int .u64 (gN l (a + 24) 8 : Nat)) r) := Lib.hid (fun wx hwx => sec1_any l w.heap.size w1.heap.size a 24 _ wx hl (HV.out.mono (HB3.out.trans (hwx.mono HB3.out.size))) (heap_below hwx HX13.out) (heap_below hwx HX23.out) (by omega) (by omega))
  have HN0 : Hid (okB l a 4 = false → secOk l tab a = false) := Lib.hid (HNO.out 0 4 sz4 (by omega))
  have HN4 : Hid (okB l (a + 4) 4 = false → secOk l tab a = false) := Lib.hid (HNO.out 4 4 sz4 (by omega))
  have HN8 : Hid (okB l (a + 8) 8 = false → secOk l tab a = false) := Lib.hid (HNO.out 8 8 sz8 (by omega))
  have HN16 : Hid (okB l (a + 16) 8 = false → secOk l tab a = false) := Lib.hid (HNO.out 16 8 sz8 (by omega))
  have HN32 : Hid (okB l (a + 32) 8 = false → secOk l tab a = false) := Lib.hid (HNO.out 32 8 sz8 (by omega))
  have HN40 : Hid (okB l (a + 40) 4 = false → secOk l tab a = false) := Lib.hid (HNO.out 40 4 sz4 (by omega))
  have HN44 : Hid (okB l (a + 44) 4 = false → secOk l tab a = false) := Lib.hid (HNO.out 44 4 sz4 (by omega))
  have HN48 : Hid (okB l (a + 48) 8 = false → secOk l tab a = false) := Lib.hid (HNO.out 48 8 sz8 (by omega))
  have HN56 : Hid (okB l (a + 56) 8 = false → secOk l tab a = false) := Lib.hid (HNO.out 56 8 sz8 (by omega))
  have HN24 : Hid (okB l (a + 24) 8 = false → secOk l tab a = false) := Lib.hid (HNO.out 24 8 sz8 (by omega))
  clear HNO
  refine wp_region_walkU (Up := fun x => x = .panic upF ∧ secOk l tab a = false) 27 [(3, YN l (a + 4) 4), (6, YN l (a + 8) 8), (8, YN l (a + 16) 8), (10, YN l (a + 32) 8), (14, YN l (a + 40) 4), (19, YN l (a + 44) 4), (22, YN l (a + 48) 8), (24, YN l (a + 56) 8), (26, Yld.new w3.heap.size 54 10)] (by kernel_rfl) (by kernel_rfl) ?_ ?_
  · rintro x a' w' ⟨⟨rfl, hso⟩, hd, hb⟩
    exact ⟨hd, .inr ⟨hso, rfl⟩, HB3.out.trans (hb.mono HB3.out.size)⟩
  simp only [List.take_succ_cons, List.take_zero, List.drop_succ_cons, List.drop_zero]
  repeat (refine walk_quiet rfl rfl rfl ?_; intro K hK; go_big_quiet_op; go_big_quiet_on)
  refine walk_ok (c := .int .u64 (gN l (a + 4) 4 : Nat)) (p := okB l (a + 4) 4 = true) rfl rfl (fun wx hwx _ => WpYld.callOk (run_callL (vals := [_, _, _]) Try.func66 (by kernel_rfl) rfl rfl) HN4.out (HU4.out wx hwx)) ?_
  go_frame
  repeat (refine walk_quiet rfl rfl rfl ?_; intro K hK; go_big_quiet_op; go_big_quiet_on)
  refine walk_ok (c := .int .u64 (gN l (a + 8) 8 : Nat)) (p := okB l (a + 8) 8 = true) rfl rfl (fun wx hwx _ => WpYld.callOk (run_callF (vals := [_]) Try.func109 (by kernel_rfl) rfl rfl rfl) HN8.out (HU8.out wx (hwx))) ?_
  go_frame
  repeat (refine walk_quiet rfl rfl rfl ?_; intro K hK; go_big_quiet_op; go_big_quiet_on)
  refine walk_ok (c := .int .u64 (gN l (a + 16) 8 : Nat)) (p := okB l (a + 16) 8 = true) rfl rfl (fun wx hwx _ => WpYld.callOk (run_callF (vals := [_]) Try.func109 (by kernel_rfl) rfl rfl rfl) HN16.out (HU16.out wx (hwx))) ?_
  go_frame
  repeat (refine walk_quiet rfl rfl rfl ?_; intro K hK; go_big_quiet_op; go_big_quiet_on)
  refine walk_ok (c := .int .u64 (gN l (a + 32) 8 : Nat)) (p := okB l (a + 32) 8 = true) rfl rfl (fun wx hwx _ => WpYld.callOk (run_callF (vals := [_]) Try.func109 (by kernel_rfl) rfl rfl rfl) HN32.out (HU32.out wx (hwx))) ?_
  go_frame
  repeat (refine walk_quiet rfl rfl rfl ?_; intro K hK; go_big_quiet_op; go_big_quiet_on)
  refine walk_ok (c := .int .u64 (gN l (a + 40) 4 : Nat)) (p := okB l (a + 40) 4 = true) rfl rfl (fun wx hwx _ => WpYld.callOk (run_callL (vals := [_, _, _]) Try.func66 (by kernel_rfl) rfl rfl) HN40.out (HU40.out wx hwx)) ?_
  go_frame
  repeat (refine walk_quiet rfl rfl rfl ?_; intro K hK; go_big_quiet_op; go_big_quiet_on)
  refine walk_ok (c := .int .u64 (gN l (a + 44) 4 : Nat)) (p := okB l (a + 44) 4 = true) rfl rfl (fun wx hwx _ => WpYld.callOk (run_callL (vals := [_, _, _]) Try.func66 (by kernel_rfl) rfl rfl) HN44.out (HU44.out wx hwx)) ?_
  go_frame
  repeat (refine walk_quiet rfl rfl rfl ?_; intro K hK; go_big_quiet_op; go_big_quiet_on)
  refine walk_ok (c := .int .u64 (gN l (a + 48) 8 : Nat)) (p := okB l (a + 48) 8 = true) rfl rfl (fun wx hwx _ => WpYld.callOk (run_callF (vals := [_]) Try.func109 (by kernel_rfl) rfl rfl rfl) HN48.out (HU48.out wx (hwx))) ?_
  go_frame
  repeat (refine walk_quiet rfl rfl rfl ?_; intro K hK; go_big_quiet_op; go_big_quiet_on)
  refine walk_ok (c := .int .u64 (gN l (a + 56) 8 : Nat)) (p := okB l (a + 56) 8 = true) rfl rfl (fun wx hwx _ => WpYld.callOk (run_callF (vals := [_]) Try.func109 (by kernel_rfl) rfl rfl rfl) HN56.out (HU56.out wx (hwx))) ?_
  go_frame
  repeat (refine walk_quiet rfl rfl rfl ?_; intro K hK; go_big_quiet_op; go_big_quiet_on)
  refine walk_new rfl rfl (fun wx hwx _ => WpYld.val run_allocSec (Yld.new_mk _ hwx).1 (Yld.new_mk _ hwx).2) (fun gb => ?_)
  go_frame
  refine walk_nil ?_
  intro wz hbz hF
  have H56 : Hid (okB l (a + 56) 8 = true) := Lib.hid (Yld.ok_got (hF 24 _ 36 _ rfl rfl rfl rfl))
  obtain ⟨hgb, cs, hcs, hcn⟩ := Yld.new_got (hF 26 _ 8 _ rfl rfl rfl rfl)
  clear hF hAB c1 c2 HN4 HN8 HN16 HN32 HN40 HN44 HN48 HN56 HU4 HU8 HU16 HU32 HU40 HU44 HU48 HU56
  refine wpList_storeMade hcs rfl rfl (by kernel_rfl) (by rw [hcn]; rfl) (by simp [Value.oneCell']) hgb hbz.size ?_
  clear hcs hcn
  intro w4 hh4 hb4
  have HH4 := Lib.hid hh4
  have h03 : w.heap.size < w3.heap.size := by omega
  have HX14 := Lib.hid (heap_base hb4 (heap_below hbz HX13.out) (by omega))
  have HX24 := Lib.hid (heap_base hb4 (heap_below hbz HX23.out) (by omega))
  have HX34 := Lib.hid (heap_base hb4 (heap_below hbz HX3.out) (by omega))
  have HB34 := Lib.hid (hbz.trans hb4)
  have HB4 := Lib.hid (HB3.out.trans (HB34.out.mono (Nat.le_of_lt h03)))
  have h34 : w3.heap.size ≤ w4.heap.size := HB34.out.size
  clear hh4 hb4 hbz HX12 HX13 HX23 HX1 HX2 HX3
  have c1 := cell_rec HX14.out 0
  have c2 := cell_rec HX24.out 0
  simp only [List.getElem?_toArray, List.getElem?_cons_zero] at c1 c2
  by_cases hcode : code = 0
  · subst hcode
    by_cases h8 : gN l (a + 4) 4 = 8
    · have HOK : Hid (okB l a 4 = true → secOk l tab a = true) := Lib.hid (fun _ => HYES.out H56.out rfl (.inl h8))
      have HFIN : Hid (secP l tab a = ⟨nm, gN l (a + 4) 4, gN l (a + 8) 8, gN l (a + 16) 8, gN l (a + 48) 8, gN l (a + 32) 8, gN l (a + 40) 4, gN l (a + 44) 4, gN l (a + 56) 8, []⟩) := Lib.hid (by rw [HSEC.out, if_pos h8])
      have H8 := Lib.hid h8
      have k8 : ((gN l (a + 4) 4 : Nat) : Int) = 8 := by omega
      have k8b : (((gN l (a + 4) 4 : Nat) : Int) == 8) = true := by rw [k8]; rfl
      have k8c : (((gN l (a + 4) 4 : Nat) : Int) != 8) = false := by rw [k8]; rfl
      clear h8 k8 HSEC HYES HCT HNM
      go_wp2_with (first
        | (go_at_call 66; refine (HU0.out _ HB34.out).mono ?_; rintro e wu ⟨rfl, ⟨hx0, rfl⟩ | ⟨hx0, rfl⟩⟩)
        | (go_at_call 91; refine (HAT.out _ HB4.out).mono ?_; rintro e wu ⟨rfl, rfl⟩)
        | (go_at_call 68; refine (must_ok _).mono ?_; rintro e wu ⟨rfl, rfl⟩)
        | ((with_reducible show wpList _ _ _ (⟨none, .store _ (.tmp 51) _, _, _, _, _⟩ :: _) _ _); go_must (refine wpList_setS HH4.out (show 0 < 10 by decide) rfl rfl hgb h34 (fun w => by kernel_rfl) ?_; intro w5 hh5 hb5 hs5; have HH5 := Lib.hid (show w5.heap[gb]? = some (.cells #[.string ⟨nm.toArray⟩, .int .u32 (gN l (a + 4) 4 : Nat), .int .u64 (gN l (a + 8) 8 : Nat), .int .u64 (gN l (a + 16) 8 : Nat), .int .u64 (gN l (a + 48) 8 : Nat), .int .u64 (gN l (a + 32) 8 : Nat), .int .u32 (gN l (a + 40) 4 : Nat), .int .u32 (gN l (a + 44) 4 : Nat), .int .u64 (gN l (a + 56) 8 : Nat), .slice none 0 0] 54 (0, 0)) from hh5); obtain ⟨z0, z1, z2, z3, z4, z5, z6, z7, z8, z9⟩ := sec_box (x := (⟨nm, gN l (a + 4) 4, gN l (a + 8) 8, gN l (a + 16) 8, gN l (a + 48) 8, gN l (a + 32) 8, gN l (a + 40) 4, gN l (a + 44) 4, gN l (a + 56) 8, []⟩, .slice none 0 0)) HH5.out; have HX35 := Lib.hid (heap_base hb5 HX34.out (by omega)); have HB5 := Lib.hid (HB4.out.trans (hb5.mono (Nat.le_of_lt h03))); clear hh5 hb5 hs5))
        | ((with_reducible show wpList _ _ _ (⟨none, .store _ (.tmp 6) _, _, _, _, _⟩ :: _) _ _); go_must (refine wpList_storeMade HX35.out rfl rfl (by kernel_rfl) rfl (by simp [Value.oneCell']) (Nat.le_trans HB1.out.size (Nat.le_of_lt hs2)) HB5.out.size ?_; intro w6 hh6 hb6; have HH6 := Lib.hid hh6; have HB6 := Lib.hid (HB5.out.trans hb6); clear hh6 hb6)))
      · refine bodyPost_ret (results_cell_row rfl _ _ w2.heap.size _ _ _ _ rfl HH6.out rfl rfl (by kernel_rfl)) rfl ⟨.inl ⟨HOK.out hx0, .slice none 0 0, ?_, ?_⟩, HB6.out⟩
        · rw [HFIN.out]
        · rw [HFIN.out]
          exact OB.nil _ _
      · exact ⟨rfl, .inr ⟨HN0.out hx0, rfl⟩, HB4.out⟩
    · have HOK : Hid (inB l (gN l (a + 24) 8) (gN l (a + 32) 8) = true → secOk l tab a = true) := Lib.hid (fun h => HYES.out H56.out rfl (.inr h))
      have HCUT : Hid (inB l (gN l (a + 24) 8) (gN l (a + 32) 8) = false → secOk l tab a = false) := Lib.hid (HCT.out h8)
      have HFIN : Hid (secP l tab a = ⟨nm, gN l (a + 4) 4, gN l (a + 8) 8, gN l (a + 16) 8, gN l (a + 48) 8, gN l (a + 32) 8, gN l (a + 40) 4, gN l (a + 44) 4, gN l (a + 56) 8, (l.drop (gN l (a + 24) 8)).take (gN l (a + 32) 8)⟩) := Lib.hid (by rw [HSEC.out, if_neg h8])
      have H8 := Lib.hid h8
      have k8b : (((gN l (a + 4) 4 : Nat) : Int) == 8) = false := by rw [beq_eq_false_iff_ne]; omega
      have k8c : (((gN l (a + 4) 4 : Nat) : Int) != 8) = true := by rw [bne_iff_ne]; omega
      clear h8 HSEC HYES HCT HNM
      go_wp2_with (first
        | (go_at_call 66; refine (HU0.out _ HB34.out).mono ?_; rintro e wu ⟨rfl, ⟨hx0, rfl⟩ | ⟨hx0, rfl⟩⟩)
        | (go_at_call 91; refine (HAT.out _ HB4.out).mono ?_; rintro e wu ⟨rfl, rfl⟩)
        | (go_at_call 68; refine (must_ok _).mono ?_; rintro e wu ⟨rfl, rfl⟩)
        | ((with_reducible show wpList _ _ _ (⟨none, .store _ (.tmp 51) _, _, _, _, _⟩ :: _) _ _); go_must (refine wpList_setS HH4.out (show 0 < 10 by decide) rfl rfl hgb h34 (fun w => by kernel_rfl) ?_; intro w5 hh5 hb5 hs5; have HH5 := Lib.hid (show w5.heap[gb]? = some (.cells #[.string ⟨nm.toArray⟩, .int .u32 (gN l (a + 4) 4 : Nat), .int .u64 (gN l (a + 8) 8 : Nat), .int .u64 (gN l (a + 16) 8 : Nat), .int .u64 (gN l (a + 48) 8 : Nat), .int .u64 (gN l (a + 32) 8 : Nat), .int .u32 (gN l (a + 40) 4 : Nat), .int .u32 (gN l (a + 44) 4 : Nat), .int .u64 (gN l (a + 56) 8 : Nat), .slice none 0 0] 54 (0, 0)) from hh5); obtain ⟨z0, z1, z2, z3, z4, z5, z6, z7, z8, z9⟩ := sec_box (x := (⟨nm, gN l (a + 4) 4, gN l (a + 8) 8, gN l (a + 16) 8, gN l (a + 48) 8, gN l (a + 32) 8, gN l (a + 40) 4, gN l (a + 44) 4, gN l (a + 56) 8, []⟩, .slice none 0 0)) HH5.out; have HX15 := Lib.hid (heap_base hb5 HX14.out (by omega)); have HX25 := Lib.hid (heap_base hb5 HX24.out (by omega)); have HX35 := Lib.hid (heap_base hb5 HX34.out (by omega)); have HB35 := Lib.hid (HB34.out.trans hb5); have HB5 := Lib.hid (HB4.out.trans (hb5.mono (Nat.le_of_lt h03))); clear hh5 hb5 hs5)))
      · clear z0 z1 z2 z3 z4 z6 z7 z8 z9
        have d1 := cell_rec HX15.out 0
        have d2 := cell_rec HX25.out 0
        simp only [List.getElem?_toArray, List.getElem?_cons_zero] at d1 d2
        have hAB := fun (x : Above w5) (b k : Nat) (h : b < w5.heap.size) => Above.cell x b k h
        have l3 := block_lt d1
        have l4 := block_lt d2
        have l5 := block_lt z5
        have HU245 : Hid (∀ wx (_ : Below w5.heap.size w5 wx), Calls Try.prog 109 #[.int .i64 24, .pointer (some ⟨w.heap.size, 0, none⟩), .pointer (some ⟨w1.heap.size, 0, none⟩)] wx fun r w' => wx = w' ∧ ResU (okB l (a + 24) 8) (.int .u64 (gN l (a + 24) 8 : Nat)) r) := Lib.hid (fun wx hwx => sec1_any l w.heap.size w1.heap.size a 24 _ wx hl (HV.out.mono (HB5.out.trans (hwx.mono HB5.out.size))) (heap_below hwx HX15.out) (heap_below hwx HX25.out) (by omega) (by omega))
        have HCC : Hid (∀ wx (_ : Below w5.heap.size w5 wx), Calls Try.prog 88 #[.slice ad m cap, .int .u64 (gN l (a + 24) 8 : Nat), .int .u64 (gN l (a + 32) 8 : Nat)] wx fun r w' => (∃ v, r = .returned v ∧ (YC l (gN l (a + 24) 8) (gN l (a + 32) 8)).R v w' ∧ Below wx.heap.size wx w') ∨ (∃ c, r = .panicked c ∧ (Exit.panic c = .panic upF ∧ secOk l tab a = false) ∧ Below wx.heap.size wx w')) := Lib.hid (fun wx hwx => (cut_any l _ _ _ wx hl (HV.out.mono (HB5.out.trans (hwx.mono HB5.out.size))) HB24.out HB32.out).mono fun r w' ⟨hw, h⟩ => by
          subst hw
          rcases h with ⟨h1, v', h2, h3⟩ | ⟨h1, h2⟩
          · exact .inl ⟨v', h2, YA_mk ⟨h1, h3 _ (HV.out.mono (HB5.out.trans (hwx.mono HB5.out.size)))⟩, Below.refl _ _⟩
          · exact .inr ⟨_, h2, ⟨rfl, HCUT.out h1⟩, Below.refl _ _⟩)
        have HDL : Hid (((l.drop (gN l (a + 24) 8)).take (gN l (a + 32) 8)).length ≤ 1000000000) := Lib.hid (by rw [List.length_take, List.length_drop]; omega)
        refine wp_region_walkU (Up := fun x => x = .panic upF ∧ secOk l tab a = false) 8 [(2, YN l (a + 24) 8), (5, YC l (gN l (a + 24) 8) (gN l (a + 32) 8)), (6, YO w5.heap.size ((l.drop (gN l (a + 24) 8)).take (gN l (a + 32) 8)))] (by kernel_rfl) (by kernel_rfl) ?_ ?_
        · rintro x a' w' ⟨⟨rfl, hso⟩, hd, hb⟩
          exact ⟨hd, .inr ⟨hso, rfl⟩, HB5.out.trans (hb.mono HB5.out.size)⟩
        simp only [List.take_succ_cons, List.take_zero, List.drop_succ_cons, List.drop_zero]
        repeat (refine walk_quiet rfl rfl rfl ?_; intro K hK; go_big_quiet_op; go_big_quiet_on)
        refine walk_ok (c := .int .u64 (gN l (a + 24) 8 : Nat)) (p := okB l (a + 24) 8 = true) rfl rfl (fun wx hwx _ => WpYld.callOk (run_callF (vals := [_]) Try.func109 (by kernel_rfl) rfl rfl rfl) HN24.out (HU245.out wx hwx)) ?_
        go_frame
        repeat (refine walk_quiet rfl rfl rfl ?_; intro K hK; go_big_quiet_op; go_big_quiet_on)
        refine walk_any rfl rfl (fun wx hwx _ => WpYld.callUp (run_callL (vals := [_, _, _]) Try.func88 (by kernel_rfl) rfl rfl) (HCC.out wx hwx)) (fun vc => ?_)
        go_frame
        refine walk_any rfl rfl (fun wx hwx hd => WpYld.call (run_callL (vals := [vc]) Try.func110 (by kernel_rfl) rfl rfl) ((clone_any ((l.drop (gN l (a + 24) 8)).take (gN l (a + 32) 8)) vc wx HDL.out (YA_got (hd 5 _ 60 _ rfl rfl (by kernel_rfl) rfl rfl)).2).mono fun r w' ⟨⟨u, h1, h2⟩, h3⟩ => ⟨u, h1, YA_mk (h2.base hwx.size), h3⟩)) (fun vd => ?_)
        go_frame
        repeat (refine walk_quiet rfl rfl rfl ?_; intro K hK; go_big_quiet_op; go_big_quiet_on)
        refine walk_nil ?_
        intro wy hby hF
        have HIN : Hid (inB l (gN l (a + 24) 8) (gN l (a + 32) 8) = true) := Lib.hid (YA_got (hF 5 _ 60 _ rfl rfl rfl rfl)).1
        have HOD : Hid (OB wy w5.heap.size vd ((l.drop (gN l (a + 24) 8)).take (gN l (a + 32) 8))) := Lib.hid (YA_got (hF 6 _ 61 _ rfl rfl rfl rfl))
        clear hF hAB d1 d2 z5 HCC
        obtain ⟨dm, da, dc, -, rfl, _, _⟩ := HOD.out.shape
        refine wpList_set (heap_below hby HH5.out) (show 9 < 10 by decide) rfl rfl (base := w3.heap.size) hgb (Nat.le_trans HB35.out.size hby.size) (fun w => by kernel_rfl) ?_
        intro w6 hh6 hb6 hs6
        have HH6 := Lib.hid (show w6.heap[gb]? = some (.cells #[.string ⟨nm.toArray⟩, .int .u32 (gN l (a + 4) 4 : Nat), .int .u64 (gN l (a + 8) 8 : Nat), .int .u64 (gN l (a + 16) 8 : Nat), .int .u64 (gN l (a + 48) 8 : Nat), .int .u64 (gN l (a + 32) 8 : Nat), .int .u32 (gN l (a + 40) 4 : Nat), .int .u32 (gN l (a + 44) 4 : Nat), .int .u64 (gN l (a + 56) 8 : Nat), .slice da dm dc] 54 (0, 0)) from hh6)
        have HX36 := Lib.hid (heap_base hb6 (heap_below hby HX35.out) (by omega))
        have HB36 := Lib.hid (HB35.out.trans ((hby.mono HB35.out.size).trans hb6))
        have HB6 := Lib.hid (HB3.out.trans (HB36.out.mono (Nat.le_of_lt h03)))
        have HOD6 : Hid (OB w6 w5.heap.size (.slice da dm dc) ((l.drop (gN l (a + 24) 8)).take (gN l (a + 32) 8))) := Lib.hid (owns_stirs HOD.out hs6 (ob_apart HOD.out (heap_below hby HH5.out) (by decide)))
        have h05 : w.heap.size ≤ w5.heap.size := HB5.out.size
        have h025 : w2.heap.size < w5.heap.size := by have := HB35.out.size; omega
        obtain ⟨z0, z1, z2, z3, z4, z5, z6, z7, z8, z9⟩ := sec_box (x := (⟨nm, gN l (a + 4) 4, gN l (a + 8) 8, gN l (a + 16) 8, gN l (a + 48) 8, gN l (a + 32) 8, gN l (a + 40) 4, gN l (a + 44) 4, gN l (a + 56) 8, []⟩, .slice da dm dc)) HH6.out
        clear hh6 hb6 hs6 hby HH5 HX35 HX15 HX25 HU245 HOD
        go_wp2_with ((with_reducible show wpList _ _ _ (⟨none, .store _ (.tmp 6) _, _, _, _, _⟩ :: _) _ _); go_must (refine wpList_storeRowS HX36.out rfl rfl rfl (by kernel_rfl) (by simp [Value.oneCell']) ?_; intro w7 hh7 hs7; have HH7 := Lib.hid hh7; have HB7 := Lib.hid (HB6.out.trans (hs7.below HB6.out.size (fun j hj => by rw [hj]; omega))); have HOD7 : Hid (OB w7 w5.heap.size (.slice da dm dc) ((l.drop (gN l (a + 24) 8)).take (gN l (a + 32) 8))) := Lib.hid (owns_stirs HOD6.out hs7 (ob_apart HOD6.out HX36.out (by decide))); clear hh7 hs7))
        refine bodyPost_ret (results_cell_row rfl _ _ w2.heap.size _ _ _ _ rfl HH7.out rfl rfl (by kernel_rfl)) rfl ⟨.inl ⟨HOK.out HIN.out, .slice da dm dc, ?_, ?_⟩, HB7.out⟩
        · rw [HFIN.out]
        · rw [HFIN.out]
          exact HOD7.out.base h05
      · exact ⟨rfl, .inr ⟨HN0.out hx0, rfl⟩, HB4.out⟩
  · have hcb : (code == (0 : Int)) = false := by simpa using hcode
    have HX := Lib.hid hcode
    clear hcode
    go_wp2_with (first
      | (go_at_call 66; refine (HU0.out _ HB34.out).mono ?_; rintro e wu ⟨rfl, ⟨hx0, rfl⟩ | ⟨hx0, rfl⟩⟩)
      | (go_at_call 91; refine (HAT.out _ HB4.out).mono ?_; rintro e wu ⟨rfl, rfl⟩)
      | (go_at_call 68; refine (must_no _).mono ?_; rintro e wu ⟨rfl, rfl⟩))
    · exact ⟨rfl, .inr ⟨HNM.out HX.out, rfl⟩, HB4.out⟩
    · exact ⟨rfl, .inr ⟨HN0.out hx0, rfl⟩, HB4.out⟩
end Go.Proofs.Ytimnbnomaajmmaa
namespace Go.Proofs.Ytimnbnomaajmmaa
open Go.RowKit Go.Fd
def nsegsP (l : List UInt8) : Nat := gN l 56 2
def nsecsP (l : List UInt8) : Nat := gN l 60 2 - 2
def lastP (l : List UInt8) : Nat := gN l 40 8 + 64 * (nsecsP l + 1)
def tabP (l : List UInt8) : List UInt8 := (l.drop (gN l (lastP l + 24) 8)).take (gN l (lastP l + 32) 8)
def segsP (l : List UInt8) (n : Nat) : List SegM := (List.range n).map fun i => segP l (64 + 56 * i)
def secsP (l : List UInt8) (n : Nat) : List SecM := (List.range n).map fun i => secP l (tabP l) (gN l 40 8 + 64 * (i + 1))
/-- What is read of a file of a target. -/
def parseE (l : List UInt8) (target : Int) : ElfM := ⟨(gN l 16 2 : Nat), target, gN l 48 4, gN l 24 8, secsP l (nsecsP l), segsP l (nsegsP l)⟩
/-- Is all there? -/
structure OkP (l : List UInt8) : Prop where
  n1 : gN l 56 2 ≤ 16
  n2 : 2 ≤ gN l 60 2
  n3 : gN l 60 2 ≤ 252
  segs : ∀ i, i < nsegsP l → segOk l (64 + 56 * i) = true
  heads : gN l 40 8 ≤ l.length
  t1 : okB l (lastP l + 24) 8 = true
  t2 : okB l (lastP l + 32) 8 = true
  tab : inB l (gN l (lastP l + 24) 8) (gN l (lastP l + 32) 8) = true
  secs : ∀ i, i < nsecsP l → secOk l (tabP l) (gN l 40 8 + 64 * (i + 1)) = true
theorem segsP_succ (l : List UInt8) (n : Nat) : segsP l (n + 1) = segsP l n ++ [segP l (64 + 56 * n)] := by unfold segsP; rw [List.range_succ, List.map_append]; rfl
theorem secsP_succ (l : List UInt8) (n : Nat) : secsP l (n + 1) = secsP l n ++ [secP l (tabP l) (gN l 40 8 + 64 * (n + 1))] := by unfold secsP; rw [List.range_succ, List.map_append]; rfl
theorem segsP_len (l : List UInt8) (n : Nat) : (segsP l n).length = n := by simp [segsP]
theorem secsP_len (l : List UInt8) (n : Nat) : (secsP l n).length = n := by simp [secsP]
/-- While a file is read: its header stands in block g, the result's block is r. -/
structure AllInv (w wr : World) (g r : Nat) (hd : List Value) (sv gv : Value) (L : List (SecM × Value)) (T : List SegM) : Prop where
  blk : wr.heap[g]? = some (.cells (hd ++ [sv, gv]).toArray 52 (0, 0))
  res : wr.heap[r]? = some (.cells elfZ 52 (0, 0))
  so : OwR 10 encSec 54 wr w.heap.size sv L
  go : OwR 7 encSeg 93 wr w.heap.size gv T
  data : ∀ p ∈ L, OB wr w.heap.size p.2 p.1.data
  below : Below w.heap.size w wr
  hg : w.heap.size ≤ g
  hr : w.heap.size ≤ r
  ne : r ≠ g
theorem AllInv.mono {w wr w' : World} {g r : Nat} {hd : List Value} {sv gv : Value} {L : List (SecM × Value)} {T : List SegM} (h : AllInv w wr g r hd sv gv L T) (hb : Below wr.heap.size wr w') : AllInv w w' g r hd sv gv L T :=
  ⟨heap_below hb h.blk, heap_below hb h.res, h.so.mono hb, h.go.mono hb, fun p hp => (h.data p hp).mono hb, h.below.trans (hb.mono h.below.size), h.hg, h.hr, h.ne⟩
theorem own_ne {w : World} {base e size n : Nat} {v : Value} {xs : List Value} {g : Nat} {cs : Array Value} {t : TypeId} {fr : Nat × Nat} (h : w.ownsRow base e size v n xs) (hg : w.heap[g]? = some (.cells cs t fr)) (he : t ≠ e) : ∀ k, v.ownBlock = some k → k ≠ g := by
  rintro k hk rfl
  obtain ⟨cs1, fz1, h1⟩ := own_kind h k hk
  rw [hg] at h1
  cases h1
  exact he rfl
/-- A segment more. -/
theorem AllInv.seg {w wr w1 w2 : World} {g r : Nat} {hd : List Value} {sv gv gv' : Value} {L : List (SecM × Value)} {T : List SegM} {s : SegM} (h : AllInv w wr g r hd sv gv L T) (hdl : hd.length = 4) (ho : w1.ownsRow w.heap.size 93 7 gv' (T ++ [s]).length ((T ++ [s]).flatMap encSeg)) (hgr : wr.grownBy w1 gv.ownBlock)
    (hb : w2.heap[g]? = some (.cells ((hd ++ [sv, gv]).toArray.setIfInBounds 5 gv') 52 (0, 0))) (hs : Stirs (fun k => k = g) w1 w2) : AllInv w w2 g r hd sv gv' L (T ++ [s]) := by
  have hk := keeps_own h.go hgr
  have hB : Below w.heap.size w w1 := h.below.trans (below_of_grown hgr h.below.size fun k hk => (World.ownsRow.lt h.go k hk).1)
  have hblk := hk _ _ _ _ (show 52 ≠ 93 by decide) h.blk
  have hres := hk _ _ _ _ (show 52 ≠ 93 by decide) h.res
  have hso := owns_grown h.so hgr (fun k hk hk2 => own_apart h.so h.go (by decide) hk hk2)
  refine ⟨?_, hs.kept hres h.ne, owns_stirs hso hs (own_ne hso hblk (by decide)), owns_stirs ho hs (own_ne ho hblk (by decide)), fun p hp => ?_, hB.trans (hs.below hB.size fun k hk => by rw [hk]; exact h.hg), h.hg, h.hr, h.ne⟩
  · rw [hb]
    match hd, hdl with
    | [a, b, c, d], _ => rfl
  · have h1 := owns_grown (h.data p hp) hgr (fun k hk hk2 => own_apart (h.data p hp) h.go (by decide) hk hk2)
    exact owns_stirs h1 hs (own_ne h1 hblk (by decide))
/-- A section more. -/
theorem AllInv.sec {w wr w1 w2 : World} {g r : Nat} {hd : List Value} {sv sv' gv dv : Value} {L : List (SecM × Value)} {T : List SegM} {s : SecM} (h : AllInv w wr g r hd sv gv L T) (hdl : hd.length = 4) (ho : w1.ownsRow w.heap.size 54 10 sv' (L ++ [(s, dv)]).length ((L ++ [(s, dv)]).flatMap encSec)) (hgr : wr.grownBy w1 sv.ownBlock) (hd0 : OB wr w.heap.size dv s.data)
    (hb : w2.heap[g]? = some (.cells ((hd ++ [sv, gv]).toArray.setIfInBounds 4 sv') 52 (0, 0))) (hs : Stirs (fun k => k = g) w1 w2) : AllInv w w2 g r hd sv' gv (L ++ [(s, dv)]) T := by
  have hk := keeps_own h.so hgr
  have hB : Below w.heap.size w w1 := h.below.trans (below_of_grown hgr h.below.size fun k hk => (World.ownsRow.lt h.so k hk).1)
  have hblk := hk _ _ _ _ (show 52 ≠ 54 by decide) h.blk
  have hres := hk _ _ _ _ (show 52 ≠ 54 by decide) h.res
  have hgo := owns_grown h.go hgr (fun k hk hk2 => own_apart h.go h.so (by decide) hk hk2)
  refine ⟨?_, hs.kept hres h.ne, owns_stirs ho hs (own_ne ho hblk (by decide)), owns_stirs hgo hs (own_ne hgo hblk (by decide)), fun p hp => ?_, hB.trans (hs.below hB.size fun k hk => by rw [hk]; exact h.hg), h.hg, h.hr, h.ne⟩
  · rw [hb]
    match hd, hdl with
    | [a, b, c, d], _ => rfl
  · have h0 : OB wr w.heap.size p.2 p.1.data := by
      rcases List.mem_append.1 hp with hp | hp
      · exact h.data p hp
      · rw [List.mem_singleton] at hp
        rw [hp]
        exact hd0
    have h1 := owns_grown h0 hgr (fun k hk hk2 => own_apart h0 h.so (by decide) hk hk2)
    exact owns_stirs h1 hs (own_ne h1 hblk (by decide))
/-- A file that was read lies in memory of its own. -/
structure ElfOwn (w : World) (base : Nat) (e : ElfM) (L : List (SecM × Value)) (sv gv : Value) : Prop where
  secs : e.secs = L.map (·.1)
  so : OwR 10 encSec 54 w base sv L
  go : OwR 7 encSeg 93 w base gv e.segs
  data : ∀ p ∈ L, OB w base p.2 p.1.data
theorem ElfOwn.at {w : World} {base : Nat} {e : ElfM} {L : List (SecM × Value)} {sv gv : Value} (h : ElfOwn w base e L sv gv) : ElfAt w e L sv gv :=
  ⟨h.secs, h.so.rd, fun p hp => (h.data p hp).bs, h.go.rd⟩
/-- No two sections' bytes lie in one block. -/
def ApartS (L : List (SecM × Value)) : Prop := L.Pairwise fun p q => ∀ k, p.2.ownBlock = some k → q.2.ownBlock ≠ some k
theorem ApartS.snoc {L : List (SecM × Value)} {p : SecM × Value} (h : ApartS L) (hn : ∀ q ∈ L, ∀ k, q.2.ownBlock = some k → p.2.ownBlock ≠ some k) : ApartS (L ++ [p]) :=
  List.pairwise_append.2 ⟨h, List.pairwise_singleton _ _, fun a ha b hb => by rw [List.mem_singleton] at hb; subst hb; exact hn a ha⟩
/-- A file comes, or it goes up. -/
def AllRes (l : List UInt8) (target : Int) (base : Nat) (r : Ending) (w : World) : Prop := OkP l ∧ (∃ L sv gv, r = .returned (elfV (parseE l target) sv gv) ∧ ElfOwn w base (parseE l target) L sv gv ∧ ApartS L) ∨ ¬ OkP l ∧ r = .panicked upF
/-- One record in a block of its own, made in a region. -/
def Yld.one (B : Nat) (t : TypeId) (cs : Array Value) : Yld := ⟨Nat, 0, fun g => .slice (some ⟨g, 0, none⟩) 1 1, fun g w => B ≤ g ∧ w.heap[g]? = some (.cells cs t (0, 0)),
  fun g w w' ⟨h1, h2⟩ hb => ⟨h1, by rw [hb.block g (Array.getElem?_eq_some_iff.1 h2).1]; exact h2⟩⟩
theorem walk_one {P : Program} {Up : Exit → Prop} {L r : List Oper} {M : List (Nat × Yld)} {a : Act} {w0 : World} {E : Act → Prop} {i : Nat} {o : Oper} {B : Nat} {t : TypeId} {cs : Array Value} (hw : Region.wanted o (yielded L.toArray a.tmps) = true) (hM : madeAt M i = some (Yld.one B t cs)) (h : ∀ w, Below w0.heap.size w0 w → Deps L M a o w → WpYld P Up o a (Yld.one B t cs) w) (hn : ∀ g : Nat, walk P Up L M w0 E (i + 1) r (a.put o.dst (.slice (some ⟨g, 0, none⟩) 1 1))) : walk P Up L M w0 E i (o :: r) a :=
  walk_made hw hM h hn
theorem Yld.one_got {B g : Nat} {t : TypeId} {cs : Array Value} {w : World} (h : (Yld.one B t cs).R (.slice (some ⟨g, 0, none⟩) 1 1) w) : B ≤ g ∧ w.heap[g]? = some (.cells cs t (0, 0)) := by
  obtain ⟨x, e, hr⟩ := h
  have : g = x := by
    have e' : (Value.slice (some ⟨g, 0, none⟩) 1 1) = .slice (some ⟨x, 0, none⟩) 1 1 := e
    injection e' with e'; injection e' with e'; injection e'
  subst this
  exact hr
theorem Yld.one_mk {w0 w : World} {t : TypeId} (cs : Array Value) (h : Below w0.heap.size w0 w) : (Yld.one w0.heap.size t cs).R (.slice (some ⟨w.heap.size, 0, none⟩) 1 1) (w.alloc (.cells cs t)) ∧ Below w.heap.size w (w.alloc (.cells cs t)) :=
  ⟨⟨w.heap.size, rfl, h.size, heap_alloc_last w _⟩, below_alloc w _⟩
/-- One record in a block of its own reads. -/
theorem rd_one {α : Type} {k : Nat} {enc : α → List Value} {w : World} {g : Nat} {cs : Array Value} {t : TypeId} {fr : Nat × Nat} {x : α} (hk : (enc x).length = k) (h : w.heap[g]? = some (.cells cs t fr)) (hc : cs = (enc x).toArray) : RdR k enc w (.slice (some ⟨g, 0, none⟩) 1 1) [x] := by
  subst hc
  refine ⟨by simp [hk], _, _, rfl, Nat.le_refl _, (fun h => by cases h), fun j hj => ⟨g, 0, rfl, ?_⟩⟩
  rw [Nat.zero_add, cell_rec h j]
  simp
end Go.Proofs.Ytimnbnomaajmmaa
namespace Go.Proofs.Ytimnbnomaajmmaa
open Go.RowKit Go.Fd
/-- A call that makes memory and comes to a value, if something holds, or goes up. -/
theorem _root_.Go.Fd.WpYld.callRes {P : Program} {o : Oper} {a : Act} {c : Value} {f : FuncId} {args : Array Value} {w : World} {b : Bool} {q : Prop} (hr : (execOp a.eval o).run P w = .ok (.enter f args) w) (hq : b = false → q) (h : Calls P f args w fun e w' => ResU b c e ∧ Below w.heap.size w w') : WpYld P (fun x => x = .panic upF ∧ q) o a (Yld.ok c (b = true)) w :=
  WpYld.callUp hr (h.mono fun e w' ⟨he, hb⟩ => by
    rcases he with ⟨h1, h2⟩ | ⟨h1, h2⟩
    · exact .inl ⟨c, h2, ⟨(), rfl, h1⟩, hb⟩
    · exact .inr ⟨upF, h2, ⟨rfl, hq h1⟩, hb⟩)
theorem run_oneSeg {x : Operand} {s : SegM} {a : Act} {w : World} {d : Option Tmp} {ty : TypeId} {pos : String} {aft : Array Edge} {g : Option (Nat × Bool)} (hx : a.eval x = .agg (encSeg s).toArray) :
    (execOp a.eval ⟨d, .buildSlice 50 1 #[(0, x)], ty, pos, aft, g⟩).run Try.prog w = .ok (.value (.slice (some ⟨w.heap.size, 0, none⟩) 1 1)) (w.alloc (.cells (encSeg s).toArray 93)) := by
  simp only [execOp, List.map_toArray, List.map_cons, List.map_nil, hx]
  kernel_rfl
/-- A section with its bytes, in a region. -/
def YSec (q : Prop) (s : SecM) (B : Nat) : Yld := ⟨Value, undef, fun dv => secV (s, dv), fun dv w => q ∧ OB w B dv s.data, fun _ _ _ h hb => ⟨h.1, h.2.mono hb⟩⟩
def YOneSec (s : SecM) (B : Nat) : Yld := ⟨Nat, 0, fun g => .slice (some ⟨g, 0, none⟩) 1 1, fun g w => ∃ dv, w.heap[g]? = some (.cells (encSec (s, dv)).toArray 54 (0, 0)) ∧ OB w B dv s.data, fun _ _ _ h hb => by
  obtain ⟨dv, h1, h2⟩ := h
  exact ⟨dv, heap_below hb h1, h2.mono hb⟩⟩
theorem YSec_got {q : Prop} {s : SecM} {B : Nat} {dv : Value} {w : World} (h : (YSec q s B).R (secV (s, dv)) w) : q ∧ OB w B dv s.data := by
  obtain ⟨(x : Value), e, hr⟩ := h
  have : dv = x := by
    have e1 := congrArg (fun v : Value => match v with | .agg c => c[9]? | _ => none) e
    have e2 : some dv = some x := e1
    injection e2
  subst this
  exact hr
theorem YOneSec_got {s : SecM} {B g : Nat} {w : World} (h : (YOneSec s B).R (.slice (some ⟨g, 0, none⟩) 1 1) w) : ∃ dv, w.heap[g]? = some (.cells (encSec (s, dv)).toArray 54 (0, 0)) ∧ OB w B dv s.data := by
  obtain ⟨x, e, hr⟩ := h
  have : g = x := by
    have e' : (Value.slice (some ⟨g, 0, none⟩) 1 1) = .slice (some ⟨x, 0, none⟩) 1 1 := e
    injection e' with e'; injection e' with e'; injection e'
  subst this
  exact hr
set_option maxRecDepth 100000 in
theorem run_oneSec {x : Operand} {s : SecM} {p : Option Addr} {m c : Nat} {a : Act} {w : World} {d : Option Tmp} {ty : TypeId} {pos : String} {aft : Array Edge} {g : Option (Nat × Bool)} (hx : a.eval x = secV (s, .slice p m c)) :
    (execOp a.eval ⟨d, .buildSlice 49 1 #[(0, x)], ty, pos, aft, g⟩).run Try.prog w = .ok (.value (.slice (some ⟨w.heap.size, 0, none⟩) 1 1)) (w.alloc (.cells (encSec (s, .slice p m c)).toArray 54)) := by
  simp only [execOp, List.map_toArray, List.map_cons, List.map_nil, hx]
  kernel_rfl
set_option maxRecDepth 100000 in
theorem wp_oneSec {x : Operand} {s : SecM} {dv : Value} {B : Nat} {Up : Exit → Prop} {a : Act} {w : World} {d : Option Tmp} {ty : TypeId} {pos : String} {aft : Array Edge} {g : Option (Nat × Bool)} (hx : a.eval x = secV (s, dv)) (ho : OB w B dv s.data) :
    WpYld Try.prog Up ⟨d, .buildSlice 49 1 #[(0, x)], ty, pos, aft, g⟩ a (YOneSec s B) w := by
  obtain ⟨m, p, c, -, rfl, _, _⟩ := ho.shape
  exact WpYld.val (run_oneSec hx) ⟨w.heap.size, rfl, _, heap_alloc_last w _, ho.mono (below_alloc w _)⟩ (below_alloc w _)
attribute [local irreducible] gN okB inB atR segOk secOk segP secP tabP
set_option maxHeartbeats 8000000 in
set_option maxRecDepth 100000 in
theorem all_any (l : List UInt8) (target : Int) (v : Value) (w : World) (hl : l.length ≤ 4194304) (h64 : 64 ≤ l.length) (hv : Bs w v l) :
    Calls Try.prog 67 #[v, .int .i64 target] w fun r w' => AllRes l target w.heap.size r w' ∧ Below w.heap.size w w' := by
  have HV := Lib.hid hv
  obtain ⟨m, ad, cap, hm, rfl, _, _⟩ := hv.shape
  have HL9 := Lib.hid (show l.length ≤ 1000000000 by omega)
  have hm9 : m ≤ 4194304 := by have := hm.out; omega
  have HU16 : Hid (∀ wx, Below w.heap.size w wx → Calls Try.prog 66 #[.slice ad m cap, .int .i64 16, .int .i64 2] wx fun r w' => r = .returned (.int .u64 (gN l 16 2 : Nat)) ∧ wx = w') := Lib.hid (fun wx hwx => (ruN l 16 2 _ wx HL9.out (HV.out.mono hwx)).mono fun r w' ⟨hw, h⟩ => by
    rw [okB_iff sz2, show decide (16 + 2 ≤ l.length) = true by simp; omega] at h
    rcases h with ⟨_, h⟩ | ⟨h, _⟩
    · exact ⟨h, hw⟩
    · cases h)
  have HU48 : Hid (∀ wx, Below w.heap.size w wx → Calls Try.prog 66 #[.slice ad m cap, .int .i64 48, .int .i64 4] wx fun r w' => r = .returned (.int .u64 (gN l 48 4 : Nat)) ∧ wx = w') := Lib.hid (fun wx hwx => (ruN l 48 4 _ wx HL9.out (HV.out.mono hwx)).mono fun r w' ⟨hw, h⟩ => by
    rw [okB_iff sz4, show decide (48 + 4 ≤ l.length) = true by simp; omega] at h
    rcases h with ⟨_, h⟩ | ⟨h, _⟩
    · exact ⟨h, hw⟩
    · cases h)
  have HU24 : Hid (∀ wx, Below w.heap.size w wx → Calls Try.prog 66 #[.slice ad m cap, .int .i64 24, .int .i64 8] wx fun r w' => r = .returned (.int .u64 (gN l 24 8 : Nat)) ∧ wx = w') := Lib.hid (fun wx hwx => (ruN l 24 8 _ wx HL9.out (HV.out.mono hwx)).mono fun r w' ⟨hw, h⟩ => by
    rw [okB_iff sz8, show decide (24 + 8 ≤ l.length) = true by simp; omega] at h
    rcases h with ⟨_, h⟩ | ⟨h, _⟩
    · exact ⟨h, hw⟩
    · cases h)
  have HU56 : Hid (∀ wx, Below w.heap.size w wx → Calls Try.prog 66 #[.slice ad m cap, .int .i64 56, .int .i64 2] wx fun r w' => r = .returned (.int .u64 (gN l 56 2 : Nat)) ∧ wx = w') := Lib.hid (fun wx hwx => (ruN l 56 2 _ wx HL9.out (HV.out.mono hwx)).mono fun r w' ⟨hw, h⟩ => by
    rw [okB_iff sz2, show decide (56 + 2 ≤ l.length) = true by simp; omega] at h
    rcases h with ⟨_, h⟩ | ⟨h, _⟩
    · exact ⟨h, hw⟩
    · cases h)
  have HU60 : Hid (∀ wx, Below w.heap.size w wx → Calls Try.prog 66 #[.slice ad m cap, .int .i64 60, .int .i64 2] wx fun r w' => r = .returned (.int .u64 (gN l 60 2 : Nat)) ∧ wx = w') := Lib.hid (fun wx hwx => (ruN l 60 2 _ wx HL9.out (HV.out.mono hwx)).mono fun r w' ⟨hw, h⟩ => by
    rw [okB_iff sz2, show decide (60 + 2 ≤ l.length) = true by simp; omega] at h
    rcases h with ⟨_, h⟩ | ⟨h, _⟩
    · exact ⟨h, hw⟩
    · cases h)
  have HU40 : Hid (∀ wx, Below w.heap.size w wx → Calls Try.prog 66 #[.slice ad m cap, .int .i64 40, .int .i64 8] wx fun r w' => r = .returned (.int .u64 (gN l 40 8 : Nat)) ∧ wx = w') := Lib.hid (fun wx hwx => (ruN l 40 8 _ wx HL9.out (HV.out.mono hwx)).mono fun r w' ⟨hw, h⟩ => by
    rw [okB_iff sz8, show decide (40 + 8 ≤ l.length) = true by simp; omega] at h
    rcases h with ⟨_, h⟩ | ⟨h, _⟩
    · exact ⟨h, hw⟩
    · cases h)
  have HN1 := Lib.hid (fun h : OkP l => h.n1)
  have HN2 := Lib.hid (fun h : OkP l => h.n2)
  have HN3 := Lib.hid (fun h : OkP l => h.n3)
  have HNS := Lib.hid (fun h : OkP l => h.segs)
  have HNH := Lib.hid (fun h : OkP l => h.heads)
  have HT1 := Lib.hid (fun h : OkP l => h.t1)
  have HT2 := Lib.hid (fun h : OkP l => h.t2)
  have HTB := Lib.hid (fun h : OkP l => h.tab)
  have HNC := Lib.hid (fun h : OkP l => h.secs)
  have b16 := gN2 l 16
  have b48 := gN4 l 48
  have HB24 := Lib.hid (gN8 l 24)
  have b56 := gN2 l 56
  have b60 := gN2 l 60
  have HB40 := Lib.hid (gN8 l 40)
  have HPE : Hid (parseE l target = ⟨(gN l 16 2 : Nat), target, gN l 48 4, gN l 24 8, secsP l (gN l 60 2 - 2), segsP l (gN l 56 2)⟩) := rfl
  have HE0 := Lib.hid (fun (w1 : World) (g r : Nat) (hb : w1.heap[g]? = some (.cells elfZ 52 (0, 0))) (hr : w1.heap[r]? = some (.cells elfZ 52 (0, 0))) => (⟨hb, hr⟩ : w1.heap[g]? = some (.cells elfZ 52 (0, 0)) ∧ w1.heap[r]? = some (.cells elfZ 52 (0, 0))))
  clear HE0
  clear hv
  go_enter Try.func67, Try.ntmps67
  go_wp2_with (first
    | ((with_reducible show wpList _ _ _ (⟨some 4, .alloc _, _, _, _, _⟩ :: _) _ _); go_must (refine wpList_allocElf ?_; intro w1 hx1 hb1 hs1; have HX1 := Lib.hid hx1; have HB1 := Lib.hid hb1; clear hx1 hb1))
    | (go_at_call 66; (with_reducible refine (HU16.out _ HB1.out).mono ?_); rintro e wu ⟨rfl, rfl⟩)
    | (go_at_call 66; (with_reducible refine (HU48.out _ HB1.out).mono ?_); rintro e wu ⟨rfl, rfl⟩)
    | (go_at_call 66; (with_reducible refine (HU24.out _ HB1.out).mono ?_); rintro e wu ⟨rfl, rfl⟩)
    | ((with_reducible show wpList _ _ _ (⟨some 5, .alloc _, _, _, _, _⟩ :: _) _ _); go_must (refine wpList_allocElf ?_; intro w2 hx2 hb2 hs2; have HX2 := Lib.hid hx2; have HX12 := Lib.hid (heap_below hb2 HX1.out); have HB2 := Lib.hid (HB1.out.trans (hb2.mono HB1.out.size)); clear hx2 hb2))
    | ((with_reducible show wpList _ _ _ (⟨none, .store _ (.tmp 5) _, _, _, _, _⟩ :: _) _ _); go_must (refine wpList_storeElfS HX2.out rfl rfl rfl rfl (by simp [Value.oneCell']) ?_; intro w3 hh3 hs3; have HH3 := Lib.hid hh3; have HX13 := Lib.hid (hs3.kept HX12.out (show ¬ w.heap.size = w1.heap.size by omega)); have HB3 := Lib.hid (HB2.out.trans (hs3.below HB2.out.size (fun j hj => by rw [hj]; exact HB1.out.size))); clear hh3 hs3)))
  by_cases hA : gN l 56 2 ≤ 16 ∧ 2 ≤ gN l 60 2 ∧ gN l 60 2 ≤ 252
  · obtain ⟨hA1, hA2, hA3⟩ := hA
    obtain ⟨k2, hk2⟩ : ∃ k2, gN l 60 2 = k2 + 2 := ⟨gN l 60 2 - 2, by omega⟩
    have hk9 : k2 ≤ 250 := by omega
    have e60 : ((gN l 60 2 : Nat) : Int) - 2 = (k2 : Int) := by rw [hk2]; simp
    have HK2 := Lib.hid hk2
    have d250 : decide ((k2 : Int) ≤ 250) = true := by simp; omega
    have d16 : decide (((gN l 56 2 : Nat) : Int) ≤ 16) = true := by simp; omega
    have HMK := Lib.hid (fun (h1 : ∀ i, i < nsegsP l → segOk l (64 + 56 * i) = true) (h2 : gN l 40 8 ≤ l.length) (h3 : okB l (lastP l + 24) 8 = true) (h4 : okB l (lastP l + 32) 8 = true) (h5 : inB l (gN l (lastP l + 24) 8) (gN l (lastP l + 32) 8) = true) (h6 : ∀ i, i < nsecsP l → secOk l (tabP l) (gN l 40 8 + 64 * (i + 1)) = true) => (⟨hA1, hA2, hA3, h1, h2, h3, h4, h5, h6⟩ : OkP l))
    clear hk2 hA2 hA3
    go_wp2_with (first
      | (go_at_call 66; (with_reducible refine (HU56.out _ HB3.out).mono ?_); rintro e wu ⟨rfl, rfl⟩)
      | (go_at_call 66; (with_reducible refine (HU60.out _ HB3.out).mono ?_); rintro e wu ⟨rfl, rfl⟩)
      | (go_at_call 68; refine (must_ok _).mono ?_; rintro e wu ⟨rfl, rfl⟩))
    have HI0 : Hid (AllInv w w3 w1.heap.size w.heap.size [.int .i64 (gN l 16 2 : Nat), .int .i64 target, .int .u32 (gN l 48 4 : Nat), .int .u64 (gN l 24 8 : Nat)] (.slice none 0 0) (.slice none 0 0) [] []) := ⟨HH3.out, HX13.out, OwR.nil _ _ _ _ _, OwR.nil _ _ _ _ _, (fun p hp => by cases hp), HB3.out, HB1.out.size, Nat.le_refl _, by omega⟩
    clear HX1 HX2 HX12 HX13 HH3 HB1 HB2 HB3 hs1 hs2 e60 d250 d16
    have E56 : Hid (nsegsP l = gN l 56 2) := rfl
    have E60 : Hid (nsecsP l = k2) := Lib.hid (by show gN l 60 2 - 2 = k2; rw [HK2.out]; rfl)
    generalize gN l 56 2 = ns at *
    go_loopw [42] (fun i wr => ∃ (k : Nat) (q : Option Addr) (n r : Nat), i = .int .i64 k ∧ k ≤ ns ∧ Hid (AllInv w wr w1.heap.size w.heap.size [.int .i64 (gN l 16 2 : Nat), .int .i64 target, .int .u32 (gN l 48 4 : Nat), .int .u64 (gN l 24 8 : Nat)] (.slice none 0 0) (.slice q n r) [] (segsP l k)) ∧ Hid (∀ i, i < k → segOk l (64 + 56 * i) = true)) (fun i _ => ns - (intOf i).toNat)
    case atStart => exact ⟨0, none, 0, 0, rfl, Nat.zero_le _, HI0, fun i hi => absurd hi (Nat.not_lt_zero i)⟩
    case round =>
      obtain ⟨k, q, n, r, rfl, hk, HI, HO⟩ := hrel
      have HB := Lib.hid HI.out.below
      by_cases hlt : k < ns
      · have e5 : wr.cell? ⟨w1.heap.size, 5, none⟩ = some (.slice q n r) := cell_rec HI.out.blk 5
        have hAB := fun (x : Above wr) (b k : Nat) (h : b < wr.heap.size) => Above.cell x b k h
        have l1 := block_lt e5
        have HSG : Hid (∀ wx (_ : Below wr.heap.size wr wx), Calls Try.prog 87 #[.slice ad m cap, .int .i64 (64 + 56 * (k : Int))] wx fun r w' => ResU (segOk l (64 + 56 * k)) (.agg (encSeg (segP l (64 + 56 * k))).toArray) r ∧ Below wx.heap.size wx w') := Lib.hid (fun wx hwx => seg_any l (64 + 56 * k) _ wx HL9.out (HV.out.mono (HB.out.trans (hwx.mono HB.out.size))) (by omega))
        have HBAD : Hid (segOk l (64 + 56 * k) = false → ¬ OkP l) := Lib.hid (fun h ho => by have := HNS.out ho k (by rw [E56.out]; exact hlt); rw [h] at this; cases this)
        have hw1 : IntKind.i64.wrap (56 * (k : Int)) = 56 * (k : Int) := by
          have := i64_small (n := 56 * k) (by omega)
          simpa using this
        have HSS := Lib.hid (segsP_succ l k)
        have HSL := Lib.hid (segsP_len l k)
        generalize segP l (64 + 56 * k) = sg at *
        go_wp2
        refine wp_region_walkU (Up := fun x => x = .panic upF ∧ ¬ OkP l) 8 [(6, Yld.ok (.agg (encSeg sg).toArray) (segOk l (64 + 56 * k) = true)), (7, Yld.one wr.heap.size 93 (encSeg sg).toArray)] (by kernel_rfl) (by kernel_rfl) ?_ ?_
        · rintro x a' w' ⟨⟨rfl, hso⟩, hd, hb⟩
          exact ⟨hd, .inr ⟨hso, rfl⟩, HB.out.trans (hb.mono HB.out.size)⟩
        simp only [List.take_succ_cons, List.take_zero, List.drop_succ_cons, List.drop_zero]
        repeat (refine walk_quiet rfl rfl rfl ?_; intro K hK; go_big_quiet_op; go_big_quiet_on)
        refine walk_ok (c := .agg (encSeg sg).toArray) (p := segOk l (64 + 56 * k) = true) rfl rfl (fun wx hwx _ => WpYld.callRes (run_callL (vals := [_, _]) Try.func87 (by kernel_rfl) rfl rfl) HBAD.out (HSG.out wx hwx)) ?_
        go_frame
        refine walk_one rfl rfl (fun wx hwx _ => WpYld.val (run_oneSeg rfl) (Yld.one_mk _ hwx).1 (Yld.one_mk _ hwx).2) (fun gb => ?_)
        go_frame
        refine walk_nil ?_
        intro wz hbz hF
        have HSO : Hid (segOk l (64 + 56 * k) = true) := Lib.hid (Yld.ok_got (hF 6 _ 51 _ rfl rfl rfl rfl))
        have HGB := Lib.hid (Yld.one_got (hF 7 _ 52 _ rfl rfl rfl rfl)).2
        have HIZ := Lib.hid (HI.out.mono hbz)
        clear hF hAB e5 hbz hw1
        refine wpList_cat TSeg HIZ.out.go (rd_one rfl HGB.out rfl) rfl rfl (oneSeg [sg]) (by rw [HSL.out]; simp; omega) (by rw [HSL.out]; simp; omega) HIZ.out.below.size ?_
        intro v5 w5 hv5 hg5 hb5
        have HV5 := Lib.hid hv5
        have HG5 := Lib.hid hg5
        have HBL := Lib.hid (keeps_own HIZ.out.go hg5 _ _ _ _ (show 52 ≠ 93 by decide) HIZ.out.blk)
        have HB5 := Lib.hid hb5
        obtain ⟨m5, q5, r5, -, rfl, _, _⟩ := (Reads.of_owns hv5).shape
        clear hv5 hg5 hb5
        have HVV := Lib.hid (show w5.ownsRow w.heap.size 93 7 (.slice q5 m5 r5) (segsP l k ++ [sg]).length ((segsP l k ++ [sg]).flatMap encSeg) by rw [List.length_append, List.flatMap_append]; exact HV5.out)
        have hgt : w.heap.size ≤ w1.heap.size := HI.out.hg
        go_wp2_with ((with_reducible show wpList _ _ _ (⟨none, .store _ (.tmp 54) _, _, _, _, _⟩ :: _) _ _); go_must (refine wpList_set HBL.out (Nat.lt_of_lt_of_eq (show 5 < 6 by decide) rfl) rfl rfl hgt (Nat.le_trans HIZ.out.below.size HB5.out.size) (fun w => by kernel_rfl) ?_; intro w6 hh6 hb6 hs6; have HI6 := Lib.hid (AllInv.seg HIZ.out rfl HVV.out HG5.out hh6 hs6); clear hh6 hb6 hs6))
        go_round
        case rel => exact ⟨k + 1, q5, m5, r5, by go_num, by omega, (by rw [HSS.out]; exact HI6), (fun i hi => by
          rcases Nat.lt_succ_iff_lt_or_eq.1 hi with h | rfl
          · exact HO.out i h
          · exact HSO.out)⟩
        case measure => simp [intOf] <;> omega
      · obtain rfl : k = ns := by omega
        have HSALL : Hid (∀ i, i < nsegsP l → segOk l (64 + 56 * i) = true) := Lib.hid (fun i hi => HO.out i (by rw [E56.out] at hi; exact hi))
        have ELAST : Hid (lastP l = gN l 40 8 + 64 * (k2 + 1)) := Lib.hid (by unfold lastP; rw [E60.out])
        have HTABL : Hid ((l.drop (gN l (lastP l + 24) 8)).take (gN l (lastP l + 32) 8) = tabP l) := Lib.hid (by unfold tabP; rfl)
        have HSP := Lib.hid (secsP_succ l)
        have HC1 := Lib.hid (gN8 l (lastP l + 24))
        have HC2 := Lib.hid (gN8 l (lastP l + 32))
        have HTL := Lib.hid (show (tabP l).length ≤ 1000000000 by rw [← HTABL.out, List.length_take, List.length_drop]; have := HL9.out; omega)
        generalize gN l 40 8 = h40 at *
        by_cases hH : h40 ≤ m
        · have dH : decide (h40 ≤ m) = true := decide_eq_true hH
          have HHD : Hid (h40 ≤ l.length) := Lib.hid (by have := hm.out; omega)
          have hh9 : h40 ≤ 4194304 := by omega
          have HUA : Hid (∀ wx, Below w.heap.size w wx → Calls Try.prog 66 #[.slice ad m cap, .int .i64 ((h40 : Int) + 64 * ((k2 : Int) + 1) + 24), .int .i64 8] wx fun r w' => wx = w' ∧ ResU (okB l (lastP l + 24) 8) (.int .u64 (gN l (lastP l + 24) 8 : Nat)) r) := Lib.hid (fun wx hwx => by
            have h1 := ruN l (lastP l + 24) 8 _ wx HL9.out (HV.out.mono hwx)
            rw [show ((lastP l + 24 : Nat) : Int) = (h40 : Int) + 64 * ((k2 : Int) + 1) + 24 by rw [ELAST.out]; push_cast; rfl] at h1
            exact h1)
          have HUB : Hid (∀ wx, Below w.heap.size w wx → Calls Try.prog 66 #[.slice ad m cap, .int .i64 ((h40 : Int) + 64 * ((k2 : Int) + 1) + 32), .int .i64 8] wx fun r w' => wx = w' ∧ ResU (okB l (lastP l + 32) 8) (.int .u64 (gN l (lastP l + 32) 8 : Nat)) r) := Lib.hid (fun wx hwx => by
            have h1 := ruN l (lastP l + 32) 8 _ wx HL9.out (HV.out.mono hwx)
            rw [show ((lastP l + 32 : Nat) : Int) = (h40 : Int) + 64 * ((k2 : Int) + 1) + 32 by rw [ELAST.out]; push_cast; rfl] at h1
            exact h1)
          generalize gN l (lastP l + 24) 8 = c24 at *
          generalize gN l (lastP l + 32) 8 = c32 at *
          go_wp2_with (first
            | (go_at_call 66; (with_reducible refine (HU40.out _ HB.out).mono ?_); rintro e wu ⟨rfl, rfl⟩)
            | (go_at_call 68; refine (must_ok _).mono ?_; rintro e wu ⟨rfl, rfl⟩)
            | (go_at_call 66; (with_reducible refine (HUA.out _ HB.out).mono ?_); rintro e wu ⟨rfl, ⟨hx1, rfl⟩ | ⟨hx1, rfl⟩⟩)
            | (go_at_call 66; (with_reducible refine (HUB.out _ HB.out).mono ?_); rintro e wu ⟨rfl, ⟨hx2, rfl⟩ | ⟨hx2, rfl⟩⟩)
            | (go_at_call 88; refine (cut_any l c24 c32 _ _ HL9.out (HV.out.mono HB.out) HC1.out HC2.out).mono ?_; rintro e wu ⟨rfl, ⟨hx3, tv, rfl, htv⟩ | ⟨hx3, rfl⟩⟩))
          · rw [HTABL.out] at htv
            have HTV := Lib.hid htv
            obtain ⟨tm, tad, tcap, -, rfl, _, _⟩ := (htv wr (HV.out.mono HB.out)).shape
            have HX1 := Lib.hid hx1
            have HX2 := Lib.hid hx2
            have HX3 := Lib.hid hx3
            clear hx1 hx2 hx3 htv dH hH
            obtain ⟨wo, rfl⟩ : ∃ wo : World, wo = wr := ⟨_, rfl⟩
            go_loopw [82] (fun i wr => ∃ (j : Nat) (sq : Option Addr) (sn sr : Nat) (L : List (SecM × Value)), i = .int .i64 j ∧ j ≤ k2 ∧ Hid (AllInv w wr w1.heap.size w.heap.size [.int .i64 (gN l 16 2 : Nat), .int .i64 target, .int .u32 (gN l 48 4 : Nat), .int .u64 (gN l 24 8 : Nat)] (.slice sq sn sr) (.slice q n r) L (segsP l k)) ∧ Hid (L.map (·.1) = secsP l j) ∧ Hid (ApartS L) ∧ Hid (∀ i, i < j → secOk l (tabP l) (h40 + 64 * (i + 1)) = true)) (fun i _ => k2 - (intOf i).toNat)
            case atStart => exact ⟨0, none, 0, 0, [], rfl, Nat.zero_le _, HI, rfl, List.Pairwise.nil, (fun i hi => absurd hi (Nat.not_lt_zero i))⟩
            case round =>
              obtain ⟨j, sq, sn, sr, L, rfl, hj, HI2, HL2, HAP, HO2⟩ := hrel
              have HB3 := Lib.hid HI2.out.below
              by_cases hlt2 : j < k2
              · have e4 : wr.cell? ⟨w1.heap.size, 4, none⟩ = some (.slice sq sn sr) := cell_rec HI2.out.blk 4
                have hAB := fun (x : Above wr) (b k : Nat) (h : b < wr.heap.size) => Above.cell x b k h
                have l1 := block_lt e4
                have HSC : Hid (∀ wy (_ : Below wr.heap.size wr wy), Calls Try.prog 89 #[.slice ad m cap, .int .i64 ((h40 : Int) + 64 * ((j : Int) + 1)), .slice tad tm tcap] wy fun r w' => SecRes l (tabP l) (h40 + 64 * (j + 1)) wy.heap.size r w' ∧ Below wy.heap.size wy w') := Lib.hid (fun wy hwy => sec_any l (tabP l) (h40 + 64 * (j + 1)) _ _ wy HL9.out (HV.out.mono (HB3.out.trans (hwy.mono HB3.out.size))) HTL.out (HTV.out wy (HV.out.mono (HB3.out.trans (hwy.mono HB3.out.size)))) (by omega))
                have HBAD : Hid (secOk l (tabP l) (h40 + 64 * (j + 1)) = false → ¬ OkP l) := Lib.hid (fun h ho => by have := HNC.out ho j (by rw [E60.out]; exact hlt2); rw [h] at this; cases this)
                have HCY : Hid (∀ wy (_ : Below wr.heap.size wr wy), Calls Try.prog 89 #[.slice ad m cap, .int .i64 ((h40 : Int) + 64 * ((j : Int) + 1)), .slice tad tm tcap] wy fun r w' => (∃ v, r = .returned v ∧ (YSec (secOk l (tabP l) (h40 + 64 * (j + 1)) = true) (secP l (tabP l) (h40 + 64 * (j + 1))) wr.heap.size).R v w' ∧ Below wy.heap.size wy w') ∨ (∃ c, r = .panicked c ∧ (Exit.panic c = .panic upF ∧ ¬ OkP l) ∧ Below wy.heap.size wy w')) := Lib.hid (fun wy hwy => (HSC.out wy hwy).mono fun r w' ⟨h, hb⟩ => by
                  rcases h with ⟨h1, dv, h2, h3⟩ | ⟨h1, h2⟩
                  · exact .inl ⟨_, h2, ⟨dv, rfl, h1, h3.base hwy.size⟩, hb⟩
                  · exact .inr ⟨_, h2, ⟨rfl, HBAD.out h1⟩, hb⟩)
                have hw1 : IntKind.i64.wrap ((j : Int) + 1) = (j : Int) + 1 := by
                  have := i64_small (n := j + 1) (by omega)
                  simpa using this
                have hw2 : IntKind.i64.wrap (64 * ((j : Int) + 1)) = 64 * ((j : Int) + 1) := by
                  have := i64_small (n := 64 * (j + 1)) (by omega)
                  simpa using this
                have hw3 : IntKind.i64.wrap ((h40 : Int) + 64 * ((j : Int) + 1)) = (h40 : Int) + 64 * ((j : Int) + 1) := by
                  have := i64_small (n := h40 + 64 * (j + 1)) (by omega)
                  simpa using this
                have HSS := Lib.hid (HSP.out j)
                have HLL := Lib.hid (show L.length = j by have := congrArg List.length HL2.out; rw [secsP_len, List.length_map] at this; exact this)
                have hj9 : j ≤ 250 := by omega
                generalize secP l (tabP l) (h40 + 64 * (j + 1)) = sc at *
                go_wp2
                refine wp_region_walkU (Up := fun x => x = .panic upF ∧ ¬ OkP l) 11 [(9, YSec (secOk l (tabP l) (h40 + 64 * (j + 1)) = true) sc wr.heap.size), (10, YOneSec sc wr.heap.size)] (by kernel_rfl) (by kernel_rfl) ?_ ?_
                · rintro x a' w' ⟨⟨rfl, hso⟩, hd, hb⟩
                  exact ⟨hd, .inr ⟨hso, rfl⟩, HB3.out.trans (hb.mono HB3.out.size)⟩
                simp only [List.take_succ_cons, List.take_zero, List.drop_succ_cons, List.drop_zero]
                repeat (refine walk_quiet rfl rfl rfl ?_; intro K hK; go_big_quiet_op; go_big_quiet_on)
                refine walk_made rfl rfl (fun wy hwy _ => WpYld.callUp (run_callL (vals := [_, _, _]) Try.func89 (by kernel_rfl) rfl rfl) (HCY.out wy hwy)) (fun dv => ?_)
                go_frame
                refine walk_made rfl rfl (fun wy hwy hd => wp_oneSec rfl (YSec_got (hd 9 _ 94 _ rfl rfl (by kernel_rfl) rfl rfl)).2) (fun gb => ?_)
                go_frame
                refine walk_nil ?_
                intro wz hbz hF
                have HSO : Hid (secOk l (tabP l) (h40 + 64 * (j + 1)) = true) := Lib.hid (YSec_got (hF 9 _ 94 _ rfl rfl rfl rfl)).1
                obtain ⟨du, hgb, hdu⟩ := YOneSec_got (hF 10 _ 95 _ rfl rfl rfl rfl)
                have HGB := Lib.hid hgb
                have HDU := Lib.hid (hdu.base HI2.out.below.size)
                have HAP2 := Lib.hid (show ApartS (L ++ [(sc, du)]) from HAP.out.snoc (fun q hq k hk hk2 => by have h1 := (World.ownsRow.lt (HI2.out.data q hq) k hk).2; have h2 := (World.ownsRow.lt hdu k hk2).1; omega))
                have HIZ := Lib.hid (HI2.out.mono hbz)
                clear hF hAB e4 hbz hw1 hw2 hw3 hgb hdu
                refine wpList_cat TSec HIZ.out.so (rd_one rfl HGB.out rfl) rfl rfl (oneSec (L := [(sc, du)]) (fun p hp => by rw [List.mem_singleton] at hp; rw [hp]; obtain ⟨m9, p9, c9, -, h9, _, _⟩ := HDU.out.shape; rw [h9]; rfl)) (by rw [HLL.out]; simp; omega) (by rw [HLL.out]; simp; omega) HIZ.out.below.size ?_
                intro v5 w5 hv5 hg5 hb5
                have HV5 := Lib.hid hv5
                have HG5 := Lib.hid hg5
                have HBL := Lib.hid (keeps_own HIZ.out.so hg5 _ _ _ _ (show 52 ≠ 54 by decide) HIZ.out.blk)
                have HB5 := Lib.hid hb5
                obtain ⟨m5, q5, r5, -, rfl, _, _⟩ := (Reads.of_owns hv5).shape
                clear hv5 hg5 hb5
                have HVV := Lib.hid (show w5.ownsRow w.heap.size 54 10 (.slice q5 m5 r5) (L ++ [(sc, du)]).length ((L ++ [(sc, du)]).flatMap encSec) by rw [List.length_append, List.flatMap_append]; exact HV5.out)
                have hgt : w.heap.size ≤ w1.heap.size := HI2.out.hg
                go_wp2_with ((with_reducible show wpList _ _ _ (⟨none, .store _ (.tmp 97) _, _, _, _, _⟩ :: _) _ _); go_must (refine wpList_set HBL.out (Nat.lt_of_lt_of_eq (show 4 < 6 by decide) rfl) rfl rfl hgt (Nat.le_trans HIZ.out.below.size HB5.out.size) (fun w => by kernel_rfl) ?_; intro w6 hh6 hb6 hs6; have HI6 := Lib.hid (AllInv.sec HIZ.out rfl HVV.out HG5.out HDU.out hh6 hs6); clear hh6 hb6 hs6))
                go_round
                case rel => exact ⟨j + 1, q5, m5, r5, L ++ [(sc, du)], by go_num, by omega, HI6, (by rw [List.map_append, HL2.out, HSS.out]; rfl), HAP2, (fun i hi => by
                  rcases Nat.lt_succ_iff_lt_or_eq.1 hi with h | rfl
                  · exact HO2.out i h
                  · exact HSO.out)⟩
                case measure => simp [intOf] <;> omega
              · obtain rfl : j = k2 := by omega
                have HOK : Hid (OkP l) := HMK.out HSALL.out HHD.out HX1.out HX2.out HX3.out (fun i hi => HO2.out i (by rw [E60.out] at hi; exact hi))
                have HIR := Lib.hid HI2.out.res
                have d0 := cell_rec HI2.out.blk 0
                have d1 := cell_rec HI2.out.blk 1
                have d2 := cell_rec HI2.out.blk 2
                have d3 := cell_rec HI2.out.blk 3
                have d4 := cell_rec HI2.out.blk 4
                have d5 := cell_rec HI2.out.blk 5
                simp only [List.getElem?_toArray, List.cons_append, List.nil_append, List.getElem?_cons_zero, List.getElem?_cons_succ] at d0 d1 d2 d3 d4 d5
                go_wp2_with ((with_reducible show wpList _ _ _ (⟨none, .store _ (.tmp 4) _, _, _, _, _⟩ :: _) _ _); go_must (refine wpList_storeElfS HIR.out rfl rfl rfl rfl (by simp [Value.oneCell']) ?_; intro w7 hh7 hs7; have HH7 := Lib.hid hh7; have HS7 := Lib.hid hs7; clear hh7 hs7))
                have HB7 := Lib.hid (HI2.out.below.trans (HS7.out.below HI2.out.below.size (fun i hi => by rw [hi]; exact Nat.le_refl _)))
                refine bodyPost_ret (results_cell_row rfl _ _ w.heap.size _ _ _ _ rfl HH7.out rfl rfl (by kernel_rfl)) rfl ⟨.inl ⟨HOK.out, L, .slice sq sn sr, .slice q n r, ?_, ?_⟩, HB7.out⟩
                · rw [HPE.out, HK2.out]
                · have hs := HI2.out.so
                  have hg := HI2.out.go
                  rw [HPE.out, HK2.out]
                  exact ⟨⟨HL2.out.symm, owns_stirs hs HS7.out (own_ne hs HIR.out (by decide)), owns_stirs hg HS7.out (own_ne hg HIR.out (by decide)), fun p hp => owns_stirs (HI2.out.data p hp) HS7.out (own_ne (HI2.out.data p hp) HIR.out (by decide))⟩, HAP.out⟩
          · exact ⟨rfl, .inr ⟨(fun h => by have := HTB.out h; rw [hx3] at this; cases this), rfl⟩, HB.out⟩
          · exact ⟨rfl, .inr ⟨(fun h => by have := HT2.out h; rw [hx2] at this; cases this), rfl⟩, HB.out⟩
          · exact ⟨rfl, .inr ⟨(fun h => by have := HT1.out h; rw [hx1] at this; cases this), rfl⟩, HB.out⟩
        · have dH : decide (h40 ≤ m) = false := decide_eq_false hH
          have HBAD : Hid (¬ OkP l) := Lib.hid (fun h => hH (by have h1 := HNH.out h; have h2 := hm.out; omega))
          go_wp2_with (first
            | (go_at_call 66; (with_reducible refine (HU40.out _ HB.out).mono ?_); rintro e wu ⟨rfl, rfl⟩)
            | (go_at_call 68; refine (must_no _).mono ?_; rintro e wu ⟨rfl, rfl⟩))
          exact ⟨rfl, .inr ⟨HBAD.out, rfl⟩, HB.out⟩
  · have HBAD : Hid (¬ OkP l) := Lib.hid (fun h => hA ⟨h.n1, h.n2, h.n3⟩)
    by_cases c1 : gN l 56 2 ≤ 16
    · by_cases c2 : 2 ≤ gN l 60 2
      · have c3 : ¬ gN l 60 2 ≤ 252 := fun c3 => hA ⟨c1, c2, c3⟩
        clear hA
        have d3 : decide (((gN l 60 2 : Nat) : Int) - 2 ≤ 250) = false := by simp; omega
        have d2 : decide ((0 : Int) ≤ ((gN l 60 2 : Nat) : Int) - 2) = true := by simp; omega
        go_wp2_with (first
          | (go_at_call 66; (with_reducible refine (HU56.out _ HB3.out).mono ?_); rintro e wu ⟨rfl, rfl⟩)
          | (go_at_call 66; (with_reducible refine (HU60.out _ HB3.out).mono ?_); rintro e wu ⟨rfl, rfl⟩)
          | (go_at_call 68; refine (must_no _).mono ?_; rintro e wu ⟨rfl, rfl⟩))
        exact ⟨rfl, .inr ⟨HBAD.out, rfl⟩, HB3.out⟩
      · clear hA
        have d2 : decide ((0 : Int) ≤ ((gN l 60 2 : Nat) : Int) - 2) = false := by simp; omega
        have d2' : decide ((2 : Int) ≤ ((gN l 60 2 : Nat) : Int)) = false := by simp; omega
        go_wp2_with (first
          | (go_at_call 66; (with_reducible refine (HU56.out _ HB3.out).mono ?_); rintro e wu ⟨rfl, rfl⟩)
          | (go_at_call 66; (with_reducible refine (HU60.out _ HB3.out).mono ?_); rintro e wu ⟨rfl, rfl⟩)
          | (go_at_call 68; refine (must_no _).mono ?_; rintro e wu ⟨rfl, rfl⟩))
        exact ⟨rfl, .inr ⟨HBAD.out, rfl⟩, HB3.out⟩
    · clear hA
      go_wp2_with (first
        | (go_at_call 66; (with_reducible refine (HU56.out _ HB3.out).mono ?_); rintro e wu ⟨rfl, rfl⟩)
        | (go_at_call 66; (with_reducible refine (HU60.out _ HB3.out).mono ?_); rintro e wu ⟨rfl, rfl⟩)
        | (go_at_call 68; refine (must_no _).mono ?_; rintro e wu ⟨rfl, rfl⟩))
      exact ⟨rfl, .inr ⟨HBAD.out, rfl⟩, HB3.out⟩
end Go.Proofs.Ytimnbnomaajmmaa
namespace Go.Proofs.Ytimnbnomaajmmaa
open Go.RowKit Go.Fd
/-- One number into a block that was there. -/
theorem wpList_setI {P : Program} {ops : Array Oper} {rest : List Oper} {Q : Exit → Act → World → Prop} {a : Act} {w : World} {d : Option Tmp} {ty t tb : TypeId} {pos : String} {aft : Array Edge} {p x : Operand} {c : Array Value} {g j : Nat} {k : IntKind} {n : Int} (hg : w.heap[g]? = some (.cells c tb (0, 0))) (hj : j < c.size) (hp : a.eval p = .pointer (some ⟨g, j, none⟩)) (hx : a.eval x = .int k n) (hs : ∀ w, (sizeOf t).run P w = .ok 1 w)
    (h : ∀ w1, w1.heap[g]? = some (.cells (c.setIfInBounds j (.int k n)) tb (0, 0)) → Stirs (fun k => k = g) w w1 → wpList P ops Q rest (a.put d undef) w1) :
    wpList P ops Q (⟨d, .store t p x, ty, pos, aft, none⟩ :: rest) a w := by
  have hc : w.cell? ⟨g, j, none⟩ = some c[j] := (cell_rec hg j).trans (Array.getElem?_eq_getElem hj)
  have hfz := free_rec' hg j
  have hst : Stirs (fun k => k = g) w (w.setCell ⟨g, j, none⟩ (.int k n)) := stirs_setCell (S := fun k => k = g) _ g j _ rfl
  refine wpList_did (w' := w.setCell ⟨g, j, none⟩ (.int k n)) rfl ?_ (h _ ?_ hst)
  · simp only [execOp, hp, hx]
    simp [go_sem, hs, hc, hfz]
  · simp [World.setCell, Array.getElem?_modify, hg]
set_option maxRecDepth 100000 in
theorem catch_up (g1 g2 : Nat) (c1 : Array Value) (v2 : Value) (older : List PanicEntry) (w : World) (h1 : w.heap[g1]? = some (.cells c1 52 (0, 0))) (hc1 : c1.size = 6) (h2 : w.heap[g2]? = some (.cells #[v2] 30 (0, 0))) (hne : g1 ≠ g2) :
    CallsD Try.prog 64 #[.pointer (some ⟨g1, 0, none⟩), .pointer (some ⟨g2, 0, none⟩)] (.panicking ({ v := .iface 107 (.agg #[]), recovered := false } :: older)) w fun e u' w' =>
      e = .returned (.tuple #[]) ∧ u' = .panicking ({ v := .iface 107 (.agg #[]), recovered := true } :: older) ∧ w'.heap[g1]? = some (.cells elfZ 52 (0, 0)) ∧ w'.heap[g2]? = some (.cells #[.int .i64 4] 30 (0, 0)) ∧ Stirs (fun k => k = g1 ∨ k = g2) w w' := by
  refine callsD_of_wpS Try.func64 rfl fun c₀ cs hu => ?_
  apply wpS_seq
  apply wpS_region
  simp [wpOpsS, go_sem, recoverD, hu, Try.ntmps64, Exit.thenS]
  refine wpS_of_wp ?_
  have hta : ∀ w, (Instr.typeAssert (.iface 107 (.agg #[])) 20 107 true).run Try.prog w = .ok (.tuple #[.agg #[], .bool true]) w := fun w => by kernel_rfl
  have H1 := Lib.hid h1
  have H2 := Lib.hid h2
  have HNE := Lib.hid hne
  have HC1 := Lib.hid hc1
  clear h1 h2 hne hc1
  go_wp2_with (first
    | ((with_reducible show wpList _ _ _ (⟨none, .store _ (.tmp 0) _, _, _, _, _⟩ :: _) _ _); go_must (refine wpList_storeElfS (heap_below (below_alloc w _) H1.out) rfl rfl HC1.out rfl (by simp [Value.oneCell']) ?_; intro w1 hh1 hs1; have HH1 := Lib.hid hh1; have HS1 := Lib.hid hs1; clear hh1 hs1))
    | ((with_reducible show wpList _ _ _ (⟨none, .store _ (.tmp 1) _, _, _, _, _⟩ :: _) _ _); go_must (refine wpList_setI (HS1.out.kept (heap_below (below_alloc w _) H2.out) (fun h => HNE.out h.symm)) (show 0 < 1 by decide) rfl rfl (fun w => by kernel_rfl) ?_; intro w2 hh2 hs2; have HH2 := Lib.hid hh2; have HS2 := Lib.hid hs2; clear hh2 hs2)))
  refine ⟨rfl, _, rfl, .tuple #[], by simp [results, Try.results64, go_sem], rfl, rfl, HS2.out.kept HH1.out HNE.out, HH2.out, ?_⟩
  refine Stirs.trans (S := fun k => k = g1 ∨ k = g2) (S' := fun k => k = g1 ∨ k = g2) (Stirs.of_below (below_alloc w _)) (Stirs.trans (S := fun k => k = g1 ∨ k = g2) (S' := fun k => k = g2) (HS1.out.sub fun _ _ h => .inl h) HS2.out fun _ _ h => .inr h) fun _ _ h => h
set_option maxRecDepth 100000 in
theorem catch_no (p1 p2 : Value) (w : World) :
    CallsD Try.prog 64 #[p1, p2] .returning w fun e u' w' => e = .returned (.tuple #[]) ∧ u' = .returning ∧ w' = w := by
  refine callsD_of_wpS Try.func64 rfl fun c₀ cs hu => ?_
  apply wpS_seq
  apply wpS_region
  simp [wpOpsS, go_sem, recoverD, hu, Try.ntmps64, Exit.thenS]
  refine wpS_of_wp ?_
  go_wp2
  refine ⟨rfl, .returning, by cases c₀; simp_all, .tuple #[], by simp [results, Try.results64, go_sem], rfl, rfl, rfl⟩
end Go.Proofs.Ytimnbnomaajmmaa
