/-
  Part 5 of 8: laws and walks for elfReads_holds; no condition of its own.
-/
import Derived.Test.YtgjoimcgiofinaaEr4
import Derived.Laws.Pointers
namespace Go.Proofs.Ytgjoimcgiofinaa
open Go.RowKit Go.Fd
/-- A call that makes memory and comes to a value, if something holds, or goes up. -/
theorem _root_.Go.Fd.WpYld.callRes {P : Program} {o : Oper} {a : Act} {c : Value} {f : FuncId} {args : Array Value} {w : World} {b : Bool} {q : Prop} (hr : (execOp a.eval o).run P w = .ok (.enter f args) w) (hq : b = false → q) (h : Calls P f args w fun e w' => ResU b c e ∧ Below w.heap.size w w') : WpYld P (fun x => x = .panic upF ∧ q) o a (Yld.ok c (b = true)) w :=
  WpYld.callUp hr (h.mono fun e w' ⟨he, hb⟩ => by
    rcases he with ⟨h1, h2⟩ | ⟨h1, h2⟩
    · exact .inl ⟨c, h2, ⟨(), rfl, h1⟩, hb⟩
    · exact .inr ⟨upF, h2, ⟨rfl, hq h1⟩, hb⟩)
theorem run_oneSeg {x : Operand} {s : SegM} {a : Act} {w : World} {d : Option Tmp} {ty : TypeId} {pos : String} {aft : Array Edge} {g : Option (Nat × Bool)} (hx : a.eval x = .agg (encSeg s).toArray) :
    (execOp a.eval ⟨d, .buildSlice 59 1 #[(0, x)], ty, pos, aft, g⟩).run Try.prog w = .ok (.value (.slice (some ⟨w.heap.size, 0, none⟩) 1 1)) (w.alloc (.cells (encSeg s).toArray 99)) := by
  simp only [execOp, List.map_toArray, List.map_cons, List.map_nil, hx]
  kernel_rfl
/-- A section with its bytes, in a region. -/
def YSec (q : Prop) (s : SecM) (B : Nat) : Yld := ⟨Value, undef, fun dv => secV (s, dv), fun dv w => q ∧ OB w B dv s.data, fun _ _ _ h hb => ⟨h.1, h.2.mono hb⟩⟩
def YOneSec (s : SecM) (B : Nat) : Yld := ⟨Nat, 0, fun g => .slice (some ⟨g, 0, none⟩) 1 1, fun g w => ∃ dv, w.heap[g]? = some (.cells (encSec (s, dv)).toArray 69 (0, 0)) ∧ OB w B dv s.data, fun _ _ _ h hb => by
  obtain ⟨dv, h1, h2⟩ := h
  exact ⟨dv, heap_below hb h1, h2.mono hb⟩⟩
theorem YSec_got {q : Prop} {s : SecM} {B : Nat} {dv : Value} {w : World} (h : (YSec q s B).R (secV (s, dv)) w) : q ∧ OB w B dv s.data := by
  obtain ⟨(x : Value), e, hr⟩ := h
  have : dv = x := by
    have e1 := congrArg (fun v : Value => match v with | .agg c => c[9]? | _ => none) e
    have e2 : some dv = some x := e1
    injection e2
  subst this
  exact hr
theorem YOneSec_got {s : SecM} {B g : Nat} {w : World} (h : (YOneSec s B).R (.slice (some ⟨g, 0, none⟩) 1 1) w) : ∃ dv, w.heap[g]? = some (.cells (encSec (s, dv)).toArray 69 (0, 0)) ∧ OB w B dv s.data := by
  obtain ⟨x, e, hr⟩ := h
  have : g = x := by
    have e' : (Value.slice (some ⟨g, 0, none⟩) 1 1) = .slice (some ⟨x, 0, none⟩) 1 1 := e
    injection e' with e'; injection e' with e'; injection e'
  subst this
  exact hr
set_option maxRecDepth 100000 in
theorem run_oneSec {x : Operand} {s : SecM} {p : Option Addr} {m c : Nat} {a : Act} {w : World} {d : Option Tmp} {ty : TypeId} {pos : String} {aft : Array Edge} {g : Option (Nat × Bool)} (hx : a.eval x = secV (s, .slice p m c)) :
    (execOp a.eval ⟨d, .buildSlice 58 1 #[(0, x)], ty, pos, aft, g⟩).run Try.prog w = .ok (.value (.slice (some ⟨w.heap.size, 0, none⟩) 1 1)) (w.alloc (.cells (encSec (s, .slice p m c)).toArray 69)) := by
  simp only [execOp, List.map_toArray, List.map_cons, List.map_nil, hx]
  kernel_rfl
set_option maxRecDepth 100000 in
theorem wp_oneSec {x : Operand} {s : SecM} {dv : Value} {B : Nat} {Up : Exit → Prop} {a : Act} {w : World} {d : Option Tmp} {ty : TypeId} {pos : String} {aft : Array Edge} {g : Option (Nat × Bool)} (hx : a.eval x = secV (s, dv)) (ho : OB w B dv s.data) :
    WpYld Try.prog Up ⟨d, .buildSlice 58 1 #[(0, x)], ty, pos, aft, g⟩ a (YOneSec s B) w := by
  obtain ⟨m, p, c, -, rfl, _, _⟩ := ho.shape
  exact WpYld.val (run_oneSec hx) ⟨w.heap.size, rfl, _, heap_alloc_last w _, ho.mono (below_alloc w _)⟩ (below_alloc w _)
attribute [local irreducible] gN okB inB atR segOk secOk segP secP tabP
set_option maxHeartbeats 8000000 in
set_option maxRecDepth 100000 in
theorem all_any (l : List UInt8) (target : Int) (v : Value) (w : World) (hl : l.length ≤ 4194304) (h64 : 64 ≤ l.length) (hv : Bs w v l) :
    Calls Try.prog 91 #[v, .int .i64 target] w fun r w' => AllRes l target w.heap.size r w' ∧ Below w.heap.size w w' := by
  have HV := Lib.hid hv
  obtain ⟨m, ad, cap, hm, rfl, _, _⟩ := hv.shape
  have HL9 := Lib.hid (show l.length ≤ 1000000000 by omega)
  have hm9 : m ≤ 4194304 := by have := hm.out; omega
  have HU16 : Hid (∀ wx, Below w.heap.size w wx → Calls Try.prog 90 #[.slice ad m cap, .int .i64 16, .int .i64 2] wx fun r w' => r = .returned (.int .u64 (gN l 16 2 : Nat)) ∧ wx = w') := Lib.hid (fun wx hwx => (ruN l 16 2 _ wx HL9.out (HV.out.mono hwx)).mono fun r w' ⟨hw, h⟩ => by
    rw [okB_iff sz2, show decide (16 + 2 ≤ l.length) = true by simp; omega] at h
    rcases h with ⟨_, h⟩ | ⟨h, _⟩
    · exact ⟨h, hw⟩
    · cases h)
  have HU48 : Hid (∀ wx, Below w.heap.size w wx → Calls Try.prog 90 #[.slice ad m cap, .int .i64 48, .int .i64 4] wx fun r w' => r = .returned (.int .u64 (gN l 48 4 : Nat)) ∧ wx = w') := Lib.hid (fun wx hwx => (ruN l 48 4 _ wx HL9.out (HV.out.mono hwx)).mono fun r w' ⟨hw, h⟩ => by
    rw [okB_iff sz4, show decide (48 + 4 ≤ l.length) = true by simp; omega] at h
    rcases h with ⟨_, h⟩ | ⟨h, _⟩
    · exact ⟨h, hw⟩
    · cases h)
  have HU24 : Hid (∀ wx, Below w.heap.size w wx → Calls Try.prog 90 #[.slice ad m cap, .int .i64 24, .int .i64 8] wx fun r w' => r = .returned (.int .u64 (gN l 24 8 : Nat)) ∧ wx = w') := Lib.hid (fun wx hwx => (ruN l 24 8 _ wx HL9.out (HV.out.mono hwx)).mono fun r w' ⟨hw, h⟩ => by
    rw [okB_iff sz8, show decide (24 + 8 ≤ l.length) = true by simp; omega] at h
    rcases h with ⟨_, h⟩ | ⟨h, _⟩
    · exact ⟨h, hw⟩
    · cases h)
  have HU56 : Hid (∀ wx, Below w.heap.size w wx → Calls Try.prog 90 #[.slice ad m cap, .int .i64 56, .int .i64 2] wx fun r w' => r = .returned (.int .u64 (gN l 56 2 : Nat)) ∧ wx = w') := Lib.hid (fun wx hwx => (ruN l 56 2 _ wx HL9.out (HV.out.mono hwx)).mono fun r w' ⟨hw, h⟩ => by
    rw [okB_iff sz2, show decide (56 + 2 ≤ l.length) = true by simp; omega] at h
    rcases h with ⟨_, h⟩ | ⟨h, _⟩
    · exact ⟨h, hw⟩
    · cases h)
  have HU60 : Hid (∀ wx, Below w.heap.size w wx → Calls Try.prog 90 #[.slice ad m cap, .int .i64 60, .int .i64 2] wx fun r w' => r = .returned (.int .u64 (gN l 60 2 : Nat)) ∧ wx = w') := Lib.hid (fun wx hwx => (ruN l 60 2 _ wx HL9.out (HV.out.mono hwx)).mono fun r w' ⟨hw, h⟩ => by
    rw [okB_iff sz2, show decide (60 + 2 ≤ l.length) = true by simp; omega] at h
    rcases h with ⟨_, h⟩ | ⟨h, _⟩
    · exact ⟨h, hw⟩
    · cases h)
  have HU40 : Hid (∀ wx, Below w.heap.size w wx → Calls Try.prog 90 #[.slice ad m cap, .int .i64 40, .int .i64 8] wx fun r w' => r = .returned (.int .u64 (gN l 40 8 : Nat)) ∧ wx = w') := Lib.hid (fun wx hwx => (ruN l 40 8 _ wx HL9.out (HV.out.mono hwx)).mono fun r w' ⟨hw, h⟩ => by
    rw [okB_iff sz8, show decide (40 + 8 ≤ l.length) = true by simp; omega] at h
    rcases h with ⟨_, h⟩ | ⟨h, _⟩
    · exact ⟨h, hw⟩
    · cases h)
  have HN1 := Lib.hid (fun h : OkP l => h.n1)
  have HN2 := Lib.hid (fun h : OkP l => h.n2)
  have HN3 := Lib.hid (fun h : OkP l => h.n3)
  have HNS := Lib.hid (fun h : OkP l => h.segs)
  have HNH := Lib.hid (fun h : OkP l => h.heads)
  have HT1 := Lib.hid (fun h : OkP l => h.t1)
  have HT2 := Lib.hid (fun h : OkP l => h.t2)
  have HTB := Lib.hid (fun h : OkP l => h.tab)
  have HNC := Lib.hid (fun h : OkP l => h.secs)
  have b16 := gN2 l 16
  have b48 := gN4 l 48
  have HB24 := Lib.hid (gN8 l 24)
  have b56 := gN2 l 56
  have b60 := gN2 l 60
  have HB40 := Lib.hid (gN8 l 40)
  have HPE : Hid (parseE l target = ⟨(gN l 16 2 : Nat), target, gN l 48 4, gN l 24 8, secsP l (gN l 60 2 - 2), segsP l (gN l 56 2)⟩) := rfl
  have HE0 := Lib.hid (fun (w1 : World) (g r : Nat) (hb : w1.heap[g]? = some (.cells elfZ 61 (0, 0))) (hr : w1.heap[r]? = some (.cells elfZ 61 (0, 0))) => (⟨hb, hr⟩ : w1.heap[g]? = some (.cells elfZ 61 (0, 0)) ∧ w1.heap[r]? = some (.cells elfZ 61 (0, 0))))
  clear HE0
  clear hv
  go_enter Try.func91, Try.ntmps91
  go_wp2_with (first
    | ((with_reducible show wpList _ _ _ (⟨some 4, .alloc _, _, _, _, _⟩ :: _) _ _); go_must (refine wpList_allocElf ?_; intro w1 hx1 hb1 hs1; have HX1 := Lib.hid hx1; have HB1 := Lib.hid hb1; clear hx1 hb1))
    | (go_at_call 90; (with_reducible refine (HU16.out _ HB1.out).mono ?_); rintro e wu ⟨rfl, rfl⟩)
    | (go_at_call 90; (with_reducible refine (HU48.out _ HB1.out).mono ?_); rintro e wu ⟨rfl, rfl⟩)
    | (go_at_call 90; (with_reducible refine (HU24.out _ HB1.out).mono ?_); rintro e wu ⟨rfl, rfl⟩)
    | ((with_reducible show wpList _ _ _ (⟨some 5, .alloc _, _, _, _, _⟩ :: _) _ _); go_must (refine wpList_allocElf ?_; intro w2 hx2 hb2 hs2; have HX2 := Lib.hid hx2; have HX12 := Lib.hid (heap_below hb2 HX1.out); have HB2 := Lib.hid (HB1.out.trans (hb2.mono HB1.out.size)); clear hx2 hb2))
    | ((with_reducible show wpList _ _ _ (⟨none, .store _ (.tmp 5) _, _, _, _, _⟩ :: _) _ _); go_must (refine wpList_storeElfS HX2.out rfl rfl rfl rfl (by simp [Value.oneCell']) ?_; intro w3 hh3 hs3; have HH3 := Lib.hid hh3; have HX13 := Lib.hid (hs3.kept HX12.out (show ¬ w.heap.size = w1.heap.size by omega)); have HB3 := Lib.hid (HB2.out.trans (hs3.below HB2.out.size (fun j hj => by rw [hj]; exact HB1.out.size))); clear hh3 hs3)))
  by_cases hA : gN l 56 2 ≤ 16 ∧ 2 ≤ gN l 60 2 ∧ gN l 60 2 ≤ 252
  · obtain ⟨hA1, hA2, hA3⟩ := hA
    obtain ⟨k2, hk2⟩ : ∃ k2, gN l 60 2 = k2 + 2 := ⟨gN l 60 2 - 2, by omega⟩
    have hk9 : k2 ≤ 250 := by omega
    have e60 : ((gN l 60 2 : Nat) : Int) - 2 = (k2 : Int) := by rw [hk2]; simp
    have HK2 := Lib.hid hk2
    have d250 : decide ((k2 : Int) ≤ 250) = true := by simp; omega
    have d16 : decide (((gN l 56 2 : Nat) : Int) ≤ 16) = true := by simp; omega
    have HMK := Lib.hid (fun (h1 : ∀ i, i < nsegsP l → segOk l (64 + 56 * i) = true) (h2 : gN l 40 8 ≤ l.length) (h3 : okB l (lastP l + 24) 8 = true) (h4 : okB l (lastP l + 32) 8 = true) (h5 : inB l (gN l (lastP l + 24) 8) (gN l (lastP l + 32) 8) = true) (h6 : ∀ i, i < nsecsP l → secOk l (tabP l) (gN l 40 8 + 64 * (i + 1)) = true) => (⟨hA1, hA2, hA3, h1, h2, h3, h4, h5, h6⟩ : OkP l))
    clear hk2 hA2 hA3
    go_wp2_with (first
      | (go_at_call 90; (with_reducible refine (HU56.out _ HB3.out).mono ?_); rintro e wu ⟨rfl, rfl⟩)
      | (go_at_call 90; (with_reducible refine (HU60.out _ HB3.out).mono ?_); rintro e wu ⟨rfl, rfl⟩)
      | (go_at_call 92; refine (must_ok _).mono ?_; rintro e wu ⟨rfl, rfl⟩))
    have HI0 : Hid (AllInv w w3 w1.heap.size w.heap.size [.int .i64 (gN l 16 2 : Nat), .int .i64 target, .int .u32 (gN l 48 4 : Nat), .int .u64 (gN l 24 8 : Nat)] (.slice none 0 0) (.slice none 0 0) [] []) := ⟨HH3.out, HX13.out, OwR.nil _ _ _ _ _, OwR.nil _ _ _ _ _, (fun p hp => by cases hp), HB3.out, HB1.out.size, Nat.le_refl _, by omega⟩
    clear HX1 HX2 HX12 HX13 HH3 HB1 HB2 HB3 hs1 hs2 e60 d250 d16
    have E56 : Hid (nsegsP l = gN l 56 2) := rfl
    have E60 : Hid (nsecsP l = k2) := Lib.hid (by show gN l 60 2 - 2 = k2; rw [HK2.out]; rfl)
    generalize gN l 56 2 = ns at *
    go_loopw [42] (fun i wr => ∃ (k : Nat) (q : Option Addr) (n r : Nat), i = .int .i64 k ∧ k ≤ ns ∧ Hid (AllInv w wr w1.heap.size w.heap.size [.int .i64 (gN l 16 2 : Nat), .int .i64 target, .int .u32 (gN l 48 4 : Nat), .int .u64 (gN l 24 8 : Nat)] (.slice none 0 0) (.slice q n r) [] (segsP l k)) ∧ Hid (∀ i, i < k → segOk l (64 + 56 * i) = true)) (fun i _ => ns - (intOf i).toNat)
    case atStart => exact ⟨0, none, 0, 0, rfl, Nat.zero_le _, HI0, fun i hi => absurd hi (Nat.not_lt_zero i)⟩
    case round =>
      obtain ⟨k, q, n, r, rfl, hk, HI, HO⟩ := hrel
      have HB := Lib.hid HI.out.below
      by_cases hlt : k < ns
      · have e5 : wr.cell? ⟨w1.heap.size, 5, none⟩ = some (.slice q n r) := cell_rec HI.out.blk 5
        have hAB := fun (x : Above wr) (b k : Nat) (h : b < wr.heap.size) => Above.cell x b k h
        have l1 := block_lt e5
        have HSG : Hid (∀ wx (_ : Below wr.heap.size wr wx), Calls Try.prog 113 #[.slice ad m cap, .int .i64 (64 + 56 * (k : Int))] wx fun r w' => ResU (segOk l (64 + 56 * k)) (.agg (encSeg (segP l (64 + 56 * k))).toArray) r ∧ Below wx.heap.size wx w') := Lib.hid (fun wx hwx => seg_any l (64 + 56 * k) _ wx HL9.out (HV.out.mono (HB.out.trans (hwx.mono HB.out.size))) (by omega))
        have HBAD : Hid (segOk l (64 + 56 * k) = false → ¬ OkP l) := Lib.hid (fun h ho => by have := HNS.out ho k (by rw [E56.out]; exact hlt); rw [h] at this; cases this)
        have hw1 : IntKind.i64.wrap (56 * (k : Int)) = 56 * (k : Int) := by
          have := i64_small (n := 56 * k) (by omega)
          simpa using this
        have HSS := Lib.hid (segsP_succ l k)
        have HSL := Lib.hid (segsP_len l k)
        generalize segP l (64 + 56 * k) = sg at *
        go_wp2
        refine wp_region_walkU (Up := fun x => x = .panic upF ∧ ¬ OkP l) 8 [(6, Yld.ok (.agg (encSeg sg).toArray) (segOk l (64 + 56 * k) = true)), (7, Yld.one wr.heap.size 99 (encSeg sg).toArray)] (by kernel_rfl) (by kernel_rfl) ?_ ?_
        · rintro x a' w' ⟨⟨rfl, hso⟩, hd, hb⟩
          exact ⟨hd, .inr ⟨hso, rfl⟩, HB.out.trans (hb.mono HB.out.size)⟩
        simp only [List.take_succ_cons, List.take_zero, List.drop_succ_cons, List.drop_zero]
        repeat (refine walk_quiet rfl rfl rfl ?_; intro K hK; go_big_quiet_op; go_big_quiet_on)
        refine walk_ok (c := .agg (encSeg sg).toArray) (p := segOk l (64 + 56 * k) = true) rfl rfl (fun wx hwx _ => WpYld.callRes (run_callL (vals := [_, _]) Try.func113 (by kernel_rfl) rfl rfl) HBAD.out (HSG.out wx hwx)) ?_
        go_frame
        refine walk_one rfl rfl (fun wx hwx _ => WpYld.val (run_oneSeg rfl) (Yld.one_mk _ hwx).1 (Yld.one_mk _ hwx).2) (fun gb => ?_)
        go_frame
        refine walk_nil ?_
        intro wz hbz hF
        have HSO : Hid (segOk l (64 + 56 * k) = true) := Lib.hid (Yld.ok_got (hF 6 _ 51 _ rfl rfl rfl rfl))
        have HGB := Lib.hid (Yld.one_got (hF 7 _ 52 _ rfl rfl rfl rfl)).2
        have HIZ := Lib.hid (HI.out.mono hbz)
        clear hF hAB e5 hbz hw1
        refine wpList_cat TSeg HIZ.out.go (rd_one rfl HGB.out rfl) rfl rfl (oneSeg [sg]) (by rw [HSL.out]; simp; omega) (by rw [HSL.out]; simp; omega) HIZ.out.below.size ?_
        intro v5 w5 hv5 hg5 hb5
        have HV5 := Lib.hid hv5
        have HG5 := Lib.hid hg5
        have HBL := Lib.hid (keeps_own HIZ.out.go hg5 _ _ _ _ (show 61 ≠ 99 by decide) HIZ.out.blk)
        have HB5 := Lib.hid hb5
        obtain ⟨m5, q5, r5, -, rfl, _, _⟩ := (Reads.of_owns hv5).shape
        clear hv5 hg5 hb5
        have HVV := Lib.hid (show w5.ownsRow w.heap.size 99 7 (.slice q5 m5 r5) (segsP l k ++ [sg]).length ((segsP l k ++ [sg]).flatMap encSeg) by rw [List.length_append, List.flatMap_append]; exact HV5.out)
        have hgt : w.heap.size ≤ w1.heap.size := HI.out.hg
        go_wp2_with ((with_reducible show wpList _ _ _ (⟨none, .store _ (.tmp 54) _, _, _, _, _⟩ :: _) _ _); go_must (refine wpList_set HBL.out (Nat.lt_of_lt_of_eq (show 5 < 6 by decide) rfl) rfl rfl hgt (Nat.le_trans HIZ.out.below.size HB5.out.size) (fun w => by kernel_rfl) ?_; intro w6 hh6 hb6 hs6; have HI6 := Lib.hid (AllInv.seg HIZ.out rfl HVV.out HG5.out hh6 hs6); clear hh6 hb6 hs6))
        go_round
        case rel => exact ⟨k + 1, q5, m5, r5, by go_num, by omega, (by rw [HSS.out]; exact HI6), (fun i hi => by
          rcases Nat.lt_succ_iff_lt_or_eq.1 hi with h | rfl
          · exact HO.out i h
          · exact HSO.out)⟩
        case measure => simp [intOf] <;> omega
      · obtain rfl : k = ns := by omega
        have HSALL : Hid (∀ i, i < nsegsP l → segOk l (64 + 56 * i) = true) := Lib.hid (fun i hi => HO.out i (by rw [E56.out] at hi; exact hi))
        have ELAST : Hid (lastP l = gN l 40 8 + 64 * (k2 + 1)) := Lib.hid (by unfold lastP; rw [E60.out])
        have HTABL : Hid ((l.drop (gN l (lastP l + 24) 8)).take (gN l (lastP l + 32) 8) = tabP l) := Lib.hid (by unfold tabP; rfl)
        have HSP := Lib.hid (secsP_succ l)
        have HC1 := Lib.hid (gN8 l (lastP l + 24))
        have HC2 := Lib.hid (gN8 l (lastP l + 32))
        have HTL := Lib.hid (show (tabP l).length ≤ 1000000000 by rw [← HTABL.out, List.length_take, List.length_drop]; have := HL9.out; omega)
        generalize gN l 40 8 = h40 at *
        by_cases hH : h40 ≤ m
        · have dH : decide (h40 ≤ m) = true := decide_eq_true hH
          have HHD : Hid (h40 ≤ l.length) := Lib.hid (by have := hm.out; omega)
          have hh9 : h40 ≤ 4194304 := by omega
          have HUA : Hid (∀ wx, Below w.heap.size w wx → Calls Try.prog 90 #[.slice ad m cap, .int .i64 ((h40 : Int) + 64 * ((k2 : Int) + 1) + 24), .int .i64 8] wx fun r w' => wx = w' ∧ ResU (okB l (lastP l + 24) 8) (.int .u64 (gN l (lastP l + 24) 8 : Nat)) r) := Lib.hid (fun wx hwx => by
            have h1 := ruN l (lastP l + 24) 8 _ wx HL9.out (HV.out.mono hwx)
            rw [show ((lastP l + 24 : Nat) : Int) = (h40 : Int) + 64 * ((k2 : Int) + 1) + 24 by rw [ELAST.out]; push_cast; rfl] at h1
            exact h1)
          have HUB : Hid (∀ wx, Below w.heap.size w wx → Calls Try.prog 90 #[.slice ad m cap, .int .i64 ((h40 : Int) + 64 * ((k2 : Int) + 1) + 32), .int .i64 8] wx fun r w' => wx = w' ∧ ResU (okB l (lastP l + 32) 8) (.int .u64 (gN l (lastP l + 32) 8 : Nat)) r) := Lib.hid (fun wx hwx => by
            have h1 := ruN l (lastP l + 32) 8 _ wx HL9.out (HV.out.mono hwx)
            rw [show ((lastP l + 32 : Nat) : Int) = (h40 : Int) + 64 * ((k2 : Int) + 1) + 32 by rw [ELAST.out]; push_cast; rfl] at h1
            exact h1)
          generalize gN l (lastP l + 24) 8 = c24 at *
          generalize gN l (lastP l + 32) 8 = c32 at *
          go_wp2_with (first
            | (go_at_call 90; (with_reducible refine (HU40.out _ HB.out).mono ?_); rintro e wu ⟨rfl, rfl⟩)
            | (go_at_call 92; refine (must_ok _).mono ?_; rintro e wu ⟨rfl, rfl⟩)
            | (go_at_call 90; (with_reducible refine (HUA.out _ HB.out).mono ?_); rintro e wu ⟨rfl, ⟨hx1, rfl⟩ | ⟨hx1, rfl⟩⟩)
            | (go_at_call 90; (with_reducible refine (HUB.out _ HB.out).mono ?_); rintro e wu ⟨rfl, ⟨hx2, rfl⟩ | ⟨hx2, rfl⟩⟩)
            | (go_at_call 114; refine (cut_any l c24 c32 _ _ HL9.out (HV.out.mono HB.out) HC1.out HC2.out).mono ?_; rintro e wu ⟨rfl, ⟨hx3, tv, rfl, htv⟩ | ⟨hx3, rfl⟩⟩))
          · rw [HTABL.out] at htv
            have HTV := Lib.hid htv
            obtain ⟨tm, tad, tcap, -, rfl, _, _⟩ := (htv wr (HV.out.mono HB.out)).shape
            have HX1 := Lib.hid hx1
            have HX2 := Lib.hid hx2
            have HX3 := Lib.hid hx3
            clear hx1 hx2 hx3 htv dH hH
            obtain ⟨wo, rfl⟩ : ∃ wo : World, wo = wr := ⟨_, rfl⟩
            go_loopw [82] (fun i wr => ∃ (j : Nat) (sq : Option Addr) (sn sr : Nat) (L : List (SecM × Value)), i = .int .i64 j ∧ j ≤ k2 ∧ Hid (AllInv w wr w1.heap.size w.heap.size [.int .i64 (gN l 16 2 : Nat), .int .i64 target, .int .u32 (gN l 48 4 : Nat), .int .u64 (gN l 24 8 : Nat)] (.slice sq sn sr) (.slice q n r) L (segsP l k)) ∧ Hid (L.map (·.1) = secsP l j) ∧ Hid (ApartS L) ∧ Hid (∀ i, i < j → secOk l (tabP l) (h40 + 64 * (i + 1)) = true)) (fun i _ => k2 - (intOf i).toNat)
            case atStart => exact ⟨0, none, 0, 0, [], rfl, Nat.zero_le _, HI, rfl, List.Pairwise.nil, (fun i hi => absurd hi (Nat.not_lt_zero i))⟩
            case round =>
              obtain ⟨j, sq, sn, sr, L, rfl, hj, HI2, HL2, HAP, HO2⟩ := hrel
              have HB3 := Lib.hid HI2.out.below
              by_cases hlt2 : j < k2
              · have e4 : wr.cell? ⟨w1.heap.size, 4, none⟩ = some (.slice sq sn sr) := cell_rec HI2.out.blk 4
                have hAB := fun (x : Above wr) (b k : Nat) (h : b < wr.heap.size) => Above.cell x b k h
                have l1 := block_lt e4
                have HSC : Hid (∀ wy (_ : Below wr.heap.size wr wy), Calls Try.prog 115 #[.slice ad m cap, .int .i64 ((h40 : Int) + 64 * ((j : Int) + 1)), .slice tad tm tcap] wy fun r w' => SecRes l (tabP l) (h40 + 64 * (j + 1)) wy.heap.size r w' ∧ Below wy.heap.size wy w') := Lib.hid (fun wy hwy => sec_any l (tabP l) (h40 + 64 * (j + 1)) _ _ wy HL9.out (HV.out.mono (HB3.out.trans (hwy.mono HB3.out.size))) HTL.out (HTV.out wy (HV.out.mono (HB3.out.trans (hwy.mono HB3.out.size)))) (by omega))
                have HBAD : Hid (secOk l (tabP l) (h40 + 64 * (j + 1)) = false → ¬ OkP l) := Lib.hid (fun h ho => by have := HNC.out ho j (by rw [E60.out]; exact hlt2); rw [h] at this; cases this)
                have HCY : Hid (∀ wy (_ : Below wr.heap.size wr wy), Calls Try.prog 115 #[.slice ad m cap, .int .i64 ((h40 : Int) + 64 * ((j : Int) + 1)), .slice tad tm tcap] wy fun r w' => (∃ v, r = .returned v ∧ (YSec (secOk l (tabP l) (h40 + 64 * (j + 1)) = true) (secP l (tabP l) (h40 + 64 * (j + 1))) wr.heap.size).R v w' ∧ Below wy.heap.size wy w') ∨ (∃ c, r = .panicked c ∧ (Exit.panic c = .panic upF ∧ ¬ OkP l) ∧ Below wy.heap.size wy w')) := Lib.hid (fun wy hwy => (HSC.out wy hwy).mono fun r w' ⟨h, hb⟩ => by
                  rcases h with ⟨h1, dv, h2, h3⟩ | ⟨h1, h2⟩
                  · exact .inl ⟨_, h2, ⟨dv, rfl, h1, h3.base hwy.size⟩, hb⟩
                  · exact .inr ⟨_, h2, ⟨rfl, HBAD.out h1⟩, hb⟩)
                have hw1 : IntKind.i64.wrap ((j : Int) + 1) = (j : Int) + 1 := by
                  have := i64_small (n := j + 1) (by omega)
                  simpa using this
                have hw2 : IntKind.i64.wrap (64 * ((j : Int) + 1)) = 64 * ((j : Int) + 1) := by
                  have := i64_small (n := 64 * (j + 1)) (by omega)
                  simpa using this
                have hw3 : IntKind.i64.wrap ((h40 : Int) + 64 * ((j : Int) + 1)) = (h40 : Int) + 64 * ((j : Int) + 1) := by
                  have := i64_small (n := h40 + 64 * (j + 1)) (by omega)
                  simpa using this
                have HSS := Lib.hid (HSP.out j)
                have HLL := Lib.hid (show L.length = j by have := congrArg List.length HL2.out; rw [secsP_len, List.length_map] at this; exact this)
                have hj9 : j ≤ 250 := by omega
                generalize secP l (tabP l) (h40 + 64 * (j + 1)) = sc at *
                go_wp2
                refine wp_region_walkU (Up := fun x => x = .panic upF ∧ ¬ OkP l) 11 [(9, YSec (secOk l (tabP l) (h40 + 64 * (j + 1)) = true) sc wr.heap.size), (10, YOneSec sc wr.heap.size)] (by kernel_rfl) (by kernel_rfl) ?_ ?_
                · rintro x a' w' ⟨⟨rfl, hso⟩, hd, hb⟩
                  exact ⟨hd, .inr ⟨hso, rfl⟩, HB3.out.trans (hb.mono HB3.out.size)⟩
                simp only [List.take_succ_cons, List.take_zero, List.drop_succ_cons, List.drop_zero]
                repeat (refine walk_quiet rfl rfl rfl ?_; intro K hK; go_big_quiet_op; go_big_quiet_on)
                refine walk_made rfl rfl (fun wy hwy _ => WpYld.callUp (run_callL (vals := [_, _, _]) Try.func115 (by kernel_rfl) rfl rfl) (HCY.out wy hwy)) (fun dv => ?_)
                go_frame
                refine walk_made rfl rfl (fun wy hwy hd => wp_oneSec rfl (YSec_got (hd 9 _ 94 _ rfl rfl (by kernel_rfl) rfl rfl)).2) (fun gb => ?_)
                go_frame
                refine walk_nil ?_
                intro wz hbz hF
                have HSO : Hid (secOk l (tabP l) (h40 + 64 * (j + 1)) = true) := Lib.hid (YSec_got (hF 9 _ 94 _ rfl rfl rfl rfl)).1
                obtain ⟨du, hgb, hdu⟩ := YOneSec_got (hF 10 _ 95 _ rfl rfl rfl rfl)
                have HGB := Lib.hid hgb
                have HDU := Lib.hid (hdu.base HI2.out.below.size)
                have HAP2 := Lib.hid (show ApartS (L ++ [(sc, du)]) from HAP.out.snoc (fun q hq k hk hk2 => by have h1 := (World.ownsRow.lt (HI2.out.data q hq) k hk).2; have h2 := (World.ownsRow.lt hdu k hk2).1; omega))
                have HIZ := Lib.hid (HI2.out.mono hbz)
                clear hF hAB e4 hbz hw1 hw2 hw3 hgb hdu
                refine wpList_cat TSec HIZ.out.so (rd_one rfl HGB.out rfl) rfl rfl (oneSec (L := [(sc, du)]) (fun p hp => by rw [List.mem_singleton] at hp; rw [hp]; obtain ⟨m9, p9, c9, -, h9, _, _⟩ := HDU.out.shape; rw [h9]; rfl)) (by rw [HLL.out]; simp; omega) (by rw [HLL.out]; simp; omega) HIZ.out.below.size ?_
                intro v5 w5 hv5 hg5 hb5
                have HV5 := Lib.hid hv5
                have HG5 := Lib.hid hg5
                have HBL := Lib.hid (keeps_own HIZ.out.so hg5 _ _ _ _ (show 61 ≠ 69 by decide) HIZ.out.blk)
                have HB5 := Lib.hid hb5
                obtain ⟨m5, q5, r5, -, rfl, _, _⟩ := (Reads.of_owns hv5).shape
                clear hv5 hg5 hb5
                have HVV := Lib.hid (show w5.ownsRow w.heap.size 69 10 (.slice q5 m5 r5) (L ++ [(sc, du)]).length ((L ++ [(sc, du)]).flatMap encSec) by rw [List.length_append, List.flatMap_append]; exact HV5.out)
                have hgt : w.heap.size ≤ w1.heap.size := HI2.out.hg
                go_wp2_with ((with_reducible show wpList _ _ _ (⟨none, .store _ (.tmp 97) _, _, _, _, _⟩ :: _) _ _); go_must (refine wpList_set HBL.out (Nat.lt_of_lt_of_eq (show 4 < 6 by decide) rfl) rfl rfl hgt (Nat.le_trans HIZ.out.below.size HB5.out.size) (fun w => by kernel_rfl) ?_; intro w6 hh6 hb6 hs6; have HI6 := Lib.hid (AllInv.sec HIZ.out rfl HVV.out HG5.out HDU.out hh6 hs6); clear hh6 hb6 hs6))
                go_round
                case rel => exact ⟨j + 1, q5, m5, r5, L ++ [(sc, du)], by go_num, by omega, HI6, (by rw [List.map_append, HL2.out, HSS.out]; rfl), HAP2, (fun i hi => by
                  rcases Nat.lt_succ_iff_lt_or_eq.1 hi with h | rfl
                  · exact HO2.out i h
                  · exact HSO.out)⟩
                case measure => simp [intOf] <;> omega
              · obtain rfl : j = k2 := by omega
                have HOK : Hid (OkP l) := HMK.out HSALL.out HHD.out HX1.out HX2.out HX3.out (fun i hi => HO2.out i (by rw [E60.out] at hi; exact hi))
                have HIR := Lib.hid HI2.out.res
                have d0 := cell_rec HI2.out.blk 0
                have d1 := cell_rec HI2.out.blk 1
                have d2 := cell_rec HI2.out.blk 2
                have d3 := cell_rec HI2.out.blk 3
                have d4 := cell_rec HI2.out.blk 4
                have d5 := cell_rec HI2.out.blk 5
                simp only [List.getElem?_toArray, List.cons_append, List.nil_append, List.getElem?_cons_zero, List.getElem?_cons_succ] at d0 d1 d2 d3 d4 d5
                go_wp2_with ((with_reducible show wpList _ _ _ (⟨none, .store _ (.tmp 4) _, _, _, _, _⟩ :: _) _ _); go_must (refine wpList_storeElfS HIR.out rfl rfl rfl rfl (by simp [Value.oneCell']) ?_; intro w7 hh7 hs7; have HH7 := Lib.hid hh7; have HS7 := Lib.hid hs7; clear hh7 hs7))
                have HB7 := Lib.hid (HI2.out.below.trans (HS7.out.below HI2.out.below.size (fun i hi => by rw [hi]; exact Nat.le_refl _)))
                refine bodyPost_ret (results_cell_row rfl _ _ w.heap.size _ _ _ _ rfl HH7.out rfl rfl (by kernel_rfl)) rfl ⟨.inl ⟨HOK.out, L, .slice sq sn sr, .slice q n r, ?_, ?_⟩, HB7.out⟩
                · rw [HPE.out, HK2.out]
                · have hs := HI2.out.so
                  have hg := HI2.out.go
                  rw [HPE.out, HK2.out]
                  exact ⟨⟨HL2.out.symm, owns_stirs hs HS7.out (own_ne hs HIR.out (by decide)), owns_stirs hg HS7.out (own_ne hg HIR.out (by decide)), fun p hp => owns_stirs (HI2.out.data p hp) HS7.out (own_ne (HI2.out.data p hp) HIR.out (by decide))⟩, HAP.out⟩
          · exact ⟨rfl, .inr ⟨(fun h => by have := HTB.out h; rw [hx3] at this; cases this), rfl⟩, HB.out⟩
          · exact ⟨rfl, .inr ⟨(fun h => by have := HT2.out h; rw [hx2] at this; cases this), rfl⟩, HB.out⟩
          · exact ⟨rfl, .inr ⟨(fun h => by have := HT1.out h; rw [hx1] at this; cases this), rfl⟩, HB.out⟩
        · have dH : decide (h40 ≤ m) = false := decide_eq_false hH
          have HBAD : Hid (¬ OkP l) := Lib.hid (fun h => hH (by have h1 := HNH.out h; have h2 := hm.out; omega))
          go_wp2_with (first
            | (go_at_call 90; (with_reducible refine (HU40.out _ HB.out).mono ?_); rintro e wu ⟨rfl, rfl⟩)
            | (go_at_call 92; refine (must_no _).mono ?_; rintro e wu ⟨rfl, rfl⟩))
          exact ⟨rfl, .inr ⟨HBAD.out, rfl⟩, HB.out⟩
  · have HBAD : Hid (¬ OkP l) := Lib.hid (fun h => hA ⟨h.n1, h.n2, h.n3⟩)
    by_cases c1 : gN l 56 2 ≤ 16
    · by_cases c2 : 2 ≤ gN l 60 2
      · have c3 : ¬ gN l 60 2 ≤ 252 := fun c3 => hA ⟨c1, c2, c3⟩
        clear hA
        have d3 : decide (((gN l 60 2 : Nat) : Int) - 2 ≤ 250) = false := by simp; omega
        have d2 : decide ((0 : Int) ≤ ((gN l 60 2 : Nat) : Int) - 2) = true := by simp; omega
        go_wp2_with (first
          | (go_at_call 90; (with_reducible refine (HU56.out _ HB3.out).mono ?_); rintro e wu ⟨rfl, rfl⟩)
          | (go_at_call 90; (with_reducible refine (HU60.out _ HB3.out).mono ?_); rintro e wu ⟨rfl, rfl⟩)
          | (go_at_call 92; refine (must_no _).mono ?_; rintro e wu ⟨rfl, rfl⟩))
        exact ⟨rfl, .inr ⟨HBAD.out, rfl⟩, HB3.out⟩
      · clear hA
        have d2 : decide ((0 : Int) ≤ ((gN l 60 2 : Nat) : Int) - 2) = false := by simp; omega
        have d2' : decide ((2 : Int) ≤ ((gN l 60 2 : Nat) : Int)) = false := by simp; omega
        go_wp2_with (first
          | (go_at_call 90; (with_reducible refine (HU56.out _ HB3.out).mono ?_); rintro e wu ⟨rfl, rfl⟩)
          | (go_at_call 90; (with_reducible refine (HU60.out _ HB3.out).mono ?_); rintro e wu ⟨rfl, rfl⟩)
          | (go_at_call 92; refine (must_no _).mono ?_; rintro e wu ⟨rfl, rfl⟩))
        exact ⟨rfl, .inr ⟨HBAD.out, rfl⟩, HB3.out⟩
    · clear hA
      go_wp2_with (first
        | (go_at_call 90; (with_reducible refine (HU56.out _ HB3.out).mono ?_); rintro e wu ⟨rfl, rfl⟩)
        | (go_at_call 90; (with_reducible refine (HU60.out _ HB3.out).mono ?_); rintro e wu ⟨rfl, rfl⟩)
        | (go_at_call 92; refine (must_no _).mono ?_; rintro e wu ⟨rfl, rfl⟩))
      exact ⟨rfl, .inr ⟨HBAD.out, rfl⟩, HB3.out⟩
end Go.Proofs.Ytgjoimcgiofinaa
namespace Go.Proofs.Ytgjoimcgiofinaa
open Go.RowKit Go.Fd
/-- One number into a block that was there. -/
theorem wpList_setI {P : Program} {ops : Array Oper} {rest : List Oper} {Q : Exit → Act → World → Prop} {a : Act} {w : World} {d : Option Tmp} {ty t tb : TypeId} {pos : String} {aft : Array Edge} {p x : Operand} {c : Array Value} {g j : Nat} {k : IntKind} {n : Int} (hg : w.heap[g]? = some (.cells c tb (0, 0))) (hj : j < c.size) (hp : a.eval p = .pointer (some ⟨g, j, none⟩)) (hx : a.eval x = .int k n) (hs : ∀ w, (sizeOf t).run P w = .ok 1 w)
    (h : ∀ w1, w1.heap[g]? = some (.cells (c.setIfInBounds j (.int k n)) tb (0, 0)) → Stirs (fun k => k = g) w w1 → wpList P ops Q rest (a.put d undef) w1) :
    wpList P ops Q (⟨d, .store t p x, ty, pos, aft, none⟩ :: rest) a w := by
  have hc : w.cell? ⟨g, j, none⟩ = some c[j] := (cell_rec hg j).trans (Array.getElem?_eq_getElem hj)
  have hfz := free_rec' hg j
  have hst : Stirs (fun k => k = g) w (w.setCell ⟨g, j, none⟩ (.int k n)) := stirs_setCell (S := fun k => k = g) _ g j _ rfl
  refine wpList_did (w' := w.setCell ⟨g, j, none⟩ (.int k n)) rfl ?_ (h _ ?_ hst)
  · simp only [execOp, hp, hx]
    simp [go_sem, hs, hc, hfz]
  · simp [World.setCell, Array.getElem?_modify, hg]
set_option maxRecDepth 100000 in
theorem catch_up (g1 g2 : Nat) (c1 : Array Value) (v2 : Value) (older : List PanicEntry) (w : World) (h1 : w.heap[g1]? = some (.cells c1 61 (0, 0))) (hc1 : c1.size = 6) (h2 : w.heap[g2]? = some (.cells #[v2] 27 (0, 0))) (hne : g1 ≠ g2) :
    CallsD Try.prog 89 #[.pointer (some ⟨g1, 0, none⟩), .pointer (some ⟨g2, 0, none⟩)] (.panicking ({ v := .iface 119 (.agg #[]), recovered := false } :: older)) w fun e u' w' =>
      e = .returned (.tuple #[]) ∧ u' = .panicking ({ v := .iface 119 (.agg #[]), recovered := true } :: older) ∧ w'.heap[g1]? = some (.cells elfZ 61 (0, 0)) ∧ w'.heap[g2]? = some (.cells #[.int .i64 4] 27 (0, 0)) ∧ Stirs (fun k => k = g1 ∨ k = g2) w w' := by
  refine callsD_of_wpS Try.func89 rfl fun c₀ cs hu => ?_
  apply wpS_seq
  apply wpS_region
  simp [wpOpsS, go_sem, recoverD, hu, Try.ntmps89, Exit.thenS]
  refine wpS_of_wp ?_
  have hta : ∀ w, (Instr.typeAssert (.iface 119 (.agg #[])) 20 119 true).run Try.prog w = .ok (.tuple #[.agg #[], .bool true]) w := fun w => by kernel_rfl
  have H1 := Lib.hid h1
  have H2 := Lib.hid h2
  have HNE := Lib.hid hne
  have HC1 := Lib.hid hc1
  clear h1 h2 hne hc1
  go_wp2_with (first
    | ((with_reducible show wpList _ _ _ (⟨none, .store _ (.tmp 0) _, _, _, _, _⟩ :: _) _ _); go_must (refine wpList_storeElfS (heap_below (below_alloc w _) H1.out) rfl rfl HC1.out rfl (by simp [Value.oneCell']) ?_; intro w1 hh1 hs1; have HH1 := Lib.hid hh1; have HS1 := Lib.hid hs1; clear hh1 hs1))
    | ((with_reducible show wpList _ _ _ (⟨none, .store _ (.tmp 1) _, _, _, _, _⟩ :: _) _ _); go_must (refine wpList_setI (HS1.out.kept (heap_below (below_alloc w _) H2.out) (fun h => HNE.out h.symm)) (show 0 < 1 by decide) rfl rfl (fun w => by kernel_rfl) ?_; intro w2 hh2 hs2; have HH2 := Lib.hid hh2; have HS2 := Lib.hid hs2; clear hh2 hs2)))
  refine ⟨rfl, _, rfl, .tuple #[], by simp [results, Try.results89, go_sem], rfl, rfl, HS2.out.kept HH1.out HNE.out, HH2.out, ?_⟩
  refine Stirs.trans (S := fun k => k = g1 ∨ k = g2) (S' := fun k => k = g1 ∨ k = g2) (Stirs.of_below (below_alloc w _)) (Stirs.trans (S := fun k => k = g1 ∨ k = g2) (S' := fun k => k = g2) (HS1.out.sub fun _ _ h => .inl h) HS2.out fun _ _ h => .inr h) fun _ _ h => h
set_option maxRecDepth 100000 in
theorem catch_no (p1 p2 : Value) (w : World) :
    CallsD Try.prog 89 #[p1, p2] .returning w fun e u' w' => e = .returned (.tuple #[]) ∧ u' = .returning ∧ w' = w := by
  refine callsD_of_wpS Try.func89 rfl fun c₀ cs hu => ?_
  apply wpS_seq
  apply wpS_region
  simp [wpOpsS, go_sem, recoverD, hu, Try.ntmps89, Exit.thenS]
  refine wpS_of_wp ?_
  go_wp2
  refine ⟨rfl, .returning, by cases c₀; simp_all, .tuple #[], by simp [results, Try.results89, go_sem], rfl, rfl, rfl⟩
end Go.Proofs.Ytgjoimcgiofinaa
namespace Go.Proofs.Ytgjoimcgiofinaa
open Go.RowKit Go.Fd
def elf0 : ElfM := ⟨0, 0, 0, 0, [], []⟩
/-- The target whose number is n, up to the k-th. -/
def tgt (n : Nat) : Nat → Int
  | 0 => 0
  | k + 1 => if mach ((k : Int) + 1) = n then (k : Int) + 1 else tgt n k
def magicE : List UInt8 := [127, 69, 76, 70, 2, 1, 1]
def targetR (l : List UInt8) : Int := tgt (gN l 18 2) 3
/-- What is told of bytes by their length, their first ones and their target; 0: nothing. -/
def codeR (l : List UInt8) : Int := if 4194304 < l.length then 6 else if l.length < 64 then 2 else if l.take 7 ≠ magicE then 4 else if targetR l = 0 then 11 else 0
open Classical in
/-- What is read of bytes. -/
noncomputable def readE (l : List UInt8) : ElfM × Int :=
  if codeR l ≠ 0 then (elf0, codeR l) else if OkP l ∧ mayE (parseE l (targetR l)) = true ∧ fileB (parseE l (targetR l)) = l then (parseE l (targetR l), 0) else (elf0, 4)
theorem tgt_le (n : Nat) : ∀ k, 0 ≤ tgt n k ∧ tgt n k ≤ k := by
  intro k
  induction k with
  | zero => exact ⟨Int.le_refl _, Int.le_refl _⟩
  | succ k ih =>
    unfold tgt
    split
    · omega
    · omega
theorem atR_len (tab : List UInt8) (a : Int) : (atR tab a).1.length ≤ 128 := by
  unfold atR
  split
  · simp
  · split
    · simp
    · split
      · simp
      · next g _ hg => exact Nat.not_lt.1 hg
theorem secsP_get {l : List UInt8} {n i : Nat} {s : SecM} (h : (secsP l n)[i]? = some s) : s = secP l (tabP l) (gN l 40 8 + 64 * (i + 1)) := by
  unfold secsP at h
  rw [List.getElem?_map] at h
  rcases Nat.lt_or_ge i n with hi | hi
  · rw [List.getElem?_range hi] at h
    simpa using h.symm
  · rw [List.getElem?_eq_none (by simpa using hi)] at h
    cases h
theorem secP_name (l tab : List UInt8) (a : Nat) : (secP l tab a).name.length ≤ 9223372036854775807 := by
  unfold secP
  dsimp only
  have := atR_len tab ((gN l a 4 : Nat) : Int)
  omega
theorem secP_fits (l tab : List UInt8) (a : Nat) : (secP l tab a).fits := ⟨gN4 _ _, gN8 _ _, gN8 _ _, gN8 _ _, gN8 _ _, gN4 _ _, gN4 _ _, gN8 _ _⟩
theorem secP_data (l tab : List UInt8) (a : Nat) : (secP l tab a).data.length ≤ l.length := by
  show (if _ then _ else _ : List UInt8).length ≤ _
  split
  · simp
  · rw [List.length_take, List.length_drop]; omega
theorem dsum_le {l : List SecM} {m : Nat} (h : ∀ s ∈ l, s.data.length ≤ m) : dsum l ≤ l.length * m := by
  unfold dsum
  induction l with
  | nil => simp
  | cons x l ih =>
    rw [List.map_cons, List.sum_cons, List.length_cons, Nat.succ_mul]
    have := h x (by simp)
    have := ih fun s hs => h s (by simp [hs])
    omega
theorem parse_ok {l : List UInt8} (hl : l.length ≤ 4194304) (h : OkP l) : ElfOk (parseE l (targetR l)) := by
  have hs : ∀ s ∈ secsP l (nsecsP l), ∃ a, s = secP l (tabP l) a := fun s hs => by
    obtain ⟨i, hi⟩ := List.mem_iff_getElem?.1 hs
    exact ⟨_, secsP_get hi⟩
  have hg : ∀ s ∈ segsP l (nsegsP l), s.fits := fun s hs => by
    unfold segsP at hs
    obtain ⟨i, -, rfl⟩ := List.mem_map.1 hs
    exact segP_fits _ _
  have h1 := gN2 l 16
  have h2 := tgt_le (gN l 18 2) 3
  have hn : nsecsP l ≤ 250 := by have := h.n3; unfold nsecsP; omega
  have hm : nsegsP l ≤ 16 := h.n1
  refine ⟨⟨?_, ?_, gN4 _ _, gN8 _ _, fun s h => ?_, hg⟩, ?_, fun s h => ?_, ?_, ?_⟩
  · show -9223372036854775808 ≤ ((gN l 16 2 : Nat) : Int) ∧ ((gN l 16 2 : Nat) : Int) < 9223372036854775808
    omega
  · show -9223372036854775808 ≤ targetR l ∧ targetR l < 9223372036854775808
    unfold targetR; omega
  · obtain ⟨a, rfl⟩ := hs s h
    exact secP_fits _ _ _
  · show dsum (secsP l (nsecsP l)) ≤ _
    have := dsum_le (l := secsP l (nsecsP l)) (m := 4194304) fun s h => by
      obtain ⟨a, rfl⟩ := hs s h
      exact Nat.le_trans (secP_data _ _ _) hl
    rw [secsP_len] at this
    have := Nat.mul_le_mul_right 4194304 hn
    omega
  · obtain ⟨a, rfl⟩ := hs s h
    exact secP_name _ _ _
  · show (secsP l (nsecsP l)).length ≤ _
    rw [secsP_len]; omega
  · show (segsP l (nsegsP l)).length ≤ _
    rw [segsP_len]; omega
/-- A file comes, in memory of its own, and an error's number. -/
def RdRes (l : List UInt8) (base : Nat) (r : Ending) (w : World) : Prop := ∃ L sv gv, r = .returned (.tuple #[elfV (readE l).1 sv gv, .int .i64 (readE l).2]) ∧ ElfOwn w base (readE l).1 L sv gv
/-- The same, and no two sections' bytes lie in one block. -/
def RdResA (l : List UInt8) (base : Nat) (r : Ending) (w : World) : Prop := ∃ L sv gv, r = .returned (.tuple #[elfV (readE l).1 sv gv, .int .i64 (readE l).2]) ∧ ElfOwn w base (readE l).1 L sv gv ∧ ApartS L
theorem ElfOwn.zero (w : World) (base : Nat) : ElfOwn w base elf0 [] (.slice none 0 0) (.slice none 0 0) := ⟨rfl, OwR.nil _ _ _ _ _, OwR.nil _ _ _ _ _, fun p hp => by cases hp⟩
set_option maxRecDepth 100000 in
theorem RdRes.code {l : List UInt8} {base : Nat} {w : World} {x : Int} (h : readE l = (elf0, x)) : RdRes l base (.returned (.tuple #[.agg elfZ, .int .i64 x])) w := by
  refine ⟨[], .slice none 0 0, .slice none 0 0, ?_, ?_⟩
  · rw [h]
    rfl
  · rw [h]
    exact ElfOwn.zero _ _
set_option maxRecDepth 100000 in
theorem RdResA.code {l : List UInt8} {base : Nat} {w : World} {x : Int} (h : readE l = (elf0, x)) : RdResA l base (.returned (.tuple #[.agg elfZ, .int .i64 x])) w := by
  refine ⟨[], .slice none 0 0, .slice none 0 0, ?_, ?_⟩
  · rw [h]
    rfl
  · rw [h]
    exact ⟨ElfOwn.zero _ _, List.Pairwise.nil⟩
/-- A block of one error's number. -/
theorem wpList_allocErr {ops : Array Oper} {rest : List Oper} {Q : Exit → Act → World → Prop} {a : Act} {w : World} {d : Option Tmp} {ty : TypeId} {pos : String} {aft : Array Edge}
    (h : ∀ w1, w1.heap[w.heap.size]? = some (.cells #[.int .i64 0] 27 (0, 0)) → Below w.heap.size w w1 → w.heap.size < w1.heap.size → wpList Try.prog ops Q rest (a.put d (.pointer (some ⟨w.heap.size, 0, none⟩))) w1) :
    wpList Try.prog ops Q (⟨d, .alloc 27, ty, pos, aft, none⟩ :: rest) a w :=
  wpList_val rfl (by kernel_rfl) (h (w.alloc (.cells #[.int .i64 0] 27)) (heap_alloc_last w _) (below_alloc w _) (by rw [World.size_alloc]; omega))
theorem Bs.take {w : World} {ad : Option Addr} {m cap k : Nat} {l : List UInt8} (h : Bs w (.slice ad m cap) l) (hk : k ≤ m) : Bs w (.slice ad k cap) (l.take k) := by
  obtain ⟨h1, a, c, h2, h3, h0, h4⟩ := h
  injection h2 with e1 e2 e3
  subst e1 e3
  refine ⟨by simp, ad, cap, by rw [List.length_take, Nat.min_eq_left (by omega)], by rw [List.length_take]; omega, h0, fun j hj => ?_⟩
  have hj' : j < k ∧ j < l.length := by rw [List.length_map, List.length_take] at hj; omega
  obtain ⟨b, off, e, hc⟩ := h4 j (by simpa using hj'.2)
  refine ⟨b, off, e, hc.trans ?_⟩
  rw [List.map_take, List.getElem?_take, if_pos hj'.1]
attribute [local irreducible] gN okB inB atR segOk secOk segP secP tabP readE
set_option maxHeartbeats 8000000 in
set_option maxRecDepth 100000 in
theorem readEA_any (l : List UInt8) (v : Value) (w : World) (hl : l.length ≤ 1000000000) (hv : Bs w v l) :
    Calls Try.prog 52 #[v] w fun r w' => RdResA l w.heap.size r w' ∧ Below w.heap.size w w' := by
  have HV := Lib.hid hv
  obtain ⟨m, ad, cap, hm, rfl, hmc, _⟩ := hv.shape
  have HL9 := Lib.hid hl
  have hm9 : m ≤ 1000000000 := by have := hm.out; omega
  have HC6 := Lib.hid (show 4194304 < m → readE l = (elf0, 6) from fun h => by
    have h1 := hm.out
    unfold readE codeR
    simp only [if_pos (show 4194304 < l.length by omega)]
    rw [if_pos (by decide)])
  have HC2 := Lib.hid (show ¬ 4194304 < m → m < 64 → readE l = (elf0, 2) from fun h h' => by
    have h1 := hm.out
    unfold readE codeR
    simp only [if_neg (show ¬ 4194304 < l.length by omega), if_pos (show l.length < 64 by omega)]
    rw [if_pos (by decide)])
  have HC4 := Lib.hid (show ¬ 4194304 < m → ¬ m < 64 → ¬ l.take 7 = magicE → readE l = (elf0, 4) from fun h h' h'' => by
    have h1 := hm.out
    unfold readE codeR
    simp only [if_neg (show ¬ 4194304 < l.length by omega), if_neg (show ¬ l.length < 64 by omega)]
    rw [if_pos h'']
    rw [if_pos (by decide)])
  clear hv
  by_cases h6 : 4194304 < m
  · have HR := Lib.hid (HC6.out h6)
    have d1 : decide ((4194304 : Int) < (m : Int)) = true := by simp; omega
    clear HC6
    go_enter_defers Try.func52, Try.ntmps52
    go_wp2_with (first
      | ((with_reducible show wpList _ _ _ (⟨some 2, .alloc _, _, _, _, _⟩ :: _) _ _); go_must (refine wpList_allocElf ?_; intro w1 hx1 hb1 hs1; have HX1 := Lib.hid hx1; have HB1 := Lib.hid hb1; clear hx1 hb1))
      | ((with_reducible show wpList _ _ _ (⟨some 3, .alloc _, _, _, _, _⟩ :: _) _ _); go_must (refine wpList_allocErr ?_; intro w2 hx2 hb2 hs2; have HX2 := Lib.hid hx2; have HX12 := Lib.hid (heap_below hb2 HX1.out); have HB2 := Lib.hid (HB1.out.trans (hb2.mono HB1.out.size)); clear hx2 hb2))
      | ((with_reducible show wpList _ _ _ (⟨none, .store _ (.tmp 2) _, _, _, _, _⟩ :: _) _ _); go_must (refine wpList_storeElfS HX12.out rfl rfl rfl rfl (by simp [Value.oneCell']) ?_; intro w3 hh3 hs3; have HH3 := Lib.hid hh3; have HX23 := Lib.hid (hs3.kept HX2.out (show ¬ w1.heap.size = w.heap.size by omega)); have HB3 := Lib.hid (HB2.out.trans (hs3.below HB2.out.size (fun j hj => by rw [hj]; exact Nat.le_refl _))); clear hh3 hs3))
      | ((with_reducible show wpList _ _ _ (⟨none, .store _ (.tmp 3) _, _, _, _, _⟩ :: _) _ _); go_must (refine wpList_setI HX23.out (show 0 < 1 by decide) rfl rfl (fun w => by kernel_rfl) ?_; intro w4 hh4 hs4; have HH4 := Lib.hid hh4; have HH34 := Lib.hid (hs4.kept HH3.out (show ¬ w.heap.size = w1.heap.size by omega)); have HB4 := Lib.hid (HB3.out.trans (hs4.below HB3.out.size (fun j hj => by rw [hj]; exact HB1.out.size))); clear hh4 hs4)))
    have c0 : w4.cell? ⟨w.heap.size, 0, none⟩ = some (.int .i64 0) := cell_rec HH34.out 0
    have c1 : w4.cell? ⟨w.heap.size, 1, none⟩ = some (.int .i64 0) := cell_rec HH34.out 1
    have c2 : w4.cell? ⟨w.heap.size, 2, none⟩ = some (.int .u32 0) := cell_rec HH34.out 2
    have c3 : w4.cell? ⟨w.heap.size, 3, none⟩ = some (.int .u64 0) := cell_rec HH34.out 3
    have c4 : w4.cell? ⟨w.heap.size, 4, none⟩ = some (.slice none 0 0) := cell_rec HH34.out 4
    have c5 : w4.cell? ⟨w.heap.size, 5, none⟩ = some (.slice none 0 0) := cell_rec HH34.out 5
    have d0 : w4.cell? ⟨w1.heap.size, 0, none⟩ = some (.int .i64 6) := cell_rec HH4.out 0
    refine leaves_cons (f := 89) (args := #[.pointer (some ⟨w.heap.size, 0, none⟩), .pointer (some ⟨w1.heap.size, 0, none⟩)]) (by simp) (by simp [go_sem]) ?_
    refine (catch_no _ _ _).mono ?_
    rintro e u' w'' ⟨rfl, rfl, rfl⟩
    simp [Leaves, settle, results, Try.results52, go_sem, c0, c1, c2, c3, c4, c5, d0]
    exact ⟨RdResA.code HR.out, HB4.out⟩
  · have d1 : decide ((4194304 : Int) < (m : Int)) = false := by simp; omega
    have hm4 : m ≤ 4194304 := Nat.not_lt.1 h6
    by_cases h2 : m < 64
    · have HR := Lib.hid (HC2.out h6 h2)
      have d2 : decide ((m : Int) < 64) = true := by simp; omega
      clear HC6 HC2 HC4 h6
      go_enter_defers Try.func52, Try.ntmps52
      go_wp2_with (first
        | ((with_reducible show wpList _ _ _ (⟨some 2, .alloc _, _, _, _, _⟩ :: _) _ _); go_must (refine wpList_allocElf ?_; intro w1 hx1 hb1 hs1; have HX1 := Lib.hid hx1; have HB1 := Lib.hid hb1; clear hx1 hb1))
        | ((with_reducible show wpList _ _ _ (⟨some 3, .alloc _, _, _, _, _⟩ :: _) _ _); go_must (refine wpList_allocErr ?_; intro w2 hx2 hb2 hs2; have HX2 := Lib.hid hx2; have HX12 := Lib.hid (heap_below hb2 HX1.out); have HB2 := Lib.hid (HB1.out.trans (hb2.mono HB1.out.size)); clear hx2 hb2))
        | ((with_reducible show wpList _ _ _ (⟨none, .store _ (.tmp 2) _, _, _, _, _⟩ :: _) _ _); go_must (refine wpList_storeElfS HX12.out rfl rfl rfl rfl (by simp [Value.oneCell']) ?_; intro w3 hh3 hs3; have HH3 := Lib.hid hh3; have HX23 := Lib.hid (hs3.kept HX2.out (show ¬ w1.heap.size = w.heap.size by omega)); have HB3 := Lib.hid (HB2.out.trans (hs3.below HB2.out.size (fun j hj => by rw [hj]; exact Nat.le_refl _))); clear hh3 hs3))
        | ((with_reducible show wpList _ _ _ (⟨none, .store _ (.tmp 3) _, _, _, _, _⟩ :: _) _ _); go_must (refine wpList_setI HX23.out (show 0 < 1 by decide) rfl rfl (fun w => by kernel_rfl) ?_; intro w4 hh4 hs4; have HH4 := Lib.hid hh4; have HH34 := Lib.hid (hs4.kept HH3.out (show ¬ w.heap.size = w1.heap.size by omega)); have HB4 := Lib.hid (HB3.out.trans (hs4.below HB3.out.size (fun j hj => by rw [hj]; exact HB1.out.size))); clear hh4 hs4)))
      have c0 : w4.cell? ⟨w.heap.size, 0, none⟩ = some (.int .i64 0) := cell_rec HH34.out 0
      have c1 : w4.cell? ⟨w.heap.size, 1, none⟩ = some (.int .i64 0) := cell_rec HH34.out 1
      have c2 : w4.cell? ⟨w.heap.size, 2, none⟩ = some (.int .u32 0) := cell_rec HH34.out 2
      have c3 : w4.cell? ⟨w.heap.size, 3, none⟩ = some (.int .u64 0) := cell_rec HH34.out 3
      have c4 : w4.cell? ⟨w.heap.size, 4, none⟩ = some (.slice none 0 0) := cell_rec HH34.out 4
      have c5 : w4.cell? ⟨w.heap.size, 5, none⟩ = some (.slice none 0 0) := cell_rec HH34.out 5
      have d0 : w4.cell? ⟨w1.heap.size, 0, none⟩ = some (.int .i64 2) := cell_rec HH4.out 0
      refine leaves_cons (f := 89) (args := #[.pointer (some ⟨w.heap.size, 0, none⟩), .pointer (some ⟨w1.heap.size, 0, none⟩)]) (by simp) (by simp [go_sem]) ?_
      refine (catch_no _ _ _).mono ?_
      rintro e u' w'' ⟨rfl, rfl, rfl⟩
      simp [Leaves, settle, results, Try.results52, go_sem, c0, c1, c2, c3, c4, c5, d0]
      exact ⟨RdResA.code HR.out, HB4.out⟩
    · have d2 : decide ((m : Int) < 64) = false := by simp; omega
      have hm64 : 64 ≤ m := Nat.not_lt.1 h2
      have HS7 : Hid (∀ wx, Below w.heap.size w wx → (convert 23 9 (.slice ad 7 cap)).run Try.prog wx = .ok (.string ⟨(l.take 7).toArray⟩) wx) := Lib.hid (fun wx hwx => run_str ((HV.out.mono hwx).take (by omega)))
      by_cases h4 : l.take 7 = magicE
      · have d4 : (l.take 7 == [127, 69, 76, 70, 2, 1, 1]) = true := by rw [beq_iff_eq]; exact h4
        have d4' : (l.take 7 != [127, 69, 76, 70, 2, 1, 1]) = false := by rw [h4]; rfl
        have HCD : Hid (codeR l = if targetR l = 0 then 11 else 0) := Lib.hid (by
          have h1 := hm.out
          unfold codeR
          rw [if_neg (show ¬ 4194304 < l.length by omega), if_neg (show ¬ l.length < 64 by omega), if_neg (fun h => h h4)])
        have HU18 : Hid (∀ wx, Below w.heap.size w wx → Calls Try.prog 90 #[.slice ad m cap, .int .i64 18, .int .i64 2] wx fun r w' => r = .returned (.int .u64 (gN l 18 2 : Nat)) ∧ wx = w') := Lib.hid (fun wx hwx => (ruN l 18 2 _ wx HL9.out (HV.out.mono hwx)).mono fun r w' ⟨hw, h⟩ => by
          have h1 := hm.out
          rw [okB_iff sz2, show decide (18 + 2 ≤ l.length) = true by simp; omega] at h
          rcases h with ⟨_, h⟩ | ⟨h, _⟩
          · exact ⟨h, hw⟩
          · cases h)
        have HTG : Hid (targetR l = tgt (gN l 18 2) 3) := rfl
        have b18 := gN2 l 18
        generalize l.take 7 = t7 at *
        clear HC6 HC2 HC4 h6 h2 h4
        go_enter_defers Try.func52, Try.ntmps52
        go_wp2_with (first
          | ((with_reducible show wpList _ _ _ (⟨some 2, .alloc _, _, _, _, _⟩ :: _) _ _); go_must (refine wpList_allocElf ?_; intro w1 hx1 hb1 hs1; have HX1 := Lib.hid hx1; have HB1 := Lib.hid hb1; clear hx1 hb1))
          | ((with_reducible show wpList _ _ _ (⟨some 3, .alloc _, _, _, _, _⟩ :: _) _ _); go_must (refine wpList_allocErr ?_; intro w2 hx2 hb2 hs2; have HX2 := Lib.hid hx2; have HX12 := Lib.hid (heap_below hb2 HX1.out); have HB2 := Lib.hid (HB1.out.trans (hb2.mono HB1.out.size)); have hs7 := HS7.out _ HB2.out; clear hx2 hb2)))
        clear hs7 d4 d4' HS7
        generalize gN l 18 2 = n18 at *
        go_loop [4, 5] (fun t i => ∃ k : Nat, i = .int .i64 ((k : Int) + 1) ∧ k ≤ 3 ∧ t = .int .i64 (tgt n18 k)) (fun _ i => 4 - (intOf i).toNat)
        case atStart => exact ⟨0, rfl, by omega, rfl⟩
        case round =>
          obtain ⟨k, rfl, hk, rfl⟩ := hrel
          by_cases hk3 : k < 3
          · have HT1 : Hid (tgt n18 (k + 1) = if mach ((k : Int) + 1) = n18 then (k : Int) + 1 else tgt n18 k) := rfl
            have HM := Lib.hid (fun wx => machine_any ((k : Int) + 1) wx)
            have hm243 := mach_le ((k : Int) + 1)
            by_cases hmk : mach ((k : Int) + 1) = n18
            · have HT2 : Hid (tgt n18 (k + 1) = (k : Int) + 1) := Lib.hid (by rw [HT1.out, if_pos hmk])
              have q1 : ((mach ((k : Int) + 1) : Nat) : Int) = (n18 : Int) := by rw [hmk]
              have q2 : (((mach ((k : Int) + 1) : Nat) : Int) == (n18 : Int)) = true := by rw [q1]; simp
              have HQ := Lib.hid hmk
              clear hmk q1
              go_wp2_with (first
                | (go_at_call 83; refine (HM.out _).mono ?_; rintro e wu ⟨rfl, rfl⟩)
                | (go_at_call 90; refine (HU18.out _ HB2.out).mono ?_; rintro e wu ⟨rfl, rfl⟩))
              go_round
              case rel => exact ⟨k + 1, by go_num, by omega, by rw [HT2.out]⟩
              case measure => simp [intOf] <;> omega
            · have HT2 : Hid (tgt n18 (k + 1) = tgt n18 k) := Lib.hid (by rw [HT1.out, if_neg hmk])
              have q2 : (((mach ((k : Int) + 1) : Nat) : Int) == (n18 : Int)) = false := by rw [beq_eq_false_iff_ne]; omega
              have HQ := Lib.hid hmk
              clear hmk
              go_wp2_with (first
                | (go_at_call 83; refine (HM.out _).mono ?_; rintro e wu ⟨rfl, rfl⟩)
                | (go_at_call 90; refine (HU18.out _ HB2.out).mono ?_; rintro e wu ⟨rfl, rfl⟩))
              go_round
              case rel => exact ⟨k + 1, by go_num, by omega, by rw [HT2.out]⟩
              case measure => simp [intOf] <;> omega
          · obtain rfl : k = 3 := by omega
            have HT3 : Hid (tgt n18 3 = targetR l) := Lib.hid HTG.out.symm
            have HTB := Lib.hid (tgt_le n18 3)
            generalize tgt n18 3 = tg at *
            by_cases ht : tg = 0
            · have HR := Lib.hid (show readE l = (elf0, 11) by
                have h1 := HCD.out
                rw [← HT3.out, if_pos ht] at h1
                unfold readE
                rw [h1, if_pos (by decide)])
              have t1 : (tg == (0 : Int)) = true := by rw [ht]; rfl
              have HZ := Lib.hid ht
              clear ht
              go_wp2_with (first
                | ((with_reducible show wpList _ _ _ (⟨none, .store _ (.tmp 2) _, _, _, _, _⟩ :: _) _ _); go_must (refine wpList_storeElfS HX12.out rfl rfl rfl rfl (by simp [Value.oneCell']) ?_; intro w3 hh3 hs3; have HH3 := Lib.hid hh3; have HX23 := Lib.hid (hs3.kept HX2.out (show ¬ w1.heap.size = w.heap.size by omega)); have HB3 := Lib.hid (HB2.out.trans (hs3.below HB2.out.size (fun j hj => by rw [hj]; exact Nat.le_refl _))); clear hh3 hs3))
                | ((with_reducible show wpList _ _ _ (⟨none, .store _ (.tmp 3) _, _, _, _, _⟩ :: _) _ _); go_must (refine wpList_setI HX23.out (show 0 < 1 by decide) rfl rfl (fun w => by kernel_rfl) ?_; intro w4 hh4 hs4; have HH4 := Lib.hid hh4; have HH34 := Lib.hid (hs4.kept HH3.out (show ¬ w.heap.size = w1.heap.size by omega)); have HB4 := Lib.hid (HB3.out.trans (hs4.below HB3.out.size (fun j hj => by rw [hj]; exact HB1.out.size))); clear hh4 hs4)))
              have c0 : w4.cell? ⟨w.heap.size, 0, none⟩ = some (.int .i64 0) := cell_rec HH34.out 0
              have c1 : w4.cell? ⟨w.heap.size, 1, none⟩ = some (.int .i64 0) := cell_rec HH34.out 1
              have c2 : w4.cell? ⟨w.heap.size, 2, none⟩ = some (.int .u32 0) := cell_rec HH34.out 2
              have c3 : w4.cell? ⟨w.heap.size, 3, none⟩ = some (.int .u64 0) := cell_rec HH34.out 3
              have c4 : w4.cell? ⟨w.heap.size, 4, none⟩ = some (.slice none 0 0) := cell_rec HH34.out 4
              have c5 : w4.cell? ⟨w.heap.size, 5, none⟩ = some (.slice none 0 0) := cell_rec HH34.out 5
              have d0 : w4.cell? ⟨w1.heap.size, 0, none⟩ = some (.int .i64 11) := cell_rec HH4.out 0
              refine leaves_cons (f := 89) (args := #[.pointer (some ⟨w.heap.size, 0, none⟩), .pointer (some ⟨w1.heap.size, 0, none⟩)]) (by simp) (by simp [go_sem]) ?_
              refine (catch_no _ _ _).mono ?_
              rintro e u' w'' ⟨rfl, rfl, rfl⟩
              simp [Leaves, settle, results, Try.results52, go_sem, c0, c1, c2, c3, c4, c5, d0]
              exact ⟨RdResA.code HR.out, HB4.out⟩
            · have HCD0 := Lib.hid (show codeR l = 0 by
                have h1 := HCD.out
                rw [← HT3.out, if_neg ht] at h1
                exact h1)
              have t1 : (tg == (0 : Int)) = false := by rw [beq_eq_false_iff_ne]; exact ht
              have HZ := Lib.hid ht
              have HROK := Lib.hid (show OkP l → mayE (parseE l tg) = true → fileB (parseE l tg) = l → readE l = (parseE l tg, 0) from fun h1 h2 h3 => by
                unfold readE
                rw [HT3.out] at h2 h3 ⊢
                rw [if_neg (fun h => h HCD0.out), if_pos ⟨h1, h2, h3⟩])
              have HRNO := Lib.hid (show ¬ (OkP l ∧ mayE (parseE l tg) = true ∧ fileB (parseE l tg) = l) → readE l = (elf0, 4) from fun h1 => by
                unfold readE
                rw [HT3.out] at h1
                rw [if_neg (fun h => h HCD0.out), if_neg h1])
              have HPOK := Lib.hid (show OkP l → ElfOk (parseE l tg) from fun h => by rw [HT3.out]; exact parse_ok (by have := hm.out; omega) h)
              have HALL := Lib.hid (show Calls Try.prog 91 #[.slice ad m cap, .int .i64 tg] w2 fun r w' => (OkP l ∧ (∃ L sv gv, r = .returned (elfV (parseE l tg) sv gv) ∧ ElfOwn w' w2.heap.size (parseE l tg) L sv gv ∧ ApartS L) ∨ ¬ OkP l ∧ r = .panicked upF) ∧ Below w2.heap.size w2 w' from all_any l tg _ w2 (by have := hm.out; omega) (by have := hm.out; omega) (HV.out.mono HB2.out))
              clear ht HCD
              generalize parseE l tg = pe at *
              go_wp2_with (fail)
              refine HALL.out.mono ?_
              rintro e wA ⟨⟨hok, L, sv, gv, rfl, hown, hap⟩ | ⟨hno, rfl⟩, hbA⟩
              all_goals try have HAP := Lib.hid hap
              · have HBA := Lib.hid hbA
                have HXA2 := Lib.hid (heap_below hbA HX12.out)
                have HXA3 := Lib.hid (heap_below hbA HX2.out)
                have HBAA := Lib.hid (HB2.out.trans (hbA.mono HB2.out.size))
                obtain ⟨sn, sa, sc, -, rfl, _, _⟩ := hown.so.shape
                obtain ⟨gn, ga, gc, -, rfl, _, _⟩ := hown.go.shape
                have HOWN := Lib.hid (show ElfOwn wA w.heap.size pe L (.slice sa sn sc) (.slice ga gn gc) from ⟨hown.secs, hown.so.rebase HB2.out.size, hown.go.rebase HB2.out.size, fun p hp => (hown.data p hp).base HB2.out.size⟩)
                have HOKP := Lib.hid hok
                clear hbA hown hok
                go_wp2_with ((with_reducible show wpList _ _ _ (⟨none, .store _ (.tmp 2) (.tmp 40), _, _, _, _⟩ :: _) _ _); go_must (refine wpList_storeElfS HXA2.out rfl rfl rfl rfl (by simp [Value.oneCell']) ?_; intro w3 hh3 hs3; have HH3 := Lib.hid hh3; have HX33 := Lib.hid (hs3.kept HXA3.out (show ¬ w1.heap.size = w.heap.size by omega)); have HB3 := Lib.hid (HBAA.out.trans (hs3.below HBAA.out.size (fun j hj => by rw [hj]; exact Nat.le_refl _))); have HS3 := Lib.hid hs3; obtain ⟨c0, c1, c2, c3, c4, c5⟩ := elf_box HH3.out; clear hh3 hs3))
                have HOW3 := Lib.hid (show ElfOwn w3 w.heap.size pe L (.slice sa sn sc) (.slice ga gn gc) from ⟨HOWN.out.secs, owns_stirs HOWN.out.so HS3.out (own_ne HOWN.out.so HXA2.out (by decide)), owns_stirs HOWN.out.go HS3.out (own_ne HOWN.out.go HXA2.out (by decide)), fun p hp => owns_stirs (HOWN.out.data p hp) HS3.out (own_ne (HOWN.out.data p hp) HXA2.out (by decide))⟩)
                have HW := writeE_any pe L _ _ w3 HOW3.out.at (HPOK.out HOKP.out)
                clear HX12 HX2 HALL
                cases hmay : mayE pe with
                | false =>
                  rw [fileW_no hmay] at HW
                  have HMAY := Lib.hid hmay
                  clear hmay
                  refine HW.mono ?_
                  rintro e wB ⟨v9, rfl, hov, hbB⟩
                  obtain ⟨vn, va, vc, -, rfl, _, _⟩ := hov.shape
                  have HBB := Lib.hid hbB
                  clear hov hbB
                  go_wp2_with (go_at_call 92; refine (must_no _).mono ?_; rintro e wu ⟨rfl, rfl⟩)
                  have HPX := Lib.hid (heap_below HBB.out HH3.out)
                  have HPY := Lib.hid (heap_below HBB.out HX33.out)
                  have HBL := Lib.hid (HB3.out.trans (HBB.out.mono HB3.out.size))
                  have HRR := Lib.hid (HRNO.out (fun h => by have := HMAY.out; rw [h.2.1] at this; cases this))
                  clear c0 c1 c2 c3 c4 c5
                  refine leaves_cons (f := 89) (args := #[.pointer (some ⟨w.heap.size, 0, none⟩), .pointer (some ⟨w1.heap.size, 0, none⟩)]) (by simp) (by simp [go_sem]) ?_
                  refine (catch_up w.heap.size w1.heap.size _ _ [] _ HPX.out rfl HPY.out (by omega)).mono ?_
                  rintro e u' wq ⟨rfl, rfl, hq1, hq2, hq3⟩
                  have c0 : wq.cell? ⟨w.heap.size, 0, none⟩ = some (.int .i64 0) := cell_rec hq1 0
                  have c1 : wq.cell? ⟨w.heap.size, 1, none⟩ = some (.int .i64 0) := cell_rec hq1 1
                  have c2 : wq.cell? ⟨w.heap.size, 2, none⟩ = some (.int .u32 0) := cell_rec hq1 2
                  have c3 : wq.cell? ⟨w.heap.size, 3, none⟩ = some (.int .u64 0) := cell_rec hq1 3
                  have c4 : wq.cell? ⟨w.heap.size, 4, none⟩ = some (.slice none 0 0) := cell_rec hq1 4
                  have c5 : wq.cell? ⟨w.heap.size, 5, none⟩ = some (.slice none 0 0) := cell_rec hq1 5
                  have d0 : wq.cell? ⟨w1.heap.size, 0, none⟩ = some (.int .i64 4) := cell_rec hq2 0
                  have HBQ := Lib.hid (HBL.out.trans (hq3.below HBL.out.size (fun j hj => by rcases hj with rfl | rfl <;> omega)))
                  clear hq1 hq2 hq3
                  simp [Leaves, settle, results, Try.results52, go_sem, c0, c1, c2, c3, c4, c5, d0]
                  exact ⟨RdResA.code HRR.out, HBQ.out⟩
                | true =>
                  rw [fileW_ok hmay] at HW
                  have HMAY := Lib.hid hmay
                  clear hmay
                  refine HW.mono ?_
                  rintro e wB ⟨v9, rfl, hov, hbB⟩
                  have HOV := Lib.hid hov
                  have HBB := Lib.hid hbB
                  have HEQ := Lib.hid (bytesEq_any _ _ _ _ wB hov.bs (HV.out.mono (HB3.out.trans (hbB.mono HB3.out.size))))
                  obtain ⟨vn, va, vc, -, rfl, _, _⟩ := hov.shape
                  clear hov hbB
                  cases hq0 : decide (fileB pe = l) with
                  | false =>
                    rw [hq0] at HEQ
                    have HNE := Lib.hid (of_decide_eq_false hq0)
                    clear hq0
                    go_wp2_with (first
                      | (go_at_call 63; refine HEQ.out.mono ?_; rintro e wu ⟨rfl, rfl⟩)
                      | (go_at_call 92; refine (must_no _).mono ?_; rintro e wu ⟨rfl, rfl⟩))
                    have HPX := Lib.hid (heap_below HBB.out HH3.out)
                    have HPY := Lib.hid (heap_below HBB.out HX33.out)
                    have HBL := Lib.hid (HB3.out.trans (HBB.out.mono HB3.out.size))
                    have HRR := Lib.hid (HRNO.out (fun h => HNE.out h.2.2))
                    clear c0 c1 c2 c3 c4 c5
                    refine leaves_cons (f := 89) (args := #[.pointer (some ⟨w.heap.size, 0, none⟩), .pointer (some ⟨w1.heap.size, 0, none⟩)]) (by simp) (by simp [go_sem]) ?_
                    refine (catch_up w.heap.size w1.heap.size _ _ [] _ HPX.out rfl HPY.out (by omega)).mono ?_
                    rintro e u' wq ⟨rfl, rfl, hq1, hq2, hq3⟩
                    have c0 : wq.cell? ⟨w.heap.size, 0, none⟩ = some (.int .i64 0) := cell_rec hq1 0
                    have c1 : wq.cell? ⟨w.heap.size, 1, none⟩ = some (.int .i64 0) := cell_rec hq1 1
                    have c2 : wq.cell? ⟨w.heap.size, 2, none⟩ = some (.int .u32 0) := cell_rec hq1 2
                    have c3 : wq.cell? ⟨w.heap.size, 3, none⟩ = some (.int .u64 0) := cell_rec hq1 3
                    have c4 : wq.cell? ⟨w.heap.size, 4, none⟩ = some (.slice none 0 0) := cell_rec hq1 4
                    have c5 : wq.cell? ⟨w.heap.size, 5, none⟩ = some (.slice none 0 0) := cell_rec hq1 5
                    have d0 : wq.cell? ⟨w1.heap.size, 0, none⟩ = some (.int .i64 4) := cell_rec hq2 0
                    have HBQ := Lib.hid (HBL.out.trans (hq3.below HBL.out.size (fun j hj => by rcases hj with rfl | rfl <;> omega)))
                    clear hq1 hq2 hq3
                    simp [Leaves, settle, results, Try.results52, go_sem, c0, c1, c2, c3, c4, c5, d0]
                    exact ⟨RdResA.code HRR.out, HBQ.out⟩
                  | true =>
                    rw [hq0] at HEQ
                    have HR := Lib.hid (HROK.out HOKP.out HMAY.out (of_decide_eq_true hq0))
                    have HX5 := Lib.hid (heap_below HBB.out HH3.out)
                    have HX6 := Lib.hid (heap_below HBB.out HX33.out)
                    have HB5 := Lib.hid (HB3.out.trans (HBB.out.mono HB3.out.size))
                    have HOW5 := Lib.hid (show ElfOwn wB w.heap.size pe L (.slice sa sn sc) (.slice ga gn gc) from ⟨HOW3.out.secs, HOW3.out.so.mono HBB.out, HOW3.out.go.mono HBB.out, fun p hp => (HOW3.out.data p hp).mono HBB.out⟩)
                    clear hq0 c0 c1 c2 c3 c4 c5
                    obtain ⟨c0, c1, c2, c3, c4, c5⟩ := elf_box HX5.out
                    go_wp2_with (first
                      | (go_at_call 63; refine HEQ.out.mono ?_; rintro e wu ⟨rfl, rfl⟩)
                      | (go_at_call 92; refine (must_ok _).mono ?_; rintro e wu ⟨rfl, rfl⟩)
                      | ((with_reducible show wpList _ _ _ (⟨none, .store _ (.tmp 2) (.tmp 54), _, _, _, _⟩ :: _) _ _); go_must (refine wpList_storeElfS HX5.out rfl rfl rfl rfl (by simp [Value.oneCell']) ?_; intro w7 hh7 hs7; have HH7 := Lib.hid hh7; have HX7 := Lib.hid (hs7.kept HX6.out (show ¬ w1.heap.size = w.heap.size by omega)); have HB7 := Lib.hid (HB5.out.trans (hs7.below HB5.out.size (fun j hj => by rw [hj]; exact Nat.le_refl _))); have HOW7 := Lib.hid (show ElfOwn w7 w.heap.size pe L (.slice sa sn sc) (.slice ga gn gc) from ⟨HOW5.out.secs, owns_stirs HOW5.out.so hs7 (own_ne HOW5.out.so HX5.out (by decide)), owns_stirs HOW5.out.go hs7 (own_ne HOW5.out.go HX5.out (by decide)), fun p hp => owns_stirs (HOW5.out.data p hp) hs7 (own_ne (HOW5.out.data p hp) HX5.out (by decide))⟩); clear hh7 hs7))
                      | ((with_reducible show wpList _ _ _ (⟨none, .store _ (.tmp 3) _, _, _, _, _⟩ :: _) _ _); go_must (refine wpList_setI HX7.out (show 0 < 1 by decide) rfl rfl (fun w => by kernel_rfl) ?_; intro w8 hh8 hs8; have HH8 := Lib.hid hh8; have HH78 := Lib.hid (hs8.kept HH7.out (show ¬ w.heap.size = w1.heap.size by omega)); have HB8 := Lib.hid (HB7.out.trans (hs8.below HB7.out.size (fun j hj => by rw [hj]; exact HB1.out.size))); have HOW8 := Lib.hid (show ElfOwn w8 w.heap.size pe L (.slice sa sn sc) (.slice ga gn gc) from ⟨HOW7.out.secs, owns_stirs HOW7.out.so hs8 (own_ne HOW7.out.so HX7.out (by decide)), owns_stirs HOW7.out.go hs8 (own_ne HOW7.out.go HX7.out (by decide)), fun p hp => owns_stirs (HOW7.out.data p hp) hs8 (own_ne (HOW7.out.data p hp) HX7.out (by decide))⟩); clear hh8 hs8)))
                    clear c0 c1 c2 c3 c4 c5
                    obtain ⟨c0, c1, c2, c3, c4, c5⟩ := elf_box HH78.out
                    have d0 : w8.cell? ⟨w1.heap.size, 0, none⟩ = some (.int .i64 0) := cell_rec HH8.out 0
                    refine leaves_cons (f := 89) (args := #[.pointer (some ⟨w.heap.size, 0, none⟩), .pointer (some ⟨w1.heap.size, 0, none⟩)]) (by simp) (by simp [go_sem]) ?_
                    refine (catch_no _ _ _).mono ?_
                    rintro e u' w'' ⟨rfl, rfl, rfl⟩
                    simp [Leaves, settle, results, Try.results52, go_sem, c0, c1, c2, c3, c4, c5, d0]
                    exact ⟨⟨L, .slice sa sn sc, .slice ga gn gc, by rw [HR.out], by rw [HR.out]; exact HOW8.out, HAP.out⟩, HB8.out⟩
              · obtain ⟨e9, hbel⟩ : True ∧ Below w.heap.size w wA := ⟨trivial, HB2.out.trans (hbA.mono HB2.out.size)⟩
                have HPX := Lib.hid (heap_below hbA HX12.out)
                have HPY := Lib.hid (heap_below hbA HX2.out)
                have HBL := Lib.hid hbel
                have HRR := Lib.hid (HRNO.out (fun h => hno h.1))
                clear e9 hbel
                refine leaves_cons (f := 89) (args := #[.pointer (some ⟨w.heap.size, 0, none⟩), .pointer (some ⟨w1.heap.size, 0, none⟩)]) (by simp) (by simp [go_sem]) ?_
                refine (catch_up w.heap.size w1.heap.size _ _ [] _ HPX.out rfl HPY.out (by omega)).mono ?_
                rintro e u' wq ⟨rfl, rfl, hq1, hq2, hq3⟩
                have c0 : wq.cell? ⟨w.heap.size, 0, none⟩ = some (.int .i64 0) := cell_rec hq1 0
                have c1 : wq.cell? ⟨w.heap.size, 1, none⟩ = some (.int .i64 0) := cell_rec hq1 1
                have c2 : wq.cell? ⟨w.heap.size, 2, none⟩ = some (.int .u32 0) := cell_rec hq1 2
                have c3 : wq.cell? ⟨w.heap.size, 3, none⟩ = some (.int .u64 0) := cell_rec hq1 3
                have c4 : wq.cell? ⟨w.heap.size, 4, none⟩ = some (.slice none 0 0) := cell_rec hq1 4
                have c5 : wq.cell? ⟨w.heap.size, 5, none⟩ = some (.slice none 0 0) := cell_rec hq1 5
                have d0 : wq.cell? ⟨w1.heap.size, 0, none⟩ = some (.int .i64 4) := cell_rec hq2 0
                have HBQ := Lib.hid (HBL.out.trans (hq3.below HBL.out.size (fun j hj => by rcases hj with rfl | rfl <;> omega)))
                clear hq1 hq2 hq3
                simp [Leaves, settle, results, Try.results52, go_sem, c0, c1, c2, c3, c4, c5, d0]
                exact ⟨RdResA.code HRR.out, HBQ.out⟩
      · have HR := Lib.hid (HC4.out h6 h2 h4)
        have d4 : (l.take 7 == [127, 69, 76, 70, 2, 1, 1]) = false := by rw [beq_eq_false_iff_ne]; exact h4
        have d4' : (l.take 7 != [127, 69, 76, 70, 2, 1, 1]) = true := by rw [bne_iff_ne]; exact h4
        generalize l.take 7 = t7 at *
        clear HC6 HC2 HC4 h6 h2 h4
        go_enter_defers Try.func52, Try.ntmps52
        go_wp2_with (first
          | ((with_reducible show wpList _ _ _ (⟨some 2, .alloc _, _, _, _, _⟩ :: _) _ _); go_must (refine wpList_allocElf ?_; intro w1 hx1 hb1 hs1; have HX1 := Lib.hid hx1; have HB1 := Lib.hid hb1; clear hx1 hb1))
          | ((with_reducible show wpList _ _ _ (⟨some 3, .alloc _, _, _, _, _⟩ :: _) _ _); go_must (refine wpList_allocErr ?_; intro w2 hx2 hb2 hs2; have HX2 := Lib.hid hx2; have HX12 := Lib.hid (heap_below hb2 HX1.out); have HB2 := Lib.hid (HB1.out.trans (hb2.mono HB1.out.size)); have hs7 := HS7.out _ HB2.out; clear hx2 hb2))
          | ((with_reducible show wpList _ _ _ (⟨none, .store _ (.tmp 2) _, _, _, _, _⟩ :: _) _ _); go_must (refine wpList_storeElfS HX12.out rfl rfl rfl rfl (by simp [Value.oneCell']) ?_; intro w3 hh3 hs3; have HH3 := Lib.hid hh3; have HX23 := Lib.hid (hs3.kept HX2.out (show ¬ w1.heap.size = w.heap.size by omega)); have HB3 := Lib.hid (HB2.out.trans (hs3.below HB2.out.size (fun j hj => by rw [hj]; exact Nat.le_refl _))); clear hh3 hs3))
          | ((with_reducible show wpList _ _ _ (⟨none, .store _ (.tmp 3) _, _, _, _, _⟩ :: _) _ _); go_must (refine wpList_setI HX23.out (show 0 < 1 by decide) rfl rfl (fun w => by kernel_rfl) ?_; intro w4 hh4 hs4; have HH4 := Lib.hid hh4; have HH34 := Lib.hid (hs4.kept HH3.out (show ¬ w.heap.size = w1.heap.size by omega)); have HB4 := Lib.hid (HB3.out.trans (hs4.below HB3.out.size (fun j hj => by rw [hj]; exact HB1.out.size))); clear hh4 hs4)))
        have c0 : w4.cell? ⟨w.heap.size, 0, none⟩ = some (.int .i64 0) := cell_rec HH34.out 0
        have c1 : w4.cell? ⟨w.heap.size, 1, none⟩ = some (.int .i64 0) := cell_rec HH34.out 1
        have c2 : w4.cell? ⟨w.heap.size, 2, none⟩ = some (.int .u32 0) := cell_rec HH34.out 2
        have c3 : w4.cell? ⟨w.heap.size, 3, none⟩ = some (.int .u64 0) := cell_rec HH34.out 3
        have c4 : w4.cell? ⟨w.heap.size, 4, none⟩ = some (.slice none 0 0) := cell_rec HH34.out 4
        have c5 : w4.cell? ⟨w.heap.size, 5, none⟩ = some (.slice none 0 0) := cell_rec HH34.out 5
        have d0 : w4.cell? ⟨w1.heap.size, 0, none⟩ = some (.int .i64 4) := cell_rec HH4.out 0
        refine leaves_cons (f := 89) (args := #[.pointer (some ⟨w.heap.size, 0, none⟩), .pointer (some ⟨w1.heap.size, 0, none⟩)]) (by simp) (by simp [go_sem]) ?_
        refine (catch_no _ _ _).mono ?_
        rintro e u' w'' ⟨rfl, rfl, rfl⟩
        simp [Leaves, settle, results, Try.results52, go_sem, c0, c1, c2, c3, c4, c5, d0]
        exact ⟨RdResA.code HR.out, HB4.out⟩
theorem readE_any (l : List UInt8) (v : Value) (w : World) (hl : l.length ≤ 1000000000) (hv : Bs w v l) :
    Calls Try.prog 52 #[v] w fun r w' => RdRes l w.heap.size r w' ∧ Below w.heap.size w w' :=
  (readEA_any l v w hl hv).mono fun _ _ ⟨⟨L, sv, gv, h1, h2, _⟩, h3⟩ => ⟨⟨L, sv, gv, h1, h2⟩, h3⟩
end Go.Proofs.Ytgjoimcgiofinaa
namespace Go.Proofs.Ytgjoimcgiofinaa
open Go.RowKit Go.Fd
/-- x stands in l at p. -/
def Has (l : List UInt8) (p : Nat) (x : List UInt8) : Prop := ∃ a b, l = a ++ (x ++ b) ∧ a.length = p
theorem Has.left {l x : List UInt8} {p : Nat} (h : Has l p x) (a : List UInt8) {q : Nat} (hq : q = a.length + p) : Has (a ++ l) q x := by
  obtain ⟨c, d, rfl, rfl⟩ := h
  exact ⟨a ++ c, d, by simp, by simp [hq]⟩
theorem Has.right {l x : List UInt8} {p : Nat} (h : Has l p x) (b : List UInt8) : Has (l ++ b) p x := by
  obtain ⟨c, d, rfl, rfl⟩ := h
  exact ⟨c, d ++ b, by simp, rfl⟩
theorem Has.all (x : List UInt8) : Has x 0 x := ⟨[], [], by simp, rfl⟩
theorem Has.sub {l x y : List UInt8} {p q r : Nat} (h : Has l p x) (k : Has x q y) (hr : r = p + q) : Has l r y := by
  obtain ⟨a, b, rfl, rfl⟩ := h
  obtain ⟨c, d, rfl, rfl⟩ := k
  exact ⟨a ++ c, d ++ b, by simp, by simp [hr]⟩
theorem Has.len {l x : List UInt8} {p : Nat} (h : Has l p x) : p + x.length ≤ l.length := by
  obtain ⟨a, b, rfl, rfl⟩ := h
  simp only [List.length_append]; omega
theorem Has.cut {l x : List UInt8} {p : Nat} (h : Has l p x) : (l.drop p).take x.length = x := by
  obtain ⟨a, b, rfl, rfl⟩ := h
  simp
theorem Has.num {l : List UInt8} {p n s : Nat} (h : Has l p (fixed n s)) (hs : Sized s) (hn : n < 256 ^ s) : gN l p s = n := by
  have h1 := h.len
  have h2 := h.cut
  rw [length_fixed] at h1 h2
  rw [gN_in hs h1, h2, fixed_get, Nat.mod_eq_of_lt hn]
theorem Has.flat {α : Type} {k : Nat} {f : α → List UInt8} (hk : ∀ x, (f x).length = k) {l : List α} {i : Nat} {x : α} (h : l[i]? = some x) : Has (l.flatMap f) (k * i) (f x) := by
  obtain ⟨r, hr⟩ := flat_head hk h
  refine ⟨(l.flatMap f).take (k * i), r, by rw [← hr, List.take_append_drop], ?_⟩
  have hi := (List.getElem?_eq_some_iff.1 h).1
  rw [List.length_take, flat_len' hk, Nat.min_eq_left]
  rw [Nat.mul_comm]
  exact Nat.mul_le_mul_right k (Nat.le_of_lt hi)
theorem putL_cons (s n : Nat) (ns : List Nat) : putL s (n :: ns) = fixed n s ++ putL s ns := rfl
theorem putL_nil (s : Nat) : putL s [] = [] := rfl
/-- A part of bytes that are put together of parts. -/
theorem has_part {ps : List (List UInt8)} {i p : Nat} {x : List UInt8} (h : ps[i]? = some x) (hp : p = ((ps.take i).map List.length).sum) : Has ps.flatten p x := by
  obtain ⟨hi, he⟩ := List.getElem?_eq_some_iff.1 h
  refine ⟨(ps.take i).flatten, (ps.drop (i + 1)).flatten, ?_, by rw [List.length_flatten, hp]⟩
  rw [← he, ← List.flatten_cons, ← List.flatten_append, List.getElem_cons_drop, List.take_append_drop]
theorem segBy_parts (s : SegM) : segBy s = [fixed s.typ 4, fixed s.flags 4, fixed s.off 8, fixed s.vaddr 8, fixed s.vaddr 8, fixed s.filesz 8, fixed s.memsz 8, fixed s.align 8].flatten := by
  unfold segBy
  simp [putL_cons, putL_nil]
theorem segBy_has (s : SegM) {i p : Nat} {x : List UInt8} (h : [fixed s.typ 4, fixed s.flags 4, fixed s.off 8, fixed s.vaddr 8, fixed s.vaddr 8, fixed s.filesz 8, fixed s.memsz 8, fixed s.align 8][i]? = some x) (hp : p = (([fixed s.typ 4, fixed s.flags 4, fixed s.off 8, fixed s.vaddr 8, fixed s.vaddr 8, fixed s.filesz 8, fixed s.memsz 8, fixed s.align 8].take i).map List.length).sum) : Has (segBy s) p x := by
  rw [segBy_parts]; exact has_part h hp
theorem hdrBy_parts (nm : Nat) (s : SecM) (p : Nat) : hdrBy nm s p = [fixed nm 4, fixed s.typ 4, fixed s.flags 8, fixed s.addr 8, fixed p 8, fixed s.size 8, fixed s.link 4, fixed s.info 4, fixed s.align 8, fixed s.ent 8].flatten := by
  unfold hdrBy
  simp [putL_cons, putL_nil]
theorem hdrBy_has (nm : Nat) (s : SecM) (p : Nat) {i q : Nat} {x : List UInt8} (h : [fixed nm 4, fixed s.typ 4, fixed s.flags 8, fixed s.addr 8, fixed p 8, fixed s.size 8, fixed s.link 4, fixed s.info 4, fixed s.align 8, fixed s.ent 8][i]? = some x) (hp : q = (([fixed nm 4, fixed s.typ 4, fixed s.flags 8, fixed s.addr 8, fixed p 8, fixed s.size 8, fixed s.link 4, fixed s.info 4, fixed s.align 8, fixed s.ent 8].take i).map List.length).sum) : Has (hdrBy nm s p) q x := by
  rw [hdrBy_parts]; exact has_part h hp
theorem headB_parts (e : ElfM) (h : Nat) : headB e h = [magicE, List.replicate 9 0, fixed (u64of e.typ) 2, fixed (Go.Fd.mach e.target) 2, fixed 1 4, fixed e.entry 8, fixed (if segsB e = true then 64 else 0) 8, fixed h 8, fixed e.flags 4, fixed 64 2, fixed 56 2, fixed e.segs.length 2, fixed 64 2, fixed (e.secs.length + 2) 2, fixed (e.secs.length + 1) 2].flatten := by
  unfold headB magicE
  simp [putL_cons, putL_nil]
theorem headB_has (e : ElfM) (h : Nat) {i q : Nat} {x : List UInt8} (hx : [magicE, List.replicate 9 0, fixed (u64of e.typ) 2, fixed (Go.Fd.mach e.target) 2, fixed 1 4, fixed e.entry 8, fixed (if segsB e = true then 64 else 0) 8, fixed h 8, fixed e.flags 4, fixed 64 2, fixed 56 2, fixed e.segs.length 2, fixed 64 2, fixed (e.secs.length + 2) 2, fixed (e.secs.length + 1) 2][i]? = some x) (hp : q = (([magicE, List.replicate 9 0, fixed (u64of e.typ) 2, fixed (Go.Fd.mach e.target) 2, fixed 1 4, fixed e.entry 8, fixed (if segsB e = true then 64 else 0) 8, fixed h 8, fixed e.flags 4, fixed 64 2, fixed 56 2, fixed e.segs.length 2, fixed 64 2, fixed (e.secs.length + 2) 2, fixed (e.secs.length + 1) 2].take i).map List.length).sum) : Has (headB e h) q x := by
  rw [headB_parts]; exact has_part hx hp
/-- What was ahead stays ahead. -/
theorem bodyF_pre : ∀ (l : List (SecM × Nat)) (acc : List UInt8), ∃ r, bodyF acc l = acc ++ r := by
  intro l
  induction l with
  | nil => exact fun acc => ⟨[], by simp [bodyF]⟩
  | cons x l ih =>
    intro acc
    obtain ⟨r, hr⟩ := ih (acc ++ List.replicate (x.2 - acc.length) 0 ++ x.1.data)
    exact ⟨List.replicate (x.2 - acc.length) 0 ++ x.1.data ++ r, by
      show bodyF (acc ++ List.replicate (x.2 - acc.length) 0 ++ x.1.data) l = _
      rw [hr]; simp⟩
theorem bodyF_cut (acc : List UInt8) (l : List (SecM × Nat)) (k : Nat) : bodyF acc l = bodyF (bodyF acc (l.take k)) (l.drop k) := by
  unfold bodyF
  rw [← List.foldl_append, List.take_append_drop]
section
variable {e : ElfM}
theorem atsB_ok (h : MayK e) {i : Nat} {x : List UInt8} (hi : (namesOf e.secs)[i]? = some x) : ∃ p, (atsOf e)[i]? = some p ∧ atR (tabOf e) p = (x, 0) ∧ p < (tabOf e).length := by
  obtain ⟨h1, h2⟩ := build_ok h.ok
  obtain ⟨p, e1, _, e2, e3⟩ := build_at h1 hi
  have ht : tabOf e = (buildT (namesOf e.secs)).tab := by unfold tabOf; rw [h2]
  refine ⟨p, by unfold atsOf; rw [h2]; exact e1, by rw [ht]; exact at_place e2 e3, ?_⟩
  rw [ht]
  have := e2.lt
  omega
theorem ats_len (h : MayK e) : (atsOf e).length = e.secs.length + 1 := by
  obtain ⟨h1, h2⟩ := build_ok h.ok
  unfold atsOf
  rw [h2, (build_places _).1]
  simp [namesOf]
theorem places_len (e : ElfM) : (placesOf e).1.length = e.secs.length := plF_len _
theorem hdrs_get (h : MayK e) {i : Nat} {s : SecM} (hi : e.secs[i]? = some s) : ∃ n p, (atsOf e)[i]? = some n ∧ (placesOf e).1[i]? = some p ∧ (e.secs.zip ((atsOf e).zip (placesOf e).1))[i]? = some (s, n, p) := by
  have hlt := (List.getElem?_eq_some_iff.1 hi).1
  have h1 : (atsOf e)[i]? = some ((atsOf e)[i]'(by rw [ats_len h]; omega)) := List.getElem?_eq_getElem _
  have h2 : (placesOf e).1[i]? = some ((placesOf e).1[i]'(by rw [places_len]; omega)) := List.getElem?_eq_getElem _
  refine ⟨_, _, h1, h2, ?_⟩
  rw [List.getElem?_zip_eq_some]
  exact ⟨hi, by rw [List.getElem?_zip_eq_some]; exact ⟨h1, h2⟩⟩
theorem hdrsB_len (h : MayK e) : (hdrsB e).length = 64 * e.secs.length := by
  unfold hdrsB
  rw [flat_len' fun p => hdrBy_len _ _ _, List.length_zip, List.length_zip, ats_len h, places_len]
  omega
theorem fileB_len (h : MayK e) : (fileB e).length = headsOf e (tabOf e).length + 64 * (e.secs.length + 2) := by
  unfold fileB
  rw [List.length_append, List.length_append, midB_len h, hdrsB_len h, hdrBy_len]
  omega
theorem has_mid {p : Nat} {x : List UInt8} (h : Has (bodyB e) p x) : Has (fileB e) p x := by
  unfold fileB midB
  exact (((h.right _).right _).right _).right _
theorem has_front {p : Nat} {x : List UInt8} (h : Has (frontB e) p x) : Has (fileB e) p x := by
  obtain ⟨r, hr⟩ := bodyF_pre (e.secs.zip (placesOf e).1) (frontB e)
  refine has_mid ?_
  unfold bodyB
  rw [hr]
  exact h.right _
theorem has_head {p : Nat} {x : List UInt8} (h : Has (headB e (headsOf e (tabOf e).length)) p x) : Has (fileB e) p x := by
  refine has_front ?_
  unfold frontB
  exact h.right _
theorem has_seg {i : Nat} {s : SegM} (hi : e.segs[i]? = some s) : Has (fileB e) (64 + 56 * i) (segBy s) := by
  refine has_front ?_
  unfold frontB
  exact (Has.flat segBy_len hi).left _ (by rw [headB_len])
theorem has_data (h : MayK e) {i : Nat} {s : SecM} {p : Nat} (hi : e.secs[i]? = some s) (hp : (placesOf e).1[i]? = some p) : Has (fileB e) p s.data := by
  refine has_mid ?_
  have hz : (e.secs.zip (placesOf e).1)[i]? = some (s, p) := by rw [List.getElem?_zip_eq_some]; exact ⟨hi, hp⟩
  have hlt := (List.getElem?_eq_some_iff.1 hi).1
  have hl := body_len (g := segsB e) (frontB_len e) h.pow i (Nat.le_of_lt hlt)
  have hpl : p = placeS (segsB e) (plF (segsB e) (front e) (e.secs.take i)).2 s := by
    have := plF_get (g := segsB e) (n := front e) hi
    unfold placesOf at hp
    rw [this] at hp
    exact (Option.some.inj hp).symm
  have hge := placeS_le (g := segsB e) (p := (plF (segsB e) (front e) (e.secs.take i)).2) (h.pow s (List.mem_of_getElem? hi))
  obtain ⟨r, hr⟩ := bodyF_pre ((e.secs.zip (placesOf e).1).drop (i + 1)) (bodyF (frontB e) ((e.secs.zip (placesOf e).1).take (i + 1)))
  unfold bodyB
  rw [bodyF_cut _ _ (i + 1), hr, bodyF_step hz]
  refine Has.right ?_ _
  have := (Has.all s.data).left (bodyF (frontB e) ((e.secs.zip (placesOf e).1).take i) ++ List.replicate (p - (bodyF (frontB e) ((e.secs.zip (placesOf e).1).take i)).length) 0) (q := p) (by
    rw [List.length_append, List.length_replicate]
    unfold placesOf
    rw [hl, hpl]
    omega)
  exact this
theorem has_tab (h : MayK e) : Has (fileB e) (placesOf e).2 (tabOf e) := by
  unfold fileB midB
  refine Has.right (Has.right (Has.right ?_ _) _) _
  exact (Has.all _).left _ (by rw [bodyB_len h.pow]; rfl)
theorem has_hdr (h : MayK e) {i : Nat} {s : SecM} {n p : Nat} (hz : (e.secs.zip ((atsOf e).zip (placesOf e).1))[i]? = some (s, n, p)) : Has (fileB e) (headsOf e (tabOf e).length + 64 * (i + 1)) (hdrBy n s p) := by
  unfold fileB
  refine Has.right ?_ _
  have := Has.flat (f := fun p : SecM × Nat × Nat => hdrBy p.2.1 p.1 p.2.2) (fun p => hdrBy_len _ _ _) hz
  exact this.left _ (by rw [midB_len h]; omega)
theorem has_last (h : MayK e) : ∃ n, Has (fileB e) (headsOf e (tabOf e).length + 64 * (e.secs.length + 1)) (hdrBy n (tabSec (tabOf e).length) (placesOf e).2) := by
  refine ⟨(atsOf e)[e.secs.length]?.getD 0, ?_⟩
  unfold fileB
  exact (Has.all _).left _ (by rw [List.length_append, midB_len h, hdrsB_len h]; omega)
end
theorem Has.ok {l x : List UInt8} {p q s : Nat} (h : Has l p x) (hs : Sized s) (hq : q + s ≤ x.length) : okB l (p + q) s = true := by
  rw [okB_iff hs]
  have := h.len
  simp only [decide_eq_true_eq]
  omega
theorem seg_back {l : List UInt8} {a : Nat} {s : SegM} (h : Has l a (segBy s)) (hf : s.fits) : segP l a = s ∧ segOk l a = true := by
  obtain ⟨f1, f2, f3, f4, f5, f6, f7⟩ := hf
  have hl := h.len
  rw [segBy_len] at hl
  refine ⟨?_, by rw [segOk_iff]; simpa using hl⟩
  unfold segP
  rw [(h.sub (segBy_has s (i := 0) rfl rfl) rfl : Has l a (fixed s.typ 4)).num sz4 f1, (h.sub (segBy_has s (i := 1) rfl rfl) (r := a + 4) (by simp [length_fixed]) : Has l (a + 4) (fixed s.flags 4)).num sz4 f2,
    (h.sub (segBy_has s (i := 2) rfl rfl) (r := a + 8) (by simp [length_fixed]) : Has l (a + 8) (fixed s.off 8)).num sz8 f3,
    (h.sub (segBy_has s (i := 3) rfl rfl) (r := a + 16) (by simp [length_fixed]) : Has l (a + 16) (fixed s.vaddr 8)).num sz8 f4,
    (h.sub (segBy_has s (i := 5) rfl rfl) (r := a + 32) (by simp [length_fixed]) : Has l (a + 32) (fixed s.filesz 8)).num sz8 f5,
    (h.sub (segBy_has s (i := 6) rfl rfl) (r := a + 40) (by simp [length_fixed]) : Has l (a + 40) (fixed s.memsz 8)).num sz8 f6,
    (h.sub (segBy_has s (i := 7) rfl rfl) (r := a + 48) (by simp [length_fixed]) : Has l (a + 48) (fixed s.align 8)).num sz8 f7]
theorem sec_back {l tab : List UInt8} {a n p : Nat} {s : SecM} (h : Has l a (hdrBy n s p)) (hf : s.fits) (hn : n < 4294967296) (hp : p < 18446744073709551616) (ht : atR tab n = (s.name, 0)) (hfine : fineB s = true) (hd : Has l p s.data) : secP l tab a = s ∧ secOk l tab a = true := by
  obtain ⟨f1, f2, f3, f4, f5, f6, f7, f8⟩ := hf
  have hl := h.len
  rw [hdrBy_len] at hl
  have g0 := (h.sub (hdrBy_has n s p (i := 0) rfl rfl) (r := a) (by simp) : Has l a (fixed n 4)).num sz4 hn
  have g1 := (h.sub (hdrBy_has n s p (i := 1) rfl rfl) (r := a + 4) (by simp [length_fixed]) : Has l (a + 4) (fixed s.typ 4)).num sz4 f1
  have g2 := (h.sub (hdrBy_has n s p (i := 2) rfl rfl) (r := a + 8) (by simp [length_fixed]) : Has l (a + 8) (fixed s.flags 8)).num sz8 f2
  have g3 := (h.sub (hdrBy_has n s p (i := 3) rfl rfl) (r := a + 16) (by simp [length_fixed]) : Has l (a + 16) (fixed s.addr 8)).num sz8 f3
  have g4 := (h.sub (hdrBy_has n s p (i := 4) rfl rfl) (r := a + 24) (by simp [length_fixed]) : Has l (a + 24) (fixed p 8)).num sz8 hp
  have g5 := (h.sub (hdrBy_has n s p (i := 5) rfl rfl) (r := a + 32) (by simp [length_fixed]) : Has l (a + 32) (fixed s.size 8)).num sz8 f5
  have g6 := (h.sub (hdrBy_has n s p (i := 6) rfl rfl) (r := a + 40) (by simp [length_fixed]) : Has l (a + 40) (fixed s.link 4)).num sz4 f6
  have g7 := (h.sub (hdrBy_has n s p (i := 7) rfl rfl) (r := a + 44) (by simp [length_fixed]) : Has l (a + 44) (fixed s.info 4)).num sz4 f7
  have g8 := (h.sub (hdrBy_has n s p (i := 8) rfl rfl) (r := a + 48) (by simp [length_fixed]) : Has l (a + 48) (fixed s.align 8)).num sz8 f4
  have g9 := (h.sub (hdrBy_has n s p (i := 9) rfl rfl) (r := a + 56) (by simp [length_fixed]) : Has l (a + 56) (fixed s.ent 8)).num sz8 f8
  unfold fineB at hfine
  simp only [Bool.and_eq_true, Bool.not_eq_true', decide_eq_false_iff_not] at hfine
  obtain ⟨⟨⟨_, _⟩, _⟩, hfd⟩ := hfine
  have hdl := hd.len
  have hdc := hd.cut
  constructor
  · unfold secP
    rw [g0, g1, g2, g3, g4, g5, g6, g7, g8, g9, ht]
    by_cases h8 : s.typ = 8
    · rw [if_pos h8] at hfd ⊢
      simp only [Bool.and_eq_true, decide_eq_true_eq] at hfd
      have : s.data = [] := List.eq_nil_of_length_eq_zero hfd.1
      cases s
      simp_all
    · rw [if_neg h8] at hfd ⊢
      have hsz : s.size = s.data.length := of_decide_eq_true hfd
      rw [hsz, hdc, ← hsz]
  · unfold secOk
    rw [g0, g1, g4, g5, ht]
    simp only [Bool.and_eq_true, Bool.or_eq_true, decide_eq_true_eq]
    refine ⟨⟨hl, trivial⟩, ?_⟩
    by_cases h8 : s.typ = 8
    · exact .inl h8
    · right
      rw [if_neg h8] at hfd
      have hsz : s.size = s.data.length := of_decide_eq_true hfd
      unfold inB
      simp only [Bool.and_eq_true, decide_eq_true_eq]
      omega
theorem tgt_mach {t : Int} (h : mach t ≠ 0) : tgt (mach t) 3 = t := by
  unfold mach at h ⊢
  split
  · next h1 => subst h1; decide
  · split
    · next h1 => subst h1; decide
    · split
      · next h1 => subst h1; decide
      · next h1 h2 h3 => simp [h1, h2, h3] at h
theorem target_in {t : Int} (h : mach t ≠ 0) : t = 1 ∨ t = 2 ∨ t = 3 := by
  unfold mach at h
  split at h
  · omega
  · split at h
    · omega
    · split at h
      · omega
      · exact absurd rfl h
/-- What is read of a file's bytes is the file. -/
theorem file_back {e : ElfM} (hm : mayE e = true) (hf : e.fits) : codeR (fileB e) = 0 ∧ targetR (fileB e) = e.target ∧ OkP (fileB e) ∧ parseE (fileB e) (targetR (fileB e)) = e := by
  have h := mayK hm
  have hlen := fileB_len h
  have hge := heads_ge (e := e)
  have hle := h.len
  have hsl := h.secs
  have hgl := h.segs
  have hfr : front e ≤ (placesOf e).2 := (plF_le (g := segsB e) (n := front e) h.pow).1
  have hfr2 : 64 ≤ front e := by unfold front; omega
  have hH : headsOf e (tabOf e).length < 4194304 := by omega
  have t0 := has_head (headB_has e (headsOf e (tabOf e).length) (i := 0) rfl rfl)
  have t1 := (has_head (headB_has e (headsOf e (tabOf e).length) (i := 2) (q := 16) rfl (by simp; rfl))).num sz2 (by rcases h.typ with h1 | h1 <;> rw [h1] <;> decide)
  have t2 := (has_head (headB_has e (headsOf e (tabOf e).length) (i := 3) (q := 18) rfl (by simp [length_fixed]; rfl))).num sz2 (by have := mach_le e.target; omega)
  have t3 := (has_head (headB_has e (headsOf e (tabOf e).length) (i := 5) (q := 24) rfl (by simp [length_fixed]; rfl))).num sz8 hf.entry
  have t4 := (has_head (headB_has e (headsOf e (tabOf e).length) (i := 7) (q := 40) rfl (by simp [length_fixed]; rfl))).num sz8 (by omega)
  have t5 := (has_head (headB_has e (headsOf e (tabOf e).length) (i := 8) (q := 48) rfl (by simp [length_fixed]; rfl))).num sz4 hf.flags
  have t6 := (has_head (headB_has e (headsOf e (tabOf e).length) (i := 11) (q := 56) rfl (by simp [length_fixed]; rfl))).num sz2 (by omega)
  have t7 := (has_head (headB_has e (headsOf e (tabOf e).length) (i := 13) (q := 60) rfl (by simp [length_fixed]; rfl))).num sz2 (by omega)
  have htg : targetR (fileB e) = e.target := by unfold targetR; rw [t2]; exact tgt_mach h.mach
  have hns : nsecsP (fileB e) = e.secs.length := by unfold nsecsP; rw [t7]; omega
  have hng : nsegsP (fileB e) = e.segs.length := t6
  have hla : lastP (fileB e) = headsOf e (tabOf e).length + 64 * (e.secs.length + 1) := by unfold lastP; rw [t4, hns]
  obtain ⟨nl, hlast⟩ := has_last h
  have l1 := (hlast.sub (hdrBy_has nl (tabSec (tabOf e).length) (placesOf e).2 (i := 4) rfl rfl) (r := lastP (fileB e) + 24) (by simp [length_fixed, hla]) : Has (fileB e) (lastP (fileB e) + 24) (fixed (placesOf e).2 8))
  have l2 := (hlast.sub (hdrBy_has nl (tabSec (tabOf e).length) (placesOf e).2 (i := 5) rfl rfl) (r := lastP (fileB e) + 32) (by simp [length_fixed, hla]) : Has (fileB e) (lastP (fileB e) + 32) (fixed (tabOf e).length 8))
  have n1 := l1.num sz8 (by omega)
  have n2 := l2.num sz8 (by omega)
  have htab : tabP (fileB e) = tabOf e := by
    unfold tabP
    rw [n1, n2]
    exact (has_tab h).cut
  have hseg : ∀ i s, e.segs[i]? = some s → segP (fileB e) (64 + 56 * i) = s ∧ segOk (fileB e) (64 + 56 * i) = true := fun i s hi => seg_back (has_seg hi) (hf.segs s (List.mem_of_getElem? hi))
  have hsec : ∀ i s, e.secs[i]? = some s → secP (fileB e) (tabP (fileB e)) (gN (fileB e) 40 8 + 64 * (i + 1)) = s ∧ secOk (fileB e) (tabP (fileB e)) (gN (fileB e) 40 8 + 64 * (i + 1)) = true := fun i s hi => by
    obtain ⟨n, p, a1, a2, a3⟩ := hdrs_get h hi
    have hnm : (namesOf e.secs)[i]? = some s.name := by
      unfold namesOf
      rw [List.getElem?_append_left (by rw [List.length_map]; exact (List.getElem?_eq_some_iff.1 hi).1), List.getElem?_map, hi]
      rfl
    obtain ⟨n', b1, b2, b3⟩ := atsB_ok h hnm
    rw [a1] at b1
    cases b1
    have hdt := has_data h hi a2
    rw [t4, htab]
    exact sec_back (has_hdr h a3) (hf.secs s (List.mem_of_getElem? hi)) (by omega) (by have := hdt.len; omega) b2 (h.fine s (List.mem_of_getElem? hi)) hdt
  have lsec : secsP (fileB e) e.secs.length = e.secs := by
    apply List.ext_getElem?
    intro i
    rcases Nat.lt_or_ge i e.secs.length with hi | hi
    · have hx : e.secs[i]? = some e.secs[i] := List.getElem?_eq_getElem hi
      unfold secsP
      rw [List.getElem?_map, List.getElem?_range hi, hx, Option.map_some, (hsec i _ hx).1]
    · rw [List.getElem?_eq_none (by rw [secsP_len]; exact hi), List.getElem?_eq_none hi]
  have lseg : segsP (fileB e) e.segs.length = e.segs := by
    apply List.ext_getElem?
    intro i
    rcases Nat.lt_or_ge i e.segs.length with hi | hi
    · have hx : e.segs[i]? = some e.segs[i] := List.getElem?_eq_getElem hi
      unfold segsP
      rw [List.getElem?_map, List.getElem?_range hi, hx, Option.map_some, (hseg i _ hx).1]
    · rw [List.getElem?_eq_none (by rw [segsP_len]; exact hi), List.getElem?_eq_none hi]
  refine ⟨?_, htg, ⟨by rw [t6]; exact hgl, by rw [t7]; omega, by rw [t7]; omega, fun i hi => ?_, by rw [t4]; omega, ?_, ?_, ?_, fun i hi => ?_⟩, ?_⟩
  · unfold codeR
    rw [if_neg (by omega), if_neg (by omega)]
    have : (fileB e).take 7 = magicE := by have := t0.cut; simpa [magicE] using this
    rw [if_neg (fun hh => hh this), htg, if_neg]
    rcases target_in h.mach with h1 | h1 | h1 <;> omega
  · rw [hng] at hi
    exact (hseg i _ (List.getElem?_eq_getElem hi)).2
  · have := l1.ok (q := 0) sz8 (by simp [length_fixed]); simpa using this
  · have := l2.ok (q := 0) sz8 (by simp [length_fixed]); simpa using this
  · rw [n1, n2]
    unfold inB
    simp only [Bool.and_eq_true, decide_eq_true_eq]
    omega
  · rw [hns] at hi
    exact (hsec i _ (List.getElem?_eq_getElem hi)).2
  · unfold parseE
    rw [hns, hng, lsec, lseg, htg, t1, t3, t5]
    have : ((u64of e.typ : Nat) : Int) = e.typ := by rcases h.typ with h1 | h1 <;> rw [h1] <;> decide
    rw [this]
theorem read_back {e : ElfM} (hm : mayE e = true) (hf : e.fits) : readE (fileB e) = (e, 0) := by
  obtain ⟨h1, h2, h3, h4⟩ := file_back hm hf
  unfold readE
  rw [if_neg (fun h => h h1), h4, if_pos ⟨h3, hm, rfl⟩]
end Go.Proofs.Ytgjoimcgiofinaa
namespace Go.Proofs.Ytgjoimcgiofinaa
open Go.RowKit Go.Fd
theorem refSized_yes (n : Int) (w : World) (h : Sized n) : Calls Try.prog 129 #[.int .i64 n] w fun e w' => e = .returned (.bool true) ∧ w = w' := by
  rcases h with rfl | rfl | rfl | rfl
  all_goals
    go_enter Try.func129, Try.ntmps129
    go_wp2
    go_ret
    exact ⟨rfl, rfl⟩
theorem refSized_no (n : Int) (w : World) (h : ¬ Sized n) : Calls Try.prog 129 #[.int .i64 n] w fun e w' => e = .returned (.bool false) ∧ w = w' := by
  unfold Sized at h
  have h1 : (n == 1) = false := beq_eq_false_iff_ne.2 (by omega)
  have h2 : (n == 2) = false := beq_eq_false_iff_ne.2 (by omega)
  have h3 : (n == 4) = false := beq_eq_false_iff_ne.2 (by omega)
  have h4 : (n == 8) = false := beq_eq_false_iff_ne.2 (by omega)
  clear h
  go_enter Try.func129, Try.ntmps129
  go_wp2
  go_ret
  exact ⟨rfl, rfl⟩
set_option maxHeartbeats 1000000 in
theorem refgetL_any (l : List UInt8) (at_ size : Int) (v : Value) (w : World) (hl : l.length ≤ 1000000000) (hv : Bs w v l) (hat : at_ < 9223372036854775808) :
    Calls Try.prog 126 #[v, .int .i64 at_, .int .i64 size, .bool false] w fun e w' =>
      e = .returned (.tuple #[.int .u64 (getR l at_ size false).1, .int .i64 (getR l at_ size false).2]) ∧ w = w' := by
  by_cases hs : Sized size
  · have hb1 := (sized_bounds hs).1
    have hb2 := (sized_bounds hs).2
    obtain ⟨a, cap, rfl, hcap, _, _⟩ := hv.open
    by_cases h1 : at_ < 0
    · have HR := Lib.hid (show getR l at_ size false = (0, 5) by rw [getR, if_pos hs, if_pos (.inl h1)])
      go_enter Try.func126, Try.ntmps126
      go_wp2_with (go_at_call 129; refine (refSized_yes _ _ hs).mono ?_; rintro e w' ⟨rfl, rfl⟩)
      go_ret2
      exact ⟨by rw [HR.out]; rfl, rfl⟩
    by_cases h2 : (l.length : Int) < at_
    · have HR := Lib.hid (show getR l at_ size false = (0, 5) by rw [getR, if_pos hs, if_pos (.inr h2)])
      go_enter Try.func126, Try.ntmps126
      go_wp2_with (go_at_call 129; refine (refSized_yes _ _ hs).mono ?_; rintro e w' ⟨rfl, rfl⟩)
      go_ret2
      exact ⟨by rw [HR.out]; rfl, rfl⟩
    by_cases h3 : (l.length : Int) - at_ < size
    · have HR := Lib.hid (show getR l at_ size false = (0, 2) by rw [getR, if_pos hs, if_neg (by omega), if_pos h3])
      go_enter Try.func126, Try.ntmps126
      go_wp2_with (go_at_call 129; refine (refSized_yes _ _ hs).mono ?_; rintro e w' ⟨rfl, rfl⟩)
      go_ret2
      exact ⟨by rw [HR.out]; rfl, rfl⟩
    have HR := Lib.hid (show getR l at_ size false = (numLE ((l.drop at_.toNat).take size.toNat), 0) by rw [getR, if_pos hs, if_neg (by omega), if_neg h3]; rfl)
    have HL := Lib.hid (cut_len l at_ size hs)
    obtain ⟨v', hrun, hv'⟩ := run_sliceB hv (i := at_) (j := at_ + size) (k := .i64) (k' := .i64) (by omega) (by omega) (by omega)
    rw [show at_ + size - at_ = size by omega] at hv'
    have HRUN := Lib.hid hrun
    clear hrun
    go_enter Try.func126, Try.ntmps126
    go_wp2_with (first
      | (go_at_call 129; refine (refSized_yes _ _ hs).mono ?_; rintro e w' ⟨rfl, rfl⟩)
      | (with_reducible show wpList _ _ _ (⟨some 33, _, _, _, _, _⟩ :: _) _ _; refine wpList_val rfl (exec_slice2 HRUN.out rfl rfl rfl) ?_)
      | (go_at_call 65; refine (num_any _ _ _ HL.out hv').mono ?_; rintro e w' ⟨rfl, rfl⟩))
    go_ret2
    exact ⟨by rw [HR.out]; rfl, rfl⟩
  · have HR := Lib.hid (show getR l at_ size false = (0, 1) by rw [getR, if_neg hs])
    go_enter Try.func126, Try.ntmps126
    go_wp2_with (go_at_call 129; refine (refSized_no _ _ hs).mono ?_; rintro e w' ⟨rfl, rfl⟩)
    go_ret2
    exact ⟨by rw [HR.out]; rfl, rfl⟩
theorem refUL_any (l : List UInt8) (at_ size : Int) (v : Value) (w : World) (hl : l.length ≤ 1000000000) (hv : Bs w v l) (hat : at_ < 9223372036854775808) :
    Calls Try.prog 116 #[v, .int .i64 at_, .int .i64 size] w fun e w' =>
      e = .returned (.tuple #[.int .u64 (getR l at_ size false).1, .int .i64 (getR l at_ size false).2]) ∧ w = w' := by
  go_enter Try.func116, Try.ntmps116
  go_wp2_with (go_at_call 126; refine (refgetL_any l at_ size v w hl hv hat).mono ?_; rintro e w1 ⟨rfl, rfl⟩)
  go_ret2
  exact ⟨rfl, rfl⟩
end Go.Proofs.Ytgjoimcgiofinaa
namespace Go.Proofs.Ytgjoimcgiofinaa
open Go.RowKit Go.Fd
set_option maxHeartbeats 1000000 in
set_option maxRecDepth 100000 in
theorem elfPlaces_any (e : ElfM) (L : List (SecM × Value)) (sv gv : Value) (w : World) (h : ElfAt w e L sv gv) (ho : ElfOk e) :
    Calls Try.prog 45 #[elfV e sv gv] w fun r w' => ∃ v1, r = .returned (.tuple #[v1, .int .i64 (if mayE e = true then 0 else 1)]) ∧ Ow I64 3 w' w.heap.size v1 (if mayE e = true then (placesOf e).1 else []) ∧ Below w.heap.size w w' := by
  have HM := Lib.hid (fun w' (hb : Below w.heap.size w w') => may_any e L sv gv w' (h.mono hb) ho)
  obtain ⟨sm, sa, sc, -, rfl, _, _⟩ := h.rd.shape
  obtain ⟨gm, ga, gc, -, rfl, _, _⟩ := h.segs.shape
  have HA := Lib.hid h
  have HS := Lib.hid (show L.length = e.secs.length by rw [h.secs, List.length_map])
  cases hm : mayE e with
  | false =>
    rw [hm] at HM
    simp only [Bool.false_eq_true, if_false]
    clear hm h
    go_enter Try.func45, Try.ntmps45
    go_wp2_with (first
      | ((with_reducible show wpList _ _ _ (⟨_, .box _ _, _, _, _, _⟩ :: _) _ _); go_must (refine wpList_box rfl ?_; intro w1 hx1 hb1 hs1; obtain ⟨c0, c1, c2, c3, c4, c5⟩ := elf_box hx1; have HB1 := Lib.hid hb1; clear hx1 hb1))
      | (go_at_call 47; refine (HM.out _ HB1.out).mono ?_; rintro r w2 ⟨rfl, hb2⟩; have HB2 := Lib.hid (HB1.out.trans (hb2.mono HB1.out.size)); clear hb2))
    go_ret2
    exact ⟨_, rfl, Ow.nil _ _ _ _, HB2.out⟩
  | true =>
    have HK := Lib.hid (mayK hm)
    rw [hm] at HM
    simp only [if_true]
    have HPL := Lib.hid (fun w' (hb : Below w.heap.size w w') => places_any e L (.slice sa sm sc) (.slice ga gm gc) 0 w' (h.mono hb) (by have h1 := HK.out.secs; have h2 := HS.out; omega) (by have := HK.out.segs; omega) HK.out.pow (fun s hs => ho.fits.secs s hs) (by have := ho.data; omega) (by omega))
    clear hm h
    go_enter Try.func45, Try.ntmps45
    go_wp2_with (first
      | ((with_reducible show wpList _ _ _ (⟨_, .box _ _, _, _, _, _⟩ :: _) _ _); go_must (refine wpList_box rfl ?_; intro w1 hx1 hb1 hs1; obtain ⟨c0, c1, c2, c3, c4, c5⟩ := elf_box hx1; have HX1 := Lib.hid hx1; have HB1 := Lib.hid hb1; clear hx1 hb1))
      | (go_at_call 47; refine (HM.out _ HB1.out).mono ?_; rintro r w2 ⟨rfl, hb2⟩; have HB2 := Lib.hid (HB1.out.trans (hb2.mono HB1.out.size)); clear c0 c1 c2 c3 c4 c5; obtain ⟨c0, c1, c2, c3, c4, c5⟩ := elf_box (heap_below hb2 HX1.out); clear hb2)
      | (go_at_call 68; refine (HPL.out _ HB2.out).mono ?_; rintro r w3 ⟨v1, rfl, hv1, hb3⟩; have HB3 := Lib.hid (HB2.out.trans (hb3.mono HB2.out.size)); have HV1 := Lib.hid hv1; have HB2S := Lib.hid HB2.out.size; obtain ⟨vm, va, vc, -, rfl, _, _⟩ := hv1.shape; clear hv1 hb3))
    go_ret2
    exact ⟨_, rfl, HV1.out.rebase HB2S.out, HB3.out⟩
end Go.Proofs.Ytgjoimcgiofinaa
namespace Go.Proofs.Ytgjoimcgiofinaa
open Go.RowKit Go.Fd
set_option maxHeartbeats 4000000 in
set_option maxRecDepth 100000 in
theorem secSame_any (s t : SecM) (dv du : Value) (w : World) (hd : Bs w dv s.data) (hu : Bs w du t.data) :
    Calls Try.prog 86 #[secV (s, dv), secV (t, du)] w fun r w' => r = .returned (.bool (decide (s = t))) ∧ Below w.heap.size w w' := by
  have HQ := Lib.hid (fun w' (hb : Below w.heap.size w w') => bytesEq_any s.data t.data dv du w' (hd.mono hb) (hu.mono hb))
  obtain ⟨n1, t1, f1, a1, l1, s1, k1, i1, e1, d1⟩ := s
  obtain ⟨n2, t2, f2, a2, l2, s2, k2, i2, e2, d2⟩ := t
  have HR : Hid (decide ((⟨n1, t1, f1, a1, l1, s1, k1, i1, e1, d1⟩ : SecM) = ⟨n2, t2, f2, a2, l2, s2, k2, i2, e2, d2⟩) = (decide (d1 = d2) && (n1 == n2) && ((t1 : Int) == (t2 : Int)) && ((f1 : Int) == (f2 : Int)) && ((a1 : Int) == (a2 : Int)) && ((l1 : Int) == (l2 : Int)) && ((s1 : Int) == (s2 : Int)) && ((k1 : Int) == (k2 : Int)) && ((i1 : Int) == (i2 : Int)) && ((e1 : Int) == (e2 : Int)))) := by
    show _ = _
    rw [Bool.eq_iff_iff]
    simp only [decide_eq_true_eq, SecM.mk.injEq, Bool.and_eq_true, beq_iff_eq, Int.natCast_inj]
    constructor
    · rintro ⟨h1, h2, h3, h4, h5, h6, h7, h8, h9, h10⟩
      exact ⟨⟨⟨⟨⟨⟨⟨⟨⟨h10, h1⟩, h2⟩, h3⟩, h4⟩, h5⟩, h6⟩, h7⟩, h8⟩, h9⟩
    · rintro ⟨⟨⟨⟨⟨⟨⟨⟨⟨h10, h1⟩, h2⟩, h3⟩, h4⟩, h5⟩, h6⟩, h7⟩, h8⟩, h9⟩
      exact ⟨h1, h2, h3, h4, h5, h6, h7, h8, h9, h10⟩
  clear hd hu
  cases hq0 : decide (d1 = d2) with
  | false =>
    rw [hq0] at HQ HR
    clear hq0
    (try simp only [Bool.false_and] at HR)
    go_enter Try.func86, Try.ntmps86
    go_wp2_with (first
      | ((with_reducible show wpList _ _ _ (⟨some 2, .box _ _, _, _, _, _⟩ :: _) _ _); go_must (refine wpList_box rfl ?_; intro w1 hx1 hb1 hs1; have HX1 := Lib.hid hx1; have HB1 := Lib.hid hb1; clear hx1 hb1))
      | ((with_reducible show wpList _ _ _ (⟨some 3, .box _ _, _, _, _, _⟩ :: _) _ _); go_must (refine wpList_box rfl ?_; intro w2 hx2 hb2 hs2; have HB2 := Lib.hid (HB1.out.trans (hb2.mono HB1.out.size)); obtain ⟨c0, c1, c2, c3, c4, c5, c6, c7, c8, c9⟩ := sec_box (x := (⟨n1, t1, f1, a1, l1, s1, k1, i1, e1, d1⟩, dv)) (heap_below hb2 HX1.out); obtain ⟨z0, z1, z2, z3, z4, z5, z6, z7, z8, z9⟩ := sec_box (x := (⟨n2, t2, f2, a2, l2, s2, k2, i2, e2, d2⟩, du)) hx2; clear hx2 hb2))
      | (go_at_call 63; refine (HQ.out _ HB2.out).mono ?_; rintro r w3 ⟨rfl, rfl⟩))
    go_ret
    exact ⟨by rw [HR.out]; rfl, HB2.out⟩
  | true =>
    rw [hq0] at HQ HR
    clear hq0
    (try simp only [Bool.true_and] at HR)
    cases hq1 : (n1 == n2) with
    | false =>
      rw [hq1] at HR
      (try simp only [Bool.false_and] at HR)
      go_enter Try.func86, Try.ntmps86
      go_wp2_with (first
        | ((with_reducible show wpList _ _ _ (⟨some 2, .box _ _, _, _, _, _⟩ :: _) _ _); go_must (refine wpList_box rfl ?_; intro w1 hx1 hb1 hs1; have HX1 := Lib.hid hx1; have HB1 := Lib.hid hb1; clear hx1 hb1))
        | ((with_reducible show wpList _ _ _ (⟨some 3, .box _ _, _, _, _, _⟩ :: _) _ _); go_must (refine wpList_box rfl ?_; intro w2 hx2 hb2 hs2; have HB2 := Lib.hid (HB1.out.trans (hb2.mono HB1.out.size)); obtain ⟨c0, c1, c2, c3, c4, c5, c6, c7, c8, c9⟩ := sec_box (x := (⟨n1, t1, f1, a1, l1, s1, k1, i1, e1, d1⟩, dv)) (heap_below hb2 HX1.out); obtain ⟨z0, z1, z2, z3, z4, z5, z6, z7, z8, z9⟩ := sec_box (x := (⟨n2, t2, f2, a2, l2, s2, k2, i2, e2, d2⟩, du)) hx2; clear hx2 hb2))
        | (go_at_call 63; refine (HQ.out _ HB2.out).mono ?_; rintro r w3 ⟨rfl, rfl⟩))
      go_ret
      exact ⟨by rw [HR.out]; rfl, HB2.out⟩
    | true =>
      rw [hq1] at HR
      (try simp only [Bool.true_and] at HR)
      cases hq2 : ((t1 : Int) == (t2 : Int)) with
      | false =>
        rw [hq2] at HR
        (try simp only [Bool.false_and] at HR)
        go_enter Try.func86, Try.ntmps86
        go_wp2_with (first
          | ((with_reducible show wpList _ _ _ (⟨some 2, .box _ _, _, _, _, _⟩ :: _) _ _); go_must (refine wpList_box rfl ?_; intro w1 hx1 hb1 hs1; have HX1 := Lib.hid hx1; have HB1 := Lib.hid hb1; clear hx1 hb1))
          | ((with_reducible show wpList _ _ _ (⟨some 3, .box _ _, _, _, _, _⟩ :: _) _ _); go_must (refine wpList_box rfl ?_; intro w2 hx2 hb2 hs2; have HB2 := Lib.hid (HB1.out.trans (hb2.mono HB1.out.size)); obtain ⟨c0, c1, c2, c3, c4, c5, c6, c7, c8, c9⟩ := sec_box (x := (⟨n1, t1, f1, a1, l1, s1, k1, i1, e1, d1⟩, dv)) (heap_below hb2 HX1.out); obtain ⟨z0, z1, z2, z3, z4, z5, z6, z7, z8, z9⟩ := sec_box (x := (⟨n2, t2, f2, a2, l2, s2, k2, i2, e2, d2⟩, du)) hx2; clear hx2 hb2))
          | (go_at_call 63; refine (HQ.out _ HB2.out).mono ?_; rintro r w3 ⟨rfl, rfl⟩))
        go_ret
        exact ⟨by rw [HR.out]; rfl, HB2.out⟩
      | true =>
        rw [hq2] at HR
        (try simp only [Bool.true_and] at HR)
        cases hq3 : ((f1 : Int) == (f2 : Int)) with
        | false =>
          rw [hq3] at HR
          (try simp only [Bool.false_and] at HR)
          go_enter Try.func86, Try.ntmps86
          go_wp2_with (first
            | ((with_reducible show wpList _ _ _ (⟨some 2, .box _ _, _, _, _, _⟩ :: _) _ _); go_must (refine wpList_box rfl ?_; intro w1 hx1 hb1 hs1; have HX1 := Lib.hid hx1; have HB1 := Lib.hid hb1; clear hx1 hb1))
            | ((with_reducible show wpList _ _ _ (⟨some 3, .box _ _, _, _, _, _⟩ :: _) _ _); go_must (refine wpList_box rfl ?_; intro w2 hx2 hb2 hs2; have HB2 := Lib.hid (HB1.out.trans (hb2.mono HB1.out.size)); obtain ⟨c0, c1, c2, c3, c4, c5, c6, c7, c8, c9⟩ := sec_box (x := (⟨n1, t1, f1, a1, l1, s1, k1, i1, e1, d1⟩, dv)) (heap_below hb2 HX1.out); obtain ⟨z0, z1, z2, z3, z4, z5, z6, z7, z8, z9⟩ := sec_box (x := (⟨n2, t2, f2, a2, l2, s2, k2, i2, e2, d2⟩, du)) hx2; clear hx2 hb2))
            | (go_at_call 63; refine (HQ.out _ HB2.out).mono ?_; rintro r w3 ⟨rfl, rfl⟩))
          go_ret
          exact ⟨by rw [HR.out]; rfl, HB2.out⟩
        | true =>
          rw [hq3] at HR
          (try simp only [Bool.true_and] at HR)
          cases hq4 : ((a1 : Int) == (a2 : Int)) with
          | false =>
            rw [hq4] at HR
            (try simp only [Bool.false_and] at HR)
            go_enter Try.func86, Try.ntmps86
            go_wp2_with (first
              | ((with_reducible show wpList _ _ _ (⟨some 2, .box _ _, _, _, _, _⟩ :: _) _ _); go_must (refine wpList_box rfl ?_; intro w1 hx1 hb1 hs1; have HX1 := Lib.hid hx1; have HB1 := Lib.hid hb1; clear hx1 hb1))
              | ((with_reducible show wpList _ _ _ (⟨some 3, .box _ _, _, _, _, _⟩ :: _) _ _); go_must (refine wpList_box rfl ?_; intro w2 hx2 hb2 hs2; have HB2 := Lib.hid (HB1.out.trans (hb2.mono HB1.out.size)); obtain ⟨c0, c1, c2, c3, c4, c5, c6, c7, c8, c9⟩ := sec_box (x := (⟨n1, t1, f1, a1, l1, s1, k1, i1, e1, d1⟩, dv)) (heap_below hb2 HX1.out); obtain ⟨z0, z1, z2, z3, z4, z5, z6, z7, z8, z9⟩ := sec_box (x := (⟨n2, t2, f2, a2, l2, s2, k2, i2, e2, d2⟩, du)) hx2; clear hx2 hb2))
              | (go_at_call 63; refine (HQ.out _ HB2.out).mono ?_; rintro r w3 ⟨rfl, rfl⟩))
            go_ret
            exact ⟨by rw [HR.out]; rfl, HB2.out⟩
          | true =>
            rw [hq4] at HR
            (try simp only [Bool.true_and] at HR)
            cases hq5 : ((l1 : Int) == (l2 : Int)) with
            | false =>
              rw [hq5] at HR
              (try simp only [Bool.false_and] at HR)
              go_enter Try.func86, Try.ntmps86
              go_wp2_with (first
                | ((with_reducible show wpList _ _ _ (⟨some 2, .box _ _, _, _, _, _⟩ :: _) _ _); go_must (refine wpList_box rfl ?_; intro w1 hx1 hb1 hs1; have HX1 := Lib.hid hx1; have HB1 := Lib.hid hb1; clear hx1 hb1))
                | ((with_reducible show wpList _ _ _ (⟨some 3, .box _ _, _, _, _, _⟩ :: _) _ _); go_must (refine wpList_box rfl ?_; intro w2 hx2 hb2 hs2; have HB2 := Lib.hid (HB1.out.trans (hb2.mono HB1.out.size)); obtain ⟨c0, c1, c2, c3, c4, c5, c6, c7, c8, c9⟩ := sec_box (x := (⟨n1, t1, f1, a1, l1, s1, k1, i1, e1, d1⟩, dv)) (heap_below hb2 HX1.out); obtain ⟨z0, z1, z2, z3, z4, z5, z6, z7, z8, z9⟩ := sec_box (x := (⟨n2, t2, f2, a2, l2, s2, k2, i2, e2, d2⟩, du)) hx2; clear hx2 hb2))
                | (go_at_call 63; refine (HQ.out _ HB2.out).mono ?_; rintro r w3 ⟨rfl, rfl⟩))
              go_ret
              exact ⟨by rw [HR.out]; rfl, HB2.out⟩
            | true =>
              rw [hq5] at HR
              (try simp only [Bool.true_and] at HR)
              cases hq6 : ((s1 : Int) == (s2 : Int)) with
              | false =>
                rw [hq6] at HR
                (try simp only [Bool.false_and] at HR)
                go_enter Try.func86, Try.ntmps86
                go_wp2_with (first
                  | ((with_reducible show wpList _ _ _ (⟨some 2, .box _ _, _, _, _, _⟩ :: _) _ _); go_must (refine wpList_box rfl ?_; intro w1 hx1 hb1 hs1; have HX1 := Lib.hid hx1; have HB1 := Lib.hid hb1; clear hx1 hb1))
                  | ((with_reducible show wpList _ _ _ (⟨some 3, .box _ _, _, _, _, _⟩ :: _) _ _); go_must (refine wpList_box rfl ?_; intro w2 hx2 hb2 hs2; have HB2 := Lib.hid (HB1.out.trans (hb2.mono HB1.out.size)); obtain ⟨c0, c1, c2, c3, c4, c5, c6, c7, c8, c9⟩ := sec_box (x := (⟨n1, t1, f1, a1, l1, s1, k1, i1, e1, d1⟩, dv)) (heap_below hb2 HX1.out); obtain ⟨z0, z1, z2, z3, z4, z5, z6, z7, z8, z9⟩ := sec_box (x := (⟨n2, t2, f2, a2, l2, s2, k2, i2, e2, d2⟩, du)) hx2; clear hx2 hb2))
                  | (go_at_call 63; refine (HQ.out _ HB2.out).mono ?_; rintro r w3 ⟨rfl, rfl⟩))
                go_ret
                exact ⟨by rw [HR.out]; rfl, HB2.out⟩
              | true =>
                rw [hq6] at HR
                (try simp only [Bool.true_and] at HR)
                cases hq7 : ((k1 : Int) == (k2 : Int)) with
                | false =>
                  rw [hq7] at HR
                  (try simp only [Bool.false_and] at HR)
                  go_enter Try.func86, Try.ntmps86
                  go_wp2_with (first
                    | ((with_reducible show wpList _ _ _ (⟨some 2, .box _ _, _, _, _, _⟩ :: _) _ _); go_must (refine wpList_box rfl ?_; intro w1 hx1 hb1 hs1; have HX1 := Lib.hid hx1; have HB1 := Lib.hid hb1; clear hx1 hb1))
                    | ((with_reducible show wpList _ _ _ (⟨some 3, .box _ _, _, _, _, _⟩ :: _) _ _); go_must (refine wpList_box rfl ?_; intro w2 hx2 hb2 hs2; have HB2 := Lib.hid (HB1.out.trans (hb2.mono HB1.out.size)); obtain ⟨c0, c1, c2, c3, c4, c5, c6, c7, c8, c9⟩ := sec_box (x := (⟨n1, t1, f1, a1, l1, s1, k1, i1, e1, d1⟩, dv)) (heap_below hb2 HX1.out); obtain ⟨z0, z1, z2, z3, z4, z5, z6, z7, z8, z9⟩ := sec_box (x := (⟨n2, t2, f2, a2, l2, s2, k2, i2, e2, d2⟩, du)) hx2; clear hx2 hb2))
                    | (go_at_call 63; refine (HQ.out _ HB2.out).mono ?_; rintro r w3 ⟨rfl, rfl⟩))
                  go_ret
                  exact ⟨by rw [HR.out]; rfl, HB2.out⟩
                | true =>
                  rw [hq7] at HR
                  (try simp only [Bool.true_and] at HR)
                  cases hq8 : ((i1 : Int) == (i2 : Int)) with
                  | false =>
                    rw [hq8] at HR
                    (try simp only [Bool.false_and] at HR)
                    go_enter Try.func86, Try.ntmps86
                    go_wp2_with (first
                      | ((with_reducible show wpList _ _ _ (⟨some 2, .box _ _, _, _, _, _⟩ :: _) _ _); go_must (refine wpList_box rfl ?_; intro w1 hx1 hb1 hs1; have HX1 := Lib.hid hx1; have HB1 := Lib.hid hb1; clear hx1 hb1))
                      | ((with_reducible show wpList _ _ _ (⟨some 3, .box _ _, _, _, _, _⟩ :: _) _ _); go_must (refine wpList_box rfl ?_; intro w2 hx2 hb2 hs2; have HB2 := Lib.hid (HB1.out.trans (hb2.mono HB1.out.size)); obtain ⟨c0, c1, c2, c3, c4, c5, c6, c7, c8, c9⟩ := sec_box (x := (⟨n1, t1, f1, a1, l1, s1, k1, i1, e1, d1⟩, dv)) (heap_below hb2 HX1.out); obtain ⟨z0, z1, z2, z3, z4, z5, z6, z7, z8, z9⟩ := sec_box (x := (⟨n2, t2, f2, a2, l2, s2, k2, i2, e2, d2⟩, du)) hx2; clear hx2 hb2))
                      | (go_at_call 63; refine (HQ.out _ HB2.out).mono ?_; rintro r w3 ⟨rfl, rfl⟩))
                    go_ret
                    exact ⟨by rw [HR.out]; rfl, HB2.out⟩
                  | true =>
                    rw [hq8] at HR
                    (try simp only [Bool.true_and] at HR)
                    cases hq9 : ((e1 : Int) == (e2 : Int)) with
                    | false =>
                      rw [hq9] at HR
                      (try simp only [Bool.and_false, Bool.false_and, Bool.true_and, Bool.and_true] at HR)
                      go_enter Try.func86, Try.ntmps86
                      go_wp2_with (first
                        | ((with_reducible show wpList _ _ _ (⟨some 2, .box _ _, _, _, _, _⟩ :: _) _ _); go_must (refine wpList_box rfl ?_; intro w1 hx1 hb1 hs1; have HX1 := Lib.hid hx1; have HB1 := Lib.hid hb1; clear hx1 hb1))
                        | ((with_reducible show wpList _ _ _ (⟨some 3, .box _ _, _, _, _, _⟩ :: _) _ _); go_must (refine wpList_box rfl ?_; intro w2 hx2 hb2 hs2; have HB2 := Lib.hid (HB1.out.trans (hb2.mono HB1.out.size)); obtain ⟨c0, c1, c2, c3, c4, c5, c6, c7, c8, c9⟩ := sec_box (x := (⟨n1, t1, f1, a1, l1, s1, k1, i1, e1, d1⟩, dv)) (heap_below hb2 HX1.out); obtain ⟨z0, z1, z2, z3, z4, z5, z6, z7, z8, z9⟩ := sec_box (x := (⟨n2, t2, f2, a2, l2, s2, k2, i2, e2, d2⟩, du)) hx2; clear hx2 hb2))
                        | (go_at_call 63; refine (HQ.out _ HB2.out).mono ?_; rintro r w3 ⟨rfl, rfl⟩))
                      go_ret
                      exact ⟨by rw [HR.out]; rfl, HB2.out⟩
                    | true =>
                      rw [hq9] at HR
                      (try simp only [Bool.true_and] at HR)
                      go_enter Try.func86, Try.ntmps86
                      go_wp2_with (first
                        | ((with_reducible show wpList _ _ _ (⟨some 2, .box _ _, _, _, _, _⟩ :: _) _ _); go_must (refine wpList_box rfl ?_; intro w1 hx1 hb1 hs1; have HX1 := Lib.hid hx1; have HB1 := Lib.hid hb1; clear hx1 hb1))
                        | ((with_reducible show wpList _ _ _ (⟨some 3, .box _ _, _, _, _, _⟩ :: _) _ _); go_must (refine wpList_box rfl ?_; intro w2 hx2 hb2 hs2; have HB2 := Lib.hid (HB1.out.trans (hb2.mono HB1.out.size)); obtain ⟨c0, c1, c2, c3, c4, c5, c6, c7, c8, c9⟩ := sec_box (x := (⟨n1, t1, f1, a1, l1, s1, k1, i1, e1, d1⟩, dv)) (heap_below hb2 HX1.out); obtain ⟨z0, z1, z2, z3, z4, z5, z6, z7, z8, z9⟩ := sec_box (x := (⟨n2, t2, f2, a2, l2, s2, k2, i2, e2, d2⟩, du)) hx2; clear hx2 hb2))
                        | (go_at_call 63; refine (HQ.out _ HB2.out).mono ?_; rintro r w3 ⟨rfl, rfl⟩))
                      go_ret
                      exact ⟨by rw [HR.out]; rfl, HB2.out⟩
end Go.Proofs.Ytgjoimcgiofinaa
