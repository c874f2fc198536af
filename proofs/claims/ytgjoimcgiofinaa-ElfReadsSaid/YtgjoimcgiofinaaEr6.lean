/-
  Part 6 of 8: laws and walks for elfReads_holds; no condition of its own.
-/
import Derived.Test.YtgjoimcgiofinaaEr5
namespace Go.Proofs.Ytgjoimcgiofinaa
open Go.RowKit Go.Fd
set_option maxRecDepth 100000 in
theorem neq_seg (x y : SegM) (p q : Operand) (w : World) : (do eqGuard .neq 99 p q (.agg (encSeg x).toArray) (.agg (encSeg y).toArray); binOp .neq 99 (.agg (encSeg x).toArray) (.agg (encSeg y).toArray) : Sem Value).run Try.prog w = .ok (.bool (!decide (x = y))) w := by
  have h1 : Try.prog.eqGuardType Try.prog.depth 99 = false := by kernel_rfl
  have h2 : Try.prog.stoodInHeld 99 = false := by kernel_rfl
  have h3 : (Try.prog.fieldsOf 99).toList.map (fun f => (f.name, f.type, f.offset)) = [("Type", 57, 0), ("Flags", 57, 1), ("Off", 53, 2), ("Vaddr", 53, 3), ("Filesz", 53, 4), ("Memsz", 53, 5), ("Align", 53, 6)] := by kernel_rfl
  have h4 : Try.prog.underlying 99 = some (.struct (Try.prog.fieldsOf 99)) := by kernel_rfl
  have a57 : ∀ w, (isAgg 57).run Try.prog w = .ok false w := fun w => by kernel_rfl
  have a53 : ∀ w, (isAgg 53).run Try.prog w = .ok false w := fun w => by kernel_rfl
  have u57 : Try.prog.underlying 57 = some (.int .u32) := by kernel_rfl
  have u53 : Try.prog.underlying 53 = some (.int .u64) := by kernel_rfl
  have h5 := run_eqFields_flat (P := Try.prog) (d := 9999) (xs := (encSeg x).toArray) (ys := (encSeg y).toArray) (w := w) _ _ [(x.typ : Int) == y.typ, (x.flags : Int) == y.flags, (x.off : Int) == y.off, (x.vaddr : Int) == y.vaddr, (x.filesz : Int) == y.filesz, (x.memsz : Int) == y.memsz, (x.align : Int) == y.align] h3
    ⟨by decide, a57 w, ⟨_, _, rfl, rfl, run_equalIn_int w 9998 _ _ _ _ _ u57⟩, by decide, a57 w, ⟨_, _, rfl, rfl, run_equalIn_int w 9998 _ _ _ _ _ u57⟩, by decide, a53 w, ⟨_, _, rfl, rfl, run_equalIn_int w 9998 _ _ _ _ _ u53⟩, by decide, a53 w, ⟨_, _, rfl, rfl, run_equalIn_int w 9998 _ _ _ _ _ u53⟩, by decide, a53 w, ⟨_, _, rfl, rfl, run_equalIn_int w 9998 _ _ _ _ _ u53⟩, by decide, a53 w, ⟨_, _, rfl, rfl, run_equalIn_int w 9998 _ _ _ _ _ u53⟩, by decide, a53 w, ⟨_, _, rfl, rfl, run_equalIn_int w 9998 _ _ _ _ _ u53⟩, trivial⟩
  rw [Sem.run_bind, run_eqGuard_agg _ _ _ _ _ _ _ h1, Result.andThen_ok, run_neq_struct, run_equalIn_agg _ 9999 _ _ _ h4 h2, h5, Result.andThen_ok]
  congr 3
  rw [Bool.eq_iff_iff, decide_eq_true_iff]
  cases x
  cases y
  simp
  omega
set_option maxRecDepth 100000 in
theorem segsEq_any (l m : List SegM) (v u : Value) (w : World) (hl : l.length ≤ 1000000000) (hm : m.length ≤ 1000000000) (hv : RdR 7 encSeg w v l) (hu : RdR 7 encSeg w u m) :
    Calls Try.prog 88 #[v, u] w fun e w' => e = .returned (.bool (decide (l = m))) ∧ Below w.heap.size w w' := by
  obtain ⟨a, ca, rfl, hca, hna, hc⟩ := hv.open (fun _ => rfl)
  obtain ⟨b, cb, rfl, hcb, hnb, hd⟩ := hu.open (fun _ => rfl)
  have HC := Lib.hid hc
  have HD := Lib.hid hd
  clear hc hd hna hnb hv hu
  obtain ⟨nl, hnl⟩ : ∃ n, n = l.length := ⟨_, rfl⟩
  obtain ⟨nm, hnm⟩ : ∃ n, n = m.length := ⟨_, rfl⟩
  rw [← hnl] at hl hca ⊢
  rw [← hnm] at hm hcb ⊢
  have HL := Lib.hid hnl
  have HM := Lib.hid hnm
  clear hnl hnm
  by_cases hlen : nl = nm
  · subst hlen
    go_enter Try.func88, Try.ntmps88
    go_wp2
    go_loopw [13] (fun i wr => ∃ k : Nat, i = .int .i64 k ∧ k ≤ nl ∧ Hid (l.take k = m.take k) ∧ Hid (Below w.heap.size w wr)) (fun i _ => nl - (intOf i).toNat)
    case atStart => exact ⟨0, rfl, Nat.zero_le _, by simp [Hid], Below.refl _ _⟩
    case round =>
      obtain ⟨k, rfl, hk, HT, HB⟩ := hrel
      by_cases hlt : k < nl
      · have X1 := Lib.hid (show l[k]? = some (l[k]'(by have := HL.out; omega)) from List.getElem?_eq_getElem _)
        have X2 := Lib.hid (show m[k]? = some (m[k]'(by have := HM.out; omega)) from List.getElem?_eq_getElem _)
        generalize l[k]'(by have := HL.out; omega) = x at *
        generalize m[k]'(by have := HM.out; omega) = y at *
        obtain ⟨b1, o1, ha, hc1⟩ := HC.out k x X1.out (by decide)
        obtain ⟨b2, o2, hb, hc2⟩ := HD.out k y X2.out (by decide)
        subst ha hb
        have hd1 : ∀ c v, (encSeg x)[c]? = some v → wr.cell? ⟨b1, o1 + k * 7 + c, none⟩ = some v := fun c v h => by
          have h6 : c < 7 := (List.getElem?_eq_some_iff.1 h).1
          have := (hc1 c h6).trans h
          rw [← Nat.add_assoc] at this
          exact (HB.out.cell (block_lt this)).trans this
        have hd2 : ∀ c v, (encSeg y)[c]? = some v → wr.cell? ⟨b2, o2 + k * 7 + c, none⟩ = some v := fun c v h => by
          have h6 : c < 7 := (List.getElem?_eq_some_iff.1 h).1
          have := (hc2 c h6).trans h
          rw [← Nat.add_assoc] at this
          exact (HB.out.cell (block_lt this)).trans this
        have c10 := hd1 0 _ rfl
        have c11 := hd1 1 _ rfl
        have c12 := hd1 2 _ rfl
        have c13 := hd1 3 _ rfl
        have c14 := hd1 4 _ rfl
        have c15 := hd1 5 _ rfl
        have c16 := hd1 6 _ rfl
        have c20 := hd2 0 _ rfl
        have c21 := hd2 1 _ rfl
        have c22 := hd2 2 _ rfl
        have c23 := hd2 3 _ rfl
        have c24 := hd2 4 _ rfl
        have c25 := hd2 5 _ rfl
        have c26 := hd2 6 _ rfl
        rw [Nat.add_zero] at c10 c20
        clear hc1 hc2 hd1 hd2
        go_wp2
        refine wp_region_quiet_lit (by kernel_rfl) (by kernel_rfl) ?_
        repeat (first
          | ((with_reducible show wpQuiet _ _ _ _ (⟨some 24, _, _, _, _, _⟩ :: _) _); refine wpQuiet_run rfl (by rintro _ ⟨n, rfl⟩; exact run_bin rfl rfl (neq_seg x y _ _ _)) ?_)
          | quiet_step (fail))
        refine wpQuiet_nil ?_
        rintro _ ⟨nq, rfl⟩
        by_cases hxy : x = y
        · rw [show (!decide (x = y)) = false by simpa using hxy]
          have HN := Lib.hid (take_step X1.out X2.out HT.out hxy)
          clear hxy
          go_wp2
          go_roundw
          case rel =>
            first
              | exact ⟨k + 1, by go_num, by omega, HN.out, HB.out.drewN _⟩
              | ((repeat apply Exists.intro); exact ⟨⟨k + 1, by go_num, by omega, HN.out, HB.out.drewN _⟩, rfl⟩)
          case measure => simp [intOf] <;> omega
        · rw [show (!decide (x = y)) = true by simpa using hxy]
          have HN := Lib.hid (show decide (l = m) = false by
            rw [decide_eq_false_iff_not]
            intro e
            subst e
            have h1 := X1.out
            rw [X2.out] at h1
            exact hxy (Option.some.inj h1).symm)
          clear hxy
          go_wp2
          go_ret
          exact ⟨by rw [HN.out]; rfl, HB.out.drewN _⟩
      · have HN := Lib.hid (show decide (l = m) = true by
          rw [decide_eq_true_iff]
          have e : k = nl := by omega
          have := HT.out
          rw [e, List.take_of_length_le (by have := HL.out; omega), List.take_of_length_le (by have := HM.out; omega)] at this
          exact this)
        go_wp2
        go_ret
        exact ⟨by rw [HN.out]; rfl, HB.out⟩
  · have HN := Lib.hid (show decide (l = m) = false by
      rw [decide_eq_false_iff_not]
      intro e
      subst e
      exact hlen (HL.out.trans HM.out.symm))
    go_enter Try.func88, Try.ntmps88
    go_wp2
    go_ret
    exact ⟨by rw [HN.out]; rfl, Below.refl _ _⟩
set_option maxHeartbeats 4000000 in
set_option maxRecDepth 100000 in
theorem secsEq_any (L M : List (SecM × Value)) (v u : Value) (w : World) (hl : L.length ≤ 1000000000) (hm : M.length ≤ 1000000000) (hv : RdR 10 encSec w v L) (hu : RdR 10 encSec w u M) (hdl : ∀ p ∈ L, Bs w p.2 p.1.data) (hdm : ∀ p ∈ M, Bs w p.2 p.1.data) :
    Calls Try.prog 87 #[v, u, .func (.func 86) #[] #[]] w fun e w' => e = .returned (.bool (decide (L.map (·.1) = M.map (·.1)))) ∧ Below w.heap.size w w' := by
  obtain ⟨a, ca, rfl, hca, hna, hc⟩ := hv.open (fun _ => rfl)
  obtain ⟨b, cb, rfl, hcb, hnb, hd⟩ := hu.open (fun _ => rfl)
  have HC := Lib.hid hc
  have HD := Lib.hid hd
  have HDL := Lib.hid hdl
  have HDM := Lib.hid hdm
  clear hc hd hna hnb hv hu hdl hdm
  obtain ⟨nl, hnl⟩ : ∃ n, n = L.length := ⟨_, rfl⟩
  obtain ⟨nm, hnm⟩ : ∃ n, n = M.length := ⟨_, rfl⟩
  rw [← hnl] at hl hca ⊢
  rw [← hnm] at hm hcb ⊢
  have HL := Lib.hid hnl
  have HM := Lib.hid hnm
  clear hnl hnm
  by_cases hlen : nl = nm
  · subst hlen
    go_enter Try.func87, Try.ntmps87
    go_wp2
    go_loopw [17] (fun i wr => ∃ k : Nat, i = .int .i64 k ∧ k ≤ nl ∧ Hid ((L.map (·.1)).take k = (M.map (·.1)).take k) ∧ Hid (Below w.heap.size w wr)) (fun i _ => nl - (intOf i).toNat)
    case atStart => exact ⟨0, rfl, Nat.zero_le _, by simp [Hid], Below.refl _ _⟩
    case round =>
      obtain ⟨k, rfl, hk, HT, HB⟩ := hrel
      by_cases hlt : k < nl
      · have X1 := Lib.hid (show L[k]? = some (L[k]'(by have := HL.out; omega)) from List.getElem?_eq_getElem _)
        have X2 := Lib.hid (show M[k]? = some (M[k]'(by have := HM.out; omega)) from List.getElem?_eq_getElem _)
        generalize L[k]'(by have := HL.out; omega) = x at *
        generalize M[k]'(by have := HM.out; omega) = y at *
        have HDX := Lib.hid (HDL.out _ (List.mem_of_getElem? X1.out))
        have HDY := Lib.hid (HDM.out _ (List.mem_of_getElem? X2.out))
        have Y1 := Lib.hid (show (L.map (·.1))[k]? = some x.1 by rw [List.getElem?_map, X1.out]; rfl)
        have Y2 := Lib.hid (show (M.map (·.1))[k]? = some y.1 by rw [List.getElem?_map, X2.out]; rfl)
        obtain ⟨b1, o1, ha, c0, c1, c2, c3, c4, c5, c6, c7, c8, c9, -⟩ := sec_cells HC.out HB.out X1.out
        obtain ⟨b2, o2, hb, z0, z1, z2, z3, z4, z5, z6, z7, z8, z9, hbz⟩ := sec_cells HD.out HB.out X2.out
        subst ha hb
        obtain ⟨s, dv⟩ := x
        obtain ⟨t, du⟩ := y
        obtain ⟨m1, q1, r1, hm1, rfl, _, _⟩ := HDX.out.shape
        obtain ⟨m2, q2, r2, hm2, rfl, _, _⟩ := HDY.out.shape
        have HQ := Lib.hid (fun w' (hb : Below w.heap.size w w') => secSame_any s t (.slice q1 m1 r1) (.slice q2 m2 r2) w' (HDX.out.mono hb) (HDY.out.mono hb))
        have hbw : b2 < wr.heap.size := block_lt z0
        obtain ⟨n1, t1, f1, a1, l1, s1, k1, i1, e1, d1⟩ := s
        obtain ⟨n2, t2, f2, a2, l2, s2, k2, i2, e2, d2⟩ := t
        dsimp only at *
        generalize hqq : decide ((⟨n1, t1, f1, a1, l1, s1, k1, i1, e1, d1⟩ : SecM) = ⟨n2, t2, f2, a2, l2, s2, k2, i2, e2, d2⟩) = qq at *
        have HQQ := Lib.hid hqq
        clear hqq
        cases qq with
        | true =>
          have HN := Lib.hid (take_step Y1.out Y2.out HT.out (of_decide_eq_true HQQ.out))
          go_wp2_with (first
            | ((with_reducible show wpList _ _ _ (⟨none, .store _ (.tmp 8) _, _, _, _, _⟩ :: _) _ _); go_must (refine wpList_storeNew rfl rfl (by kernel_rfl) rfl (by simp [Value.oneCell']) ?_; intro w2 hh2 hb2; have HH2 := Lib.hid hh2; have HB2 := Lib.hid (HB.out.trans (hb2.mono HB.out.size)); have z0' := (hb2.cell (p := ⟨b2, o2 + k * 10, none⟩) hbw).trans z0; have z1' := (hb2.cell (p := ⟨b2, o2 + k * 10 + 1, none⟩) hbw).trans z1; have z2' := (hb2.cell (p := ⟨b2, o2 + k * 10 + 2, none⟩) hbw).trans z2; have z3' := (hb2.cell (p := ⟨b2, o2 + k * 10 + 3, none⟩) hbw).trans z3; have z4' := (hb2.cell (p := ⟨b2, o2 + k * 10 + 4, none⟩) hbw).trans z4; have z5' := (hb2.cell (p := ⟨b2, o2 + k * 10 + 5, none⟩) hbw).trans z5; have z6' := (hb2.cell (p := ⟨b2, o2 + k * 10 + 6, none⟩) hbw).trans z6; have z7' := (hb2.cell (p := ⟨b2, o2 + k * 10 + 7, none⟩) hbw).trans z7; have z8' := (hb2.cell (p := ⟨b2, o2 + k * 10 + 8, none⟩) hbw).trans z8; have z9' := (hb2.cell (p := ⟨b2, o2 + k * 10 + 9, none⟩) hbw).trans z9; clear hh2))
            | ((with_reducible show wpList _ _ _ (⟨none, .store _ (.tmp 9) _, _, _, _, _⟩ :: _) _ _); go_must (refine wpList_storeNew rfl rfl (by kernel_rfl) rfl (by simp [Value.oneCell']) ?_; intro w3 hh3 hb3; have HB3 := Lib.hid (HB2.out.trans (hb3.mono HB2.out.size)); obtain ⟨g0, g1, g2, g3, g4, g5, g6, g7, g8, g9⟩ := sec_box (x := (⟨n1, t1, f1, a1, l1, s1, k1, i1, e1, d1⟩, .slice q1 m1 r1)) (heap_below hb3 HH2.out); obtain ⟨y0, y1, y2, y3, y4, y5, y6, y7, y8, y9⟩ := sec_box (x := (⟨n2, t2, f2, a2, l2, s2, k2, i2, e2, d2⟩, .slice q2 m2 r2)) hh3; clear hh3 hb3))
            | (go_at_call 86; refine (HQ.out _ HB3.out).mono ?_; rintro r w4 ⟨rfl, hb4⟩; have HB4 := Lib.hid (HB3.out.trans (hb4.mono HB3.out.size))))
          go_roundw
          case rel =>
            first
              | exact ⟨k + 1, by go_num, by omega, HN.out, HB4.out⟩
              | ((repeat apply Exists.intro); exact ⟨⟨k + 1, by go_num, by omega, HN.out, HB4.out⟩, rfl⟩)
          case measure => simp [intOf] <;> omega
        | false =>
          have HN := Lib.hid (show decide (L.map (·.1) = M.map (·.1)) = false by
            rw [decide_eq_false_iff_not]
            intro e
            have h1 := Y1.out
            rw [e, Y2.out] at h1
            exact of_decide_eq_false HQQ.out (Option.some.inj h1).symm)
          go_wp2_with (first
            | ((with_reducible show wpList _ _ _ (⟨none, .store _ (.tmp 8) _, _, _, _, _⟩ :: _) _ _); go_must (refine wpList_storeNew rfl rfl (by kernel_rfl) rfl (by simp [Value.oneCell']) ?_; intro w2 hh2 hb2; have HH2 := Lib.hid hh2; have HB2 := Lib.hid (HB.out.trans (hb2.mono HB.out.size)); have z0' := (hb2.cell (p := ⟨b2, o2 + k * 10, none⟩) hbw).trans z0; have z1' := (hb2.cell (p := ⟨b2, o2 + k * 10 + 1, none⟩) hbw).trans z1; have z2' := (hb2.cell (p := ⟨b2, o2 + k * 10 + 2, none⟩) hbw).trans z2; have z3' := (hb2.cell (p := ⟨b2, o2 + k * 10 + 3, none⟩) hbw).trans z3; have z4' := (hb2.cell (p := ⟨b2, o2 + k * 10 + 4, none⟩) hbw).trans z4; have z5' := (hb2.cell (p := ⟨b2, o2 + k * 10 + 5, none⟩) hbw).trans z5; have z6' := (hb2.cell (p := ⟨b2, o2 + k * 10 + 6, none⟩) hbw).trans z6; have z7' := (hb2.cell (p := ⟨b2, o2 + k * 10 + 7, none⟩) hbw).trans z7; have z8' := (hb2.cell (p := ⟨b2, o2 + k * 10 + 8, none⟩) hbw).trans z8; have z9' := (hb2.cell (p := ⟨b2, o2 + k * 10 + 9, none⟩) hbw).trans z9; clear hh2))
            | ((with_reducible show wpList _ _ _ (⟨none, .store _ (.tmp 9) _, _, _, _, _⟩ :: _) _ _); go_must (refine wpList_storeNew rfl rfl (by kernel_rfl) rfl (by simp [Value.oneCell']) ?_; intro w3 hh3 hb3; have HB3 := Lib.hid (HB2.out.trans (hb3.mono HB2.out.size)); obtain ⟨g0, g1, g2, g3, g4, g5, g6, g7, g8, g9⟩ := sec_box (x := (⟨n1, t1, f1, a1, l1, s1, k1, i1, e1, d1⟩, .slice q1 m1 r1)) (heap_below hb3 HH2.out); obtain ⟨y0, y1, y2, y3, y4, y5, y6, y7, y8, y9⟩ := sec_box (x := (⟨n2, t2, f2, a2, l2, s2, k2, i2, e2, d2⟩, .slice q2 m2 r2)) hh3; clear hh3 hb3))
            | (go_at_call 86; refine (HQ.out _ HB3.out).mono ?_; rintro r w4 ⟨rfl, hb4⟩; have HB4 := Lib.hid (HB3.out.trans (hb4.mono HB3.out.size))))
          go_ret
          exact ⟨by rw [HN.out]; rfl, HB4.out⟩
      · have HN := Lib.hid (show decide (L.map (·.1) = M.map (·.1)) = true by
          rw [decide_eq_true_iff]
          have e : k = nl := by omega
          have := HT.out
          rw [e, List.take_of_length_le (by rw [List.length_map]; have := HL.out; omega), List.take_of_length_le (by rw [List.length_map]; have := HM.out; omega)] at this
          exact this)
        go_wp2
        go_ret
        exact ⟨by rw [HN.out]; rfl, HB.out⟩
  · have HN := Lib.hid (show decide (L.map (·.1) = M.map (·.1)) = false by
      rw [decide_eq_false_iff_not]
      intro e
      have := congrArg List.length e
      rw [List.length_map, List.length_map, ← HL.out, ← HM.out] at this
      exact hlen this)
    go_enter Try.func87, Try.ntmps87
    go_wp2
    go_ret
    exact ⟨by rw [HN.out]; rfl, Below.refl _ _⟩
end Go.Proofs.Ytgjoimcgiofinaa
namespace Go.Proofs.Ytgjoimcgiofinaa
open Go.RowKit Go.Fd
set_option maxHeartbeats 4000000 in
set_option maxRecDepth 100000 in
theorem elfSame_any (e f : ElfM) (L M : List (SecM × Value)) (sv gv su gu : Value) (w : World) (h : ElfAt w e L sv gv) (h' : ElfAt w f M su gu) (hl : L.length ≤ 1000000000) (hm : M.length ≤ 1000000000) (hg : e.segs.length ≤ 1000000000) (hg' : f.segs.length ≤ 1000000000) :
    Calls Try.prog 49 #[elfV e sv gv, elfV f su gu] w fun r w' => r = .returned (.bool (decide (e = f))) ∧ Below w.heap.size w w' := by
  have HQ1 := Lib.hid (fun w' (hb : Below w.heap.size w w') => secsEq_any L M sv su w' hl hm (h.rd.mono hb) (h'.rd.mono hb) (fun p hp => (h.data p hp).mono hb) (fun p hp => (h'.data p hp).mono hb))
  have HQ2 := Lib.hid (fun w' (hb : Below w.heap.size w w') => segsEq_any e.segs f.segs gv gu w' hg hg' (h.segs.mono hb) (h'.segs.mono hb))
  have hs1 := h.secs
  have hs2 := h'.secs
  rw [← hs1, ← hs2] at HQ1
  clear h h' hl hm hg hg' hs1 hs2
  obtain ⟨t1, m1, f1, n1, s1, g1⟩ := e
  obtain ⟨t2, m2, f2, n2, s2, g2⟩ := f
  dsimp only at *
  have HR : Hid (decide ((⟨t1, m1, f1, n1, s1, g1⟩ : ElfM) = ⟨t2, m2, f2, n2, s2, g2⟩) = ((t1 == t2) && (m1 == m2) && ((f1 : Int) == (f2 : Int)) && ((n1 : Int) == (n2 : Int)) && decide (s1 = s2) && decide (g1 = g2))) := by
    show _ = _
    rw [Bool.eq_iff_iff]
    simp only [decide_eq_true_eq, ElfM.mk.injEq, Bool.and_eq_true, beq_iff_eq, Int.natCast_inj]
    constructor
    · rintro ⟨h1, h2, h3, h4, h5, h6⟩
      exact ⟨⟨⟨⟨⟨h1, h2⟩, h3⟩, h4⟩, h5⟩, h6⟩
    · rintro ⟨⟨⟨⟨⟨h1, h2⟩, h3⟩, h4⟩, h5⟩, h6⟩
      exact ⟨h1, h2, h3, h4, h5, h6⟩
  generalize decide ((⟨t1, m1, f1, n1, s1, g1⟩ : ElfM) = ⟨t2, m2, f2, n2, s2, g2⟩) = q at *
  cases hq0 : (t1 == t2) with
  | false =>
    rw [hq0] at HR
    (try simp only [Bool.false_and] at HR)
    go_enter Try.func49, Try.ntmps49
    go_wp2_with (first
      | ((with_reducible show wpList _ _ _ (⟨some 2, .box _ _, _, _, _, _⟩ :: _) _ _); go_must (refine wpList_box rfl ?_; intro w1 hx1 hb1 hs1; have HX1 := Lib.hid hx1; have HB1 := Lib.hid hb1; clear hx1 hb1))
      | ((with_reducible show wpList _ _ _ (⟨some 3, .box _ _, _, _, _, _⟩ :: _) _ _); go_must (refine wpList_box rfl ?_; intro w2 hx2 hb2 hs2; have HB2 := Lib.hid (HB1.out.trans (hb2.mono HB1.out.size)); have HX1' := Lib.hid (heap_below hb2 HX1.out); have HX2 := Lib.hid hx2; obtain ⟨c0, c1, c2, c3, c4, c5⟩ := elf_box (e := ⟨t1, m1, f1, n1, s1, g1⟩) HX1'.out; obtain ⟨z0, z1, z2, z3, z4, z5⟩ := elf_box (e := ⟨t2, m2, f2, n2, s2, g2⟩) hx2; clear hx2 hb2)))
    go_ret
    exact ⟨by rw [HR.out]; rfl, HB2.out⟩
  | true =>
    rw [hq0] at HR
    (try simp only [Bool.true_and] at HR)
    cases hq1 : (m1 == m2) with
    | false =>
      rw [hq1] at HR
      (try simp only [Bool.false_and] at HR)
      go_enter Try.func49, Try.ntmps49
      go_wp2_with (first
        | ((with_reducible show wpList _ _ _ (⟨some 2, .box _ _, _, _, _, _⟩ :: _) _ _); go_must (refine wpList_box rfl ?_; intro w1 hx1 hb1 hs1; have HX1 := Lib.hid hx1; have HB1 := Lib.hid hb1; clear hx1 hb1))
        | ((with_reducible show wpList _ _ _ (⟨some 3, .box _ _, _, _, _, _⟩ :: _) _ _); go_must (refine wpList_box rfl ?_; intro w2 hx2 hb2 hs2; have HB2 := Lib.hid (HB1.out.trans (hb2.mono HB1.out.size)); have HX1' := Lib.hid (heap_below hb2 HX1.out); have HX2 := Lib.hid hx2; obtain ⟨c0, c1, c2, c3, c4, c5⟩ := elf_box (e := ⟨t1, m1, f1, n1, s1, g1⟩) HX1'.out; obtain ⟨z0, z1, z2, z3, z4, z5⟩ := elf_box (e := ⟨t2, m2, f2, n2, s2, g2⟩) hx2; clear hx2 hb2)))
      go_ret
      exact ⟨by rw [HR.out]; rfl, HB2.out⟩
    | true =>
      rw [hq1] at HR
      (try simp only [Bool.true_and] at HR)
      cases hq2 : ((f1 : Int) == (f2 : Int)) with
      | false =>
        rw [hq2] at HR
        (try simp only [Bool.false_and] at HR)
        go_enter Try.func49, Try.ntmps49
        go_wp2_with (first
          | ((with_reducible show wpList _ _ _ (⟨some 2, .box _ _, _, _, _, _⟩ :: _) _ _); go_must (refine wpList_box rfl ?_; intro w1 hx1 hb1 hs1; have HX1 := Lib.hid hx1; have HB1 := Lib.hid hb1; clear hx1 hb1))
          | ((with_reducible show wpList _ _ _ (⟨some 3, .box _ _, _, _, _, _⟩ :: _) _ _); go_must (refine wpList_box rfl ?_; intro w2 hx2 hb2 hs2; have HB2 := Lib.hid (HB1.out.trans (hb2.mono HB1.out.size)); have HX1' := Lib.hid (heap_below hb2 HX1.out); have HX2 := Lib.hid hx2; obtain ⟨c0, c1, c2, c3, c4, c5⟩ := elf_box (e := ⟨t1, m1, f1, n1, s1, g1⟩) HX1'.out; obtain ⟨z0, z1, z2, z3, z4, z5⟩ := elf_box (e := ⟨t2, m2, f2, n2, s2, g2⟩) hx2; clear hx2 hb2)))
        go_ret
        exact ⟨by rw [HR.out]; rfl, HB2.out⟩
      | true =>
        rw [hq2] at HR
        (try simp only [Bool.true_and] at HR)
        cases hq3 : ((n1 : Int) == (n2 : Int)) with
        | false =>
          rw [hq3] at HR
          (try simp only [Bool.false_and] at HR)
          go_enter Try.func49, Try.ntmps49
          go_wp2_with (first
            | ((with_reducible show wpList _ _ _ (⟨some 2, .box _ _, _, _, _, _⟩ :: _) _ _); go_must (refine wpList_box rfl ?_; intro w1 hx1 hb1 hs1; have HX1 := Lib.hid hx1; have HB1 := Lib.hid hb1; clear hx1 hb1))
            | ((with_reducible show wpList _ _ _ (⟨some 3, .box _ _, _, _, _, _⟩ :: _) _ _); go_must (refine wpList_box rfl ?_; intro w2 hx2 hb2 hs2; have HB2 := Lib.hid (HB1.out.trans (hb2.mono HB1.out.size)); have HX1' := Lib.hid (heap_below hb2 HX1.out); have HX2 := Lib.hid hx2; obtain ⟨c0, c1, c2, c3, c4, c5⟩ := elf_box (e := ⟨t1, m1, f1, n1, s1, g1⟩) HX1'.out; obtain ⟨z0, z1, z2, z3, z4, z5⟩ := elf_box (e := ⟨t2, m2, f2, n2, s2, g2⟩) hx2; clear hx2 hb2)))
          go_ret
          exact ⟨by rw [HR.out]; rfl, HB2.out⟩
        | true =>
          rw [hq3] at HR
          (try simp only [Bool.true_and] at HR)
          cases hq4 : decide (s1 = s2) with
          | false =>
            rw [hq4] at HR HQ1
            clear hq4
            (try simp only [Bool.false_and] at HR)
            go_enter Try.func49, Try.ntmps49
            go_wp2_with (first
              | ((with_reducible show wpList _ _ _ (⟨some 2, .box _ _, _, _, _, _⟩ :: _) _ _); go_must (refine wpList_box rfl ?_; intro w1 hx1 hb1 hs1; have HX1 := Lib.hid hx1; have HB1 := Lib.hid hb1; clear hx1 hb1))
              | ((with_reducible show wpList _ _ _ (⟨some 3, .box _ _, _, _, _, _⟩ :: _) _ _); go_must (refine wpList_box rfl ?_; intro w2 hx2 hb2 hs2; have HB2 := Lib.hid (HB1.out.trans (hb2.mono HB1.out.size)); have HX1' := Lib.hid (heap_below hb2 HX1.out); have HX2 := Lib.hid hx2; obtain ⟨c0, c1, c2, c3, c4, c5⟩ := elf_box (e := ⟨t1, m1, f1, n1, s1, g1⟩) HX1'.out; obtain ⟨z0, z1, z2, z3, z4, z5⟩ := elf_box (e := ⟨t2, m2, f2, n2, s2, g2⟩) hx2; clear hx2 hb2))
              | (go_at_call 87; refine (HQ1.out _ HB2.out).mono ?_; rintro r w3 ⟨rfl, hb3⟩; have HB3 := Lib.hid (HB2.out.trans (hb3.mono HB2.out.size)); obtain ⟨p0, p1, p2, p3, p4, p5⟩ := elf_box (e := ⟨t1, m1, f1, n1, s1, g1⟩) (heap_below hb3 HX1'.out); obtain ⟨y0, y1, y2, y3, y4, y5⟩ := elf_box (e := ⟨t2, m2, f2, n2, s2, g2⟩) (heap_below hb3 HX2.out); clear hb3))
            go_ret
            exact ⟨by rw [HR.out]; rfl, HB3.out⟩
          | true =>
            rw [hq4] at HR HQ1
            clear hq4
            (try simp only [Bool.true_and] at HR)
            cases hq5 : decide (g1 = g2) with
            | false =>
              rw [hq5] at HR HQ2
              clear hq5
              (try simp only [Bool.and_false, Bool.false_and, Bool.true_and, Bool.and_true] at HR)
              go_enter Try.func49, Try.ntmps49
              go_wp2_with (first
                | ((with_reducible show wpList _ _ _ (⟨some 2, .box _ _, _, _, _, _⟩ :: _) _ _); go_must (refine wpList_box rfl ?_; intro w1 hx1 hb1 hs1; have HX1 := Lib.hid hx1; have HB1 := Lib.hid hb1; clear hx1 hb1))
                | ((with_reducible show wpList _ _ _ (⟨some 3, .box _ _, _, _, _, _⟩ :: _) _ _); go_must (refine wpList_box rfl ?_; intro w2 hx2 hb2 hs2; have HB2 := Lib.hid (HB1.out.trans (hb2.mono HB1.out.size)); have HX1' := Lib.hid (heap_below hb2 HX1.out); have HX2 := Lib.hid hx2; obtain ⟨c0, c1, c2, c3, c4, c5⟩ := elf_box (e := ⟨t1, m1, f1, n1, s1, g1⟩) HX1'.out; obtain ⟨z0, z1, z2, z3, z4, z5⟩ := elf_box (e := ⟨t2, m2, f2, n2, s2, g2⟩) hx2; clear hx2 hb2))
                | (go_at_call 87; refine (HQ1.out _ HB2.out).mono ?_; rintro r w3 ⟨rfl, hb3⟩; have HB3 := Lib.hid (HB2.out.trans (hb3.mono HB2.out.size)); obtain ⟨p0, p1, p2, p3, p4, p5⟩ := elf_box (e := ⟨t1, m1, f1, n1, s1, g1⟩) (heap_below hb3 HX1'.out); obtain ⟨y0, y1, y2, y3, y4, y5⟩ := elf_box (e := ⟨t2, m2, f2, n2, s2, g2⟩) (heap_below hb3 HX2.out); clear hb3)
                | (go_at_call 88; refine (HQ2.out _ HB3.out).mono ?_; rintro r w4 ⟨rfl, hb4⟩; have HB4 := Lib.hid (HB3.out.trans (hb4.mono HB3.out.size))))
              go_ret
              exact ⟨by rw [HR.out]; rfl, HB4.out⟩
            | true =>
              rw [hq5] at HR HQ2
              clear hq5
              (try simp only [Bool.true_and] at HR)
              go_enter Try.func49, Try.ntmps49
              go_wp2_with (first
                | ((with_reducible show wpList _ _ _ (⟨some 2, .box _ _, _, _, _, _⟩ :: _) _ _); go_must (refine wpList_box rfl ?_; intro w1 hx1 hb1 hs1; have HX1 := Lib.hid hx1; have HB1 := Lib.hid hb1; clear hx1 hb1))
                | ((with_reducible show wpList _ _ _ (⟨some 3, .box _ _, _, _, _, _⟩ :: _) _ _); go_must (refine wpList_box rfl ?_; intro w2 hx2 hb2 hs2; have HB2 := Lib.hid (HB1.out.trans (hb2.mono HB1.out.size)); have HX1' := Lib.hid (heap_below hb2 HX1.out); have HX2 := Lib.hid hx2; obtain ⟨c0, c1, c2, c3, c4, c5⟩ := elf_box (e := ⟨t1, m1, f1, n1, s1, g1⟩) HX1'.out; obtain ⟨z0, z1, z2, z3, z4, z5⟩ := elf_box (e := ⟨t2, m2, f2, n2, s2, g2⟩) hx2; clear hx2 hb2))
                | (go_at_call 87; refine (HQ1.out _ HB2.out).mono ?_; rintro r w3 ⟨rfl, hb3⟩; have HB3 := Lib.hid (HB2.out.trans (hb3.mono HB2.out.size)); obtain ⟨p0, p1, p2, p3, p4, p5⟩ := elf_box (e := ⟨t1, m1, f1, n1, s1, g1⟩) (heap_below hb3 HX1'.out); obtain ⟨y0, y1, y2, y3, y4, y5⟩ := elf_box (e := ⟨t2, m2, f2, n2, s2, g2⟩) (heap_below hb3 HX2.out); clear hb3)
                | (go_at_call 88; refine (HQ2.out _ HB3.out).mono ?_; rintro r w4 ⟨rfl, hb4⟩; have HB4 := Lib.hid (HB3.out.trans (hb4.mono HB3.out.size))))
              go_ret
              exact ⟨by rw [HR.out]; rfl, HB4.out⟩
end Go.Proofs.Ytgjoimcgiofinaa
namespace Go.Proofs.Ytgjoimcgiofinaa
open Go.RowKit Go.Fd
abbrev elf1 : ElfM := ⟨1, 1, 0, 0, [], []⟩
abbrev sec2 : SecM := ⟨[97], 1, 0, 0, 8, 1, 0, 0, 0, [1]⟩
abbrev elf2 : ElfM := ⟨1, 2, 0, 0, [sec2], []⟩
set_option maxRecDepth 100000 in
theorem elf1_may : mayE elf1 = true ∧ (fileB elf1).length = 208 := by decide +kernel
set_option maxRecDepth 100000 in
theorem elf2_may : mayE elf2 = true ∧ (placesOf elf2).1 = [64] := by decide +kernel
set_option maxRecDepth 100000 in
theorem elf0_may : mayE elf0 = false := by decide +kernel
theorem elf1_ok : ElfOk elf1 := ⟨⟨by decide, by decide, by decide, by decide, (fun s hs => by cases hs), (fun s hs => by cases hs)⟩, by decide, (fun s hs => by cases hs), by decide, by decide⟩
theorem elf0_ok : ElfOk elf0 := ⟨⟨by decide, by decide, by decide, by decide, (fun s hs => by cases hs), (fun s hs => by cases hs)⟩, by decide, (fun s hs => by cases hs), by decide, by decide⟩
theorem elf2_ok : ElfOk elf2 :=
  ⟨⟨by decide, by decide, by decide, by decide, (fun s hs => by rw [List.mem_singleton] at hs; subst hs; exact ⟨by decide, by decide, by decide, by decide, by decide, by decide, by decide, by decide⟩), (fun s hs => by cases hs)⟩, by decide, (fun s hs => by rw [List.mem_singleton] at hs; subst hs; exact (by decide)), by decide, by decide⟩
theorem nil_at (w : World) (t g : Int) : ElfAt w ⟨t, g, 0, 0, [], []⟩ [] (.slice none 0 0) (.slice none 0 0) := ⟨rfl, RdR.nil _ _ _, (fun p hp => by cases hp), RdR.nil _ _ _⟩
theorem wpList_litB1 {ops : Array Oper} {rest : List Oper} {Q : Exit → Act → World → Prop} {a : Act} {w : World} {d : Option Tmp} {ty : TypeId} {pos : String} {aft : Array Edge}
    (h : ∀ w1, w1.heap[w.heap.size]? = some (.cells #[.int .u8 1] 5 (0, 0)) → Below w.heap.size w w1 → w.heap.size < w1.heap.size → wpList Try.prog ops Q rest (a.put d (.slice (some ⟨w.heap.size, 0, none⟩) 1 1)) w1) :
    wpList Try.prog ops Q (⟨d, .buildSlice 23 1 #[(0, .const (.int .u8 1))], ty, pos, aft, none⟩ :: rest) a w :=
  wpList_val rfl (by kernel_rfl) (h (w.alloc (.cells #[.int .u8 1] 5)) (heap_alloc_last w _) (below_alloc w _) (by rw [World.size_alloc]; omega))
theorem wpList_oneSec {ops : Array Oper} {rest : List Oper} {Q : Exit → Act → World → Prop} {x : Operand} {s : SecM} {p : Option Addr} {m c : Nat} {a : Act} {w : World} {d : Option Tmp} {ty : TypeId} {pos : String} {aft : Array Edge} (hx : a.eval x = secV (s, .slice p m c))
    (h : ∀ w1, w1.heap[w.heap.size]? = some (.cells (encSec (s, .slice p m c)).toArray 69 (0, 0)) → Below w.heap.size w w1 → w.heap.size < w1.heap.size → wpList Try.prog ops Q rest (a.put d (.slice (some ⟨w.heap.size, 0, none⟩) 1 1)) w1) :
    wpList Try.prog ops Q (⟨d, .buildSlice 58 1 #[(0, x)], ty, pos, aft, none⟩ :: rest) a w :=
  wpList_val rfl (run_oneSec hx) (h _ (heap_alloc_last w _) (below_alloc w _) (by rw [World.size_alloc]; omega))
set_option maxHeartbeats 4000000 in
set_option maxRecDepth 100000 in
theorem begun4_any (w : World) : Calls Try.prog 43 #[] w fun e w' => e = .returned (.bool true) ∧ Below w.heap.size w w' := by
  have HW := Lib.hid (fun w => writeE_any elf1 [] (.slice none 0 0) (.slice none 0 0) w (nil_at w 1 1) elf1_ok)
  rw [fileW_ok elf1_may.1] at HW
  have HLB := Lib.hid elf1_may.2
  have HRB := Lib.hid (read_back elf1_may.1 elf1_ok.fits)
  generalize fileB elf1 = B at *
  have HM1 := Lib.hid (fun w => may_any elf1 [] (.slice none 0 0) (.slice none 0 0) w (nil_at w 1 1) elf1_ok)
  rw [elf1_may.1] at HM1
  have HM0 := Lib.hid (fun w => may_any elf0 [] (.slice none 0 0) (.slice none 0 0) w (nil_at w 0 0) elf0_ok)
  rw [elf0_may] at HM0
  go_enter Try.func43, Try.ntmps43
  go_wp2_with (first
    | ((with_reducible show wpList _ _ _ (⟨some 1, .alloc _, _, _, _, _⟩ :: _) _ _); go_must (refine wpList_allocElf ?_; intro w1 hx1 hb1 hs1; have HX1 := Lib.hid hx1; have HB1 := Lib.hid hb1; clear hx1 hb1))
    | ((with_reducible show wpList _ _ _ (⟨none, .store _ (.tmp 1) _, _, _, _, _⟩ :: _) _ _); go_must (refine wpList_storeElfS HX1.out rfl rfl rfl rfl (by simp [Value.oneCell']) ?_; intro w2 hh2 hs2; have HH2 := Lib.hid hh2; have HB2 := Lib.hid (HB1.out.trans (hs2.below HB1.out.size (fun j hj => by rw [hj]; exact Nat.le_refl _))); obtain ⟨c0, c1, c2, c3, c4, c5⟩ := elf_box (e := elf1) (sv := .slice none 0 0) (gv := .slice none 0 0) HH2.out; clear hh2 hs2)))
  refine (HW.out _).mono ?_
  rintro e w3 ⟨v1, rfl, hv1, hb3⟩
  have HR := Lib.hid (readE_any B v1 w3 (by have := HLB.out; omega) hv1.bs)
  have HH3 := Lib.hid (heap_below hb3 HH2.out)
  have HB3 := Lib.hid (HB2.out.trans (hb3.mono HB2.out.size))
  have HL3 := Lib.hid hb3.size
  obtain ⟨m1, a1, q1, hm1, rfl, _, _⟩ := hv1.shape
  obtain rfl : m1 = 208 := by have := hm1.out; have := HLB.out; omega
  clear hv1 hb3 c0 c1 c2 c3 c4 c5
  obtain ⟨c0, c1, c2, c3, c4, c5⟩ := elf_box (e := elf1) (sv := .slice none 0 0) (gv := .slice none 0 0) HH3.out
  go_wp2_with fail
  refine HR.out.mono ?_
  rintro e w4 ⟨⟨L, sv, gv, he, hown⟩, hb4⟩
  rw [HRB.out] at he hown
  subst he
  have HOWN := Lib.hid hown
  have HH4 := Lib.hid (heap_below hb4 HH3.out)
  have HB4 := Lib.hid (HB3.out.trans (hb4.mono HB3.out.size))
  obtain ⟨sn, sa, sc, -, rfl, _, _⟩ := hown.so.shape
  obtain ⟨gn, ga, gc, -, rfl, _, _⟩ := hown.go.shape
  clear hown hb4 c0 c1 c2 c3 c4 c5 HR
  go_wp2_with (first
    | ((with_reducible show wpList _ _ _ (⟨some 4, .alloc _, _, _, _, _⟩ :: _) _ _); go_must (refine wpList_allocElf ?_; intro w5 hx5 hb5 hs5; have HX5 := Lib.hid hx5; have HH5 := Lib.hid (heap_below hb5 HH4.out); have HOW5 := Lib.hid (show ElfAt w5 elf1 L (.slice sa sn sc) (.slice ga gn gc) from HOWN.out.at.mono hb5); have HB5 := Lib.hid (HB4.out.trans (hb5.mono HB4.out.size)); have HL5 := Lib.hid hb5; clear hx5 hb5))
    | ((with_reducible show wpList _ _ _ (⟨none, .store _ (.tmp 4) _, _, _, _, _⟩ :: _) _ _); go_must (refine wpList_storeElf HX5.out rfl rfl rfl rfl (by simp [Value.oneCell']) (Nat.le_refl _) (Nat.le_of_lt hs5) ?_; intro w6 hh6 hb6; have HH6 := Lib.hid hh6; have HB46 := Lib.hid (HL5.out.trans hb6); have HB6 := Lib.hid (HB4.out.trans (HB46.out.mono HB4.out.size)); clear hh6 hb6))
    | ((with_reducible show wpList _ _ _ (⟨some 20, _, _, _, _, _⟩ :: _) _ _); go_must (refine wpList_litB1 ?_; intro w7 hx7 hb7 hs7; have HX7 := Lib.hid hx7; have HH67 := Lib.hid (heap_below hb7 HH6.out); have HB47 := Lib.hid (HB46.out.trans (hb7.mono HB46.out.size)); clear hx7 hb7))
    | ((with_reducible show wpList _ _ _ (⟨some 22, _, _, _, _, _⟩ :: _) _ _); go_must (refine wpList_oneSec (s := sec2) rfl ?_; intro w8 hx8 hb8 hs8; have HX8 := Lib.hid hx8; have HX78 := Lib.hid (heap_below hb8 HX7.out); have HH68 := Lib.hid (heap_below hb8 HH67.out); have HB48 := Lib.hid (HB47.out.trans (hb8.mono HB47.out.size)); clear hx8 hb8)))
  have HPL := Lib.hid (elfPlaces_any elf2 [(sec2, .slice (some ⟨w6.heap.size, 0, none⟩) 1 1)] (.slice (some ⟨w7.heap.size, 0, none⟩) 1 1) (.slice none 0 0) w8 ⟨rfl, rd_one rfl HX8.out rfl, (fun p hp => by rw [List.mem_singleton] at hp; rw [hp]; exact bs_heap (l := [1]) HX78.out rfl rfl), RdR.nil _ _ _⟩ elf2_ok)
  rw [if_pos elf2_may.1, if_pos elf2_may.1, elf2_may.2] at HPL
  refine HPL.out.mono ?_
  rintro e w9 ⟨v9, rfl, hv9, hb9⟩
  have HV9 := Lib.hid hv9
  have HB49 := Lib.hid (HB48.out.trans (hb9.mono HB48.out.size))
  have HH69 := Lib.hid (heap_below hb9 HH68.out)
  have hst : ∀ b o, w4.heap[b]? = some o → w9.heap[b]? = some o := fun b o h => heap_below HB49.out h
  have HH9 := Lib.hid (hst _ _ HH4.out)
  have HX9 := Lib.hid (show w9.heap[w4.heap.size]? = some (.cells #[.int .i64 1, .int .i64 1, .int .u32 0, .int .u64 0, .slice sa sn sc, .slice ga gn gc] 61 (0, 0)) from HH69.out)
  have HB9 := Lib.hid (HB4.out.trans (HB49.out.mono HB4.out.size))
  have HOW9 := Lib.hid (HOWN.out.at.mono HB49.out)
  have hL : L = [] := by have := HOWN.out.secs; exact List.map_eq_nil_iff.1 this.symm
  have HLN := Lib.hid hL
  obtain ⟨pg, pc, rfl, -, -, -, hcl, -⟩ := hv9.open 0 (by decide)
  have p0 : w9.cell? ⟨pg, 0, none⟩ = some (.int .i64 64) := hcl 0 (by decide)
  have HP0 := Lib.hid p0
  have HSM := Lib.hid (fun w' (hb : Below w9.heap.size w9 w') => elfSame_any elf1 elf1 L [] (.slice sa sn sc) (.slice ga gn gc) (.slice none 0 0) (.slice none 0 0) w' (HOW9.out.mono hb) (nil_at w' 1 1) (by rw [HLN.out]; decide) (by decide) (by decide) (by decide))
  rw [show decide (elf1 = elf1) = true by decide] at HSM
  obtain ⟨c0, c1, c2, c3, c4, c5⟩ := elf_box (e := elf1) (sv := .slice none 0 0) (gv := .slice none 0 0) HH9.out
  clear hst hv9 hb9 hL hcl p0 HV9
  go_wp2_with fail
  refine (HM1.out w9).mono ?_
  rintro e wa ⟨rfl, hba⟩
  have HBA := Lib.hid hba
  clear hba
  go_wp2_with fail
  refine (HM0.out wa).mono ?_
  rintro e wb ⟨rfl, hbb⟩
  have HBB := Lib.hid (HBA.out.trans (hbb.mono HBA.out.size))
  clear hbb c0 c1 c2 c3 c4 c5
  obtain ⟨c0, c1, c2, c3, c4, c5⟩ := elf_box (e := elf1) (sv := .slice none 0 0) (gv := .slice none 0 0) (heap_below HBB.out HH9.out)
  obtain ⟨d0, d1, d2, d3, d4, d5⟩ := elf_box (e := elf1) (sv := .slice sa sn sc) (gv := .slice ga gn gc) (heap_below HBB.out HX9.out)
  go_wp2_with fail
  refine (HSM.out wb HBB.out).mono ?_
  rintro e wd ⟨rfl, hbd⟩
  have HBD := Lib.hid (HBB.out.trans (hbd.mono HBB.out.size))
  have p0 : wd.cell? ⟨pg, 0, none⟩ = some (.int .i64 64) := (HBD.out.cell (p := ⟨pg, 0, none⟩) (block_lt HP0.out)).trans HP0.out
  clear hbd c0 c1 c2 c3 c4 c5 d0 d1 d2 d3 d4 d5
  go_wp2
  go_ret
  exact ⟨rfl, HB9.out.trans (HBD.out.mono HB9.out.size)⟩
end Go.Proofs.Ytgjoimcgiofinaa
namespace Go.Proofs.Ytgjoimcgiofinaa
open Go.RowKit Go.Fd
theorem ref4Num_any (l : List UInt8) (at_ s : Nat) (v : Value) (w : World) (hl : l.length ≤ 1000000000) (hv : Bs w v l) (ha : at_ ≤ 1000000000) :
    Calls Try.prog 93 #[v, .int .i64 at_, .int .i64 s] w fun r w' => r = .returned (.int .u64 (gN l at_ s : Nat)) ∧ w = w' := by
  have HU := Lib.hid (refUL_any l at_ s v w hl hv (by omega))
  have HR : Hid (gN l at_ s = (getR l at_ s false).1) := rfl
  obtain ⟨m, ad, cap, -, rfl, _, _⟩ := hv.shape
  generalize getR l at_ s false = q at *
  obtain ⟨q1, q2⟩ := q
  dsimp only at HU HR
  clear hv
  go_enter Try.func93, Try.ntmps93
  go_wp2_with (go_at_call 116; refine HU.out.mono ?_; rintro e w' ⟨rfl, rfl⟩)
  go_ret
  exact ⟨by rw [HR.out]; rfl, rfl⟩
/-- Bytes that are in a file, in memory of their own, or none. -/
def WinRes (l : List UInt8) (a s base : Nat) (r : Ending) (w : World) : Prop := ∃ u, r = .returned (.tuple #[u, .bool (inB l a s)]) ∧ OB w base u (if inB l a s = true then (l.drop a).take s else [])
theorem WinRes.yes {l : List UInt8} {a s base : Nat} {u : Value} {w : World} (h : inB l a s = true) (ho : OB w base u ((l.drop a).take s)) : WinRes l a s base (.returned (.tuple #[u, .bool true])) w := ⟨u, by rw [h], by rw [if_pos h]; exact ho⟩
theorem WinRes.no {l : List UInt8} {a s base : Nat} {w : World} (h : inB l a s = false) : WinRes l a s base (.returned (.tuple #[.slice none 0 0, .bool false])) w := ⟨_, by rw [h], by rw [if_neg (by simp [h])]; exact OB.nil _ _⟩
set_option maxRecDepth 100000 in
theorem ref4Within_any (l : List UInt8) (a s : Nat) (v : Value) (w : World) (hl : l.length ≤ 1000000000) (hv : Bs w v l) (ha : a < 18446744073709551616) (hs : s < 18446744073709551616) :
    Calls Try.prog 117 #[v, .int .u64 a, .int .u64 s] w fun r w' => WinRes l a s w.heap.size r w' ∧ Below w.heap.size w w' := by
  have HV := Lib.hid hv
  obtain ⟨m, ad, cap, hm, rfl, hmc, _⟩ := hv.shape
  have hm9 : m ≤ 1000000000 := by have := hm.out; omega
  have HX := Lib.hid hs
  by_cases h1 : a ≤ m
  · by_cases h2 : s ≤ m - a
    · have HR : Hid (inB l a s = true) := by unfold inB; rw [← hm.out, decide_eq_true h1, decide_eq_true h2]; exact rfl
      obtain ⟨v', hr, hb⟩ := run_sliceB HV.out (i := (a : Int)) (j := (a : Int) + s) (k := .u64) (k' := .u64) (by omega) (by omega) (by have := hm.out; omega)
      rw [show ((a : Int) + s - a).toNat = s by omega, Int.toNat_natCast] at hb
      have HRUN := Lib.hid hr
      have HB := Lib.hid hb
      have HLN := Lib.hid (show ((l.drop a).take s).length ≤ 1000000000 by rw [List.length_take, List.length_drop]; omega)
      have h3 : (s : Int) ≤ (m : Int) - (a : Int) := by omega
      clear hr hb hv
      go_enter Try.func117, Try.ntmps117
      go_wp2_with (first
        | ((with_reducible show wpList _ _ _ (⟨some 27, _, _, _, _, _⟩ :: _) _ _); go_must (refine wpList_val rfl (exec_slice2 HRUN.out rfl rfl rfl) ?_))
        | ((with_reducible show wpList _ _ _ (⟨some 28, _, _, _, _, _⟩ :: _) _ _); go_must (refine wpList_catB (OB.nil _ w.heap.size) HB.out rfl rfl (by have := HLN.out; simp; omega) (Nat.le_refl _) ?_; intro v1 w1 hv1 _ hb1; have HV1 := Lib.hid hv1; have HB1 := Lib.hid hb1; clear hv1 hb1)))
      go_ret2
      exact ⟨WinRes.yes HR.out (by have := HV1.out; rw [List.nil_append] at this; exact this), HB1.out⟩
    · have HR : Hid (inB l a s = false) := by unfold inB; rw [← hm.out, decide_eq_true h1, decide_eq_false h2]; exact rfl
      have h3 : ¬ ((s : Int) ≤ (m : Int) - (a : Int)) := by omega
      clear hv
      go_enter Try.func117, Try.ntmps117
      go_wp2
      go_ret2
      exact ⟨WinRes.no HR.out, Below.refl _ _⟩
  · have HR : Hid (inB l a s = false) := by unfold inB; rw [← hm.out, decide_eq_false h1]; exact rfl
    clear hv
    go_enter Try.func117, Try.ntmps117
    go_wp2
    go_ret2
    exact ⟨WinRes.no HR.out, Below.refl _ _⟩
/-- All there, the sections' headers too. -/
def OkG (l : List UInt8) : Prop := OkP l ∧ gN l 40 8 + 64 * gN l 60 2 ≤ l.length
/-- Few segments and sections. -/
def FewP (l : List UInt8) : Prop := gN l 56 2 ≤ 16 ∧ gN l 60 2 ≤ 252
/-- What could be of bytes. -/
def GuRes (l : List UInt8) (target : Int) (base : Nat) (r : Ending) (w : World) : Prop :=
  ∃ b e L sv gv, r = .returned (.tuple #[elfV e sv gv, .bool b]) ∧ ElfOwn w base e L sv gv ∧ (b = true → e = parseE l target ∧ FewP l) ∧ (OkG l → b = true)
theorem _root_.Go.Proofs.Ytgjoimcgiofinaa.AllInv.own {w wr wn : World} {g r : Nat} {hd : List Value} {sv gv : Value} {L : List (SecM × Value)} {T : List SegM} (h : AllInv w wr g r hd sv gv L T) (hs : Stirs (fun k => k = r) wr wn) (e : ElfM) (he : e.secs = L.map (·.1)) (hg : e.segs = T) : ElfOwn wn w.heap.size e L sv gv ∧ Below w.heap.size w wn :=
  ⟨⟨he, owns_stirs h.so hs (own_ne h.so h.res (by decide)), by rw [hg]; exact owns_stirs h.go hs (own_ne h.go h.res (by decide)), fun p hp => owns_stirs (h.data p hp) hs (own_ne (h.data p hp) h.res (by decide))⟩, h.below.trans (hs.below h.below.size (fun k hk => by rw [hk]; exact h.hr))⟩
theorem _root_.Go.Proofs.Ytgjoimcgiofinaa.AllInv.tab {w wr w1 w2 : World} {g r : Nat} {hd : List Value} {sv gv tv : Value} {tl : List UInt8} {L : List (SecM × Value)} {T : List SegM} (h : AllInv w wr g r hd sv gv L T) (ht : OB wr w.heap.size tv tl) (hgr : wr.grownBy w1 sv.ownBlock) (hs : Stirs (fun k => k = g) w1 w2) : OB w2 w.heap.size tv tl := by
  have hblk := keeps_own h.so hgr _ _ _ _ (show 61 ≠ 69 by decide) h.blk
  have h1 : OB w1 w.heap.size tv tl := owns_grown ht hgr (fun k hk hk2 => own_apart ht h.so (by decide) hk hk2)
  exact owns_stirs h1 hs (own_ne h1 hblk (by decide))
/-- What bytes of a file come to, in a region. -/
def YW (b : Bool) (B : Nat) (d : List UInt8) : Yld := ⟨Value, undef, fun u => .tuple #[u, .bool b], fun u w => OB w B u (if b = true then d else []), fun _ _ _ h hb => h.mono hb⟩
theorem YW_got {b : Bool} {B : Nat} {d : List UInt8} {u : Value} {w : World} (h : (YW b B d).R (.tuple #[u, .bool b]) w) : OB w B u (if b = true then d else []) := by
  obtain ⟨(x : Value), e, hr⟩ := h
  have : u = x := by
    have e1 := congrArg (fun v : Value => match v with | .tuple c => c[0]? | _ => none) e
    have e2 : some u = some x := e1
    injection e2
  subst this
  exact hr
theorem YW_mk {b c : Bool} {B : Nat} {d : List UInt8} {u : Value} {w : World} (h : OB w B u (if c = true then d else [])) (hc : c = b) : (YW b B d).R (.tuple #[u, .bool b]) w := ⟨u, rfl, by subst hc; exact h⟩
theorem GuRes.no {l : List UInt8} {target : Int} {base : Nat} {w : World} {e : ElfM} {L : List (SecM × Value)} {sv gv : Value} (h : ElfOwn w base e L sv gv) (hn : ¬ OkG l) : GuRes l target base (.returned (.tuple #[elfV e sv gv, .bool false])) w :=
  ⟨false, e, L, sv, gv, rfl, h, (fun h => by cases h), fun h => absurd h hn⟩
theorem GuRes.yes {l : List UInt8} {target : Int} {base : Nat} {w : World} {e : ElfM} {L : List (SecM × Value)} {sv gv : Value} (h : ElfOwn w base e L sv gv) (he : e = parseE l target) (hf : FewP l) : GuRes l target base (.returned (.tuple #[elfV e sv gv, .bool true])) w :=
  ⟨true, e, L, sv, gv, rfl, h, (fun _ => ⟨he, hf⟩), fun _ => rfl⟩
attribute [local irreducible] gN okB inB atR segOk secOk segP secP tabP walk
set_option maxHeartbeats 8000000 in
set_option maxRecDepth 100000 in
theorem ref4Guess_any (l : List UInt8) (target : Int) (v : Value) (w : World) (hl : l.length ≤ 4194304) (hv : Bs w v l) :
    Calls Try.prog 94 #[v, .int .i64 target] w fun r w' => GuRes l target w.heap.size r w' ∧ Below w.heap.size w w' := by
  have HV := Lib.hid hv
  obtain ⟨m, ad, cap, hm, rfl, _, _⟩ := hv.shape
  have HL9 := Lib.hid (show l.length ≤ 1000000000 by omega)
  have hm9 : m ≤ 4194304 := by have := hm.out; omega
  have HU16 : Hid (∀ wx, Below w.heap.size w wx → Calls Try.prog 93 #[.slice ad m cap, .int .i64 16, .int .i64 2] wx fun r w' => r = .returned (.int .u64 (gN l 16 2 : Nat)) ∧ wx = w') := Lib.hid (fun wx hwx => ref4Num_any l 16 2 _ wx HL9.out (HV.out.mono hwx) (by omega))
  have HU48 : Hid (∀ wx, Below w.heap.size w wx → Calls Try.prog 93 #[.slice ad m cap, .int .i64 48, .int .i64 4] wx fun r w' => r = .returned (.int .u64 (gN l 48 4 : Nat)) ∧ wx = w') := Lib.hid (fun wx hwx => ref4Num_any l 48 4 _ wx HL9.out (HV.out.mono hwx) (by omega))
  have HU24 : Hid (∀ wx, Below w.heap.size w wx → Calls Try.prog 93 #[.slice ad m cap, .int .i64 24, .int .i64 8] wx fun r w' => r = .returned (.int .u64 (gN l 24 8 : Nat)) ∧ wx = w') := Lib.hid (fun wx hwx => ref4Num_any l 24 8 _ wx HL9.out (HV.out.mono hwx) (by omega))
  have HU56 : Hid (∀ wx, Below w.heap.size w wx → Calls Try.prog 93 #[.slice ad m cap, .int .i64 56, .int .i64 2] wx fun r w' => r = .returned (.int .u64 (gN l 56 2 : Nat)) ∧ wx = w') := Lib.hid (fun wx hwx => ref4Num_any l 56 2 _ wx HL9.out (HV.out.mono hwx) (by omega))
  have HU60 : Hid (∀ wx, Below w.heap.size w wx → Calls Try.prog 93 #[.slice ad m cap, .int .i64 60, .int .i64 2] wx fun r w' => r = .returned (.int .u64 (gN l 60 2 : Nat)) ∧ wx = w') := Lib.hid (fun wx hwx => ref4Num_any l 60 2 _ wx HL9.out (HV.out.mono hwx) (by omega))
  have HU40 : Hid (∀ wx, Below w.heap.size w wx → Calls Try.prog 93 #[.slice ad m cap, .int .i64 40, .int .i64 8] wx fun r w' => r = .returned (.int .u64 (gN l 40 8 : Nat)) ∧ wx = w') := Lib.hid (fun wx hwx => ref4Num_any l 40 8 _ wx HL9.out (HV.out.mono hwx) (by omega))
  have HN1 := Lib.hid (fun h : OkG l => h.1.n1)
  have HN2 := Lib.hid (fun h : OkG l => h.1.n2)
  have HN3 := Lib.hid (fun h : OkG l => h.1.n3)
  have HNH := Lib.hid (fun h : OkG l => h.1.heads)
  have HNG := Lib.hid (fun h : OkG l => h.2)
  have HTB := Lib.hid (fun h : OkG l => h.1.tab)
  have HNC := Lib.hid (fun h : OkG l => h.1.secs)
  have b16 := gN2 l 16
  have b48 := gN4 l 48
  have HB24 := Lib.hid (gN8 l 24)
  have b56 := gN2 l 56
  have b60 := gN2 l 60
  have HB40 := Lib.hid (gN8 l 40)
  have HPE : Hid (parseE l target = ⟨(gN l 16 2 : Nat), target, gN l 48 4, gN l 24 8, secsP l (gN l 60 2 - 2), segsP l (gN l 56 2)⟩) := rfl
  clear hv
  go_enter Try.func94, Try.ntmps94
  go_wp2_with (first
    | ((with_reducible show wpList _ _ _ (⟨some 4, .alloc _, _, _, _, _⟩ :: _) _ _); go_must (refine wpList_allocElf ?_; intro w1 hx1 hb1 hs1; have HX1 := Lib.hid hx1; have HB1 := Lib.hid hb1; clear hx1 hb1))
    | (go_at_call 93; (with_reducible refine (HU16.out _ HB1.out).mono ?_); rintro e wu ⟨rfl, rfl⟩)
    | (go_at_call 93; (with_reducible refine (HU48.out _ HB1.out).mono ?_); rintro e wu ⟨rfl, rfl⟩)
    | (go_at_call 93; (with_reducible refine (HU24.out _ HB1.out).mono ?_); rintro e wu ⟨rfl, rfl⟩)
    | ((with_reducible show wpList _ _ _ (⟨some 6, .alloc _, _, _, _, _⟩ :: _) _ _); go_must (refine wpList_allocElf ?_; intro w2 hx2 hb2 hs2; have HX2 := Lib.hid hx2; have HX12 := Lib.hid (heap_below hb2 HX1.out); have HB2 := Lib.hid (HB1.out.trans (hb2.mono HB1.out.size)); clear hx2 hb2))
    | ((with_reducible show wpList _ _ _ (⟨none, .store _ (.tmp 6) _, _, _, _, _⟩ :: _) _ _); go_must (refine wpList_storeElfS HX2.out rfl rfl rfl rfl (by simp [Value.oneCell']) ?_; intro w3 hh3 hs3; have HH3 := Lib.hid hh3; have HX13 := Lib.hid (hs3.kept HX12.out (show ¬ w.heap.size = w1.heap.size by omega)); have HB3 := Lib.hid (HB2.out.trans (hs3.below HB2.out.size (fun j hj => by rw [hj]; exact HB1.out.size))); clear hh3 hs3))
    | (go_at_call 93; (with_reducible refine (HU56.out _ HB3.out).mono ?_); rintro e wu ⟨rfl, rfl⟩)
    | (go_at_call 93; (with_reducible refine (HU60.out _ HB3.out).mono ?_); rintro e wu ⟨rfl, rfl⟩))
  have HI0 : Hid (AllInv w w3 w1.heap.size w.heap.size [.int .i64 (gN l 16 2 : Nat), .int .i64 target, .int .u32 (gN l 48 4 : Nat), .int .u64 (gN l 24 8 : Nat)] (.slice none 0 0) (.slice none 0 0) [] []) := ⟨HH3.out, HX13.out, OwR.nil _ _ _ _ _, OwR.nil _ _ _ _ _, (fun p hp => by cases hp), HB3.out, HB1.out.size, Nat.le_refl _, by omega⟩
  clear HX1 HX2 HX12 HX13 HH3 HB1 HB2 hs1 hs2
  rcases Nat.lt_or_ge 16 (gN l 56 2) with hA1 | hA1
  · have HNO : Hid (¬ OkG l) := Lib.hid (fun h => by have h1 := HN1.out h; have h2 := hm.out; omega)
    clear HN1 HN2 HN3 HNH HNG HTB HNC
    have d0 := cell_rec HI0.out.blk 0
    have d1 := cell_rec HI0.out.blk 1
    have d2 := cell_rec HI0.out.blk 2
    have d3 := cell_rec HI0.out.blk 3
    have d4 := cell_rec HI0.out.blk 4
    have d5 := cell_rec HI0.out.blk 5
    simp only [List.getElem?_toArray, List.cons_append, List.nil_append, List.getElem?_cons_zero, List.getElem?_cons_succ] at d0 d1 d2 d3 d4 d5
    go_wp2_with (first | (go_at_call 93; (with_reducible refine (HU40.out _ HB3.out).mono ?_); rintro e wu ⟨rfl, rfl⟩) | ((with_reducible show wpList _ _ _ (⟨none, .store _ (.tmp 4) _, _, _, _, _⟩ :: _) _ _); go_must (refine wpList_storeElfS HI0.out.res rfl rfl rfl rfl (by simp [Value.oneCell']) ?_; intro wn hhn hsn; have HE := Lib.hid (AllInv.own HI0.out hsn ⟨(gN l 16 2 : Nat), target, gN l 48 4, gN l 24 8, ([] : List (SecM × Value)).map (·.1), ([] : List SegM)⟩ rfl rfl); have f0 := cell_rec hhn 0; have f1 := cell_rec hhn 1; have f2 := cell_rec hhn 2; have f3 := cell_rec hhn 3; have f4 := cell_rec hhn 4; have f5 := cell_rec hhn 5; clear hhn hsn d0 d1 d2 d3 d4 d5)))
    simp only [List.getElem?_toArray, List.getElem?_cons_zero, List.getElem?_cons_succ] at f0 f1 f2 f3 f4 f5
    exact bodyPost_ret (v := .tuple #[elfV ⟨(gN l 16 2 : Nat), target, gN l 48 4, gN l 24 8, ([] : List (SecM × Value)).map (·.1), ([] : List SegM)⟩ (.slice none 0 0) (.slice none 0 0), .bool false]) (by simp [results, Try.results94, go_sem, elfV, f0, f1, f2, f3, f4, f5]) rfl ⟨GuRes.no HE.out.1 HNO.out, HE.out.2⟩
  rcases Nat.lt_or_ge (gN l 60 2) 2 with hA2 | hA2
  · have HNO : Hid (¬ OkG l) := Lib.hid (fun h => by have h1 := HN2.out h; have h2 := hm.out; omega)
    clear HN1 HN2 HN3 HNH HNG HTB HNC
    have d0 := cell_rec HI0.out.blk 0
    have d1 := cell_rec HI0.out.blk 1
    have d2 := cell_rec HI0.out.blk 2
    have d3 := cell_rec HI0.out.blk 3
    have d4 := cell_rec HI0.out.blk 4
    have d5 := cell_rec HI0.out.blk 5
    simp only [List.getElem?_toArray, List.cons_append, List.nil_append, List.getElem?_cons_zero, List.getElem?_cons_succ] at d0 d1 d2 d3 d4 d5
    go_wp2_with (first | (go_at_call 93; (with_reducible refine (HU40.out _ HB3.out).mono ?_); rintro e wu ⟨rfl, rfl⟩) | ((with_reducible show wpList _ _ _ (⟨none, .store _ (.tmp 4) _, _, _, _, _⟩ :: _) _ _); go_must (refine wpList_storeElfS HI0.out.res rfl rfl rfl rfl (by simp [Value.oneCell']) ?_; intro wn hhn hsn; have HE := Lib.hid (AllInv.own HI0.out hsn ⟨(gN l 16 2 : Nat), target, gN l 48 4, gN l 24 8, ([] : List (SecM × Value)).map (·.1), ([] : List SegM)⟩ rfl rfl); have f0 := cell_rec hhn 0; have f1 := cell_rec hhn 1; have f2 := cell_rec hhn 2; have f3 := cell_rec hhn 3; have f4 := cell_rec hhn 4; have f5 := cell_rec hhn 5; clear hhn hsn d0 d1 d2 d3 d4 d5)))
    simp only [List.getElem?_toArray, List.getElem?_cons_zero, List.getElem?_cons_succ] at f0 f1 f2 f3 f4 f5
    exact bodyPost_ret (v := .tuple #[elfV ⟨(gN l 16 2 : Nat), target, gN l 48 4, gN l 24 8, ([] : List (SecM × Value)).map (·.1), ([] : List SegM)⟩ (.slice none 0 0) (.slice none 0 0), .bool false]) (by simp [results, Try.results94, go_sem, elfV, f0, f1, f2, f3, f4, f5]) rfl ⟨GuRes.no HE.out.1 HNO.out, HE.out.2⟩
  rcases Nat.lt_or_ge 252 (gN l 60 2) with hA3 | hA3
  · have HNO : Hid (¬ OkG l) := Lib.hid (fun h => by have h1 := HN3.out h; have h2 := hm.out; omega)
    clear HN1 HN2 HN3 HNH HNG HTB HNC
    have d0 := cell_rec HI0.out.blk 0
    have d1 := cell_rec HI0.out.blk 1
    have d2 := cell_rec HI0.out.blk 2
    have d3 := cell_rec HI0.out.blk 3
    have d4 := cell_rec HI0.out.blk 4
    have d5 := cell_rec HI0.out.blk 5
    simp only [List.getElem?_toArray, List.cons_append, List.nil_append, List.getElem?_cons_zero, List.getElem?_cons_succ] at d0 d1 d2 d3 d4 d5
    go_wp2_with (first | (go_at_call 93; (with_reducible refine (HU40.out _ HB3.out).mono ?_); rintro e wu ⟨rfl, rfl⟩) | ((with_reducible show wpList _ _ _ (⟨none, .store _ (.tmp 4) _, _, _, _, _⟩ :: _) _ _); go_must (refine wpList_storeElfS HI0.out.res rfl rfl rfl rfl (by simp [Value.oneCell']) ?_; intro wn hhn hsn; have HE := Lib.hid (AllInv.own HI0.out hsn ⟨(gN l 16 2 : Nat), target, gN l 48 4, gN l 24 8, ([] : List (SecM × Value)).map (·.1), ([] : List SegM)⟩ rfl rfl); have f0 := cell_rec hhn 0; have f1 := cell_rec hhn 1; have f2 := cell_rec hhn 2; have f3 := cell_rec hhn 3; have f4 := cell_rec hhn 4; have f5 := cell_rec hhn 5; clear hhn hsn d0 d1 d2 d3 d4 d5)))
    simp only [List.getElem?_toArray, List.getElem?_cons_zero, List.getElem?_cons_succ] at f0 f1 f2 f3 f4 f5
    exact bodyPost_ret (v := .tuple #[elfV ⟨(gN l 16 2 : Nat), target, gN l 48 4, gN l 24 8, ([] : List (SecM × Value)).map (·.1), ([] : List SegM)⟩ (.slice none 0 0) (.slice none 0 0), .bool false]) (by simp [results, Try.results94, go_sem, elfV, f0, f1, f2, f3, f4, f5]) rfl ⟨GuRes.no HE.out.1 HNO.out, HE.out.2⟩
  rcases Nat.lt_or_ge m (gN l 40 8) with hA4 | hA4
  · have HNO : Hid (¬ OkG l) := Lib.hid (fun h => by have h1 := HNH.out h; have h2 := hm.out; omega)
    clear HN1 HN2 HN3 HNH HNG HTB HNC
    have hb40 := HB40.out
    have d0 := cell_rec HI0.out.blk 0
    have d1 := cell_rec HI0.out.blk 1
    have d2 := cell_rec HI0.out.blk 2
    have d3 := cell_rec HI0.out.blk 3
    have d4 := cell_rec HI0.out.blk 4
    have d5 := cell_rec HI0.out.blk 5
    simp only [List.getElem?_toArray, List.cons_append, List.nil_append, List.getElem?_cons_zero, List.getElem?_cons_succ] at d0 d1 d2 d3 d4 d5
    go_wp2_with (first | (go_at_call 93; (with_reducible refine (HU40.out _ HB3.out).mono ?_); rintro e wu ⟨rfl, rfl⟩) | ((with_reducible show wpList _ _ _ (⟨none, .store _ (.tmp 4) _, _, _, _, _⟩ :: _) _ _); go_must (refine wpList_storeElfS HI0.out.res rfl rfl rfl rfl (by simp [Value.oneCell']) ?_; intro wn hhn hsn; have HE := Lib.hid (AllInv.own HI0.out hsn ⟨(gN l 16 2 : Nat), target, gN l 48 4, gN l 24 8, ([] : List (SecM × Value)).map (·.1), ([] : List SegM)⟩ rfl rfl); have f0 := cell_rec hhn 0; have f1 := cell_rec hhn 1; have f2 := cell_rec hhn 2; have f3 := cell_rec hhn 3; have f4 := cell_rec hhn 4; have f5 := cell_rec hhn 5; clear hhn hsn d0 d1 d2 d3 d4 d5)))
    simp only [List.getElem?_toArray, List.getElem?_cons_zero, List.getElem?_cons_succ] at f0 f1 f2 f3 f4 f5
    exact bodyPost_ret (v := .tuple #[elfV ⟨(gN l 16 2 : Nat), target, gN l 48 4, gN l 24 8, ([] : List (SecM × Value)).map (·.1), ([] : List SegM)⟩ (.slice none 0 0) (.slice none 0 0), .bool false]) (by simp [results, Try.results94, go_sem, elfV, f0, f1, f2, f3, f4, f5]) rfl ⟨GuRes.no HE.out.1 HNO.out, HE.out.2⟩
  rcases Nat.lt_or_ge m (gN l 40 8 + 64 * gN l 60 2) with hA5 | hA5
  · have HNO : Hid (¬ OkG l) := Lib.hid (fun h => by have h1 := HNG.out h; have h2 := hm.out; omega)
    clear HN1 HN2 HN3 HNH HNG HTB HNC
    have d0 := cell_rec HI0.out.blk 0
    have d1 := cell_rec HI0.out.blk 1
    have d2 := cell_rec HI0.out.blk 2
    have d3 := cell_rec HI0.out.blk 3
    have d4 := cell_rec HI0.out.blk 4
    have d5 := cell_rec HI0.out.blk 5
    simp only [List.getElem?_toArray, List.cons_append, List.nil_append, List.getElem?_cons_zero, List.getElem?_cons_succ] at d0 d1 d2 d3 d4 d5
    go_wp2_with (first | (go_at_call 93; (with_reducible refine (HU40.out _ HB3.out).mono ?_); rintro e wu ⟨rfl, rfl⟩) | ((with_reducible show wpList _ _ _ (⟨none, .store _ (.tmp 4) _, _, _, _, _⟩ :: _) _ _); go_must (refine wpList_storeElfS HI0.out.res rfl rfl rfl rfl (by simp [Value.oneCell']) ?_; intro wn hhn hsn; have HE := Lib.hid (AllInv.own HI0.out hsn ⟨(gN l 16 2 : Nat), target, gN l 48 4, gN l 24 8, ([] : List (SecM × Value)).map (·.1), ([] : List SegM)⟩ rfl rfl); have f0 := cell_rec hhn 0; have f1 := cell_rec hhn 1; have f2 := cell_rec hhn 2; have f3 := cell_rec hhn 3; have f4 := cell_rec hhn 4; have f5 := cell_rec hhn 5; clear hhn hsn d0 d1 d2 d3 d4 d5)))
    simp only [List.getElem?_toArray, List.getElem?_cons_zero, List.getElem?_cons_succ] at f0 f1 f2 f3 f4 f5
    exact bodyPost_ret (v := .tuple #[elfV ⟨(gN l 16 2 : Nat), target, gN l 48 4, gN l 24 8, ([] : List (SecM × Value)).map (·.1), ([] : List SegM)⟩ (.slice none 0 0) (.slice none 0 0), .bool false]) (by simp [results, Try.results94, go_sem, elfV, f0, f1, f2, f3, f4, f5]) rfl ⟨GuRes.no HE.out.1 HNO.out, HE.out.2⟩
  obtain ⟨k2, hk2⟩ : ∃ k2, gN l 60 2 = k2 + 2 := ⟨gN l 60 2 - 2, by omega⟩
  have hk9 : k2 ≤ 250 := by omega
  have hA6 : gN l 40 8 + 64 * (k2 + 2) ≤ m := by omega
  have HFEW : Hid (FewP l) := Lib.hid ⟨hA1, hA3⟩
  have E60 : Hid (nsecsP l = k2) := Lib.hid (by show gN l 60 2 - 2 = k2; omega)
  have HPE2 : Hid (parseE l target = ⟨(gN l 16 2 : Nat), target, gN l 48 4, gN l 24 8, secsP l k2, segsP l (gN l 56 2)⟩) := Lib.hid (by rw [HPE.out, hk2]; rfl)
  clear hA2 hA3 HPE
  generalize hn60 : gN l 60 2 = n60 at *
  clear hn60
  subst hk2
  rw [show ((k2 + 2 : Nat) : Int) = (k2 : Int) + 2 from rfl]
  have d1 : decide ((16 : Int) < ((gN l 56 2 : Nat) : Int)) = false := decide_eq_false (by omega)
  have d2 : decide ((k2 : Int) + 2 < 2) = false := decide_eq_false (by omega)
  have d3 : decide ((252 : Int) < (k2 : Int) + 2) = false := decide_eq_false (by omega)
  have d4 : decide (m < gN l 40 8) = false := decide_eq_false (by omega)
  have d5 : decide ((m : Int) < ((gN l 40 8 : Nat) : Int) + 64 * ((k2 : Int) + 2)) = false := decide_eq_false (by omega)
  go_wp2_with (go_at_call 93; (with_reducible refine (HU40.out _ HB3.out).mono ?_); rintro e wu ⟨rfl, rfl⟩)
  clear d1 d2 d3 d4 d5
  generalize hns : gN l 56 2 = ns at *
  clear hns
  go_loopw [10, 11] (fun i _ wr => ∃ (k : Nat) (q : Option Addr) (n r : Nat), i = .int .i64 k ∧ k ≤ ns ∧ Hid (AllInv w wr w1.heap.size w.heap.size [.int .i64 (gN l 16 2 : Nat), .int .i64 target, .int .u32 (gN l 48 4 : Nat), .int .u64 (gN l 24 8 : Nat)] (.slice none 0 0) (.slice q n r) [] (segsP l k))) (fun i _ _ => ns - (intOf i).toNat)
  case atStart => exact ⟨0, none, 0, 0, rfl, Nat.zero_le _, HI0⟩
  case round =>
    obtain ⟨k, q, n, r, rfl, hk, HI⟩ := hrel
    have HB := Lib.hid HI.out.below
    by_cases hlt : k < ns
    · have e5 : wr.cell? ⟨w1.heap.size, 5, none⟩ = some (.slice q n r) := cell_rec HI.out.blk 5
      have hAB := fun (x : Above wr) (b k : Nat) (h : b < wr.heap.size) => Above.cell x b k h
      have l1 := block_lt e5
      have HSS := Lib.hid (segsP_succ l k)
      have HSL := Lib.hid (segsP_len l k)
      obtain ⟨a, haN⟩ : ∃ a : Nat, a = 64 + 56 * k := ⟨_, rfl⟩
      have HA := Lib.hid haN
      have ha9 : a ≤ 10000 := by omega
      have HaI : Hid ((64 : Int) + 56 * (k : Int) = (a : Int)) := Lib.hid (by omega)
      clear haN
      go_wp2
      have haI := HaI.out
      have HUs0 : Hid (∀ wx (_ : Below wr.heap.size wr wx), Calls Try.prog 93 #[.slice ad m cap, .int .i64 ((a : Int)), .int .i64 4] wx fun r w' => r = .returned (.int .u64 (gN l a 4 : Nat)) ∧ wx = w') := Lib.hid (fun wx hwx => ref4Num_any l a 4 _ wx HL9.out (HV.out.mono (HB.out.trans (hwx.mono HB.out.size))) (by omega))
      have HUs4 : Hid (∀ wx (_ : Below wr.heap.size wr wx), Calls Try.prog 93 #[.slice ad m cap, .int .i64 ((a : Int) + 4), .int .i64 4] wx fun r w' => r = .returned (.int .u64 (gN l (a + 4) 4 : Nat)) ∧ wx = w') := Lib.hid (fun wx hwx => ref4Num_any l (a + 4) 4 _ wx HL9.out (HV.out.mono (HB.out.trans (hwx.mono HB.out.size))) (by omega))
      have HUs8 : Hid (∀ wx (_ : Below wr.heap.size wr wx), Calls Try.prog 93 #[.slice ad m cap, .int .i64 ((a : Int) + 8), .int .i64 8] wx fun r w' => r = .returned (.int .u64 (gN l (a + 8) 8 : Nat)) ∧ wx = w') := Lib.hid (fun wx hwx => ref4Num_any l (a + 8) 8 _ wx HL9.out (HV.out.mono (HB.out.trans (hwx.mono HB.out.size))) (by omega))
      have HUs16 : Hid (∀ wx (_ : Below wr.heap.size wr wx), Calls Try.prog 93 #[.slice ad m cap, .int .i64 ((a : Int) + 16), .int .i64 8] wx fun r w' => r = .returned (.int .u64 (gN l (a + 16) 8 : Nat)) ∧ wx = w') := Lib.hid (fun wx hwx => ref4Num_any l (a + 16) 8 _ wx HL9.out (HV.out.mono (HB.out.trans (hwx.mono HB.out.size))) (by omega))
      have HUs32 : Hid (∀ wx (_ : Below wr.heap.size wr wx), Calls Try.prog 93 #[.slice ad m cap, .int .i64 ((a : Int) + 32), .int .i64 8] wx fun r w' => r = .returned (.int .u64 (gN l (a + 32) 8 : Nat)) ∧ wx = w') := Lib.hid (fun wx hwx => ref4Num_any l (a + 32) 8 _ wx HL9.out (HV.out.mono (HB.out.trans (hwx.mono HB.out.size))) (by omega))
      have HUs40 : Hid (∀ wx (_ : Below wr.heap.size wr wx), Calls Try.prog 93 #[.slice ad m cap, .int .i64 ((a : Int) + 40), .int .i64 8] wx fun r w' => r = .returned (.int .u64 (gN l (a + 40) 8 : Nat)) ∧ wx = w') := Lib.hid (fun wx hwx => ref4Num_any l (a + 40) 8 _ wx HL9.out (HV.out.mono (HB.out.trans (hwx.mono HB.out.size))) (by omega))
      have HUs48 : Hid (∀ wx (_ : Below wr.heap.size wr wx), Calls Try.prog 93 #[.slice ad m cap, .int .i64 ((a : Int) + 48), .int .i64 8] wx fun r w' => r = .returned (.int .u64 (gN l (a + 48) 8 : Nat)) ∧ wx = w') := Lib.hid (fun wx hwx => ref4Num_any l (a + 48) 8 _ wx HL9.out (HV.out.mono (HB.out.trans (hwx.mono HB.out.size))) (by omega))
      have v0 := gN4 l a
      have v4 := gN4 l (a + 4)
      have HSG : Hid (segP l (64 + 56 * k) = ⟨gN l a 4, gN l (a + 4) 4, gN l (a + 8) 8, gN l (a + 16) 8, gN l (a + 32) 8, gN l (a + 40) 8, gN l (a + 48) 8⟩) := Lib.hid (by rw [← HA.out]; unfold segP; rfl)
      have hw4 : IntKind.i64.wrap ((a : Int) + 4) = (a : Int) + 4 := by have := i64_small (n := a + 4) (by omega); simpa using this
      have hw8 : IntKind.i64.wrap ((a : Int) + 8) = (a : Int) + 8 := by have := i64_small (n := a + 8) (by omega); simpa using this
      have hw16 : IntKind.i64.wrap ((a : Int) + 16) = (a : Int) + 16 := by have := i64_small (n := a + 16) (by omega); simpa using this
      have hw32 : IntKind.i64.wrap ((a : Int) + 32) = (a : Int) + 32 := by have := i64_small (n := a + 32) (by omega); simpa using this
      have hw40 : IntKind.i64.wrap ((a : Int) + 40) = (a : Int) + 40 := by have := i64_small (n := a + 40) (by omega); simpa using this
      have hw48 : IntKind.i64.wrap ((a : Int) + 48) = (a : Int) + 48 := by have := i64_small (n := a + 48) (by omega); simpa using this
      rw [haI]
      refine wp_region_walk 33 [(4, .is (.int .u64 (gN l a 4 : Nat))), (9, .is (.int .u64 (gN l (a + 4) 4 : Nat))), (14, .is (.int .u64 (gN l (a + 8) 8 : Nat))), (18, .is (.int .u64 (gN l (a + 16) 8 : Nat))), (22, .is (.int .u64 (gN l (a + 32) 8 : Nat))), (26, .is (.int .u64 (gN l (a + 40) 8 : Nat))), (30, .is (.int .u64 (gN l (a + 48) 8 : Nat))), (32, Yld.one wr.heap.size 99 (encSeg ⟨gN l a 4, gN l (a + 4) 4, gN l (a + 8) 8, gN l (a + 16) 8, gN l (a + 32) 8, gN l (a + 40) 8, gN l (a + 48) 8⟩).toArray)] (by kernel_rfl) (by kernel_rfl) ?_
      simp only [List.take_succ_cons, List.take_zero, List.drop_succ_cons, List.drop_zero]
      repeat (refine walk_quiet rfl rfl rfl ?_; intro K hK; go_big_quiet_op; go_big_quiet_on)
      refine walk_is rfl rfl (fun wx hwx _ => WpYld.callIs (run_callL (vals := [_, _, _]) Try.func93 (by kernel_rfl) rfl rfl) (HUs0.out wx hwx)) ?_
      go_frame
      repeat (refine walk_quiet rfl rfl rfl ?_; intro K hK; go_big_quiet_op; go_big_quiet_on)
      refine walk_is rfl rfl (fun wx hwx _ => WpYld.callIs (run_callL (vals := [_, _, _]) Try.func93 (by kernel_rfl) rfl rfl) (HUs4.out wx hwx)) ?_
      go_frame
      repeat (refine walk_quiet rfl rfl rfl ?_; intro K hK; go_big_quiet_op; go_big_quiet_on)
      refine walk_is rfl rfl (fun wx hwx _ => WpYld.callIs (run_callL (vals := [_, _, _]) Try.func93 (by kernel_rfl) rfl rfl) (HUs8.out wx hwx)) ?_
      go_frame
      repeat (refine walk_quiet rfl rfl rfl ?_; intro K hK; go_big_quiet_op; go_big_quiet_on)
      refine walk_is rfl rfl (fun wx hwx _ => WpYld.callIs (run_callL (vals := [_, _, _]) Try.func93 (by kernel_rfl) rfl rfl) (HUs16.out wx hwx)) ?_
      go_frame
      repeat (refine walk_quiet rfl rfl rfl ?_; intro K hK; go_big_quiet_op; go_big_quiet_on)
      refine walk_is rfl rfl (fun wx hwx _ => WpYld.callIs (run_callL (vals := [_, _, _]) Try.func93 (by kernel_rfl) rfl rfl) (HUs32.out wx hwx)) ?_
      go_frame
      repeat (refine walk_quiet rfl rfl rfl ?_; intro K hK; go_big_quiet_op; go_big_quiet_on)
      refine walk_is rfl rfl (fun wx hwx _ => WpYld.callIs (run_callL (vals := [_, _, _]) Try.func93 (by kernel_rfl) rfl rfl) (HUs40.out wx hwx)) ?_
      go_frame
      repeat (refine walk_quiet rfl rfl rfl ?_; intro K hK; go_big_quiet_op; go_big_quiet_on)
      refine walk_is rfl rfl (fun wx hwx _ => WpYld.callIs (run_callL (vals := [_, _, _]) Try.func93 (by kernel_rfl) rfl rfl) (HUs48.out wx hwx)) ?_
      go_frame
      repeat (refine walk_quiet rfl rfl rfl ?_; intro K hK; go_big_quiet_op; go_big_quiet_on)
      refine walk_one rfl rfl (fun wx hwx _ => WpYld.val (run_oneSeg (s := ⟨gN l a 4, gN l (a + 4) 4, gN l (a + 8) 8, gN l (a + 16) 8, gN l (a + 32) 8, gN l (a + 40) 8, gN l (a + 48) 8⟩) rfl) (Yld.one_mk _ hwx).1 (Yld.one_mk _ hwx).2) (fun gb => ?_)
      go_frame
      refine walk_nil ?_
      intro wz hbz hF
      have HGB := Lib.hid (Yld.one_got (hF 32 _ 108 _ rfl rfl rfl rfl)).2
      have HIZ := Lib.hid (HI.out.mono hbz)
      clear hF hAB e5 hbz hw4 hw8 hw16 hw32 hw40 hw48 v0 v4 HUs0 HUs4 HUs8 HUs16 HUs32 HUs40 HUs48
      generalize (⟨gN l a 4, gN l (a + 4) 4, gN l (a + 8) 8, gN l (a + 16) 8, gN l (a + 32) 8, gN l (a + 40) 8, gN l (a + 48) 8⟩ : SegM) = sg at *
      refine wpList_cat TSeg HIZ.out.go (rd_one rfl HGB.out rfl) rfl rfl (oneSeg [sg]) (by rw [HSL.out]; simp; omega) (by rw [HSL.out]; simp; omega) HIZ.out.below.size ?_
      intro v5 w5 hv5 hg5 hb5
      have HV5 := Lib.hid hv5
      have HG5 := Lib.hid hg5
      have HBL := Lib.hid (keeps_own HIZ.out.go hg5 _ _ _ _ (show 61 ≠ 99 by decide) HIZ.out.blk)
      have HB5 := Lib.hid hb5
      obtain ⟨m5, q5, r5, -, rfl, _, _⟩ := (Reads.of_owns hv5).shape
      clear hv5 hg5 hb5
      have HVV := Lib.hid (show w5.ownsRow w.heap.size 99 7 (.slice q5 m5 r5) (segsP l k ++ [sg]).length ((segsP l k ++ [sg]).flatMap encSeg) by rw [List.length_append, List.flatMap_append]; exact HV5.out)
      have hgt : w.heap.size ≤ w1.heap.size := HI.out.hg
      go_wp2_with ((with_reducible show wpList _ _ _ (⟨none, .store _ (.tmp 110) _, _, _, _, _⟩ :: _) _ _); go_must (refine wpList_set HBL.out (Nat.lt_of_lt_of_eq (show 5 < 6 by decide) rfl) rfl rfl hgt (Nat.le_trans HIZ.out.below.size HB5.out.size) (fun w => by kernel_rfl) ?_; intro w6 hh6 hb6 hs6; have HI6 := Lib.hid (AllInv.seg HIZ.out rfl HVV.out HG5.out hh6 hs6); clear hh6 hb6 hs6))
      go_round
      case rel => exact ⟨k + 1, q5, m5, r5, by go_num, by omega, (by rw [HSS.out, HSG.out]; exact HI6)⟩
      case measure => simp [intOf] <;> omega
    · obtain rfl : k = ns := by omega
      have ELAST : Hid (lastP l = gN l 40 8 + 64 * (k2 + 1)) := Lib.hid (by unfold lastP; rw [E60.out])
      have HTABL : Hid ((l.drop (gN l (lastP l + 24) 8)).take (gN l (lastP l + 32) 8) = tabP l) := Lib.hid (by unfold tabP; rfl)
      have HSP := Lib.hid (secsP_succ l)
      have HC1 := Lib.hid (gN8 l (lastP l + 24))
      have HC2 := Lib.hid (gN8 l (lastP l + 32))
      generalize gN l 40 8 = h40 at *
      have hh9 : h40 ≤ 4194304 := by omega
      have HUA : Hid (∀ wx, Below w.heap.size w wx → Calls Try.prog 93 #[.slice ad m cap, .int .i64 ((h40 : Int) + 64 * ((k2 : Int) + 2 - 1) + 24), .int .i64 8] wx fun r w' => r = .returned (.int .u64 (gN l (lastP l + 24) 8 : Nat)) ∧ wx = w') := Lib.hid (fun wx hwx => by
        have h1 := ref4Num_any l (lastP l + 24) 8 _ wx HL9.out (HV.out.mono hwx) (by rw [ELAST.out]; omega)
        rw [show ((lastP l + 24 : Nat) : Int) = (h40 : Int) + 64 * ((k2 : Int) + 2 - 1) + 24 by rw [ELAST.out]; omega] at h1
        exact h1)
      have HUB : Hid (∀ wx, Below w.heap.size w wx → Calls Try.prog 93 #[.slice ad m cap, .int .i64 ((h40 : Int) + 64 * ((k2 : Int) + 2 - 1) + 32), .int .i64 8] wx fun r w' => r = .returned (.int .u64 (gN l (lastP l + 32) 8 : Nat)) ∧ wx = w') := Lib.hid (fun wx hwx => by
        have h1 := ref4Num_any l (lastP l + 32) 8 _ wx HL9.out (HV.out.mono hwx) (by rw [ELAST.out]; omega)
        rw [show ((lastP l + 32 : Nat) : Int) = (h40 : Int) + 64 * ((k2 : Int) + 2 - 1) + 32 by rw [ELAST.out]; omega] at h1
        exact h1)
      have HWI := Lib.hid (fun wx (hwx : Below w.heap.size w wx) => ref4Within_any l (gN l (lastP l + 24) 8) (gN l (lastP l + 32) 8) _ wx HL9.out (HV.out.mono hwx) HC1.out HC2.out)
      have HTB2 : Hid (inB l (gN l (lastP l + 24) 8) (gN l (lastP l + 32) 8) = false → ¬ OkG l) := Lib.hid (fun h1 h => by have := HTB.out h; rw [h1] at this; cases this)
      clear HTB
      generalize gN l (lastP l + 24) 8 = c24 at *
      generalize gN l (lastP l + 32) 8 = c32 at *
      obtain ⟨wo, rfl⟩ : ∃ wo : World, wo = wr := ⟨_, rfl⟩
      cases hin : inB l c24 c32 with
      | false =>
        have HNO := Lib.hid (HTB2.out hin)
        have HIN := Lib.hid hin
        clear hin HTB2
        go_wp2_with (first
          | (go_at_call 93; (with_reducible refine (HUA.out _ HB.out).mono ?_); rintro e wu ⟨rfl, rfl⟩)
          | (go_at_call 93; (with_reducible refine (HUB.out _ HB.out).mono ?_); rintro e wu ⟨rfl, rfl⟩))
        refine (HWI.out wo HB.out).mono ?_
        rintro e wt ⟨⟨tv, rfl, hto⟩, hbt⟩
        rw [HIN.out]
        have HIT := Lib.hid (HI.out.mono hbt)
        obtain ⟨tm, tad, tcap, -, rfl, _, _⟩ := hto.shape
        clear hto hbt
        have d0 := cell_rec HIT.out.blk 0
        have d1 := cell_rec HIT.out.blk 1
        have d2 := cell_rec HIT.out.blk 2
        have d3 := cell_rec HIT.out.blk 3
        have d4 := cell_rec HIT.out.blk 4
        have d5 := cell_rec HIT.out.blk 5
        simp only [List.getElem?_toArray, List.cons_append, List.nil_append, List.getElem?_cons_zero, List.getElem?_cons_succ] at d0 d1 d2 d3 d4 d5
        go_wp2_with (first | ((with_reducible show wpList _ _ _ (⟨none, .store _ (.tmp 4) _, _, _, _, _⟩ :: _) _ _); go_must (refine wpList_storeElfS HIT.out.res rfl rfl rfl rfl (by simp [Value.oneCell']) ?_; intro wn hhn hsn; have HE := Lib.hid (AllInv.own HIT.out hsn ⟨(gN l 16 2 : Nat), target, gN l 48 4, gN l 24 8, ([] : List (SecM × Value)).map (·.1), (segsP l k)⟩ rfl rfl); have f0 := cell_rec hhn 0; have f1 := cell_rec hhn 1; have f2 := cell_rec hhn 2; have f3 := cell_rec hhn 3; have f4 := cell_rec hhn 4; have f5 := cell_rec hhn 5; clear hhn hsn d0 d1 d2 d3 d4 d5)))
        simp only [List.getElem?_toArray, List.getElem?_cons_zero, List.getElem?_cons_succ] at f0 f1 f2 f3 f4 f5
        exact bodyPost_ret (v := .tuple #[elfV ⟨(gN l 16 2 : Nat), target, gN l 48 4, gN l 24 8, ([] : List (SecM × Value)).map (·.1), (segsP l k)⟩ (.slice none 0 0) (.slice q n r), .bool false]) (by simp [results, Try.results94, go_sem, elfV, f0, f1, f2, f3, f4, f5]) rfl ⟨GuRes.no HE.out.1 HNO.out, HE.out.2⟩
      | true =>
        have HIN := Lib.hid hin
        clear hin HTB2
        go_wp2_with (first
          | (go_at_call 93; (with_reducible refine (HUA.out _ HB.out).mono ?_); rintro e wu ⟨rfl, rfl⟩)
          | (go_at_call 93; (with_reducible refine (HUB.out _ HB.out).mono ?_); rintro e wu ⟨rfl, rfl⟩))
        refine (HWI.out wo HB.out).mono ?_
        rintro e wt ⟨⟨tv, rfl, hto⟩, hbt⟩
        rw [HIN.out]
        rw [if_pos HIN.out, HTABL.out] at hto
        have HTO := Lib.hid (hto.base HB.out.size)
        have HTL := Lib.hid (show (tabP l).length ≤ 1000000000 by rw [← HTABL.out, List.length_take, List.length_drop]; have := HL9.out; omega)
        have HIT := Lib.hid (HI.out.mono hbt)
        obtain ⟨tm, tad, tcap, -, rfl, _, _⟩ := hto.shape
        clear hto hbt HUA HUB HWI HC1 HC2
        go_wp2
        go_loopw [14, 15, 16, 17, 18, 19, 20, 21] (fun o i _ _ _ _ _ _ wr => o = .bool true ∧ ∃ (j : Nat) (sq : Option Addr) (sn sr : Nat) (L : List (SecM × Value)), i = .int .i64 ((j : Int) + 1) ∧ j ≤ k2 ∧ Hid (AllInv w wr w1.heap.size w.heap.size [.int .i64 (gN l 16 2 : Nat), .int .i64 target, .int .u32 (gN l 48 4 : Nat), .int .u64 (gN l 24 8 : Nat)] (.slice sq sn sr) (.slice q n r) L (segsP l k)) ∧ Hid (L.map (·.1) = secsP l j) ∧ Hid (OB wr w.heap.size (.slice tad tm tcap) (tabP l))) (fun _ i _ _ _ _ _ _ _ => k2 + 1 - (intOf i).toNat)
        case atStart => exact ⟨rfl, 0, none, 0, 0, [], rfl, Nat.zero_le _, HIT, rfl, HTO⟩
        case round =>
          obtain ⟨rfl, j, sq, sn, sr, L, rfl, hj, HI2, HL2, HBT2⟩ := hrel
          have HB3 := Lib.hid HI2.out.below
          by_cases hlt2 : j < k2
          · have HLL := Lib.hid (show L.length = j by have := congrArg List.length HL2.out; rw [secsP_len, List.length_map] at this; exact this)
            have HSS := Lib.hid (HSP.out j)
            obtain ⟨a, haN⟩ : ∃ a : Nat, a = h40 + 64 * (j + 1) := ⟨_, rfl⟩
            rw [← haN] at HSS
            have ha9 : a ≤ 10000000 := by omega
            have HaI : Hid ((h40 : Int) + 64 * ((j : Int) + 1) = (a : Int)) := Lib.hid (by omega)
            have HBAD : Hid (secOk l (tabP l) a = false → ¬ OkG l) := Lib.hid (fun h1 ho => by have := HNC.out ho j (by rw [E60.out]; exact hlt2); rw [← haN, h1] at this; cases this)
            clear haN
            have HUt0 : Hid (∀ wx (_ : Below wr.heap.size wr wx), Calls Try.prog 93 #[.slice ad m cap, .int .i64 ((a : Int)), .int .i64 4] wx fun r w' => r = .returned (.int .u64 (gN l a 4 : Nat)) ∧ wx = w') := Lib.hid (fun wx hwx => ref4Num_any l a 4 _ wx HL9.out (HV.out.mono (HB3.out.trans (hwx.mono HB3.out.size))) (by omega))
            have HUt4 : Hid (∀ wx (_ : Below wr.heap.size wr wx), Calls Try.prog 93 #[.slice ad m cap, .int .i64 ((a : Int) + 4), .int .i64 4] wx fun r w' => r = .returned (.int .u64 (gN l (a + 4) 4 : Nat)) ∧ wx = w') := Lib.hid (fun wx hwx => ref4Num_any l (a + 4) 4 _ wx HL9.out (HV.out.mono (HB3.out.trans (hwx.mono HB3.out.size))) (by omega))
            have HUt8 : Hid (∀ wx (_ : Below wr.heap.size wr wx), Calls Try.prog 93 #[.slice ad m cap, .int .i64 ((a : Int) + 8), .int .i64 8] wx fun r w' => r = .returned (.int .u64 (gN l (a + 8) 8 : Nat)) ∧ wx = w') := Lib.hid (fun wx hwx => ref4Num_any l (a + 8) 8 _ wx HL9.out (HV.out.mono (HB3.out.trans (hwx.mono HB3.out.size))) (by omega))
            have HUt16 : Hid (∀ wx (_ : Below wr.heap.size wr wx), Calls Try.prog 93 #[.slice ad m cap, .int .i64 ((a : Int) + 16), .int .i64 8] wx fun r w' => r = .returned (.int .u64 (gN l (a + 16) 8 : Nat)) ∧ wx = w') := Lib.hid (fun wx hwx => ref4Num_any l (a + 16) 8 _ wx HL9.out (HV.out.mono (HB3.out.trans (hwx.mono HB3.out.size))) (by omega))
            have HUt32 : Hid (∀ wx (_ : Below wr.heap.size wr wx), Calls Try.prog 93 #[.slice ad m cap, .int .i64 ((a : Int) + 32), .int .i64 8] wx fun r w' => r = .returned (.int .u64 (gN l (a + 32) 8 : Nat)) ∧ wx = w') := Lib.hid (fun wx hwx => ref4Num_any l (a + 32) 8 _ wx HL9.out (HV.out.mono (HB3.out.trans (hwx.mono HB3.out.size))) (by omega))
            have HUt40 : Hid (∀ wx (_ : Below wr.heap.size wr wx), Calls Try.prog 93 #[.slice ad m cap, .int .i64 ((a : Int) + 40), .int .i64 4] wx fun r w' => r = .returned (.int .u64 (gN l (a + 40) 4 : Nat)) ∧ wx = w') := Lib.hid (fun wx hwx => ref4Num_any l (a + 40) 4 _ wx HL9.out (HV.out.mono (HB3.out.trans (hwx.mono HB3.out.size))) (by omega))
            have HUt44 : Hid (∀ wx (_ : Below wr.heap.size wr wx), Calls Try.prog 93 #[.slice ad m cap, .int .i64 ((a : Int) + 44), .int .i64 4] wx fun r w' => r = .returned (.int .u64 (gN l (a + 44) 4 : Nat)) ∧ wx = w') := Lib.hid (fun wx hwx => ref4Num_any l (a + 44) 4 _ wx HL9.out (HV.out.mono (HB3.out.trans (hwx.mono HB3.out.size))) (by omega))
            have HUt48 : Hid (∀ wx (_ : Below wr.heap.size wr wx), Calls Try.prog 93 #[.slice ad m cap, .int .i64 ((a : Int) + 48), .int .i64 8] wx fun r w' => r = .returned (.int .u64 (gN l (a + 48) 8 : Nat)) ∧ wx = w') := Lib.hid (fun wx hwx => ref4Num_any l (a + 48) 8 _ wx HL9.out (HV.out.mono (HB3.out.trans (hwx.mono HB3.out.size))) (by omega))
            have HUt56 : Hid (∀ wx (_ : Below wr.heap.size wr wx), Calls Try.prog 93 #[.slice ad m cap, .int .i64 ((a : Int) + 56), .int .i64 8] wx fun r w' => r = .returned (.int .u64 (gN l (a + 56) 8 : Nat)) ∧ wx = w') := Lib.hid (fun wx hwx => ref4Num_any l (a + 56) 8 _ wx HL9.out (HV.out.mono (HB3.out.trans (hwx.mono HB3.out.size))) (by omega))
            have HUt24 : Hid (∀ wx (_ : Below wr.heap.size wr wx), Calls Try.prog 93 #[.slice ad m cap, .int .i64 ((a : Int) + 24), .int .i64 8] wx fun r w' => r = .returned (.int .u64 (gN l (a + 24) 8 : Nat)) ∧ wx = w') := Lib.hid (fun wx hwx => ref4Num_any l (a + 24) 8 _ wx HL9.out (HV.out.mono (HB3.out.trans (hwx.mono HB3.out.size))) (by omega))
            have v0 := gN4 l a
            have v4 := gN4 l (a + 4)
            have v40 := gN4 l (a + 40)
            have v44 := gN4 l (a + 44)
            have HAT : Hid (∀ wx, Below wr.heap.size wr wx → Calls Try.prog 21 #[.slice tad tm tcap, .int .i64 (gN l a 4 : Nat)] wx fun e w' => e = .returned (.tuple #[S (atR (tabP l) (gN l a 4 : Nat)).1, .int .i64 (atR (tabP l) (gN l a 4 : Nat)).2]) ∧ wx = w') := Lib.hid (fun wx hwx => ref3At_any (tabP l) (gN l a 4 : Nat) _ wx HTL.out (OB.bs (HBT2.out.mono hwx)))
            have HNM := Lib.hid (secOk_name (l := l) (tab := tabP l) (a := a))
            have HCT := Lib.hid (secOk_cut (l := l) (tab := tabP l) (a := a))
            have HSEC : Hid (secP l (tabP l) a = ⟨(atR (tabP l) (gN l a 4 : Nat)).1, gN l (a + 4) 4, gN l (a + 8) 8, gN l (a + 16) 8, gN l (a + 48) 8, gN l (a + 32) 8, gN l (a + 40) 4, gN l (a + 44) 4, gN l (a + 56) 8, if gN l (a + 4) 4 = 8 then [] else ((l.drop (gN l (a + 24) 8)).take (gN l (a + 32) 8))⟩) := Lib.hid (by unfold secP; rfl)
            have HB24 := Lib.hid (gN8 l (a + 24))
            have HB32 := Lib.hid (gN8 l (a + 32))
            have HDL : Hid (((l.drop (gN l (a + 24) 8)).take (gN l (a + 32) 8)).length ≤ 1000000000) := Lib.hid (by rw [List.length_take, List.length_drop]; have := HL9.out; omega)
            generalize atR (tabP l) (gN l a 4 : Nat) = qn at *
            obtain ⟨nm, code⟩ := qn
            go_wp2_with fail
            rw [HaI.out]
            by_cases h8 : gN l (a + 4) 4 = 8
            · have k8b : (((gN l (a + 4) 4 : Nat) : Int) == 8) = true := by rw [h8]; rfl
              have k8c : (((gN l (a + 4) 4 : Nat) : Int) != 8) = false := by rw [h8]; rfl
              have H8 := Lib.hid h8
              clear h8
              by_cases hcode : code = 0
              · subst hcode
                have HODX := Lib.hid (fun (w' : World) => OB.nil w' w.heap.size)
                go_wp2_with (first
                  | (go_at_call 93; (with_reducible refine (HUt4.out _ (Below.refl _ _)).mono ?_); rintro e wu ⟨rfl, rfl⟩)
                  | (go_at_call 93; (with_reducible refine (HUt8.out _ (Below.refl _ _)).mono ?_); rintro e wu ⟨rfl, rfl⟩)
                  | (go_at_call 93; (with_reducible refine (HUt16.out _ (Below.refl _ _)).mono ?_); rintro e wu ⟨rfl, rfl⟩)
                  | (go_at_call 93; (with_reducible refine (HUt32.out _ (Below.refl _ _)).mono ?_); rintro e wu ⟨rfl, rfl⟩)
                  | (go_at_call 93; (with_reducible refine (HUt40.out _ (Below.refl _ _)).mono ?_); rintro e wu ⟨rfl, rfl⟩)
                  | (go_at_call 93; (with_reducible refine (HUt44.out _ (Below.refl _ _)).mono ?_); rintro e wu ⟨rfl, rfl⟩)
                  | (go_at_call 93; (with_reducible refine (HUt48.out _ (Below.refl _ _)).mono ?_); rintro e wu ⟨rfl, rfl⟩)
                  | (go_at_call 93; (with_reducible refine (HUt56.out _ (Below.refl _ _)).mono ?_); rintro e wu ⟨rfl, rfl⟩)
                  | ((with_reducible show wpList _ _ _ (⟨some 17, .alloc _, _, _, _, _⟩ :: _) _ _); go_must (refine wpList_allocSec ?_; intro w4 hx4 hb4 hs4; have HX4 := Lib.hid hx4; have HB4 := Lib.hid hb4; clear hx4 hb4))
                  | ((with_reducible show wpList _ _ _ (⟨none, .store _ (.tmp 17) _, _, _, _, _⟩ :: _) _ _); go_must (refine wpList_storeRowS HX4.out rfl rfl rfl (by kernel_rfl) (by simp [Value.oneCell']) ?_; intro w5 hh5 hs5; have HH5 := Lib.hid (show w5.heap[wr.heap.size]? = some (.cells #[.string ⟨#[]⟩, .int .u32 (gN l (a + 4) 4 : Nat), .int .u64 (gN l (a + 8) 8 : Nat), .int .u64 (gN l (a + 16) 8 : Nat), .int .u64 (gN l (a + 48) 8 : Nat), .int .u64 (gN l (a + 32) 8 : Nat), .int .u32 (gN l (a + 40) 4 : Nat), .int .u32 (gN l (a + 44) 4 : Nat), .int .u64 (gN l (a + 56) 8 : Nat), .slice none 0 0] 69 (0, 0)) from hh5); have HB5 := Lib.hid (HB4.out.trans (hs5.below HB4.out.size (fun j hj => by rw [hj]; exact Nat.le_refl _))); clear hh5 hs5))
                  | (go_at_call 93; (with_reducible refine (HUt0.out _ HB5.out).mono ?_); rintro e wu ⟨rfl, rfl⟩)
                  | (go_at_call 21; (with_reducible refine (HAT.out _ HB5.out).mono ?_); rintro e wu ⟨rfl, rfl⟩)
                  | ((with_reducible show wpList _ _ _ (⟨none, .store _ (.tmp 190) _, _, _, _, _⟩ :: _) _ _); go_must (refine wpList_setS HH5.out (show 0 < 10 by decide) rfl rfl (Nat.le_refl wr.heap.size) HB5.out.size (fun w => by kernel_rfl) ?_; intro w6 hh6 hb6 hs6; have HH6 := Lib.hid (show w6.heap[wr.heap.size]? = some (.cells #[.string ⟨nm.toArray⟩, .int .u32 (gN l (a + 4) 4 : Nat), .int .u64 (gN l (a + 8) 8 : Nat), .int .u64 (gN l (a + 16) 8 : Nat), .int .u64 (gN l (a + 48) 8 : Nat), .int .u64 (gN l (a + 32) 8 : Nat), .int .u32 (gN l (a + 40) 4 : Nat), .int .u32 (gN l (a + 44) 4 : Nat), .int .u64 (gN l (a + 56) 8 : Nat), .slice none 0 0] 69 (0, 0)) from hh6); have HB6 := Lib.hid (HB5.out.trans hb6); obtain ⟨z0, z1, z2, z3, z4, z5, z6, z7, z8, z9⟩ := sec_box (x := ((⟨nm, gN l (a + 4) 4, gN l (a + 8) 8, gN l (a + 16) 8, gN l (a + 48) 8, gN l (a + 32) 8, gN l (a + 40) 4, gN l (a + 44) 4, gN l (a + 56) 8, []⟩ : SecM), .slice none 0 0)) HH6.out; have HIW := Lib.hid (HI2.out.mono HB6.out); have e4 : w6.cell? ⟨w1.heap.size, 4, none⟩ = some (.slice sq sn sr) := cell_rec HIW.out.blk 4; clear hh6 hb6 hs6))
                  | ((with_reducible show wpList _ _ _ (⟨some 218, _, _, _, _, _⟩ :: _) _ _); go_must (refine wpList_oneSec (s := (⟨nm, gN l (a + 4) 4, gN l (a + 8) 8, gN l (a + 16) 8, gN l (a + 48) 8, gN l (a + 32) 8, gN l (a + 40) 4, gN l (a + 44) 4, gN l (a + 56) 8, []⟩ : SecM)) rfl ?_; intro wq hxq hbq hsq; have HXQ := Lib.hid hxq; have HIZ := Lib.hid (HIW.out.mono hbq); have HBTZ := Lib.hid ((HBT2.out.mono HB6.out).mono hbq); have HDU := Lib.hid (HODX.out wq); clear hxq hbq))
                  | ((with_reducible show wpList _ _ _ (⟨some 219, _, _, _, _, _⟩ :: _) _ _); go_must (refine wpList_cat TSec HIZ.out.so (rd_one rfl HXQ.out rfl) rfl rfl (oneSec (L := [((⟨nm, gN l (a + 4) 4, gN l (a + 8) 8, gN l (a + 16) 8, gN l (a + 48) 8, gN l (a + 32) 8, gN l (a + 40) 4, gN l (a + 44) 4, gN l (a + 56) 8, []⟩ : SecM), Value.slice none 0 0)]) (fun p hp => by rw [List.mem_singleton] at hp; rw [hp]; rfl)) (by rw [HLL.out]; simp; omega) (by rw [HLL.out]; simp; omega) HIZ.out.below.size ?_; intro v5 w9 hv5 hg5 hb5; have HV5 := Lib.hid hv5; have HG5 := Lib.hid hg5; have HBL := Lib.hid (keeps_own HIZ.out.so hg5 _ _ _ _ (show 61 ≠ 69 by decide) HIZ.out.blk); have HB9 := Lib.hid hb5; obtain ⟨m5, q5, r5, -, rfl, _, _⟩ := (Reads.of_owns hv5).shape; clear hv5 hg5 hb5))
                  | ((with_reducible show wpList _ _ _ (⟨none, .store _ (.tmp 220) _, _, _, _, _⟩ :: _) _ _); go_must (refine wpList_set HBL.out (Nat.lt_of_lt_of_eq (show 4 < 6 by decide) rfl) rfl rfl HI2.out.hg (Nat.le_trans HIZ.out.below.size HB9.out.size) (fun w => by kernel_rfl) ?_; intro wA hh6 hb6 hs6; have HVV := Lib.hid (show w9.ownsRow w.heap.size 69 10 (.slice q5 m5 r5) (L ++ [((⟨nm, gN l (a + 4) 4, gN l (a + 8) 8, gN l (a + 16) 8, gN l (a + 48) 8, gN l (a + 32) 8, gN l (a + 40) 4, gN l (a + 44) 4, gN l (a + 56) 8, []⟩ : SecM), Value.slice none 0 0)]).length ((L ++ [((⟨nm, gN l (a + 4) 4, gN l (a + 8) 8, gN l (a + 16) 8, gN l (a + 48) 8, gN l (a + 32) 8, gN l (a + 40) 4, gN l (a + 44) 4, gN l (a + 56) 8, []⟩ : SecM), Value.slice none 0 0)]).flatMap encSec) by rw [List.length_append, List.flatMap_append]; exact HV5.out); have HI6 := Lib.hid (AllInv.sec HIZ.out rfl HVV.out HG5.out HDU.out hh6 hs6); have HT6 := Lib.hid (AllInv.tab HIZ.out HBTZ.out HG5.out hs6); clear hh6 hb6 hs6)))
                have HSEC2 : Hid (secP l (tabP l) a = (⟨nm, gN l (a + 4) 4, gN l (a + 8) 8, gN l (a + 16) 8, gN l (a + 48) 8, gN l (a + 32) 8, gN l (a + 40) 4, gN l (a + 44) 4, gN l (a + 56) 8, []⟩ : SecM)) := Lib.hid (by rw [HSEC.out]; rw [if_pos H8.out])
                go_round
                case rel => exact ⟨rfl, j + 1, q5, m5, r5, _, by go_num, by omega, HI6, (by rw [HSS.out, HSEC2.out, List.map_append, HL2.out]; rfl), HT6⟩
                case measure => simp [intOf] <;> omega
              · have hcb : (code == (0 : Int)) = false := by simpa using hcode
                have hcn : (code != (0 : Int)) = true := by simpa using hcode
                have HNO := Lib.hid (HBAD.out (HNM.out hcode))
                clear hcode
                go_wp2_with (first
                  | (go_at_call 93; (with_reducible refine (HUt4.out _ (Below.refl _ _)).mono ?_); rintro e wu ⟨rfl, rfl⟩)
                  | (go_at_call 93; (with_reducible refine (HUt8.out _ (Below.refl _ _)).mono ?_); rintro e wu ⟨rfl, rfl⟩)
                  | (go_at_call 93; (with_reducible refine (HUt16.out _ (Below.refl _ _)).mono ?_); rintro e wu ⟨rfl, rfl⟩)
                  | (go_at_call 93; (with_reducible refine (HUt32.out _ (Below.refl _ _)).mono ?_); rintro e wu ⟨rfl, rfl⟩)
                  | (go_at_call 93; (with_reducible refine (HUt40.out _ (Below.refl _ _)).mono ?_); rintro e wu ⟨rfl, rfl⟩)
                  | (go_at_call 93; (with_reducible refine (HUt44.out _ (Below.refl _ _)).mono ?_); rintro e wu ⟨rfl, rfl⟩)
                  | (go_at_call 93; (with_reducible refine (HUt48.out _ (Below.refl _ _)).mono ?_); rintro e wu ⟨rfl, rfl⟩)
                  | (go_at_call 93; (with_reducible refine (HUt56.out _ (Below.refl _ _)).mono ?_); rintro e wu ⟨rfl, rfl⟩)
                  | ((with_reducible show wpList _ _ _ (⟨some 17, .alloc _, _, _, _, _⟩ :: _) _ _); go_must (refine wpList_allocSec ?_; intro w4 hx4 hb4 hs4; have HX4 := Lib.hid hx4; have HB4 := Lib.hid hb4; clear hx4 hb4))
                  | ((with_reducible show wpList _ _ _ (⟨none, .store _ (.tmp 17) _, _, _, _, _⟩ :: _) _ _); go_must (refine wpList_storeRowS HX4.out rfl rfl rfl (by kernel_rfl) (by simp [Value.oneCell']) ?_; intro w5 hh5 hs5; have HH5 := Lib.hid (show w5.heap[wr.heap.size]? = some (.cells #[.string ⟨#[]⟩, .int .u32 (gN l (a + 4) 4 : Nat), .int .u64 (gN l (a + 8) 8 : Nat), .int .u64 (gN l (a + 16) 8 : Nat), .int .u64 (gN l (a + 48) 8 : Nat), .int .u64 (gN l (a + 32) 8 : Nat), .int .u32 (gN l (a + 40) 4 : Nat), .int .u32 (gN l (a + 44) 4 : Nat), .int .u64 (gN l (a + 56) 8 : Nat), .slice none 0 0] 69 (0, 0)) from hh5); have HB5 := Lib.hid (HB4.out.trans (hs5.below HB4.out.size (fun j hj => by rw [hj]; exact Nat.le_refl _))); clear hh5 hs5))
                  | (go_at_call 93; (with_reducible refine (HUt0.out _ HB5.out).mono ?_); rintro e wu ⟨rfl, rfl⟩)
                  | (go_at_call 21; (with_reducible refine (HAT.out _ HB5.out).mono ?_); rintro e wu ⟨rfl, rfl⟩)
                  | ((with_reducible show wpList _ _ _ (⟨none, .store _ (.tmp 190) _, _, _, _, _⟩ :: _) _ _); go_must (refine wpList_setS HH5.out (show 0 < 10 by decide) rfl rfl (Nat.le_refl wr.heap.size) HB5.out.size (fun w => by kernel_rfl) ?_; intro w6 hh6 hb6 hs6; have HH6 := Lib.hid (show w6.heap[wr.heap.size]? = some (.cells #[.string ⟨nm.toArray⟩, .int .u32 (gN l (a + 4) 4 : Nat), .int .u64 (gN l (a + 8) 8 : Nat), .int .u64 (gN l (a + 16) 8 : Nat), .int .u64 (gN l (a + 48) 8 : Nat), .int .u64 (gN l (a + 32) 8 : Nat), .int .u32 (gN l (a + 40) 4 : Nat), .int .u32 (gN l (a + 44) 4 : Nat), .int .u64 (gN l (a + 56) 8 : Nat), .slice none 0 0] 69 (0, 0)) from hh6); have HB6 := Lib.hid (HB5.out.trans hb6); obtain ⟨z0, z1, z2, z3, z4, z5, z6, z7, z8, z9⟩ := sec_box (x := ((⟨nm, gN l (a + 4) 4, gN l (a + 8) 8, gN l (a + 16) 8, gN l (a + 48) 8, gN l (a + 32) 8, gN l (a + 40) 4, gN l (a + 44) 4, gN l (a + 56) 8, []⟩ : SecM), .slice none 0 0)) HH6.out; have HIW := Lib.hid (HI2.out.mono HB6.out); have d0 := cell_rec HIW.out.blk 0; have d1 := cell_rec HIW.out.blk 1; have d2 := cell_rec HIW.out.blk 2; have d3 := cell_rec HIW.out.blk 3; have d4 := cell_rec HIW.out.blk 4; have d5 := cell_rec HIW.out.blk 5; simp only [List.getElem?_toArray, List.cons_append, List.nil_append, List.getElem?_cons_zero, List.getElem?_cons_succ] at d0 d1 d2 d3 d4 d5; clear z0 z2 z3 z4 z5 z6 z7 z8 z9; clear hh6 hb6 hs6))
                  | ((with_reducible show wpList _ _ _ (⟨none, .store _ (.tmp 4) _, _, _, _, _⟩ :: _) _ _); go_must (refine wpList_storeElfS HIW.out.res rfl rfl rfl rfl (by simp [Value.oneCell']) ?_; intro wn hhn hsn; have HE := Lib.hid (AllInv.own HIW.out hsn ⟨(gN l 16 2 : Nat), target, gN l 48 4, gN l 24 8, L.map (·.1), (segsP l k)⟩ rfl rfl); have f0 := cell_rec hhn 0; have f1 := cell_rec hhn 1; have f2 := cell_rec hhn 2; have f3 := cell_rec hhn 3; have f4 := cell_rec hhn 4; have f5 := cell_rec hhn 5; clear hhn hsn d0 d1 d2 d3 d4 d5)))
                simp only [List.getElem?_toArray, List.getElem?_cons_zero, List.getElem?_cons_succ] at f0 f1 f2 f3 f4 f5
                exact bodyPost_ret (v := .tuple #[elfV ⟨(gN l 16 2 : Nat), target, gN l 48 4, gN l 24 8, L.map (·.1), (segsP l k)⟩ (.slice sq sn sr) (.slice q n r), .bool false]) (by simp [results, Try.results94, go_sem, elfV, f0, f1, f2, f3, f4, f5]) rfl ⟨GuRes.no HE.out.1 HNO.out, HE.out.2⟩
            · have k8b : (((gN l (a + 4) 4 : Nat) : Int) == 8) = false := by rw [beq_eq_false_iff_ne]; omega
              have k8c : (((gN l (a + 4) 4 : Nat) : Int) != 8) = true := by rw [bne_iff_ne]; omega
              have H8 := Lib.hid h8
              clear h8
              have HCUT := Lib.hid (fun h => HBAD.out (HCT.out H8.out h))
              go_wp2_with (first
                | (go_at_call 93; (with_reducible refine (HUt4.out _ (Below.refl _ _)).mono ?_); rintro e wu ⟨rfl, rfl⟩)
                | (go_at_call 93; (with_reducible refine (HUt8.out _ (Below.refl _ _)).mono ?_); rintro e wu ⟨rfl, rfl⟩)
                | (go_at_call 93; (with_reducible refine (HUt16.out _ (Below.refl _ _)).mono ?_); rintro e wu ⟨rfl, rfl⟩)
                | (go_at_call 93; (with_reducible refine (HUt32.out _ (Below.refl _ _)).mono ?_); rintro e wu ⟨rfl, rfl⟩)
                | (go_at_call 93; (with_reducible refine (HUt40.out _ (Below.refl _ _)).mono ?_); rintro e wu ⟨rfl, rfl⟩)
                | (go_at_call 93; (with_reducible refine (HUt44.out _ (Below.refl _ _)).mono ?_); rintro e wu ⟨rfl, rfl⟩)
                | (go_at_call 93; (with_reducible refine (HUt48.out _ (Below.refl _ _)).mono ?_); rintro e wu ⟨rfl, rfl⟩)
                | (go_at_call 93; (with_reducible refine (HUt56.out _ (Below.refl _ _)).mono ?_); rintro e wu ⟨rfl, rfl⟩)
                | ((with_reducible show wpList _ _ _ (⟨some 17, .alloc _, _, _, _, _⟩ :: _) _ _); go_must (refine wpList_allocSec ?_; intro w4 hx4 hb4 hs4; have HX4 := Lib.hid hx4; have HB4 := Lib.hid hb4; clear hx4 hb4))
                | ((with_reducible show wpList _ _ _ (⟨none, .store _ (.tmp 17) _, _, _, _, _⟩ :: _) _ _); go_must (refine wpList_storeRowS HX4.out rfl rfl rfl (by kernel_rfl) (by simp [Value.oneCell']) ?_; intro w5 hh5 hs5; have HH5 := Lib.hid (show w5.heap[wr.heap.size]? = some (.cells #[.string ⟨#[]⟩, .int .u32 (gN l (a + 4) 4 : Nat), .int .u64 (gN l (a + 8) 8 : Nat), .int .u64 (gN l (a + 16) 8 : Nat), .int .u64 (gN l (a + 48) 8 : Nat), .int .u64 (gN l (a + 32) 8 : Nat), .int .u32 (gN l (a + 40) 4 : Nat), .int .u32 (gN l (a + 44) 4 : Nat), .int .u64 (gN l (a + 56) 8 : Nat), .slice none 0 0] 69 (0, 0)) from hh5); have HB5 := Lib.hid (HB4.out.trans (hs5.below HB4.out.size (fun j hj => by rw [hj]; exact Nat.le_refl _))); clear hh5 hs5))
                | (go_at_call 93; (with_reducible refine (HUt0.out _ HB5.out).mono ?_); rintro e wu ⟨rfl, rfl⟩)
                | (go_at_call 21; (with_reducible refine (HAT.out _ HB5.out).mono ?_); rintro e wu ⟨rfl, rfl⟩)
                | ((with_reducible show wpList _ _ _ (⟨none, .store _ (.tmp 190) _, _, _, _, _⟩ :: _) _ _); go_must (refine wpList_setS HH5.out (show 0 < 10 by decide) rfl rfl (Nat.le_refl wr.heap.size) HB5.out.size (fun w => by kernel_rfl) ?_; intro w6 hh6 hb6 hs6; have HH6 := Lib.hid (show w6.heap[wr.heap.size]? = some (.cells #[.string ⟨nm.toArray⟩, .int .u32 (gN l (a + 4) 4 : Nat), .int .u64 (gN l (a + 8) 8 : Nat), .int .u64 (gN l (a + 16) 8 : Nat), .int .u64 (gN l (a + 48) 8 : Nat), .int .u64 (gN l (a + 32) 8 : Nat), .int .u32 (gN l (a + 40) 4 : Nat), .int .u32 (gN l (a + 44) 4 : Nat), .int .u64 (gN l (a + 56) 8 : Nat), .slice none 0 0] 69 (0, 0)) from hh6); have HB6 := Lib.hid (HB5.out.trans hb6); obtain ⟨z0, z1, z2, z3, z4, z5, z6, z7, z8, z9⟩ := sec_box (x := ((⟨nm, gN l (a + 4) 4, gN l (a + 8) 8, gN l (a + 16) 8, gN l (a + 48) 8, gN l (a + 32) 8, gN l (a + 40) 4, gN l (a + 44) 4, gN l (a + 56) 8, []⟩ : SecM), .slice none 0 0)) HH6.out; clear hh6 hb6 hs6)))
              have HWN := Lib.hid (fun wx (hwx : Below w6.heap.size w6 wx) => ref4Within_any l (gN l (a + 24) 8) (gN l (a + 32) 8) _ wx HL9.out (HV.out.mono (HB3.out.trans ((HB6.out.trans (hwx.mono HB6.out.size)).mono HB3.out.size))) HB24.out HB32.out)
              generalize hib : inB l (gN l (a + 24) 8) (gN l (a + 32) 8) = ib at *
              have HIB := Lib.hid hib
              clear hib z0 z2 z3 z4 z6 z7 z8 z9
              have hw24 : IntKind.i64.wrap ((a : Int) + 24) = (a : Int) + 24 := by have := i64_small (n := a + 24) (by omega); simpa using this
              have hAB := fun (x : Above w6) (b k : Nat) (h : b < w6.heap.size) => Above.cell x b k h
              have l1 := block_lt z5
              go_wp2
              refine wp_region_walk 13 [(4, .is (.int .u64 (gN l (a + 24) 8 : Nat))), (7, YW ib w6.heap.size ((l.drop (gN l (a + 24) 8)).take (gN l (a + 32) 8)))] (by kernel_rfl) (by kernel_rfl) ?_
              simp only [List.take_succ_cons, List.take_zero, List.drop_succ_cons, List.drop_zero]
              repeat (refine walk_quiet rfl rfl rfl ?_; intro K hK; go_big_quiet_op; go_big_quiet_on)
              refine walk_is rfl rfl (fun wx hwx _ => WpYld.callIs (run_callL (vals := [_, _, _]) Try.func93 (by kernel_rfl) rfl rfl) (HUt24.out wx (HB6.out.trans (hwx.mono HB6.out.size)))) ?_
              go_frame
              repeat (refine walk_quiet rfl rfl rfl ?_; intro K hK; go_big_quiet_op; go_big_quiet_on)
              refine walk_made rfl rfl (fun wx hwx _ => WpYld.call (run_callL (vals := [_, _, _]) Try.func117 (by kernel_rfl) rfl rfl) ((HWN.out wx hwx).mono fun r w' ⟨⟨u, h1, h2⟩, h3⟩ => ⟨_, by rw [h1, HIB.out], YW_mk (h2.base hwx.size) HIB.out, h3⟩)) (fun (vu : Value) => ?_)
              change walk _ _ _ _ _ _ _ _ (Act.put _ _ (.tuple #[vu, .bool ib]))
              go_frame
              repeat (refine walk_quiet rfl rfl rfl ?_; intro K hK; go_big_quiet_op; go_big_quiet_on)
              refine walk_nil ?_
              intro w7 hb7 hF
              have HOD7 := Lib.hid (YW_got (hF 7 _ 202 _ rfl rfl rfl rfl))
              have HH7 := Lib.hid (heap_below hb7 HH6.out)
              have HB7 := Lib.hid (HB6.out.trans (hb7.mono HB6.out.size))
              clear hF hb7 hAB z1 z5 hw24
              obtain ⟨dm, da, dc, -, rfl, _, _⟩ := HOD7.out.shape
              by_cases hcode : code = 0
              · subst hcode
                cases ib with
                | true =>
                  rw [if_pos rfl] at HOD7
                  go_wp2_with (first
                    | ((with_reducible show wpList _ _ _ (⟨none, .store _ (.tmp 206) _, _, _, _, _⟩ :: _) _ _); go_must (refine wpList_set HH7.out (show 9 < 10 by decide) rfl rfl (base := wr.heap.size) (Nat.le_refl _) HB7.out.size (fun w => by kernel_rfl) ?_; intro w8 hh8 hb8 hs8; have HH8 := Lib.hid (show w8.heap[wr.heap.size]? = some (.cells #[.string ⟨nm.toArray⟩, .int .u32 (gN l (a + 4) 4 : Nat), .int .u64 (gN l (a + 8) 8 : Nat), .int .u64 (gN l (a + 16) 8 : Nat), .int .u64 (gN l (a + 48) 8 : Nat), .int .u64 (gN l (a + 32) 8 : Nat), .int .u32 (gN l (a + 40) 4 : Nat), .int .u32 (gN l (a + 44) 4 : Nat), .int .u64 (gN l (a + 56) 8 : Nat), .slice da dm dc] 69 (0, 0)) from hh8); have HB8 := Lib.hid (HB7.out.trans hb8); have HOD8 := Lib.hid (owns_stirs HOD7.out hs8 (ob_apart HOD7.out HH7.out (by decide))); have HIW := Lib.hid (HI2.out.mono HB8.out); have e4 : w8.cell? ⟨w1.heap.size, 4, none⟩ = some (.slice sq sn sr) := cell_rec HIW.out.blk 4; obtain ⟨z0, z1, z2, z3, z4, z5, z6, z7, z8, z9⟩ := sec_box (x := ((⟨nm, gN l (a + 4) 4, gN l (a + 8) 8, gN l (a + 16) 8, gN l (a + 48) 8, gN l (a + 32) 8, gN l (a + 40) 4, gN l (a + 44) 4, gN l (a + 56) 8, []⟩ : SecM), .slice da dm dc)) HH8.out; have HODX := Lib.hid (show OB w8 w.heap.size (.slice da dm dc) ((l.drop (gN l (a + 24) 8)).take (gN l (a + 32) 8)) from (show OB w8 w6.heap.size (.slice da dm dc) ((l.drop (gN l (a + 24) 8)).take (gN l (a + 32) 8)) from HOD8.out).base (Nat.le_trans HI2.out.below.size HB6.out.size)); clear hh8 hb8 hs8))
                    | ((with_reducible show wpList _ _ _ (⟨some 218, _, _, _, _, _⟩ :: _) _ _); go_must (refine wpList_oneSec (s := (⟨nm, gN l (a + 4) 4, gN l (a + 8) 8, gN l (a + 16) 8, gN l (a + 48) 8, gN l (a + 32) 8, gN l (a + 40) 4, gN l (a + 44) 4, gN l (a + 56) 8, ((l.drop (gN l (a + 24) 8)).take (gN l (a + 32) 8))⟩ : SecM)) rfl ?_; intro wq hxq hbq hsq; have HXQ := Lib.hid hxq; have HIZ := Lib.hid (HIW.out.mono hbq); have HBTZ := Lib.hid ((HBT2.out.mono HB8.out).mono hbq); have HDU := Lib.hid (HODX.out.mono hbq); clear hxq hbq))
                    | ((with_reducible show wpList _ _ _ (⟨some 219, _, _, _, _, _⟩ :: _) _ _); go_must (refine wpList_cat TSec HIZ.out.so (rd_one rfl HXQ.out rfl) rfl rfl (oneSec (L := [((⟨nm, gN l (a + 4) 4, gN l (a + 8) 8, gN l (a + 16) 8, gN l (a + 48) 8, gN l (a + 32) 8, gN l (a + 40) 4, gN l (a + 44) 4, gN l (a + 56) 8, ((l.drop (gN l (a + 24) 8)).take (gN l (a + 32) 8))⟩ : SecM), Value.slice da dm dc)]) (fun p hp => by rw [List.mem_singleton] at hp; rw [hp]; rfl)) (by rw [HLL.out]; simp; omega) (by rw [HLL.out]; simp; omega) HIZ.out.below.size ?_; intro v5 w9 hv5 hg5 hb5; have HV5 := Lib.hid hv5; have HG5 := Lib.hid hg5; have HBL := Lib.hid (keeps_own HIZ.out.so hg5 _ _ _ _ (show 61 ≠ 69 by decide) HIZ.out.blk); have HB9 := Lib.hid hb5; obtain ⟨m5, q5, r5, -, rfl, _, _⟩ := (Reads.of_owns hv5).shape; clear hv5 hg5 hb5))
                    | ((with_reducible show wpList _ _ _ (⟨none, .store _ (.tmp 220) _, _, _, _, _⟩ :: _) _ _); go_must (refine wpList_set HBL.out (Nat.lt_of_lt_of_eq (show 4 < 6 by decide) rfl) rfl rfl HI2.out.hg (Nat.le_trans HIZ.out.below.size HB9.out.size) (fun w => by kernel_rfl) ?_; intro wA hh6 hb6 hs6; have HVV := Lib.hid (show w9.ownsRow w.heap.size 69 10 (.slice q5 m5 r5) (L ++ [((⟨nm, gN l (a + 4) 4, gN l (a + 8) 8, gN l (a + 16) 8, gN l (a + 48) 8, gN l (a + 32) 8, gN l (a + 40) 4, gN l (a + 44) 4, gN l (a + 56) 8, ((l.drop (gN l (a + 24) 8)).take (gN l (a + 32) 8))⟩ : SecM), Value.slice da dm dc)]).length ((L ++ [((⟨nm, gN l (a + 4) 4, gN l (a + 8) 8, gN l (a + 16) 8, gN l (a + 48) 8, gN l (a + 32) 8, gN l (a + 40) 4, gN l (a + 44) 4, gN l (a + 56) 8, ((l.drop (gN l (a + 24) 8)).take (gN l (a + 32) 8))⟩ : SecM), Value.slice da dm dc)]).flatMap encSec) by rw [List.length_append, List.flatMap_append]; exact HV5.out); have HI6 := Lib.hid (AllInv.sec HIZ.out rfl HVV.out HG5.out HDU.out hh6 hs6); have HT6 := Lib.hid (AllInv.tab HIZ.out HBTZ.out HG5.out hs6); clear hh6 hb6 hs6)))
                  have HSEC2 : Hid (secP l (tabP l) a = (⟨nm, gN l (a + 4) 4, gN l (a + 8) 8, gN l (a + 16) 8, gN l (a + 48) 8, gN l (a + 32) 8, gN l (a + 40) 4, gN l (a + 44) 4, gN l (a + 56) 8, ((l.drop (gN l (a + 24) 8)).take (gN l (a + 32) 8))⟩ : SecM)) := Lib.hid (by rw [HSEC.out]; rw [if_neg H8.out])
                  go_round
                  case rel => exact ⟨rfl, j + 1, q5, m5, r5, _, by go_num, by omega, HI6, (by rw [HSS.out, HSEC2.out, List.map_append, HL2.out]; rfl), HT6⟩
                  case measure => simp [intOf] <;> omega
                | false =>
                  have HNO := Lib.hid (HCUT.out rfl)
                  go_wp2_with (first
                    | ((with_reducible show wpList _ _ _ (⟨none, .store _ (.tmp 206) _, _, _, _, _⟩ :: _) _ _); go_must (refine wpList_set HH7.out (show 9 < 10 by decide) rfl rfl (base := wr.heap.size) (Nat.le_refl _) HB7.out.size (fun w => by kernel_rfl) ?_; intro w8 hh8 hb8 hs8; have HH8 := Lib.hid (show w8.heap[wr.heap.size]? = some (.cells #[.string ⟨nm.toArray⟩, .int .u32 (gN l (a + 4) 4 : Nat), .int .u64 (gN l (a + 8) 8 : Nat), .int .u64 (gN l (a + 16) 8 : Nat), .int .u64 (gN l (a + 48) 8 : Nat), .int .u64 (gN l (a + 32) 8 : Nat), .int .u32 (gN l (a + 40) 4 : Nat), .int .u32 (gN l (a + 44) 4 : Nat), .int .u64 (gN l (a + 56) 8 : Nat), .slice da dm dc] 69 (0, 0)) from hh8); have HB8 := Lib.hid (HB7.out.trans hb8); have HOD8 := Lib.hid (owns_stirs HOD7.out hs8 (ob_apart HOD7.out HH7.out (by decide))); have HIW := Lib.hid (HI2.out.mono HB8.out); have d0 := cell_rec HIW.out.blk 0; have d1 := cell_rec HIW.out.blk 1; have d2 := cell_rec HIW.out.blk 2; have d3 := cell_rec HIW.out.blk 3; have d4 := cell_rec HIW.out.blk 4; have d5 := cell_rec HIW.out.blk 5; simp only [List.getElem?_toArray, List.cons_append, List.nil_append, List.getElem?_cons_zero, List.getElem?_cons_succ] at d0 d1 d2 d3 d4 d5; clear hh8 hb8 hs8))
                    | ((with_reducible show wpList _ _ _ (⟨none, .store _ (.tmp 4) _, _, _, _, _⟩ :: _) _ _); go_must (refine wpList_storeElfS HIW.out.res rfl rfl rfl rfl (by simp [Value.oneCell']) ?_; intro wn hhn hsn; have HE := Lib.hid (AllInv.own HIW.out hsn ⟨(gN l 16 2 : Nat), target, gN l 48 4, gN l 24 8, L.map (·.1), (segsP l k)⟩ rfl rfl); have f0 := cell_rec hhn 0; have f1 := cell_rec hhn 1; have f2 := cell_rec hhn 2; have f3 := cell_rec hhn 3; have f4 := cell_rec hhn 4; have f5 := cell_rec hhn 5; clear hhn hsn d0 d1 d2 d3 d4 d5)))
                  simp only [List.getElem?_toArray, List.getElem?_cons_zero, List.getElem?_cons_succ] at f0 f1 f2 f3 f4 f5
                  exact bodyPost_ret (v := .tuple #[elfV ⟨(gN l 16 2 : Nat), target, gN l 48 4, gN l 24 8, L.map (·.1), (segsP l k)⟩ (.slice sq sn sr) (.slice q n r), .bool false]) (by simp [results, Try.results94, go_sem, elfV, f0, f1, f2, f3, f4, f5]) rfl ⟨GuRes.no HE.out.1 HNO.out, HE.out.2⟩
              · have hcb : (code == (0 : Int)) = false := by simpa using hcode
                have hcn : (code != (0 : Int)) = true := by simpa using hcode
                have HNO := Lib.hid (HBAD.out (HNM.out hcode))
                clear hcode
                go_wp2_with (first
                  | ((with_reducible show wpList _ _ _ (⟨none, .store _ (.tmp 206) _, _, _, _, _⟩ :: _) _ _); go_must (refine wpList_set HH7.out (show 9 < 10 by decide) rfl rfl (base := wr.heap.size) (Nat.le_refl _) HB7.out.size (fun w => by kernel_rfl) ?_; intro w8 hh8 hb8 hs8; have HH8 := Lib.hid (show w8.heap[wr.heap.size]? = some (.cells #[.string ⟨nm.toArray⟩, .int .u32 (gN l (a + 4) 4 : Nat), .int .u64 (gN l (a + 8) 8 : Nat), .int .u64 (gN l (a + 16) 8 : Nat), .int .u64 (gN l (a + 48) 8 : Nat), .int .u64 (gN l (a + 32) 8 : Nat), .int .u32 (gN l (a + 40) 4 : Nat), .int .u32 (gN l (a + 44) 4 : Nat), .int .u64 (gN l (a + 56) 8 : Nat), .slice da dm dc] 69 (0, 0)) from hh8); have HB8 := Lib.hid (HB7.out.trans hb8); have HOD8 := Lib.hid (owns_stirs HOD7.out hs8 (ob_apart HOD7.out HH7.out (by decide))); have HIW := Lib.hid (HI2.out.mono HB8.out); have d0 := cell_rec HIW.out.blk 0; have d1 := cell_rec HIW.out.blk 1; have d2 := cell_rec HIW.out.blk 2; have d3 := cell_rec HIW.out.blk 3; have d4 := cell_rec HIW.out.blk 4; have d5 := cell_rec HIW.out.blk 5; simp only [List.getElem?_toArray, List.cons_append, List.nil_append, List.getElem?_cons_zero, List.getElem?_cons_succ] at d0 d1 d2 d3 d4 d5; clear hh8 hb8 hs8))
                  | ((with_reducible show wpList _ _ _ (⟨none, .store _ (.tmp 4) _, _, _, _, _⟩ :: _) _ _); go_must (refine wpList_storeElfS HIW.out.res rfl rfl rfl rfl (by simp [Value.oneCell']) ?_; intro wn hhn hsn; have HE := Lib.hid (AllInv.own HIW.out hsn ⟨(gN l 16 2 : Nat), target, gN l 48 4, gN l 24 8, L.map (·.1), (segsP l k)⟩ rfl rfl); have f0 := cell_rec hhn 0; have f1 := cell_rec hhn 1; have f2 := cell_rec hhn 2; have f3 := cell_rec hhn 3; have f4 := cell_rec hhn 4; have f5 := cell_rec hhn 5; clear hhn hsn d0 d1 d2 d3 d4 d5)))
                simp only [List.getElem?_toArray, List.getElem?_cons_zero, List.getElem?_cons_succ] at f0 f1 f2 f3 f4 f5
                exact bodyPost_ret (v := .tuple #[elfV ⟨(gN l 16 2 : Nat), target, gN l 48 4, gN l 24 8, L.map (·.1), (segsP l k)⟩ (.slice sq sn sr) (.slice q n r), .bool false]) (by simp [results, Try.results94, go_sem, elfV, f0, f1, f2, f3, f4, f5]) rfl ⟨GuRes.no HE.out.1 HNO.out, HE.out.2⟩
          · obtain rfl : j = k2 := by omega
            have d0 := cell_rec HI2.out.blk 0
            have d1 := cell_rec HI2.out.blk 1
            have d2 := cell_rec HI2.out.blk 2
            have d3 := cell_rec HI2.out.blk 3
            have d4 := cell_rec HI2.out.blk 4
            have d5 := cell_rec HI2.out.blk 5
            simp only [List.getElem?_toArray, List.cons_append, List.nil_append, List.getElem?_cons_zero, List.getElem?_cons_succ] at d0 d1 d2 d3 d4 d5
            go_wp2_with (first | ((with_reducible show wpList _ _ _ (⟨none, .store _ (.tmp 4) _, _, _, _, _⟩ :: _) _ _); go_must (refine wpList_storeElfS HI2.out.res rfl rfl rfl rfl (by simp [Value.oneCell']) ?_; intro wn hhn hsn; have HE := Lib.hid (AllInv.own HI2.out hsn ⟨(gN l 16 2 : Nat), target, gN l 48 4, gN l 24 8, L.map (·.1), (segsP l k)⟩ rfl rfl); have f0 := cell_rec hhn 0; have f1 := cell_rec hhn 1; have f2 := cell_rec hhn 2; have f3 := cell_rec hhn 3; have f4 := cell_rec hhn 4; have f5 := cell_rec hhn 5; clear hhn hsn d0 d1 d2 d3 d4 d5)))
            simp only [List.getElem?_toArray, List.getElem?_cons_zero, List.getElem?_cons_succ] at f0 f1 f2 f3 f4 f5
            exact bodyPost_ret (v := .tuple #[elfV ⟨(gN l 16 2 : Nat), target, gN l 48 4, gN l 24 8, L.map (·.1), (segsP l k)⟩ (.slice sq sn sr) (.slice q n r), .bool true]) (by simp [results, Try.results94, go_sem, elfV, f0, f1, f2, f3, f4, f5]) rfl ⟨GuRes.yes HE.out.1 (by rw [HPE2.out, HL2.out]) HFEW.out, HE.out.2⟩
end Go.Proofs.Ytgjoimcgiofinaa
namespace Go.Proofs.Ytgjoimcgiofinaa
open Go.RowKit Go.Fd
set_option maxRecDepth 100000 in
theorem ref4Put_any (l : List UInt8) (n s : Nat) (v : Value) (w : World) (base : Nat) (hl : l.length ≤ 1000000000) (hn : n < 18446744073709551616) (hs : s ≤ 8) (hv : OB w base v l) (hbase : base ≤ w.heap.size) :
    Calls Try.prog 81 #[v, .int .u64 n, .int .i64 s] w fun e w' => ∃ v', e = .returned v' ∧ OB w' base v' (l ++ fixed n s) ∧ Below base w w' ∧ Keeps 5 w w' := by
  have HV := Lib.hid hv
  have HL := Lib.hid hl
  clear hv
  go_enter Try.func81, Try.ntmps81
  go_wp2_with (first
    | (go_at_call 62; refine (fixed_any n s _ hn hs).mono ?_; rintro e w1 ⟨u, rfl, hu, hb1⟩; have HU := Lib.hid hu; have HB1 := Lib.hid hb1; have HV1 := Lib.hid (HV.out.mono hb1); clear hu hb1)
    | ((with_reducible show wpList _ _ _ (⟨some 11, _, _, _, _, _⟩ :: _) _ _); go_must (refine wpList_catB HV1.out HU.out.bs rfl rfl (by rw [length_fixed]; have := HL.out; omega) (Nat.le_trans hbase HB1.out.size) ?_; intro v2 w2 hv2 hg2 hb2)))
  go_ret
  exact ⟨_, rfl, hv2, (HB1.out.mono hbase).trans hb2, (keeps_below HB1.out).trans (keeps_own HV1.out hg2)⟩
set_option maxHeartbeats 1000000 in
set_option maxRecDepth 100000 in
theorem till_any (l : List UInt8) (d : Nat) (z : Int) (v : Value) (w : World) (base : Nat) (hl : l.length + d ≤ 1000000000) (hz : z = ((l.length + d : Nat) : Int)) (hv : OB w base v l) (hbase : base ≤ w.heap.size) :
    Calls Try.prog 80 #[v, .int .i64 z] w fun e w' => ∃ v', e = .returned v' ∧ OB w' base v' (l ++ List.replicate d 0) ∧ Below base w w' ∧ Keeps 5 w w' := by
  have HV := Lib.hid hv
  obtain ⟨m, hm⟩ : ∃ m, m = l.length := ⟨_, rfl⟩
  rw [← hm] at hl hz
  have HM := Lib.hid hm
  obtain ⟨z', hz'⟩ : ∃ z' : Nat, z' = m + d := ⟨_, rfl⟩
  rw [← hz'] at hz
  subst hz
  have HZ := Lib.hid hz'
  clear hv hm hz'
  go_enter Try.func80, Try.ntmps80
  go_wp2
  go_loopw [0] (fun x wr => ∃ (k : Nat) (ad : Option Addr) (cap : Nat), x = .slice ad (m + k) cap ∧ k ≤ d ∧ Hid (OB wr base (.slice ad (m + k) cap) (l ++ List.replicate k 0)) ∧ Hid (Below base w wr) ∧ Hid (Keeps 5 w wr)) (fun x _ => m + d - lenV x)
  case atStart =>
    obtain ⟨m', ad, cap, hm', rfl, _, _⟩ := HV.out.shape
    obtain rfl : m' = m := hm'.out.trans HM.out.symm
    exact ⟨0, ad, cap, rfl, Nat.zero_le _, by simpa [Hid] using HV.out, Below.refl _ _, Keeps.refl _ _⟩
  case round =>
    obtain ⟨k, ad, cap, rfl, hk, HO, HB, HK⟩ := hrel
    by_cases hlt : k < d
    · have hlt2 : m + k < z' := by have := HZ.out; omega
      have hb0 := Nat.le_trans hbase HB.out.size
      go_wp2_with (((with_reducible show wpList _ _ _ (⟨some 11, _, _, _, _, _⟩ :: _) _ _); go_must (refine wpList_pushB HO.out rfl rfl 0 rfl (by rw [List.length_append, List.length_replicate]; have := HM.out; omega) hb0 ?_; intro v1 w1 hv1 hg1 hb1)))
      obtain ⟨m1, ad1, cap1, hm1, rfl, _, _⟩ := hv1.shape
      obtain rfl : m1 = m + (k + 1) := by have h1 := hm1.out; rw [List.length_append, List.length_append, List.length_replicate] at h1; have h2 := HM.out; simp at h1; omega
      have G1 : Hid (OB w1 base (.slice ad1 (m + (k + 1)) cap1) (l ++ List.replicate (k + 1) 0)) := by
        show OB _ _ _ _
        rw [List.replicate_succ', ← List.append_assoc]; exact hv1
      have G2 := Lib.hid (HB.out.trans hb1)
      have G3 := Lib.hid (HK.out.trans (keeps_own HO.out hg1))
      clear hv1 hg1 hb1 hm1
      go_roundw
      case rel =>
        first
          | exact ⟨k + 1, ad1, cap1, rfl, by omega, G1.out, G2.out, G3.out⟩
          | ((repeat apply Exists.intro); exact ⟨⟨k + 1, ad1, cap1, rfl, by omega, G1.out, G2.out, G3.out⟩, rfl⟩)
      case measure => simp [lenV] <;> omega
    · obtain rfl : k = d := by omega
      have hlt2 : ¬ (m + k < z') := by have := HZ.out; omega
      go_wp2
      go_ret
      exact ⟨_, rfl, HO.out, HB.out, HK.out⟩
end Go.Proofs.Ytgjoimcgiofinaa
namespace Go.Proofs.Ytgjoimcgiofinaa
open Go.RowKit Go.Fd
set_option maxHeartbeats 4000000 in
set_option maxRecDepth 100000 in
theorem header_any (l : List UInt8) (name p : Nat) (s : SecM) (dv v : Value) (w : World) (base : Nat) (hl : l.length ≤ 100000000) (hname : name ≤ 4611686018427387904) (hp : p ≤ 4611686018427387904) (hf : s.fits) (_hdv : dv.oneCell' = true) (hv : OB w base v l) (hbase : base ≤ w.heap.size) :
    Calls Try.prog 82 #[v, .int .i64 name, secV (s, dv), .int .i64 p] w fun e w' => ∃ v', e = .returned v' ∧ OB w' base v' (l ++ hdrBy name s p) ∧ Below base w w' ∧ Keeps 5 w w' := by
  have HV := Lib.hid hv
  have HFS := Lib.hid hf
  obtain ⟨sname, typ, flags, addr, align, size, link, info, ent, data⟩ := s

  have hty : typ < 4294967296 := HFS.out.1
  have hli : link < 4294967296 := HFS.out.2.2.2.2.2.1
  have hin : info < 4294967296 := HFS.out.2.2.2.2.2.2.1
  have HL := Lib.hid hl
  clear hv hf hl
  go_enter Try.func82, Try.ntmps82
  go_wp2_with ((with_reducible show wpList _ _ _ (⟨_, .box _ _, _, _, _, _⟩ :: _) _ _); go_must (refine wpList_box rfl ?_; intro w1 hx1 hb1 hs1; obtain ⟨e0, e1, e2, e3, e4, e5, e6, e7, e8, e9⟩ := sec_box (x := (⟨sname, typ, flags, addr, align, size, link, info, ent, data⟩, dv)) hx1; have HX1 := Lib.hid hx1; have HV1 := Lib.hid (HV.out.mono hb1); have HB1 := Lib.hid (hb1.mono hbase); have HK1 := Lib.hid (keeps_below (e0 := 5) hb1); clear hb1 hx1))
  refine (ref4Put_any _ name 4 v w1 base (by have h1 := HL.out; omega) (by omega) (by decide) HV1.out (Nat.le_trans hbase HB1.out.size)).mono ?_
  rintro r w2 ⟨v2, rfl, ho, hb, hk⟩
  have HV2 := Lib.hid ho
  have HB2 := Lib.hid (HB1.out.trans hb)
  have HK2 := Lib.hid (HK1.out.trans hk)
  have HX2 := Lib.hid (hk _ _ _ _ (by decide) HX1.out)
  clear ho hb hk
  clear e0 e1 e2 e3 e4 e5 e6 e7 e8 e9
  obtain ⟨e0, e1, e2, e3, e4, e5, e6, e7, e8, e9⟩ := sec_box (x := (⟨sname, typ, flags, addr, align, size, link, info, ent, data⟩, dv)) HX2.out
  go_wp2_with fail
  refine (ref4Put_any _ typ 4 v2 w2 base (by have h1 := HL.out; simp only [List.length_append, length_fixed]; omega) (by omega) (by decide) HV2.out (Nat.le_trans hbase HB2.out.size)).mono ?_
  rintro r w3 ⟨v3, rfl, ho, hb, hk⟩
  have HV3 := Lib.hid ho
  have HB3 := Lib.hid (HB2.out.trans hb)
  have HK3 := Lib.hid (HK2.out.trans hk)
  have HX3 := Lib.hid (hk _ _ _ _ (by decide) HX2.out)
  clear ho hb hk
  clear e0 e1 e2 e3 e4 e5 e6 e7 e8 e9
  obtain ⟨e0, e1, e2, e3, e4, e5, e6, e7, e8, e9⟩ := sec_box (x := (⟨sname, typ, flags, addr, align, size, link, info, ent, data⟩, dv)) HX3.out
  go_wp2_with fail
  refine (ref4Put_any _ flags 8 v3 w3 base (by have h1 := HL.out; simp only [List.length_append, length_fixed]; omega) HFS.out.2.1 (by decide) HV3.out (Nat.le_trans hbase HB3.out.size)).mono ?_
  rintro r w4 ⟨v4, rfl, ho, hb, hk⟩
  have HV4 := Lib.hid ho
  have HB4 := Lib.hid (HB3.out.trans hb)
  have HK4 := Lib.hid (HK3.out.trans hk)
  have HX4 := Lib.hid (hk _ _ _ _ (by decide) HX3.out)
  clear ho hb hk
  clear e0 e1 e2 e3 e4 e5 e6 e7 e8 e9
  obtain ⟨e0, e1, e2, e3, e4, e5, e6, e7, e8, e9⟩ := sec_box (x := (⟨sname, typ, flags, addr, align, size, link, info, ent, data⟩, dv)) HX4.out
  go_wp2_with fail
  refine (ref4Put_any _ addr 8 v4 w4 base (by have h1 := HL.out; simp only [List.length_append, length_fixed]; omega) HFS.out.2.2.1 (by decide) HV4.out (Nat.le_trans hbase HB4.out.size)).mono ?_
  rintro r w5 ⟨v5, rfl, ho, hb, hk⟩
  have HV5 := Lib.hid ho
  have HB5 := Lib.hid (HB4.out.trans hb)
  have HK5 := Lib.hid (HK4.out.trans hk)
  have HX5 := Lib.hid (hk _ _ _ _ (by decide) HX4.out)
  clear ho hb hk
  clear e0 e1 e2 e3 e4 e5 e6 e7 e8 e9
  obtain ⟨e0, e1, e2, e3, e4, e5, e6, e7, e8, e9⟩ := sec_box (x := (⟨sname, typ, flags, addr, align, size, link, info, ent, data⟩, dv)) HX5.out
  go_wp2_with fail
  refine (ref4Put_any _ p 8 v5 w5 base (by have h1 := HL.out; simp only [List.length_append, length_fixed]; omega) (by omega) (by decide) HV5.out (Nat.le_trans hbase HB5.out.size)).mono ?_
  rintro r w6 ⟨v6, rfl, ho, hb, hk⟩
  have HV6 := Lib.hid ho
  have HB6 := Lib.hid (HB5.out.trans hb)
  have HK6 := Lib.hid (HK5.out.trans hk)
  have HX6 := Lib.hid (hk _ _ _ _ (by decide) HX5.out)
  clear ho hb hk
  clear e0 e1 e2 e3 e4 e5 e6 e7 e8 e9
  obtain ⟨e0, e1, e2, e3, e4, e5, e6, e7, e8, e9⟩ := sec_box (x := (⟨sname, typ, flags, addr, align, size, link, info, ent, data⟩, dv)) HX6.out
  go_wp2_with fail
  refine (ref4Put_any _ size 8 v6 w6 base (by have h1 := HL.out; simp only [List.length_append, length_fixed]; omega) HFS.out.2.2.2.2.1 (by decide) HV6.out (Nat.le_trans hbase HB6.out.size)).mono ?_
  rintro r w7 ⟨v7, rfl, ho, hb, hk⟩
  have HV7 := Lib.hid ho
  have HB7 := Lib.hid (HB6.out.trans hb)
  have HK7 := Lib.hid (HK6.out.trans hk)
  have HX7 := Lib.hid (hk _ _ _ _ (by decide) HX6.out)
  clear ho hb hk
  clear e0 e1 e2 e3 e4 e5 e6 e7 e8 e9
  obtain ⟨e0, e1, e2, e3, e4, e5, e6, e7, e8, e9⟩ := sec_box (x := (⟨sname, typ, flags, addr, align, size, link, info, ent, data⟩, dv)) HX7.out
  go_wp2_with fail
  refine (ref4Put_any _ link 4 v7 w7 base (by have h1 := HL.out; simp only [List.length_append, length_fixed]; omega) (by omega) (by decide) HV7.out (Nat.le_trans hbase HB7.out.size)).mono ?_
  rintro r w8 ⟨v8, rfl, ho, hb, hk⟩
  have HV8 := Lib.hid ho
  have HB8 := Lib.hid (HB7.out.trans hb)
  have HK8 := Lib.hid (HK7.out.trans hk)
  have HX8 := Lib.hid (hk _ _ _ _ (by decide) HX7.out)
  clear ho hb hk
  clear e0 e1 e2 e3 e4 e5 e6 e7 e8 e9
  obtain ⟨e0, e1, e2, e3, e4, e5, e6, e7, e8, e9⟩ := sec_box (x := (⟨sname, typ, flags, addr, align, size, link, info, ent, data⟩, dv)) HX8.out
  go_wp2_with fail
  refine (ref4Put_any _ info 4 v8 w8 base (by have h1 := HL.out; simp only [List.length_append, length_fixed]; omega) (by omega) (by decide) HV8.out (Nat.le_trans hbase HB8.out.size)).mono ?_
  rintro r w9 ⟨v9, rfl, ho, hb, hk⟩
  have HV9 := Lib.hid ho
  have HB9 := Lib.hid (HB8.out.trans hb)
  have HK9 := Lib.hid (HK8.out.trans hk)
  have HX9 := Lib.hid (hk _ _ _ _ (by decide) HX8.out)
  clear ho hb hk
  clear e0 e1 e2 e3 e4 e5 e6 e7 e8 e9
  obtain ⟨e0, e1, e2, e3, e4, e5, e6, e7, e8, e9⟩ := sec_box (x := (⟨sname, typ, flags, addr, align, size, link, info, ent, data⟩, dv)) HX9.out
  go_wp2_with fail
  refine (ref4Put_any _ align 8 v9 w9 base (by have h1 := HL.out; simp only [List.length_append, length_fixed]; omega) HFS.out.2.2.2.1 (by decide) HV9.out (Nat.le_trans hbase HB9.out.size)).mono ?_
  rintro r w10 ⟨v10, rfl, ho, hb, hk⟩
  have HV10 := Lib.hid ho
  have HB10 := Lib.hid (HB9.out.trans hb)
  have HK10 := Lib.hid (HK9.out.trans hk)
  have HX10 := Lib.hid (hk _ _ _ _ (by decide) HX9.out)
  clear ho hb hk
  clear e0 e1 e2 e3 e4 e5 e6 e7 e8 e9
  obtain ⟨e0, e1, e2, e3, e4, e5, e6, e7, e8, e9⟩ := sec_box (x := (⟨sname, typ, flags, addr, align, size, link, info, ent, data⟩, dv)) HX10.out
  go_wp2_with fail
  refine (ref4Put_any _ ent 8 v10 w10 base (by have h1 := HL.out; simp only [List.length_append, length_fixed]; omega) HFS.out.2.2.2.2.2.2.2 (by decide) HV10.out (Nat.le_trans hbase HB10.out.size)).mono ?_
  rintro r w11 ⟨v11, rfl, ho, hb, hk⟩
  have HV11 := Lib.hid ho
  have HB11 := Lib.hid (HB10.out.trans hb)
  have HK11 := Lib.hid (HK10.out.trans hk)
  have HX11 := Lib.hid (hk _ _ _ _ (by decide) HX10.out)
  clear ho hb hk
  go_wp2
  go_ret
  refine ⟨_, rfl, ?_, HB11.out, HK11.out⟩
  have := HV11.out
  unfold hdrBy putL
  simp only [List.append_assoc, List.flatMap_cons, List.flatMap_nil, List.append_nil] at this ⊢
  exact this
end Go.Proofs.Ytgjoimcgiofinaa
