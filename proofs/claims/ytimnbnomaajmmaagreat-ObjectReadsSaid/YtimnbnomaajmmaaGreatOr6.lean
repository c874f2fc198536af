/-
  Part 6 of 8: laws and walks for objectReads_holds; no condition of its own.
-/
import Derived.Test.YtimnbnomaajmmaaGreatOr5
import Derived.OrdersHeld
namespace Go.Proofs.YtimnbnomaajmmaaGreat
open Go.RowKit Go.Fd
/-- append in a region that draws: bytes behind bytes. -/
theorem step_catB {ops : Array Oper} {o : Oper} {a : Act} {w : World} {K : Act → World → Prop} {Q : Exit → Act → World → Prop} {E : Prop}
    (hg : o.guard = none) (s x : Operand) (hop : o.op = Op.call { callee := Callee.builtin Builtin.append, args := #[s, x], argTypes := #[22, 22] })
    {base : Nat} {v u : Value} {l m : List UInt8} (hown : OB w base v l) (hy : Bs w u m) (hs : a.eval s = v) (hx : a.eval x = u) (hn : l.length + m.length ≤ 140737488355328) (hb : base ≤ w.heap.size)
    (hK : ∀ v' w', OB w' base v' (l ++ m) → w.grownBy w' v.ownBlock → K (a.put o.dst v') w') :
    if Region.wanted o (yielded ops a.tmps) = true then Oper.wp Tryz.prog o a w K Q else E := by
  have hw : Region.wanted o (yielded ops a.tmps) = true := by simp [Region.wanted, hg]
  rw [if_pos hw]
  obtain ⟨v', w', hrun, h6, h7⟩ := run_cat (ty := o.type) TB hown hy hn hb
  unfold Oper.wp
  simp [execOp, hop, resolve, invoke, builtin, hs, hx, hrun, Result.andThen]
  exact hK v' w' h6 h7
theorem ob_lit7 {w : World} {l : List UInt8} {cs : Array Value} {n : Nat} (hc : cs = (l.map B).toArray) (hn : n = l.length) (hl : l.length ≤ 1000000) : OB (w.alloc (.cells cs 5)) w.heap.size (.slice (some ⟨w.heap.size, 0, none⟩) n n) l := by
  subst hc hn
  exact ⟨by simp, .inr ⟨w.heap.size, l.length, _, rfl, Nat.le_refl _, heap_alloc_last w _, Nat.le_refl _, maxLen_of (by omega), by simp, by simp only [Nat.mul_one]; exact List.take_of_length_le (by simp)⟩⟩
theorem tabSec_fits {n : Nat} (h : n < 18446744073709551616) : (tabSec n).fits := by
  refine ⟨?_, ?_, ?_, ?_, h, ?_, ?_, ?_⟩
  all_goals (simp [tabSec])
theorem keep_h {w w' : World} {b : Nat} {cs : Array Value} {e : TypeId} {fr : Nat × Nat} (h : Keeps 5 w w') (he : e ≠ 5) (hb : w.heap[b]? = some (.cells cs e fr)) : w'.heap[b]? = some (.cells cs e fr) := h _ _ _ _ he hb
set_option maxHeartbeats 4000000 in
set_option maxRecDepth 100000 in
theorem ref4Write_any (e : ElfM) (L : List (SecM × Value)) (sv gv : Value) (w : World) (h : ElfAt w e L sv gv) (ho : ElfOk e) :
    Calls Tryz.prog 39 #[elfV e sv gv] w fun r w' => ∃ v, r = .returned (.tuple #[v, .int .i64 (fileW e).2]) ∧ OB w' w.heap.size v (fileW e).1 ∧ Below w.heap.size w w' := by
  obtain ⟨a, ca, rfl, hca, -, hc⟩ := h.rd.open (fun _ => rfl)
  obtain ⟨ga, gc, rfl, hgc, -, hcg⟩ := h.segs.open (fun _ => rfl)
  have HC := Lib.hid hc
  have HCG := Lib.hid hcg
  have HAT := Lib.hid h
  have HOK := Lib.hid ho
  have HD := Lib.hid h.data
  have HSE := Lib.hid (fun k x (hk : L[k]? = some x) => sec_of h.secs hk)
  have HEL := Lib.hid (show e.secs.length = L.length by rw [h.secs, List.length_map])
  obtain ⟨nl, hnl⟩ : ∃ n, n = L.length := ⟨_, rfl⟩
  obtain ⟨gn, hgn⟩ : ∃ n, n = e.segs.length := ⟨_, rfl⟩
  rw [← hnl] at hca HAT ⊢
  rw [← hgn] at hgc HAT ⊢
  have HL := Lib.hid hnl
  have HGN := Lib.hid hgn
  have HMY := Lib.hid (fun wx (hx : Below w.heap.size w wx) => ref4May_any e L _ _ wx (HAT.out.mono hx) HOK.out)
  clear hc hcg h hnl hgn ho
  cases hmy : mayE e with
  | false =>
    have HR := Lib.hid (fileW_no hmy)
    rw [hmy] at HMY
    clear hmy
    go_enter Tryz.func39, Tryz.ntmps39
    go_wp2_with (first
      | ((with_reducible show wpList _ _ _ (⟨_, .box _ _, _, _, _, _⟩ :: _) _ _); go_must (refine wpList_box rfl ?_; intro w1 hx1 hb1 hs1; obtain ⟨c0, c1, c2, c3, c4, c5⟩ := elf_box hx1)))
    refine (HMY.out _ hb1).mono ?_
    rintro r w2 ⟨rfl, hb2⟩
    go_wp2
    go_ret2
    exact ⟨_, by rw [HR.out]; rfl, by rw [HR.out]; exact OB.nil _ _, hb1.trans (hb2.mono hb1.size)⟩
  | true =>
    have HR := Lib.hid (fileW_ok hmy)
    have HK := Lib.hid (mayK hmy)
    rw [hmy] at HMY
    clear hmy
    have hnl2 : nl ≤ 250 := by have h1 := HK.out.secs; have h2 := HEL.out; have h3 := HL.out; omega
    have hgn2 : gn ≤ 16 := by have h1 := HK.out.segs; have h2 := HGN.out; omega
    go_enter Tryz.func39, Tryz.ntmps39
    go_wp2_with (first
      | ((with_reducible show wpList _ _ _ (⟨_, .box _ _, _, _, _, _⟩ :: _) _ _); go_must (refine wpList_box rfl ?_; intro w1 hx1 hb1 hs1; obtain ⟨c0, c1, c2, c3, c4, c5⟩ := elf_box hx1)))
    have HX1 := Lib.hid hx1
    have HB1 := Lib.hid hb1
    have hs1' := hs1
    clear hx1 hb1 c0 c1 c2 c3 c4 c5
    refine (HMY.out _ HB1.out).mono ?_
    rintro r w2 ⟨rfl, hb2⟩
    have HX2 := Lib.hid (heap_below hb2 HX1.out)
    have HB2 := Lib.hid (HB1.out.trans (hb2.mono HB1.out.size))
    have hs2 := hb2.size
    clear hb2 HMY
    obtain ⟨c0, c1, c2, c3, c4, c5⟩ := elf_box HX2.out
    have HPL := Lib.hid (ref4Places_any e L _ _ w2 (HAT.out.mono HB2.out) (by have := HL.out; omega) (by have := HGN.out; omega) HK.out.pow HOK.out.fits.secs HOK.out.data)
    obtain ⟨pe, hpe⟩ : ∃ pe, pe = (placesOf e).2 := ⟨_, rfl⟩
    rw [← hpe] at HPL
    have HPE := Lib.hid hpe
    clear hpe
    go_wp2_with fail
    clear c0 c1 c2 c3 c4 c5
    refine HPL.out.mono ?_
    rintro r w3 ⟨v3, rfl, ow3, hb3⟩
    obtain ⟨pa, pc, rfl, hpc, -, hpac⟩ := (show Rd I64 w3 v3 (placesOf e).1 from ow3.rd).open 0
    have HPC3 := Lib.hid hpac
    have hpl : (placesOf e).1.length = nl := by have h1 := plF_len (g := segsB e) (n := front e) e.secs; have h2 := HEL.out; have h3 := HL.out; exact h1.trans (by omega)
    rw [hpl] at hpc ⊢
    have HPLN := Lib.hid hpl
    have HX3 := Lib.hid (heap_below hb3 HX2.out)
    have HB3 := Lib.hid (HB2.out.trans (hb3.mono HB2.out.size))
    have hs3 := hb3.size
    clear ow3 hb3 hpac hpl HPL
    obtain ⟨c0, c1, c2, c3, c4, c5⟩ := elf_box HX3.out
    have HNA := Lib.hid (ref4Names_any e L _ _ w3 (HAT.out.mono HB3.out) (by have := HL.out; omega))
    go_wp2_with fail
    clear c0 c1 c2 c3 c4 c5
    refine HNA.out.mono ?_
    rintro r w4 ⟨v4, rfl, ow4, hb4⟩
    have HX4 := Lib.hid (heap_below hb4 HX3.out)
    have HB4 := Lib.hid (HB3.out.trans (hb4.mono HB3.out.size))
    have hs4 := hb4.size
    have HBU := Lib.hid (ref3Build_any (namesOf e.secs) v4 w4 (by rw [namesOf_len]; have h1 := HEL.out; have h2 := HL.out; omega) (fun s hs => by
      unfold namesOf at hs
      rw [List.mem_append, List.mem_map, List.mem_singleton] at hs
      rcases hs with ⟨x, hx, rfl⟩ | rfl
      · exact HOK.out.names _ hx
      · decide) ow4.rd)
    rw [HK.out.ok] at HBU
    have HB34 := Lib.hid hb4
    clear ow4 hb4 HNA
    go_wp2_with fail
    refine HBU.out.mono ?_
    rintro r w5 ⟨v1, v2, rfl, ob1, ow2, hb5⟩
    have OB1 := Lib.hid (show OB w5 w4.heap.size v1 (tabOf e) from ob1)
    have HX5 := Lib.hid (heap_below hb5 HX4.out)
    have HB5w := Lib.hid (HB4.out.trans (hb5.mono HB4.out.size))
    have hs5 := hb5.size
    obtain ⟨tn, ta, tc, htn, rfl, _, _⟩ := ob1.bs.shape
    replace htn : Hid (tn = (tabOf e).length) := htn
    obtain ⟨aa, ac, rfl, hac, -, haac⟩ := (show Rd I64 w5 v2 (atsOf e) from (show Ow I64 3 w5 w4.heap.size v2 (atsOf e) from ow2).rd).open 0
    have HAC := Lib.hid haac
    have HPC : Hid (∀ j, j < (placesOf e).1.length → ∃ b off, pa = some ⟨b, off, none⟩ ∧ w5.cell? ⟨b, off + j, none⟩ = some (I64 ((placesOf e).1[j]?.getD 0))) := fun j hj => by
      obtain ⟨b, off, h1, h2⟩ := HPC3.out j hj
      have h3 := (HB34.out.cell (block_lt h2)).trans h2
      exact ⟨b, off, h1, (hb5.cell (block_lt h3)).trans h3⟩
    obtain ⟨al, hal⟩ : ∃ al, al = (atsOf e).length := ⟨_, rfl⟩
    have HAK := Lib.hid (atsOf_len HK.out)
    have hal2 : al = nl + 1 := by have h1 := HAK.out.1; have h2 := HEL.out; have h3 := HL.out; omega
    rw [← hal] at hac ⊢
    have HALN := Lib.hid hal
    clear ob1 ow2 hb5 HBU haac hal HPC3 HB34
    subst hal2
    have htl : tn ≤ 40000 := by have h1 := tabOf_len e; have h2 := htn.out; have h3 := HEL.out; have h4 := HL.out; omega
    have hpe9 : pe ≤ 4194304 := by have h1 := HK.out.len; have h2 := heads_ge (e := e); have h3 := HPE.out; omega
    have HU := Lib.hid (fun w => ref4Up_any (pe + tn) 8 w (by omega) (by decide) (by decide))
    obtain ⟨hd, hhdd⟩ : ∃ hd, hd = headsOf e tn := ⟨_, rfl⟩
    have HUD : Hid (upN (pe + tn) 8 = hd) := by rw [hhdd, HPE.out]; exact rfl
    have HHD : Hid (hd = headsOf e (tabOf e).length) := by rw [hhdd, htn.out]; exact rfl
    have hhd : hd + 64 * (nl + 2) ≤ 4194304 := by have h1 := HK.out.len; have h2 := HHD.out; have h3 := HEL.out; have h4 := HL.out; omega
    have HGE := Lib.hid (show pe + tn ≤ hd ∧ hd < pe + tn + 8 by have h1 := heads_ge (e := e); have h2 := HHD.out; have h3 := htn.out; have h4 := HPE.out; omega)
    rw [HUD.out] at HU
    have HMC := Lib.hid (fun w => ref4Machine_any e.target w)
    have hml := mach_le e.target
    have hG5 : w.heap.size < w5.heap.size := by omega
    clear hhdd HUD
    obtain ⟨c0, c1, c2, c3, c4, c5⟩ := elf_box HX5.out
    go_wp2_with (go_at_call 73; refine (HU.out _).mono ?_; rintro r w9 ⟨rfl, rfl⟩)
    clear c0 c1 c2 c3 c4 c5
    have hwt := u64of_cast e.typ
    have hut := u64of_lt e.typ
    have HFT := Lib.hid HOK.out.fits.flags
    have HEN := Lib.hid HOK.out.fits.entry
    have hflg := HOK.out.fits.flags
    refine (till_any [127, 69, 76, 70, 2, 1, 1] 9 16 _ _ w5.heap.size (by decide) rfl (ob_lit7 rfl rfl (by decide)) (by rw [World.size_alloc]; omega)).mono ?_
    rintro r w6 ⟨v6, rfl, ho, hb, -⟩
    have HV6 := Lib.hid ho
    have HB6 := Lib.hid ((below_alloc w5 _).trans hb)
    clear ho hb
    have hmt2 : ∃ mt, mt = mach e.target := ⟨_, rfl⟩
    obtain ⟨mt, hmt2⟩ := hmt2
    have hut2 : ∃ ut, ut = u64of e.typ := ⟨_, rfl⟩
    obtain ⟨ut, hut2⟩ := hut2
    rw [← hmt2] at HMC hml
    rw [← hut2] at hwt hut
    have HMTT := Lib.hid hmt2.symm
    have HUTT := Lib.hid hut2.symm
    clear hmt2 hut2
    obtain ⟨c0, c1, c2, c3, c4, c5⟩ := elf_box (heap_base HB6.out HX5.out hG5)
    go_wp2_with fail
    clear c0 c1 c2 c3 c4 c5
    refine (ref4Put_any _ ut 2 v6 _ w5.heap.size (by simp only [List.length_append, List.length_replicate, List.length_cons, List.length_nil]; omega) hut (by decide) HV6.out HB6.out.size).mono ?_
    rintro r w7 ⟨v7, rfl, ho, hb, hk⟩
    have HV7 := Lib.hid ho
    have HB7 := Lib.hid (HB6.out.trans hb)
    clear ho hb hk
    obtain ⟨c0, c1, c2, c3, c4, c5⟩ := elf_box (heap_base HB7.out HX5.out hG5)
    go_wp2_with (first
      | (go_at_call 36; refine (HMC.out _).mono ?_; rintro r w99 ⟨rfl, rfl⟩))
    clear c0 c1 c2 c3 c4 c5
    refine (ref4Put_any _ mt 2 v7 _ w5.heap.size (by simp only [List.length_append, length_fixed, List.length_replicate, List.length_cons, List.length_nil]; omega) (by omega) (by decide) HV7.out HB7.out.size).mono ?_
    rintro r w8 ⟨v8, rfl, ho, hb, hk⟩
    have HV8 := Lib.hid ho
    have HB8 := Lib.hid (HB7.out.trans hb)
    clear ho hb hk
    obtain ⟨c0, c1, c2, c3, c4, c5⟩ := elf_box (heap_base HB8.out HX5.out hG5)
    go_wp2_with fail
    clear c0 c1 c2 c3 c4 c5
    refine (ref4Put_any _ 1 4 v8 _ w5.heap.size (by simp only [List.length_append, length_fixed, List.length_replicate, List.length_cons, List.length_nil]; omega) (by decide) (by decide) HV8.out HB8.out.size).mono ?_
    rintro r w9 ⟨v9, rfl, ho, hb, hk⟩
    have HV9 := Lib.hid ho
    have HB9 := Lib.hid (HB8.out.trans hb)
    clear ho hb hk
    obtain ⟨c0, c1, c2, c3, c4, c5⟩ := elf_box (heap_base HB9.out HX5.out hG5)
    go_wp2_with fail
    clear c0 c1 c2 c3 c4 c5
    refine (ref4Put_any _ e.entry 8 v9 _ w5.heap.size (by simp only [List.length_append, length_fixed, List.length_replicate, List.length_cons, List.length_nil]; omega) HEN.out (by decide) HV9.out HB9.out.size).mono ?_
    rintro r w10 ⟨v10, rfl, ho, hb, hk⟩
    have HV10 := Lib.hid ho
    have HB10 := Lib.hid (HB9.out.trans hb)
    clear ho hb hk
    obtain ⟨c0, c1, c2, c3, c4, c5⟩ := elf_box (heap_base HB10.out HX5.out hG5)
    have hdec : (0 < gn) ∨ ¬ (0 < gn) := Classical.em _
    rcases hdec with hgs | hgs
    · go_wp2_with fail
      clear c0 c1 c2 c3 c4 c5
      refine (ref4Put_any _ 64 8 v10 _ w5.heap.size (by simp only [List.length_append, length_fixed, List.length_replicate, List.length_cons, List.length_nil]; omega) (by decide) (by decide) HV10.out HB10.out.size).mono ?_
      rintro r w11 ⟨v11, rfl, ho, hb, hk⟩
      have HV11 := Lib.hid ho
      have HB11 := Lib.hid (HB10.out.trans hb)
      clear ho hb hk
      obtain ⟨c0, c1, c2, c3, c4, c5⟩ := elf_box (heap_base HB11.out HX5.out hG5)
      go_wp2_with fail
      clear c0 c1 c2 c3 c4 c5
      refine (ref4Put_any _ hd 8 v11 _ w5.heap.size (by simp only [List.length_append, length_fixed, List.length_replicate, List.length_cons, List.length_nil]; omega) (by omega) (by decide) HV11.out HB11.out.size).mono ?_
      rintro r w12 ⟨v12, rfl, ho, hb, hk⟩
      have HV12 := Lib.hid ho
      have HB12 := Lib.hid (HB11.out.trans hb)
      clear ho hb hk
      obtain ⟨c0, c1, c2, c3, c4, c5⟩ := elf_box (heap_base HB12.out HX5.out hG5)
      go_wp2_with fail
      clear c0 c1 c2 c3 c4 c5
      refine (ref4Put_any _ e.flags 4 v12 _ w5.heap.size (by simp only [List.length_append, length_fixed, List.length_replicate, List.length_cons, List.length_nil]; omega) (by omega) (by decide) HV12.out HB12.out.size).mono ?_
      rintro r w13 ⟨v13, rfl, ho, hb, hk⟩
      have HV13 := Lib.hid ho
      have HB13 := Lib.hid (HB12.out.trans hb)
      clear ho hb hk
      obtain ⟨c0, c1, c2, c3, c4, c5⟩ := elf_box (heap_base HB13.out HX5.out hG5)
      have HF13 := Lib.hid (show OB w13 w5.heap.size v13 ([127, 69, 76, 70, 2, 1, 1] ++ List.replicate 9 0 ++ putL 2 [ut, mt] ++ putL 4 [1] ++ putL 8 [e.entry, 64, hd] ++ putL 4 [e.flags]) by
        have := HV13.out
        unfold putL
        simp only [List.append_assoc, List.flatMap_cons, List.flatMap_nil, List.append_nil] at this ⊢
        exact this)
      have hT0 : ∃ T, T = [127, 69, 76, 70, 2, 1, 1] ++ List.replicate 9 0 ++ putL 2 [ut, mt] ++ putL 4 [1] ++ putL 8 [e.entry, 64, hd] ++ putL 4 [e.flags] := ⟨_, rfl⟩
      obtain ⟨T0, hT0⟩ := hT0
      rw [← hT0] at HF13
      have HLT0 := Lib.hid (show T0.length = 52 by rw [hT0]; simp only [List.length_append, putL_len, List.length_replicate]; rfl)
      have HHB := Lib.hid (show headB e hd = T0 ++ putL 2 [64, 56, gn, 64, nl + 2, nl + 1] by
        rw [hT0]
        unfold headB segsB
        rw [show e.secs.length = nl by have h1 := HEL.out; have h2 := HL.out; omega, ← HGN.out, decide_eq_true hgs, HMTT.out, HUTT.out]
        rfl)
      clear hT0 HV13
      obtain ⟨sm, hsm⟩ : ∃ sm, sm = [64, 56, gn, 64, nl + 2, nl + 1] := ⟨_, rfl⟩
      rw [← hsm] at HHB
      have HSB := Lib.hid (show ∀ n ∈ sm, n ≤ 1000 by intro n hn; rw [hsm] at hn; simp only [List.mem_cons, List.not_mem_nil, or_false] at hn; omega)
      have HSL := Lib.hid (show sm.length = 6 by rw [hsm]; rfl)
      have HSA := Lib.hid (fun (w : World) => (show (w.alloc (.cells #[.int .i64 64, .int .i64 56, .int .i64 gn, .int .i64 64, .int .i64 ((nl : Int) + 2), .int .i64 ((nl : Int) + 1)] 3)).heap[w.heap.size]? = some (.cells (sm.map I64).toArray 3 (0, 0)) by rw [hsm]; exact heap_alloc_last w _))
      have hvs : ∃ m ad cap, v13 = .slice ad m cap := by obtain ⟨m, ad, cap, -, h, -⟩ := HF13.out.shape; exact ⟨m, ad, cap, h⟩
      obtain ⟨mv, av, cv, rfl⟩ := hvs
      clear hsm
      go_wp2
      have HS14 := Lib.hid (HSA.out w13)
      go_loopw [11, 13] (fun x i wr => ∃ k : Nat, i = .int .i64 k ∧ k ≤ 6 ∧ Hid (OB wr w5.heap.size x (T0 ++ putL 2 (sm.take k))) ∧ Hid (Below w5.heap.size w5 wr) ∧ Hid (wr.heap[w13.heap.size]? = some (.cells (sm.map I64).toArray 3 (0, 0)))) (fun _ i _ => 6 - (intOf i).toNat)
      case atStart => exact ⟨0, rfl, by omega, by have := HF13.out.mono (below_alloc w13 (.cells #[.int .i64 64, .int .i64 56, .int .i64 gn, .int .i64 64, .int .i64 ((nl : Int) + 2), .int .i64 ((nl : Int) + 1)] 3)); simpa [Hid, putL] using this, HB13.out.trans ((below_alloc w13 _).mono HB13.out.size), HS14.out⟩
      case round =>
        clear c0 c1 c2 c3 c4 c5
        obtain ⟨k, rfl, hk, HO, HB, HS⟩ := hrel
        by_cases hlt : k < 6
        · have X1 := Lib.hid (show sm[k]? = some (sm[k]'(by have := HSL.out; omega)) from List.getElem?_eq_getElem _)
          generalize sm[k]'(by have := HSL.out; omega) = n at *
          have hn1 := HSB.out n (List.mem_of_getElem? X1.out)
          have cS := cell_rec HS.out k
          rw [List.getElem?_toArray, List.getElem?_map, X1.out] at cS
          simp only [Option.map_some] at cS
          have HST := Lib.hid (show putL 2 (sm.take (k + 1)) = putL 2 (sm.take k) ++ fixed n 2 from flatf_step X1.out)
          have HTL := Lib.hid (show (T0 ++ putL 2 (sm.take k)).length ≤ 100 by rw [List.length_append, HLT0.out, putL_len, List.length_take]; omega)
          have HV20 := HO
          have HB20 := HB
          go_wp2_with fail
          refine (ref4Put_any _ n 2 _ _ w5.heap.size (by have := HTL.out; omega) (by omega) (by decide) HV20.out HB20.out.size).mono ?_
          rintro r w21 ⟨v21, rfl, ho, hb, hk⟩
          have HV21 := Lib.hid ho
          have HB21 := Lib.hid (HB20.out.trans hb)
          have HS21 := Lib.hid (keep_h hk (by decide) HS.out)
          clear ho hb hk
          have HF21 := Lib.hid (show OB w21 w5.heap.size v21 (T0 ++ putL 2 (sm.take (k + 1))) by rw [HST.out, ← List.append_assoc]; exact HV21.out)
          go_wp2
          go_roundw
          case rel =>
            first
              | exact ⟨k + 1, by go_num, by omega, HF21.out, HB21.out, HS21.out⟩
              | ((repeat apply Exists.intro); exact ⟨⟨k + 1, by go_num, by omega, HF21.out, HB21.out, HS21.out⟩, rfl⟩)
          case measure => simp [intOf] <;> omega
        · obtain rfl : k = 6 := by omega
          have HF22 := Lib.hid (show OB wr w5.heap.size u11 (headB e hd) by
            rw [HHB.out]
            have := HO.out
            rw [List.take_of_length_le (by have := HSL.out; omega)] at this
            exact this)
          have HB22 := Lib.hid HB.out
          have HLH := Lib.hid (headB_len e hd)
          clear HO HB HS HS14 HSA HHB HF13
          obtain ⟨c0, c1, c2, c3, c4, c5⟩ := elf_box (heap_base HB22.out HX5.out hG5)
          go_wp2
          go_loopw [11, 14] (fun x i wr => ∃ k : Nat, i = .int .i64 k ∧ k ≤ gn ∧ Hid (OB wr w5.heap.size x (headB e hd ++ (e.segs.take k).flatMap segBy)) ∧ Hid (Below w5.heap.size w5 wr)) (fun _ i _ => gn - (intOf i).toNat)
          case atStart => exact ⟨0, rfl, Nat.zero_le _, by simpa [Hid] using HF22.out, HB22.out⟩
          case round =>
            clear c0 c1 c2 c3 c4 c5
            obtain ⟨k, rfl, hk, HO, HB⟩ := hrel
            have HBW := Lib.hid (HB5w.out.trans (HB.out.mono (by omega)))
            obtain ⟨c0, c1, c2, c3, c4, c5⟩ := elf_box (heap_base HB.out HX5.out hG5)
            by_cases hlt : k < gn
            · clear c0 c1 c2 c3 c4
              have X1 := Lib.hid (show e.segs[k]? = some (e.segs[k]'(by have := HGN.out; omega)) from List.getElem?_eq_getElem _)
              generalize e.segs[k]'(by have := HGN.out; omega) = x at *
              obtain ⟨b1, o1, ha, c10, c11, c12, c13, c14, c15, c16, -⟩ := seg_cells HCG.out HBW.out X1.out
              subst ha
              have HFS := Lib.hid (HOK.out.fits.segs _ (List.mem_of_getElem? X1.out))
              have HST : Hid ((e.segs.take (k + 1)).flatMap segBy = (e.segs.take k).flatMap segBy ++ segBy x) := by rw [List.take_add_one, X1.out, List.flatMap_append]; simp [Hid]
              have HTL := Lib.hid (show (headB e hd ++ (e.segs.take k).flatMap segBy).length ≤ 5000 by
                rw [List.length_append, headB_len, flat_len' segBy_len, List.length_take]; omega)
              obtain ⟨typ, flags, off, vaddr, filesz, memsz, align⟩ := x
              generalize hT : headB e hd ++ (e.segs.take k).flatMap segBy = T at *
              have HT := Lib.hid hT
              clear hT
              dsimp only at *
              have hty : typ < 4294967296 := HFS.out.1
              have hfl : flags < 4294967296 := HFS.out.2.1
              go_wp2_with (first
                | ((with_reducible show wpList _ _ _ (⟨none, .store _ _ _, _, _, _, _⟩ :: _) _ _); go_must (refine wpList_storeNew rfl rfl (by kernel_rfl) rfl (by simp [Value.oneCell']) ?_; intro w26 hh26 hb26; obtain ⟨e0, e1, e2, e3, e4, e5, e6⟩ := seg_box (x := ⟨typ, flags, off, vaddr, filesz, memsz, align⟩) hh26; have HH26 := Lib.hid hh26; have HV26 := Lib.hid (HO.out.mono hb26); have HB26 := Lib.hid (HB.out.trans (hb26.mono HB.out.size)); clear hb26 hh26)))
              clear c5 c10 c11 c12 c13 c14 c15 c16
              refine (ref4Put_any _ typ 4 _ _ w5.heap.size (by have := HTL.out; omega) (by omega) (by decide) HV26.out HB26.out.size).mono ?_
              rintro r w27 ⟨v27, rfl, ho, hb, hk⟩
              have HV27 := Lib.hid ho
              have HB27 := Lib.hid (HB26.out.trans hb)
              have HH27 := Lib.hid (keep_h hk (by decide) HH26.out)
              clear ho hb hk
              clear e0 e1 e2 e3 e4 e5 e6
              obtain ⟨e0, e1, e2, e3, e4, e5, e6⟩ := seg_box (x := ⟨typ, flags, off, vaddr, filesz, memsz, align⟩) HH27.out
              go_wp2_with fail
              refine (ref4Put_any _ flags 4 v27 _ w5.heap.size (by have := HTL.out; rw [List.length_append, length_fixed]; omega) (by omega) (by decide) HV27.out HB27.out.size).mono ?_
              rintro r w28 ⟨v28, rfl, ho, hb, hk⟩
              have HV28 := Lib.hid ho
              have HB28 := Lib.hid (HB27.out.trans hb)
              have HH28 := Lib.hid (keep_h hk (by decide) HH27.out)
              clear ho hb hk
              clear e0 e1 e2 e3 e4 e5 e6
              obtain ⟨e0, e1, e2, e3, e4, e5, e6⟩ := seg_box (x := ⟨typ, flags, off, vaddr, filesz, memsz, align⟩) HH28.out
              obtain ⟨sx, hsx⟩ : ∃ sx, sx = [off, vaddr, vaddr, filesz, memsz, align] := ⟨_, rfl⟩
              have HSX := Lib.hid hsx
              have HXB := Lib.hid (show ∀ n ∈ sx, n < 18446744073709551616 by
                intro n hn
                have h1 := HFS.out.2.2.1
                have h2 := HFS.out.2.2.2.1
                have h3 := HFS.out.2.2.2.2.1
                have h4 := HFS.out.2.2.2.2.2.1
                have h5 := HFS.out.2.2.2.2.2.2
                rw [hsx] at hn
                simp only [List.mem_cons, List.not_mem_nil, or_false] at hn
                dsimp only at h1 h2 h3 h4 h5
                omega)
              have HXL := Lib.hid (show sx.length = 6 by rw [hsx]; rfl)
              have HS29 := Lib.hid (show (w28.alloc (.cells #[.int .u64 off, .int .u64 vaddr, .int .u64 vaddr, .int .u64 filesz, .int .u64 memsz, .int .u64 align] 39)).heap[w28.heap.size]? = some (.cells (sx.map U64).toArray 39 (0, 0)) by rw [hsx]; exact heap_alloc_last w28 _)
              have HL28 := Lib.hid (show (T ++ fixed typ 4 ++ fixed flags 4).length ≤ 5008 by rw [List.length_append, List.length_append, length_fixed, length_fixed]; have := HTL.out; omega)
              generalize hT2 : T ++ fixed typ 4 ++ fixed flags 4 = T2 at *
              have HT2 := Lib.hid hT2
              clear hsx hT2
              go_wp2
              go_loopw [11, 17] (fun x i wr => ∃ j : Nat, i = .int .i64 j ∧ j ≤ 6 ∧ Hid (OB wr w5.heap.size x (T2 ++ putL 8 (sx.take j))) ∧ Hid (Below w5.heap.size w5 wr) ∧ Hid (wr.heap[w28.heap.size]? = some (.cells (sx.map U64).toArray 39 (0, 0)))) (fun _ i _ => 6 - (intOf i).toNat)
              case atStart => exact ⟨0, rfl, by omega, by have := HV28.out.mono (below_alloc w28 (.cells #[.int .u64 off, .int .u64 vaddr, .int .u64 vaddr, .int .u64 filesz, .int .u64 memsz, .int .u64 align] 39)); simpa [Hid, putL] using this, HB28.out.trans ((below_alloc w28 _).mono HB28.out.size), HS29.out⟩
              case round =>
                clear e0 e1 e2 e3 e4 e5 e6
                obtain ⟨j, rfl, hj, HO, HB, HS⟩ := hrel
                by_cases hlt2 : j < 6
                · have X2 := Lib.hid (show sx[j]? = some (sx[j]'(by have := HXL.out; omega)) from List.getElem?_eq_getElem _)
                  generalize sx[j]'(by have := HXL.out; omega) = n at *
                  have HN1 := Lib.hid (HXB.out n (List.mem_of_getElem? X2.out))
                  have cS := cell_rec HS.out j
                  rw [List.getElem?_toArray, List.getElem?_map, X2.out] at cS
                  simp only [Option.map_some] at cS
                  have HST2 := Lib.hid (show putL 8 (sx.take (j + 1)) = putL 8 (sx.take j) ++ fixed n 8 from flatf_step X2.out)
                  have HTL2 := Lib.hid (show (T2 ++ putL 8 (sx.take j)).length ≤ 6000 by rw [List.length_append, putL_len, List.length_take]; have := HL28.out; omega)
                  have HV30 := HO
                  have HB30 := HB
                  go_wp2_with fail
                  refine (ref4Put_any _ n 8 _ _ w5.heap.size (by have := HTL2.out; omega) HN1.out (by decide) HV30.out HB30.out.size).mono ?_
                  rintro r w31 ⟨v31, rfl, ho, hb, hk⟩
                  have HV31 := Lib.hid ho
                  have HB31 := Lib.hid (HB30.out.trans hb)
                  have HS31 := Lib.hid (keep_h hk (by decide) HS.out)
                  clear ho hb hk
                  have HF31 := Lib.hid (show OB w31 w5.heap.size v31 (T2 ++ putL 8 (sx.take (j + 1))) by rw [HST2.out, ← List.append_assoc]; exact HV31.out)
                  go_wp2
                  go_roundw
                  case rel =>
                    first
                      | exact ⟨j + 1, by go_num, by omega, HF31.out, HB31.out, HS31.out⟩
                      | ((repeat apply Exists.intro); exact ⟨⟨j + 1, by go_num, by omega, HF31.out, HB31.out, HS31.out⟩, rfl⟩)
                  case measure => simp [intOf] <;> omega
                · obtain rfl : j = 6 := by omega
                  have HF32 := Lib.hid (show OB wr w5.heap.size u11 (headB e hd ++ (e.segs.take (k + 1)).flatMap segBy) by
                    rw [HST.out, ← List.append_assoc, HT.out]
                    have := HO.out
                    rw [List.take_of_length_le (by have := HXL.out; omega), ← HT2.out, HSX.out] at this
                    unfold segBy
                    rw [show putL 4 [typ, flags] = fixed typ 4 ++ fixed flags 4 by simp [putL]]
                    simp only [List.append_assoc] at this ⊢
                    exact this)
                  have HB32 := Lib.hid HB.out
                  clear HO HB
                  go_wp2
                  go_roundw
                  case rel =>
                    first
                      | exact ⟨k + 1, by go_num, by omega, HF32.out, HB32.out⟩
                      | ((repeat apply Exists.intro); exact ⟨⟨k + 1, by go_num, by omega, HF32.out, HB32.out⟩, rfl⟩)
                  case measure => simp [intOf] <;> omega
            · have hkn : e.segs.take k = e.segs := List.take_of_length_le (by have := HGN.out; omega)
              have HFR := Lib.hid (show OB wr w5.heap.size u11 (frontB e) by
                have := HO.out
                rw [hkn] at this
                unfold frontB
                rw [← HHD.out]
                exact this)
              have HBR := Lib.hid HB.out
              clear HO HB hkn
              obtain ⟨c0, c1, c2, c3, c4, c5⟩ := elf_box (heap_base HBR.out HX5.out hG5)
              go_wp2
              go_loopw [11, 18] (fun x i wr => ∃ k : Nat, i = .int .i64 k ∧ k ≤ nl ∧ Hid (OB wr w5.heap.size x (bodyF (frontB e) ((e.secs.zip (placesOf e).1).take k))) ∧ Hid (Below w5.heap.size w5 wr)) (fun _ i _ => nl - (intOf i).toNat)
              case atStart => exact ⟨0, rfl, Nat.zero_le _, HFR.out, HBR.out⟩
              case round =>
                clear c0 c1 c2 c3 c4 c5
                obtain ⟨k, rfl, hk, HO, HB⟩ := hrel
                have HBW := Lib.hid (HB5w.out.trans (HB.out.mono (by omega)))
                by_cases hlt : k < nl
                · obtain ⟨c0, c1, c2, c3, c4, c5⟩ := elf_box (heap_base HB.out HX5.out hG5)
                  clear c0 c1 c2 c3 c5
                  have X1 := Lib.hid (show L[k]? = some (L[k]'(by have := HL.out; omega)) from List.getElem?_eq_getElem _)
                  generalize L[k]'(by have := HL.out; omega) = x at *
                  obtain ⟨s, dv⟩ := x
                  have HDB := Lib.hid (HD.out _ (List.mem_of_getElem? X1.out))
                  obtain ⟨dm, da, dc, hdm, rfl, _, _⟩ := HDB.out.shape
                  have X2 := Lib.hid (HSE.out _ _ X1.out)
                  have HZP := Lib.hid (zipP (g := segsB e) (n := front e) X2.out)
                  have HFN := Lib.hid (HK.out.fine _ (List.mem_of_getElem? X2.out))
                  have HST := Lib.hid (show bodyF (frontB e) ((e.secs.zip (placesOf e).1).take (k + 1)) = bodyF (frontB e) ((e.secs.zip (placesOf e).1).take k) ++ List.replicate (placeS (segsB e) (plF (segsB e) (front e) (e.secs.take k)).2 s - (bodyF (frontB e) ((e.secs.zip (placesOf e).1).take k)).length) 0 ++ s.data from bodyF_step (acc := frontB e) HZP.out)
                  have HLN := Lib.hid (body_len (g := segsB e) (frontB_len e) HK.out.pow k (by have h1 := HEL.out; have h2 := HL.out; omega))
                  have HLE := Lib.hid (placeS_le (g := segsB e) (p := (plF (segsB e) (front e) (e.secs.take k)).2) (HK.out.pow _ (List.mem_of_getElem? X2.out)))
                  have HPB := Lib.hid (place_bd HK.out (k + 1))
                  rw [plF_step X2.out] at HPB
                  have hp9 : placeS (segsB e) (plF (segsB e) (front e) (e.secs.take k)).2 s + dm ≤ 4194304 := by
                    have h1 : placeS (segsB e) (plF (segsB e) (front e) (e.secs.take k)).2 s + s.data.length ≤ (placesOf e).2 := HPB.out
                    have h3 := HPE.out
                    have h4 := hdm.out
                    dsimp only at h4
                    omega
                  obtain ⟨b1, o1, ha, c10, c11, c12, c13, c14, c15, c16, c17, c18, c19, hb1lt⟩ := sec_cells HC.out HBW.out X1.out
                  subst ha
                  clear c10 c12 c13 c14 c15 c16 c17 c18
                  obtain ⟨bP, oP, hP1, cP⟩ := HPC.out k (by have := HPLN.out; omega)
                  have HPGx : (placesOf e).1[k]? = some (placeS (segsB e) (plF (segsB e) (front e) (e.secs.take k)).2 s) := plF_get (g := segsB e) (n := front e) X2.out
                  rw [HPGx] at cP
                  simp only [Option.getD_some] at cP
                  replace cP := (HB.out.cell (block_lt cP)).trans cP
                  subst hP1
                  have HPGY := Lib.hid HPGx
                  generalize hT : bodyF (frontB e) ((e.secs.zip (placesOf e).1).take k) = T at *
                  have HT := Lib.hid hT
                  have HTL := Lib.hid (show T.length = (plF (segsB e) (front e) (e.secs.take k)).2 by rw [← hT]; exact HLN.out)
                  have HP8 : Hid (s.typ = 8 → placeS (segsB e) (plF (segsB e) (front e) (e.secs.take k)).2 s = T.length ∧ s.data = []) := fun h8 => by
                    refine ⟨?_, ?_⟩
                    · rw [HTL.out]; unfold placeS; rw [if_pos h8]
                    · have h1 := HFN.out
                      unfold fineB at h1
                      rw [if_pos h8] at h1
                      simp only [Bool.and_eq_true, decide_eq_true_eq] at h1
                      exact List.eq_nil_of_length_eq_zero h1.2.1
                  generalize placeS (segsB e) (plF (segsB e) (front e) (e.secs.take k)).2 s = p at *
                  obtain ⟨d, hd1⟩ : ∃ d, p = T.length + d := ⟨p - T.length, by have h1 := HLE.out.1; have h2 := HTL.out; omega⟩
                  have HD1 := Lib.hid hd1
                  clear hT HPGx hd1
                  obtain ⟨name, typ, flags, addr, align, size, link, info, ent, data⟩ := s
                  dsimp only at *
                  by_cases h8 : typ = 8
                  · have h8' : ((typ : Int) != 8) = false := by rw [bne_eq_false_iff_eq]; omega
                    obtain ⟨hpT, hdn⟩ := HP8.out h8
                    have hdm0 : dm = 0 := by have := hdm.out; rw [hdn] at this; simpa using this
                    have hdz : ¬ (0 < dm) := by omega
                    have HF40 := Lib.hid (show OB wr w5.heap.size u11 (bodyF (frontB e) ((e.secs.zip (placesOf e).1).take (k + 1))) by
                      rw [HST.out, hdn, hpT, Nat.sub_self, List.replicate_zero, List.append_nil, List.append_nil]
                      exact HO.out)
                    have HX8 := Lib.hid h8
                    have HX9 := Lib.hid hdm0
                    clear h8 hdm0 hpT hdn
                    go_wp2
                    go_roundw
                    case rel =>
                      first
                        | exact ⟨k + 1, by go_num, by omega, HF40.out, HB.out⟩
                        | ((repeat apply Exists.intro); exact ⟨⟨k + 1, by go_num, by omega, HF40.out, HB.out⟩, rfl⟩)
                    case measure => simp [intOf] <;> omega
                  · have h8' : ((typ : Int) != 8) = true := by rw [bne_iff_ne]; omega
                    have HX8 := Lib.hid h8
                    clear h8
                    have hdd : 0 < dm ∨ ¬ (0 < dm) := Classical.em _
                    rcases hdd with hdd | hdd
                    all_goals
                      have HVD := Lib.hid (show OB wr.drew w5.heap.size u11 T from HO.out.mono ((Below.refl _ _).drew))
                      have HBD := Lib.hid (HB.out.trans (show Below w5.heap.size wr wr.drew from (Below.refl _ _).drew))
                      have HL1 := Lib.hid (show T.length + d ≤ 1000000000 by have := HD1.out; omega)
                      have HZ1 := Lib.hid (show (p : Int) = ((T.length + d : Nat) : Int) by rw [HD1.out])
                      have HLEN := Lib.hid (show (T ++ List.replicate d 0).length + data.length ≤ 140737488355328 by rw [List.length_append, List.length_replicate]; have h1 := HD1.out; have h2 := hdm.out; omega)
                      have HPD := Lib.hid (show p - T.length = d by have := HD1.out; omega)
                      go_wp2
                      go_region_law (first
                        | (refine step_catB rfl (.tmp 174) (.tmp 180) rfl HV40.out HD40.out rfl rfl HLEN.out HB40.out.size ?_; intro v41 w41 hv41 hg41; have HV41 := Lib.hid hv41; have HB41 := Lib.hid (HB40.out.trans (below_of_grown hg41 HB40.out.size fun k hk => (World.ownsRow.lt HV40.out k hk).1)); clear hv41 hg41)
                        | (go_simp; go_at_call 74; refine (till_any T d _ _ _ w5.heap.size HL1.out HZ1.out HVD.out HBD.out.size).mono ?_; rintro r w40 ⟨v40, rfl, ho, hb, -⟩; have HV40 := Lib.hid ho; have HB40 := Lib.hid (HBD.out.trans hb); have HD40 := Lib.hid (HDB.out.mono (HB5w.out.trans (HB40.out.mono (by omega)))); have k4 := (hb.cell (p := ⟨w.heap.size, 4, none⟩) hG5).trans c4; have k19 := (hb.cell (p := ⟨b1, o1 + k * 10 + 9, none⟩) (by show b1 < _; omega)).trans c19; clear ho hb))
                      all_goals
                        have HF41 := Lib.hid (show OB w41 w5.heap.size v41 (bodyF (frontB e) ((e.secs.zip (placesOf e).1).take (k + 1))) by rw [HST.out, HPD.out]; exact HV41.out)
                        clear c4 k4 k19 c19 c11
                        go_wp2
                        go_roundw
                        case rel =>
                          first
                            | exact ⟨k + 1, by go_num, by omega, HF41.out, HB41.out⟩
                            | ((repeat apply Exists.intro); exact ⟨⟨k + 1, by go_num, by omega, HF41.out, HB41.out⟩, rfl⟩)
                        case measure => simp [intOf] <;> omega
                · have hkn : (e.secs.zip (placesOf e).1).take k = e.secs.zip (placesOf e).1 := List.take_of_length_le (by rw [List.length_zip]; have h1 := HEL.out; have h2 := HL.out; omega)
                  have HV42 := Lib.hid (show OB wr w5.heap.size u11 (bodyB e) by
                    have := HO.out
                    rw [hkn] at this
                    exact this)
                  have HBL := Lib.hid (show (bodyB e).length = pe by rw [bodyB_len HK.out.pow, ← HPE.out])
                  have HB42 := Lib.hid HB.out
                  obtain ⟨c0, c1, c2, c3, c4, c5⟩ := elf_box (heap_base HB.out HX5.out hG5)
                  clear HO HB hkn c0 c1 c2 c3 c5
                  go_wp2_with fail
                  clear c4
                  refine (till_any (bodyB e) 0 (pe : Int) _ wr w5.heap.size (by have h1 := HBL.out; omega) (by rw [HBL.out]; rfl) HV42.out HB42.out.size).mono ?_
                  rintro r w43 ⟨v43, rfl, ho, hb, -⟩
                  rw [List.replicate_zero, List.append_nil] at ho
                  have HV43 := Lib.hid ho
                  have HB43 := Lib.hid (HB42.out.trans hb)
                  have HTB := Lib.hid (OB1.out.bs.mono HB43.out)
                  clear ho hb
                  go_wp2_with ((with_reducible show wpList _ _ _ (⟨some 186, _, _, _, _, _⟩ :: _) _ _); go_must (refine wpList_catB HV43.out HTB.out rfl rfl (by have h1 := HBL.out; have h2 := htn.out; omega) HB43.out.size ?_; intro v44 w44 hv44 hg44 hb44; have HV44 := Lib.hid hv44; have HB44 := Lib.hid (HB43.out.trans hb44); clear hv44 hg44 hb44))
                  have HTN : Hid ((bodyB e ++ tabOf e).length = pe + tn) := by
                    show _ = _
                    rw [List.length_append, HBL.out, ← htn.out]
                  obtain ⟨dd, hdd⟩ : ∃ dd, hd + 64 = pe + tn + dd := ⟨hd + 64 - (pe + tn), by have := HGE.out.1; omega⟩
                  have HDD := Lib.hid hdd
                  clear hdd
                  refine (till_any (bodyB e ++ tabOf e) dd ((hd : Int) + 64) _ w44 w5.heap.size (by rw [HTN.out]; have := HDD.out; omega) (by rw [HTN.out]; have := HDD.out; omega) HV44.out HB44.out.size).mono ?_
                  rintro r w45 ⟨v45, rfl, ho, hb, -⟩
                  have HV45 := Lib.hid (show OB w45 w5.heap.size v45 (midB e) by
                    unfold midB
                    rw [← HHD.out, ← HPE.out, ← htn.out, show hd + 64 - (pe + tn) = dd by have := HDD.out; omega]
                    exact ho)
                  have HB45 := Lib.hid (HB44.out.trans hb)
                  have HML := Lib.hid (show (midB e).length = hd + 64 by rw [midB_len HK.out, ← HHD.out])
                  clear ho hb
                  go_wp2
                  go_loopw [11, 19] (fun x i wr => ∃ k : Nat, i = .int .i64 k ∧ k ≤ nl ∧ Hid (OB wr w5.heap.size x (midB e ++ ((e.secs.zip ((atsOf e).zip (placesOf e).1)).take k).flatMap fun p => hdrBy p.2.1 p.1 p.2.2)) ∧ Hid (Below w5.heap.size w5 wr)) (fun _ i _ => nl - (intOf i).toNat)
                  case atStart => exact ⟨0, rfl, Nat.zero_le _, by simpa [Hid] using HV45.out, HB45.out⟩
                  case round =>
                    obtain ⟨k, rfl, hk, HO, HB⟩ := hrel
                    have HBW := Lib.hid (HB5w.out.trans (HB.out.mono (by omega)))
                    obtain ⟨c0, c1, c2, c3, c4, c5⟩ := elf_box (heap_base HB.out HX5.out hG5)
                    clear c0 c1 c2 c3 c5
                    by_cases hlt : k < nl
                    · have X1 := Lib.hid (show L[k]? = some (L[k]'(by have := HL.out; omega)) from List.getElem?_eq_getElem _)
                      generalize L[k]'(by have := HL.out; omega) = x at *
                      obtain ⟨s, dv⟩ := x
                      obtain ⟨dm, da, dc, hdm, rfl, _, _⟩ := (HD.out _ (List.mem_of_getElem? X1.out)).shape
                      have X2 := Lib.hid (HSE.out _ _ X1.out)
                      have HFS := Lib.hid (HOK.out.fits.secs _ (List.mem_of_getElem? X2.out))
                      obtain ⟨b1, o1, ha, c10, c11, c12, c13, c14, c15, c16, c17, c18, c19, -⟩ := sec_cells HC.out HBW.out X1.out
                      subst ha
                      have XA := Lib.hid (show (atsOf e)[k]? = some ((atsOf e)[k]'(by have := HALN.out; omega)) from List.getElem?_eq_getElem _)
                      have XP := Lib.hid (show (placesOf e).1[k]? = some ((placesOf e).1[k]'(by have := HPLN.out; omega)) from List.getElem?_eq_getElem _)
                      have hpbx : ∀ x, (placesOf e).1[k]? = some x → x ≤ 4194304 := fun x hx => by
                        have h2 := plF_get (g := segsB e) (n := front e) X2.out
                        have h3 : (placesOf e).1[k]? = some (placeS (segsB e) (plF (segsB e) (front e) (e.secs.take k)).2 s) := h2
                        rw [h3] at hx
                        injection hx with hx
                        have h4 := place_bd HK.out (k + 1)
                        rw [plF_step X2.out] at h4
                        have h5 : placeS (segsB e) (plF (segsB e) (front e) (e.secs.take k)).2 s + s.data.length ≤ (placesOf e).2 := h4
                        have h6 := HPE.out
                        omega
                      have hab : (atsOf e)[k]'(by have := HALN.out; omega) ≤ 130000 := HAK.out.2 _ (List.getElem_mem _)
                      obtain ⟨bA, oA, hA1, cA⟩ := HAC.out k (by have := HALN.out; omega)
                      obtain ⟨bP, oP, hP1, cP⟩ := HPC.out k (by have := HPLN.out; omega)
                      rw [XA.out] at cA
                      rw [XP.out] at cP
                      have HST : Hid (((e.secs.zip ((atsOf e).zip (placesOf e).1)).take (k + 1)).flatMap (fun p => hdrBy p.2.1 p.1 p.2.2) = ((e.secs.zip ((atsOf e).zip (placesOf e).1)).take k).flatMap (fun p => hdrBy p.2.1 p.1 p.2.2) ++ hdrBy ((atsOf e)[k]'(by have := HALN.out; omega)) s ((placesOf e).1[k]'(by have := HPLN.out; omega))) := by
                        rw [List.take_add_one, show (e.secs.zip ((atsOf e).zip (placesOf e).1))[k]? = some (s, _, _) by rw [List.getElem?_zip_eq_some]; exact ⟨X2.out, by rw [List.getElem?_zip_eq_some]; exact ⟨XA.out, XP.out⟩⟩, List.flatMap_append]
                        simp [Hid]
                      have hpb := hpbx _ XP.out
                      clear hpbx
                      generalize (atsOf e)[k]'(by have := HALN.out; omega) = na at *
                      generalize (placesOf e).1[k]'(by have := HPLN.out; omega) = pl at *
                      simp only [Option.getD_some] at cA cP
                      replace cA := (HB.out.cell (block_lt cA)).trans cA
                      replace cP := (HB.out.cell (block_lt cP)).trans cP
                      subst hA1
                      subst hP1
                      have HTL := Lib.hid (show (midB e ++ ((e.secs.zip ((atsOf e).zip (placesOf e).1)).take k).flatMap fun p => hdrBy p.2.1 p.1 p.2.2).length ≤ 8000000 by
                        rw [List.length_append, HML.out, flat_len' (f := fun p : SecM × Nat × Nat => hdrBy p.2.1 p.1 p.2.2) (fun p => hdrBy_len p.2.1 p.1 p.2.2), List.length_take]
                        omega)
                      generalize hT : (midB e ++ ((e.secs.zip ((atsOf e).zip (placesOf e).1)).take k).flatMap fun p => hdrBy p.2.1 p.1 p.2.2) = T at *
                      have HT := Lib.hid hT
                      have hAB := fun (x : Above wr) (b k : Nat) (h : b < wr.heap.size) => Above.cell x b k h
                      have hbltA : bA < wr.heap.size := block_lt cA
                      have hbltP : bP < wr.heap.size := block_lt cP
                      have hbltE : w.heap.size < wr.heap.size := block_lt c4
                      have hblt1 : b1 < wr.heap.size := block_lt c10
                      clear hT
                      go_wp2
                      refine wp_region_walk 14 [] (by kernel_rfl) (by kernel_rfl) ?_
                      simp only [List.take_succ_cons, List.take_zero, List.drop_succ_cons, List.drop_zero]
                      repeat (refine walk_quiet rfl rfl rfl ?_; intro K hK; go_big_quiet_op; go_big_quiet_on)
                      refine walk_nil ?_
                      intro wz hbz hF
                      have HVz := Lib.hid (HO.out.mono hbz)
                      have HBz := Lib.hid (HB.out.trans (hbz.mono HB.out.size))
                      clear hF hbz hAB hbltA hbltP hbltE hblt1 cA cP c4 c10 c11 c12 c13 c14 c15 c16 c17 c18 c19
                      go_wp2_with fail
                      refine (header_any T na pl s (.slice da dm dc) _ wz w5.heap.size (by have := HTL.out; omega) (by omega) (by omega) HFS.out rfl HVz.out HBz.out.size).mono ?_
                      rintro r w46 ⟨v46, rfl, ho, hb, -⟩
                      have HF46 := Lib.hid (show OB w46 w5.heap.size v46 (midB e ++ ((e.secs.zip ((atsOf e).zip (placesOf e).1)).take (k + 1)).flatMap fun p => hdrBy p.2.1 p.1 p.2.2) by
                        rw [HST.out, ← List.append_assoc, HT.out]
                        exact ho)
                      have HB46 := Lib.hid (HBz.out.trans hb)
                      clear ho hb
                      go_wp2
                      go_roundw
                      case rel =>
                        first
                          | exact ⟨k + 1, by go_num, by omega, HF46.out, HB46.out⟩
                          | ((repeat apply Exists.intro); exact ⟨⟨k + 1, by go_num, by omega, HF46.out, HB46.out⟩, rfl⟩)
                      case measure => simp [intOf] <;> omega
                    · have hkn : (e.secs.zip ((atsOf e).zip (placesOf e).1)).take k = e.secs.zip ((atsOf e).zip (placesOf e).1) := List.take_of_length_le (by rw [List.length_zip]; have h1 := HEL.out; have h2 := HL.out; omega)
                      have HV50 := Lib.hid (show OB wr w5.heap.size u11 (midB e ++ hdrsB e) by
                        have := HO.out
                        rw [hkn] at this
                        exact this)
                      have HB50 := Lib.hid HB.out
                      have HTL := Lib.hid (show (midB e ++ hdrsB e).length ≤ 8000000 by
                        unfold hdrsB
                        rw [List.length_append, HML.out, flat_len' (f := fun p : SecM × Nat × Nat => hdrBy p.2.1 p.1 p.2.2) (fun p => hdrBy_len p.2.1 p.1 p.2.2), List.length_zip]
                        have h1 := HEL.out
                        have h2 := HL.out
                        have h3 : min e.secs.length ((atsOf e).zip (placesOf e).1).length ≤ e.secs.length := Nat.min_le_left _ _
                        omega)
                      have XA := Lib.hid (show (atsOf e)[nl]? = some ((atsOf e)[nl]'(by have := HALN.out; omega)) from List.getElem?_eq_getElem _)
                      have hab : (atsOf e)[nl]'(by have := HALN.out; omega) ≤ 130000 := HAK.out.2 _ (List.getElem_mem _)
                      obtain ⟨bA, oA, hA1, cA⟩ := HAC.out nl (by have := HALN.out; omega)
                      rw [XA.out] at cA
                      generalize (atsOf e)[nl]'(by have := HALN.out; omega) = na at *
                      simp only [Option.getD_some] at cA
                      replace cA := (HB.out.cell (block_lt cA)).trans cA
                      subst hA1
                      have HFB : Hid (fileB e = midB e ++ hdrsB e ++ hdrBy na (tabSec tn) pe) := by
                        unfold fileB
                        rw [← htn.out, ← HPE.out, show e.secs.length = nl by have h1 := HEL.out; have h2 := HL.out; omega, XA.out]
                        exact rfl
                      generalize hT : midB e ++ hdrsB e = T at *
                      clear HO HB hkn hT c4
                      go_wp2_with fail
                      clear cA
                      refine (header_any T na pe (tabSec tn) (.slice none 0 0) _ wr w5.heap.size (by have := HTL.out; omega) (by omega) (by omega) (tabSec_fits (by omega)) rfl HV50.out HB50.out.size).mono ?_
                      rintro r w51 ⟨v51, rfl, ho, hb, -⟩
                      have HF51 := Lib.hid (show OB w51 w.heap.size v51 (fileB e) by rw [HFB.out]; exact ho.base (by omega))
                      have HB51 := Lib.hid (HB50.out.trans hb)
                      clear ho hb
                      go_wp2
                      go_ret2
                      exact ⟨_, by rw [HR.out]; rfl, by rw [HR.out]; exact HF51.out, HB5w.out.trans (HB51.out.mono (by omega))⟩
    · go_wp2_with fail
      clear c0 c1 c2 c3 c4 c5
      refine (ref4Put_any _ 0 8 v10 _ w5.heap.size (by simp only [List.length_append, length_fixed, List.length_replicate, List.length_cons, List.length_nil]; omega) (by decide) (by decide) HV10.out HB10.out.size).mono ?_
      rintro r w11 ⟨v11, rfl, ho, hb, hk⟩
      have HV11 := Lib.hid ho
      have HB11 := Lib.hid (HB10.out.trans hb)
      clear ho hb hk
      obtain ⟨c0, c1, c2, c3, c4, c5⟩ := elf_box (heap_base HB11.out HX5.out hG5)
      go_wp2_with fail
      clear c0 c1 c2 c3 c4 c5
      refine (ref4Put_any _ hd 8 v11 _ w5.heap.size (by simp only [List.length_append, length_fixed, List.length_replicate, List.length_cons, List.length_nil]; omega) (by omega) (by decide) HV11.out HB11.out.size).mono ?_
      rintro r w12 ⟨v12, rfl, ho, hb, hk⟩
      have HV12 := Lib.hid ho
      have HB12 := Lib.hid (HB11.out.trans hb)
      clear ho hb hk
      obtain ⟨c0, c1, c2, c3, c4, c5⟩ := elf_box (heap_base HB12.out HX5.out hG5)
      go_wp2_with fail
      clear c0 c1 c2 c3 c4 c5
      refine (ref4Put_any _ e.flags 4 v12 _ w5.heap.size (by simp only [List.length_append, length_fixed, List.length_replicate, List.length_cons, List.length_nil]; omega) (by omega) (by decide) HV12.out HB12.out.size).mono ?_
      rintro r w13 ⟨v13, rfl, ho, hb, hk⟩
      have HV13 := Lib.hid ho
      have HB13 := Lib.hid (HB12.out.trans hb)
      clear ho hb hk
      obtain ⟨c0, c1, c2, c3, c4, c5⟩ := elf_box (heap_base HB13.out HX5.out hG5)
      have HF13 := Lib.hid (show OB w13 w5.heap.size v13 ([127, 69, 76, 70, 2, 1, 1] ++ List.replicate 9 0 ++ putL 2 [ut, mt] ++ putL 4 [1] ++ putL 8 [e.entry, 0, hd] ++ putL 4 [e.flags]) by
        have := HV13.out
        unfold putL
        simp only [List.append_assoc, List.flatMap_cons, List.flatMap_nil, List.append_nil] at this ⊢
        exact this)
      have hT0 : ∃ T, T = [127, 69, 76, 70, 2, 1, 1] ++ List.replicate 9 0 ++ putL 2 [ut, mt] ++ putL 4 [1] ++ putL 8 [e.entry, 0, hd] ++ putL 4 [e.flags] := ⟨_, rfl⟩
      obtain ⟨T0, hT0⟩ := hT0
      rw [← hT0] at HF13
      have HLT0 := Lib.hid (show T0.length = 52 by rw [hT0]; simp only [List.length_append, putL_len, List.length_replicate]; rfl)
      have HHB := Lib.hid (show headB e hd = T0 ++ putL 2 [64, 56, gn, 64, nl + 2, nl + 1] by
        rw [hT0]
        unfold headB segsB
        rw [show e.secs.length = nl by have h1 := HEL.out; have h2 := HL.out; omega, ← HGN.out, decide_eq_false hgs, HMTT.out, HUTT.out]
        rfl)
      clear hT0 HV13
      obtain ⟨sm, hsm⟩ : ∃ sm, sm = [64, 56, gn, 64, nl + 2, nl + 1] := ⟨_, rfl⟩
      rw [← hsm] at HHB
      have HSB := Lib.hid (show ∀ n ∈ sm, n ≤ 1000 by intro n hn; rw [hsm] at hn; simp only [List.mem_cons, List.not_mem_nil, or_false] at hn; omega)
      have HSL := Lib.hid (show sm.length = 6 by rw [hsm]; rfl)
      have HSA := Lib.hid (fun (w : World) => (show (w.alloc (.cells #[.int .i64 64, .int .i64 56, .int .i64 gn, .int .i64 64, .int .i64 ((nl : Int) + 2), .int .i64 ((nl : Int) + 1)] 3)).heap[w.heap.size]? = some (.cells (sm.map I64).toArray 3 (0, 0)) by rw [hsm]; exact heap_alloc_last w _))
      have hvs : ∃ m ad cap, v13 = .slice ad m cap := by obtain ⟨m, ad, cap, -, h, -⟩ := HF13.out.shape; exact ⟨m, ad, cap, h⟩
      obtain ⟨mv, av, cv, rfl⟩ := hvs
      clear hsm
      go_wp2
      have HS14 := Lib.hid (HSA.out w13)
      go_loopw [11, 13] (fun x i wr => ∃ k : Nat, i = .int .i64 k ∧ k ≤ 6 ∧ Hid (OB wr w5.heap.size x (T0 ++ putL 2 (sm.take k))) ∧ Hid (Below w5.heap.size w5 wr) ∧ Hid (wr.heap[w13.heap.size]? = some (.cells (sm.map I64).toArray 3 (0, 0)))) (fun _ i _ => 6 - (intOf i).toNat)
      case atStart => exact ⟨0, rfl, by omega, by have := HF13.out.mono (below_alloc w13 (.cells #[.int .i64 64, .int .i64 56, .int .i64 gn, .int .i64 64, .int .i64 ((nl : Int) + 2), .int .i64 ((nl : Int) + 1)] 3)); simpa [Hid, putL] using this, HB13.out.trans ((below_alloc w13 _).mono HB13.out.size), HS14.out⟩
      case round =>
        clear c0 c1 c2 c3 c4 c5
        obtain ⟨k, rfl, hk, HO, HB, HS⟩ := hrel
        by_cases hlt : k < 6
        · have X1 := Lib.hid (show sm[k]? = some (sm[k]'(by have := HSL.out; omega)) from List.getElem?_eq_getElem _)
          generalize sm[k]'(by have := HSL.out; omega) = n at *
          have hn1 := HSB.out n (List.mem_of_getElem? X1.out)
          have cS := cell_rec HS.out k
          rw [List.getElem?_toArray, List.getElem?_map, X1.out] at cS
          simp only [Option.map_some] at cS
          have HST := Lib.hid (show putL 2 (sm.take (k + 1)) = putL 2 (sm.take k) ++ fixed n 2 from flatf_step X1.out)
          have HTL := Lib.hid (show (T0 ++ putL 2 (sm.take k)).length ≤ 100 by rw [List.length_append, HLT0.out, putL_len, List.length_take]; omega)
          have HV20 := HO
          have HB20 := HB
          go_wp2_with fail
          refine (ref4Put_any _ n 2 _ _ w5.heap.size (by have := HTL.out; omega) (by omega) (by decide) HV20.out HB20.out.size).mono ?_
          rintro r w21 ⟨v21, rfl, ho, hb, hk⟩
          have HV21 := Lib.hid ho
          have HB21 := Lib.hid (HB20.out.trans hb)
          have HS21 := Lib.hid (keep_h hk (by decide) HS.out)
          clear ho hb hk
          have HF21 := Lib.hid (show OB w21 w5.heap.size v21 (T0 ++ putL 2 (sm.take (k + 1))) by rw [HST.out, ← List.append_assoc]; exact HV21.out)
          go_wp2
          go_roundw
          case rel =>
            first
              | exact ⟨k + 1, by go_num, by omega, HF21.out, HB21.out, HS21.out⟩
              | ((repeat apply Exists.intro); exact ⟨⟨k + 1, by go_num, by omega, HF21.out, HB21.out, HS21.out⟩, rfl⟩)
          case measure => simp [intOf] <;> omega
        · obtain rfl : k = 6 := by omega
          have HF22 := Lib.hid (show OB wr w5.heap.size u11 (headB e hd) by
            rw [HHB.out]
            have := HO.out
            rw [List.take_of_length_le (by have := HSL.out; omega)] at this
            exact this)
          have HB22 := Lib.hid HB.out
          have HLH := Lib.hid (headB_len e hd)
          clear HO HB HS HS14 HSA HHB HF13
          obtain ⟨c0, c1, c2, c3, c4, c5⟩ := elf_box (heap_base HB22.out HX5.out hG5)
          go_wp2
          go_loopw [11, 14] (fun x i wr => ∃ k : Nat, i = .int .i64 k ∧ k ≤ gn ∧ Hid (OB wr w5.heap.size x (headB e hd ++ (e.segs.take k).flatMap segBy)) ∧ Hid (Below w5.heap.size w5 wr)) (fun _ i _ => gn - (intOf i).toNat)
          case atStart => exact ⟨0, rfl, Nat.zero_le _, by simpa [Hid] using HF22.out, HB22.out⟩
          case round =>
            clear c0 c1 c2 c3 c4 c5
            obtain ⟨k, rfl, hk, HO, HB⟩ := hrel
            have HBW := Lib.hid (HB5w.out.trans (HB.out.mono (by omega)))
            obtain ⟨c0, c1, c2, c3, c4, c5⟩ := elf_box (heap_base HB.out HX5.out hG5)
            by_cases hlt : k < gn
            · exact absurd hlt (by omega)
            · have hkn : e.segs.take k = e.segs := List.take_of_length_le (by have := HGN.out; omega)
              have HFR := Lib.hid (show OB wr w5.heap.size u11 (frontB e) by
                have := HO.out
                rw [hkn] at this
                unfold frontB
                rw [← HHD.out]
                exact this)
              have HBR := Lib.hid HB.out
              clear HO HB hkn
              obtain ⟨c0, c1, c2, c3, c4, c5⟩ := elf_box (heap_base HBR.out HX5.out hG5)
              go_wp2
              go_loopw [11, 18] (fun x i wr => ∃ k : Nat, i = .int .i64 k ∧ k ≤ nl ∧ Hid (OB wr w5.heap.size x (bodyF (frontB e) ((e.secs.zip (placesOf e).1).take k))) ∧ Hid (Below w5.heap.size w5 wr)) (fun _ i _ => nl - (intOf i).toNat)
              case atStart => exact ⟨0, rfl, Nat.zero_le _, HFR.out, HBR.out⟩
              case round =>
                clear c0 c1 c2 c3 c4 c5
                obtain ⟨k, rfl, hk, HO, HB⟩ := hrel
                have HBW := Lib.hid (HB5w.out.trans (HB.out.mono (by omega)))
                by_cases hlt : k < nl
                · obtain ⟨c0, c1, c2, c3, c4, c5⟩ := elf_box (heap_base HB.out HX5.out hG5)
                  clear c0 c1 c2 c3 c5
                  have X1 := Lib.hid (show L[k]? = some (L[k]'(by have := HL.out; omega)) from List.getElem?_eq_getElem _)
                  generalize L[k]'(by have := HL.out; omega) = x at *
                  obtain ⟨s, dv⟩ := x
                  have HDB := Lib.hid (HD.out _ (List.mem_of_getElem? X1.out))
                  obtain ⟨dm, da, dc, hdm, rfl, _, _⟩ := HDB.out.shape
                  have X2 := Lib.hid (HSE.out _ _ X1.out)
                  have HZP := Lib.hid (zipP (g := segsB e) (n := front e) X2.out)
                  have HFN := Lib.hid (HK.out.fine _ (List.mem_of_getElem? X2.out))
                  have HST := Lib.hid (show bodyF (frontB e) ((e.secs.zip (placesOf e).1).take (k + 1)) = bodyF (frontB e) ((e.secs.zip (placesOf e).1).take k) ++ List.replicate (placeS (segsB e) (plF (segsB e) (front e) (e.secs.take k)).2 s - (bodyF (frontB e) ((e.secs.zip (placesOf e).1).take k)).length) 0 ++ s.data from bodyF_step (acc := frontB e) HZP.out)
                  have HLN := Lib.hid (body_len (g := segsB e) (frontB_len e) HK.out.pow k (by have h1 := HEL.out; have h2 := HL.out; omega))
                  have HLE := Lib.hid (placeS_le (g := segsB e) (p := (plF (segsB e) (front e) (e.secs.take k)).2) (HK.out.pow _ (List.mem_of_getElem? X2.out)))
                  have HPB := Lib.hid (place_bd HK.out (k + 1))
                  rw [plF_step X2.out] at HPB
                  have hp9 : placeS (segsB e) (plF (segsB e) (front e) (e.secs.take k)).2 s + dm ≤ 4194304 := by
                    have h1 : placeS (segsB e) (plF (segsB e) (front e) (e.secs.take k)).2 s + s.data.length ≤ (placesOf e).2 := HPB.out
                    have h3 := HPE.out
                    have h4 := hdm.out
                    dsimp only at h4
                    omega
                  obtain ⟨b1, o1, ha, c10, c11, c12, c13, c14, c15, c16, c17, c18, c19, hb1lt⟩ := sec_cells HC.out HBW.out X1.out
                  subst ha
                  clear c10 c12 c13 c14 c15 c16 c17 c18
                  obtain ⟨bP, oP, hP1, cP⟩ := HPC.out k (by have := HPLN.out; omega)
                  have HPGx : (placesOf e).1[k]? = some (placeS (segsB e) (plF (segsB e) (front e) (e.secs.take k)).2 s) := plF_get (g := segsB e) (n := front e) X2.out
                  rw [HPGx] at cP
                  simp only [Option.getD_some] at cP
                  replace cP := (HB.out.cell (block_lt cP)).trans cP
                  subst hP1
                  have HPGY := Lib.hid HPGx
                  generalize hT : bodyF (frontB e) ((e.secs.zip (placesOf e).1).take k) = T at *
                  have HT := Lib.hid hT
                  have HTL := Lib.hid (show T.length = (plF (segsB e) (front e) (e.secs.take k)).2 by rw [← hT]; exact HLN.out)
                  have HP8 : Hid (s.typ = 8 → placeS (segsB e) (plF (segsB e) (front e) (e.secs.take k)).2 s = T.length ∧ s.data = []) := fun h8 => by
                    refine ⟨?_, ?_⟩
                    · rw [HTL.out]; unfold placeS; rw [if_pos h8]
                    · have h1 := HFN.out
                      unfold fineB at h1
                      rw [if_pos h8] at h1
                      simp only [Bool.and_eq_true, decide_eq_true_eq] at h1
                      exact List.eq_nil_of_length_eq_zero h1.2.1
                  generalize placeS (segsB e) (plF (segsB e) (front e) (e.secs.take k)).2 s = p at *
                  obtain ⟨d, hd1⟩ : ∃ d, p = T.length + d := ⟨p - T.length, by have h1 := HLE.out.1; have h2 := HTL.out; omega⟩
                  have HD1 := Lib.hid hd1
                  clear hT HPGx hd1
                  obtain ⟨name, typ, flags, addr, align, size, link, info, ent, data⟩ := s
                  dsimp only at *
                  by_cases h8 : typ = 8
                  · have h8' : ((typ : Int) != 8) = false := by rw [bne_eq_false_iff_eq]; omega
                    obtain ⟨hpT, hdn⟩ := HP8.out h8
                    have hdm0 : dm = 0 := by have := hdm.out; rw [hdn] at this; simpa using this
                    have hdz : ¬ (0 < dm) := by omega
                    have HF40 := Lib.hid (show OB wr w5.heap.size u11 (bodyF (frontB e) ((e.secs.zip (placesOf e).1).take (k + 1))) by
                      rw [HST.out, hdn, hpT, Nat.sub_self, List.replicate_zero, List.append_nil, List.append_nil]
                      exact HO.out)
                    have HX8 := Lib.hid h8
                    have HX9 := Lib.hid hdm0
                    clear h8 hdm0 hpT hdn
                    go_wp2
                    go_roundw
                    case rel =>
                      first
                        | exact ⟨k + 1, by go_num, by omega, HF40.out, HB.out⟩
                        | ((repeat apply Exists.intro); exact ⟨⟨k + 1, by go_num, by omega, HF40.out, HB.out⟩, rfl⟩)
                    case measure => simp [intOf] <;> omega
                  · have h8' : ((typ : Int) != 8) = true := by rw [bne_iff_ne]; omega
                    have HX8 := Lib.hid h8
                    clear h8
                    have hdd : 0 < dm ∨ ¬ (0 < dm) := Classical.em _
                    rcases hdd with hdd | hdd
                    all_goals
                      have HVD := Lib.hid (show OB wr.drew w5.heap.size u11 T from HO.out.mono ((Below.refl _ _).drew))
                      have HBD := Lib.hid (HB.out.trans (show Below w5.heap.size wr wr.drew from (Below.refl _ _).drew))
                      have HL1 := Lib.hid (show T.length + d ≤ 1000000000 by have := HD1.out; omega)
                      have HZ1 := Lib.hid (show (p : Int) = ((T.length + d : Nat) : Int) by rw [HD1.out])
                      have HLEN := Lib.hid (show (T ++ List.replicate d 0).length + data.length ≤ 140737488355328 by rw [List.length_append, List.length_replicate]; have h1 := HD1.out; have h2 := hdm.out; omega)
                      have HPD := Lib.hid (show p - T.length = d by have := HD1.out; omega)
                      go_wp2
                      go_region_law (first
                        | (refine step_catB rfl (.tmp 174) (.tmp 180) rfl HV40.out HD40.out rfl rfl HLEN.out HB40.out.size ?_; intro v41 w41 hv41 hg41; have HV41 := Lib.hid hv41; have HB41 := Lib.hid (HB40.out.trans (below_of_grown hg41 HB40.out.size fun k hk => (World.ownsRow.lt HV40.out k hk).1)); clear hv41 hg41)
                        | (go_simp; go_at_call 74; refine (till_any T d _ _ _ w5.heap.size HL1.out HZ1.out HVD.out HBD.out.size).mono ?_; rintro r w40 ⟨v40, rfl, ho, hb, -⟩; have HV40 := Lib.hid ho; have HB40 := Lib.hid (HBD.out.trans hb); have HD40 := Lib.hid (HDB.out.mono (HB5w.out.trans (HB40.out.mono (by omega)))); have k4 := (hb.cell (p := ⟨w.heap.size, 4, none⟩) hG5).trans c4; have k19 := (hb.cell (p := ⟨b1, o1 + k * 10 + 9, none⟩) (by show b1 < _; omega)).trans c19; clear ho hb))
                      all_goals
                        have HF41 := Lib.hid (show OB w41 w5.heap.size v41 (bodyF (frontB e) ((e.secs.zip (placesOf e).1).take (k + 1))) by rw [HST.out, HPD.out]; exact HV41.out)
                        clear c4 k4 k19 c19 c11
                        go_wp2
                        go_roundw
                        case rel =>
                          first
                            | exact ⟨k + 1, by go_num, by omega, HF41.out, HB41.out⟩
                            | ((repeat apply Exists.intro); exact ⟨⟨k + 1, by go_num, by omega, HF41.out, HB41.out⟩, rfl⟩)
                        case measure => simp [intOf] <;> omega
                · have hkn : (e.secs.zip (placesOf e).1).take k = e.secs.zip (placesOf e).1 := List.take_of_length_le (by rw [List.length_zip]; have h1 := HEL.out; have h2 := HL.out; omega)
                  have HV42 := Lib.hid (show OB wr w5.heap.size u11 (bodyB e) by
                    have := HO.out
                    rw [hkn] at this
                    exact this)
                  have HBL := Lib.hid (show (bodyB e).length = pe by rw [bodyB_len HK.out.pow, ← HPE.out])
                  have HB42 := Lib.hid HB.out
                  obtain ⟨c0, c1, c2, c3, c4, c5⟩ := elf_box (heap_base HB.out HX5.out hG5)
                  clear HO HB hkn c0 c1 c2 c3 c5
                  go_wp2_with fail
                  clear c4
                  refine (till_any (bodyB e) 0 (pe : Int) _ wr w5.heap.size (by have h1 := HBL.out; omega) (by rw [HBL.out]; rfl) HV42.out HB42.out.size).mono ?_
                  rintro r w43 ⟨v43, rfl, ho, hb, -⟩
                  rw [List.replicate_zero, List.append_nil] at ho
                  have HV43 := Lib.hid ho
                  have HB43 := Lib.hid (HB42.out.trans hb)
                  have HTB := Lib.hid (OB1.out.bs.mono HB43.out)
                  clear ho hb
                  go_wp2_with ((with_reducible show wpList _ _ _ (⟨some 186, _, _, _, _, _⟩ :: _) _ _); go_must (refine wpList_catB HV43.out HTB.out rfl rfl (by have h1 := HBL.out; have h2 := htn.out; omega) HB43.out.size ?_; intro v44 w44 hv44 hg44 hb44; have HV44 := Lib.hid hv44; have HB44 := Lib.hid (HB43.out.trans hb44); clear hv44 hg44 hb44))
                  have HTN : Hid ((bodyB e ++ tabOf e).length = pe + tn) := by
                    show _ = _
                    rw [List.length_append, HBL.out, ← htn.out]
                  obtain ⟨dd, hdd⟩ : ∃ dd, hd + 64 = pe + tn + dd := ⟨hd + 64 - (pe + tn), by have := HGE.out.1; omega⟩
                  have HDD := Lib.hid hdd
                  clear hdd
                  refine (till_any (bodyB e ++ tabOf e) dd ((hd : Int) + 64) _ w44 w5.heap.size (by rw [HTN.out]; have := HDD.out; omega) (by rw [HTN.out]; have := HDD.out; omega) HV44.out HB44.out.size).mono ?_
                  rintro r w45 ⟨v45, rfl, ho, hb, -⟩
                  have HV45 := Lib.hid (show OB w45 w5.heap.size v45 (midB e) by
                    unfold midB
                    rw [← HHD.out, ← HPE.out, ← htn.out, show hd + 64 - (pe + tn) = dd by have := HDD.out; omega]
                    exact ho)
                  have HB45 := Lib.hid (HB44.out.trans hb)
                  have HML := Lib.hid (show (midB e).length = hd + 64 by rw [midB_len HK.out, ← HHD.out])
                  clear ho hb
                  go_wp2
                  go_loopw [11, 19] (fun x i wr => ∃ k : Nat, i = .int .i64 k ∧ k ≤ nl ∧ Hid (OB wr w5.heap.size x (midB e ++ ((e.secs.zip ((atsOf e).zip (placesOf e).1)).take k).flatMap fun p => hdrBy p.2.1 p.1 p.2.2)) ∧ Hid (Below w5.heap.size w5 wr)) (fun _ i _ => nl - (intOf i).toNat)
                  case atStart => exact ⟨0, rfl, Nat.zero_le _, by simpa [Hid] using HV45.out, HB45.out⟩
                  case round =>
                    obtain ⟨k, rfl, hk, HO, HB⟩ := hrel
                    have HBW := Lib.hid (HB5w.out.trans (HB.out.mono (by omega)))
                    obtain ⟨c0, c1, c2, c3, c4, c5⟩ := elf_box (heap_base HB.out HX5.out hG5)
                    clear c0 c1 c2 c3 c5
                    by_cases hlt : k < nl
                    · have X1 := Lib.hid (show L[k]? = some (L[k]'(by have := HL.out; omega)) from List.getElem?_eq_getElem _)
                      generalize L[k]'(by have := HL.out; omega) = x at *
                      obtain ⟨s, dv⟩ := x
                      obtain ⟨dm, da, dc, hdm, rfl, _, _⟩ := (HD.out _ (List.mem_of_getElem? X1.out)).shape
                      have X2 := Lib.hid (HSE.out _ _ X1.out)
                      have HFS := Lib.hid (HOK.out.fits.secs _ (List.mem_of_getElem? X2.out))
                      obtain ⟨b1, o1, ha, c10, c11, c12, c13, c14, c15, c16, c17, c18, c19, -⟩ := sec_cells HC.out HBW.out X1.out
                      subst ha
                      have XA := Lib.hid (show (atsOf e)[k]? = some ((atsOf e)[k]'(by have := HALN.out; omega)) from List.getElem?_eq_getElem _)
                      have XP := Lib.hid (show (placesOf e).1[k]? = some ((placesOf e).1[k]'(by have := HPLN.out; omega)) from List.getElem?_eq_getElem _)
                      have hpbx : ∀ x, (placesOf e).1[k]? = some x → x ≤ 4194304 := fun x hx => by
                        have h2 := plF_get (g := segsB e) (n := front e) X2.out
                        have h3 : (placesOf e).1[k]? = some (placeS (segsB e) (plF (segsB e) (front e) (e.secs.take k)).2 s) := h2
                        rw [h3] at hx
                        injection hx with hx
                        have h4 := place_bd HK.out (k + 1)
                        rw [plF_step X2.out] at h4
                        have h5 : placeS (segsB e) (plF (segsB e) (front e) (e.secs.take k)).2 s + s.data.length ≤ (placesOf e).2 := h4
                        have h6 := HPE.out
                        omega
                      have hab : (atsOf e)[k]'(by have := HALN.out; omega) ≤ 130000 := HAK.out.2 _ (List.getElem_mem _)
                      obtain ⟨bA, oA, hA1, cA⟩ := HAC.out k (by have := HALN.out; omega)
                      obtain ⟨bP, oP, hP1, cP⟩ := HPC.out k (by have := HPLN.out; omega)
                      rw [XA.out] at cA
                      rw [XP.out] at cP
                      have HST : Hid (((e.secs.zip ((atsOf e).zip (placesOf e).1)).take (k + 1)).flatMap (fun p => hdrBy p.2.1 p.1 p.2.2) = ((e.secs.zip ((atsOf e).zip (placesOf e).1)).take k).flatMap (fun p => hdrBy p.2.1 p.1 p.2.2) ++ hdrBy ((atsOf e)[k]'(by have := HALN.out; omega)) s ((placesOf e).1[k]'(by have := HPLN.out; omega))) := by
                        rw [List.take_add_one, show (e.secs.zip ((atsOf e).zip (placesOf e).1))[k]? = some (s, _, _) by rw [List.getElem?_zip_eq_some]; exact ⟨X2.out, by rw [List.getElem?_zip_eq_some]; exact ⟨XA.out, XP.out⟩⟩, List.flatMap_append]
                        simp [Hid]
                      have hpb := hpbx _ XP.out
                      clear hpbx
                      generalize (atsOf e)[k]'(by have := HALN.out; omega) = na at *
                      generalize (placesOf e).1[k]'(by have := HPLN.out; omega) = pl at *
                      simp only [Option.getD_some] at cA cP
                      replace cA := (HB.out.cell (block_lt cA)).trans cA
                      replace cP := (HB.out.cell (block_lt cP)).trans cP
                      subst hA1
                      subst hP1
                      have HTL := Lib.hid (show (midB e ++ ((e.secs.zip ((atsOf e).zip (placesOf e).1)).take k).flatMap fun p => hdrBy p.2.1 p.1 p.2.2).length ≤ 8000000 by
                        rw [List.length_append, HML.out, flat_len' (f := fun p : SecM × Nat × Nat => hdrBy p.2.1 p.1 p.2.2) (fun p => hdrBy_len p.2.1 p.1 p.2.2), List.length_take]
                        omega)
                      generalize hT : (midB e ++ ((e.secs.zip ((atsOf e).zip (placesOf e).1)).take k).flatMap fun p => hdrBy p.2.1 p.1 p.2.2) = T at *
                      have HT := Lib.hid hT
                      have hAB := fun (x : Above wr) (b k : Nat) (h : b < wr.heap.size) => Above.cell x b k h
                      have hbltA : bA < wr.heap.size := block_lt cA
                      have hbltP : bP < wr.heap.size := block_lt cP
                      have hbltE : w.heap.size < wr.heap.size := block_lt c4
                      have hblt1 : b1 < wr.heap.size := block_lt c10
                      clear hT
                      go_wp2
                      refine wp_region_walk 14 [] (by kernel_rfl) (by kernel_rfl) ?_
                      simp only [List.take_succ_cons, List.take_zero, List.drop_succ_cons, List.drop_zero]
                      repeat (refine walk_quiet rfl rfl rfl ?_; intro K hK; go_big_quiet_op; go_big_quiet_on)
                      refine walk_nil ?_
                      intro wz hbz hF
                      have HVz := Lib.hid (HO.out.mono hbz)
                      have HBz := Lib.hid (HB.out.trans (hbz.mono HB.out.size))
                      clear hF hbz hAB hbltA hbltP hbltE hblt1 cA cP c4 c10 c11 c12 c13 c14 c15 c16 c17 c18 c19
                      go_wp2_with fail
                      refine (header_any T na pl s (.slice da dm dc) _ wz w5.heap.size (by have := HTL.out; omega) (by omega) (by omega) HFS.out rfl HVz.out HBz.out.size).mono ?_
                      rintro r w46 ⟨v46, rfl, ho, hb, -⟩
                      have HF46 := Lib.hid (show OB w46 w5.heap.size v46 (midB e ++ ((e.secs.zip ((atsOf e).zip (placesOf e).1)).take (k + 1)).flatMap fun p => hdrBy p.2.1 p.1 p.2.2) by
                        rw [HST.out, ← List.append_assoc, HT.out]
                        exact ho)
                      have HB46 := Lib.hid (HBz.out.trans hb)
                      clear ho hb
                      go_wp2
                      go_roundw
                      case rel =>
                        first
                          | exact ⟨k + 1, by go_num, by omega, HF46.out, HB46.out⟩
                          | ((repeat apply Exists.intro); exact ⟨⟨k + 1, by go_num, by omega, HF46.out, HB46.out⟩, rfl⟩)
                      case measure => simp [intOf] <;> omega
                    · have hkn : (e.secs.zip ((atsOf e).zip (placesOf e).1)).take k = e.secs.zip ((atsOf e).zip (placesOf e).1) := List.take_of_length_le (by rw [List.length_zip]; have h1 := HEL.out; have h2 := HL.out; omega)
                      have HV50 := Lib.hid (show OB wr w5.heap.size u11 (midB e ++ hdrsB e) by
                        have := HO.out
                        rw [hkn] at this
                        exact this)
                      have HB50 := Lib.hid HB.out
                      have HTL := Lib.hid (show (midB e ++ hdrsB e).length ≤ 8000000 by
                        unfold hdrsB
                        rw [List.length_append, HML.out, flat_len' (f := fun p : SecM × Nat × Nat => hdrBy p.2.1 p.1 p.2.2) (fun p => hdrBy_len p.2.1 p.1 p.2.2), List.length_zip]
                        have h1 := HEL.out
                        have h2 := HL.out
                        have h3 : min e.secs.length ((atsOf e).zip (placesOf e).1).length ≤ e.secs.length := Nat.min_le_left _ _
                        omega)
                      have XA := Lib.hid (show (atsOf e)[nl]? = some ((atsOf e)[nl]'(by have := HALN.out; omega)) from List.getElem?_eq_getElem _)
                      have hab : (atsOf e)[nl]'(by have := HALN.out; omega) ≤ 130000 := HAK.out.2 _ (List.getElem_mem _)
                      obtain ⟨bA, oA, hA1, cA⟩ := HAC.out nl (by have := HALN.out; omega)
                      rw [XA.out] at cA
                      generalize (atsOf e)[nl]'(by have := HALN.out; omega) = na at *
                      simp only [Option.getD_some] at cA
                      replace cA := (HB.out.cell (block_lt cA)).trans cA
                      subst hA1
                      have HFB : Hid (fileB e = midB e ++ hdrsB e ++ hdrBy na (tabSec tn) pe) := by
                        unfold fileB
                        rw [← htn.out, ← HPE.out, show e.secs.length = nl by have h1 := HEL.out; have h2 := HL.out; omega, XA.out]
                        exact rfl
                      generalize hT : midB e ++ hdrsB e = T at *
                      clear HO HB hkn hT c4
                      go_wp2_with fail
                      clear cA
                      refine (header_any T na pe (tabSec tn) (.slice none 0 0) _ wr w5.heap.size (by have := HTL.out; omega) (by omega) (by omega) (tabSec_fits (by omega)) rfl HV50.out HB50.out.size).mono ?_
                      rintro r w51 ⟨v51, rfl, ho, hb, -⟩
                      have HF51 := Lib.hid (show OB w51 w.heap.size v51 (fileB e) by rw [HFB.out]; exact ho.base (by omega))
                      have HB51 := Lib.hid (HB50.out.trans hb)
                      clear ho hb
                      go_wp2
                      go_ret2
                      exact ⟨_, by rw [HR.out]; rfl, by rw [HR.out]; exact HF51.out, HB5w.out.trans (HB51.out.mono (by omega))⟩
end Go.Proofs.YtimnbnomaajmmaaGreat
namespace Go.Fd
open Go.RowKit
structure FlM where
  code : Int
  a : Int
  b : Int
deriving DecidableEq
end Go.Fd
namespace Go.Proofs.YtimnbnomaajmmaaGreat
open Go.RowKit Go.Fd
def fl (b : Bool) (c a d : Int) : List FlM := if b = true then [⟨c, a, d⟩] else []
end Go.Proofs.YtimnbnomaajmmaaGreat
namespace Go.Proofs.YtimnbnomaajmmaaGreat
open Go.RowKit Go.Fd
/-- A file's header, as it is looked at. -/
structure HeadK (e : ElfM) (l : List UInt8) : Prop where
  magic : Has l 0 [127, 69, 76, 70, 2, 1, 1]
  typ : Has l 16 (fixed (u64of e.typ) 2)
  one : Has l 20 (fixed 1 4)
  front : Has l 32 (fixed (if segsB e = true then 64 else 0) 8)
  heads : Has l 40 (fixed (headsOf e (tabOf e).length) 8)
  hsize : Has l 52 (fixed 64 2)
  gsize : Has l 54 (fixed 56 2)
  ng : Has l 56 (fixed e.segs.length 2)
  ssize : Has l 58 (fixed 64 2)
  ns : Has l 60 (fixed (e.secs.length + 2) 2)
  own : Has l 62 (fixed (e.secs.length + 1) 2)
theorem head_has (e : ElfM) : HeadK e (fileB e) := by
  have t0 := has_head (headB_has e (headsOf e (tabOf e).length) (i := 0) rfl rfl)
  exact ⟨t0, has_head (headB_has e (headsOf e (tabOf e).length) (i := 2) (q := 16) rfl (by simp; rfl)),
    has_head (headB_has e (headsOf e (tabOf e).length) (i := 4) (q := 20) rfl (by simp [length_fixed]; rfl)),
    has_head (headB_has e (headsOf e (tabOf e).length) (i := 6) (q := 32) rfl (by simp [length_fixed]; rfl)),
    has_head (headB_has e (headsOf e (tabOf e).length) (i := 7) (q := 40) rfl (by simp [length_fixed]; rfl)),
    has_head (headB_has e (headsOf e (tabOf e).length) (i := 9) (q := 52) rfl (by simp [length_fixed]; rfl)),
    has_head (headB_has e (headsOf e (tabOf e).length) (i := 10) (q := 54) rfl (by simp [length_fixed]; rfl)),
    has_head (headB_has e (headsOf e (tabOf e).length) (i := 11) (q := 56) rfl (by simp [length_fixed]; rfl)),
    has_head (headB_has e (headsOf e (tabOf e).length) (i := 12) (q := 58) rfl (by simp [length_fixed]; rfl)),
    has_head (headB_has e (headsOf e (tabOf e).length) (i := 13) (q := 60) rfl (by simp [length_fixed]; rfl)),
    has_head (headB_has e (headsOf e (tabOf e).length) (i := 14) (q := 62) rfl (by simp [length_fixed]; rfl))⟩
/-- What the header's numbers are. -/
structure HeadN (e : ElfM) (l : List UInt8) : Prop where
  len : l.length = headsOf e (tabOf e).length + 64 * (e.secs.length + 2)
  magic : l.take 7 = [127, 69, 76, 70, 2, 1, 1]
  typ : gN l 16 2 = e.typ.toNat
  one : gN l 20 4 = 1
  front : gN l 32 8 = if segsB e = true then 64 else 0
  heads : gN l 40 8 = headsOf e (tabOf e).length
  hsize : gN l 52 2 = 64
  gsize : gN l 54 2 = 56
  ng : gN l 56 2 = e.segs.length
  ssize : gN l 58 2 = 64
  ns : gN l 60 2 = e.secs.length + 2
  own : gN l 62 2 = e.secs.length + 1
theorem head_num {e : ElfM} (h : MayK e) : HeadN e (fileB e) := by
  have k := head_has e
  have hlen := fileB_len h
  have hge := heads_ge (e := e)
  have hle := h.len
  have hsl := h.secs
  have hgl := h.segs
  have hfr : front e ≤ (placesOf e).2 := (plF_le (g := segsB e) (n := front e) h.pow).1
  refine ⟨hlen, by have := k.magic.cut; simpa using this, ?_, k.one.num sz4 (by omega), k.front.num sz8 (by split <;> omega), k.heads.num sz8 (by omega), k.hsize.num sz2 (by omega), k.gsize.num sz2 (by omega), k.ng.num sz2 (by omega), k.ssize.num sz2 (by omega), k.ns.num sz2 (by omega), k.own.num sz2 (by omega)⟩
  rw [k.typ.num sz2 (by rcases h.typ with h1 | h1 <;> rw [h1] <;> decide)]
  rcases h.typ with h1 | h1 <;> rw [h1] <;> decide
end Go.Proofs.YtimnbnomaajmmaaGreat
namespace Go.Proofs.YtimnbnomaajmmaaGreat
open Go.RowKit Go.Fd
theorem okG_file {e : ElfM} (hm : mayE e = true) (hf : e.fits) : OkG (fileB e) := by
  have h1 := file_back hm hf
  refine ⟨h1.2.2.1, ?_⟩
  have hn := head_num (mayK hm)
  rw [hn.heads, hn.ns, hn.len]
  exact Nat.le_refl _
theorem parse_fits (l : List UInt8) : (parseE l (targetR l)).fits := by
  have hs : ∀ s ∈ secsP l (nsecsP l), ∃ a, s = secP l (tabP l) a := fun s hs => by
    obtain ⟨i, hi⟩ := List.mem_iff_getElem?.1 hs
    exact ⟨_, secsP_get hi⟩
  have hg : ∀ s ∈ segsP l (nsegsP l), s.fits := fun s hs => by
    unfold segsP at hs
    obtain ⟨i, -, rfl⟩ := List.mem_map.1 hs
    exact segP_fits _ _
  have h1 := gN2 l 16
  have h2 := tgt_le (gN l 18 2) 3
  refine ⟨?_, ?_, gN4 _ _, gN8 _ _, fun s h => ?_, hg⟩
  · show -9223372036854775808 ≤ ((gN l 16 2 : Nat) : Int) ∧ ((gN l 16 2 : Nat) : Int) < 9223372036854775808
    omega
  · show -9223372036854775808 ≤ targetR l ∧ targetR l < 9223372036854775808
    unfold targetR; omega
  · obtain ⟨a, rfl⟩ := hs s h
    exact secP_fits _ _ _
theorem parse_okG {l : List UInt8} (hl : l.length ≤ 4194304) (h : FewP l) : ElfOk (parseE l (targetR l)) := by
  have hs : ∀ s ∈ secsP l (nsecsP l), ∃ a, s = secP l (tabP l) a := fun s hs => by
    obtain ⟨i, hi⟩ := List.mem_iff_getElem?.1 hs
    exact ⟨_, secsP_get hi⟩
  have hn : nsecsP l ≤ 250 := by have := h.2; unfold nsecsP; omega
  have hm : nsegsP l ≤ 16 := h.1
  refine ⟨parse_fits l, ?_, fun s h => ?_, ?_, ?_⟩
  · show dsum (secsP l (nsecsP l)) ≤ _
    have := dsum_le (l := secsP l (nsecsP l)) (m := 4194304) fun s h => by
      obtain ⟨a, rfl⟩ := hs s h
      exact Nat.le_trans (secP_data _ _ _) hl
    rw [secsP_len] at this
    have := Nat.mul_le_mul_right 4194304 hn
    omega
  · obtain ⟨a, rfl⟩ := hs s h
    exact secP_name _ _ _
  · show (secsP l (nsecsP l)).length ≤ _
    rw [secsP_len]; omega
  · show (segsP l (nsegsP l)).length ≤ _
    rw [segsP_len]; omega
attribute [local irreducible] gN okB inB atR segOk secOk segP secP tabP readE
set_option maxHeartbeats 8000000 in
set_option maxRecDepth 100000 in
theorem ref4Read_any (l : List UInt8) (v : Value) (w : World) (hl : l.length ≤ 1000000000) (hv : Bs w v l) :
    Calls Tryz.prog 17 #[v] w fun r w' => RdRes l w.heap.size r w' ∧ Below w.heap.size w w' := by
  have HV := Lib.hid hv
  obtain ⟨m, ad, cap, hm, rfl, hmc, _⟩ := hv.shape
  have HL9 := Lib.hid hl
  have hm9 : m ≤ 1000000000 := by have := hm.out; omega
  have HC6 := Lib.hid (show 4194304 < m → readE l = (elf0, 6) from fun h => by
    have h1 := hm.out
    unfold readE codeR
    simp only [if_pos (show 4194304 < l.length by omega)]
    rw [if_pos (by decide)])
  have HC2 := Lib.hid (show ¬ 4194304 < m → m < 64 → readE l = (elf0, 2) from fun h h' => by
    have h1 := hm.out
    unfold readE codeR
    simp only [if_neg (show ¬ 4194304 < l.length by omega), if_pos (show l.length < 64 by omega)]
    rw [if_pos (by decide)])
  have HC4 := Lib.hid (show ¬ 4194304 < m → ¬ m < 64 → ¬ l.take 7 = magicE → readE l = (elf0, 4) from fun h h' h'' => by
    have h1 := hm.out
    unfold readE codeR
    simp only [if_neg (show ¬ 4194304 < l.length by omega), if_neg (show ¬ l.length < 64 by omega)]
    rw [if_pos h'']
    rw [if_pos (by decide)])
  clear hv
  by_cases h6 : 4194304 < m
  · have HR := Lib.hid (HC6.out h6)
    have d1 : decide ((4194304 : Int) < (m : Int)) = true := by simp; omega
    clear HC6
    go_enter Tryz.func17, Tryz.ntmps17
    go_wp2_with (first
      | ((with_reducible show wpList _ _ _ (⟨some 2, .alloc _, _, _, _, _⟩ :: _) _ _); go_must (refine wpList_allocElf ?_; intro w1 hx1 hb1 hs1; have HX1 := Lib.hid hx1; have HB1 := Lib.hid hb1; clear hx1 hb1))
      | ((with_reducible show wpList _ _ _ (⟨none, .store _ (.tmp 2) _, _, _, _, _⟩ :: _) _ _); go_must (refine wpList_storeElfS HX1.out rfl rfl rfl rfl (by simp [Value.oneCell']) ?_; intro w3 hh3 hs3; have HH3 := Lib.hid hh3; have HB3 := Lib.hid (HB1.out.trans (hs3.below HB1.out.size (fun j hj => by rw [hj]; exact Nat.le_refl _))); clear hh3 hs3)))
    have c0 : w3.cell? ⟨w.heap.size, 0, none⟩ = some (.int .i64 0) := cell_rec HH3.out 0
    have c1 : w3.cell? ⟨w.heap.size, 1, none⟩ = some (.int .i64 0) := cell_rec HH3.out 1
    have c2 : w3.cell? ⟨w.heap.size, 2, none⟩ = some (.int .u32 0) := cell_rec HH3.out 2
    have c3 : w3.cell? ⟨w.heap.size, 3, none⟩ = some (.int .u64 0) := cell_rec HH3.out 3
    have c4 : w3.cell? ⟨w.heap.size, 4, none⟩ = some (.slice none 0 0) := cell_rec HH3.out 4
    have c5 : w3.cell? ⟨w.heap.size, 5, none⟩ = some (.slice none 0 0) := cell_rec HH3.out 5
    exact bodyPost_ret (v := .tuple #[.agg elfZ, .int .i64 6]) (by simp [results, Tryz.results17, go_sem, c0, c1, c2, c3, c4, c5]) rfl ⟨RdRes.code HR.out, HB3.out⟩
  · have d1 : decide ((4194304 : Int) < (m : Int)) = false := by simp; omega
    have hm4 : m ≤ 4194304 := Nat.not_lt.1 h6
    by_cases h2 : m < 64
    · have HR := Lib.hid (HC2.out h6 h2)
      have d2 : decide ((m : Int) < 64) = true := by simp; omega
      clear HC6 HC2 HC4 h6
      go_enter Tryz.func17, Tryz.ntmps17
      go_wp2_with (first
        | ((with_reducible show wpList _ _ _ (⟨some 2, .alloc _, _, _, _, _⟩ :: _) _ _); go_must (refine wpList_allocElf ?_; intro w1 hx1 hb1 hs1; have HX1 := Lib.hid hx1; have HB1 := Lib.hid hb1; clear hx1 hb1))
        | ((with_reducible show wpList _ _ _ (⟨none, .store _ (.tmp 2) _, _, _, _, _⟩ :: _) _ _); go_must (refine wpList_storeElfS HX1.out rfl rfl rfl rfl (by simp [Value.oneCell']) ?_; intro w3 hh3 hs3; have HH3 := Lib.hid hh3; have HB3 := Lib.hid (HB1.out.trans (hs3.below HB1.out.size (fun j hj => by rw [hj]; exact Nat.le_refl _))); clear hh3 hs3)))
      have c0 : w3.cell? ⟨w.heap.size, 0, none⟩ = some (.int .i64 0) := cell_rec HH3.out 0
      have c1 : w3.cell? ⟨w.heap.size, 1, none⟩ = some (.int .i64 0) := cell_rec HH3.out 1
      have c2 : w3.cell? ⟨w.heap.size, 2, none⟩ = some (.int .u32 0) := cell_rec HH3.out 2
      have c3 : w3.cell? ⟨w.heap.size, 3, none⟩ = some (.int .u64 0) := cell_rec HH3.out 3
      have c4 : w3.cell? ⟨w.heap.size, 4, none⟩ = some (.slice none 0 0) := cell_rec HH3.out 4
      have c5 : w3.cell? ⟨w.heap.size, 5, none⟩ = some (.slice none 0 0) := cell_rec HH3.out 5
      exact bodyPost_ret (v := .tuple #[.agg elfZ, .int .i64 2]) (by simp [results, Tryz.results17, go_sem, c0, c1, c2, c3, c4, c5]) rfl ⟨RdRes.code HR.out, HB3.out⟩
    · have d2 : decide ((m : Int) < 64) = false := by simp; omega
      have hm64 : 64 ≤ m := Nat.not_lt.1 h2
      have HS7 : Hid (∀ wx, Below w.heap.size w wx → (convert 22 9 (.slice ad 7 cap)).run Tryz.prog wx = .ok (.string ⟨(l.take 7).toArray⟩) wx) := Lib.hid (fun wx hwx => run_str ((HV.out.mono hwx).take (by omega)))
      by_cases h4 : l.take 7 = magicE
      · have d4 : (l.take 7 == [127, 69, 76, 70, 2, 1, 1]) = true := by rw [beq_iff_eq]; exact h4
        have d4' : (l.take 7 != [127, 69, 76, 70, 2, 1, 1]) = false := by rw [h4]; rfl
        have HCD : Hid (codeR l = if targetR l = 0 then 11 else 0) := Lib.hid (by
          have h1 := hm.out
          unfold codeR
          rw [if_neg (show ¬ 4194304 < l.length by omega), if_neg (show ¬ l.length < 64 by omega), if_neg (fun h => h h4)])
        have HU18 : Hid (∀ wx, Below w.heap.size w wx → Calls Tryz.prog 37 #[.slice ad m cap, .int .i64 18, .int .i64 2] wx fun r w' => r = .returned (.int .u64 (gN l 18 2 : Nat)) ∧ wx = w') := Lib.hid (fun wx hwx => ref4Num_any l 18 2 _ wx HL9.out (HV.out.mono hwx) (by omega))
        have HTG : Hid (targetR l = tgt (gN l 18 2) 3) := rfl
        have b18 := gN2 l 18
        generalize l.take 7 = t7 at *
        clear HC6 HC2 HC4 h6 h2 h4
        go_enter Tryz.func17, Tryz.ntmps17
        go_wp2_with ((with_reducible show wpList _ _ _ (⟨some 2, .alloc _, _, _, _, _⟩ :: _) _ _); go_must (refine wpList_allocElf ?_; intro w1 hx1 hb1 hs1; have HX1 := Lib.hid hx1; have HB1 := Lib.hid hb1; have hs7 := HS7.out _ HB1.out; clear hx1 hb1))
        clear hs7 d4 d4' HS7
        generalize gN l 18 2 = n18 at *
        go_loop [4, 5] (fun t i => ∃ k : Nat, i = .int .i64 ((k : Int) + 1) ∧ k ≤ 3 ∧ t = .int .i64 (tgt n18 k)) (fun _ i => 4 - (intOf i).toNat)
        case atStart => exact ⟨0, rfl, by omega, rfl⟩
        case round =>
          obtain ⟨k, rfl, hk, rfl⟩ := hrel
          by_cases hk3 : k < 3
          · have HT1 : Hid (tgt n18 (k + 1) = if mach ((k : Int) + 1) = n18 then (k : Int) + 1 else tgt n18 k) := rfl
            have HM := Lib.hid (fun wx => ref4Machine_any ((k : Int) + 1) wx)
            have hm243 := mach_le ((k : Int) + 1)
            by_cases hmk : mach ((k : Int) + 1) = n18
            · have HT2 : Hid (tgt n18 (k + 1) = (k : Int) + 1) := Lib.hid (by rw [HT1.out, if_pos hmk])
              have q1 : ((mach ((k : Int) + 1) : Nat) : Int) = (n18 : Int) := by rw [hmk]
              have q2 : (((mach ((k : Int) + 1) : Nat) : Int) == (n18 : Int)) = true := by rw [q1]; simp
              have HQ := Lib.hid hmk
              clear hmk q1
              go_wp2_with (first
                | (go_at_call 36; refine (HM.out _).mono ?_; rintro e wu ⟨rfl, rfl⟩)
                | (go_at_call 37; refine (HU18.out _ HB1.out).mono ?_; rintro e wu ⟨rfl, rfl⟩))
              go_round
              case rel => exact ⟨k + 1, by go_num, by omega, by rw [HT2.out]⟩
              case measure => simp [intOf] <;> omega
            · have HT2 : Hid (tgt n18 (k + 1) = tgt n18 k) := Lib.hid (by rw [HT1.out, if_neg hmk])
              have q2 : (((mach ((k : Int) + 1) : Nat) : Int) == (n18 : Int)) = false := by rw [beq_eq_false_iff_ne]; omega
              have HQ := Lib.hid hmk
              clear hmk
              go_wp2_with (first
                | (go_at_call 36; refine (HM.out _).mono ?_; rintro e wu ⟨rfl, rfl⟩)
                | (go_at_call 37; refine (HU18.out _ HB1.out).mono ?_; rintro e wu ⟨rfl, rfl⟩))
              go_round
              case rel => exact ⟨k + 1, by go_num, by omega, by rw [HT2.out]⟩
              case measure => simp [intOf] <;> omega
          · obtain rfl : k = 3 := by omega
            have HT3 : Hid (tgt n18 3 = targetR l) := Lib.hid HTG.out.symm
            have HTB := Lib.hid (tgt_le n18 3)
            generalize tgt n18 3 = tg at *
            by_cases ht : tg = 0
            · have HR := Lib.hid (show readE l = (elf0, 11) by
                have h1 := HCD.out
                rw [← HT3.out, if_pos ht] at h1
                unfold readE
                rw [h1, if_pos (by decide)])
              have t1 : (tg == (0 : Int)) = true := by rw [ht]; rfl
              have HZ := Lib.hid ht
              clear ht
              go_wp2_with (first
                | ((with_reducible show wpList _ _ _ (⟨none, .store _ (.tmp 2) _, _, _, _, _⟩ :: _) _ _); go_must (refine wpList_storeElfS HX1.out rfl rfl rfl rfl (by simp [Value.oneCell']) ?_; intro w3 hh3 hs3; have HH3 := Lib.hid hh3; have HB3 := Lib.hid (HB1.out.trans (hs3.below HB1.out.size (fun j hj => by rw [hj]; exact Nat.le_refl _))); clear hh3 hs3)))
              have c0 : w3.cell? ⟨w.heap.size, 0, none⟩ = some (.int .i64 0) := cell_rec HH3.out 0
              have c1 : w3.cell? ⟨w.heap.size, 1, none⟩ = some (.int .i64 0) := cell_rec HH3.out 1
              have c2 : w3.cell? ⟨w.heap.size, 2, none⟩ = some (.int .u32 0) := cell_rec HH3.out 2
              have c3 : w3.cell? ⟨w.heap.size, 3, none⟩ = some (.int .u64 0) := cell_rec HH3.out 3
              have c4 : w3.cell? ⟨w.heap.size, 4, none⟩ = some (.slice none 0 0) := cell_rec HH3.out 4
              have c5 : w3.cell? ⟨w.heap.size, 5, none⟩ = some (.slice none 0 0) := cell_rec HH3.out 5
              exact bodyPost_ret (v := .tuple #[.agg elfZ, .int .i64 11]) (by simp [results, Tryz.results17, go_sem, c0, c1, c2, c3, c4, c5]) rfl ⟨RdRes.code HR.out, HB3.out⟩
            · have HCD0 := Lib.hid (show codeR l = 0 by
                have h1 := HCD.out
                rw [← HT3.out, if_neg ht] at h1
                exact h1)
              have t1 : (tg == (0 : Int)) = false := by rw [beq_eq_false_iff_ne]; exact ht
              have HZ := Lib.hid ht
              have HROK := Lib.hid (show OkG l → mayE (parseE l tg) = true → fileB (parseE l tg) = l → readE l = (parseE l tg, 0) from fun h1 h2 h3 => by
                unfold readE
                rw [HT3.out] at h2 h3 ⊢
                rw [if_neg (fun h => h HCD0.out), if_pos ⟨h1.1, h2, h3⟩])
              have HRNO := Lib.hid (show ¬ (OkP l ∧ mayE (parseE l tg) = true ∧ fileB (parseE l tg) = l) → readE l = (elf0, 4) from fun h1 => by
                unfold readE
                rw [HT3.out] at h1
                rw [if_neg (fun h => h HCD0.out), if_neg h1])
              have HPF := Lib.hid (show (parseE l tg).fits from by rw [HT3.out]; exact parse_fits l)
              have HPOK0 := Lib.hid (show FewP l → ElfOk (parseE l tg) from fun h => by rw [HT3.out]; exact parse_okG (by have := hm.out; omega) h)
              have HGF := Lib.hid (show mayE (parseE l tg) = true → fileB (parseE l tg) = l → OkG l from fun h1 h2 => by
                have := okG_file h1 HPF.out
                rwa [h2] at this)
              have HGU := Lib.hid (show Calls Tryz.prog 38 #[.slice ad m cap, .int .i64 tg] w1 fun r w' => GuRes l tg w1.heap.size r w' ∧ Below w1.heap.size w1 w' from ref4Guess_any l tg _ w1 (by have := hm.out; omega) (HV.out.mono HB1.out))
              clear ht HCD
              go_wp2_with (fail)
              refine HGU.out.mono ?_
              rintro e wA ⟨⟨b, pe, L, sv, gv, rfl, hown, hpe, hgb⟩, hbA⟩
              have HBA := Lib.hid (HB1.out.trans (hbA.mono HB1.out.size))
              have HXA := Lib.hid (heap_below hbA HX1.out)
              obtain ⟨sn, sa, sc, -, rfl, _, _⟩ := hown.so.shape
              obtain ⟨gn, ga, gc, -, rfl, _, _⟩ := hown.go.shape
              have HOWN := Lib.hid (show ElfOwn wA w.heap.size pe L (.slice sa sn sc) (.slice ga gn gc) from ⟨hown.secs, hown.so.rebase HB1.out.size, hown.go.rebase HB1.out.size, fun p hp => (hown.data p hp).base HB1.out.size⟩)
              have HPE := Lib.hid hpe
              have HGB := Lib.hid hgb
              clear hbA hown hpe hgb
              cases b with
              | false =>
                have HR := Lib.hid (HRNO.out (fun h => by have h1 := HGB.out (HGF.out h.2.1 h.2.2); cases h1))
                go_wp2_with (first
                  | ((with_reducible show wpList _ _ _ (⟨some 6, .alloc _, _, _, _, _⟩ :: _) _ _); go_must (refine wpList_allocElf ?_; intro w2 hx2 hb2 hs2; have HX2 := Lib.hid hx2; have HXA2 := Lib.hid (heap_below hb2 HXA.out); have HBA2 := Lib.hid hb2; clear hx2 hb2))
                  | ((with_reducible show wpList _ _ _ (⟨none, .store _ (.tmp 6) _, _, _, _, _⟩ :: _) _ _); go_must (refine wpList_storeElf HX2.out rfl rfl rfl rfl (by simp [Value.oneCell']) (Nat.le_refl _) (Nat.le_of_lt hs2) ?_; intro w4 hh4 hb4; have HY4 := Lib.hid (show w4.heap[wA.heap.size]? = some (.cells #[.int .i64 pe.typ, .int .i64 pe.target, .int .u32 (pe.flags : Int), .int .u64 (pe.entry : Int), .slice sa sn sc, .slice ga gn gc] 51 (0, 0)) from hh4); have HBA4 := Lib.hid (HBA2.out.trans hb4); have HX4 := Lib.hid (heap_below HBA4.out HXA.out); have HB4 := Lib.hid (HBA.out.trans (HBA4.out.mono HBA.out.size)); have HOW4 := Lib.hid (show ElfOwn w4 w.heap.size pe L (.slice sa sn sc) (.slice ga gn gc) from ⟨HOWN.out.secs, HOWN.out.so.mono HBA4.out, HOWN.out.go.mono HBA4.out, fun p hp => (HOWN.out.data p hp).mono HBA4.out⟩); clear hh4 hb4))
                  | ((with_reducible show wpList _ _ _ (⟨none, .store _ (.tmp 2) _, _, _, _, _⟩ :: _) _ _); go_must (refine wpList_storeElfS HX4.out rfl rfl rfl rfl (by simp [Value.oneCell']) ?_; intro w3 hh3 hs3; have HH3 := Lib.hid hh3; have HB3 := Lib.hid (HB4.out.trans (hs3.below HB4.out.size (fun j hj => by rw [hj]; exact Nat.le_refl _))); clear hh3 hs3)))
                have c0 : w3.cell? ⟨w.heap.size, 0, none⟩ = some (.int .i64 0) := cell_rec HH3.out 0
                have c1 : w3.cell? ⟨w.heap.size, 1, none⟩ = some (.int .i64 0) := cell_rec HH3.out 1
                have c2 : w3.cell? ⟨w.heap.size, 2, none⟩ = some (.int .u32 0) := cell_rec HH3.out 2
                have c3 : w3.cell? ⟨w.heap.size, 3, none⟩ = some (.int .u64 0) := cell_rec HH3.out 3
                have c4 : w3.cell? ⟨w.heap.size, 4, none⟩ = some (.slice none 0 0) := cell_rec HH3.out 4
                have c5 : w3.cell? ⟨w.heap.size, 5, none⟩ = some (.slice none 0 0) := cell_rec HH3.out 5
                exact bodyPost_ret (v := .tuple #[.agg elfZ, .int .i64 4]) (by simp [results, Tryz.results17, go_sem, c0, c1, c2, c3, c4, c5]) rfl ⟨RdRes.code HR.out, HB3.out⟩
              | true =>
                obtain rfl : pe = parseE l tg := (HPE.out rfl).1
                have HPOK := Lib.hid (HPOK0.out (HPE.out rfl).2)
                generalize parseE l tg = pe at *
                go_wp2_with (first
                  | ((with_reducible show wpList _ _ _ (⟨some 6, .alloc _, _, _, _, _⟩ :: _) _ _); go_must (refine wpList_allocElf ?_; intro w2 hx2 hb2 hs2; have HX2 := Lib.hid hx2; have HXA2 := Lib.hid (heap_below hb2 HXA.out); have HBA2 := Lib.hid hb2; clear hx2 hb2))
                  | ((with_reducible show wpList _ _ _ (⟨none, .store _ (.tmp 6) _, _, _, _, _⟩ :: _) _ _); go_must (refine wpList_storeElf HX2.out rfl rfl rfl rfl (by simp [Value.oneCell']) (Nat.le_refl _) (Nat.le_of_lt hs2) ?_; intro w4 hh4 hb4; have HY4 := Lib.hid (show w4.heap[wA.heap.size]? = some (.cells #[.int .i64 pe.typ, .int .i64 pe.target, .int .u32 (pe.flags : Int), .int .u64 (pe.entry : Int), .slice sa sn sc, .slice ga gn gc] 51 (0, 0)) from hh4); have HBA4 := Lib.hid (HBA2.out.trans hb4); have HX4 := Lib.hid (heap_below HBA4.out HXA.out); have HB4 := Lib.hid (HBA.out.trans (HBA4.out.mono HBA.out.size)); have HOW4 := Lib.hid (show ElfOwn w4 w.heap.size pe L (.slice sa sn sc) (.slice ga gn gc) from ⟨HOWN.out.secs, HOWN.out.so.mono HBA4.out, HOWN.out.go.mono HBA4.out, fun p hp => (HOWN.out.data p hp).mono HBA4.out⟩); obtain ⟨c0, c1, c2, c3, c4, c5⟩ := elf_box HY4.out; clear hh4 hb4)))
                refine (ref4Write_any pe L _ _ w4 HOW4.out.at HPOK.out).mono ?_
                rintro e wB ⟨v9, rfl, hov, hbB⟩
                obtain ⟨vn, va, vc, -, rfl, _, _⟩ := hov.shape
                have HOV := Lib.hid hov
                have HBB := Lib.hid hbB
                have HXB := Lib.hid (heap_below hbB HX4.out)
                have HYB := Lib.hid (heap_below hbB HY4.out)
                have HB5 := Lib.hid (HB4.out.trans (hbB.mono HB4.out.size))
                have HOW5 := Lib.hid (show ElfOwn wB w.heap.size pe L (.slice sa sn sc) (.slice ga gn gc) from ⟨HOW4.out.secs, HOW4.out.so.mono hbB, HOW4.out.go.mono hbB, fun p hp => (HOW4.out.data p hp).mono hbB⟩)
                clear hov hbB c0 c1 c2 c3 c4 c5
                cases hmay : mayE pe with
                | false =>
                  rw [fileW_no hmay] at HOV ⊢
                  have HR := Lib.hid (HRNO.out (fun h => by have h1 := h.2.1; rw [hmay] at h1; cases h1))
                  clear hmay
                  go_wp2_with (first
                    | ((with_reducible show wpList _ _ _ (⟨none, .store _ (.tmp 2) _, _, _, _, _⟩ :: _) _ _); go_must (refine wpList_storeElfS HXB.out rfl rfl rfl rfl (by simp [Value.oneCell']) ?_; intro w3 hh3 hs3; have HH3 := Lib.hid hh3; have HB3 := Lib.hid (HB5.out.trans (hs3.below HB5.out.size (fun j hj => by rw [hj]; exact Nat.le_refl _))); clear hh3 hs3)))
                  have c0 : w3.cell? ⟨w.heap.size, 0, none⟩ = some (.int .i64 0) := cell_rec HH3.out 0
                  have c1 : w3.cell? ⟨w.heap.size, 1, none⟩ = some (.int .i64 0) := cell_rec HH3.out 1
                  have c2 : w3.cell? ⟨w.heap.size, 2, none⟩ = some (.int .u32 0) := cell_rec HH3.out 2
                  have c3 : w3.cell? ⟨w.heap.size, 3, none⟩ = some (.int .u64 0) := cell_rec HH3.out 3
                  have c4 : w3.cell? ⟨w.heap.size, 4, none⟩ = some (.slice none 0 0) := cell_rec HH3.out 4
                  have c5 : w3.cell? ⟨w.heap.size, 5, none⟩ = some (.slice none 0 0) := cell_rec HH3.out 5
                  exact bodyPost_ret (v := .tuple #[.agg elfZ, .int .i64 4]) (by simp [results, Tryz.results17, go_sem, c0, c1, c2, c3, c4, c5]) rfl ⟨RdRes.code HR.out, HB3.out⟩
                | true =>
                  rw [fileW_ok hmay] at HOV ⊢
                  have HMAY := Lib.hid hmay
                  clear hmay
                  have hk1 := run_str (OB.bs HOV.out)
                  have hk2 := run_str (HV.out.mono HB5.out)
                  by_cases hfl : fileB pe = l
                  · have HR := Lib.hid (HROK.out (HGF.out HMAY.out hfl) HMAY.out hfl)
                    have e1 : (fileB pe != l) = false := by rw [hfl]; simp
                    have e2 : (fileB pe == l) = true := by rw [hfl]; simp
                    clear hfl
                    generalize fileB pe = fb at *
                    obtain ⟨c0, c1, c2, c3, c4, c5⟩ := elf_box HYB.out
                    go_wp2_with ((with_reducible show wpList _ _ _ (⟨none, .store _ (.tmp 2) _, _, _, _, _⟩ :: _) _ _); go_must (refine wpList_storeElfS HXB.out rfl rfl rfl rfl (by simp [Value.oneCell']) ?_; intro w7 hh7 hs7; have HH7 := Lib.hid hh7; have HB7 := Lib.hid (HB5.out.trans (hs7.below HB5.out.size (fun j hj => by rw [hj]; exact Nat.le_refl _))); have HOW7 := Lib.hid (show ElfOwn w7 w.heap.size pe L (.slice sa sn sc) (.slice ga gn gc) from ⟨HOW5.out.secs, owns_stirs HOW5.out.so hs7 (own_ne HOW5.out.so HXB.out (by decide)), owns_stirs HOW5.out.go hs7 (own_ne HOW5.out.go HXB.out (by decide)), fun p hp => owns_stirs (HOW5.out.data p hp) hs7 (own_ne (HOW5.out.data p hp) HXB.out (by decide))⟩); obtain ⟨f0, f1, f2, f3, f4, f5⟩ := elf_box (e := pe) (sv := .slice sa sn sc) (gv := .slice ga gn gc) HH7.out; clear hh7 hs7))
                    refine bodyPost_ret (v := .tuple #[elfV pe (.slice sa sn sc) (.slice ga gn gc), .int .i64 0]) (by simp [results, Tryz.results17, go_sem, elfV, f0, f1, f2, f3, f4, f5]) rfl ⟨⟨L, .slice sa sn sc, .slice ga gn gc, by rw [HR.out], by rw [HR.out]; exact HOW7.out⟩, HB7.out⟩
                  · have HR := Lib.hid (HRNO.out (fun h => hfl h.2.2))
                    have e1 : (fileB pe != l) = true := by simpa using hfl
                    have e2 : (fileB pe == l) = false := by simpa using hfl
                    have HFL := Lib.hid hfl
                    clear hfl
                    generalize fileB pe = fb at *
                    go_wp2_with (first
                      | ((with_reducible show wpList _ _ _ (⟨none, .store _ (.tmp 2) _, _, _, _, _⟩ :: _) _ _); go_must (refine wpList_storeElfS HXB.out rfl rfl rfl rfl (by simp [Value.oneCell']) ?_; intro w3 hh3 hs3; have HH3 := Lib.hid hh3; have HB3 := Lib.hid (HB5.out.trans (hs3.below HB5.out.size (fun j hj => by rw [hj]; exact Nat.le_refl _))); clear hh3 hs3)))
                    have c0 : w3.cell? ⟨w.heap.size, 0, none⟩ = some (.int .i64 0) := cell_rec HH3.out 0
                    have c1 : w3.cell? ⟨w.heap.size, 1, none⟩ = some (.int .i64 0) := cell_rec HH3.out 1
                    have c2 : w3.cell? ⟨w.heap.size, 2, none⟩ = some (.int .u32 0) := cell_rec HH3.out 2
                    have c3 : w3.cell? ⟨w.heap.size, 3, none⟩ = some (.int .u64 0) := cell_rec HH3.out 3
                    have c4 : w3.cell? ⟨w.heap.size, 4, none⟩ = some (.slice none 0 0) := cell_rec HH3.out 4
                    have c5 : w3.cell? ⟨w.heap.size, 5, none⟩ = some (.slice none 0 0) := cell_rec HH3.out 5
                    exact bodyPost_ret (v := .tuple #[.agg elfZ, .int .i64 4]) (by simp [results, Tryz.results17, go_sem, c0, c1, c2, c3, c4, c5]) rfl ⟨RdRes.code HR.out, HB3.out⟩
      · have HR := Lib.hid (HC4.out h6 h2 h4)
        have d4 : (l.take 7 == [127, 69, 76, 70, 2, 1, 1]) = false := by rw [beq_eq_false_iff_ne]; exact h4
        have d4' : (l.take 7 != [127, 69, 76, 70, 2, 1, 1]) = true := by rw [bne_iff_ne]; exact h4
        generalize l.take 7 = t7 at *
        clear HC6 HC2 HC4 h6 h2 h4
        go_enter Tryz.func17, Tryz.ntmps17
        go_wp2_with (first
          | ((with_reducible show wpList _ _ _ (⟨some 2, .alloc _, _, _, _, _⟩ :: _) _ _); go_must (refine wpList_allocElf ?_; intro w1 hx1 hb1 hs1; have HX1 := Lib.hid hx1; have HB1 := Lib.hid hb1; have hs7 := HS7.out _ HB1.out; clear hx1 hb1))
          | ((with_reducible show wpList _ _ _ (⟨none, .store _ (.tmp 2) _, _, _, _, _⟩ :: _) _ _); go_must (refine wpList_storeElfS HX1.out rfl rfl rfl rfl (by simp [Value.oneCell']) ?_; intro w3 hh3 hs3; have HH3 := Lib.hid hh3; have HB3 := Lib.hid (HB1.out.trans (hs3.below HB1.out.size (fun j hj => by rw [hj]; exact Nat.le_refl _))); clear hh3 hs3)))
        have c0 : w3.cell? ⟨w.heap.size, 0, none⟩ = some (.int .i64 0) := cell_rec HH3.out 0
        have c1 : w3.cell? ⟨w.heap.size, 1, none⟩ = some (.int .i64 0) := cell_rec HH3.out 1
        have c2 : w3.cell? ⟨w.heap.size, 2, none⟩ = some (.int .u32 0) := cell_rec HH3.out 2
        have c3 : w3.cell? ⟨w.heap.size, 3, none⟩ = some (.int .u64 0) := cell_rec HH3.out 3
        have c4 : w3.cell? ⟨w.heap.size, 4, none⟩ = some (.slice none 0 0) := cell_rec HH3.out 4
        have c5 : w3.cell? ⟨w.heap.size, 5, none⟩ = some (.slice none 0 0) := cell_rec HH3.out 5
        exact bodyPost_ret (v := .tuple #[.agg elfZ, .int .i64 4]) (by simp [results, Tryz.results17, go_sem, c0, c1, c2, c3, c4, c5]) rfl ⟨RdRes.code HR.out, HB3.out⟩
end Go.Proofs.YtimnbnomaajmmaaGreat
namespace Go.Fd
open Go.RowKit
section
variable {P : Program} {L : List Oper} {Q : Exit → Act → World → Prop} {w0 : World} {fuel i : Nat} {listed : Array Bool} {a : Act} {w : World} {o : Oper}
abbrev SAb (w0 : World) : World → Prop := fun w => Below w0.heap.size w0 w
/-- An operation that reads, taken first. -/
theorem held_quiet (hi : L[i]? = some o) (hB : (Region.noSelect L.toArray && Region.free .any L.toArray listed i && (Region.ready .any L.toArray listed).contains i) = true) (hw : Region.wanted o (yielded L.toArray a.tmps) = true) (hv : valB o = true)
    (hQ : ∀ v c a w, Q (.panic c) (a.put o.dst v) w → Q (.panic c) a w) (hb : Below w0.heap.size w0 w)
    (h : ∀ K : Act → Prop, (∀ a, wpAnyH P .any L.toArray Q (SAb w0) fuel (listed.setIfInBounds i true) a w → K a) → o.quiet P a (fun w => ∃ x : Above w0, w = x.w) K) : wpAnyH P .any L.toArray Q (SAb w0) (fuel + 1) listed a w := by
  simp only [Bool.and_eq_true] at hB
  obtain ⟨⟨h1, h2⟩, h3⟩ := hB
  obtain ⟨v, k1, k2⟩ := h (fun a => wpAnyH P .any L.toArray Q (SAb w0) fuel (listed.setIfInBounds i true) a w) (fun _ h => h)
  refine wpAnyH_take (i := i) (oi := o) (v := v) (by simpa using hi) h1 h2 h3 (hQ v) (.inl ⟨hw, fun w' hw' => ?_⟩) hb k2
  have := k1 w' ⟨⟨w', hw'⟩, rfl⟩
  unfold Oper.quietAt at this
  generalize hr : (execOp a.eval o).run P w' = res at this
  cases res with
  | halt x w2 => exact this.elim
  | ok n w2 =>
    obtain ⟨u, rfl⟩ := valB_spec hv hr
    obtain ⟨rfl, rfl⟩ := (this : w2 = w' ∧ u = v)
    rfl
theorem wpOp_of_list {ops : Array Oper} {K : Act → World → Prop} (hi : ops[i]? = some o) (h : wpList P ops (Exit.then K Q) [o] a w) : wpOp P ops Q i K a w := by
  unfold wpOp
  rw [hi]
  simp only [wpList] at h
  split at h
  · next hw =>
    simp only [hw, if_true]
    rcases h with h | ⟨h1, a1, w1, h2⟩
    · left
      unfold Oper.wp at *
      generalize (execOp a.eval o).run P w = r at *
      cases r with
      | ok n w' =>
        cases n <;> simp only [Oper.upon] at h ⊢ <;>
          first
            | exact h
            | exact Calls.mono h (fun e w'' he => by
                cases e with
                | returned v => exact he
                | panicked c => exact he
                | outgrown => obtain ⟨a0, w0, h0⟩ := (he : LetsOut _); exact ⟨a0, w0, h0⟩)
      | halt x w' => cases x <;> simp only [Oper.upon] at h ⊢ <;> exact h
    · right
      exact ⟨h1, a1, w1, h2⟩
  · next hw =>
    simp only [hw]
    exact h
end
end Go.Fd
namespace Go.Proofs.YtimnbnomaajmmaaGreat
open Go.RowKit Go.Fd
theorem readE_ok {l : List UInt8} (hl : l.length ≤ 4194304) : ElfOk (readE l).1 := by
  unfold readE
  split
  · exact elf0_ok
  · split
    · next h => exact parse_ok hl h.1
    · exact elf0_ok
theorem readE_data {l : List UInt8} {s : SecM} (h : s ∈ (readE l).1.secs) : s.data.length ≤ l.length := by
  unfold readE at h
  split at h
  · exact absurd h (by simp [elf0])
  · split at h
    · obtain ⟨i, hi⟩ := List.mem_iff_getElem?.1 h
      rw [secsP_get hi]
      exact secP_data _ _ _
    · exact absurd h (by simp [elf0])
attribute [local irreducible] readE
end Go.Proofs.YtimnbnomaajmmaaGreat
namespace Go.Proofs.YtimnbnomaajmmaaGreat
open Go.RowKit Go.Fd
/-! ### What is read is in its bounds -/
theorem symRd_small (b names : List UInt8) : (symRd b names).1.length ≤ b.length / 24 := by
  unfold symRd
  split
  · simp
  · split
    · next L hL => rw [foldSym_len b names _ _ hL]; omega
    · simp
theorem symRd_wf (b names : List UInt8) : ∀ x ∈ (symRd b names).1, x.value < 18446744073709551616 ∧ x.size < 18446744073709551616 := by
  have hf : ∀ k L, foldU (stepSym b names) k = .ok L → ∀ x ∈ L, x.value < 18446744073709551616 ∧ x.size < 18446744073709551616 := by
    intro k
    induction k with
    | zero => intro L h x hx; cases h; simp at hx
    | succ k ih =>
      intro L h x hx
      rw [foldU] at h
      cases hq : foldU (stepSym b names) k with
      | error e => rw [hq] at h; cases h
      | ok L0 =>
        rw [hq] at h
        have h' : stepSym b names k L0 = .ok L := h
        unfold stepSym at h'
        split at h'
        · cases h'
        · split at h'
          · cases h'
          · split at h'
            · cases h'
            · cases h'
              rw [List.mem_append, List.mem_singleton] at hx
              rcases hx with hx | rfl
              · exact ih L0 hq x hx
              · unfold recS
                exact ⟨by have := numLE_cut b (24 * (k + 1) + 8) 8; simpa using this, by have := numLE_cut b (24 * (k + 1) + 16) 8; simpa using this⟩
  unfold symRd
  split
  · simp
  · split
    · next L hL => exact hf _ _ hL
    · simp
theorem relaRd_wf (b : List UInt8) : ∀ x ∈ (relaRd b).1, x.off < 18446744073709551616 ∧ -9223372036854775808 ≤ x.add ∧ x.add < 9223372036854775808 := by
  have hf : ∀ k L, foldU (stepRela b) k = .ok L → ∀ x ∈ L, x.off < 18446744073709551616 ∧ -9223372036854775808 ≤ x.add ∧ x.add < 9223372036854775808 := by
    intro k
    induction k with
    | zero => intro L h x hx; cases h; simp at hx
    | succ k ih =>
      intro L h x hx
      rw [foldU] at h
      cases hq : foldU (stepRela b) k with
      | error e => rw [hq] at h; cases h
      | ok L0 =>
        rw [hq] at h
        have h' : stepRela b k L0 = .ok L := h
        unfold stepRela at h'
        split at h'
        · cases h'
        · cases h'
          rw [List.mem_append, List.mem_singleton] at hx
          rcases hx with hx | rfl
          · exact ih L0 hq x hx
          · have := numLE_cut b (24 * k) 8
            unfold recR
            refine ⟨by simpa using this, ?_, ?_⟩
            · dsimp only; rw [wrap64]; omega
            · dsimp only; rw [wrap64]; omega
  unfold relaRd
  split
  · split
    · next L hL => exact hf _ _ hL
    · simp
  · simp
/-- A part's numbers in their bounds. -/
structure PartWf (p : PartM) : Prop where
  align : -9223372036854775808 ≤ p.align ∧ p.align < 9223372036854775808
  size : -9223372036854775808 ≤ p.size ∧ p.size < 9223372036854775808
  data : p.data.length ≤ 24000
  many : p.relas.length ≤ 1000
  relas : ∀ x ∈ p.relas, x.off < 18446744073709551616 ∧ -9223372036854775808 ≤ x.add ∧ x.add < 9223372036854775808
theorem partOf_wf {s : SecM} (h : s.data.length ≤ 24000) : PartWf (partOf s) :=
  ⟨⟨by show _ ≤ wrap64 _; rw [wrap64]; omega, by show wrap64 _ < _; rw [wrap64]; omega⟩, ⟨by show _ ≤ wrap64 _; rw [wrap64]; omega, by show wrap64 _ < _; rw [wrap64]; omega⟩, h, Nat.zero_le _, fun x hx => by cases hx⟩
theorem setRel_wf {ps : List PartM} (h : ∀ p ∈ ps, PartWf p) (i : Nat) {b : List UInt8} (hb : b.length ≤ 24000) : ∀ p ∈ setRel ps i (relaRd b).1, PartWf p := by
  intro p hp
  unfold setRel at hp
  obtain ⟨j, hj⟩ := List.mem_iff_getElem?.1 hp
  rw [List.getElem?_modify] at hj
  cases hq : ps[j]? with
  | none => rw [hq] at hj; cases hj
  | some q =>
    rw [hq] at hj
    have hw := h q (List.mem_of_getElem? hq)
    split at hj
    · cases hj
      exact ⟨hw.align, hw.size, hw.data, by have := relaRd_len b; dsimp only; omega, relaRd_wf b⟩
    · cases hj; exact hw
theorem modP_wf : ∀ (ss : List SecM) (ps : List PartM) (A : List (List UInt8 × Nat)) (qs : List PartM), (∀ p ∈ ps, PartWf p) → (∀ s ∈ ss, s.data.length ≤ 24000) → modP ss ps A = some qs → ∀ p ∈ qs, PartWf p := by
  intro ss
  induction ss with
  | nil => intro ps A qs h _ e; cases e; exact h
  | cons s ss ih =>
    intro ps A qs h hs e
    have hs' : ∀ x ∈ ss, x.data.length ≤ 24000 := fun x hx => hs x (by simp [hx])
    rw [modP] at e
    split at e
    · refine ih _ _ _ (fun p hp => ?_) hs' e
      rcases List.mem_append.1 hp with hp | hp
      · exact h p hp
      · rw [List.mem_singleton] at hp; subst hp; exact partOf_wf (hs s (by simp))
    · split at e
      · cases e
      · split at e
        · cases e
        · exact ih _ _ _ (setRel_wf h _ (hs s (by simp))) hs' e
theorem modR_wf : ∀ (ss : List SecM) (ps qs : List PartM), (∀ p ∈ ps, PartWf p) → (∀ s ∈ ss, s.data.length ≤ 24000) → modR ss ps = some qs → ∀ p ∈ qs, PartWf p := by
  intro ss
  induction ss with
  | nil => intro ps qs h _ e; cases e; exact h
  | cons s ss ih =>
    intro ps qs h hs e
    have hs' : ∀ x ∈ ss, x.data.length ≤ 24000 := fun x hx => hs x (by simp [hx])
    rw [modR] at e
    split at e
    · refine ih _ _ (fun p hp => ?_) hs' e
      rcases List.mem_append.1 hp with hp | hp
      · exact h p hp
      · rw [List.mem_singleton] at hp; subst hp; exact partOf_wf (hs s (by simp))
    · split at e
      · cases e
      · split at e
        · cases e
        · exact ih _ _ (setRel_wf h _ (hs s (by simp))) hs' e
theorem objWf_of {o : ObjM} (h1 : -9223372036854775808 ≤ o.target ∧ o.target < 9223372036854775808) (h2 : ∀ p ∈ o.parts, PartWf p) (h3 : o.syms.length ≤ 1000) (h4 : ∀ s ∈ o.syms, s.value < 18446744073709551616 ∧ s.size < 18446744073709551616) : ObjWf o :=
  ⟨h1, fun p hp => ⟨(h2 p hp).align, (h2 p hp).size, by have := (h2 p hp).data; omega⟩, fun p hp => ⟨(h2 p hp).many, (h2 p hp).relas⟩, h3, h4⟩
theorem secsO_wf {md : List SecM → Option (List PartM)} {e : ElfM} {o : ObjM} (hm : ∀ ss qs, (∀ s ∈ ss, s.data.length ≤ 24000) → md ss = some qs → ∀ p ∈ qs, PartWf p) (he : e.fits) (hd : ∀ s ∈ e.secs, s.data.length ≤ 24000) (h : secsO md e = some o) : ObjWf o := by
  unfold secsO at h
  split at h
  · cases h
  · split at h
    · cases h
    · cases hp : md (e.secs.take (e.secs.length - 2)) with
      | none => rw [hp] at h; cases h
      | some ps =>
        rw [hp] at h
        cases h
        refine objWf_of he.target (hm _ _ (fun s hs => hd s (List.mem_of_mem_take hs)) hp) ?_ (symRd_wf _ _)
        have h1 := symRd_small (e.secs[e.secs.length - 2]?.elim [] (·.data)) (e.secs[e.secs.length - 1]?.elim [] (·.data))
        have h2 : (e.secs[e.secs.length - 2]?.elim [] (·.data) : List UInt8).length ≤ 24000 := by
          cases hx : e.secs[e.secs.length - 2]? with
          | none => simp
          | some s => exact hd s (List.mem_of_getElem? hx)
        dsimp only
        omega
/-! ### A module's file -/
theorem relSecs_mem {st : Nat} {s : SecM} : ∀ (ps : List PartM) (i : Nat), s ∈ relSecs st i ps → ∃ p ∈ ps, ∃ j, j < i + ps.length ∧ s = relSec st j p := by
  intro ps
  induction ps with
  | nil => intro i h; cases h
  | cons p ps ih =>
    intro i h
    rw [relSecs] at h
    have hrest : s ∈ relSecs st (i + 1) ps → ∃ q ∈ p :: ps, ∃ j, j < i + (p :: ps).length ∧ s = relSec st j q := fun hs => by
      obtain ⟨q, hq, j, hj, e⟩ := ih _ hs
      exact ⟨q, by simp [hq], j, by rw [List.length_cons]; omega, e⟩
    split at h
    · rcases List.mem_cons.1 h with rfl | h
      · exact ⟨p, by simp, i, by rw [List.length_cons]; omega, rfl⟩
      · exact hrest h
    · exact hrest h
theorem firstE_0 {α : Type} {f : α → Int} : ∀ {l : List α}, firstE f l = 0 → ∀ x ∈ l, f x = 0 := by
  intro l
  induction l with
  | nil => intro _ x hx; cases hx
  | cons y l ih =>
    intro h x hx
    rw [firstE] at h
    split at h
    · next h0 =>
      rcases List.mem_cons.1 hx with rfl | hx
      · exact h0
      · exact ih h x hx
    · next h0 => exact absurd h h0
structure MayO (o : ObjM) : Prop where
  target : 1 ≤ o.target ∧ o.target ≤ 3
  many : o.parts.length ≤ 100 ∧ o.syms.length ≤ 16384
  parts : partsE o.parts [] = 0
  syms : (symW o.syms).2.2.2 = 0
  secs : ∀ s ∈ o.syms, secE o.parts.length s = 0
  relas : ∀ p ∈ o.parts, ∀ r ∈ p.relas, relE o.syms.length p.size r = 0
theorem mayO_0 {o : ObjM} (h : mayO o = 0) : MayO o := by
  unfold mayO at h
  split at h
  · omega
  · next h1 =>
    split at h
    · omega
    · next h2 =>
      split at h
      · next h3 => exact absurd h h3
      · next h3 =>
        split at h
        · next h4 => exact absurd h h4
        · next h4 =>
          split at h
          · next h5 => exact absurd h h5
          · next h5 => exact ⟨by omega, by omega, Classical.not_not.1 h3, Classical.not_not.1 h4, firstE_0 (Classical.not_not.1 h5), fun p hp => firstE_0 (firstE_0 h p hp)⟩
theorem relW_0 {o : ObjM} (h : MayO o) : ∀ p ∈ o.parts, (relaW p.relas).2 = 0 := by
  intro p hp
  unfold relaW
  rw [if_neg]
  rw [Bool.not_eq_true, List.any_eq_false]
  intro r hr
  have hre := h.relas p hp r hr
  have hm := h.many
  unfold relE at hre
  unfold relaBad
  repeat' split at hre
  all_goals first | omega | skip
  simp only [Bool.or_eq_true, decide_eq_true_eq]
  omega
theorem fileO_0 {o : ObjM} {b : List UInt8} (h : fileO o = (b, 0)) : MayO o ∧ mayE (elfO o) = true ∧ b = fileB (elfO o) := by
  unfold fileO at h
  split at h
  · next h0 => rw [Prod.mk.injEq] at h; exact absurd h.2 h0
  · next h0 =>
    split at h
    · next h1 => rw [Prod.mk.injEq] at h; exact ⟨mayO_0 (Classical.not_not.1 h0), h1, h.1.symm⟩
    · rw [Prod.mk.injEq] at h; exact absurd h.2 (by omega)
theorem elfO_fits' {o : ObjM} (hw : ObjWf o) (h : MayO o) (hd : ∀ s ∈ (elfO o).secs, s.data.length ≤ 4194304) : (elfO o).fits := by
  have hst : symtabNo o ≤ 201 := by
    have h1 := h.many
    have h2 : o.parts.countP hasRel ≤ o.parts.length := List.countP_le_length
    unfold symtabNo
    omega
  refine ⟨⟨by show _ ≤ (1 : Int); omega, by show (1 : Int) < _; omega⟩, hw.target, ?_, by show 0 < _; omega, fun s hs => ?_, fun s hs => by cases hs⟩
  · show (if o.target = 3 then 1 else 0) < _; split <;> omega
  · have hds := hd s hs
    have hs' : s ∈ o.parts.map secPart ++ relSecs (symtabNo o) 0 o.parts ++ [symSec o, strSec o] := hs
    rw [List.mem_append, List.mem_append] at hs'
    rcases hs' with (hs' | hs') | hs'
    · obtain ⟨p, hp, rfl⟩ := List.mem_map.1 hs'
      have hb := bits_lt p.flags
      refine ⟨?_, by show bitsN p.flags < _; omega, by show 0 < _; omega, u64of_lt _, u64of_lt _, by show 0 < _; omega, by show 0 < _; omega, by show 0 < _; omega⟩
      show (if hasF p.flags 110 = true then 8 else 1) < _
      split <;> omega
    · obtain ⟨p, hp, j, hj, rfl⟩ := relSecs_mem _ _ hs'
      have h1 := h.many
      refine ⟨by show 4 < _; omega, by show 64 < _; omega, by show 0 < _; omega, by show 8 < _; omega, ?_, by show symtabNo o < _; omega, by show j + 1 < _; omega, by show 24 < _; omega⟩
      show (relaW p.relas).1.length < _
      have : (relaW p.relas).1.length ≤ 4194304 := hds
      omega
    · rcases List.mem_cons.1 hs' with rfl | hs'
      · refine ⟨by show 2 < _; omega, by show 0 < _; omega, by show 0 < _; omega, by show 8 < _; omega, ?_, by show symtabNo o + 1 < _; omega, ?_, by show 24 < _; omega⟩
        · show (symW o.syms).1.length < _
          have : (symW o.syms).1.length ≤ 4194304 := hds
          omega
        · show (symW o.syms).2.2.1 < _
          have h1 := hw.many
          have h2 : (symW o.syms).2.2.1 ≤ 1001 := by
            unfold symW
            have := List.countP_le_length (p := fun s : SymM => decide (s.bind = 0)) (l := o.syms)
            repeat' split
            all_goals dsimp only
            all_goals first | omega | (unfold locs; omega)
          omega
      · rcases List.mem_singleton.1 hs' with rfl
        refine ⟨by show 3 < _; omega, by show 0 < _; omega, by show 0 < _; omega, by show 1 < _; omega, ?_, by show 0 < _; omega, by show 0 < _; omega, by show 0 < _; omega⟩
        show (symW o.syms).2.1.length < _
        have : (symW o.syms).2.1.length ≤ 4194304 := hds
        omega
theorem elfO_fits {o : ObjM} (hw : ObjWf o) (h : MayO o) (hm : mayE (elfO o) = true) : (elfO o).fits := elfO_fits' hw h (by
  intro s hs
  unfold mayE may2 at hm
  simp only [Bool.and_eq_true] at hm
  have := List.all_eq_true.1 hm.1.2.1 s hs
  simp only [Bool.and_eq_true, decide_eq_true_eq] at this
  exact this.2)
theorem elfO_cut (o : ObjM) : ¬ (elfO o).secs.length < 2 ∧ (elfO o).secs.take ((elfO o).secs.length - 2) = o.parts.map secPart ++ relSecs (symtabNo o) 0 o.parts ∧ (elfO o).secs[(elfO o).secs.length - 2]? = some (symSec o) ∧ (elfO o).secs[(elfO o).secs.length - 1]? = some (strSec o) := by
  have h : (elfO o).secs = (o.parts.map secPart ++ relSecs (symtabNo o) 0 o.parts) ++ [symSec o, strSec o] := rfl
  rw [h]
  generalize o.parts.map secPart ++ relSecs (symtabNo o) 0 o.parts = L
  have hl : (L ++ [symSec o, strSec o]).length = L.length + 2 := by simp
  rw [hl]
  refine ⟨by omega, ?_, ?_, ?_⟩
  · rw [show L.length + 2 - 2 = L.length by omega, List.take_left]
  · rw [show L.length + 2 - 2 = L.length by omega, List.getElem?_append_right (by omega), Nat.sub_self]; rfl
  · rw [show L.length + 2 - 1 = L.length + 1 by omega, List.getElem?_append_right (by omega), show L.length + 1 - L.length = 1 by omega]; rfl
theorem secsO_elfO {md : List SecM → Option (List PartM)} {o : ObjM} (hw : ObjWf o) (h : MayO o) (hm : md (o.parts.map secPart ++ relSecs (symtabNo o) 0 o.parts) = some o.parts) : secsO md (elfO o) = some o := by
  obtain ⟨c1, c2, c3, c4⟩ := elfO_cut o
  unfold secsO
  rw [if_neg c1, c2, c3, c4, hm]
  have hs : symRd (symW o.syms).1 (symW o.syms).2.1 = (o.syms, 0) := sym_back h.syms hw.many hw.syms
  show (if (symRd (symW o.syms).1 (symW o.syms).2.1).2 ≠ 0 then none else some (⟨o.target, o.parts, (symRd (symW o.syms).1 (symW o.syms).2.1).1⟩ : ObjM)) = some o
  rw [hs, if_neg (by simp)]
theorem mods_back {o : ObjM} (hw : ObjWf o) (h : MayO o) : modP (o.parts.map secPart ++ relSecs (symtabNo o) 0 o.parts) [] [] = some o.parts ∧ modR (o.parts.map secPart ++ relSecs (symtabNo o) 0 o.parts) [] = some o.parts := by
  obtain ⟨p1, p2, -⟩ := partsE_0 _ _ h.parts
  have hp : ∀ p ∈ o.parts, partE p false = 0 ∧ p.data.length < 4611686018427387904 := fun p hp => ⟨p1 p hp, (hw.nums p hp).2.2⟩
  have hr : ∀ p ∈ o.parts, relaRd (relaW p.relas).1 = (p.relas, 0) := fun p hp => rela_back (relW_0 h p hp) (hw.relas p hp).2
  constructor
  · obtain ⟨A', e1, e2⟩ := modP_parts o.parts [] [] (relSecs (symtabNo o) 0 o.parts) hp (by simpa using p2) (fun j q hj => by cases hj)
    rw [e1]
    exact modP_rels A' (symtabNo o) o.parts [] hr e2
  · rw [modR_parts _ _ _ hp]
    exact modR_rels (symtabNo o) o.parts [] hr
/-- A module's file is read as the module, either way. -/
theorem obj_back {o : ObjM} {b : List UInt8} (hw : ObjWf o) (h : fileO o = (b, 0)) : readE b = (elfO o, 0) ∧ secsO (fun l => modP l [] []) (elfO o) = some o ∧ secsO (fun l => modR l []) (elfO o) = some o := by
  obtain ⟨h1, h2, rfl⟩ := fileO_0 h
  obtain ⟨m1, m2⟩ := mods_back hw h1
  exact ⟨read_back h2 (elfO_fits hw h1 h2), secsO_elfO hw h1 m1, secsO_elfO hw h1 m2⟩
theorem read_obj {o : ObjM} {b : List UInt8} (hw : ObjWf o) (h : fileO o = (b, 0)) : readO (fun l => modP l [] []) b = (o, 0) ∧ readO (fun l => modR l []) b = (o, 0) := by
  obtain ⟨h1, h2, h3⟩ := obj_back hw h
  unfold readO
  rw [h1, if_neg (by simp)]
  dsimp only
  rw [h2, h3]
  dsimp only
  rw [if_pos h]
  exact ⟨rfl, rfl⟩
/-- Both ways read the same. -/
theorem readO_eq {b : List UInt8} (hb : b.length ≤ 24000) : readO (fun l => modP l [] []) b = readO (fun l => modR l []) b := by
  have hok := readE_ok (l := b) (by omega)
  have hd : ∀ s ∈ (readE b).1.secs, s.data.length ≤ 24000 := fun s hs => Nat.le_trans (readE_data hs) hb
  have hP : ∀ o, secsO (fun l => modP l [] []) (readE b).1 = some o → ObjWf o := fun o => secsO_wf (fun ss qs hs h => modP_wf ss [] [] qs (fun p hp => by cases hp) hs h) hok.fits hd
  have hR : ∀ o, secsO (fun l => modR l []) (readE b).1 = some o → ObjWf o := fun o => secsO_wf (fun ss qs hs h => modR_wf ss [] qs (fun p hp => by cases hp) hs h) hok.fits hd
  by_cases h0 : (readE b).2 ≠ 0
  · unfold readO; rw [if_pos h0, if_pos h0]
  have key : ∀ o, (secsO (fun l => modP l [] []) (readE b).1 = some o ∨ secsO (fun l => modR l []) (readE b).1 = some o) → fileO o = (b, 0) → readO (fun l => modP l [] []) b = readO (fun l => modR l []) b := by
    intro o ho hf
    have hw : ObjWf o := ho.elim (hP o) (hR o)
    obtain ⟨r1, r2⟩ := read_obj hw hf
    rw [r1, r2]
  by_cases hk : ∃ o, (secsO (fun l => modP l [] []) (readE b).1 = some o ∨ secsO (fun l => modR l []) (readE b).1 = some o) ∧ fileO o = (b, 0)
  · obtain ⟨o, h1, h2⟩ := hk; exact key o h1 h2
  · have hno : ∀ md, (∀ o, secsO md (readE b).1 = some o → fileO o ≠ (b, 0)) → readO md b = (objNo, 4) := by
      intro md h
      unfold readO
      rw [if_neg h0]
      cases hs : secsO md (readE b).1 with
      | none => rfl
      | some o => dsimp only; rw [if_neg (h o hs)]
    rw [hno _ fun o ho hf => hk ⟨o, .inl ho, hf⟩, hno _ fun o ho hf => hk ⟨o, .inr ho, hf⟩]
end Go.Proofs.YtimnbnomaajmmaaGreat
namespace Go.Proofs.YtimnbnomaajmmaaGreat
open Go.RowKit Go.Fd
theorem refPart_any (p : PartM) (dv0 rv av : Value) (A : List (PartM × Value × Value)) (w : World) (hd : Bs w dv0 p.data) (hv : RdR 6 encPart w av A) (hnl : p.name.length ≤ 9223372036854775807) (hfl : p.flags.length ≤ 9223372036854775807) (hcm : p.data.length ≤ 9223372036854775807) (hal : A.length ≤ 1000) :
    Calls Tryz.prog 79 #[partV (p, dv0, rv), av] w fun e w' => e = .returned (.int .i64 (partE p (decide (p.name ∈ A.map (·.1.name))))) ∧ Below w.heap.size w w' := by
  cases hn : namedF p.name with
  | true => exact refPart_ok p dv0 rv av A w hd hv hnl hfl hcm hal hn
  | false =>
    refine (refPart_name p dv0 rv av A w hv hnl hn).mono fun e w' h => ⟨?_, h.2⟩
    rw [h.1]
    unfold partE
    rw [if_pos hn]
/-- What memory holds of a module. -/
structure ObjAt (w : World) (o : ObjM) (L : List (PartM × Value × Value)) (pv sv : Value) : Prop where
  parts : o.parts = L.map (·.1)
  rd : RdR 6 encPart w pv L
  data : ∀ p ∈ L, Bs w p.2.1 p.1.data
  rela : ∀ p ∈ L, RdR 4 encRela w p.2.2 p.1.relas
  syms : RdR 6 encSym w sv o.syms
theorem ObjAt.mono {w w' : World} {o : ObjM} {L : List (PartM × Value × Value)} {pv sv : Value} (h : ObjAt w o L pv sv) (hb : Below w.heap.size w w') : ObjAt w' o L pv sv :=
  ⟨h.parts, h.rd.mono hb, fun p hp => (h.data p hp).mono hb, fun p hp => (h.rela p hp).mono hb, h.syms.mono hb⟩
/-- What is asked of a module, so that no number in a walk is too great. -/
structure ObjOk (o : ObjM) : Prop where
  wf : ObjWf o
  many : o.parts.length ≤ 1000
  names : ∀ p ∈ o.parts, p.name.length ≤ 9223372036854775807 ∧ p.flags.length ≤ 9223372036854775807
  data : ∀ p ∈ o.parts, p.data.length ≤ 1000000
  syms : ∀ s ∈ o.syms, s.name.length ≤ 9223372036854775807
abbrev objV (o : ObjM) (pv sv : Value) : Value := .agg #[.int .i64 o.target, pv, sv]
theorem obj_box {w : World} {g : Nat} {t : Int} {pv sv : Value} {ty : TypeId} {fr : Nat × Nat} (h : w.heap[g]? = some (.cells #[.int .i64 t, pv, sv] ty fr)) :
    w.cell? ⟨g, 0, none⟩ = some (.int .i64 t) ∧ w.cell? ⟨g, 1, none⟩ = some pv ∧ w.cell? ⟨g, 2, none⟩ = some sv :=
  ⟨cell_rec h 0, cell_rec h 1, cell_rec h 2⟩
/-- One cell of a block that was made: a number. -/
theorem wpList_setN {P : Program} {ops : Array Oper} {rest : List Oper} {Q : Exit → Act → World → Prop} {a : Act} {w : World} {d : Option Tmp} {ty t tb : TypeId} {pos : String} {aft : Array Edge} {p x : Operand} {c : Array Value} {g j base : Nat} {k : IntKind} {n : Int} (hg : w.heap[g]? = some (.cells c tb (0, 0))) (hj : j < c.size) (hp : a.eval p = .pointer (some ⟨g, j, none⟩)) (hx : a.eval x = .int k n) (hB : base ≤ g) (hBw : base ≤ w.heap.size) (hs : ∀ w, (sizeOf t).run P w = .ok 1 w)
    (h : ∀ w1, w1.heap[g]? = some (.cells (c.setIfInBounds j (.int k n)) tb (0, 0)) → Below base w w1 → Stirs (fun k => k = g) w w1 → wpList P ops Q rest (a.put d undef) w1) :
    wpList P ops Q (⟨d, .store t p x, ty, pos, aft, none⟩ :: rest) a w := by
  have hc : w.cell? ⟨g, j, none⟩ = some c[j] := (cell_rec hg j).trans (Array.getElem?_eq_getElem hj)
  have hfz := free_rec' hg j
  have hst : Stirs (fun k => k = g) w (w.setCell ⟨g, j, none⟩ (.int k n)) := stirs_setCell (S := fun k => k = g) _ g j _ rfl
  refine wpList_did (w' := w.setCell ⟨g, j, none⟩ (.int k n)) rfl ?_ (h _ ?_ ?_ hst)
  · simp only [execOp, hp, hx]
    simp [go_sem, hs, hc, hfz]
  · simp [World.setCell, Array.getElem?_modify, hg]
  · exact hst.below hBw (fun k hk => by rw [hk]; exact hB)
set_option maxHeartbeats 4000000 in
set_option maxRecDepth 100000 in
theorem section6_any (p : PartM) (dv rv : Value) (w : World) (hd : Bs w dv p.data) :
    Calls Tryz.prog 21 #[partV (p, dv, rv)] w fun e w' => e = .returned (secV (secPart p, dv)) ∧ Below w.heap.size w w' := by
  have HBI := Lib.hid (fun w => bits6_any p.flags w)
  have HHA := Lib.hid (fun w => has_any p.flags 110 w)
  have HS : Hid (secPart p = ⟨p.name, if hasF p.flags 110 then 8 else 1, bitsN p.flags, 0, u64of p.align, u64of p.size, 0, 0, 0, p.data⟩) := rfl
  have hu1 := u64of_cast p.align
  have hu2 := u64of_cast p.size
  obtain ⟨m, a, cap, hm, rfl, hmc, _⟩ := hd.shape
  generalize secPart p = sp at *
  generalize bitsN p.flags = bn at *
  generalize hasF p.flags 110 = hf at *
  generalize u64of p.align = ua at *
  generalize u64of p.size = us at *
  obtain ⟨name, flags, align, size, data, relas⟩ := p
  dsimp only at *
  clear hd
  go_enter Tryz.func21, Tryz.ntmps21
  go_wp2_with (first
    | ((with_reducible show wpList _ _ _ (⟨some 1, .box _ _, _, _, _, _⟩ :: _) _ _); go_must (refine wpList_box rfl ?_; intro w1 hx1 hb1 hs1; have HX1 := Lib.hid hx1; have HB1 := Lib.hid hb1; clear hx1 hb1))
    | ((with_reducible show wpList _ _ _ (⟨some 2, .alloc _, _, _, _, _⟩ :: _) _ _); go_must (refine wpList_allocSec ?_; intro w2 hx2 hb2 hs2; have HX2 := Lib.hid hx2; have HX12 := Lib.hid (heap_below hb2 HX1.out); have HB2 := Lib.hid (HB1.out.trans (hb2.mono HB1.out.size)); clear hx2 hb2)))
  obtain ⟨c0, c1, c2, c3, c4, c5⟩ := part_box (x := (⟨name, flags, align, size, data, relas⟩, Value.slice a m cap, rv)) HX12.out
  have hAB := fun (x : Above w2) (b k : Nat) (h : b < w2.heap.size) => Above.cell x b k h
  have l0 := block_lt c0
  refine wp_region_walk 15 [(4, .is (.int .u64 (bn : Int))), (14, Yld.new w2.heap.size 60 10)] (by kernel_rfl) (by kernel_rfl) ?_
  simp only [List.take_succ_cons, List.take_zero, List.drop_succ_cons, List.drop_zero]
  repeat (refine walk_quiet rfl rfl rfl ?_; intro K hK; go_big_quiet_op; go_big_quiet_on)
  refine walk_is rfl rfl (fun wx hwx _ => WpYld.callIsB (run_callL (vals := [S flags]) Tryz.func44 (by kernel_rfl) rfl rfl) (HBI.out wx)) ?_
  go_frame
  repeat (refine walk_quiet rfl rfl rfl ?_; intro K hK; go_big_quiet_op; go_big_quiet_on)
  refine walk_new rfl rfl (fun wx hwx _ => WpYld.val run_allocSec (Yld.new_mk _ hwx).1 (Yld.new_mk _ hwx).2) (fun gb => ?_)
  go_frame
  refine walk_nil ?_
  intro wz hbz hF
  obtain ⟨hgb, cs, hcs, hcn⟩ := Yld.new_got (hF 14 _ 3 _ rfl rfl rfl rfl)
  clear hF hAB c0 c1 c2 c3 c4 c5
  refine wpList_storeMade hcs rfl rfl (by kernel_rfl) (by rw [hcn]; rfl) (by simp [Value.oneCell']) hgb hbz.size ?_
  intro w3 hh3 hb3
  clear hcs hcn
  have HH3 := Lib.hid hh3
  have h12 : w1.heap.size ≤ w2.heap.size := Nat.le_of_lt hs2
  have HX13 := Lib.hid (heap_base hb3 (heap_below hbz HX12.out) l0)
  have HX23 := Lib.hid (heap_base hb3 (heap_below hbz HX2.out) hs2)
  have HB23 := Lib.hid (hbz.trans hb3)
  have HB3 := Lib.hid (HB2.out.trans (HB23.out.mono HB2.out.size))
  have h3 := HB23.out.size
  clear hh3 hb3 hbz
  obtain ⟨c0, c1, c2, c3, c4, c5⟩ := part_box (x := (⟨name, flags, align, size, data, relas⟩, Value.slice a m cap, rv)) HX13.out
  obtain ⟨z0, z1, z2, z3, z4, z5, z6, z7, z8, z9⟩ := sec_box (x := (⟨name, 1, bn, 0, ua, us, 0, 0, 0, data⟩, Value.slice a m cap)) HH3.out
  cases hf with
  | false =>
    go_wp2_with (first
      | (go_at_call 45; refine (HHA.out _).mono ?_; rintro e w4 ⟨rfl, rfl⟩)
      | ((with_reducible show wpList _ _ _ (⟨none, .store _ (.tmp 2) _, _, _, _, _⟩ :: _) _ _); go_must (refine wpList_storeMade HX23.out rfl rfl (by kernel_rfl) rfl (by simp [Value.oneCell']) HB1.out.size HB3.out.size ?_; intro w6 hh6 hb6; have HH6 := Lib.hid hh6; have HB6 := Lib.hid (HB3.out.trans hb6); clear hh6 hb6)))
    refine bodyPost_ret (results_cell_row rfl _ _ w1.heap.size _ _ _ _ rfl HH6.out rfl rfl (by kernel_rfl)) rfl ⟨?_, HB6.out⟩
    rw [HS.out]
    rfl
  | true =>
    go_wp2_with (first
      | (go_at_call 45; refine (HHA.out _).mono ?_; rintro e w4 ⟨rfl, rfl⟩)
      | ((with_reducible show wpList _ _ _ (⟨none, .store _ (.tmp 21) _, _, _, _, _⟩ :: _) _ _); go_must (refine wpList_setN HH3.out (show 1 < 10 by decide) rfl rfl hgb h3 (fun w => by kernel_rfl) ?_; intro w5 hh5 hb5 hs5; have HH5 := Lib.hid (show w5.heap[gb]? = some (.cells #[.string ⟨name.toArray⟩, .int .u32 8, .int .u64 (bn : Int), .int .u64 0, .int .u64 (ua : Int), .int .u64 (us : Int), .int .u32 0, .int .u32 0, .int .u64 0, .slice a m cap] 60 (0, 0)) from hh5); obtain ⟨z0, z1, z2, z3, z4, z5, z6, z7, z8, z9⟩ := sec_box (x := (⟨name, 8, bn, 0, ua, us, 0, 0, 0, data⟩, Value.slice a m cap)) HH5.out; have HX25 := Lib.hid (heap_base hb5 HX23.out hs2); have HB5 := Lib.hid (HB3.out.trans (hb5.mono HB2.out.size)); clear hh5 hb5))
      | ((with_reducible show wpList _ _ _ (⟨none, .store _ (.tmp 2) _, _, _, _, _⟩ :: _) _ _); go_must (refine wpList_storeMade HX25.out rfl rfl (by kernel_rfl) rfl (by simp [Value.oneCell']) HB1.out.size HB5.out.size ?_; intro w6 hh6 hb6; have HH6 := Lib.hid hh6; have HB6 := Lib.hid (HB5.out.trans hb6); clear hh6 hb6)))
    refine bodyPost_ret (results_cell_row rfl _ _ w1.heap.size _ _ _ _ rfl HH6.out rfl rfl (by kernel_rfl)) rfl ⟨?_, HB6.out⟩
    rw [HS.out]
    rfl
end Go.Proofs.YtimnbnomaajmmaaGreat
namespace Go.Proofs.YtimnbnomaajmmaaGreat
open Go.RowKit Go.Fd
theorem TMB : KeyT Tryz.prog 66 9 4 S := ⟨by kernel_rfl, Maps.string_keyed (by kernel_rfl), fun a b h => by simpa [S] using h⟩
theorem zeroB (w : World) : (zeroValue 4).run Tryz.prog w = .ok (.bool false) w := by kernel_rfl
theorem keySL (s : List UInt8) (h : s.length ≤ 9223372036854775807) : ∃ l, keyOf Tryz.prog 9 (S s) = some l := ⟨_, Go.WideMaps.keyOf_string_mk (by kernel_rfl) (by rw [sizeS]; unfold maxLen; omega)⟩
abbrev seenE {κ : Type} (T : List κ) : List (κ × Value) := T.map fun n => (n, Value.bool true)
theorem seen_keys {κ : Type} (T : List κ) : (seenE T).map (·.1) = T := by
  rw [List.map_map]
  exact List.map_id T
theorem look_seen {κ : Type} [DecidableEq κ] (T : List κ) (n : κ) : lookV false (.bool false) ((seenE T).lookup n) = .bool (decide (n ∈ T)) := by
  by_cases h : n ∈ T
  · rw [decide_eq_true h]
    obtain ⟨v, hv⟩ := lookup_key.2 (show n ∈ (seenE T).map (·.1) by rw [seen_keys]; exact h)
    have := lookup_mem hv
    rw [List.mem_map] at this
    obtain ⟨x, -, hx⟩ := this
    cases hx
    rw [hv]
    rfl
  · rw [decide_eq_false h, lookup_none_of (show n ∉ (seenE T).map (·.1) by rw [seen_keys]; exact h)]
    rfl
theorem put_seen {κ : Type} [DecidableEq κ] {T : List κ} {n : κ} (h : n ∉ T) : putE (seenE T) n (.bool true) = seenE (T ++ [n]) := by
  unfold putE
  rw [if_neg (by rw [seen_keys]; exact h)]
  simp
def namesK (L : List (PartM × Value × Value)) (k : Nat) : List (List UInt8) := (L.take k).map (·.1.name)
theorem names_succ {L : List (PartM × Value × Value)} {k : Nat} {x : PartM × Value × Value} (h : L[k]? = some x) : namesK L (k + 1) = namesK L k ++ [x.1.name] := by
  unfold namesK
  rw [List.take_add_one, h]
  simp
theorem drop_get {α : Type} {l : List α} {k : Nat} {x : α} (h : l[k]? = some x) : l.drop k = x :: l.drop (k + 1) := by
  obtain ⟨h1, h2⟩ := List.getElem?_eq_some_iff.1 h
  rw [List.drop_eq_getElem_cons h1, h2]
def restK (L : List (PartM × Value × Value)) (k : Nat) : Int := partsE ((L.drop k).map (·.1)) (namesK L k)
theorem restK_step {L : List (PartM × Value × Value)} {k : Nat} {x : PartM × Value × Value} (h : L[k]? = some x) : restK L k = if partE x.1 (decide (x.1.name ∈ namesK L k)) = 0 then restK L (k + 1) else partE x.1 (decide (x.1.name ∈ namesK L k)) := by
  unfold restK
  rw [drop_get h, List.map_cons, partsE, names_succ h]
theorem restK_end (L : List (PartM × Value × Value)) : restK L L.length = 0 := by
  unfold restK
  rw [List.drop_length]
  rfl
def firstK {α : Type} (f : α → Int) (l : List α) (k : Nat) : Int := firstE f (l.drop k)
theorem firstK_step {α : Type} {f : α → Int} {l : List α} {k : Nat} {x : α} (h : l[k]? = some x) : firstK f l k = if f x = 0 then firstK f l (k + 1) else f x := by
  unfold firstK
  rw [drop_get h, firstE]
theorem firstK_end {α : Type} (f : α → Int) (l : List α) : firstK f l l.length = 0 := by
  unfold firstK
  rw [List.drop_length]
  rfl
abbrev partZ : Array Value := #[.string ⟨#[]⟩, .string ⟨#[]⟩, .int .i64 0, .int .i64 0, .slice none 0 0, .slice none 0 0]
theorem sym_cells {w wr : World} {a : Option Addr} {l : List SymM} {x : SymM} {k : Nat}
    (hc : ∀ i x, l[i]? = some x → 0 < 6 → ∃ b off, a = some ⟨b, off, none⟩ ∧ ∀ c, c < 6 → w.cell? ⟨b, off + (i * 6 + c), none⟩ = (encSym x)[c]?) (hb : Below w.heap.size w wr) (hk : l[k]? = some x) :
    ∃ b o, a = some ⟨b, o, none⟩ ∧ wr.cell? ⟨b, o + k * 6, none⟩ = some (.string ⟨x.name.toArray⟩) ∧ wr.cell? ⟨b, o + k * 6 + 1, none⟩ = some (.int .i64 x.bind) ∧ wr.cell? ⟨b, o + k * 6 + 2, none⟩ = some (.int .i64 x.typ) ∧ wr.cell? ⟨b, o + k * 6 + 3, none⟩ = some (.int .i64 x.sec) ∧ wr.cell? ⟨b, o + k * 6 + 4, none⟩ = some (.int .u64 (x.value : Int)) ∧ wr.cell? ⟨b, o + k * 6 + 5, none⟩ = some (.int .u64 (x.size : Int)) ∧ b < w.heap.size := by
  obtain ⟨b, o, ha, hcc⟩ := hc k x hk (by decide)
  have hd : ∀ c v, (encSym x)[c]? = some v → wr.cell? ⟨b, o + k * 6 + c, none⟩ = some v := fun c v h => by
    have h6 : c < 6 := (List.getElem?_eq_some_iff.1 h).1
    have := (hcc c h6).trans h
    rw [← Nat.add_assoc] at this
    exact (hb.cell (block_lt this)).trans this
  have h0 : b < w.heap.size := block_lt ((hcc 0 (by decide)).trans rfl)
  exact ⟨b, o, ha, hd 0 _ rfl, hd 1 _ rfl, hd 2 _ rfl, hd 3 _ rfl, hd 4 _ rfl, hd 5 _ rfl, h0⟩
theorem rela_cells {w wr : World} {a : Option Addr} {l : List RelaM} {x : RelaM} {k : Nat}
    (hc : ∀ i x, l[i]? = some x → 0 < 4 → ∃ b off, a = some ⟨b, off, none⟩ ∧ ∀ c, c < 4 → w.cell? ⟨b, off + (i * 4 + c), none⟩ = (encRela x)[c]?) (hb : Below w.heap.size w wr) (hk : l[k]? = some x) :
    ∃ b o, a = some ⟨b, o, none⟩ ∧ wr.cell? ⟨b, o + k * 4, none⟩ = some (.int .u64 (x.off : Int)) ∧ wr.cell? ⟨b, o + k * 4 + 1, none⟩ = some (.int .i64 x.typ) ∧ wr.cell? ⟨b, o + k * 4 + 2, none⟩ = some (.int .i64 x.sym) ∧ wr.cell? ⟨b, o + k * 4 + 3, none⟩ = some (.int .i64 x.add) ∧ b < w.heap.size := by
  obtain ⟨b, o, ha, hcc⟩ := hc k x hk (by decide)
  have hd : ∀ c v, (encRela x)[c]? = some v → wr.cell? ⟨b, o + k * 4 + c, none⟩ = some v := fun c v h => by
    have h6 : c < 4 := (List.getElem?_eq_some_iff.1 h).1
    have := (hcc c h6).trans h
    rw [← Nat.add_assoc] at this
    exact (hb.cell (block_lt this)).trans this
  have h0 : b < w.heap.size := block_lt ((hcc 0 (by decide)).trans rfl)
  exact ⟨b, o, ha, hd 0 _ rfl, hd 1 _ rfl, hd 2 _ rfl, hd 3 _ rfl, h0⟩
set_option maxHeartbeats 8000000 in
set_option maxRecDepth 100000 in
theorem may6_any (o : ObjM) (L : List (PartM × Value × Value)) (pv sv : Value) (w : World) (h : ObjAt w o L pv sv) (ho : ObjOk o) :
    Calls Tryz.prog 13 #[objV o pv sv] w fun e w' => e = .returned (.int .i64 (mayO o)) ∧ Below w.heap.size w w' := by
  have HSW := Lib.hid (fun wx (hb : Below w.heap.size w wx) => symsWrite_any o.syms _ wx ho.wf.many ho.wf.syms (h.syms.mono hb))
  have HH := Lib.hid h
  obtain ⟨pa, pc, rfl, hpc, -, hP⟩ := h.rd.open (fun _ => rfl)
  obtain ⟨sa, sc, rfl, hsc, -, hS⟩ := h.syms.open (fun _ => rfl)
  have HP := Lib.hid hP
  have HS := Lib.hid hS
  have HME : Hid (mayO o = if o.target < 1 ∨ 3 < o.target then 11 else if 100 < o.parts.length ∨ 16384 < o.syms.length then 6 else if partsE o.parts [] ≠ 0 then partsE o.parts [] else if (symW o.syms).2.2.2 ≠ 0 then (symW o.syms).2.2.2 else if firstE (secE o.parts.length) o.syms ≠ 0 then firstE (secE o.parts.length) o.syms else firstE (fun p => firstE (relE o.syms.length p.size) p.relas) o.parts) := rfl
  have hpl : o.parts.length = L.length := by rw [h.parts, List.length_map]
  have HR0 : Hid (partsE o.parts [] = restK L 0) := by rw [h.parts]; rfl
  have HF0 : Hid (firstE (fun p => firstE (relE o.syms.length p.size) p.relas) o.parts = firstK (fun x => firstE (relE o.syms.length x.1.size) x.1.relas) L 0) := by
    rw [h.parts]
    show firstE _ (L.map (·.1)) = firstE _ L
    clear HSW HH hP hS HP HS HME h ho hpl HR0 hpc
    induction L with
    | nil => rfl
    | cons x L ih => rw [List.map_cons, firstE, firstE, ih]
  have HL9 : L.length ≤ 1000 := by rw [← hpl]; exact ho.many
  have HS9 : o.syms.length ≤ 1000 := ho.wf.many
  rw [hpl] at HME
  obtain ⟨np, hnp⟩ : ∃ n, n = L.length := ⟨_, rfl⟩
  obtain ⟨ns, hns⟩ : ∃ n, n = o.syms.length := ⟨_, rfl⟩
  rw [← hnp] at HME hpc HL9 ⊢
  rw [← hns] at HME hsc HS9 HF0 HSW ⊢
  have HNP := Lib.hid hnp
  have HNS := Lib.hid hns
  have HOK := Lib.hid ho
  have HL := Lib.hid h.parts
  obtain ⟨target, parts, syms⟩ := o
  dsimp only at *
  generalize mayO ⟨target, parts, syms⟩ = q at *
  clear h hP hS hpl hnp hns ho
  by_cases ht1 : target < 1
  · have HR := Lib.hid (show q = 11 by rw [HME.out, if_pos (.inl ht1)])
    go_enter Tryz.func13, Tryz.ntmps13
    go_wp2_with (first
      | ((with_reducible show wpList _ _ _ (⟨some 1, .box _ _, _, _, _, _⟩ :: _) _ _); go_must (refine wpList_box rfl ?_; intro w1 hx1 hb1 hs1; have HX1 := Lib.hid hx1; have HB1 := Lib.hid hb1; obtain ⟨c0, c1, c2⟩ := obj_box hx1; clear hx1 hb1)))
    go_ret
    exact ⟨by rw [HR.out]; rfl, HB1.out⟩
  by_cases ht2 : 3 < target
  · have HR := Lib.hid (show q = 11 by rw [HME.out, if_pos (.inr ht2)])
    go_enter Tryz.func13, Tryz.ntmps13
    go_wp2_with (first
      | ((with_reducible show wpList _ _ _ (⟨some 1, .box _ _, _, _, _, _⟩ :: _) _ _); go_must (refine wpList_box rfl ?_; intro w1 hx1 hb1 hs1; have HX1 := Lib.hid hx1; have HB1 := Lib.hid hb1; obtain ⟨c0, c1, c2⟩ := obj_box hx1; clear hx1 hb1)))
    go_ret
    exact ⟨by rw [HR.out]; rfl, HB1.out⟩
  by_cases hl1 : 100 < np
  · have HR := Lib.hid (show q = 6 by rw [HME.out, if_neg (by omega), if_pos (.inl hl1)])
    go_enter Tryz.func13, Tryz.ntmps13
    go_wp2_with (first
      | ((with_reducible show wpList _ _ _ (⟨some 1, .box _ _, _, _, _, _⟩ :: _) _ _); go_must (refine wpList_box rfl ?_; intro w1 hx1 hb1 hs1; have HX1 := Lib.hid hx1; have HB1 := Lib.hid hb1; obtain ⟨c0, c1, c2⟩ := obj_box hx1; clear hx1 hb1)))
    go_ret
    exact ⟨by rw [HR.out]; rfl, HB1.out⟩
  have HM1 := Lib.hid (show q = if partsE parts [] ≠ 0 then partsE parts [] else if (symW syms).2.2.2 ≠ 0 then (symW syms).2.2.2 else if firstE (secE np) syms ≠ 0 then firstE (secE np) syms else firstE (fun p => firstE (relE ns p.size) p.relas) parts by rw [HME.out, if_neg (by omega), if_neg (by omega)])
  clear HME
  have hmm := @run_makeMap Tryz.prog
  go_enter Tryz.func13, Tryz.ntmps13
  go_wp2_with (first
    | ((with_reducible show wpList _ _ _ (⟨some 1, .box _ _, _, _, _, _⟩ :: _) _ _); go_must (refine wpList_box rfl ?_; intro w1 hx1 hb1 hs1; have HX1 := Lib.hid hx1; have HB1 := Lib.hid hb1; have HMD := Lib.hid (MapIs.made (P := Tryz.prog) (k := 9) (mk := S) w1); have HX2 := Lib.hid (heap_below (below_alloc w1 (.map #[] 0)) hx1); have HB2 := Lib.hid (hb1.trans ((below_alloc w1 (.map #[] 0)).mono hb1.size)); obtain ⟨c0, c1, c2⟩ := obj_box HX2.out; obtain ⟨c0, c1, c2⟩ := obj_box hx1; clear hx1 hb1)))
  go_loopw [42] (fun i wr => ∃ k : Nat, i = .int .i64 k ∧ k ≤ np ∧ Hid (partsE parts [] = restK L k) ∧ Hid (MapIs Tryz.prog 9 S wr w1.heap.size (seenE (namesK L k))) ∧ Hid (Below w1.heap.size w1 wr) ∧ w1.heap.size < wr.heap.size) (fun i _ => np - (intOf i).toNat)
  case atStart => exact ⟨0, rfl, Nat.zero_le _, HR0, HMD.out, below_alloc w1 _, by rw [World.size_alloc]; omega⟩
  case round =>
    obtain ⟨k, rfl, hk, HPE, HMP, HW, hsw⟩ := hrel
    have HB := Lib.hid (HB1.out.trans (HW.out.mono HB1.out.size))
    have HXr := Lib.hid (heap_below HW.out HX1.out)
    obtain ⟨c0, c1, c2⟩ := obj_box HXr.out
    by_cases hlt : k < np
    · obtain ⟨x, hx⟩ : ∃ x, L[k]? = some x := ⟨_, List.getElem?_eq_getElem (by have := HNP.out; omega)⟩
      obtain ⟨b, o, rfl, e0, e1, e2, e3, e4, e5, hb0⟩ := part_cells HP.out HB.out hx
      have HX := Lib.hid hx
      have hmem : x.1 ∈ parts := by rw [HL.out]; exact List.mem_map.2 ⟨x, List.mem_of_getElem? hx, rfl⟩
      have hnm := HOK.out.names x.1 hmem
      have HRS := Lib.hid (restK_step hx)
      have HNA := Lib.hid (names_succ hx)
      obtain ⟨l, hkl⟩ := keySL x.1.name hnm.1
      have HLK : Hid (lookV false (.bool false) (@List.lookup _ _ instBEqOfDecidableEq x.1.name (seenE (namesK L k))) = .bool (decide (x.1.name ∈ namesK L k))) := Lib.hid ((look_seen (namesK L k) x.1.name).trans (congrArg Value.bool (decide_eq_decide.2 Iff.rfl)))
      have HPT := Lib.hid (fun there wx (hb : Below w.heap.size w wx) => part6_any x.1 there x.2.1 x.2.2 wx ((HH.out.data x (List.mem_of_getElem? hx)).mono hb) (by have := HOK.out.data _ hmem; omega) (by omega))
      have HPS := Lib.hid (put_seen (T := namesK L k) (n := x.1.name))
      have HLA := Lib.hid (show (seenE (namesK L k)).length < maxLen by unfold maxLen namesK; rw [List.length_map, List.length_map, List.length_take]; omega)
      have HTRU : Hid (x.1.name ∈ namesK L k → partE x.1 (decide (x.1.name ∈ namesK L k)) ≠ 0) := Lib.hid (fun hm h0 => by
        have := (partE_0 h0).2.1
        rw [decide_eq_true hm] at this
        cases this)
      have hbs := HB.out.size
      obtain ⟨md, ad, cd, -, hdv, -, -⟩ := (HH.out.data x (List.mem_of_getElem? hx)).shape
      obtain ⟨mr, ar, cr, -, hrv, -, -⟩ := (HH.out.rela x (List.mem_of_getElem? hx)).shape
      obtain ⟨⟨name, flags, align, size, data, relas⟩, dv, rv⟩ := x
      dsimp only at *
      subst hdv hrv
      clear hx hmem hnm
      generalize hth : decide (name ∈ namesK L k) = there at *
      have HTH := Lib.hid hth
      clear hth
      generalize hpe : partE ⟨name, flags, align, size, data, relas⟩ there = pe at *
      have HPT2 := Lib.hid (fun wx (hb : Below w.heap.size w wx) => HPT.out there wx hb)
      rw [hpe] at HPT2
      clear HPT
      by_cases hp0 : pe = 0
      · subst hp0
        have hno : name ∉ namesK L k := fun hm => HTRU.out hm rfl
        have HPS2 := Lib.hid (HPS.out hno)
        have HR1 := Lib.hid (show partsE parts [] = restK L (k + 1) by rw [HPE.out, HRS.out, if_pos rfl])
        clear hno HPS HTRU HRS hpe
        go_wp2_with (first
          | ((with_reducible show wpList _ _ _ (⟨none, .store _ (.tmp 5) _, _, _, _, _⟩ :: _) _ _); go_must (refine wpList_storeNew rfl rfl (by kernel_rfl) rfl (by simp [Value.oneCell']) ?_; intro w2 hh2 hb2; have HH2 := Lib.hid hh2; have HM2 := Lib.hid (HMP.out.mono hb2); have HBB2 := Lib.hid (HW.out.trans (hb2.mono (Nat.le_of_lt hsw))); have hs2 := hb2.size; obtain ⟨d0, d1, d2, d3, d4, d5⟩ := part_box (x := (⟨name, flags, align, size, data, relas⟩, .slice ad md cd, .slice ar mr cr)) hh2; clear hh2 hb2))
          | ((with_reducible show wpList _ _ _ (⟨some 50, _, _, _, _, _⟩ :: _) _ _); go_must (refine wpList_lookM TMB HM2.out (zeroB _) hkl HLK.out rfl rfl ?_))
          | (go_at_call 25; refine (HPT2.out _ (HB1.out.trans (HBB2.out.mono HB1.out.size))).mono ?_; rintro e w3 ⟨rfl, hb3⟩; have HM3 := Lib.hid (HM2.out.mono hb3); have HBB3 := Lib.hid (HBB2.out.trans (hb3.mono HBB2.out.size)); have hs3 := hb3.size; obtain ⟨d0, d1, d2, d3, d4, d5⟩ := part_box (x := (⟨name, flags, align, size, data, relas⟩, .slice ad md cd, .slice ar mr cr)) (heap_below hb3 HH2.out); clear hb3)
          | (at_mapUpdate; go_must (refine wpList_storeM TMB HM3.out HLA.out (key := name) (val := .bool true) hkl rfl rfl rfl ?_; intro w4 hm4 hg4 hs4; rw [HPS2.out, ← HNA.out] at hm4; have HM4 := Lib.hid hm4; have HBB4 := Lib.hid (HBB3.out.trans (below_of_grown (B := w1.heap.size) hg4 HBB3.out.size (fun q hq => by cases hq; omega))); clear hm4 hg4)))
        exact ⟨⟨k + 1, rfl, by omega, HR1.out, HM4.out, HBB4.out, by omega⟩, by simp [intOf]; omega⟩
      · have HR1 := Lib.hid (show q = pe by rw [HM1.out, HPE.out, HRS.out, if_neg hp0, if_pos hp0])
        have hpb : (pe != 0) = true := bne_iff_ne.2 hp0
        clear hp0 hpe
        go_wp2_with (first
          | ((with_reducible show wpList _ _ _ (⟨none, .store _ (.tmp 5) _, _, _, _, _⟩ :: _) _ _); go_must (refine wpList_storeNew rfl rfl (by kernel_rfl) rfl (by simp [Value.oneCell']) ?_; intro w2 hh2 hb2; have HH2 := Lib.hid hh2; have HM2 := Lib.hid (HMP.out.mono hb2); have HBB2 := Lib.hid (HW.out.trans (hb2.mono (Nat.le_of_lt hsw))); have hs2 := hb2.size; obtain ⟨d0, d1, d2, d3, d4, d5⟩ := part_box (x := (⟨name, flags, align, size, data, relas⟩, .slice ad md cd, .slice ar mr cr)) hh2; clear hh2 hb2))
          | ((with_reducible show wpList _ _ _ (⟨some 50, _, _, _, _, _⟩ :: _) _ _); go_must (refine wpList_lookM TMB HM2.out (zeroB _) hkl HLK.out rfl rfl ?_))
          | (go_at_call 25; refine (HPT2.out _ (HB1.out.trans (HBB2.out.mono HB1.out.size))).mono ?_; rintro e w3 ⟨rfl, hb3⟩; have HBB3 := Lib.hid (HBB2.out.trans (hb3.mono HBB2.out.size)); clear hb3))
        go_ret
        exact ⟨by rw [HR1.out]; rfl, HB1.out.trans (HBB3.out.mono HB1.out.size)⟩
    · obtain rfl : k = np := by omega
      have HM2 := Lib.hid (show q = if (symW syms).2.2.2 ≠ 0 then (symW syms).2.2.2 else if firstE (secE k) syms ≠ 0 then firstE (secE k) syms else firstE (fun p => firstE (relE ns p.size) p.relas) parts by
        have h0 : restK L k = 0 := by rw [HNP.out]; exact restK_end L
        rw [HM1.out, HPE.out, h0, if_neg (by simp)])
      clear HM1 HPE HR0
      generalize (symW syms).2.2.2 = se at *
      by_cases hs0 : se = 0
      · subst hs0
        have HM3 := Lib.hid (show q = if firstE (secE k) syms ≠ 0 then firstE (secE k) syms else firstE (fun p => firstE (relE ns p.size) p.relas) parts by rw [HM2.out, if_neg (by simp)])
        clear HM2
        have hbs := HB.out.size
        go_wp2_with (go_at_call 23; refine (HSW.out _ HB.out).mono ?_; rintro e w5 ⟨v1, v2, rfl, -, -, hb5, -⟩; have HX5 := Lib.hid (heap_below hb5 HXr.out); have HB5 := Lib.hid (HB.out.trans (hb5.mono hbs)); obtain ⟨c0, c1, c2⟩ := obj_box HX5.out; clear hb5)
        clear HSW HMP HW HXr HMD HX1 HX2 HB2
        go_loopw [73] (fun i wr => ∃ j : Nat, i = .int .i64 j ∧ j ≤ ns ∧ Hid (firstE (secE k) syms = firstK (secE k) syms j) ∧ Hid (Below w5.heap.size w5 wr)) (fun i _ => ns - (intOf i).toNat)
        case atStart => exact ⟨0, rfl, Nat.zero_le _, rfl, Below.refl _ _⟩
        case round =>
          obtain ⟨j, rfl, hj, HFE, HWj⟩ := hrel
          have HBj := Lib.hid (HB5.out.trans (HWj.out.mono HB5.out.size))
          have HXj := Lib.hid (heap_below HWj.out HX5.out)
          obtain ⟨c0, c1, c2⟩ := obj_box HXj.out
          have hsj := HWj.out.size
          by_cases hlt2 : j < ns
          · obtain ⟨x, hx⟩ : ∃ x, syms[j]? = some x := ⟨_, List.getElem?_eq_getElem (by have := HNS.out; omega)⟩
            obtain ⟨b, o, rfl, e0, e1, e2, e3, e4, e5, hb0⟩ := sym_cells HS.out HBj.out hx
            have HFS := Lib.hid (firstK_step (f := secE k) hx)
            have HSE : Hid (secE k x = if (k : Int) < x.sec ∧ x.sec ≠ 65521 ∧ x.sec ≠ 65522 then 15 else 0) := rfl
            obtain ⟨name, bind, typ, sec, value, size⟩ := x
            dsimp only at *
            clear hx
            by_cases hbad : (k : Int) < sec ∧ sec ≠ 65521 ∧ sec ≠ 65522
            · have HR1 := Lib.hid (show q = 15 by
                have h1 : firstE (secE k) syms = 15 := by rw [HFE.out, HFS.out, HSE.out, if_pos hbad]; rfl
                rw [HM3.out, h1]; rfl)
              obtain ⟨g1, g2, g3⟩ := hbad
              have t2 : (sec != 65521) = true := bne_iff_ne.2 g2
              have t3 : (sec != 65522) = true := bne_iff_ne.2 g3
              clear HM3 HFE HFS HSE
              go_wp2_with (first
                | ((with_reducible show wpList _ _ _ (⟨none, .store _ (.tmp 12) _, _, _, _, _⟩ :: _) _ _); go_must (refine wpList_storeNew rfl rfl (by kernel_rfl) rfl (by simp [Value.oneCell']) ?_; intro w6 hh6 hb6; have HB6 := Lib.hid (HBj.out.trans (hb6.mono HBj.out.size)); obtain ⟨c0, c1, c2⟩ := obj_box (heap_below hb6 HXj.out); have d3 := cell_rec hh6 3; simp only [List.getElem?_toArray, List.getElem?_cons_succ, List.getElem?_cons_zero] at d3; clear hh6 hb6)))
              go_ret
              exact ⟨by rw [HR1.out]; rfl, HB6.out⟩
            · have HN1 := Lib.hid (show firstE (secE k) syms = firstK (secE k) syms (j + 1) by rw [HFE.out, HFS.out, HSE.out, if_neg hbad, if_pos rfl])
              have HBAD := Lib.hid hbad
              clear HFE HFS HSE hbad
              by_cases g1 : (k : Int) < sec
              · by_cases g2 : sec = 65521
                · have t2 : (sec != 65521) = false := by rw [g2]; rfl
                  clear g2
                  go_wp2_with (first
                    | ((with_reducible show wpList _ _ _ (⟨none, .store _ (.tmp 12) _, _, _, _, _⟩ :: _) _ _); go_must (refine wpList_storeNew rfl rfl (by kernel_rfl) rfl (by simp [Value.oneCell']) ?_; intro w6 hh6 hb6; have HB6 := Lib.hid (HWj.out.trans (hb6.mono HWj.out.size)); obtain ⟨c0, c1, c2⟩ := obj_box (heap_below hb6 HXj.out); have d3 := cell_rec hh6 3; simp only [List.getElem?_toArray, List.getElem?_cons_succ, List.getElem?_cons_zero] at d3; clear hh6 hb6)))
                  exact ⟨⟨j + 1, rfl, by omega, HN1.out, HB6.out⟩, by simp [intOf]; omega⟩
                · have g3 : sec = 65522 := by
                    rcases Classical.em (sec = 65522) with h | h
                    · exact h
                    · exact absurd ⟨g1, g2, h⟩ HBAD.out
                  have t2 : (sec != 65521) = true := bne_iff_ne.2 g2
                  have t3 : (sec != 65522) = false := by rw [g3]; rfl
                  clear g2 g3
                  go_wp2_with (first
                    | ((with_reducible show wpList _ _ _ (⟨none, .store _ (.tmp 12) _, _, _, _, _⟩ :: _) _ _); go_must (refine wpList_storeNew rfl rfl (by kernel_rfl) rfl (by simp [Value.oneCell']) ?_; intro w6 hh6 hb6; have HB6 := Lib.hid (HWj.out.trans (hb6.mono HWj.out.size)); obtain ⟨c0, c1, c2⟩ := obj_box (heap_below hb6 HXj.out); have d3 := cell_rec hh6 3; simp only [List.getElem?_toArray, List.getElem?_cons_succ, List.getElem?_cons_zero] at d3; clear hh6 hb6)))
                  exact ⟨⟨j + 1, rfl, by omega, HN1.out, HB6.out⟩, by simp [intOf]; omega⟩
              · go_wp2_with (first
                  | ((with_reducible show wpList _ _ _ (⟨none, .store _ (.tmp 12) _, _, _, _, _⟩ :: _) _ _); go_must (refine wpList_storeNew rfl rfl (by kernel_rfl) rfl (by simp [Value.oneCell']) ?_; intro w6 hh6 hb6; have HB6 := Lib.hid (HWj.out.trans (hb6.mono HWj.out.size)); obtain ⟨c0, c1, c2⟩ := obj_box (heap_below hb6 HXj.out); have d3 := cell_rec hh6 3; simp only [List.getElem?_toArray, List.getElem?_cons_succ, List.getElem?_cons_zero] at d3; clear hh6 hb6)))
                exact ⟨⟨j + 1, rfl, by omega, HN1.out, HB6.out⟩, by simp [intOf]; omega⟩
          · obtain rfl : j = ns := by omega
            have HM4 := Lib.hid (show q = firstK (fun x => firstE (relE j x.1.size) x.1.relas) L 0 by
              have h0 : firstK (secE k) syms j = 0 := by rw [HNS.out]; exact firstK_end _ _
              rw [HM3.out, HFE.out, h0, if_neg (by simp), HF0.out])
            clear HM3 HFE HF0
            go_wp2
            go_loopw [97] (fun i wr => ∃ n : Nat, i = .int .i64 n ∧ n ≤ k ∧ Hid (q = firstK (fun x => firstE (relE j x.1.size) x.1.relas) L n) ∧ Hid (Below w5.heap.size w5 wr)) (fun i _ => k - (intOf i).toNat)
            case atStart => exact ⟨0, rfl, Nat.zero_le _, HM4.out, HWj.out⟩
            case round =>
              obtain ⟨n, rfl, hn, HQ, HWn⟩ := hrel
              have HBn := Lib.hid (HB5.out.trans (HWn.out.mono HB5.out.size))
              have HXn := Lib.hid (heap_below HWn.out HX5.out)
              obtain ⟨c0, c1, c2⟩ := obj_box HXn.out
              have hsn := HWn.out.size
              by_cases hlt3 : n < k
              · obtain ⟨x, hx⟩ : ∃ x, L[n]? = some x := ⟨_, List.getElem?_eq_getElem (by have := HNP.out; omega)⟩
                obtain ⟨b, o, rfl, e0, e1, e2, e3, e4, e5, hb0⟩ := part_cells HP.out HBn.out hx
                have hmem : x.1 ∈ parts := by rw [HL.out]; exact List.mem_map.2 ⟨x, List.mem_of_getElem? hx, rfl⟩
                have HFS := Lib.hid (firstK_step (f := fun x : PartM × Value × Value => firstE (relE j x.1.size) x.1.relas) hx)
                obtain ⟨md, ad, cd, -, hdv, -, -⟩ := (HH.out.data x (List.mem_of_getElem? hx)).shape
                obtain ⟨ar, cr, hrv, hrc, -, hR⟩ := (HH.out.rela x (List.mem_of_getElem? hx)).open (fun _ => rfl)
                have hrw := HOK.out.wf.relas x.1 hmem
                obtain ⟨mr, hmr⟩ : ∃ m, m = x.1.relas.length := ⟨_, rfl⟩
                rw [← hmr] at hrv hrc hrw
                have hmr9 := hrw.1
                have HOF := Lib.hid hrw.2
                have HMR := Lib.hid hmr
                have HRC := Lib.hid hR
                have HRL := Lib.hid (fun r wx (hr : r ∈ x.1.relas) => relocation6_any r x.1 (.slice ad md cd) (.slice ar mr cr) j wx (HOF.out r hr).1)
                obtain ⟨⟨name, flags, align, size, data, relas⟩, dv, rv⟩ := x
                dsimp only at *
                subst hdv hrv
                clear hx hmem hrw hmr hR
                go_wp2_with (first
                  | ((with_reducible show wpList _ _ _ (⟨none, .store _ (.tmp 14) _, _, _, _, _⟩ :: _) _ _); go_must (refine wpList_storeNew rfl rfl (by kernel_rfl) rfl (by simp [Value.oneCell']) ?_; intro w6 hh6 hb6; have HH6 := Lib.hid hh6; have HB6 := Lib.hid (HWn.out.trans (hb6.mono HWn.out.size)); have hs6 : wr.heap.size < w6.heap.size := block_lt (cell_rec hh6 0 |>.trans rfl); obtain ⟨c0, c1, c2⟩ := obj_box (heap_below hb6 HXn.out); obtain ⟨d0, d1, d2, d3, d4, d5⟩ := part_box (x := (⟨name, flags, align, size, data, relas⟩, .slice ad md cd, .slice ar mr cr)) hh6; clear hh6 hb6)))
                go_loopw [104] (fun i wr => ∃ m : Nat, i = .int .i64 m ∧ m ≤ mr ∧ Hid (firstE (relE j size) relas = firstK (relE j size) relas m) ∧ Hid (Below w6.heap.size w6 wr)) (fun i _ => mr - (intOf i).toNat)
                case atStart => exact ⟨0, rfl, Nat.zero_le _, rfl, Below.refl _ _⟩
                case round =>
                  obtain ⟨m, rfl, hm, HFR, HWm⟩ := hrel
                  have HW6m := Lib.hid (HB6.out.trans (HWm.out.mono HB6.out.size))
                  have HBm := Lib.hid (HB5.out.trans (HW6m.out.mono HB5.out.size))
                  have HXm := Lib.hid (heap_below HW6m.out HX5.out)
                  obtain ⟨c0, c1, c2⟩ := obj_box HXm.out
                  have HHm := Lib.hid (heap_below HWm.out HH6.out)
                  obtain ⟨d0, d1, d2, d3, d4, d5⟩ := part_box (x := (⟨name, flags, align, size, data, relas⟩, .slice ad md cd, .slice ar mr cr)) HHm.out
                  have hsm := HWm.out.size
                  by_cases hlt4 : m < mr
                  · obtain ⟨r, hr⟩ : ∃ r, relas[m]? = some r := ⟨_, List.getElem?_eq_getElem (by have := HMR.out; omega)⟩
                    obtain ⟨b', o', rfl, f0, f1, f2, f3, hb0'⟩ := rela_cells HRC.out HBm.out hr
                    have HRS := Lib.hid (firstK_step (f := relE j size) hr)
                    have HRLr := Lib.hid (fun wx => HRL.out r wx (List.mem_of_getElem? hr))
                    clear hr
                    obtain ⟨off, typ, sym, add⟩ := r
                    dsimp only at *
                    generalize relE j size ⟨off, typ, sym, add⟩ = re at *
                    by_cases hr0 : re = 0
                    · subst hr0
                      have HN1 := Lib.hid (show firstE (relE j size) relas = firstK (relE j size) relas (m + 1) by rw [HFR.out, HRS.out, if_pos rfl])
                      go_wp2_with (first
                        | ((with_reducible show wpList _ _ _ (⟨none, .store _ (.tmp 16) _, _, _, _, _⟩ :: _) _ _); go_must (refine wpList_storeNew rfl rfl (by kernel_rfl) rfl (by simp [Value.oneCell']) ?_; intro w7 hh7 hb7; have HB7 := Lib.hid (HWm.out.trans (hb7.mono HWm.out.size)); obtain ⟨c0, c1, c2⟩ := obj_box (heap_below hb7 HXm.out); obtain ⟨d0, d1, d2, d3, d4, d5⟩ := part_box (x := (⟨name, flags, align, size, data, relas⟩, .slice ad md cd, .slice (some ⟨b', o', none⟩) mr cr)) (heap_below hb7 HHm.out); have g0 := cell_rec hh7 0; have g1 := cell_rec hh7 1; have g2 := cell_rec hh7 2; have g3 := cell_rec hh7 3; simp only [List.getElem?_toArray, List.getElem?_cons_succ, List.getElem?_cons_zero] at g0 g1 g2 g3; clear hh7 hb7))
                        | (go_at_call 26; refine (HRLr.out _).mono ?_; rintro e w8 ⟨rfl, hb8⟩; have HB8 := Lib.hid (HB7.out.trans (hb8.mono HB7.out.size)); clear hb8))
                      exact ⟨⟨m + 1, rfl, by omega, HN1.out, HB8.out⟩, by simp [intOf]; omega⟩
                    · have HR1 := Lib.hid (show q = re by rw [HQ.out, HFS.out, HFR.out, HRS.out, if_neg hr0, if_neg hr0])
                      have hrb : (re != 0) = true := bne_iff_ne.2 hr0
                      clear hr0
                      go_wp2_with (first
                        | ((with_reducible show wpList _ _ _ (⟨none, .store _ (.tmp 16) _, _, _, _, _⟩ :: _) _ _); go_must (refine wpList_storeNew rfl rfl (by kernel_rfl) rfl (by simp [Value.oneCell']) ?_; intro w7 hh7 hb7; have HB7 := Lib.hid (HBm.out.trans (hb7.mono HBm.out.size)); obtain ⟨c0, c1, c2⟩ := obj_box (heap_below hb7 HXm.out); obtain ⟨d0, d1, d2, d3, d4, d5⟩ := part_box (x := (⟨name, flags, align, size, data, relas⟩, .slice ad md cd, .slice (some ⟨b', o', none⟩) mr cr)) (heap_below hb7 HHm.out); have g0 := cell_rec hh7 0; have g1 := cell_rec hh7 1; have g2 := cell_rec hh7 2; have g3 := cell_rec hh7 3; simp only [List.getElem?_toArray, List.getElem?_cons_succ, List.getElem?_cons_zero] at g0 g1 g2 g3; clear hh7 hb7))
                        | (go_at_call 26; refine (HRLr.out _).mono ?_; rintro e w8 ⟨rfl, hb8⟩; have HB8 := Lib.hid (HB7.out.trans (hb8.mono HB7.out.size)); clear hb8))
                      go_ret
                      exact ⟨by rw [HR1.out]; rfl, HB8.out⟩
                  · obtain rfl : m = mr := by omega
                    have HN1 := Lib.hid (show q = firstK (fun x => firstE (relE j x.1.size) x.1.relas) L (n + 1) by
                      have h0 : firstE (relE j size) relas = 0 := by rw [HFR.out, HMR.out]; exact firstK_end _ _
                      rw [HQ.out, HFS.out, if_pos h0])
                    go_wp2
                    exact ⟨⟨n + 1, rfl, by omega, HN1.out, HW6m.out⟩, by simp [intOf]; omega⟩
              · obtain rfl : n = k := by omega
                have HR1 := Lib.hid (show q = 0 by rw [HQ.out, HNP.out]; exact firstK_end _ _)
                go_wp2
                go_ret
                exact ⟨by rw [HR1.out]; rfl, HBn.out⟩
      · have HR1 := Lib.hid (show q = se by rw [HM2.out, if_pos hs0])
        have hsb : (se != 0) = true := bne_iff_ne.2 hs0
        clear hs0
        have hbs := HB.out.size
        go_wp2_with (go_at_call 23; refine (HSW.out _ HB.out).mono ?_; rintro e w5 ⟨v1, v2, rfl, -, -, hb5, -⟩; have HB5 := Lib.hid (HB.out.trans (hb5.mono hbs)); clear hb5)
        go_ret
        exact ⟨by rw [HR1.out]; rfl, HB5.out⟩
end Go.Proofs.YtimnbnomaajmmaaGreat
namespace Go.Proofs.YtimnbnomaajmmaaGreat
open Go.RowKit Go.Fd
theorem flat_take {α : Type} {k : Nat} {enc : α → List Value} (hk : ∀ x, (enc x).length = k) : ∀ (l : List α) (n : Nat), (l.flatMap enc).take (n * k) = (l.take n).flatMap enc := by
  intro l
  induction l with
  | nil => intro n; simp
  | cons x l ih =>
    intro n
    cases n with
    | zero => simp
    | succ n =>
      rw [List.flatMap_cons, List.take_succ_cons, List.flatMap_cons, Nat.succ_mul, List.take_append, hk, List.take_of_length_le (by rw [hk]; omega), show n * k + k - k = n * k by omega, ih]
theorem flat_drop {α : Type} {k : Nat} {enc : α → List Value} (hk : ∀ x, (enc x).length = k) : ∀ (l : List α) (n : Nat), (l.flatMap enc).drop (n * k) = (l.drop n).flatMap enc := by
  intro l
  induction l with
  | nil => intro n; simp
  | cons x l ih =>
    intro n
    cases n with
    | zero => simp
    | succ n =>
      rw [List.flatMap_cons, List.drop_succ_cons, Nat.succ_mul, List.drop_append, hk, List.drop_of_length_le (by rw [hk]; omega), show n * k + k - k = n * k by omega, ih, List.nil_append]
theorem _root_.Go.Fd.RdR.sliceTo {α : Type} {P : Program} {t e size bytes : Nat} {enc : α → List Value} (T : SliceT P t e size bytes) (hk : ∀ x, (enc x).length = size) {w : World} {v : Value} {l : List α} (hv : RdR size enc w v l) {n : Nat} {k : IntKind} (hn : n ≤ l.length) :
    ∃ v', (∀ w', (Instr.sliceAt t v none (some (.int k (n : Int))) none).run P w' = .ok v' w') ∧ RdR size enc w v' (l.take n) := by
  obtain ⟨v', h1, h2⟩ := run_sliceTo T hv (j := (n : Int)) (k := k) (by omega) (by omega)
  refine ⟨v', h1, ?_⟩
  unfold RdR
  rw [List.length_take, Nat.min_eq_left hn, ← flat_take hk]
  exact h2
theorem symE_W (l : List SymM) : (symW l).2.2.2 = symE l := by
  by_cases h : symE l = 0
  · rw [(symE_0 h).2.2, h]
  · rw [symW_E h]
theorem symE_sec {l : List SymM} (h : symE l = 0) : ∀ x ∈ l, 0 ≤ x.sec := by
  intro x hx
  have h1 := (symE_0 h).1
  have h2 : symBad x = false := by
    rw [Bool.eq_false_iff]
    intro hb
    rw [List.any_eq_true.2 ⟨x, hx, hb⟩] at h1
    cases h1
  unfold symBad at h2
  simp at h2
  omega
theorem TPart : SliceT Tryz.prog 25 38 6 96 := SliceT.mk' (z := .agg #[.string ⟨#[]⟩, .string ⟨#[]⟩, .int .i64 0, .int .i64 0, .slice none 0 0, .slice none 0 0]) (by kernel_rfl) (by kernel_rfl) rfl (by omega)
theorem mach_0 (t : Int) : mach t = 0 ↔ t < 1 ∨ 3 < t := by
  unfold mach
  split
  · omega
  · split
    · omega
    · split <;> omega
set_option maxHeartbeats 8000000 in
set_option maxRecDepth 100000 in
theorem refMay_any (o : ObjM) (L : List (PartM × Value × Value)) (pv sv : Value) (w : World) (h : ObjAt w o L pv sv) (ho : ObjOk o) :
    Calls Tryz.prog 42 #[objV o pv sv] w fun e w' => e = .returned (.int .i64 (mayO o)) ∧ Below w.heap.size w w' := by
  have HSW := Lib.hid (fun wx (hb : Below w.heap.size w wx) => ref5May_any o.syms _ wx ho.wf.many (fun s hs => by have := ho.syms s hs; omega) (h.syms.mono hb))
  have HMA := Lib.hid (fun w => ref4Machine_any o.target w)
  have HSEC := Lib.hid (symE_sec (l := o.syms))
  have HH := Lib.hid h
  obtain ⟨pa, pc, rfl, hpc, -, hP⟩ := h.rd.open (fun _ => rfl)
  obtain ⟨sa, sc, rfl, hsc, -, hS⟩ := h.syms.open (fun _ => rfl)
  have HP := Lib.hid hP
  have HS := Lib.hid hS
  have HME : Hid (mayO o = if o.target < 1 ∨ 3 < o.target then 11 else if 100 < o.parts.length ∨ 16384 < o.syms.length then 6 else if partsE o.parts [] ≠ 0 then partsE o.parts [] else if (symW o.syms).2.2.2 ≠ 0 then (symW o.syms).2.2.2 else if firstE (secE o.parts.length) o.syms ≠ 0 then firstE (secE o.parts.length) o.syms else firstE (fun p => firstE (relE o.syms.length p.size) p.relas) o.parts) := rfl
  rw [symE_W] at HME
  have hpl : o.parts.length = L.length := by rw [h.parts, List.length_map]
  have HR0 : Hid (partsE o.parts [] = restK L 0) := by rw [h.parts]; rfl
  have HF0 : Hid (firstE (fun p => firstE (relE o.syms.length p.size) p.relas) o.parts = firstK (fun x => firstE (relE o.syms.length x.1.size) x.1.relas) L 0) := by
    rw [h.parts]
    show firstE _ (L.map (·.1)) = firstE _ L
    clear HSW HMA HSEC HH hP hS HP HS HME h ho hpl HR0 hpc
    induction L with
    | nil => rfl
    | cons x L ih => rw [List.map_cons, firstE, firstE, ih]
  have HL9 : L.length ≤ 1000 := by rw [← hpl]; exact ho.many
  have HS9 : o.syms.length ≤ 1000 := ho.wf.many
  rw [hpl] at HME
  obtain ⟨np, hnp⟩ : ∃ n, n = L.length := ⟨_, rfl⟩
  obtain ⟨ns, hns⟩ : ∃ n, n = o.syms.length := ⟨_, rfl⟩
  rw [← hnp] at HME hpc HL9 ⊢
  rw [← hns] at HME hsc HS9 HF0 HSW ⊢
  have HNP := Lib.hid hnp
  have HNS := Lib.hid hns
  have HOK := Lib.hid ho
  have HL := Lib.hid h.parts
  obtain ⟨target, parts, syms⟩ := o
  dsimp only at *
  generalize mayO ⟨target, parts, syms⟩ = q at *
  clear h hP hS hpl hnp hns ho
  by_cases ht : mach target = 0
  · have HR := Lib.hid (show q = 11 by rw [HME.out, if_pos ((mach_0 target).1 ht)])
    rw [ht] at HMA
    go_enter Tryz.func42, Tryz.ntmps42
    go_wp2_with (first
      | ((with_reducible show wpList _ _ _ (⟨some 1, .box _ _, _, _, _, _⟩ :: _) _ _); go_must (refine wpList_box rfl ?_; intro w1 hx1 hb1 hs1; have HX1 := Lib.hid hx1; have HB1 := Lib.hid hb1; obtain ⟨c0, c1, c2⟩ := obj_box hx1; clear hx1 hb1))
      | (go_at_call 36; refine (HMA.out _).mono ?_; rintro e w2 ⟨rfl, rfl⟩))
    go_ret
    exact ⟨by rw [HR.out]; rfl, HB1.out⟩
  have HM0 := Lib.hid (show ¬ (target < 1 ∨ 3 < target) from fun h => ht ((mach_0 target).2 h))
  have hmt : (((mach target : Nat) : Int) == 0) = false := by rw [beq_eq_false_iff_ne]; omega
  generalize mach target = mt at *
  clear ht
  by_cases hl1 : 100 < np
  · have HR := Lib.hid (show q = 6 by rw [HME.out, if_neg HM0.out, if_pos (.inl hl1)])
    go_enter Tryz.func42, Tryz.ntmps42
    go_wp2_with (first
      | ((with_reducible show wpList _ _ _ (⟨some 1, .box _ _, _, _, _, _⟩ :: _) _ _); go_must (refine wpList_box rfl ?_; intro w1 hx1 hb1 hs1; have HX1 := Lib.hid hx1; have HB1 := Lib.hid hb1; obtain ⟨c0, c1, c2⟩ := obj_box hx1; clear hx1 hb1))
      | (go_at_call 36; refine (HMA.out _).mono ?_; rintro e w2 ⟨rfl, rfl⟩))
    go_ret
    exact ⟨by rw [HR.out]; rfl, HB1.out⟩
  have HM1 := Lib.hid (show q = if partsE parts [] ≠ 0 then partsE parts [] else if symE syms ≠ 0 then symE syms else if firstE (secE np) syms ≠ 0 then firstE (secE np) syms else firstE (fun p => firstE (relE ns p.size) p.relas) parts by rw [HME.out, if_neg HM0.out, if_neg (by omega)])
  clear HME HM0
  go_enter Tryz.func42, Tryz.ntmps42
  go_wp2_with (first
    | ((with_reducible show wpList _ _ _ (⟨some 1, .box _ _, _, _, _, _⟩ :: _) _ _); go_must (refine wpList_box rfl ?_; intro w1 hx1 hb1 hs1; have HX1 := Lib.hid hx1; have HB1 := Lib.hid hb1; obtain ⟨c0, c1, c2⟩ := obj_box hx1; clear hx1 hb1))
    | (go_at_call 36; refine (HMA.out _).mono ?_; rintro e w2 ⟨rfl, rfl⟩))
  clear hmt HMA
  go_loopw [3] (fun i wr => ∃ k : Nat, i = .int .i64 k ∧ k ≤ np ∧ Hid (partsE parts [] = restK L k) ∧ Hid (Below w1.heap.size w1 wr)) (fun i _ => np - (intOf i).toNat)
  case atStart => exact ⟨0, rfl, Nat.zero_le _, HR0, Below.refl _ _⟩
  case round =>
    obtain ⟨k, rfl, hk, HPE, HW⟩ := hrel
    have HB := Lib.hid (HB1.out.trans (HW.out.mono HB1.out.size))
    have HXr := Lib.hid (heap_below HW.out HX1.out)
    obtain ⟨c0, c1, c2⟩ := obj_box HXr.out
    have hbs := HB.out.size
    by_cases hlt : k < np
    · obtain ⟨x, hx⟩ : ∃ x, L[k]? = some x := ⟨_, List.getElem?_eq_getElem (by have := HNP.out; omega)⟩
      obtain ⟨b, o, rfl, e0, e1, e2, e3, e4, e5, hb0⟩ := part_cells HP.out HB.out hx
      have hmem : x.1 ∈ parts := by rw [HL.out]; exact List.mem_map.2 ⟨x, List.mem_of_getElem? hx, rfl⟩
      have hnm := HOK.out.names x.1 hmem
      have HRS := Lib.hid (restK_step hx)
      obtain ⟨av, hav, hra⟩ := HH.out.rd.sliceTo TPart (fun _ => rfl) (n := k) (k := .i64) (by have := HNP.out; omega)
      rw [← HNP.out] at hav
      have HAV := Lib.hid hav
      have HPT : Hid (∀ wx, Below w.heap.size w wx → Calls Tryz.prog 79 #[partV x, av] wx fun e w' => e = .returned (.int .i64 (partE x.1 (decide (x.1.name ∈ namesK L k)))) ∧ Below wx.heap.size wx w') := Lib.hid (fun wx hb => refPart_any x.1 x.2.1 x.2.2 av (L.take k) wx ((HH.out.data x (List.mem_of_getElem? hx)).mono hb) (hra.mono hb) (by omega) (by omega) (by have := HOK.out.data _ hmem; omega) (by rw [List.length_take]; omega))
      obtain ⟨md, ad, cd, -, hdv, -, -⟩ := (HH.out.data x (List.mem_of_getElem? hx)).shape
      obtain ⟨mr, ar, cr, -, hrv, -, -⟩ := (HH.out.rela x (List.mem_of_getElem? hx)).shape
      obtain ⟨⟨name, flags, align, size, data, relas⟩, dv, rv⟩ := x
      dsimp only at *
      subst hdv hrv
      clear hx hmem hnm hav hra
      generalize decide (name ∈ namesK L k) = there at *
      generalize partE ⟨name, flags, align, size, data, relas⟩ there = pe at *
      have hAB := fun (x : Above wr) (b k : Nat) (h : b < wr.heap.size) => Above.cell x b k h
      have l0 := block_lt c0
      have l1 := block_lt e0
      by_cases hp0 : pe = 0
      · subst hp0
        have HR1 := Lib.hid (show partsE parts [] = restK L (k + 1) by rw [HPE.out, HRS.out, if_pos rfl])
        go_wp2
        refine wp_region_walk 11 [(8, .is av), (9, .is (.int .i64 0))] (by kernel_rfl) (by kernel_rfl) ?_
        simp only [List.take_succ_cons, List.take_zero, List.drop_succ_cons, List.drop_zero]
        repeat (refine walk_quiet rfl rfl rfl ?_; intro K hK; go_big_quiet_op; go_big_quiet_on)
        refine walk_is rfl rfl (fun wx hwx _ => WpYld.val (exec_sliceTo HAV.out rfl rfl) Yld.is_mk (Below.refl _ _)) ?_
        go_frame
        refine walk_is rfl rfl (fun wx hwx _ => WpYld.callIsB (run_callL (vals := [_, _]) Tryz.func79 (by kernel_rfl) rfl rfl) (HPT.out wx (HB.out.trans (hwx.mono HB.out.size)))) ?_
        go_frame
        repeat (refine walk_quiet rfl rfl rfl ?_; intro K hK; go_big_quiet_op; go_big_quiet_on)
        refine walk_nil ?_
        intro wz hbz _
        have HBz := Lib.hid (HW.out.trans (hbz.mono HW.out.size))
        clear hbz hAB
        go_wp2
        go_roundw
        case rel => exact ⟨k + 1, by go_num, by omega, HR1.out, HBz.out⟩
        case measure => simp [intOf] <;> omega
      · have HR1 := Lib.hid (show q = pe by rw [HM1.out, HPE.out, HRS.out, if_neg hp0, if_pos hp0])
        have hpb : (pe != 0) = true := bne_iff_ne.2 hp0
        clear hp0
        go_wp2
        refine wp_region_walk 11 [(8, .is av), (9, .is (.int .i64 pe))] (by kernel_rfl) (by kernel_rfl) ?_
        simp only [List.take_succ_cons, List.take_zero, List.drop_succ_cons, List.drop_zero]
        repeat (refine walk_quiet rfl rfl rfl ?_; intro K hK; go_big_quiet_op; go_big_quiet_on)
        refine walk_is rfl rfl (fun wx hwx _ => WpYld.val (exec_sliceTo HAV.out rfl rfl) Yld.is_mk (Below.refl _ _)) ?_
        go_frame
        refine walk_is rfl rfl (fun wx hwx _ => WpYld.callIsB (run_callL (vals := [_, _]) Tryz.func79 (by kernel_rfl) rfl rfl) (HPT.out wx (HB.out.trans (hwx.mono HB.out.size)))) ?_
        go_frame
        repeat (refine walk_quiet rfl rfl rfl ?_; intro K hK; go_big_quiet_op; go_big_quiet_on)
        refine walk_nil ?_
        intro wz hbz _
        have HBz := Lib.hid (HB.out.trans (hbz.mono HB.out.size))
        clear hbz hAB
        go_wp2
        go_ret
        exact ⟨by rw [HR1.out]; rfl, HBz.out⟩
    · obtain rfl : k = np := by omega
      have HM2 := Lib.hid (show q = if symE syms ≠ 0 then symE syms else if firstE (secE k) syms ≠ 0 then firstE (secE k) syms else firstE (fun p => firstE (relE ns p.size) p.relas) parts by
        have h0 : restK L k = 0 := by rw [HNP.out]; exact restK_end L
        rw [HM1.out, HPE.out, h0, if_neg (by simp)])
      clear HM1 HPE HR0
      generalize symE syms = se at *
      by_cases hs0 : se = 0
      · subst hs0
        have HM3 := Lib.hid (show q = if firstE (secE k) syms ≠ 0 then firstE (secE k) syms else firstE (fun p => firstE (relE ns p.size) p.relas) parts by rw [HM2.out, if_neg (by simp)])
        have HSE0 := Lib.hid (HSEC.out rfl)
        clear HM2 HSEC
        go_wp2_with (go_at_call 80; refine (HSW.out _ HB.out).mono ?_; rintro e w5 ⟨rfl, hb5⟩; have HX5 := Lib.hid (heap_below hb5 HXr.out); have HB5 := Lib.hid (HB.out.trans (hb5.mono hbs)); obtain ⟨c0, c1, c2⟩ := obj_box HX5.out; clear hb5)
        clear HSW HW HXr HX1
        go_loopw [6] (fun i wr => ∃ j : Nat, i = .int .i64 j ∧ j ≤ ns ∧ Hid (firstE (secE k) syms = firstK (secE k) syms j) ∧ Hid (Below w5.heap.size w5 wr)) (fun i _ => ns - (intOf i).toNat)
        case atStart => exact ⟨0, rfl, Nat.zero_le _, rfl, Below.refl _ _⟩
        case round =>
          obtain ⟨j, rfl, hj, HFE, HWj⟩ := hrel
          have HBj := Lib.hid (HB5.out.trans (HWj.out.mono HB5.out.size))
          have HXj := Lib.hid (heap_below HWj.out HX5.out)
          obtain ⟨c0, c1, c2⟩ := obj_box HXj.out
          have hsj := HWj.out.size
          by_cases hlt2 : j < ns
          · obtain ⟨x, hx⟩ : ∃ x, syms[j]? = some x := ⟨_, List.getElem?_eq_getElem (by have := HNS.out; omega)⟩
            obtain ⟨b, o, rfl, e0, e1, e2, e3, e4, e5, hb0⟩ := sym_cells HS.out HBj.out hx
            have HFS := Lib.hid (firstK_step (f := secE k) hx)
            have hse0 := HSE0.out x (List.mem_of_getElem? hx)
            have HSE : Hid (secE k x = if (k : Int) < x.sec ∧ x.sec ≠ 65521 ∧ x.sec ≠ 65522 then 15 else 0) := rfl
            obtain ⟨name, bind, typ, sec, value, size⟩ := x
            dsimp only at *
            clear hx
            by_cases hbad : (k : Int) < sec ∧ sec ≠ 65521 ∧ sec ≠ 65522
            · have HR1 := Lib.hid (show q = 15 by
                have h1 : firstE (secE k) syms = 15 := by rw [HFE.out, HFS.out, HSE.out, if_pos hbad]; rfl
                rw [HM3.out, h1]; rfl)
              obtain ⟨g1, g2, g3⟩ := hbad
              have t1 : (sec != 0) = true := bne_iff_ne.2 (by omega)
              have t2 : (sec != 65521) = true := bne_iff_ne.2 g2
              have t3 : (sec != 65522) = true := bne_iff_ne.2 g3
              have t4 : ¬ sec < 1 := by omega
              clear HM3 HFE HFS HSE g2 g3
              go_wp2
              go_ret
              exact ⟨by rw [HR1.out]; rfl, HBj.out⟩
            · have HN1 := Lib.hid (show firstE (secE k) syms = firstK (secE k) syms (j + 1) by rw [HFE.out, HFS.out, HSE.out, if_neg hbad, if_pos rfl])
              have HBAD := Lib.hid hbad
              clear HFE HFS HSE hbad
              by_cases g0 : sec = 0
              · have t1 : (sec != 0) = false := by rw [g0]; rfl
                clear g0 hse0
                go_wp2
                go_roundw
                case rel => exact ⟨j + 1, by go_num, by omega, HN1.out, HWj.out⟩
                case measure => simp [intOf] <;> omega
              have t1 : (sec != 0) = true := bne_iff_ne.2 g0
              by_cases g2 : sec = 65521
              · have t2 : (sec != 65521) = false := by rw [g2]; rfl
                clear g2
                go_wp2
                go_roundw
                case rel => exact ⟨j + 1, by go_num, by omega, HN1.out, HWj.out⟩
                case measure => simp [intOf] <;> omega
              have t2 : (sec != 65521) = true := bne_iff_ne.2 g2
              by_cases g3 : sec = 65522
              · have t3 : (sec != 65522) = false := by rw [g3]; rfl
                clear g3 g2
                go_wp2
                go_roundw
                case rel => exact ⟨j + 1, by go_num, by omega, HN1.out, HWj.out⟩
                case measure => simp [intOf] <;> omega
              have t3 : (sec != 65522) = true := bne_iff_ne.2 g3
              have t4 : ¬ sec < 1 := by omega
              have t5 : ¬ (k : Int) < sec := fun h => HBAD.out ⟨h, g2, g3⟩
              clear g2 g3
              go_wp2
              go_roundw
              case rel => exact ⟨j + 1, by go_num, by omega, HN1.out, HWj.out⟩
              case measure => simp [intOf] <;> omega
          · obtain rfl : j = ns := by omega
            have HM4 := Lib.hid (show q = firstK (fun x => firstE (relE j x.1.size) x.1.relas) L 0 by
              have h0 : firstE (secE k) syms = 0 := by rw [HFE.out, HNS.out]; exact firstK_end _ _
              rw [HM3.out, h0, if_neg (by simp), HF0.out])
            clear HM3 HFE HF0
            go_wp2
            go_loopw [8] (fun i wr => ∃ n : Nat, i = .int .i64 n ∧ n ≤ k ∧ Hid (q = firstK (fun x => firstE (relE j x.1.size) x.1.relas) L n) ∧ Hid (Below w5.heap.size w5 wr)) (fun i _ => k - (intOf i).toNat)
            case atStart => exact ⟨0, rfl, Nat.zero_le _, HM4.out, HWj.out⟩
            case round =>
              obtain ⟨n, rfl, hn, HQ, HWn⟩ := hrel
              have HBn := Lib.hid (HB5.out.trans (HWn.out.mono HB5.out.size))
              have HXn := Lib.hid (heap_below HWn.out HX5.out)
              obtain ⟨c0, c1, c2⟩ := obj_box HXn.out
              have hsn := HWn.out.size
              by_cases hlt3 : n < k
              · obtain ⟨x, hx⟩ : ∃ x, L[n]? = some x := ⟨_, List.getElem?_eq_getElem (by have := HNP.out; omega)⟩
                have HX := Lib.hid hx
                obtain ⟨b, o, rfl, e0, e1, e2, e3, e4, e5, hb0⟩ := part_cells HP.out HBn.out hx
                have HFS := Lib.hid (firstK_step (f := fun x : PartM × Value × Value => firstE (relE j x.1.size) x.1.relas) hx)
                have hmem : x.1 ∈ parts := by rw [HL.out]; exact List.mem_map.2 ⟨x, List.mem_of_getElem? hx, rfl⟩
                obtain ⟨ar, cr, hrv, hrc, -, hR⟩ := (HH.out.rela x (List.mem_of_getElem? hx)).open (fun _ => rfl)
                have hmr9 := (HOK.out.wf.relas x.1 hmem).1
                obtain ⟨mr, hmr⟩ : ∃ m, m = x.1.relas.length := ⟨_, rfl⟩
                rw [← hmr] at hrv hrc hmr9
                have HMR := Lib.hid hmr
                have HRC := Lib.hid hR
                have hu := u64of_cast x.1.size
                have HRE : Hid (∀ r, relE j x.1.size r = if r.sym < 0 ∨ (j : Int) < r.sym then 14 else if u64of x.1.size ≤ r.off then 5 else if r.typ < 0 ∨ 65535 < r.typ then 3 else 0) := fun r => rfl
                obtain ⟨⟨name, flags, align, size, data, relas⟩, dv, rv⟩ := x
                dsimp only at *
                subst hrv
                generalize u64of size = us at *
                clear hx hmem hmr hR
                go_wp2
                go_loopw [10] (fun i wr => ∃ m : Nat, i = .int .i64 m ∧ m ≤ mr ∧ Hid (firstE (relE j size) relas = firstK (relE j size) relas m) ∧ Hid (Below w5.heap.size w5 wr)) (fun i _ => mr - (intOf i).toNat)
                case atStart => exact ⟨0, rfl, Nat.zero_le _, rfl, HWn.out⟩
                case round =>
                  obtain ⟨m, rfl, hm, HFR, HWm⟩ := hrel
                  have HBm := Lib.hid (HB5.out.trans (HWm.out.mono HB5.out.size))
                  have HXm := Lib.hid (heap_below HWm.out HX5.out)
                  obtain ⟨c0, c1, c2⟩ := obj_box HXm.out
                  have hsm := HWm.out.size
                  by_cases hlt4 : m < mr
                  · obtain ⟨b2, o2, hbo2, -, -, -, f3, -, -, hb02⟩ := part_cells HP.out HBm.out HX.out
                    cases hbo2
                    obtain ⟨r, hr⟩ : ∃ r, relas[m]? = some r := ⟨_, List.getElem?_eq_getElem (by have := HMR.out; omega)⟩
                    obtain ⟨b', o', rfl, r0, r1, r2, r3, hb0'⟩ := rela_cells HRC.out HBm.out hr
                    have HRS := Lib.hid (firstK_step (f := relE j size) hr)
                    have HREr := Lib.hid (HRE.out r)
                    have HR9 := Lib.hid hr
                    clear hr
                    obtain ⟨off, typ, sym, add⟩ := r
                    dsimp only at *
                    generalize relE j size ⟨off, typ, sym, add⟩ = re at *
                    have HQ1 : Hid (re ≠ 0 → q = re) := Lib.hid (fun hr0 => by rw [HQ.out, HFS.out, HFR.out, HRS.out, if_neg hr0, if_neg hr0])
                    have HQ2 : Hid (re = 0 → firstE (relE j size) relas = firstK (relE j size) relas (m + 1)) := Lib.hid (fun hr0 => by rw [HFR.out, HRS.out, if_pos hr0])
                    clear HRS HFR
                    by_cases g1 : sym < 0
                    · have HR1 := Lib.hid (show q = 14 by
                        have h1 : re = 14 := by rw [HREr.out, if_pos (.inl g1)]
                        rw [HQ1.out (by rw [h1]; decide), h1])
                      clear HREr HQ1 HQ2
                      go_wp2
                      go_quiet (fail)
                      have HWd := Lib.hid (HWm.out.trans ((below_drewN (Below.refl _ wr) nq).mono HWm.out.size))
                      have HBd := Lib.hid (HB5.out.trans (HWd.out.mono HB5.out.size))
                      generalize wr.drewN nq = wd at *
                      go_wp2
                      go_ret
                      exact ⟨by rw [HR1.out]; rfl, HBd.out⟩
                    by_cases g2 : (j : Int) < sym
                    · have HR1 := Lib.hid (show q = 14 by
                        have h1 : re = 14 := by rw [HREr.out, if_pos (.inr g2)]
                        rw [HQ1.out (by rw [h1]; decide), h1])
                      clear HREr HQ1 HQ2
                      go_wp2
                      go_quiet (fail)
                      have HWd := Lib.hid (HWm.out.trans ((below_drewN (Below.refl _ wr) nq).mono HWm.out.size))
                      have HBd := Lib.hid (HB5.out.trans (HWd.out.mono HB5.out.size))
                      generalize wr.drewN nq = wd at *
                      go_wp2
                      go_ret
                      exact ⟨by rw [HR1.out]; rfl, HBd.out⟩
                    by_cases g3 : us ≤ off
                    · have HR1 := Lib.hid (show q = 5 by
                        have h1 : re = 5 := by rw [HREr.out, if_neg (by omega), if_pos g3]
                        rw [HQ1.out (by rw [h1]; decide), h1])
                      clear HREr HQ1 HQ2
                      go_wp2
                      go_quiet (fail)
                      have HWd := Lib.hid (HWm.out.trans ((below_drewN (Below.refl _ wr) nq).mono HWm.out.size))
                      have HBd := Lib.hid (HB5.out.trans (HWd.out.mono HB5.out.size))
                      generalize wr.drewN nq = wd at *
                      have HXd := Lib.hid (heap_below HWd.out HX5.out)
                      obtain ⟨c0, c1, c2⟩ := obj_box HXd.out
                      obtain ⟨_, _, hbo3, -, -, -, f3, -, -, -⟩ := part_cells HP.out HBd.out HX.out
                      cases hbo3
                      obtain ⟨_, _, hbo4, r0, r1, r2, r3, -⟩ := rela_cells HRC.out HBd.out HR9.out
                      cases hbo4
                      go_wp2
                      go_quiet (fail)
                      have HWd2 := Lib.hid (HWd.out.trans ((below_drewN (Below.refl _ wd) nq).mono HWd.out.size))
                      have HBd2 := Lib.hid (HB5.out.trans (HWd2.out.mono HB5.out.size))
                      generalize wd.drewN nq = wd2 at *
                      go_wp2
                      go_ret
                      exact ⟨by rw [HR1.out]; rfl, HBd2.out⟩
                    by_cases g4 : typ < 0
                    · have HR1 := Lib.hid (show q = 3 by
                        have h1 : re = 3 := by rw [HREr.out, if_neg (by omega), if_neg g3, if_pos (.inl g4)]
                        rw [HQ1.out (by rw [h1]; decide), h1])
                      clear HREr HQ1 HQ2
                      go_wp2
                      go_quiet (fail)
                      have HWd := Lib.hid (HWm.out.trans ((below_drewN (Below.refl _ wr) nq).mono HWm.out.size))
                      have HBd := Lib.hid (HB5.out.trans (HWd.out.mono HB5.out.size))
                      generalize wr.drewN nq = wd at *
                      have HXd := Lib.hid (heap_below HWd.out HX5.out)
                      obtain ⟨c0, c1, c2⟩ := obj_box HXd.out
                      obtain ⟨_, _, hbo3, -, -, -, f3, -, -, -⟩ := part_cells HP.out HBd.out HX.out
                      cases hbo3
                      obtain ⟨_, _, hbo4, r0, r1, r2, r3, -⟩ := rela_cells HRC.out HBd.out HR9.out
                      cases hbo4
                      go_wp2
                      go_quiet (fail)
                      have HWd2 := Lib.hid (HWd.out.trans ((below_drewN (Below.refl _ wd) nq).mono HWd.out.size))
                      have HBd2 := Lib.hid (HB5.out.trans (HWd2.out.mono HB5.out.size))
                      generalize wd.drewN nq = wd2 at *
                      have HXd2 := Lib.hid (heap_below HWd2.out HX5.out)
                      obtain ⟨c0, c1, c2⟩ := obj_box HXd2.out
                      obtain ⟨_, _, hbo3, -, -, -, f3, -, -, -⟩ := part_cells HP.out HBd2.out HX.out
                      cases hbo3
                      obtain ⟨_, _, hbo4, r0, r1, r2, r3, -⟩ := rela_cells HRC.out HBd2.out HR9.out
                      cases hbo4
                      go_wp2
                      go_ret
                      exact ⟨by rw [HR1.out]; rfl, HBd2.out⟩
                    by_cases g5 : 65535 < typ
                    · have HR1 := Lib.hid (show q = 3 by
                        have h1 : re = 3 := by rw [HREr.out, if_neg (by omega), if_neg g3, if_pos (.inr g5)]
                        rw [HQ1.out (by rw [h1]; decide), h1])
                      clear HREr HQ1 HQ2
                      go_wp2
                      go_quiet (fail)
                      have HWd := Lib.hid (HWm.out.trans ((below_drewN (Below.refl _ wr) nq).mono HWm.out.size))
                      have HBd := Lib.hid (HB5.out.trans (HWd.out.mono HB5.out.size))
                      generalize wr.drewN nq = wd at *
                      have HXd := Lib.hid (heap_below HWd.out HX5.out)
                      obtain ⟨c0, c1, c2⟩ := obj_box HXd.out
                      obtain ⟨_, _, hbo3, -, -, -, f3, -, -, -⟩ := part_cells HP.out HBd.out HX.out
                      cases hbo3
                      obtain ⟨_, _, hbo4, r0, r1, r2, r3, -⟩ := rela_cells HRC.out HBd.out HR9.out
                      cases hbo4
                      go_wp2
                      go_quiet (fail)
                      have HWd2 := Lib.hid (HWd.out.trans ((below_drewN (Below.refl _ wd) nq).mono HWd.out.size))
                      have HBd2 := Lib.hid (HB5.out.trans (HWd2.out.mono HB5.out.size))
                      generalize wd.drewN nq = wd2 at *
                      have HXd2 := Lib.hid (heap_below HWd2.out HX5.out)
                      obtain ⟨c0, c1, c2⟩ := obj_box HXd2.out
                      obtain ⟨_, _, hbo3, -, -, -, f3, -, -, -⟩ := part_cells HP.out HBd2.out HX.out
                      cases hbo3
                      obtain ⟨_, _, hbo4, r0, r1, r2, r3, -⟩ := rela_cells HRC.out HBd2.out HR9.out
                      cases hbo4
                      go_wp2
                      go_ret
                      exact ⟨by rw [HR1.out]; rfl, HBd2.out⟩
                    have HN1 := Lib.hid (HQ2.out (by rw [HREr.out, if_neg (by omega), if_neg g3, if_neg (by omega)]))
                    clear HREr HQ1 HQ2
                    go_wp2
                    go_quiet (fail)
                    have HWd := Lib.hid (HWm.out.trans ((below_drewN (Below.refl _ wr) nq).mono HWm.out.size))
                    have HBd := Lib.hid (HB5.out.trans (HWd.out.mono HB5.out.size))
                    generalize wr.drewN nq = wd at *
                    have HXd := Lib.hid (heap_below HWd.out HX5.out)
                    obtain ⟨c0, c1, c2⟩ := obj_box HXd.out
                    obtain ⟨_, _, hbo3, -, -, -, f3, -, -, -⟩ := part_cells HP.out HBd.out HX.out
                    cases hbo3
                    obtain ⟨_, _, hbo4, r0, r1, r2, r3, -⟩ := rela_cells HRC.out HBd.out HR9.out
                    cases hbo4
                    go_wp2
                    go_quiet (fail)
                    have HWd2 := Lib.hid (HWd.out.trans ((below_drewN (Below.refl _ wd) nq).mono HWd.out.size))
                    have HBd2 := Lib.hid (HB5.out.trans (HWd2.out.mono HB5.out.size))
                    generalize wd.drewN nq = wd2 at *
                    have HXd2 := Lib.hid (heap_below HWd2.out HX5.out)
                    obtain ⟨c0, c1, c2⟩ := obj_box HXd2.out
                    obtain ⟨_, _, hbo3, -, -, -, f3, -, -, -⟩ := part_cells HP.out HBd2.out HX.out
                    cases hbo3
                    obtain ⟨_, _, hbo4, r0, r1, r2, r3, -⟩ := rela_cells HRC.out HBd2.out HR9.out
                    cases hbo4
                    go_wp2
                    go_roundw
                    case rel => exact ⟨m + 1, by go_num, by omega, HN1.out, HWd2.out⟩
                    case measure => simp [intOf] <;> omega
                  · obtain rfl : m = mr := by omega
                    have HN1 := Lib.hid (show q = firstK (fun x => firstE (relE j x.1.size) x.1.relas) L (n + 1) by
                      have h0 : firstE (relE j size) relas = 0 := by rw [HFR.out, HMR.out]; exact firstK_end _ _
                      rw [HQ.out, HFS.out, if_pos h0])
                    go_wp2
                    go_roundw
                    case rel => exact ⟨n + 1, by go_num, by omega, HN1.out, HWm.out⟩
                    case measure => simp [intOf] <;> omega
              · obtain rfl : n = k := by omega
                have HR1 := Lib.hid (show q = 0 by rw [HQ.out, HNP.out]; exact firstK_end _ _)
                go_wp2
                go_ret
                exact ⟨by rw [HR1.out]; rfl, HBn.out⟩
      · have HR1 := Lib.hid (show q = se by rw [HM2.out, if_pos hs0])
        have hsb : (se != 0) = true := bne_iff_ne.2 hs0
        clear hs0
        go_wp2_with (go_at_call 80; refine (HSW.out _ HB.out).mono ?_; rintro e w5 ⟨rfl, hb5⟩; have HB5 := Lib.hid (HB.out.trans (hb5.mono hbs)); clear hb5)
        go_ret
        exact ⟨by rw [HR1.out]; rfl, HB5.out⟩
end Go.Proofs.YtimnbnomaajmmaaGreat
