/-
  ElfWrites holds: files are taken or refused, laid, and written as the document has it. Within the bound.
-/
import Derived.Test.YtgjoimcgiofinaaEw6
import Derived.Test.YtgjoimcgiofinaaRows
import Derived.ProofKit
import Derived.SizedLaws
import Derived.OpenShut
import Derived.Lib.SmallJoins
import Derived.Deep.Fields
import Derived.SliceStrings
import Derived.Deep.Slices
import Derived.JoinedCond
import Derived.Shelf.Vars
namespace Go.Proofs.Ytgjoimcgiofinaa
open Go.RowKit Go.Fd
/-- append in a region that draws: bytes behind bytes. -/
theorem step_catB {ops : Array Oper} {o : Oper} {a : Act} {w : World} {K : Act → World → Prop} {Q : Exit → Act → World → Prop} {E : Prop}
    (hg : o.guard = none) (s x : Operand) (hop : o.op = Op.call { callee := Callee.builtin Builtin.append, args := #[s, x], argTypes := #[23, 23] })
    {base : Nat} {v u : Value} {l m : List UInt8} (hown : OB w base v l) (hy : Bs w u m) (hs : a.eval s = v) (hx : a.eval x = u) (hn : l.length + m.length ≤ 140737488355328) (hb : base ≤ w.heap.size)
    (hK : ∀ v' w', OB w' base v' (l ++ m) → w.grownBy w' v.ownBlock → K (a.put o.dst v') w') :
    if Region.wanted o (yielded ops a.tmps) = true then Oper.wp Try.prog o a w K Q else E := by
  have hw : Region.wanted o (yielded ops a.tmps) = true := by simp [Region.wanted, hg]
  rw [if_pos hw]
  obtain ⟨v', w', hrun, h6, h7⟩ := run_cat (ty := o.type) TB hown hy hn hb
  unfold Oper.wp
  simp [execOp, hop, resolve, invoke, builtin, hs, hx, hrun, Result.andThen]
  exact hK v' w' h6 h7
theorem ob_lit7 {w : World} {l : List UInt8} {cs : Array Value} {n : Nat} (hc : cs = (l.map B).toArray) (hn : n = l.length) (hl : l.length ≤ 1000000) : OB (w.alloc (.cells cs 5)) w.heap.size (.slice (some ⟨w.heap.size, 0, none⟩) n n) l := by
  subst hc hn
  exact ⟨by simp, .inr ⟨w.heap.size, l.length, _, rfl, Nat.le_refl _, heap_alloc_last w _, Nat.le_refl _, maxLen_of (by omega), by simp, by simp only [Nat.mul_one]; exact List.take_of_length_le (by simp)⟩⟩
theorem tabSec_fits {n : Nat} (h : n < 18446744073709551616) : (tabSec n).fits := by
  refine ⟨?_, ?_, ?_, ?_, h, ?_, ?_, ?_⟩
  all_goals (simp [tabSec])
theorem keep_h {w w' : World} {b : Nat} {cs : Array Value} {e : TypeId} {fr : Nat × Nat} (h : Keeps 5 w w') (he : e ≠ 5) (hb : w.heap[b]? = some (.cells cs e fr)) : w'.heap[b]? = some (.cells cs e fr) := h _ _ _ _ he hb
set_option maxHeartbeats 4000000 in
set_option maxRecDepth 100000 in
theorem ref4Write_any (e : ElfM) (L : List (SecM × Value)) (sv gv : Value) (w : World) (h : ElfAt w e L sv gv) (ho : ElfOk e) :
    Calls Try.prog 46 #[elfV e sv gv] w fun r w' => ∃ v, r = .returned (.tuple #[v, .int .i64 (fileW e).2]) ∧ OB w' w.heap.size v (fileW e).1 ∧ Below w.heap.size w w' := by
  obtain ⟨a, ca, rfl, hca, -, hc⟩ := h.rd.open (fun _ => rfl)
  obtain ⟨ga, gc, rfl, hgc, -, hcg⟩ := h.segs.open (fun _ => rfl)
  have HC := Lib.hid hc
  have HCG := Lib.hid hcg
  have HAT := Lib.hid h
  have HOK := Lib.hid ho
  have HD := Lib.hid h.data
  have HSE := Lib.hid (fun k x (hk : L[k]? = some x) => sec_of h.secs hk)
  have HEL := Lib.hid (show e.secs.length = L.length by rw [h.secs, List.length_map])
  obtain ⟨nl, hnl⟩ : ∃ n, n = L.length := ⟨_, rfl⟩
  obtain ⟨gn, hgn⟩ : ∃ n, n = e.segs.length := ⟨_, rfl⟩
  rw [← hnl] at hca HAT ⊢
  rw [← hgn] at hgc HAT ⊢
  have HL := Lib.hid hnl
  have HGN := Lib.hid hgn
  have HMY := Lib.hid (fun wx (hx : Below w.heap.size w wx) => ref4May_any e L _ _ wx (HAT.out.mono hx) HOK.out)
  clear hc hcg h hnl hgn ho
  cases hmy : mayE e with
  | false =>
    have HR := Lib.hid (fileW_no hmy)
    rw [hmy] at HMY
    clear hmy
    go_enter Try.func46, Try.ntmps46
    go_wp2_with (first
      | ((with_reducible show wpList _ _ _ (⟨_, .box _ _, _, _, _, _⟩ :: _) _ _); go_must (refine wpList_box rfl ?_; intro w1 hx1 hb1 hs1; obtain ⟨c0, c1, c2, c3, c4, c5⟩ := elf_box hx1)))
    refine (HMY.out _ hb1).mono ?_
    rintro r w2 ⟨rfl, hb2⟩
    go_wp2
    go_ret2
    exact ⟨_, by rw [HR.out]; rfl, by rw [HR.out]; exact OB.nil _ _, hb1.trans (hb2.mono hb1.size)⟩
  | true =>
    have HR := Lib.hid (fileW_ok hmy)
    have HK := Lib.hid (mayK hmy)
    rw [hmy] at HMY
    clear hmy
    have hnl2 : nl ≤ 250 := by have h1 := HK.out.secs; have h2 := HEL.out; have h3 := HL.out; omega
    have hgn2 : gn ≤ 16 := by have h1 := HK.out.segs; have h2 := HGN.out; omega
    go_enter Try.func46, Try.ntmps46
    go_wp2_with (first
      | ((with_reducible show wpList _ _ _ (⟨_, .box _ _, _, _, _, _⟩ :: _) _ _); go_must (refine wpList_box rfl ?_; intro w1 hx1 hb1 hs1; obtain ⟨c0, c1, c2, c3, c4, c5⟩ := elf_box hx1)))
    have HX1 := Lib.hid hx1
    have HB1 := Lib.hid hb1
    have hs1' := hs1
    clear hx1 hb1 c0 c1 c2 c3 c4 c5
    refine (HMY.out _ HB1.out).mono ?_
    rintro r w2 ⟨rfl, hb2⟩
    have HX2 := Lib.hid (heap_below hb2 HX1.out)
    have HB2 := Lib.hid (HB1.out.trans (hb2.mono HB1.out.size))
    have hs2 := hb2.size
    clear hb2 HMY
    obtain ⟨c0, c1, c2, c3, c4, c5⟩ := elf_box HX2.out
    have HPL := Lib.hid (ref4Places_any e L _ _ w2 (HAT.out.mono HB2.out) (by have := HL.out; omega) (by have := HGN.out; omega) HK.out.pow HOK.out.fits.secs HOK.out.data)
    obtain ⟨pe, hpe⟩ : ∃ pe, pe = (placesOf e).2 := ⟨_, rfl⟩
    rw [← hpe] at HPL
    have HPE := Lib.hid hpe
    clear hpe
    go_wp2_with fail
    clear c0 c1 c2 c3 c4 c5
    refine HPL.out.mono ?_
    rintro r w3 ⟨v3, rfl, ow3, hb3⟩
    obtain ⟨pa, pc, rfl, hpc, -, hpac⟩ := (show Rd I64 w3 v3 (placesOf e).1 from ow3.rd).open 0
    have HPC3 := Lib.hid hpac
    have hpl : (placesOf e).1.length = nl := by have h1 := plF_len (g := segsB e) (n := front e) e.secs; have h2 := HEL.out; have h3 := HL.out; exact h1.trans (by omega)
    rw [hpl] at hpc ⊢
    have HPLN := Lib.hid hpl
    have HX3 := Lib.hid (heap_below hb3 HX2.out)
    have HB3 := Lib.hid (HB2.out.trans (hb3.mono HB2.out.size))
    have hs3 := hb3.size
    clear ow3 hb3 hpac hpl HPL
    obtain ⟨c0, c1, c2, c3, c4, c5⟩ := elf_box HX3.out
    have HNA := Lib.hid (ref4Names_any e L _ _ w3 (HAT.out.mono HB3.out) (by have := HL.out; omega))
    go_wp2_with fail
    clear c0 c1 c2 c3 c4 c5
    refine HNA.out.mono ?_
    rintro r w4 ⟨v4, rfl, ow4, hb4⟩
    have HX4 := Lib.hid (heap_below hb4 HX3.out)
    have HB4 := Lib.hid (HB3.out.trans (hb4.mono HB3.out.size))
    have hs4 := hb4.size
    have HBU := Lib.hid (ref3Build_any (namesOf e.secs) v4 w4 (by rw [namesOf_len]; have h1 := HEL.out; have h2 := HL.out; omega) (fun s hs => by
      unfold namesOf at hs
      rw [List.mem_append, List.mem_map, List.mem_singleton] at hs
      rcases hs with ⟨x, hx, rfl⟩ | rfl
      · exact HOK.out.names _ hx
      · decide) ow4.rd)
    rw [HK.out.ok] at HBU
    have HB34 := Lib.hid hb4
    clear ow4 hb4 HNA
    go_wp2_with fail
    refine HBU.out.mono ?_
    rintro r w5 ⟨v1, v2, rfl, ob1, ow2, hb5⟩
    have OB1 := Lib.hid (show OB w5 w4.heap.size v1 (tabOf e) from ob1)
    have HX5 := Lib.hid (heap_below hb5 HX4.out)
    have HB5w := Lib.hid (HB4.out.trans (hb5.mono HB4.out.size))
    have hs5 := hb5.size
    obtain ⟨tn, ta, tc, htn, rfl, _, _⟩ := ob1.bs.shape
    replace htn : Hid (tn = (tabOf e).length) := htn
    obtain ⟨aa, ac, rfl, hac, -, haac⟩ := (show Rd I64 w5 v2 (atsOf e) from (show Ow I64 3 w5 w4.heap.size v2 (atsOf e) from ow2).rd).open 0
    have HAC := Lib.hid haac
    have HPC : Hid (∀ j, j < (placesOf e).1.length → ∃ b off, pa = some ⟨b, off, none⟩ ∧ w5.cell? ⟨b, off + j, none⟩ = some (I64 ((placesOf e).1[j]?.getD 0))) := fun j hj => by
      obtain ⟨b, off, h1, h2⟩ := HPC3.out j hj
      have h3 := (HB34.out.cell (block_lt h2)).trans h2
      exact ⟨b, off, h1, (hb5.cell (block_lt h3)).trans h3⟩
    obtain ⟨al, hal⟩ : ∃ al, al = (atsOf e).length := ⟨_, rfl⟩
    have HAK := Lib.hid (atsOf_len HK.out)
    have hal2 : al = nl + 1 := by have h1 := HAK.out.1; have h2 := HEL.out; have h3 := HL.out; omega
    rw [← hal] at hac ⊢
    have HALN := Lib.hid hal
    clear ob1 ow2 hb5 HBU haac hal HPC3 HB34
    subst hal2
    have htl : tn ≤ 40000 := by have h1 := tabOf_len e; have h2 := htn.out; have h3 := HEL.out; have h4 := HL.out; omega
    have hpe9 : pe ≤ 4194304 := by have h1 := HK.out.len; have h2 := heads_ge (e := e); have h3 := HPE.out; omega
    have HU := Lib.hid (fun w => ref4Up_any (pe + tn) 8 w (by omega) (by decide) (by decide))
    obtain ⟨hd, hhdd⟩ : ∃ hd, hd = headsOf e tn := ⟨_, rfl⟩
    have HUD : Hid (upN (pe + tn) 8 = hd) := by rw [hhdd, HPE.out]; exact rfl
    have HHD : Hid (hd = headsOf e (tabOf e).length) := by rw [hhdd, htn.out]; exact rfl
    have hhd : hd + 64 * (nl + 2) ≤ 4194304 := by have h1 := HK.out.len; have h2 := HHD.out; have h3 := HEL.out; have h4 := HL.out; omega
    have HGE := Lib.hid (show pe + tn ≤ hd ∧ hd < pe + tn + 8 by have h1 := heads_ge (e := e); have h2 := HHD.out; have h3 := htn.out; have h4 := HPE.out; omega)
    rw [HUD.out] at HU
    have HMC := Lib.hid (fun w => ref4Machine_any e.target w)
    have hml := mach_le e.target
    have hG5 : w.heap.size < w5.heap.size := by omega
    clear hhdd HUD
    obtain ⟨c0, c1, c2, c3, c4, c5⟩ := elf_box HX5.out
    go_wp2_with (go_at_call 79; refine (HU.out _).mono ?_; rintro r w9 ⟨rfl, rfl⟩)
    clear c0 c1 c2 c3 c4 c5
    have hwt := u64of_cast e.typ
    have hut := u64of_lt e.typ
    have HFT := Lib.hid HOK.out.fits.flags
    have HEN := Lib.hid HOK.out.fits.entry
    have hflg := HOK.out.fits.flags
    refine (till_any [127, 69, 76, 70, 2, 1, 1] 9 16 _ _ w5.heap.size (by decide) rfl (ob_lit7 rfl rfl (by decide)) (by rw [World.size_alloc]; omega)).mono ?_
    rintro r w6 ⟨v6, rfl, ho, hb, -⟩
    have HV6 := Lib.hid ho
    have HB6 := Lib.hid ((below_alloc w5 _).trans hb)
    clear ho hb
    have hmt2 : ∃ mt, mt = mach e.target := ⟨_, rfl⟩
    obtain ⟨mt, hmt2⟩ := hmt2
    have hut2 : ∃ ut, ut = u64of e.typ := ⟨_, rfl⟩
    obtain ⟨ut, hut2⟩ := hut2
    rw [← hmt2] at HMC hml
    rw [← hut2] at hwt hut
    have HMTT := Lib.hid hmt2.symm
    have HUTT := Lib.hid hut2.symm
    clear hmt2 hut2
    obtain ⟨c0, c1, c2, c3, c4, c5⟩ := elf_box (heap_base HB6.out HX5.out hG5)
    go_wp2_with fail
    clear c0 c1 c2 c3 c4 c5
    refine (ref4Put_any _ ut 2 v6 _ w5.heap.size (by simp only [List.length_append, List.length_replicate, List.length_cons, List.length_nil]; omega) hut (by decide) HV6.out HB6.out.size).mono ?_
    rintro r w7 ⟨v7, rfl, ho, hb, hk⟩
    have HV7 := Lib.hid ho
    have HB7 := Lib.hid (HB6.out.trans hb)
    clear ho hb hk
    obtain ⟨c0, c1, c2, c3, c4, c5⟩ := elf_box (heap_base HB7.out HX5.out hG5)
    go_wp2_with (first
      | (go_at_call 76; refine (HMC.out _).mono ?_; rintro r w99 ⟨rfl, rfl⟩))
    clear c0 c1 c2 c3 c4 c5
    refine (ref4Put_any _ mt 2 v7 _ w5.heap.size (by simp only [List.length_append, length_fixed, List.length_replicate, List.length_cons, List.length_nil]; omega) (by omega) (by decide) HV7.out HB7.out.size).mono ?_
    rintro r w8 ⟨v8, rfl, ho, hb, hk⟩
    have HV8 := Lib.hid ho
    have HB8 := Lib.hid (HB7.out.trans hb)
    clear ho hb hk
    obtain ⟨c0, c1, c2, c3, c4, c5⟩ := elf_box (heap_base HB8.out HX5.out hG5)
    go_wp2_with fail
    clear c0 c1 c2 c3 c4 c5
    refine (ref4Put_any _ 1 4 v8 _ w5.heap.size (by simp only [List.length_append, length_fixed, List.length_replicate, List.length_cons, List.length_nil]; omega) (by decide) (by decide) HV8.out HB8.out.size).mono ?_
    rintro r w9 ⟨v9, rfl, ho, hb, hk⟩
    have HV9 := Lib.hid ho
    have HB9 := Lib.hid (HB8.out.trans hb)
    clear ho hb hk
    obtain ⟨c0, c1, c2, c3, c4, c5⟩ := elf_box (heap_base HB9.out HX5.out hG5)
    go_wp2_with fail
    clear c0 c1 c2 c3 c4 c5
    refine (ref4Put_any _ e.entry 8 v9 _ w5.heap.size (by simp only [List.length_append, length_fixed, List.length_replicate, List.length_cons, List.length_nil]; omega) HEN.out (by decide) HV9.out HB9.out.size).mono ?_
    rintro r w10 ⟨v10, rfl, ho, hb, hk⟩
    have HV10 := Lib.hid ho
    have HB10 := Lib.hid (HB9.out.trans hb)
    clear ho hb hk
    obtain ⟨c0, c1, c2, c3, c4, c5⟩ := elf_box (heap_base HB10.out HX5.out hG5)
    have hdec : (0 < gn) ∨ ¬ (0 < gn) := Classical.em _
    rcases hdec with hgs | hgs
    · go_wp2_with fail
      clear c0 c1 c2 c3 c4 c5
      refine (ref4Put_any _ 64 8 v10 _ w5.heap.size (by simp only [List.length_append, length_fixed, List.length_replicate, List.length_cons, List.length_nil]; omega) (by decide) (by decide) HV10.out HB10.out.size).mono ?_
      rintro r w11 ⟨v11, rfl, ho, hb, hk⟩
      have HV11 := Lib.hid ho
      have HB11 := Lib.hid (HB10.out.trans hb)
      clear ho hb hk
      obtain ⟨c0, c1, c2, c3, c4, c5⟩ := elf_box (heap_base HB11.out HX5.out hG5)
      go_wp2_with fail
      clear c0 c1 c2 c3 c4 c5
      refine (ref4Put_any _ hd 8 v11 _ w5.heap.size (by simp only [List.length_append, length_fixed, List.length_replicate, List.length_cons, List.length_nil]; omega) (by omega) (by decide) HV11.out HB11.out.size).mono ?_
      rintro r w12 ⟨v12, rfl, ho, hb, hk⟩
      have HV12 := Lib.hid ho
      have HB12 := Lib.hid (HB11.out.trans hb)
      clear ho hb hk
      obtain ⟨c0, c1, c2, c3, c4, c5⟩ := elf_box (heap_base HB12.out HX5.out hG5)
      go_wp2_with fail
      clear c0 c1 c2 c3 c4 c5
      refine (ref4Put_any _ e.flags 4 v12 _ w5.heap.size (by simp only [List.length_append, length_fixed, List.length_replicate, List.length_cons, List.length_nil]; omega) (by omega) (by decide) HV12.out HB12.out.size).mono ?_
      rintro r w13 ⟨v13, rfl, ho, hb, hk⟩
      have HV13 := Lib.hid ho
      have HB13 := Lib.hid (HB12.out.trans hb)
      clear ho hb hk
      obtain ⟨c0, c1, c2, c3, c4, c5⟩ := elf_box (heap_base HB13.out HX5.out hG5)
      have HF13 := Lib.hid (show OB w13 w5.heap.size v13 ([127, 69, 76, 70, 2, 1, 1] ++ List.replicate 9 0 ++ putL 2 [ut, mt] ++ putL 4 [1] ++ putL 8 [e.entry, 64, hd] ++ putL 4 [e.flags]) by
        have := HV13.out
        unfold putL
        simp only [List.append_assoc, List.flatMap_cons, List.flatMap_nil, List.append_nil] at this ⊢
        exact this)
      have hT0 : ∃ T, T = [127, 69, 76, 70, 2, 1, 1] ++ List.replicate 9 0 ++ putL 2 [ut, mt] ++ putL 4 [1] ++ putL 8 [e.entry, 64, hd] ++ putL 4 [e.flags] := ⟨_, rfl⟩
      obtain ⟨T0, hT0⟩ := hT0
      rw [← hT0] at HF13
      have HLT0 := Lib.hid (show T0.length = 52 by rw [hT0]; simp only [List.length_append, putL_len, List.length_replicate]; rfl)
      have HHB := Lib.hid (show headB e hd = T0 ++ putL 2 [64, 56, gn, 64, nl + 2, nl + 1] by
        rw [hT0]
        unfold headB segsB
        rw [show e.secs.length = nl by have h1 := HEL.out; have h2 := HL.out; omega, ← HGN.out, decide_eq_true hgs, HMTT.out, HUTT.out]
        rfl)
      clear hT0 HV13
      obtain ⟨sm, hsm⟩ : ∃ sm, sm = [64, 56, gn, 64, nl + 2, nl + 1] := ⟨_, rfl⟩
      rw [← hsm] at HHB
      have HSB := Lib.hid (show ∀ n ∈ sm, n ≤ 1000 by intro n hn; rw [hsm] at hn; simp only [List.mem_cons, List.not_mem_nil, or_false] at hn; omega)
      have HSL := Lib.hid (show sm.length = 6 by rw [hsm]; rfl)
      have HSA := Lib.hid (fun (w : World) => (show (w.alloc (.cells #[.int .i64 64, .int .i64 56, .int .i64 gn, .int .i64 64, .int .i64 ((nl : Int) + 2), .int .i64 ((nl : Int) + 1)] 3)).heap[w.heap.size]? = some (.cells (sm.map I64).toArray 3 (0, 0)) by rw [hsm]; exact heap_alloc_last w _))
      have hvs : ∃ m ad cap, v13 = .slice ad m cap := by obtain ⟨m, ad, cap, -, h, -⟩ := HF13.out.shape; exact ⟨m, ad, cap, h⟩
      obtain ⟨mv, av, cv, rfl⟩ := hvs
      clear hsm
      go_wp2
      have HS14 := Lib.hid (HSA.out w13)
      go_loopw [11, 13] (fun x i wr => ∃ k : Nat, i = .int .i64 k ∧ k ≤ 6 ∧ Hid (OB wr w5.heap.size x (T0 ++ putL 2 (sm.take k))) ∧ Hid (Below w5.heap.size w5 wr) ∧ Hid (wr.heap[w13.heap.size]? = some (.cells (sm.map I64).toArray 3 (0, 0)))) (fun _ i _ => 6 - (intOf i).toNat)
      case atStart => exact ⟨0, rfl, by omega, by have := HF13.out.mono (below_alloc w13 (.cells #[.int .i64 64, .int .i64 56, .int .i64 gn, .int .i64 64, .int .i64 ((nl : Int) + 2), .int .i64 ((nl : Int) + 1)] 3)); simpa [Hid, putL] using this, HB13.out.trans ((below_alloc w13 _).mono HB13.out.size), HS14.out⟩
      case round =>
        clear c0 c1 c2 c3 c4 c5
        obtain ⟨k, rfl, hk, HO, HB, HS⟩ := hrel
        by_cases hlt : k < 6
        · have X1 := Lib.hid (show sm[k]? = some (sm[k]'(by have := HSL.out; omega)) from List.getElem?_eq_getElem _)
          generalize sm[k]'(by have := HSL.out; omega) = n at *
          have hn1 := HSB.out n (List.mem_of_getElem? X1.out)
          have cS := cell_rec HS.out k
          rw [List.getElem?_toArray, List.getElem?_map, X1.out] at cS
          simp only [Option.map_some] at cS
          have HST := Lib.hid (show putL 2 (sm.take (k + 1)) = putL 2 (sm.take k) ++ fixed n 2 from flatf_step X1.out)
          have HTL := Lib.hid (show (T0 ++ putL 2 (sm.take k)).length ≤ 100 by rw [List.length_append, HLT0.out, putL_len, List.length_take]; omega)
          have HV20 := HO
          have HB20 := HB
          go_wp2_with fail
          refine (ref4Put_any _ n 2 _ _ w5.heap.size (by have := HTL.out; omega) (by omega) (by decide) HV20.out HB20.out.size).mono ?_
          rintro r w21 ⟨v21, rfl, ho, hb, hk⟩
          have HV21 := Lib.hid ho
          have HB21 := Lib.hid (HB20.out.trans hb)
          have HS21 := Lib.hid (keep_h hk (by decide) HS.out)
          clear ho hb hk
          have HF21 := Lib.hid (show OB w21 w5.heap.size v21 (T0 ++ putL 2 (sm.take (k + 1))) by rw [HST.out, ← List.append_assoc]; exact HV21.out)
          go_wp2
          go_roundw
          case rel =>
            first
              | exact ⟨k + 1, by go_num, by omega, HF21.out, HB21.out, HS21.out⟩
              | ((repeat apply Exists.intro); exact ⟨⟨k + 1, by go_num, by omega, HF21.out, HB21.out, HS21.out⟩, rfl⟩)
          case measure => simp [intOf] <;> omega
        · obtain rfl : k = 6 := by omega
          have HF22 := Lib.hid (show OB wr w5.heap.size u11 (headB e hd) by
            rw [HHB.out]
            have := HO.out
            rw [List.take_of_length_le (by have := HSL.out; omega)] at this
            exact this)
          have HB22 := Lib.hid HB.out
          have HLH := Lib.hid (headB_len e hd)
          clear HO HB HS HS14 HSA HHB HF13
          obtain ⟨c0, c1, c2, c3, c4, c5⟩ := elf_box (heap_base HB22.out HX5.out hG5)
          go_wp2
          go_loopw [11, 14] (fun x i wr => ∃ k : Nat, i = .int .i64 k ∧ k ≤ gn ∧ Hid (OB wr w5.heap.size x (headB e hd ++ (e.segs.take k).flatMap segBy)) ∧ Hid (Below w5.heap.size w5 wr)) (fun _ i _ => gn - (intOf i).toNat)
          case atStart => exact ⟨0, rfl, Nat.zero_le _, by simpa [Hid] using HF22.out, HB22.out⟩
          case round =>
            clear c0 c1 c2 c3 c4 c5
            obtain ⟨k, rfl, hk, HO, HB⟩ := hrel
            have HBW := Lib.hid (HB5w.out.trans (HB.out.mono (by omega)))
            obtain ⟨c0, c1, c2, c3, c4, c5⟩ := elf_box (heap_base HB.out HX5.out hG5)
            by_cases hlt : k < gn
            · clear c0 c1 c2 c3 c4
              have X1 := Lib.hid (show e.segs[k]? = some (e.segs[k]'(by have := HGN.out; omega)) from List.getElem?_eq_getElem _)
              generalize e.segs[k]'(by have := HGN.out; omega) = x at *
              obtain ⟨b1, o1, ha, c10, c11, c12, c13, c14, c15, c16, -⟩ := seg_cells HCG.out HBW.out X1.out
              subst ha
              have HFS := Lib.hid (HOK.out.fits.segs _ (List.mem_of_getElem? X1.out))
              have HST : Hid ((e.segs.take (k + 1)).flatMap segBy = (e.segs.take k).flatMap segBy ++ segBy x) := by rw [List.take_add_one, X1.out, List.flatMap_append]; simp [Hid]
              have HTL := Lib.hid (show (headB e hd ++ (e.segs.take k).flatMap segBy).length ≤ 5000 by
                rw [List.length_append, headB_len, flat_len' segBy_len, List.length_take]; omega)
              obtain ⟨typ, flags, off, vaddr, filesz, memsz, align⟩ := x
              generalize hT : headB e hd ++ (e.segs.take k).flatMap segBy = T at *
              have HT := Lib.hid hT
              clear hT
              dsimp only at *
              have hty : typ < 4294967296 := HFS.out.1
              have hfl : flags < 4294967296 := HFS.out.2.1
              go_wp2_with (first
                | ((with_reducible show wpList _ _ _ (⟨none, .store _ _ _, _, _, _, _⟩ :: _) _ _); go_must (refine wpList_storeNew rfl rfl (by kernel_rfl) rfl (by simp [Value.oneCell']) ?_; intro w26 hh26 hb26; obtain ⟨e0, e1, e2, e3, e4, e5, e6⟩ := seg_box (x := ⟨typ, flags, off, vaddr, filesz, memsz, align⟩) hh26; have HH26 := Lib.hid hh26; have HV26 := Lib.hid (HO.out.mono hb26); have HB26 := Lib.hid (HB.out.trans (hb26.mono HB.out.size)); clear hb26 hh26)))
              clear c5 c10 c11 c12 c13 c14 c15 c16
              refine (ref4Put_any _ typ 4 _ _ w5.heap.size (by have := HTL.out; omega) (by omega) (by decide) HV26.out HB26.out.size).mono ?_
              rintro r w27 ⟨v27, rfl, ho, hb, hk⟩
              have HV27 := Lib.hid ho
              have HB27 := Lib.hid (HB26.out.trans hb)
              have HH27 := Lib.hid (keep_h hk (by decide) HH26.out)
              clear ho hb hk
              clear e0 e1 e2 e3 e4 e5 e6
              obtain ⟨e0, e1, e2, e3, e4, e5, e6⟩ := seg_box (x := ⟨typ, flags, off, vaddr, filesz, memsz, align⟩) HH27.out
              go_wp2_with fail
              refine (ref4Put_any _ flags 4 v27 _ w5.heap.size (by have := HTL.out; rw [List.length_append, length_fixed]; omega) (by omega) (by decide) HV27.out HB27.out.size).mono ?_
              rintro r w28 ⟨v28, rfl, ho, hb, hk⟩
              have HV28 := Lib.hid ho
              have HB28 := Lib.hid (HB27.out.trans hb)
              have HH28 := Lib.hid (keep_h hk (by decide) HH27.out)
              clear ho hb hk
              clear e0 e1 e2 e3 e4 e5 e6
              obtain ⟨e0, e1, e2, e3, e4, e5, e6⟩ := seg_box (x := ⟨typ, flags, off, vaddr, filesz, memsz, align⟩) HH28.out
              obtain ⟨sx, hsx⟩ : ∃ sx, sx = [off, vaddr, vaddr, filesz, memsz, align] := ⟨_, rfl⟩
              have HSX := Lib.hid hsx
              have HXB := Lib.hid (show ∀ n ∈ sx, n < 18446744073709551616 by
                intro n hn
                have h1 := HFS.out.2.2.1
                have h2 := HFS.out.2.2.2.1
                have h3 := HFS.out.2.2.2.2.1
                have h4 := HFS.out.2.2.2.2.2.1
                have h5 := HFS.out.2.2.2.2.2.2
                rw [hsx] at hn
                simp only [List.mem_cons, List.not_mem_nil, or_false] at hn
                dsimp only at h1 h2 h3 h4 h5
                omega)
              have HXL := Lib.hid (show sx.length = 6 by rw [hsx]; rfl)
              have HS29 := Lib.hid (show (w28.alloc (.cells #[.int .u64 off, .int .u64 vaddr, .int .u64 vaddr, .int .u64 filesz, .int .u64 memsz, .int .u64 align] 53)).heap[w28.heap.size]? = some (.cells (sx.map U64).toArray 53 (0, 0)) by rw [hsx]; exact heap_alloc_last w28 _)
              have HL28 := Lib.hid (show (T ++ fixed typ 4 ++ fixed flags 4).length ≤ 5008 by rw [List.length_append, List.length_append, length_fixed, length_fixed]; have := HTL.out; omega)
              generalize hT2 : T ++ fixed typ 4 ++ fixed flags 4 = T2 at *
              have HT2 := Lib.hid hT2
              clear hsx hT2
              go_wp2
              go_loopw [11, 17] (fun x i wr => ∃ j : Nat, i = .int .i64 j ∧ j ≤ 6 ∧ Hid (OB wr w5.heap.size x (T2 ++ putL 8 (sx.take j))) ∧ Hid (Below w5.heap.size w5 wr) ∧ Hid (wr.heap[w28.heap.size]? = some (.cells (sx.map U64).toArray 53 (0, 0)))) (fun _ i _ => 6 - (intOf i).toNat)
              case atStart => exact ⟨0, rfl, by omega, by have := HV28.out.mono (below_alloc w28 (.cells #[.int .u64 off, .int .u64 vaddr, .int .u64 vaddr, .int .u64 filesz, .int .u64 memsz, .int .u64 align] 53)); simpa [Hid, putL] using this, HB28.out.trans ((below_alloc w28 _).mono HB28.out.size), HS29.out⟩
              case round =>
                clear e0 e1 e2 e3 e4 e5 e6
                obtain ⟨j, rfl, hj, HO, HB, HS⟩ := hrel
                by_cases hlt2 : j < 6
                · have X2 := Lib.hid (show sx[j]? = some (sx[j]'(by have := HXL.out; omega)) from List.getElem?_eq_getElem _)
                  generalize sx[j]'(by have := HXL.out; omega) = n at *
                  have HN1 := Lib.hid (HXB.out n (List.mem_of_getElem? X2.out))
                  have cS := cell_rec HS.out j
                  rw [List.getElem?_toArray, List.getElem?_map, X2.out] at cS
                  simp only [Option.map_some] at cS
                  have HST2 := Lib.hid (show putL 8 (sx.take (j + 1)) = putL 8 (sx.take j) ++ fixed n 8 from flatf_step X2.out)
                  have HTL2 := Lib.hid (show (T2 ++ putL 8 (sx.take j)).length ≤ 6000 by rw [List.length_append, putL_len, List.length_take]; have := HL28.out; omega)
                  have HV30 := HO
                  have HB30 := HB
                  go_wp2_with fail
                  refine (ref4Put_any _ n 8 _ _ w5.heap.size (by have := HTL2.out; omega) HN1.out (by decide) HV30.out HB30.out.size).mono ?_
                  rintro r w31 ⟨v31, rfl, ho, hb, hk⟩
                  have HV31 := Lib.hid ho
                  have HB31 := Lib.hid (HB30.out.trans hb)
                  have HS31 := Lib.hid (keep_h hk (by decide) HS.out)
                  clear ho hb hk
                  have HF31 := Lib.hid (show OB w31 w5.heap.size v31 (T2 ++ putL 8 (sx.take (j + 1))) by rw [HST2.out, ← List.append_assoc]; exact HV31.out)
                  go_wp2
                  go_roundw
                  case rel =>
                    first
                      | exact ⟨j + 1, by go_num, by omega, HF31.out, HB31.out, HS31.out⟩
                      | ((repeat apply Exists.intro); exact ⟨⟨j + 1, by go_num, by omega, HF31.out, HB31.out, HS31.out⟩, rfl⟩)
                  case measure => simp [intOf] <;> omega
                · obtain rfl : j = 6 := by omega
                  have HF32 := Lib.hid (show OB wr w5.heap.size u11 (headB e hd ++ (e.segs.take (k + 1)).flatMap segBy) by
                    rw [HST.out, ← List.append_assoc, HT.out]
                    have := HO.out
                    rw [List.take_of_length_le (by have := HXL.out; omega), ← HT2.out, HSX.out] at this
                    unfold segBy
                    rw [show putL 4 [typ, flags] = fixed typ 4 ++ fixed flags 4 by simp [putL]]
                    simp only [List.append_assoc] at this ⊢
                    exact this)
                  have HB32 := Lib.hid HB.out
                  clear HO HB
                  go_wp2
                  go_roundw
                  case rel =>
                    first
                      | exact ⟨k + 1, by go_num, by omega, HF32.out, HB32.out⟩
                      | ((repeat apply Exists.intro); exact ⟨⟨k + 1, by go_num, by omega, HF32.out, HB32.out⟩, rfl⟩)
                  case measure => simp [intOf] <;> omega
            · have hkn : e.segs.take k = e.segs := List.take_of_length_le (by have := HGN.out; omega)
              have HFR := Lib.hid (show OB wr w5.heap.size u11 (frontB e) by
                have := HO.out
                rw [hkn] at this
                unfold frontB
                rw [← HHD.out]
                exact this)
              have HBR := Lib.hid HB.out
              clear HO HB hkn
              obtain ⟨c0, c1, c2, c3, c4, c5⟩ := elf_box (heap_base HBR.out HX5.out hG5)
              go_wp2
              go_loopw [11, 18] (fun x i wr => ∃ k : Nat, i = .int .i64 k ∧ k ≤ nl ∧ Hid (OB wr w5.heap.size x (bodyF (frontB e) ((e.secs.zip (placesOf e).1).take k))) ∧ Hid (Below w5.heap.size w5 wr)) (fun _ i _ => nl - (intOf i).toNat)
              case atStart => exact ⟨0, rfl, Nat.zero_le _, HFR.out, HBR.out⟩
              case round =>
                clear c0 c1 c2 c3 c4 c5
                obtain ⟨k, rfl, hk, HO, HB⟩ := hrel
                have HBW := Lib.hid (HB5w.out.trans (HB.out.mono (by omega)))
                by_cases hlt : k < nl
                · obtain ⟨c0, c1, c2, c3, c4, c5⟩ := elf_box (heap_base HB.out HX5.out hG5)
                  clear c0 c1 c2 c3 c5
                  have X1 := Lib.hid (show L[k]? = some (L[k]'(by have := HL.out; omega)) from List.getElem?_eq_getElem _)
                  generalize L[k]'(by have := HL.out; omega) = x at *
                  obtain ⟨s, dv⟩ := x
                  have HDB := Lib.hid (HD.out _ (List.mem_of_getElem? X1.out))
                  obtain ⟨dm, da, dc, hdm, rfl, _, _⟩ := HDB.out.shape
                  have X2 := Lib.hid (HSE.out _ _ X1.out)
                  have HZP := Lib.hid (zipP (g := segsB e) (n := front e) X2.out)
                  have HFN := Lib.hid (HK.out.fine _ (List.mem_of_getElem? X2.out))
                  have HST := Lib.hid (show bodyF (frontB e) ((e.secs.zip (placesOf e).1).take (k + 1)) = bodyF (frontB e) ((e.secs.zip (placesOf e).1).take k) ++ List.replicate (placeS (segsB e) (plF (segsB e) (front e) (e.secs.take k)).2 s - (bodyF (frontB e) ((e.secs.zip (placesOf e).1).take k)).length) 0 ++ s.data from bodyF_step (acc := frontB e) HZP.out)
                  have HLN := Lib.hid (body_len (g := segsB e) (frontB_len e) HK.out.pow k (by have h1 := HEL.out; have h2 := HL.out; omega))
                  have HLE := Lib.hid (placeS_le (g := segsB e) (p := (plF (segsB e) (front e) (e.secs.take k)).2) (HK.out.pow _ (List.mem_of_getElem? X2.out)))
                  have HPB := Lib.hid (place_bd HK.out (k + 1))
                  rw [plF_step X2.out] at HPB
                  have hp9 : placeS (segsB e) (plF (segsB e) (front e) (e.secs.take k)).2 s + dm ≤ 4194304 := by
                    have h1 : placeS (segsB e) (plF (segsB e) (front e) (e.secs.take k)).2 s + s.data.length ≤ (placesOf e).2 := HPB.out
                    have h3 := HPE.out
                    have h4 := hdm.out
                    dsimp only at h4
                    omega
                  obtain ⟨b1, o1, ha, c10, c11, c12, c13, c14, c15, c16, c17, c18, c19, hb1lt⟩ := sec_cells HC.out HBW.out X1.out
                  subst ha
                  clear c10 c12 c13 c14 c15 c16 c17 c18
                  obtain ⟨bP, oP, hP1, cP⟩ := HPC.out k (by have := HPLN.out; omega)
                  have HPGx : (placesOf e).1[k]? = some (placeS (segsB e) (plF (segsB e) (front e) (e.secs.take k)).2 s) := plF_get (g := segsB e) (n := front e) X2.out
                  rw [HPGx] at cP
                  simp only [Option.getD_some] at cP
                  replace cP := (HB.out.cell (block_lt cP)).trans cP
                  subst hP1
                  have HPGY := Lib.hid HPGx
                  generalize hT : bodyF (frontB e) ((e.secs.zip (placesOf e).1).take k) = T at *
                  have HT := Lib.hid hT
                  have HTL := Lib.hid (show T.length = (plF (segsB e) (front e) (e.secs.take k)).2 by rw [← hT]; exact HLN.out)
                  have HP8 : Hid (s.typ = 8 → placeS (segsB e) (plF (segsB e) (front e) (e.secs.take k)).2 s = T.length ∧ s.data = []) := fun h8 => by
                    refine ⟨?_, ?_⟩
                    · rw [HTL.out]; unfold placeS; rw [if_pos h8]
                    · have h1 := HFN.out
                      unfold fineB at h1
                      rw [if_pos h8] at h1
                      simp only [Bool.and_eq_true, decide_eq_true_eq] at h1
                      exact List.eq_nil_of_length_eq_zero h1.2.1
                  generalize placeS (segsB e) (plF (segsB e) (front e) (e.secs.take k)).2 s = p at *
                  obtain ⟨d, hd1⟩ : ∃ d, p = T.length + d := ⟨p - T.length, by have h1 := HLE.out.1; have h2 := HTL.out; omega⟩
                  have HD1 := Lib.hid hd1
                  clear hT HPGx hd1
                  obtain ⟨name, typ, flags, addr, align, size, link, info, ent, data⟩ := s
                  dsimp only at *
                  by_cases h8 : typ = 8
                  · have h8' : ((typ : Int) != 8) = false := by rw [bne_eq_false_iff_eq]; omega
                    obtain ⟨hpT, hdn⟩ := HP8.out h8
                    have hdm0 : dm = 0 := by have := hdm.out; rw [hdn] at this; simpa using this
                    have hdz : ¬ (0 < dm) := by omega
                    have HF40 := Lib.hid (show OB wr w5.heap.size u11 (bodyF (frontB e) ((e.secs.zip (placesOf e).1).take (k + 1))) by
                      rw [HST.out, hdn, hpT, Nat.sub_self, List.replicate_zero, List.append_nil, List.append_nil]
                      exact HO.out)
                    have HX8 := Lib.hid h8
                    have HX9 := Lib.hid hdm0
                    clear h8 hdm0 hpT hdn
                    go_wp2
                    go_roundw
                    case rel =>
                      first
                        | exact ⟨k + 1, by go_num, by omega, HF40.out, HB.out⟩
                        | ((repeat apply Exists.intro); exact ⟨⟨k + 1, by go_num, by omega, HF40.out, HB.out⟩, rfl⟩)
                    case measure => simp [intOf] <;> omega
                  · have h8' : ((typ : Int) != 8) = true := by rw [bne_iff_ne]; omega
                    have HX8 := Lib.hid h8
                    clear h8
                    have hdd : 0 < dm ∨ ¬ (0 < dm) := Classical.em _
                    rcases hdd with hdd | hdd
                    all_goals
                      have HVD := Lib.hid (show OB wr.drew w5.heap.size u11 T from HO.out.mono ((Below.refl _ _).drew))
                      have HBD := Lib.hid (HB.out.trans (show Below w5.heap.size wr wr.drew from (Below.refl _ _).drew))
                      have HL1 := Lib.hid (show T.length + d ≤ 1000000000 by have := HD1.out; omega)
                      have HZ1 := Lib.hid (show (p : Int) = ((T.length + d : Nat) : Int) by rw [HD1.out])
                      have HLEN := Lib.hid (show (T ++ List.replicate d 0).length + data.length ≤ 140737488355328 by rw [List.length_append, List.length_replicate]; have h1 := HD1.out; have h2 := hdm.out; omega)
                      have HPD := Lib.hid (show p - T.length = d by have := HD1.out; omega)
                      go_wp2
                      go_region_law (first
                        | (refine step_catB rfl (.tmp 174) (.tmp 180) rfl HV40.out HD40.out rfl rfl HLEN.out HB40.out.size ?_; intro v41 w41 hv41 hg41; have HV41 := Lib.hid hv41; have HB41 := Lib.hid (HB40.out.trans (below_of_grown hg41 HB40.out.size fun k hk => (World.ownsRow.lt HV40.out k hk).1)); clear hv41 hg41)
                        | (go_simp; go_at_call 80; refine (till_any T d _ _ _ w5.heap.size HL1.out HZ1.out HVD.out HBD.out.size).mono ?_; rintro r w40 ⟨v40, rfl, ho, hb, -⟩; have HV40 := Lib.hid ho; have HB40 := Lib.hid (HBD.out.trans hb); have HD40 := Lib.hid (HDB.out.mono (HB5w.out.trans (HB40.out.mono (by omega)))); have k4 := (hb.cell (p := ⟨w.heap.size, 4, none⟩) hG5).trans c4; have k19 := (hb.cell (p := ⟨b1, o1 + k * 10 + 9, none⟩) (by show b1 < _; omega)).trans c19; clear ho hb))
                      all_goals
                        have HF41 := Lib.hid (show OB w41 w5.heap.size v41 (bodyF (frontB e) ((e.secs.zip (placesOf e).1).take (k + 1))) by rw [HST.out, HPD.out]; exact HV41.out)
                        clear c4 k4 k19 c19 c11
                        go_wp2
                        go_roundw
                        case rel =>
                          first
                            | exact ⟨k + 1, by go_num, by omega, HF41.out, HB41.out⟩
                            | ((repeat apply Exists.intro); exact ⟨⟨k + 1, by go_num, by omega, HF41.out, HB41.out⟩, rfl⟩)
                        case measure => simp [intOf] <;> omega
                · have hkn : (e.secs.zip (placesOf e).1).take k = e.secs.zip (placesOf e).1 := List.take_of_length_le (by rw [List.length_zip]; have h1 := HEL.out; have h2 := HL.out; omega)
                  have HV42 := Lib.hid (show OB wr w5.heap.size u11 (bodyB e) by
                    have := HO.out
                    rw [hkn] at this
                    exact this)
                  have HBL := Lib.hid (show (bodyB e).length = pe by rw [bodyB_len HK.out.pow, ← HPE.out])
                  have HB42 := Lib.hid HB.out
                  obtain ⟨c0, c1, c2, c3, c4, c5⟩ := elf_box (heap_base HB.out HX5.out hG5)
                  clear HO HB hkn c0 c1 c2 c3 c5
                  go_wp2_with fail
                  clear c4
                  refine (till_any (bodyB e) 0 (pe : Int) _ wr w5.heap.size (by have h1 := HBL.out; omega) (by rw [HBL.out]; rfl) HV42.out HB42.out.size).mono ?_
                  rintro r w43 ⟨v43, rfl, ho, hb, -⟩
                  rw [List.replicate_zero, List.append_nil] at ho
                  have HV43 := Lib.hid ho
                  have HB43 := Lib.hid (HB42.out.trans hb)
                  have HTB := Lib.hid (OB1.out.bs.mono HB43.out)
                  clear ho hb
                  go_wp2_with ((with_reducible show wpList _ _ _ (⟨some 186, _, _, _, _, _⟩ :: _) _ _); go_must (refine wpList_catB HV43.out HTB.out rfl rfl (by have h1 := HBL.out; have h2 := htn.out; omega) HB43.out.size ?_; intro v44 w44 hv44 hg44 hb44; have HV44 := Lib.hid hv44; have HB44 := Lib.hid (HB43.out.trans hb44); clear hv44 hg44 hb44))
                  have HTN : Hid ((bodyB e ++ tabOf e).length = pe + tn) := by
                    show _ = _
                    rw [List.length_append, HBL.out, ← htn.out]
                  obtain ⟨dd, hdd⟩ : ∃ dd, hd + 64 = pe + tn + dd := ⟨hd + 64 - (pe + tn), by have := HGE.out.1; omega⟩
                  have HDD := Lib.hid hdd
                  clear hdd
                  refine (till_any (bodyB e ++ tabOf e) dd ((hd : Int) + 64) _ w44 w5.heap.size (by rw [HTN.out]; have := HDD.out; omega) (by rw [HTN.out]; have := HDD.out; omega) HV44.out HB44.out.size).mono ?_
                  rintro r w45 ⟨v45, rfl, ho, hb, -⟩
                  have HV45 := Lib.hid (show OB w45 w5.heap.size v45 (midB e) by
                    unfold midB
                    rw [← HHD.out, ← HPE.out, ← htn.out, show hd + 64 - (pe + tn) = dd by have := HDD.out; omega]
                    exact ho)
                  have HB45 := Lib.hid (HB44.out.trans hb)
                  have HML := Lib.hid (show (midB e).length = hd + 64 by rw [midB_len HK.out, ← HHD.out])
                  clear ho hb
                  go_wp2
                  go_loopw [11, 19] (fun x i wr => ∃ k : Nat, i = .int .i64 k ∧ k ≤ nl ∧ Hid (OB wr w5.heap.size x (midB e ++ ((e.secs.zip ((atsOf e).zip (placesOf e).1)).take k).flatMap fun p => hdrBy p.2.1 p.1 p.2.2)) ∧ Hid (Below w5.heap.size w5 wr)) (fun _ i _ => nl - (intOf i).toNat)
                  case atStart => exact ⟨0, rfl, Nat.zero_le _, by simpa [Hid] using HV45.out, HB45.out⟩
                  case round =>
                    obtain ⟨k, rfl, hk, HO, HB⟩ := hrel
                    have HBW := Lib.hid (HB5w.out.trans (HB.out.mono (by omega)))
                    obtain ⟨c0, c1, c2, c3, c4, c5⟩ := elf_box (heap_base HB.out HX5.out hG5)
                    clear c0 c1 c2 c3 c5
                    by_cases hlt : k < nl
                    · have X1 := Lib.hid (show L[k]? = some (L[k]'(by have := HL.out; omega)) from List.getElem?_eq_getElem _)
                      generalize L[k]'(by have := HL.out; omega) = x at *
                      obtain ⟨s, dv⟩ := x
                      obtain ⟨dm, da, dc, hdm, rfl, _, _⟩ := (HD.out _ (List.mem_of_getElem? X1.out)).shape
                      have X2 := Lib.hid (HSE.out _ _ X1.out)
                      have HFS := Lib.hid (HOK.out.fits.secs _ (List.mem_of_getElem? X2.out))
                      obtain ⟨b1, o1, ha, c10, c11, c12, c13, c14, c15, c16, c17, c18, c19, -⟩ := sec_cells HC.out HBW.out X1.out
                      subst ha
                      have XA := Lib.hid (show (atsOf e)[k]? = some ((atsOf e)[k]'(by have := HALN.out; omega)) from List.getElem?_eq_getElem _)
                      have XP := Lib.hid (show (placesOf e).1[k]? = some ((placesOf e).1[k]'(by have := HPLN.out; omega)) from List.getElem?_eq_getElem _)
                      have hpbx : ∀ x, (placesOf e).1[k]? = some x → x ≤ 4194304 := fun x hx => by
                        have h2 := plF_get (g := segsB e) (n := front e) X2.out
                        have h3 : (placesOf e).1[k]? = some (placeS (segsB e) (plF (segsB e) (front e) (e.secs.take k)).2 s) := h2
                        rw [h3] at hx
                        injection hx with hx
                        have h4 := place_bd HK.out (k + 1)
                        rw [plF_step X2.out] at h4
                        have h5 : placeS (segsB e) (plF (segsB e) (front e) (e.secs.take k)).2 s + s.data.length ≤ (placesOf e).2 := h4
                        have h6 := HPE.out
                        omega
                      have hab : (atsOf e)[k]'(by have := HALN.out; omega) ≤ 130000 := HAK.out.2 _ (List.getElem_mem _)
                      obtain ⟨bA, oA, hA1, cA⟩ := HAC.out k (by have := HALN.out; omega)
                      obtain ⟨bP, oP, hP1, cP⟩ := HPC.out k (by have := HPLN.out; omega)
                      rw [XA.out] at cA
                      rw [XP.out] at cP
                      have HST : Hid (((e.secs.zip ((atsOf e).zip (placesOf e).1)).take (k + 1)).flatMap (fun p => hdrBy p.2.1 p.1 p.2.2) = ((e.secs.zip ((atsOf e).zip (placesOf e).1)).take k).flatMap (fun p => hdrBy p.2.1 p.1 p.2.2) ++ hdrBy ((atsOf e)[k]'(by have := HALN.out; omega)) s ((placesOf e).1[k]'(by have := HPLN.out; omega))) := by
                        rw [List.take_add_one, show (e.secs.zip ((atsOf e).zip (placesOf e).1))[k]? = some (s, _, _) by rw [List.getElem?_zip_eq_some]; exact ⟨X2.out, by rw [List.getElem?_zip_eq_some]; exact ⟨XA.out, XP.out⟩⟩, List.flatMap_append]
                        simp [Hid]
                      have hpb := hpbx _ XP.out
                      clear hpbx
                      generalize (atsOf e)[k]'(by have := HALN.out; omega) = na at *
                      generalize (placesOf e).1[k]'(by have := HPLN.out; omega) = pl at *
                      simp only [Option.getD_some] at cA cP
                      replace cA := (HB.out.cell (block_lt cA)).trans cA
                      replace cP := (HB.out.cell (block_lt cP)).trans cP
                      subst hA1
                      subst hP1
                      have HTL := Lib.hid (show (midB e ++ ((e.secs.zip ((atsOf e).zip (placesOf e).1)).take k).flatMap fun p => hdrBy p.2.1 p.1 p.2.2).length ≤ 8000000 by
                        rw [List.length_append, HML.out, flat_len' (f := fun p : SecM × Nat × Nat => hdrBy p.2.1 p.1 p.2.2) (fun p => hdrBy_len p.2.1 p.1 p.2.2), List.length_take]
                        omega)
                      generalize hT : (midB e ++ ((e.secs.zip ((atsOf e).zip (placesOf e).1)).take k).flatMap fun p => hdrBy p.2.1 p.1 p.2.2) = T at *
                      have HT := Lib.hid hT
                      have hAB := fun (x : Above wr) (b k : Nat) (h : b < wr.heap.size) => Above.cell x b k h
                      have hbltA : bA < wr.heap.size := block_lt cA
                      have hbltP : bP < wr.heap.size := block_lt cP
                      have hbltE : w.heap.size < wr.heap.size := block_lt c4
                      have hblt1 : b1 < wr.heap.size := block_lt c10
                      clear hT
                      go_wp2
                      refine wp_region_walk 14 [] (by kernel_rfl) (by kernel_rfl) ?_
                      simp only [List.take_succ_cons, List.take_zero, List.drop_succ_cons, List.drop_zero]
                      repeat (refine walk_quiet rfl rfl rfl ?_; intro K hK; go_big_quiet_op; go_big_quiet_on)
                      refine walk_nil ?_
                      intro wz hbz hF
                      have HVz := Lib.hid (HO.out.mono hbz)
                      have HBz := Lib.hid (HB.out.trans (hbz.mono HB.out.size))
                      clear hF hbz hAB hbltA hbltP hbltE hblt1 cA cP c4 c10 c11 c12 c13 c14 c15 c16 c17 c18 c19
                      go_wp2_with fail
                      refine (header_any T na pl s (.slice da dm dc) _ wz w5.heap.size (by have := HTL.out; omega) (by omega) (by omega) HFS.out rfl HVz.out HBz.out.size).mono ?_
                      rintro r w46 ⟨v46, rfl, ho, hb, -⟩
                      have HF46 := Lib.hid (show OB w46 w5.heap.size v46 (midB e ++ ((e.secs.zip ((atsOf e).zip (placesOf e).1)).take (k + 1)).flatMap fun p => hdrBy p.2.1 p.1 p.2.2) by
                        rw [HST.out, ← List.append_assoc, HT.out]
                        exact ho)
                      have HB46 := Lib.hid (HBz.out.trans hb)
                      clear ho hb
                      go_wp2
                      go_roundw
                      case rel =>
                        first
                          | exact ⟨k + 1, by go_num, by omega, HF46.out, HB46.out⟩
                          | ((repeat apply Exists.intro); exact ⟨⟨k + 1, by go_num, by omega, HF46.out, HB46.out⟩, rfl⟩)
                      case measure => simp [intOf] <;> omega
                    · have hkn : (e.secs.zip ((atsOf e).zip (placesOf e).1)).take k = e.secs.zip ((atsOf e).zip (placesOf e).1) := List.take_of_length_le (by rw [List.length_zip]; have h1 := HEL.out; have h2 := HL.out; omega)
                      have HV50 := Lib.hid (show OB wr w5.heap.size u11 (midB e ++ hdrsB e) by
                        have := HO.out
                        rw [hkn] at this
                        exact this)
                      have HB50 := Lib.hid HB.out
                      have HTL := Lib.hid (show (midB e ++ hdrsB e).length ≤ 8000000 by
                        unfold hdrsB
                        rw [List.length_append, HML.out, flat_len' (f := fun p : SecM × Nat × Nat => hdrBy p.2.1 p.1 p.2.2) (fun p => hdrBy_len p.2.1 p.1 p.2.2), List.length_zip]
                        have h1 := HEL.out
                        have h2 := HL.out
                        have h3 : min e.secs.length ((atsOf e).zip (placesOf e).1).length ≤ e.secs.length := Nat.min_le_left _ _
                        omega)
                      have XA := Lib.hid (show (atsOf e)[nl]? = some ((atsOf e)[nl]'(by have := HALN.out; omega)) from List.getElem?_eq_getElem _)
                      have hab : (atsOf e)[nl]'(by have := HALN.out; omega) ≤ 130000 := HAK.out.2 _ (List.getElem_mem _)
                      obtain ⟨bA, oA, hA1, cA⟩ := HAC.out nl (by have := HALN.out; omega)
                      rw [XA.out] at cA
                      generalize (atsOf e)[nl]'(by have := HALN.out; omega) = na at *
                      simp only [Option.getD_some] at cA
                      replace cA := (HB.out.cell (block_lt cA)).trans cA
                      subst hA1
                      have HFB : Hid (fileB e = midB e ++ hdrsB e ++ hdrBy na (tabSec tn) pe) := by
                        unfold fileB
                        rw [← htn.out, ← HPE.out, show e.secs.length = nl by have h1 := HEL.out; have h2 := HL.out; omega, XA.out]
                        exact rfl
                      generalize hT : midB e ++ hdrsB e = T at *
                      clear HO HB hkn hT c4
                      go_wp2_with fail
                      clear cA
                      refine (header_any T na pe (tabSec tn) (.slice none 0 0) _ wr w5.heap.size (by have := HTL.out; omega) (by omega) (by omega) (tabSec_fits (by omega)) rfl HV50.out HB50.out.size).mono ?_
                      rintro r w51 ⟨v51, rfl, ho, hb, -⟩
                      have HF51 := Lib.hid (show OB w51 w.heap.size v51 (fileB e) by rw [HFB.out]; exact ho.base (by omega))
                      have HB51 := Lib.hid (HB50.out.trans hb)
                      clear ho hb
                      go_wp2
                      go_ret2
                      exact ⟨_, by rw [HR.out]; rfl, by rw [HR.out]; exact HF51.out, HB5w.out.trans (HB51.out.mono (by omega))⟩
    · go_wp2_with fail
      clear c0 c1 c2 c3 c4 c5
      refine (ref4Put_any _ 0 8 v10 _ w5.heap.size (by simp only [List.length_append, length_fixed, List.length_replicate, List.length_cons, List.length_nil]; omega) (by decide) (by decide) HV10.out HB10.out.size).mono ?_
      rintro r w11 ⟨v11, rfl, ho, hb, hk⟩
      have HV11 := Lib.hid ho
      have HB11 := Lib.hid (HB10.out.trans hb)
      clear ho hb hk
      obtain ⟨c0, c1, c2, c3, c4, c5⟩ := elf_box (heap_base HB11.out HX5.out hG5)
      go_wp2_with fail
      clear c0 c1 c2 c3 c4 c5
      refine (ref4Put_any _ hd 8 v11 _ w5.heap.size (by simp only [List.length_append, length_fixed, List.length_replicate, List.length_cons, List.length_nil]; omega) (by omega) (by decide) HV11.out HB11.out.size).mono ?_
      rintro r w12 ⟨v12, rfl, ho, hb, hk⟩
      have HV12 := Lib.hid ho
      have HB12 := Lib.hid (HB11.out.trans hb)
      clear ho hb hk
      obtain ⟨c0, c1, c2, c3, c4, c5⟩ := elf_box (heap_base HB12.out HX5.out hG5)
      go_wp2_with fail
      clear c0 c1 c2 c3 c4 c5
      refine (ref4Put_any _ e.flags 4 v12 _ w5.heap.size (by simp only [List.length_append, length_fixed, List.length_replicate, List.length_cons, List.length_nil]; omega) (by omega) (by decide) HV12.out HB12.out.size).mono ?_
      rintro r w13 ⟨v13, rfl, ho, hb, hk⟩
      have HV13 := Lib.hid ho
      have HB13 := Lib.hid (HB12.out.trans hb)
      clear ho hb hk
      obtain ⟨c0, c1, c2, c3, c4, c5⟩ := elf_box (heap_base HB13.out HX5.out hG5)
      have HF13 := Lib.hid (show OB w13 w5.heap.size v13 ([127, 69, 76, 70, 2, 1, 1] ++ List.replicate 9 0 ++ putL 2 [ut, mt] ++ putL 4 [1] ++ putL 8 [e.entry, 0, hd] ++ putL 4 [e.flags]) by
        have := HV13.out
        unfold putL
        simp only [List.append_assoc, List.flatMap_cons, List.flatMap_nil, List.append_nil] at this ⊢
        exact this)
      have hT0 : ∃ T, T = [127, 69, 76, 70, 2, 1, 1] ++ List.replicate 9 0 ++ putL 2 [ut, mt] ++ putL 4 [1] ++ putL 8 [e.entry, 0, hd] ++ putL 4 [e.flags] := ⟨_, rfl⟩
      obtain ⟨T0, hT0⟩ := hT0
      rw [← hT0] at HF13
      have HLT0 := Lib.hid (show T0.length = 52 by rw [hT0]; simp only [List.length_append, putL_len, List.length_replicate]; rfl)
      have HHB := Lib.hid (show headB e hd = T0 ++ putL 2 [64, 56, gn, 64, nl + 2, nl + 1] by
        rw [hT0]
        unfold headB segsB
        rw [show e.secs.length = nl by have h1 := HEL.out; have h2 := HL.out; omega, ← HGN.out, decide_eq_false hgs, HMTT.out, HUTT.out]
        rfl)
      clear hT0 HV13
      obtain ⟨sm, hsm⟩ : ∃ sm, sm = [64, 56, gn, 64, nl + 2, nl + 1] := ⟨_, rfl⟩
      rw [← hsm] at HHB
      have HSB := Lib.hid (show ∀ n ∈ sm, n ≤ 1000 by intro n hn; rw [hsm] at hn; simp only [List.mem_cons, List.not_mem_nil, or_false] at hn; omega)
      have HSL := Lib.hid (show sm.length = 6 by rw [hsm]; rfl)
      have HSA := Lib.hid (fun (w : World) => (show (w.alloc (.cells #[.int .i64 64, .int .i64 56, .int .i64 gn, .int .i64 64, .int .i64 ((nl : Int) + 2), .int .i64 ((nl : Int) + 1)] 3)).heap[w.heap.size]? = some (.cells (sm.map I64).toArray 3 (0, 0)) by rw [hsm]; exact heap_alloc_last w _))
      have hvs : ∃ m ad cap, v13 = .slice ad m cap := by obtain ⟨m, ad, cap, -, h, -⟩ := HF13.out.shape; exact ⟨m, ad, cap, h⟩
      obtain ⟨mv, av, cv, rfl⟩ := hvs
      clear hsm
      go_wp2
      have HS14 := Lib.hid (HSA.out w13)
      go_loopw [11, 13] (fun x i wr => ∃ k : Nat, i = .int .i64 k ∧ k ≤ 6 ∧ Hid (OB wr w5.heap.size x (T0 ++ putL 2 (sm.take k))) ∧ Hid (Below w5.heap.size w5 wr) ∧ Hid (wr.heap[w13.heap.size]? = some (.cells (sm.map I64).toArray 3 (0, 0)))) (fun _ i _ => 6 - (intOf i).toNat)
      case atStart => exact ⟨0, rfl, by omega, by have := HF13.out.mono (below_alloc w13 (.cells #[.int .i64 64, .int .i64 56, .int .i64 gn, .int .i64 64, .int .i64 ((nl : Int) + 2), .int .i64 ((nl : Int) + 1)] 3)); simpa [Hid, putL] using this, HB13.out.trans ((below_alloc w13 _).mono HB13.out.size), HS14.out⟩
      case round =>
        clear c0 c1 c2 c3 c4 c5
        obtain ⟨k, rfl, hk, HO, HB, HS⟩ := hrel
        by_cases hlt : k < 6
        · have X1 := Lib.hid (show sm[k]? = some (sm[k]'(by have := HSL.out; omega)) from List.getElem?_eq_getElem _)
          generalize sm[k]'(by have := HSL.out; omega) = n at *
          have hn1 := HSB.out n (List.mem_of_getElem? X1.out)
          have cS := cell_rec HS.out k
          rw [List.getElem?_toArray, List.getElem?_map, X1.out] at cS
          simp only [Option.map_some] at cS
          have HST := Lib.hid (show putL 2 (sm.take (k + 1)) = putL 2 (sm.take k) ++ fixed n 2 from flatf_step X1.out)
          have HTL := Lib.hid (show (T0 ++ putL 2 (sm.take k)).length ≤ 100 by rw [List.length_append, HLT0.out, putL_len, List.length_take]; omega)
          have HV20 := HO
          have HB20 := HB
          go_wp2_with fail
          refine (ref4Put_any _ n 2 _ _ w5.heap.size (by have := HTL.out; omega) (by omega) (by decide) HV20.out HB20.out.size).mono ?_
          rintro r w21 ⟨v21, rfl, ho, hb, hk⟩
          have HV21 := Lib.hid ho
          have HB21 := Lib.hid (HB20.out.trans hb)
          have HS21 := Lib.hid (keep_h hk (by decide) HS.out)
          clear ho hb hk
          have HF21 := Lib.hid (show OB w21 w5.heap.size v21 (T0 ++ putL 2 (sm.take (k + 1))) by rw [HST.out, ← List.append_assoc]; exact HV21.out)
          go_wp2
          go_roundw
          case rel =>
            first
              | exact ⟨k + 1, by go_num, by omega, HF21.out, HB21.out, HS21.out⟩
              | ((repeat apply Exists.intro); exact ⟨⟨k + 1, by go_num, by omega, HF21.out, HB21.out, HS21.out⟩, rfl⟩)
          case measure => simp [intOf] <;> omega
        · obtain rfl : k = 6 := by omega
          have HF22 := Lib.hid (show OB wr w5.heap.size u11 (headB e hd) by
            rw [HHB.out]
            have := HO.out
            rw [List.take_of_length_le (by have := HSL.out; omega)] at this
            exact this)
          have HB22 := Lib.hid HB.out
          have HLH := Lib.hid (headB_len e hd)
          clear HO HB HS HS14 HSA HHB HF13
          obtain ⟨c0, c1, c2, c3, c4, c5⟩ := elf_box (heap_base HB22.out HX5.out hG5)
          go_wp2
          go_loopw [11, 14] (fun x i wr => ∃ k : Nat, i = .int .i64 k ∧ k ≤ gn ∧ Hid (OB wr w5.heap.size x (headB e hd ++ (e.segs.take k).flatMap segBy)) ∧ Hid (Below w5.heap.size w5 wr)) (fun _ i _ => gn - (intOf i).toNat)
          case atStart => exact ⟨0, rfl, Nat.zero_le _, by simpa [Hid] using HF22.out, HB22.out⟩
          case round =>
            clear c0 c1 c2 c3 c4 c5
            obtain ⟨k, rfl, hk, HO, HB⟩ := hrel
            have HBW := Lib.hid (HB5w.out.trans (HB.out.mono (by omega)))
            obtain ⟨c0, c1, c2, c3, c4, c5⟩ := elf_box (heap_base HB.out HX5.out hG5)
            by_cases hlt : k < gn
            · exact absurd hlt (by omega)
            · have hkn : e.segs.take k = e.segs := List.take_of_length_le (by have := HGN.out; omega)
              have HFR := Lib.hid (show OB wr w5.heap.size u11 (frontB e) by
                have := HO.out
                rw [hkn] at this
                unfold frontB
                rw [← HHD.out]
                exact this)
              have HBR := Lib.hid HB.out
              clear HO HB hkn
              obtain ⟨c0, c1, c2, c3, c4, c5⟩ := elf_box (heap_base HBR.out HX5.out hG5)
              go_wp2
              go_loopw [11, 18] (fun x i wr => ∃ k : Nat, i = .int .i64 k ∧ k ≤ nl ∧ Hid (OB wr w5.heap.size x (bodyF (frontB e) ((e.secs.zip (placesOf e).1).take k))) ∧ Hid (Below w5.heap.size w5 wr)) (fun _ i _ => nl - (intOf i).toNat)
              case atStart => exact ⟨0, rfl, Nat.zero_le _, HFR.out, HBR.out⟩
              case round =>
                clear c0 c1 c2 c3 c4 c5
                obtain ⟨k, rfl, hk, HO, HB⟩ := hrel
                have HBW := Lib.hid (HB5w.out.trans (HB.out.mono (by omega)))
                by_cases hlt : k < nl
                · obtain ⟨c0, c1, c2, c3, c4, c5⟩ := elf_box (heap_base HB.out HX5.out hG5)
                  clear c0 c1 c2 c3 c5
                  have X1 := Lib.hid (show L[k]? = some (L[k]'(by have := HL.out; omega)) from List.getElem?_eq_getElem _)
                  generalize L[k]'(by have := HL.out; omega) = x at *
                  obtain ⟨s, dv⟩ := x
                  have HDB := Lib.hid (HD.out _ (List.mem_of_getElem? X1.out))
                  obtain ⟨dm, da, dc, hdm, rfl, _, _⟩ := HDB.out.shape
                  have X2 := Lib.hid (HSE.out _ _ X1.out)
                  have HZP := Lib.hid (zipP (g := segsB e) (n := front e) X2.out)
                  have HFN := Lib.hid (HK.out.fine _ (List.mem_of_getElem? X2.out))
                  have HST := Lib.hid (show bodyF (frontB e) ((e.secs.zip (placesOf e).1).take (k + 1)) = bodyF (frontB e) ((e.secs.zip (placesOf e).1).take k) ++ List.replicate (placeS (segsB e) (plF (segsB e) (front e) (e.secs.take k)).2 s - (bodyF (frontB e) ((e.secs.zip (placesOf e).1).take k)).length) 0 ++ s.data from bodyF_step (acc := frontB e) HZP.out)
                  have HLN := Lib.hid (body_len (g := segsB e) (frontB_len e) HK.out.pow k (by have h1 := HEL.out; have h2 := HL.out; omega))
                  have HLE := Lib.hid (placeS_le (g := segsB e) (p := (plF (segsB e) (front e) (e.secs.take k)).2) (HK.out.pow _ (List.mem_of_getElem? X2.out)))
                  have HPB := Lib.hid (place_bd HK.out (k + 1))
                  rw [plF_step X2.out] at HPB
                  have hp9 : placeS (segsB e) (plF (segsB e) (front e) (e.secs.take k)).2 s + dm ≤ 4194304 := by
                    have h1 : placeS (segsB e) (plF (segsB e) (front e) (e.secs.take k)).2 s + s.data.length ≤ (placesOf e).2 := HPB.out
                    have h3 := HPE.out
                    have h4 := hdm.out
                    dsimp only at h4
                    omega
                  obtain ⟨b1, o1, ha, c10, c11, c12, c13, c14, c15, c16, c17, c18, c19, hb1lt⟩ := sec_cells HC.out HBW.out X1.out
                  subst ha
                  clear c10 c12 c13 c14 c15 c16 c17 c18
                  obtain ⟨bP, oP, hP1, cP⟩ := HPC.out k (by have := HPLN.out; omega)
                  have HPGx : (placesOf e).1[k]? = some (placeS (segsB e) (plF (segsB e) (front e) (e.secs.take k)).2 s) := plF_get (g := segsB e) (n := front e) X2.out
                  rw [HPGx] at cP
                  simp only [Option.getD_some] at cP
                  replace cP := (HB.out.cell (block_lt cP)).trans cP
                  subst hP1
                  have HPGY := Lib.hid HPGx
                  generalize hT : bodyF (frontB e) ((e.secs.zip (placesOf e).1).take k) = T at *
                  have HT := Lib.hid hT
                  have HTL := Lib.hid (show T.length = (plF (segsB e) (front e) (e.secs.take k)).2 by rw [← hT]; exact HLN.out)
                  have HP8 : Hid (s.typ = 8 → placeS (segsB e) (plF (segsB e) (front e) (e.secs.take k)).2 s = T.length ∧ s.data = []) := fun h8 => by
                    refine ⟨?_, ?_⟩
                    · rw [HTL.out]; unfold placeS; rw [if_pos h8]
                    · have h1 := HFN.out
                      unfold fineB at h1
                      rw [if_pos h8] at h1
                      simp only [Bool.and_eq_true, decide_eq_true_eq] at h1
                      exact List.eq_nil_of_length_eq_zero h1.2.1
                  generalize placeS (segsB e) (plF (segsB e) (front e) (e.secs.take k)).2 s = p at *
                  obtain ⟨d, hd1⟩ : ∃ d, p = T.length + d := ⟨p - T.length, by have h1 := HLE.out.1; have h2 := HTL.out; omega⟩
                  have HD1 := Lib.hid hd1
                  clear hT HPGx hd1
                  obtain ⟨name, typ, flags, addr, align, size, link, info, ent, data⟩ := s
                  dsimp only at *
                  by_cases h8 : typ = 8
                  · have h8' : ((typ : Int) != 8) = false := by rw [bne_eq_false_iff_eq]; omega
                    obtain ⟨hpT, hdn⟩ := HP8.out h8
                    have hdm0 : dm = 0 := by have := hdm.out; rw [hdn] at this; simpa using this
                    have hdz : ¬ (0 < dm) := by omega
                    have HF40 := Lib.hid (show OB wr w5.heap.size u11 (bodyF (frontB e) ((e.secs.zip (placesOf e).1).take (k + 1))) by
                      rw [HST.out, hdn, hpT, Nat.sub_self, List.replicate_zero, List.append_nil, List.append_nil]
                      exact HO.out)
                    have HX8 := Lib.hid h8
                    have HX9 := Lib.hid hdm0
                    clear h8 hdm0 hpT hdn
                    go_wp2
                    go_roundw
                    case rel =>
                      first
                        | exact ⟨k + 1, by go_num, by omega, HF40.out, HB.out⟩
                        | ((repeat apply Exists.intro); exact ⟨⟨k + 1, by go_num, by omega, HF40.out, HB.out⟩, rfl⟩)
                    case measure => simp [intOf] <;> omega
                  · have h8' : ((typ : Int) != 8) = true := by rw [bne_iff_ne]; omega
                    have HX8 := Lib.hid h8
                    clear h8
                    have hdd : 0 < dm ∨ ¬ (0 < dm) := Classical.em _
                    rcases hdd with hdd | hdd
                    all_goals
                      have HVD := Lib.hid (show OB wr.drew w5.heap.size u11 T from HO.out.mono ((Below.refl _ _).drew))
                      have HBD := Lib.hid (HB.out.trans (show Below w5.heap.size wr wr.drew from (Below.refl _ _).drew))
                      have HL1 := Lib.hid (show T.length + d ≤ 1000000000 by have := HD1.out; omega)
                      have HZ1 := Lib.hid (show (p : Int) = ((T.length + d : Nat) : Int) by rw [HD1.out])
                      have HLEN := Lib.hid (show (T ++ List.replicate d 0).length + data.length ≤ 140737488355328 by rw [List.length_append, List.length_replicate]; have h1 := HD1.out; have h2 := hdm.out; omega)
                      have HPD := Lib.hid (show p - T.length = d by have := HD1.out; omega)
                      go_wp2
                      go_region_law (first
                        | (refine step_catB rfl (.tmp 174) (.tmp 180) rfl HV40.out HD40.out rfl rfl HLEN.out HB40.out.size ?_; intro v41 w41 hv41 hg41; have HV41 := Lib.hid hv41; have HB41 := Lib.hid (HB40.out.trans (below_of_grown hg41 HB40.out.size fun k hk => (World.ownsRow.lt HV40.out k hk).1)); clear hv41 hg41)
                        | (go_simp; go_at_call 80; refine (till_any T d _ _ _ w5.heap.size HL1.out HZ1.out HVD.out HBD.out.size).mono ?_; rintro r w40 ⟨v40, rfl, ho, hb, -⟩; have HV40 := Lib.hid ho; have HB40 := Lib.hid (HBD.out.trans hb); have HD40 := Lib.hid (HDB.out.mono (HB5w.out.trans (HB40.out.mono (by omega)))); have k4 := (hb.cell (p := ⟨w.heap.size, 4, none⟩) hG5).trans c4; have k19 := (hb.cell (p := ⟨b1, o1 + k * 10 + 9, none⟩) (by show b1 < _; omega)).trans c19; clear ho hb))
                      all_goals
                        have HF41 := Lib.hid (show OB w41 w5.heap.size v41 (bodyF (frontB e) ((e.secs.zip (placesOf e).1).take (k + 1))) by rw [HST.out, HPD.out]; exact HV41.out)
                        clear c4 k4 k19 c19 c11
                        go_wp2
                        go_roundw
                        case rel =>
                          first
                            | exact ⟨k + 1, by go_num, by omega, HF41.out, HB41.out⟩
                            | ((repeat apply Exists.intro); exact ⟨⟨k + 1, by go_num, by omega, HF41.out, HB41.out⟩, rfl⟩)
                        case measure => simp [intOf] <;> omega
                · have hkn : (e.secs.zip (placesOf e).1).take k = e.secs.zip (placesOf e).1 := List.take_of_length_le (by rw [List.length_zip]; have h1 := HEL.out; have h2 := HL.out; omega)
                  have HV42 := Lib.hid (show OB wr w5.heap.size u11 (bodyB e) by
                    have := HO.out
                    rw [hkn] at this
                    exact this)
                  have HBL := Lib.hid (show (bodyB e).length = pe by rw [bodyB_len HK.out.pow, ← HPE.out])
                  have HB42 := Lib.hid HB.out
                  obtain ⟨c0, c1, c2, c3, c4, c5⟩ := elf_box (heap_base HB.out HX5.out hG5)
                  clear HO HB hkn c0 c1 c2 c3 c5
                  go_wp2_with fail
                  clear c4
                  refine (till_any (bodyB e) 0 (pe : Int) _ wr w5.heap.size (by have h1 := HBL.out; omega) (by rw [HBL.out]; rfl) HV42.out HB42.out.size).mono ?_
                  rintro r w43 ⟨v43, rfl, ho, hb, -⟩
                  rw [List.replicate_zero, List.append_nil] at ho
                  have HV43 := Lib.hid ho
                  have HB43 := Lib.hid (HB42.out.trans hb)
                  have HTB := Lib.hid (OB1.out.bs.mono HB43.out)
                  clear ho hb
                  go_wp2_with ((with_reducible show wpList _ _ _ (⟨some 186, _, _, _, _, _⟩ :: _) _ _); go_must (refine wpList_catB HV43.out HTB.out rfl rfl (by have h1 := HBL.out; have h2 := htn.out; omega) HB43.out.size ?_; intro v44 w44 hv44 hg44 hb44; have HV44 := Lib.hid hv44; have HB44 := Lib.hid (HB43.out.trans hb44); clear hv44 hg44 hb44))
                  have HTN : Hid ((bodyB e ++ tabOf e).length = pe + tn) := by
                    show _ = _
                    rw [List.length_append, HBL.out, ← htn.out]
                  obtain ⟨dd, hdd⟩ : ∃ dd, hd + 64 = pe + tn + dd := ⟨hd + 64 - (pe + tn), by have := HGE.out.1; omega⟩
                  have HDD := Lib.hid hdd
                  clear hdd
                  refine (till_any (bodyB e ++ tabOf e) dd ((hd : Int) + 64) _ w44 w5.heap.size (by rw [HTN.out]; have := HDD.out; omega) (by rw [HTN.out]; have := HDD.out; omega) HV44.out HB44.out.size).mono ?_
                  rintro r w45 ⟨v45, rfl, ho, hb, -⟩
                  have HV45 := Lib.hid (show OB w45 w5.heap.size v45 (midB e) by
                    unfold midB
                    rw [← HHD.out, ← HPE.out, ← htn.out, show hd + 64 - (pe + tn) = dd by have := HDD.out; omega]
                    exact ho)
                  have HB45 := Lib.hid (HB44.out.trans hb)
                  have HML := Lib.hid (show (midB e).length = hd + 64 by rw [midB_len HK.out, ← HHD.out])
                  clear ho hb
                  go_wp2
                  go_loopw [11, 19] (fun x i wr => ∃ k : Nat, i = .int .i64 k ∧ k ≤ nl ∧ Hid (OB wr w5.heap.size x (midB e ++ ((e.secs.zip ((atsOf e).zip (placesOf e).1)).take k).flatMap fun p => hdrBy p.2.1 p.1 p.2.2)) ∧ Hid (Below w5.heap.size w5 wr)) (fun _ i _ => nl - (intOf i).toNat)
                  case atStart => exact ⟨0, rfl, Nat.zero_le _, by simpa [Hid] using HV45.out, HB45.out⟩
                  case round =>
                    obtain ⟨k, rfl, hk, HO, HB⟩ := hrel
                    have HBW := Lib.hid (HB5w.out.trans (HB.out.mono (by omega)))
                    obtain ⟨c0, c1, c2, c3, c4, c5⟩ := elf_box (heap_base HB.out HX5.out hG5)
                    clear c0 c1 c2 c3 c5
                    by_cases hlt : k < nl
                    · have X1 := Lib.hid (show L[k]? = some (L[k]'(by have := HL.out; omega)) from List.getElem?_eq_getElem _)
                      generalize L[k]'(by have := HL.out; omega) = x at *
                      obtain ⟨s, dv⟩ := x
                      obtain ⟨dm, da, dc, hdm, rfl, _, _⟩ := (HD.out _ (List.mem_of_getElem? X1.out)).shape
                      have X2 := Lib.hid (HSE.out _ _ X1.out)
                      have HFS := Lib.hid (HOK.out.fits.secs _ (List.mem_of_getElem? X2.out))
                      obtain ⟨b1, o1, ha, c10, c11, c12, c13, c14, c15, c16, c17, c18, c19, -⟩ := sec_cells HC.out HBW.out X1.out
                      subst ha
                      have XA := Lib.hid (show (atsOf e)[k]? = some ((atsOf e)[k]'(by have := HALN.out; omega)) from List.getElem?_eq_getElem _)
                      have XP := Lib.hid (show (placesOf e).1[k]? = some ((placesOf e).1[k]'(by have := HPLN.out; omega)) from List.getElem?_eq_getElem _)
                      have hpbx : ∀ x, (placesOf e).1[k]? = some x → x ≤ 4194304 := fun x hx => by
                        have h2 := plF_get (g := segsB e) (n := front e) X2.out
                        have h3 : (placesOf e).1[k]? = some (placeS (segsB e) (plF (segsB e) (front e) (e.secs.take k)).2 s) := h2
                        rw [h3] at hx
                        injection hx with hx
                        have h4 := place_bd HK.out (k + 1)
                        rw [plF_step X2.out] at h4
                        have h5 : placeS (segsB e) (plF (segsB e) (front e) (e.secs.take k)).2 s + s.data.length ≤ (placesOf e).2 := h4
                        have h6 := HPE.out
                        omega
                      have hab : (atsOf e)[k]'(by have := HALN.out; omega) ≤ 130000 := HAK.out.2 _ (List.getElem_mem _)
                      obtain ⟨bA, oA, hA1, cA⟩ := HAC.out k (by have := HALN.out; omega)
                      obtain ⟨bP, oP, hP1, cP⟩ := HPC.out k (by have := HPLN.out; omega)
                      rw [XA.out] at cA
                      rw [XP.out] at cP
                      have HST : Hid (((e.secs.zip ((atsOf e).zip (placesOf e).1)).take (k + 1)).flatMap (fun p => hdrBy p.2.1 p.1 p.2.2) = ((e.secs.zip ((atsOf e).zip (placesOf e).1)).take k).flatMap (fun p => hdrBy p.2.1 p.1 p.2.2) ++ hdrBy ((atsOf e)[k]'(by have := HALN.out; omega)) s ((placesOf e).1[k]'(by have := HPLN.out; omega))) := by
                        rw [List.take_add_one, show (e.secs.zip ((atsOf e).zip (placesOf e).1))[k]? = some (s, _, _) by rw [List.getElem?_zip_eq_some]; exact ⟨X2.out, by rw [List.getElem?_zip_eq_some]; exact ⟨XA.out, XP.out⟩⟩, List.flatMap_append]
                        simp [Hid]
                      have hpb := hpbx _ XP.out
                      clear hpbx
                      generalize (atsOf e)[k]'(by have := HALN.out; omega) = na at *
                      generalize (placesOf e).1[k]'(by have := HPLN.out; omega) = pl at *
                      simp only [Option.getD_some] at cA cP
                      replace cA := (HB.out.cell (block_lt cA)).trans cA
                      replace cP := (HB.out.cell (block_lt cP)).trans cP
                      subst hA1
                      subst hP1
                      have HTL := Lib.hid (show (midB e ++ ((e.secs.zip ((atsOf e).zip (placesOf e).1)).take k).flatMap fun p => hdrBy p.2.1 p.1 p.2.2).length ≤ 8000000 by
                        rw [List.length_append, HML.out, flat_len' (f := fun p : SecM × Nat × Nat => hdrBy p.2.1 p.1 p.2.2) (fun p => hdrBy_len p.2.1 p.1 p.2.2), List.length_take]
                        omega)
                      generalize hT : (midB e ++ ((e.secs.zip ((atsOf e).zip (placesOf e).1)).take k).flatMap fun p => hdrBy p.2.1 p.1 p.2.2) = T at *
                      have HT := Lib.hid hT
                      have hAB := fun (x : Above wr) (b k : Nat) (h : b < wr.heap.size) => Above.cell x b k h
                      have hbltA : bA < wr.heap.size := block_lt cA
                      have hbltP : bP < wr.heap.size := block_lt cP
                      have hbltE : w.heap.size < wr.heap.size := block_lt c4
                      have hblt1 : b1 < wr.heap.size := block_lt c10
                      clear hT
                      go_wp2
                      refine wp_region_walk 14 [] (by kernel_rfl) (by kernel_rfl) ?_
                      simp only [List.take_succ_cons, List.take_zero, List.drop_succ_cons, List.drop_zero]
                      repeat (refine walk_quiet rfl rfl rfl ?_; intro K hK; go_big_quiet_op; go_big_quiet_on)
                      refine walk_nil ?_
                      intro wz hbz hF
                      have HVz := Lib.hid (HO.out.mono hbz)
                      have HBz := Lib.hid (HB.out.trans (hbz.mono HB.out.size))
                      clear hF hbz hAB hbltA hbltP hbltE hblt1 cA cP c4 c10 c11 c12 c13 c14 c15 c16 c17 c18 c19
                      go_wp2_with fail
                      refine (header_any T na pl s (.slice da dm dc) _ wz w5.heap.size (by have := HTL.out; omega) (by omega) (by omega) HFS.out rfl HVz.out HBz.out.size).mono ?_
                      rintro r w46 ⟨v46, rfl, ho, hb, -⟩
                      have HF46 := Lib.hid (show OB w46 w5.heap.size v46 (midB e ++ ((e.secs.zip ((atsOf e).zip (placesOf e).1)).take (k + 1)).flatMap fun p => hdrBy p.2.1 p.1 p.2.2) by
                        rw [HST.out, ← List.append_assoc, HT.out]
                        exact ho)
                      have HB46 := Lib.hid (HBz.out.trans hb)
                      clear ho hb
                      go_wp2
                      go_roundw
                      case rel =>
                        first
                          | exact ⟨k + 1, by go_num, by omega, HF46.out, HB46.out⟩
                          | ((repeat apply Exists.intro); exact ⟨⟨k + 1, by go_num, by omega, HF46.out, HB46.out⟩, rfl⟩)
                      case measure => simp [intOf] <;> omega
                    · have hkn : (e.secs.zip ((atsOf e).zip (placesOf e).1)).take k = e.secs.zip ((atsOf e).zip (placesOf e).1) := List.take_of_length_le (by rw [List.length_zip]; have h1 := HEL.out; have h2 := HL.out; omega)
                      have HV50 := Lib.hid (show OB wr w5.heap.size u11 (midB e ++ hdrsB e) by
                        have := HO.out
                        rw [hkn] at this
                        exact this)
                      have HB50 := Lib.hid HB.out
                      have HTL := Lib.hid (show (midB e ++ hdrsB e).length ≤ 8000000 by
                        unfold hdrsB
                        rw [List.length_append, HML.out, flat_len' (f := fun p : SecM × Nat × Nat => hdrBy p.2.1 p.1 p.2.2) (fun p => hdrBy_len p.2.1 p.1 p.2.2), List.length_zip]
                        have h1 := HEL.out
                        have h2 := HL.out
                        have h3 : min e.secs.length ((atsOf e).zip (placesOf e).1).length ≤ e.secs.length := Nat.min_le_left _ _
                        omega)
                      have XA := Lib.hid (show (atsOf e)[nl]? = some ((atsOf e)[nl]'(by have := HALN.out; omega)) from List.getElem?_eq_getElem _)
                      have hab : (atsOf e)[nl]'(by have := HALN.out; omega) ≤ 130000 := HAK.out.2 _ (List.getElem_mem _)
                      obtain ⟨bA, oA, hA1, cA⟩ := HAC.out nl (by have := HALN.out; omega)
                      rw [XA.out] at cA
                      generalize (atsOf e)[nl]'(by have := HALN.out; omega) = na at *
                      simp only [Option.getD_some] at cA
                      replace cA := (HB.out.cell (block_lt cA)).trans cA
                      subst hA1
                      have HFB : Hid (fileB e = midB e ++ hdrsB e ++ hdrBy na (tabSec tn) pe) := by
                        unfold fileB
                        rw [← htn.out, ← HPE.out, show e.secs.length = nl by have h1 := HEL.out; have h2 := HL.out; omega, XA.out]
                        exact rfl
                      generalize hT : midB e ++ hdrsB e = T at *
                      clear HO HB hkn hT c4
                      go_wp2_with fail
                      clear cA
                      refine (header_any T na pe (tabSec tn) (.slice none 0 0) _ wr w5.heap.size (by have := HTL.out; omega) (by omega) (by omega) (tabSec_fits (by omega)) rfl HV50.out HB50.out.size).mono ?_
                      rintro r w51 ⟨v51, rfl, ho, hb, -⟩
                      have HF51 := Lib.hid (show OB w51 w.heap.size v51 (fileB e) by rw [HFB.out]; exact ho.base (by omega))
                      have HB51 := Lib.hid (HB50.out.trans hb)
                      clear ho hb
                      go_wp2
                      go_ret2
                      exact ⟨_, by rw [HR.out]; rfl, by rw [HR.out]; exact HF51.out, HB5w.out.trans (HB51.out.mono (by omega))⟩
end Go.Proofs.Ytgjoimcgiofinaa
namespace Go.Proofs.Ytgjoimcgiofinaa
open Go.RowKit Go.Fd
theorem fileW_len (e : ElfM) : (fileW e).1.length ≤ 1000000000 := by
  cases hm : mayE e with
  | false => rw [fileW_no hm]; simp
  | true => rw [fileW_ok hm]; have h1 := fileB_len (mayK hm); have h2 := (mayK hm).len; show (fileB e).length ≤ _; omega
theorem fileW_err (e : ElfM) : (fileW e).2 = if mayE e = true then 0 else 1 := by
  cases hm : mayE e with
  | false => rw [fileW_no hm]; simp
  | true => rw [fileW_ok hm]; simp
attribute [local irreducible] walk
set_option maxHeartbeats 8000000 in
set_option maxRecDepth 100000 in
theorem elfWrites_any (e f : ElfM) (L M : List (SecM × Value)) (sv gv su gu : Value) (w : World) (h : ElfAt w e L sv gv) (h' : ElfAt w f M su gu) (ho : ElfOk e) (ho' : ElfOk f) (hdl : dsum e.secs ≤ 1000000000) :
    Calls Try.prog 10 #[elfV e sv gv, elfV f su gu] w fun r w' => r = .returned (.bool true) ∧ Below w.heap.size w w' := by
  have HA := Lib.hid h
  have HA' := Lib.hid h'
  have HO := Lib.hid ho
  have HO' := Lib.hid ho'
  have HDL := Lib.hid hdl
  obtain ⟨sm, sa, sc, -, rfl, _, _⟩ := h.rd.shape
  obtain ⟨gm, ga, gc, -, rfl, _, _⟩ := h.segs.shape
  obtain ⟨um, ua, uc, -, rfl, _, _⟩ := h'.rd.shape
  obtain ⟨vm, va, vc, -, rfl, _, _⟩ := h'.segs.shape
  have HLE := Lib.hid (fun w' (hb : Below w.heap.size w w') => light_any e L (.slice sa sm sc) (.slice ga gm gc) w' (h.mono hb) ho)
  have HLF := Lib.hid (fun w' (hb : Below w.heap.size w w') => light_any f M (.slice ua um uc) (.slice va vm vc) w' (h'.mono hb) ho')
  have HCP := Lib.hid (fun w' (hb : Below w.heap.size w w') => copy_any e L (.slice sa sm sc) (.slice ga gm gc) w' (h.mono hb) ho hdl)
  have HRM := Lib.hid (fun w' (hb : Below w.heap.size w w') => ref4May_any e L (.slice sa sm sc) (.slice ga gm gc) w' (h.mono hb) ho)
  have HRW := Lib.hid (fun w' (hb : Below w.heap.size w w') => ref4Write_any e L (.slice sa sm sc) (.slice ga gm gc) w' (h.mono hb) ho)
  have HRS := Lib.hid (fun w' (hb : Below w.heap.size w w') => ref4Same_any e f L M (.slice sa sm sc) (.slice ga gm gc) (.slice ua um uc) (.slice va vm vc) w' (h.mono hb) (h'.mono hb) ho ho')
  have HRP := Lib.hid (fun (hm : mayE e = true) w' (hb : Below w.heap.size w w') => ref4Places_any e L (.slice sa sm sc) (.slice ga gm gc) w' (h.mono hb) (by have h1 := (mayK hm).secs; have h2 := congrArg List.length h.secs; rw [List.length_map] at h2; omega) (by have := (mayK hm).segs; omega) (mayK hm).pow (fun s hs => ho.fits.secs s hs) (by omega))
  clear h h' ho ho' hdl
  generalize lightB e = le at *
  generalize lightB f = lf at *
  go_enter Try.func10, Try.ntmps10
  go_wp2_with (first
    | ((with_reducible show wpList _ _ _ (⟨some 2, .box _ _, _, _, _, _⟩ :: _) _ _); go_must (refine wpList_box rfl ?_; intro w1 hx1 hb1 hs1; have HX1 := Lib.hid hx1; have HB1 := Lib.hid hb1; clear hx1 hb1))
    | ((with_reducible show wpList _ _ _ (⟨some 3, .box _ _, _, _, _, _⟩ :: _) _ _); go_must (refine wpList_box rfl ?_; intro w2 hx2 hb2 hs2; have HX2 := Lib.hid hx2; have HX12 := Lib.hid (heap_below hb2 HX1.out); have HB2 := Lib.hid (HB1.out.trans (hb2.mono HB1.out.size)); clear hx2 hb2)))
  refine (begun4_any _).mono ?_
  rintro r w3 ⟨rfl, hb3⟩
  have HX13 := Lib.hid (heap_below hb3 HX12.out)
  have HX23 := Lib.hid (heap_below hb3 HX2.out)
  have HB3 := Lib.hid (HB2.out.trans (hb3.mono HB2.out.size))
  clear hb3 HX12 HX1 HX2
  obtain ⟨c0, c1, c2, c3, c4, c5⟩ := elf_box HX13.out
  go_wp2_with fail
  refine (HLE.out _ HB3.out).mono ?_
  rintro r w4 ⟨rfl, hb4⟩
  have HX14 := Lib.hid (heap_below hb4 HX13.out)
  have HX24 := Lib.hid (heap_below hb4 HX23.out)
  have HB4 := Lib.hid (HB3.out.trans (hb4.mono HB3.out.size))
  clear hb4 HX13 HX23 c0 c1 c2 c3 c4 c5
  cases le with
  | false =>
    go_wp2
    go_ret
    exact ⟨rfl, HB4.out⟩
  | true =>
    obtain ⟨d0, d1, d2, d3, d4, d5⟩ := elf_box HX24.out
    go_wp2_with fail
    refine (HLF.out _ HB4.out).mono ?_
    rintro r w5 ⟨rfl, hb5⟩
    have HX15 := Lib.hid (heap_below hb5 HX14.out)
    have HX25 := Lib.hid (heap_below hb5 HX24.out)
    have HB5 := Lib.hid (HB4.out.trans (hb5.mono HB4.out.size))
    clear hb5 HX14 HX24 d0 d1 d2 d3 d4 d5
    cases lf with
    | false =>
      go_wp2
      go_ret
      exact ⟨rfl, HB5.out⟩
    | true =>
      obtain ⟨c0, c1, c2, c3, c4, c5⟩ := elf_box HX15.out
      go_wp2_with fail
      refine (HCP.out _ HB5.out).mono ?_
      rintro r w6 ⟨L', sv', gv', rfl, hsame, hso, htw, hgo, hb6⟩
      have HAT6 : Hid (ElfAt w6 e L' sv' gv') := Lib.hid ⟨by rw [hsame]; exact HA.out.secs, hso.rd, fun p hp => (htw p hp).bs, hgo.rd⟩
      have HTW6 := Lib.hid htw
      obtain ⟨sm', sa', sc', -, rfl, _, _⟩ := hso.shape
      obtain ⟨gm', ga', gc', -, rfl, _, _⟩ := hgo.shape
      have HX16 := Lib.hid (heap_below hb6 HX15.out)
      have HX26 := Lib.hid (heap_below hb6 HX25.out)
      have HB6 := Lib.hid (HB5.out.trans (hb6.mono HB5.out.size))
      clear hb6 hsame hso htw hgo HX15 HX25 c0 c1 c2 c3 c4 c5
      go_wp2_with (first
        | ((with_reducible show wpList _ _ _ (⟨some 5, .alloc _, _, _, _, _⟩ :: _) _ _); go_must (refine wpList_allocElf ?_; intro w7 hx7 hb7 hs7; have HY7 := Lib.hid hx7; have HX17 := Lib.hid (heap_below hb7 HX16.out); have HX27 := Lib.hid (heap_below hb7 HX26.out); have HB67 := Lib.hid hb7; clear hx7 hb7))
        | ((with_reducible show wpList _ _ _ (⟨none, .store _ (.tmp 5) _, _, _, _, _⟩ :: _) _ _); go_must (refine wpList_storeElf HY7.out rfl rfl rfl rfl (by simp [Value.oneCell']) (Nat.le_refl _) (Nat.le_of_lt hs7) ?_; intro w8 hh8 hb8; have HY8 := Lib.hid (show w8.heap[w6.heap.size]? = some (.cells #[.int .i64 e.typ, .int .i64 e.target, .int .u32 (e.flags : Int), .int .u64 (e.entry : Int), .slice sa' sm' sc', .slice ga' gm' gc'] 61 (0, 0)) from hh8); have HB68 := Lib.hid (HB67.out.trans hb8); have HX18 := Lib.hid (heap_below HB68.out HX16.out); have HX28 := Lib.hid (heap_below HB68.out HX26.out); have HB8 := Lib.hid (HB6.out.trans (HB68.out.mono HB6.out.size)); obtain ⟨c0, c1, c2, c3, c4, c5⟩ := elf_box HX18.out; clear hh8 hb8))
        | (go_at_call 44; refine (HRM.out _ HB8.out).mono ?_; rintro r w9 ⟨rfl, hb9⟩; have HY9 := Lib.hid (heap_below hb9 HY8.out); have HX19 := Lib.hid (heap_below hb9 HX18.out); have HX29 := Lib.hid (heap_below hb9 HX28.out); have HB69 := Lib.hid (HB68.out.trans (hb9.mono HB68.out.size)); have HB9 := Lib.hid (HB8.out.trans (hb9.mono HB8.out.size)); clear hb9 c0 c1 c2 c3 c4 c5; obtain ⟨c0, c1, c2, c3, c4, c5⟩ := elf_box HY9.out))
      have HAT9 := Lib.hid (HAT6.out.mono HB69.out)
      have HTW9 := Lib.hid (fun p hp => (HTW6.out p hp).mono HB69.out)
      have HWC := Lib.hid (fun w' (hb : Below w9.heap.size w9 w') => writeE_any e L' _ _ w' (HAT9.out.mono hb) HO.out)
      have HMC := Lib.hid (fun w' (hb : Below w9.heap.size w9 w') => may_any e L' _ _ w' (HAT9.out.mono hb) HO.out)
      have HPC := Lib.hid (fun w' (hb : Below w9.heap.size w9 w') => elfPlaces_any e L' _ _ w' (HAT9.out.mono hb) HO.out)
      have hl9 : L'.length ≤ 1000000000 := by have h1 := HO.out.secs; rw [HAT9.out.secs, List.length_map] at h1; exact h1
      have hl8 : L.length ≤ 1000000000 := by have h1 := HO.out.secs; rw [HA.out.secs, List.length_map] at h1; exact h1
      have hl7 : M.length ≤ 1000000000 := by have h1 := HO'.out.secs; rw [HA'.out.secs, List.length_map] at h1; exact h1
      have HSF := Lib.hid (fun w' (hb : Below w9.heap.size w9 w') => elfSame_any e f L' M _ _ (.slice ua um uc) (.slice va vm vc) w' (HAT9.out.mono hb) (HA'.out.mono (HB9.out.trans (hb.mono HB9.out.size))) hl9 hl7 HO.out.segs HO'.out.segs)
      have HSE := Lib.hid (fun w' (hb : Below w9.heap.size w9 w') => elfSame_any e e L' L _ _ (.slice sa sm sc) (.slice ga gm gc) w' (HAT9.out.mono hb) (HA.out.mono (HB9.out.trans (hb.mono HB9.out.size))) hl9 hl8 HO.out.segs HO.out.segs)
      rw [decide_eq_true rfl] at HSE
      have HKP := Lib.hid (fun w' (hb : Below w9.heap.size w9 w') => kept4_any e L L' (.slice sa sm sc) (.slice ga gm gc) _ _ w5.heap.size w' (HA.out.mono (HB9.out.trans (hb.mono HB9.out.size))) (HAT9.out.mono hb) (fun p hp => (HTW9.out p hp).mono hb) HO.out HDL.out)
      have HPL := Lib.hid (show (if mayE e = true then (placesOf e).1 else []) = (if mayE e = true then (placesOf e).1 else []) from rfl)
      have HWL := Lib.hid (fileW_len e)
      have HWX := Lib.hid (fileW_err e)
      clear HPL HRM HLE HLF HCP hl9 hl8 hl7 HX16 HX26 HX17 HX27 HX18 HX28 HY7 HY8
      generalize hPLs : (if mayE e = true then (placesOf e).1 else []) = PL at *
      generalize hPX : (if mayE e = true then (0 : Int) else 1) = PX at *
      have HPLs := Lib.hid hPLs
      have HPXs := Lib.hid hPX
      have HMB : Hid (mayE e = mayE e) := Lib.hid rfl
      clear hPLs hPX HMB
      generalize hFB : (fileW e).1 = FB at *
      generalize hFX : (fileW e).2 = FX at *
      have HFB := Lib.hid hFB
      clear hFB hFX
      obtain rfl : FX = PX := HWX.out
      clear HWX
      generalize hMB : mayE e = mb at *
      have HMB := Lib.hid hMB
      clear hMB
      generalize hDF : decide (e = f) = df at *
      clear hDF
      refine (HWC.out w9 (Below.refl _ _)).mono ?_
      rintro r wa ⟨va1, rfl, hva, hba⟩
      obtain ⟨ma, aa, ca, -, rfl, _, _⟩ := hva.shape
      have HVA := Lib.hid hva
      have HYA := Lib.hid (heap_below hba HY9.out)
      have HX1A := Lib.hid (heap_below hba HX19.out)
      have HX2A := Lib.hid (heap_below hba HX29.out)
      have HB9A := Lib.hid hba
      clear hva hba c0 c1 c2 c3 c4 c5
      obtain ⟨c0, c1, c2, c3, c4, c5⟩ := elf_box HYA.out
      go_wp2_with fail
      refine (HPC.out wa HB9A.out).mono ?_
      rintro r wb ⟨vb1, rfl, hvb, hbb⟩
      obtain ⟨mb1, ab, cb, hmb1, rfl, _, _⟩ := hvb.shape
      have HVB := Lib.hid hvb
      have HVAB := Lib.hid (HVA.out.mono hbb)
      have HYB := Lib.hid (heap_below hbb HYA.out)
      have HX1B := Lib.hid (heap_below hbb HX1A.out)
      have HX2B := Lib.hid (heap_below hbb HX2A.out)
      have HBAB := Lib.hid hbb
      have HB9B := Lib.hid (HB9A.out.trans (hbb.mono HB9A.out.size))
      clear hvb hbb c0 c1 c2 c3 c4 c5
      obtain ⟨c0, c1, c2, c3, c4, c5⟩ := elf_box HYB.out
      go_wp2_with fail
      refine (HWC.out wb HB9B.out).mono ?_
      rintro r wc ⟨vc1, rfl, hvc, hbc⟩
      obtain ⟨mc, ac, cc, -, rfl, _, _⟩ := hvc.shape
      have HVC := Lib.hid hvc
      have HVBC := Lib.hid (HVB.out.mono hbc)
      have HVAC := Lib.hid (HVAB.out.mono hbc)
      have HYC := Lib.hid (heap_below hbc HYB.out)
      have HX1C := Lib.hid (heap_below hbc HX1B.out)
      have HX2C := Lib.hid (heap_below hbc HX2B.out)
      have HBAC := Lib.hid (HBAB.out.trans (hbc.mono HBAB.out.size))
      have HB9C := Lib.hid (HB9B.out.trans (hbc.mono HB9B.out.size))
      clear hvc hbc c0 c1 c2 c3 c4 c5
      obtain ⟨c0, c1, c2, c3, c4, c5⟩ := elf_box HX1C.out
      go_wp2_with fail
      have HBC := Lib.hid (HB9.out.trans (HB9C.out.mono HB9.out.size))
      refine (HRW.out wc HBC.out).mono ?_
      rintro r wd ⟨vd1, rfl, hvd, hbd⟩
      obtain ⟨md, ad, cd, -, rfl, _, _⟩ := hvd.shape
      have HVD := Lib.hid hvd
      have HVCD := Lib.hid (HVC.out.mono hbd)
      have HVBD := Lib.hid (HVBC.out.mono hbd)
      have HVAD := Lib.hid (HVAC.out.mono hbd)
      have HYD := Lib.hid (heap_below hbd HYC.out)
      have HX1D := Lib.hid (heap_below hbd HX1C.out)
      have HX2D := Lib.hid (heap_below hbd HX2C.out)
      have HBAD := Lib.hid (HBAC.out.trans (hbd.mono HBAC.out.size))
      have HB9D := Lib.hid (HB9C.out.trans (hbd.mono HB9C.out.size))
      have HBD := Lib.hid (HBC.out.trans (hbd.mono HBC.out.size))
      clear hvd hbd c0 c1 c2 c3 c4 c5 HYA HYB HYC HX1A HX1B HX1C HX2A HX2B HX2C HVAB HVAC HVBC
      obtain ⟨c0, c1, c2, c3, c4, c5⟩ := elf_box HX1D.out
      obtain ⟨d0, d1, d2, d3, d4, d5⟩ := elf_box HX2D.out
      obtain ⟨y0, y1, y2, y3, y4, y5⟩ := elf_box HYD.out
      have hAB := fun (x : Above wd) (b k : Nat) (h : b < wd.heap.size) => Above.cell x b k h
      have l1 := block_lt c0
      have l2 := block_lt d0
      have l3 := block_lt y0
      have hk1 := fun (x : Above wd) => run_str (HVAD.out.bs.mono x.h)
      have hk2 := fun (x : Above wd) => run_str (HVD.out.bs.mono x.h)
      go_wp2
      refine wp_region_walk 37 [(1, .is (.bool mb)), (19, .is (.bool true)), (25, .is (.bool df)), (28, .is (.bool df)), (34, .is (.bool true))] (by kernel_rfl) (by kernel_rfl) ?_
      simp only [List.take_succ_cons, List.take_zero, List.drop_succ_cons, List.drop_zero]
      repeat (refine walk_quiet rfl rfl rfl ?_; intro K hK; go_big_quiet_op; go_big_quiet_on)
      refine walk_is rfl rfl (fun wx hwx _ => WpYld.callIsB (run_callL (vals := [_]) Try.func47 (by kernel_rfl) rfl rfl) (HMC.out wx (HB9D.out.trans (hwx.mono HB9D.out.size)))) ?_
      go_frame
      repeat (refine walk_quiet rfl rfl rfl ?_; intro K hK; go_big_quiet_op; go_big_quiet_on)
      refine walk_is rfl rfl (fun wx hwx _ => WpYld.callIsB (run_callL (vals := [_, _]) Try.func48 (by kernel_rfl) rfl rfl) (HKP.out wx (HB9D.out.trans (hwx.mono HB9D.out.size)))) ?_
      go_frame
      repeat (refine walk_quiet rfl rfl rfl ?_; intro K hK; go_big_quiet_op; go_big_quiet_on)
      refine walk_is rfl rfl (fun wx hwx _ => WpYld.callIsB (run_callL (vals := [_, _]) Try.func49 (by kernel_rfl) rfl rfl) (HSF.out wx (HB9D.out.trans (hwx.mono HB9D.out.size)))) ?_
      go_frame
      repeat (refine walk_quiet rfl rfl rfl ?_; intro K hK; go_big_quiet_op; go_big_quiet_on)
      refine walk_is rfl rfl (fun wx hwx _ => WpYld.callIsB (run_callL (vals := [_, _]) Try.func50 (by kernel_rfl) rfl rfl) (HRS.out wx (HBD.out.trans (hwx.mono HBD.out.size)))) ?_
      go_frame
      repeat (refine walk_quiet rfl rfl rfl ?_; intro K hK; go_big_quiet_op; go_big_quiet_on)
      refine walk_is rfl rfl (fun wx hwx _ => WpYld.callIsB (run_callL (vals := [_, _]) Try.func49 (by kernel_rfl) rfl rfl) (HSE.out wx (HB9D.out.trans (hwx.mono HB9D.out.size)))) ?_
      go_frame
      repeat (refine walk_quiet rfl rfl rfl ?_; intro K hK; go_big_quiet_op; go_big_quiet_on)
      refine walk_nil ?_
      intro we hbe hF
      have HVAE := Lib.hid (HVAD.out.mono hbe)
      have HVBE := Lib.hid (HVBD.out.mono hbe)
      have HVCE := Lib.hid (HVCD.out.mono hbe)
      have HVDE := Lib.hid (HVD.out.mono hbe)
      have HX1E := Lib.hid (heap_below hbe HX1D.out)
      have HBE := Lib.hid (HBD.out.trans (hbe.mono HBD.out.size))
      have HSE9 := Lib.hid (Nat.le_trans HB9D.out.size hbe.size)
      have HSEA := Lib.hid (Nat.le_trans HBAD.out.size hbe.size)
      clear hF hbe hAB hk1 hk2 c0 c1 c2 c3 c4 c5 d0 d1 d2 d3 d4 d5 y0 y1 y2 y3 y4 y5 l1 l2 l3
      go_wp2_with fail
      refine (spoil_any FB _ _ _ HWL.out HVAE.out).mono ?_
      rintro r wf ⟨rfl, hgr⟩
      have hst : Stirs (fun k => (Value.slice aa ma ca).ownBlock = some k) we wf := Stirs.of_grown hgr (fun k hk => hk)
      have hlt : ∀ k, (Value.slice aa ma ca).ownBlock = some k → w9.heap.size ≤ k ∧ k < wa.heap.size := fun k hk => ⟨(World.ownsRow.lt HVA.out k hk).1, (World.ownsRow.lt HVA.out k hk).2⟩
      have HVBF := Lib.hid (Ow.stirs HVBE.out hst (fun k hk hS => by have h1 := (World.ownsRow.lt HVBE.out k hk).1; have h2 := (hlt k hS).2; omega))
      have HVCF := Lib.hid (owns_stirs HVCE.out hst (fun k hk hS => by have h1 := (World.ownsRow.lt HVCE.out k hk).1; have h2 := (hlt k hS).2; have h3 := HBAB.out.size; omega))
      have HVDF := Lib.hid (owns_stirs HVDE.out hst (fun k hk hS => by have h1 := (World.ownsRow.lt HVDE.out k hk).1; have h2 := (hlt k hS).2; have h3 := HBAC.out.size; omega))
      have HX1F := Lib.hid (hst.kept HX1E.out (fun hS => by have h1 := (hlt _ hS).1; have h2 := (Array.getElem?_eq_some_iff.1 HX19.out).1; omega))
      have HBF := Lib.hid (HBE.out.trans ((owns_below HVAE.out hgr HSE9.out).mono HB9.out.size))
      clear hst hlt hgr HVAE HVBE HVCE HVDE HX1E
      have hk1 := run_str (OB.bs HVCF.out)
      have hk2 := run_str (OB.bs HVDF.out)
      have hne : (FB != FB) = false := by simp
      have hne2 : (FB == FB) = true := by simp
      cases mb with
      | false =>
        obtain rfl : FX = 1 := by have := HPXs.out; simpa using this.symm
        obtain rfl : PL = [] := by have := HPLs.out; simpa using this.symm
        obtain rfl : mb1 = 0 := hmb1.out
        clear HPXs HPLs hmb1
        go_wp2
        go_ret
        exact ⟨by simp, HBF.out⟩
      | true =>
        obtain rfl : FX = 0 := by have := HPXs.out; simpa using this.symm
        obtain rfl : PL = (placesOf e).1 := by have := HPLs.out; simpa using this.symm
        clear HPXs HPLs
        have hln : (placesOf e).1.length ≤ 1000000000 := by rw [placesOf, plF_len]; exact HO.out.secs
        obtain ⟨c0, c1, c2, c3, c4, c5⟩ := elf_box HX1F.out
        go_wp2_with fail
        clear hk1 hk2 hne hne2
        refine (HRP.out trivial _ HBF.out).mono ?_
        rintro r wg ⟨vg, rfl, hvg, hbg⟩
        have HVG := Lib.hid hvg
        have HVBG := Lib.hid (HVBF.out.mono hbg)
        have HBG := Lib.hid (HBF.out.trans (hbg.mono HBF.out.size))
        obtain ⟨mg, ag, cg, -, rfl, _, _⟩ := hvg.shape
        clear hvg hbg c0 c1 c2 c3 c4 c5
        have HIN := Lib.hid (ints_any _ _ _ _ _ hln hln HVBG.out.rd HVG.out.rd)
        rw [decide_eq_true rfl] at HIN
        go_wp2_with fail
        refine HIN.out.mono ?_
        rintro r wh ⟨rfl, hbh⟩
        have HBH := Lib.hid (HBG.out.trans (hbh.mono HBG.out.size))
        clear hbh
        go_wp2
        go_ret
        exact ⟨by simp, HBH.out⟩
end Go.Proofs.Ytgjoimcgiofinaa
namespace Go.Proofs.Ytgjoimcgiofinaa
open Go.ChangeShapes Go.WideShapes Go.ChangeAt Go.RowKit Go.Fd
theorem Try.own : ownKnob Try.prog.godebug = none := by kernel_rfl
theorem Try.laidOut : laidOutB Try.prog = true := by kernel_rfl
/-- All arguments read behind the call as they read before it. -/
theorem belowAll {H : Type} {enc : TypeId × Value → H} {W W' : World} (hb : Below W.heap.size W W') : ∀ {ts : List TypeId} {vs : List Value} {ds : List (DataW H)} {ps : List MemPlace},
    DataW.TrodAll enc Try.prog W 0 (fun _ => true) true ts vs ds ps → (∀ x ∈ ps, x.block < W.heap.size) → (∀ t ∈ ts, Try.prog.readableRec t = true ∧ t < Try.prog.types.size) →
    DataW.TrodAll enc Try.prog W' 0 (fun b => decide (b < W.heap.size)) true ts vs ds ps
  | [], vs, ds, ps, h, _, _ => by obtain ⟨rfl, rfl, rfl⟩ := trodAll_nil h; exact trodAll_mk0
  | t :: ts, vs, ds, ps, h, hlt, ht => by
    obtain ⟨v, vs', d, ds', p, q, rfl, rfl, rfl, h0, h1⟩ := trodAll_cons h
    exact trodAll_cons_mk (Below.trod Try.laidOut (ht t (by simp)).1 (ht t (by simp)).2 h0 hb fun x hx => hlt x (by simp [hx]))
      (belowAll hb h1 (fun x hx => hlt x (by simp [hx])) fun u hu => ht u (by simp [hu]))
/-- The same, the types asked as one closed fact. -/
theorem belowAllB {H : Type} {enc : TypeId × Value → H} {W W' : World} {ts : List TypeId} (ht : (ts.all fun t => Try.prog.readableRec t && decide (t < Try.prog.types.size)) = true) (hb : Below W.heap.size W W') {vs : List Value} {ds : List (DataW H)} {ps : List MemPlace}
    (h : DataW.TrodAll enc Try.prog W 0 (fun _ => true) true ts vs ds ps) (hlt : ∀ x ∈ ps, x.block < W.heap.size) : DataW.TrodAll enc Try.prog W' 0 (fun b => decide (b < W.heap.size)) true ts vs ds ps :=
  belowAll hb h hlt fun t htm => by
    have := List.all_eq_true.1 ht t htm
    simp only [Bool.and_eq_true, decide_eq_true_eq] at this
    exact this
theorem wf_u64 {x : Int} (h : (Lit.int .u64 x).wf = true) : 0 ≤ x ∧ x < 18446744073709551616 := by
  simp [Lit.wf, IntKind.min, IntKind.max, IntKind.signed, IntKind.bits] at h
  exact ⟨by omega, by omega⟩
theorem len_6 {α : Type} : ∀ {l : List α}, l.length = 6 → ∃ a0 a1 a2 a3 a4 a5, l = [a0, a1, a2, a3, a4, a5]
  | [a0, a1, a2, a3, a4, a5], _ => ⟨a0, a1, a2, a3, a4, a5, rfl⟩
theorem len_7 {α : Type} : ∀ {l : List α}, l.length = 7 → ∃ a0 a1 a2 a3 a4 a5 a6, l = [a0, a1, a2, a3, a4, a5, a6]
  | [a0, a1, a2, a3, a4, a5, a6], _ => ⟨a0, a1, a2, a3, a4, a5, a6, rfl⟩
end Go.Proofs.Ytgjoimcgiofinaa
namespace Go.Fd
end Go.Fd
namespace Go.Proofs.Ytgjoimcgiofinaa
open Go.ChangeMaps Go.ChangeShapes Go.WideShapes Go.ChangeAt Go.RowKit Go.Fd
/-- A struct of cells, each field of one cell: how each reads. -/
theorem cells_struct {H : Type} {enc : TypeId × Value → H} {P : Program} {w : World} {base : Nat} {spare : Nat → Bool} {held : Bool} {t : TypeId} {fs : Array Field} {cs : List Value} {fuel : Nat} {y : DataW H × List MemPlace}
    (hs : P.underlying t = some (.struct fs)) (hone : Go.Deep.oneCellFields P fs = true) (hC : cs.length = fs.size) (h : DataW.trod enc P w base spare held fuel t cs = some y) :
    ∃ n, ∀ (j : Nat) (f : Field), fs[j]? = some f → ∃ x y, cs[j]? = some x ∧ DataW.trod enc P w base spare held n f.type [x] = some y := by
  obtain ⟨xs, n, _, hx, _, hlen, hg⟩ := DataW.trod_struct hs h
  refine ⟨n, fun j f hj => ?_⟩
  obtain ⟨o, k⟩ := Go.Deep.hone_of hone j f hj
  have hjl : j < fs.size := (Array.getElem?_eq_some_iff.1 hj).1
  have hcl : j < cs.length := by omega
  have h1 := hg j f hj
  rw [o, k] at h1
  have h2 : (List.drop j cs).take 1 = [cs[j]] := by
    rw [List.drop_eq_getElem_cons hcl]
    rfl
  rw [h2] at h1
  exact ⟨_, xs[j]'(by omega), List.getElem?_eq_getElem hcl, h1.trans (List.getElem?_eq_getElem _)⟩
end Go.Proofs.Ytgjoimcgiofinaa
namespace Go.Proofs.Ytgjoimcgiofinaa
open Go
theorem handed_cond {H : Type} {enc : TypeId × Value → H} {a : Assume} {C : Checked} {os : Os} {f : FuncId} {fn : Func} {s : OpenSpec} {k : (H : Type) → List (DataW H) → Bool} (hk : s.cond = some k) {F : Stop.Interp} {conds : List PathCond} {apart fresh handsOn again : Bool}
    (own : ownKnob C.prog.godebug = none) (started : os.Started) (noInit : C.prog.inits.idxOf? f = none) (hfn : C.prog.funcs[f]? = some fn)
    (witness : ∃ (w : World) (tape : Tape) (i : Input), w.os = os ∧ (w.forCall tape i).Shaped C.prog ∧ i.vars = [] ∧ Input.okWide C.prog (w.forCall tape i) .any w.heap.size f i ∧
      s.pre6 enc C.prog fn conds apart (w.forCall tape i).memory i.args ∧ a.holds C.prog (lone (Frame.enter C.prog f i.args .normal) [] (w.forCall tape i)))
    (contract : ∀ (W : World) (base : Nat) (args : Array Value) (ds gs : List (DataW H)) (before : List MemPlace),
      (∀ (j : Nat) t v, fn.params[j]? = some t → args[j]? = some v → Value.okWide C.prog W .any base t v) →
      DataW.Whole enc C.prog fn.params.toList s.vars apart W args.toList ds gs before →
      k H (ds ++ gs) = true →
      (DataW.weightsEach C.prog (fn.params.toList ++ s.bare.plain.varTypes C.prog) (ds ++ gs)).all (· ≤ reachBytes) = true →
      W.ShapedOpen C.prog →
      Calls C.prog f args W fun e W' => ∃ v, e = .returned v ∧ (s.at F).post enc C.prog fn apart fresh handsOn again W args v W') :
    ReturnsInHanded a C os f .any (s.pre6 enc C.prog fn conds apart) ((s.at F).post enc C.prog fn apart fresh handsOn again) := by
  refine returnsInHanded_of_calls own started noInit witness ?_
  intro w tape i _ hsh _ hok hpre _
  obtain ⟨_, _, _, fn', hfn', _, _, _, _, hval⟩ := hok
  obtain rfl : fn' = fn := Option.some.inj (hfn'.symm.trans hfn)
  obtain ⟨ds, gs, before, hw, _, hkk⟩ := (OpenSpec.pre_some hk conds apart _ _).1 hpre.1
  refine (contract (w.forCall tape i) w.heap.size i.args ds gs before hval (DataW.Whole.of_heap (w' := w.forCall tape i) (by rfl) hw) hkk (hpre.2.weights hw) hsh).mono fun e W' ⟨v, he, hp⟩ => ?_
  subst he
  exact ChangeSpec.post_blind hp
end Go.Proofs.Ytgjoimcgiofinaa
namespace Go.Proofs.Ytgjoimcgiofinaa
open Go.ChangeMaps Go.ChangeShapes Go.WideShapes Go.ChangeAt Go.RowKit Go.Fd
section
variable {H : Type}
theorem bulkAll_append (xs ys : List (DataW H)) : Rows.uptoBulkAll (xs ++ ys) = Rows.uptoBulkAll xs + Rows.uptoBulkAll ys := by
  induction xs with
  | nil => simp [Rows.uptoBulkAll]
  | cons x xs ih => rw [List.cons_append, Rows.uptoBulkAll, Rows.uptoBulkAll, ih]; omega
theorem bulk_get {xs : List (DataW H)} {i : Nat} {x : DataW H} (h : xs[i]? = some x) : Rows.uptoBulk x ≤ Rows.uptoBulkAll xs := by
  induction xs generalizing i with
  | nil => simp at h
  | cons y xs ih =>
    rw [Rows.uptoBulkAll]
    cases i with
    | zero => simp at h; subst h; omega
    | succ i => have := ih (by simpa using h); omega
theorem bulk_pair {xs : List (DataW H)} {i j : Nat} {x y : DataW H} (hij : i < j) (hx : xs[i]? = some x) (hy : xs[j]? = some y) : Rows.uptoBulk x + Rows.uptoBulk y ≤ Rows.uptoBulkAll xs := by
  induction xs generalizing i j with
  | nil => simp at hx
  | cons z xs ih =>
    rw [Rows.uptoBulkAll]
    cases j with
    | zero => omega
    | succ j =>
      cases i with
      | zero => simp at hx; subst hx; have := bulk_get (xs := xs) (i := j) (by simpa using hy); omega
      | succ i => have := ih (i := i) (j := j) (by omega) (by simpa using hx) (by simpa using hy); omega
end
set_option maxRecDepth 100000 in
/-- A slice of records, as it is read, with a measure of each. -/
theorem trod_recs {H : Type} {enc : TypeId × Value → H} {W : World} {v : Value} {y : DataW H × List MemPlace} {fuel : Nat} {α : Type} {k : Nat} {ec : α → List Value} {good : α → Prop} {μ : α → Nat} {t e : TypeId}
    (ht : Try.prog.underlying t = some (.slice e)) (hc : Try.prog.cellsOf e = k) (hk0 : 0 < k) (hlen : ∀ x, (ec x).length = k)
    (hstep : ∀ n cs y, DataW.trod enc Try.prog W 0 (fun _ => true) true n e cs = some y → cs.length = k → ∃ x, cs = ec x ∧ good x ∧ μ x ≤ Rows.uptoBulk y.1)
    (h : DataW.trod enc Try.prog W 0 (fun _ => true) true fuel t [v] = some y) : ∃ l : List α, RdR k ec W v l ∧ (∀ x ∈ l, good x) ∧ (l.map μ).sum + 1 ≤ Rows.uptoBulk y.1 := by
  rcases Go.Deep.open_slice ht h with ⟨hcs, hx⟩ | ⟨a, len, cap, m, n, D, Pl, hcs, _, hl, hm, hmm, hd, hel⟩
  · simp at hcs
    subst hcs hx
    exact ⟨[], RdR.nil k ec W, (fun x hx => by cases hx), by simp [Rows.uptoBulk]⟩
  · simp at hcs
    subst hcs hd
    simp only [hc] at hel
    have hall : ∀ n', n' ≤ len → ∃ l : List α, l.length = n' ∧ (l.map μ).sum ≤ Rows.uptoBulkAll ((List.range n').map D) ∧ ∀ i x, l[i]? = some x → good x ∧ ∀ c, c < k → W.cell? (a.add (i * k + c)) = (ec x)[c]? := by
      intro n'
      induction n' with
      | zero => exact fun _ => ⟨[], rfl, by simp, fun i x h => by simp at h⟩
      | succ n' ih =>
        intro hn
        obtain ⟨l, h1, hs, h2⟩ := ih (by omega)
        obtain ⟨cs', h3, h4⟩ := hel n' (by simp at hmm; omega)
        obtain ⟨-, h5, h6⟩ := World.cells?_some h3
        obtain ⟨x, rfl, hg, hμ⟩ := hstep _ _ _ h4 h5
        dsimp only at hμ
        refine ⟨l ++ [x], by simp [h1], ?_, fun i y hi => ?_⟩
        · rw [List.range_succ, List.map_append, List.map_append, List.sum_append, bulkAll_append]
          simp [Rows.uptoBulkAll]
          omega
        · rcases Nat.lt_or_ge i n' with hlt | hge
          · rw [List.getElem?_append_left (by omega)] at hi
            exact h2 i y hi
          · rw [List.getElem?_append_right (by omega)] at hi
            have hi0 : i - l.length = 0 := by
              have := (List.getElem?_eq_some_iff.1 hi).1
              simp at this
              omega
            rw [hi0] at hi
            cases hi
            obtain rfl : i = n' := by omega
            refine ⟨hg, fun c hc => ?_⟩
            have := h6 c hc
            rwa [Go.Deep.add_add] at this
    obtain ⟨l, h1, hs, h2⟩ := hall len (Nat.le_refl _)
    refine ⟨l, ⟨by rw [flat_len hlen], some a, cap, by rw [h1], by omega, (fun h => by cases h), fun j hj => ?_⟩, fun x hx => ?_, ?_⟩
    · rw [flat_len hlen] at hj
      have hjk : j = j / k * k + j % k := by rw [Nat.mul_comm]; exact (Nat.div_add_mod j k).symm
      have hi : j / k < l.length := (Nat.div_lt_iff_lt_mul hk0).2 hj
      have hx : l[j / k]? = some l[j / k] := List.getElem?_eq_getElem hi
      have h3 := (h2 _ _ hx).2 (j % k) (Nat.mod_lt _ hk0)
      rw [← hjk] at h3
      have h4 := flat_get hlen l (j / k) (j % k) _ hx (Nat.mod_lt _ hk0)
      rw [← hjk] at h4
      obtain ⟨b, off, spot⟩ := a
      have hspot : spot = none := by
        have hl0 : 0 < l.length := Nat.lt_of_le_of_lt (Nat.zero_le _) hi
        have hx0 : l[0]? = some (l[0]'hl0) := List.getElem?_eq_getElem _
        have h0 := (h2 0 _ hx0).2 0 hk0
        have h5 : (ec (l[0]'hl0))[0]? = some ((ec (l[0]'hl0))[0]'(by rw [hlen]; exact hk0)) := List.getElem?_eq_getElem _
        rw [h5, Nat.zero_mul, Nat.zero_add] at h0
        simpa [Addr.add] using World.cell?_spot h0
      subst hspot
      refine ⟨b, off, rfl, ?_⟩
      rw [add_plain] at h3
      rw [h3, h4]
    · obtain ⟨i, hi⟩ := List.mem_iff_getElem?.1 hx
      exact (h2 i x hi).1
    · rw [Rows.uptoBulk]
      omega
theorem flat_one {α β : Type} (f : α → β) (l : List α) : l.flatMap (fun c => [f c]) = l.map f := by
  induction l with
  | nil => rfl
  | cons x l ih => rw [List.flatMap_cons, ih]; rfl
set_option maxRecDepth 100000 in
theorem trod_bytes {H : Type} {enc : TypeId × Value → H} {W : World} {v : Value} {y : DataW H × List MemPlace} {fuel : Nat} (h : DataW.trod enc Try.prog W 0 (fun _ => true) true fuel 23 [v] = some y) :
    ∃ l : List UInt8, Bs W v l ∧ l.length + 1 ≤ Rows.uptoBulk y.1 := by
  obtain ⟨l, h1, -, h3⟩ := trod_recs (α := UInt8) (k := 1) (ec := fun c => [B c]) (good := fun _ => True) (μ := fun _ => 1) (e := 5) (by kernel_rfl) (by kernel_rfl) (by decide) (fun _ => rfl) (fun n cs y h hl => by
    obtain ⟨z, rfl, hy, hw⟩ := DataW.trod_int Try.underlying5 h
    refine ⟨UInt8.ofNat z.toNat, ?_, trivial, ?_⟩
    · simp [Lit.wf, IntKind.min, IntKind.max, IntKind.signed, IntKind.bits] at hw
      simp [B]
      omega
    · rw [hy]
      simp [Rows.uptoBulk]) h
  refine ⟨l, ?_, by rw [List.map_const', List.sum_replicate_nat] at h3; omega⟩
  have e := flat_one B l
  unfold RdR at h1
  rw [e] at h1
  exact h1
theorem wf_u32 {x : Int} (h : (Lit.int .u32 x).wf = true) : 0 ≤ x ∧ x < 4294967296 := by
  simp [Lit.wf, IntKind.min, IntKind.max, IntKind.signed, IntKind.bits] at h
  omega
theorem wf_i64 {x : Int} (h : (Lit.int .i64 x).wf = true) : -9223372036854775808 ≤ x ∧ x < 9223372036854775808 := by
  simp [Lit.wf, IntKind.min, IntKind.max, IntKind.signed, IntKind.bits] at h
  omega
theorem len_10 {α : Type} {l : List α} (h : l.length = 10) : ∃ a0 a1 a2 a3 a4 a5 a6 a7 a8 a9, l = [a0, a1, a2, a3, a4, a5, a6, a7, a8, a9] := by
  match l, h with
  | a0 :: a1 :: a2 :: l, h =>
    obtain ⟨b0, b1, b2, b3, b4, b5, b6, rfl⟩ := len_7 (l := l) (by simpa using h)
    exact ⟨_, _, _, _, _, _, _, _, _, _, rfl⟩
/-- A struct of cells, each field of one cell: how each reads, with what was read. -/
theorem cells_struct2 {H : Type} {enc : TypeId × Value → H} {P : Program} {w : World} {base : Nat} {spare : Nat → Bool} {held : Bool} {t : TypeId} {fs : Array Field} {cs : List Value} {fuel : Nat} {y : DataW H × List MemPlace}
    (hs : P.underlying t = some (.struct fs)) (hone : Go.Deep.oneCellFields P fs = true) (hC : cs.length = fs.size) (h : DataW.trod enc P w base spare held fuel t cs = some y) :
    ∃ n ds, y.1 = .agg ds ∧ ∀ (j : Nat) (f : Field), fs[j]? = some f → ∃ x z, cs[j]? = some x ∧ DataW.trod enc P w base spare held n f.type [x] = some z ∧ ds[j]? = some z.1 := by
  obtain ⟨xs, n, _, hx, _, hlen, hg⟩ := DataW.trod_struct hs h
  refine ⟨n, xs.map (·.1), by rw [hx], fun j f hj => ?_⟩
  obtain ⟨o, k⟩ := Go.Deep.hone_of hone j f hj
  have hjl : j < fs.size := (Array.getElem?_eq_some_iff.1 hj).1
  have hcl : j < cs.length := by omega
  have h1 := hg j f hj
  rw [o, k] at h1
  have h2 : (List.drop j cs).take 1 = [cs[j]] := by
    rw [List.drop_eq_getElem_cons hcl]
    rfl
  rw [h2] at h1
  exact ⟨_, xs[j]'(by omega), List.getElem?_eq_getElem hcl, h1.trans (List.getElem?_eq_getElem _), by rw [List.getElem?_map, List.getElem?_eq_getElem (by omega)]; rfl⟩
/-- A file by value, as it is read; how great it is. -/
structure ElfRead (W : World) (v : Value) (n : Nat) (e : ElfM) (L : List (SecM × Value)) (sv gv : Value) : Prop where
  val : v = elfV e sv gv
  at_ : ElfAt W e L sv gv
  fits : e.fits
  names : ∀ s ∈ e.secs, s.name.length ≤ 9223372036854775807
  size : (L.map fun p => p.1.data.length + 1).sum + e.segs.length ≤ n
set_option maxRecDepth 100000 in
theorem trod_segs {H : Type} {enc : TypeId × Value → H} {W : World} {v : Value} {y : DataW H × List MemPlace} {fuel : Nat} (h : DataW.trod enc Try.prog W 0 (fun _ => true) true fuel 59 [v] = some y) :
    ∃ l : List SegM, RdR 7 encSeg W v l ∧ (∀ s ∈ l, s.fits) ∧ l.length ≤ Rows.uptoBulk y.1 := by
  obtain ⟨l, h1, h2, h3⟩ := trod_recs (α := SegM) (k := 7) (ec := encSeg) (good := SegM.fits) (μ := fun _ => 1) (e := 99) (by kernel_rfl) (by kernel_rfl) (by decide) (fun _ => rfl) (fun n cs y h hl => by
    obtain ⟨xs, n', -, rfl, -, -, -⟩ := DataW.trod_struct Try.underlying99 h
    obtain ⟨m, hf⟩ := cells_struct Try.underlying99 (by kernel_rfl) hl h
    obtain ⟨c0, c1, c2, c3, c4, c5, c6, rfl⟩ := len_7 hl
    obtain ⟨x0, y0, e0, t0⟩ := hf 0 _ rfl
    obtain ⟨x1, y1, e1, t1⟩ := hf 1 _ rfl
    obtain ⟨x2, y2, e2, t2⟩ := hf 2 _ rfl
    obtain ⟨x3, y3, e3, t3⟩ := hf 3 _ rfl
    obtain ⟨x4, y4, e4, t4⟩ := hf 4 _ rfl
    obtain ⟨x5, y5, e5, t5⟩ := hf 5 _ rfl
    obtain ⟨x6, y6, e6, t6⟩ := hf 6 _ rfl
    cases e0; cases e1; cases e2; cases e3; cases e4; cases e5; cases e6
    obtain ⟨n0, q0, -, w0⟩ := DataW.trod_int Try.underlying57 t0
    obtain ⟨n1, q1, -, w1⟩ := DataW.trod_int Try.underlying57 t1
    obtain ⟨n2, q2, -, w2⟩ := DataW.trod_int Try.underlying53 t2
    obtain ⟨n3, q3, -, w3⟩ := DataW.trod_int Try.underlying53 t3
    obtain ⟨n4, q4, -, w4⟩ := DataW.trod_int Try.underlying53 t4
    obtain ⟨n5, q5, -, w5⟩ := DataW.trod_int Try.underlying53 t5
    obtain ⟨n6, q6, -, w6⟩ := DataW.trod_int Try.underlying53 t6
    cases q0; cases q1; cases q2; cases q3; cases q4; cases q5; cases q6
    have h0 := wf_u32 w0
    have h1 := wf_u32 w1
    have h2 := wf_u64 w2
    have h3 := wf_u64 w3
    have h4 := wf_u64 w4
    have h5 := wf_u64 w5
    have h6 := wf_u64 w6
    refine ⟨⟨n0.toNat, n1.toNat, n2.toNat, n3.toNat, n4.toNat, n5.toNat, n6.toNat⟩, ?_, ⟨by show n0.toNat < _; omega, by show n1.toNat < _; omega, by show n2.toNat < _; omega, by show n3.toNat < _; omega, by show n4.toNat < _; omega, by show n5.toNat < _; omega, by show n6.toNat < _; omega⟩, by simp [Rows.uptoBulk]⟩
    simp only [encSeg, Int.toNat_of_nonneg h0.1, Int.toNat_of_nonneg h1.1, Int.toNat_of_nonneg h2.1, Int.toNat_of_nonneg h3.1, Int.toNat_of_nonneg h4.1, Int.toNat_of_nonneg h5.1, Int.toNat_of_nonneg h6.1]) h
  exact ⟨l, h1, h2, by rw [List.map_const', List.sum_replicate_nat] at h3; omega⟩
set_option maxRecDepth 100000 in
theorem trod_secs {H : Type} {enc : TypeId × Value → H} {W : World} {v : Value} {y : DataW H × List MemPlace} {fuel : Nat} (h : DataW.trod enc Try.prog W 0 (fun _ => true) true fuel 58 [v] = some y) :
    ∃ l : List (SecM × Value), RdR 10 encSec W v l ∧ (∀ p ∈ l, p.1.fits ∧ p.1.name.length ≤ 9223372036854775807 ∧ Bs W p.2 p.1.data) ∧ (l.map fun p => p.1.data.length + 1).sum + 1 ≤ Rows.uptoBulk y.1 := by
  refine trod_recs (α := SecM × Value) (k := 10) (ec := encSec) (good := fun p => p.1.fits ∧ p.1.name.length ≤ 9223372036854775807 ∧ Bs W p.2 p.1.data) (e := 69) (by kernel_rfl) (by kernel_rfl) (by decide) (fun _ => rfl) (fun n cs y h hl => ?_) h
  obtain ⟨m, ds, hy, hf⟩ := cells_struct2 Try.underlying69 (by kernel_rfl) hl h
  obtain ⟨c0, c1, c2, c3, c4, c5, c6, c7, c8, c9, rfl⟩ := len_10 hl
  obtain ⟨x0, y0, e0, t0, -⟩ := hf 0 _ rfl
  obtain ⟨x1, y1, e1, t1, -⟩ := hf 1 _ rfl
  obtain ⟨x2, y2, e2, t2, -⟩ := hf 2 _ rfl
  obtain ⟨x3, y3, e3, t3, -⟩ := hf 3 _ rfl
  obtain ⟨x4, y4, e4, t4, -⟩ := hf 4 _ rfl
  obtain ⟨x5, y5, e5, t5, -⟩ := hf 5 _ rfl
  obtain ⟨x6, y6, e6, t6, -⟩ := hf 6 _ rfl
  obtain ⟨x7, y7, e7, t7, -⟩ := hf 7 _ rfl
  obtain ⟨x8, y8, e8, t8, -⟩ := hf 8 _ rfl
  obtain ⟨x9, y9, e9, t9, d9⟩ := hf 9 _ rfl
  cases e0; cases e1; cases e2; cases e3; cases e4; cases e5; cases e6; cases e7; cases e8; cases e9
  obtain ⟨s, q0, -, hs⟩ := DataW.trod_string Try.underlying9 t0
  obtain ⟨n1, q1, -, w1⟩ := DataW.trod_int Try.underlying57 t1
  obtain ⟨n2, q2, -, w2⟩ := DataW.trod_int Try.underlying53 t2
  obtain ⟨n3, q3, -, w3⟩ := DataW.trod_int Try.underlying53 t3
  obtain ⟨n4, q4, -, w4⟩ := DataW.trod_int Try.underlying53 t4
  obtain ⟨n5, q5, -, w5⟩ := DataW.trod_int Try.underlying53 t5
  obtain ⟨n6, q6, -, w6⟩ := DataW.trod_int Try.underlying57 t6
  obtain ⟨n7, q7, -, w7⟩ := DataW.trod_int Try.underlying57 t7
  obtain ⟨n8, q8, -, w8⟩ := DataW.trod_int Try.underlying53 t8
  obtain ⟨dl, hdl, hdb⟩ := trod_bytes t9
  cases q0; cases q1; cases q2; cases q3; cases q4; cases q5; cases q6; cases q7; cases q8
  have h1 := wf_u32 w1
  have h2 := wf_u64 w2
  have h3 := wf_u64 w3
  have h4 := wf_u64 w4
  have h5 := wf_u64 w5
  have h6 := wf_u32 w6
  have h7 := wf_u32 w7
  have h8 := wf_u64 w8
  unfold maxLen at hs
  refine ⟨(⟨s.data.toList, n1.toNat, n2.toNat, n3.toNat, n4.toNat, n5.toNat, n6.toNat, n7.toNat, n8.toNat, dl⟩, c9), ?_, ⟨⟨by show n1.toNat < _; omega, by show n2.toNat < _; omega, by show n3.toNat < _; omega, by show n4.toNat < _; omega, by show n5.toNat < _; omega, by show n6.toNat < _; omega, by show n7.toNat < _; omega, by show n8.toNat < _; omega⟩, by show s.data.toList.length ≤ _; simpa using hs, hdl⟩, ?_⟩
  · simp only [encSec, Int.toNat_of_nonneg h1.1, Int.toNat_of_nonneg h2.1, Int.toNat_of_nonneg h3.1, Int.toNat_of_nonneg h4.1, Int.toNat_of_nonneg h5.1, Int.toNat_of_nonneg h6.1, Int.toNat_of_nonneg h7.1, Int.toNat_of_nonneg h8.1]
  · rw [hy, Rows.uptoBulk]
    have := bulk_get d9
    show dl.length + 1 ≤ _
    omega
set_option maxRecDepth 100000 in
theorem reads_elf {H : Type} {enc : TypeId × Value → H} {W : World} {base : Nat} {v : Value} {d : DataW H} {p : List MemPlace} (hv : Value.okWide Try.prog W .any base 61 v) (h : DataW.Trod enc Try.prog W 0 (fun _ => true) true 61 v d p) :
    ∃ e L sv gv, ElfRead W v (Rows.uptoBulk d) e L sv gv := by
  obtain ⟨cs, rfl, hsz⟩ := okWide_struct Try.underlying61 hv
  have h6 : cs.toList.length = 6 := by simp [hsz]; kernel_rfl
  obtain ⟨fuel, hf0⟩ := h
  obtain ⟨m, ds, hy, hf⟩ := cells_struct2 (cs := cs.toList) Try.underlying61 (by kernel_rfl) h6 hf0
  obtain ⟨c0, c1, c2, c3, c4, c5, hcs⟩ := len_6 h6
  rw [hcs] at hf
  obtain ⟨x0, y0, e0, t0, -⟩ := hf 0 _ rfl
  obtain ⟨x1, y1, e1, t1, -⟩ := hf 1 _ rfl
  obtain ⟨x2, y2, e2, t2, -⟩ := hf 2 _ rfl
  obtain ⟨x3, y3, e3, t3, -⟩ := hf 3 _ rfl
  obtain ⟨x4, y4, e4, t4, d4⟩ := hf 4 _ rfl
  obtain ⟨x5, y5, e5, t5, d5⟩ := hf 5 _ rfl
  cases e0; cases e1; cases e2; cases e3; cases e4; cases e5
  obtain ⟨n0, q0, -, w0⟩ := DataW.trod_int Try.underlying3 t0
  obtain ⟨n1, q1, -, w1⟩ := DataW.trod_int Try.underlying3 t1
  obtain ⟨n2, q2, -, w2⟩ := DataW.trod_int Try.underlying57 t2
  obtain ⟨n3, q3, -, w3⟩ := DataW.trod_int Try.underlying53 t3
  obtain ⟨L, hL, hg, hs⟩ := trod_secs t4
  obtain ⟨G, hG, hgg, hgs⟩ := trod_segs t5
  cases q0; cases q1; cases q2; cases q3
  have h0 := wf_i64 w0
  have h1 := wf_i64 w1
  have h2 := wf_u32 w2
  have h3 := wf_u64 w3
  have hbp := bulk_pair (by decide : 4 < 5) d4 d5
  refine ⟨⟨n0, n1, n2.toNat, n3.toNat, L.map (·.1), G⟩, L, c4, c5, ?_, ⟨rfl, hL, fun p hp => (hg p hp).2.2, hG⟩, ⟨h0, h1, by show n2.toNat < _; omega, by show n3.toNat < _; omega, fun s hs => ?_, hgg⟩, fun s hs => ?_, ?_⟩
  · have : cs = #[.int .i64 n0, .int .i64 n1, .int .u32 n2, .int .u64 n3, c4, c5] := by
      rw [← Array.toList_inj, hcs]
    rw [this]
    simp only [elfV, Int.toNat_of_nonneg h2.1, Int.toNat_of_nonneg h3.1]
  · obtain ⟨p, hp, rfl⟩ := List.mem_map.1 hs
    exact (hg p hp).1
  · obtain ⟨p, hp, rfl⟩ := List.mem_map.1 hs
    exact (hg p hp).2.1
  · dsimp only at hy
    rw [hy, Rows.uptoBulk]
    show _ + G.length ≤ _
    omega
theorem ElfRead.ok {W : World} {v : Value} {n : Nat} {e : ElfM} {L : List (SecM × Value)} {sv gv : Value} (h : ElfRead W v n e L sv gv) (hn : n ≤ 1048576) : ElfOk e ∧ dsum e.secs ≤ 1048576 := by
  have h1 := h.size
  have hs : dsum e.secs + e.secs.length = (L.map fun p => p.1.data.length + 1).sum := by
    rw [h.at_.secs]
    clear h h1
    induction L with
    | nil => rfl
    | cons p L ih =>
      unfold dsum at *
      simp only [List.map_cons, List.sum_cons, List.length_cons] at *
      omega
  refine ⟨⟨h.fits, by omega, h.names, by omega, by omega⟩, by omega⟩
end Go.Proofs.Ytgjoimcgiofinaa
namespace Go.Proofs.Ytgjoimcgiofinaa
open Go.ChangeShapes Go.WideShapes Go.ChangeAt Go.RowKit Go.Fd
set_option maxRecDepth 100000 in
theorem elfWritesUpto_lifted (os : Os) (started : os.Started) (H : Type) (enc : TypeId × Value → H) (F : Stop.Interp) :
    ReturnsInHanded {} Try.checked os 10 .any ((Rows.OpenSpec.upto Rows.elfWritesSpec).pre6 enc Try.prog Try.f10 Rows.elfWritesUptoRow.domain false) (((Rows.OpenSpec.upto Rows.elfWritesSpec).at F).post enc Try.prog Try.f10 false true false false) := by
  refine handed_cond (C := Try.checked) (s := (Rows.OpenSpec.upto Rows.elfWritesSpec)) (k := Rows.uptoSmall) rfl Try.own started (by kernel_rfl) Try.func10
    (OpenSpec.witness (enc := enc) (C := Try.checked) (s := (Rows.OpenSpec.upto Rows.elfWritesSpec)) (k := Rows.uptoSmall) rfl false ⟨#[], #[.agg #[.int .i64 0, .int .i64 0, .int .u32 0, .int .u64 0, .slice none 0 0, .slice none 0 0], .agg #[.int .i64 0, .int .i64 0, .int .u32 0, .int .u64 0, .slice none 0 0, .slice none 0 0]], []⟩ 8 (by kernel_rfl) (by kernel_rfl) (by kernel_rfl)
      (x := ([.agg [.lit (.int .i64 0), .lit (.int .i64 0), .lit (.int .u32 0), .lit (.int .u64 0), .nil, .nil], .agg [.lit (.int .i64 0), .lit (.int .i64 0), .lit (.int .u32 0), .lit (.int .u64 0), .nil, .nil]], [], [])) (by kernel_rfl) rfl (by kernel_rfl)) ?_
  intro W base args ds gs before hval0 hW hk hz hsh
  have hval : ∀ (j : Nat) t v, Try.f10.params[j]? = some t → args[j]? = some v → Value.okWide Try.prog W .any base t v := hval0
  have hW' := hW
  obtain ⟨p, q, hA0, hV, rfl, hfz, hnd⟩ := hW
  have hA : DataW.TrodAll enc Try.prog W 0 (fun _ => true) true Try.f10.params.toList args.toList ds p := hA0
  have hlt : ∀ x ∈ p, x.block < W.heap.size := fun x hx => hW'.lt x (by simp [hx])
  have hback : ∀ W', Below W.heap.size W W' → DataW.TrodAll enc Try.prog W' 0 (fun b => decide (b < W.heap.size)) true Try.f10.params.toList args.toList ds p :=
    fun W' hb => belowAllB (by kernel_rfl) hb hA hlt
  rw [Try.params10] at hA hval
  obtain ⟨v0, vs0, d0, ds0, p0, q0, hargs, rfl, rfl, h0, r0⟩ := trodAll_cons hA
  obtain ⟨v1, vs1, d1, ds1, p1, q1, rfl, rfl, rfl, h1, r1⟩ := trodAll_cons r0
  obtain ⟨rfl, rfl, rfl⟩ := trodAll_nil r1
  obtain rfl : args = #[v0, v1] := by
    cases args
    simp at hargs
    simp [hargs]
  clear hargs
  obtain ⟨rfl, rfl⟩ := trodVars_none hV
  have fin : ∀ (e : Ending) (W' : World), (e = .returned (.bool true) ∧ Below W.heap.size W W') → ∃ v, e = Ending.returned v ∧ ((Rows.OpenSpec.upto Rows.elfWritesSpec).at F).post enc Try.checked.prog Try.f10 false true false false W #[v0, v1] v W' := by
    rintro e W' ⟨rfl, hb⟩
    exact ⟨_, rfl, _, _, _, [], _, [], hW', trodAll_mk1 (shut_bool Try.underlying4 true), hback W' hb, rfl, hb.frame _, fun h => by cases h⟩
  obtain ⟨e, L, sv, gv, hr0⟩ := reads_elf (hval 0 61 v0 rfl rfl) h0
  obtain ⟨f, M, su, gu, hr1⟩ := reads_elf (hval 1 61 v1 rfl rfl) h1
  have hb : Rows.uptoBulk d0 ≤ 1048576 ∧ Rows.uptoBulk d1 ≤ 1048576 := by
    have := of_decide_eq_true hk
    simp [Rows.uptoBulkAll] at this
    omega
  obtain rfl := hr0.val
  obtain rfl := hr1.val
  exact (elfWrites_any e f L M sv gv su gu W hr0.at_ hr1.at_ (hr0.ok hb.1).1 (hr1.ok hb.2).1 (Nat.le_trans (hr0.ok hb.1).2 (by decide))).mono fin
theorem elfWritesUpto_holds : Rows.ElfWritesUptoSaid :=
  OpenClaim.holds_of_cond 10 Try.f10 rfl rfl rfl rfl rfl rfl rfl ⟨rfl, rfl, rfl, rfl, rfl⟩ rfl rfl rfl rfl rfl (by kernel_rfl) Try.func10 (by kernel_rfl)
    (of_decide_eq_true (by kernel_rfl)) (by unfold Func.isWrapper; rw [if_neg (of_decide_eq_false (by kernel_rfl))]; exact ⟨rfl, rfl⟩)
    (fun os started H enc _ F => elfWritesUpto_lifted os started H enc F)
end Go.Proofs.Ytgjoimcgiofinaa
#print axioms Go.Proofs.Ytgjoimcgiofinaa.elfWritesUpto_holds
