/-
  ObjectReads holds: any bytes are read as a module, or refused, as the document has it. No condition.
-/
import Derived.Test.YtimnbnomaajmmaaGreatOr7
import Derived.Deep.MidRow
import Derived.Test.YtimnbnomaajmmaaGreatRows
import Derived.ProofKit
import Derived.SizedLaws
import Derived.OpenShut
import Derived.Lib.SmallJoins
import Derived.Deep.Fields
namespace Go.Proofs.YtimnbnomaajmmaaGreat
open Go.RowKit Go.Fd
theorem wpList_onePart {ops : Array Oper} {rest : List Oper} {Q : Exit → Act → World → Prop} {a : Act} {w : World} {d : Option Tmp} {ty : TypeId} {pos : String} {aft : Array Edge} {x : Operand} {p : PartM} {d1 d2 : Option Addr} {m c m2 c2 : Nat} (hx : a.eval x = partV (p, .slice d1 m c, .slice d2 m2 c2))
    (h : ∀ w1, w1.heap[w.heap.size]? = some (.cells (encPart (p, .slice d1 m c, .slice d2 m2 c2)).toArray 38 (0, 0)) → Below w.heap.size w w1 → w.heap.size < w1.heap.size → wpList Tryz.prog ops Q rest (a.put d (.slice (some ⟨w.heap.size, 0, none⟩) 1 1)) w1) :
    wpList Tryz.prog ops Q (⟨d, .buildSlice 25 1 #[(0, x)], ty, pos, aft, none⟩ :: rest) a w :=
  wpList_val rfl (run_onePart hx) (h _ (heap_alloc_last w _) (below_alloc w _) (by rw [World.size_alloc]; omega))
theorem wpList_fourU {ops : Array Oper} {rest : List Oper} {Q : Exit → Act → World → Prop} {a : Act} {w : World} {d : Option Tmp} {ty : TypeId} {pos : String} {aft : Array Edge}
    (h : ∀ w1, w1.heap[w.heap.size]? = some (.cells #[.int .u64 2, .int .u64 1, .int .u64 4, .int .u64 1024] 39 (0, 0)) → Below w.heap.size w w1 → w.heap.size < w1.heap.size → wpList Tryz.prog ops Q rest (a.put d (.slice (some ⟨w.heap.size, 0, none⟩) 4 4)) w1) :
    wpList Tryz.prog ops Q (⟨d, .buildSlice 87 4 #[(0, .const (.int .u64 2)), (1, .const (.int .u64 1)), (2, .const (.int .u64 4)), (3, .const (.int .u64 1024))], ty, pos, aft, none⟩ :: rest) a w :=
  wpList_val rfl (w' := w.alloc (.cells #[.int .u64 2, .int .u64 1, .int .u64 4, .int .u64 1024] 39)) (by kernel_rfl) (h _ (heap_alloc_last w _) (below_alloc w _) (by rw [World.size_alloc]; omega))
theorem four_box {w : World} {g : Nat} {t : TypeId} {fr : Nat × Nat} (h : w.heap[g]? = some (.cells #[.int .u64 2, .int .u64 1, .int .u64 4, .int .u64 1024] t fr)) :
    w.cell? ⟨g, 0, none⟩ = some (.int .u64 2) ∧ w.cell? ⟨g, 1, none⟩ = some (.int .u64 1) ∧ w.cell? ⟨g, 2, none⟩ = some (.int .u64 4) ∧ w.cell? ⟨g, 3, none⟩ = some (.int .u64 1024) := ⟨cell_rec h 0, cell_rec h 1, cell_rec h 2, cell_rec h 3⟩
theorem wpList_setStr {ops : Array Oper} {rest : List Oper} {Q : Exit → Act → World → Prop} {a : Act} {w : World} {d : Option Tmp} {ty tb : TypeId} {pos : String} {aft : Array Edge} {p x : Operand} {c : Array Value} {g j base : Nat} {s : ByteArray} (hg : w.heap[g]? = some (.cells c tb (0, 0))) (hj : j < c.size) (hp : a.eval p = .pointer (some ⟨g, j, none⟩)) (hx : a.eval x = .string s) (hB : base ≤ g) (hBw : base ≤ w.heap.size)
    (h : ∀ w1, w1.heap[g]? = some (.cells (c.setIfInBounds j (.string s)) tb (0, 0)) → Below base w w1 → Stirs (fun k => k = g) w w1 → wpList Tryz.prog ops Q rest (a.put d undef) w1) :
    wpList Tryz.prog ops Q (⟨d, .store 9 p x, ty, pos, aft, none⟩ :: rest) a w := by
  have hc : w.cell? ⟨g, j, none⟩ = some c[j] := (cell_rec hg j).trans (Array.getElem?_eq_getElem hj)
  have hfz := free_rec' hg j
  have hs : ∀ w, (sizeOf 9).run Tryz.prog w = .ok 1 w := fun w => by kernel_rfl
  have hst : Stirs (fun k => k = g) w (w.setCell ⟨g, j, none⟩ (.string s)) := stirs_setCell (S := fun k => k = g) _ g j _ rfl
  refine wpList_did (w' := w.setCell ⟨g, j, none⟩ (.string s)) rfl ?_ (h _ ?_ ?_ hst)
  · simp only [execOp, hp, hx]
    simp [go_sem, hs, hc, hfz]
  · simp [World.setCell, Array.getElem?_modify, hg]
  · exact hst.below hBw (fun k hk => by rw [hk]; exact hB)
/-- What a part is while its letters are written. -/
abbrev cellsP (name f : List UInt8) (al sz : Int) (dv : Value) : Array Value := #[.string ⟨name.toArray⟩, .string ⟨f.toArray⟩, .int .i64 al, .int .i64 sz, dv, .slice none 0 0]
abbrev cellsS (name : List UInt8) (typ flags addr align size link info ent : Nat) (dv : Value) : Array Value := #[.string ⟨name.toArray⟩, .int .u32 (typ : Int), .int .u64 (flags : Int), .int .u64 (addr : Int), .int .u64 (align : Int), .int .u64 (size : Int), .int .u32 (link : Int), .int .u32 (info : Int), .int .u64 (ent : Int), dv]
abbrev cells4 : Array Value := #[.int .u64 2, .int .u64 1, .int .u64 4, .int .u64 1024]
theorem cells_cat {name v : List UInt8} {c : UInt8} {al sz : Int} {dv : Value} {s : ByteArray} (hs : s.data.toList = [c]) : (cellsP name v al sz dv).setIfInBounds 1 (.string ((⟨v.toArray⟩ : ByteArray) ++ s)) = cellsP name (v ++ [c]) al sz dv := by
  rw [cat_str, hs]
  rfl
set_option maxHeartbeats 16000000 in
set_option maxRecDepth 100000 in
theorem guess17_any (e : ElfM) (L : List (SecM × Value)) (sv gv : Value) (base : Nat) (w : World) (h : ElfOwn w base e L sv gv) (hl : e.secs.length ≤ 1000) (hd : ∀ s ∈ e.secs, s.data.length ≤ 24000 ∧ s.name.length ≤ 1000000000) (hfit : e.fits) (hbase : base ≤ w.heap.size) :
    Calls Tryz.prog 18 #[elfV e sv gv] w fun r w' => RefRes e base r w' ∧ Below w.heap.size w w' := by
  have HH := Lib.hid h
  have HD := Lib.hid hd
  have HFT := Lib.hid hfit
  obtain ⟨xa, xc, rfl, hxc, -, hX⟩ := h.so.rd.open (fun _ => rfl)
  have HX := Lib.hid hX
  have hsl : e.secs.length = L.length := by rw [h.secs, List.length_map]
  have HES := Lib.hid h.secs
  have HSO : Hid (secsO (fun l => modR l []) e = if e.secs.length < 2 then none else if (symRd (e.secs[e.secs.length - 2]?.elim [] (·.data)) (e.secs[e.secs.length - 1]?.elim [] (·.data))).2 ≠ 0 then none else (modR (e.secs.take (e.secs.length - 2)) []).map fun ps => ⟨e.target, ps, (symRd (e.secs[e.secs.length - 2]?.elim [] (·.data)) (e.secs[e.secs.length - 1]?.elim [] (·.data))).1⟩) := rfl
  rw [hsl] at HSO hl
  obtain ⟨nl, hnl⟩ : ∃ n, n = L.length := ⟨_, rfl⟩
  rw [← hnl] at HSO hl hxc ⊢
  have HNL := Lib.hid hnl
  obtain ⟨gm, ga, gc, -, rfl, -, -⟩ := h.go.shape
  clear h hd hfit hX hsl hnl
  by_cases h2 : nl < 2
  · have HR := Lib.hid (show secsO (fun l => modR l []) e = none by rw [HSO.out, if_pos h2])
    go_enter Tryz.func18, Tryz.ntmps18
    go_wp2_with (first
      | ((with_reducible show wpList _ _ _ (⟨some 1, .box _ _, _, _, _, _⟩ :: _) _ _); go_must (refine wpList_box rfl ?_; intro w1 hx1 hb1 hs1; have HX1 := Lib.hid hx1; have HB1 := Lib.hid hb1; clear hx1 hb1))
      | ((with_reducible show wpList _ _ _ (⟨some 2, .alloc _, _, _, _, _⟩ :: _) _ _); go_must (refine wpList_allocObj ?_; intro w2 hx2 hb2 hs2; have HR2 := Lib.hid hx2; have HX2 := Lib.hid (heap_below hb2 HX1.out); have HB2 := Lib.hid (HB1.out.trans (hb2.mono HB1.out.size)); obtain ⟨c0, c1, c2, c3, c4, c5⟩ := elf_box HX2.out; clear hx2 hb2))
      | ((with_reducible show wpList _ _ _ (⟨some 4, .alloc _, _, _, _, _⟩ :: _) _ _); go_must (refine wpList_allocObj ?_; intro w3 hx3 hb3 hs3; have HE3 := Lib.hid hx3; have HR3 := Lib.hid (heap_below hb3 HR2.out); have HX3 := Lib.hid (heap_below hb3 HX2.out); have HB3 := Lib.hid (HB2.out.trans (hb3.mono HB2.out.size)); clear hx3 hb3))
      | ((with_reducible show wpList _ _ _ (⟨none, .store _ (.tmp 4) _, _, _, _, _⟩ :: _) _ _); go_must (refine wpList_storeObjS HE3.out rfl rfl rfl rfl (by simp [Value.oneCell']) ?_; intro w4 hh4 hs4; have HE4 := Lib.hid hh4; have HX4 := Lib.hid (hs4.kept HX3.out (by omega)); have HR4 := Lib.hid (hs4.kept HR3.out (by omega)); have HB4 := Lib.hid (HB3.out.trans (hs4.below HB3.out.size (fun k hk => by rw [hk]; exact HB2.out.size))); have hz4 := hs4.size; obtain ⟨c0, c1, c2, c3, c4, c5⟩ := elf_box HX4.out; obtain ⟨z0, z1, z2⟩ := obj_box HE4.out; clear hh4 hs4))
      | ((with_reducible show wpList _ _ _ (⟨none, .store _ (.tmp 2) _, _, _, _, _⟩ :: _) _ _); go_must (refine wpList_storeObjS HR4.out rfl rfl rfl rfl (by simp [Value.oneCell']) ?_; intro w5 hh5 hs5; have HH5 := Lib.hid hh5; have HB5 := Lib.hid (HB4.out.trans (hs5.below HB4.out.size (fun k hk => by rw [hk]; exact HB1.out.size))); clear hh5 hs5)))
    exact bodyPost_ret (obRow2 rfl _ _ w1.heap.size _ _ _ _ rfl HH5.out rfl rfl (by kernel_rfl)) rfl ⟨.inr ⟨HR.out, _, _, _, _, _, _, _, rfl⟩, HB5.out⟩
  obtain ⟨kk, rfl⟩ : ∃ kk, nl = kk + 2 := ⟨nl - 2, by omega⟩
  obtain ⟨x, hx⟩ : ∃ x, L[kk]? = some x := ⟨_, List.getElem?_eq_getElem (by have := HNL.out; omega)⟩
  obtain ⟨y, hy⟩ : ∃ y, L[kk + 1]? = some y := ⟨_, List.getElem?_eq_getElem (by have := HNL.out; omega)⟩
  have HMX := Lib.hid (List.mem_of_getElem? hx)
  have HMY := Lib.hid (List.mem_of_getElem? hy)
  have hex : e.secs[kk]? = some x.1 := by rw [HES.out, List.getElem?_map, hx]; rfl
  have hey : e.secs[kk + 1]? = some y.1 := by rw [HES.out, List.getElem?_map, hy]; rfl
  have HSP : Hid (secsO (fun l => modR l []) e = if (symRd x.1.data y.1.data).2 ≠ 0 then none else (modR (e.secs.take kk) []).map fun ps => ⟨e.target, ps, (symRd x.1.data y.1.data).1⟩) := by
    have := HSO.out
    rw [if_neg h2, show kk + 2 - 2 = kk by omega, show kk + 2 - 1 = kk + 1 by omega, hex, hey] at this
    exact this
  have HTK := Lib.hid (show e.secs.take kk = (L.take kk).map (·.1) by rw [HES.out, List.map_take])
  have HDX := Lib.hid (HD.out x.1 (List.mem_of_getElem? hex)).1
  have HDY := Lib.hid (HD.out y.1 (List.mem_of_getElem? hey)).1
  have HSR : Hid (∀ wx, Below w.heap.size w wx → Calls Tryz.prog 41 #[x.2, y.2] wx fun e w' => ∃ v', e = .returned (.tuple #[v', .int .i64 (symRd x.1.data y.1.data).2]) ∧ OwR 6 encSym 41 w' wx.heap.size v' (symRd x.1.data y.1.data).1 ∧ Below wx.heap.size wx w') := Lib.hid (fun wx hb => ref5Read_any x.1.data y.1.data x.2 y.2 wx (by have := HDX.out; omega) (by have := HDY.out; omega) ((HH.out.data x HMX.out).bs.mono hb) ((HH.out.data y HMY.out).bs.mono hb))
  clear HSO h2 hex hey
  obtain ⟨xm, xad, xcp, -, hxv, -, -⟩ := (HH.out.data x HMX.out).shape
  obtain ⟨ym, yad, ycp, -, hyv, -, -⟩ := (HH.out.data y HMY.out).shape
  generalize hsy : symRd x.1.data y.1.data = sy at *
  obtain ⟨Y, sc⟩ := sy
  obtain ⟨xs, xv⟩ := x
  obtain ⟨ys, yv⟩ := y
  dsimp only at *
  subst hxv hyv
  clear hsy
  go_enter Tryz.func18, Tryz.ntmps18
  go_wp2_with (first
      | ((with_reducible show wpList _ _ _ (⟨some 1, .box _ _, _, _, _, _⟩ :: _) _ _); go_must (refine wpList_box rfl ?_; intro w1 hx1 hb1 hs1; have HX1 := Lib.hid hx1; have HB1 := Lib.hid hb1; clear hx1 hb1))
      | ((with_reducible show wpList _ _ _ (⟨some 2, .alloc _, _, _, _, _⟩ :: _) _ _); go_must (refine wpList_allocObj ?_; intro w2 hx2 hb2 hs2; have HR2 := Lib.hid hx2; have HX2 := Lib.hid (heap_below hb2 HX1.out); have HB2 := Lib.hid (HB1.out.trans (hb2.mono HB1.out.size)); obtain ⟨c0, c1, c2, c3, c4, c5⟩ := elf_box HX2.out; clear hx2 hb2))
      | ((with_reducible show wpList _ _ _ (⟨some 4, .alloc _, _, _, _, _⟩ :: _) _ _); go_must (refine wpList_allocObj ?_; intro w3 hx3 hb3 hs3; have HE3 := Lib.hid hx3; have HR3 := Lib.hid (heap_below hb3 HR2.out); have HX3 := Lib.hid (heap_below hb3 HX2.out); have HB3 := Lib.hid (HB2.out.trans (hb3.mono HB2.out.size)); clear hx3 hb3))
      | ((with_reducible show wpList _ _ _ (⟨none, .store _ (.tmp 4) _, _, _, _, _⟩ :: _) _ _); go_must (refine wpList_storeObjS HE3.out rfl rfl rfl rfl (by simp [Value.oneCell']) ?_; intro w4 hh4 hs4; have HE4 := Lib.hid hh4; have HX4 := Lib.hid (hs4.kept HX3.out (by omega)); have HR4 := Lib.hid (hs4.kept HR3.out (by omega)); have HB4 := Lib.hid (HB3.out.trans (hs4.below HB3.out.size (fun k hk => by rw [hk]; exact HB2.out.size))); have hz4 := hs4.size; obtain ⟨c0, c1, c2, c3, c4, c5⟩ := elf_box HX4.out; obtain ⟨z0, z1, z2⟩ := obj_box HE4.out; clear hh4 hs4)))
  obtain ⟨bb, bo, rfl, x9⟩ : ∃ bb bo, xa = some ⟨bb, bo, none⟩ ∧ w4.cell? ⟨bb, bo + kk * 10 + 9, none⟩ = some (.slice xad xm xcp) ∧ w4.cell? ⟨bb, bo + (kk + 1) * 10 + 9, none⟩ = some (.slice yad ym ycp) ∧ bb < w.heap.size := by
    obtain ⟨bb, bo, rfl, -, -, -, -, -, -, -, -, -, q9, q0⟩ := sec_cells HX.out HB4.out hx
    obtain ⟨bb2, bo2, hbb, -, -, -, -, -, -, -, -, -, q9', -⟩ := sec_cells HX.out HB4.out hy
    cases hbb
    exact ⟨bb, bo, rfl, q9, q9', q0⟩
  obtain ⟨x9, y9, hbb⟩ := x9
  have HX9 := Lib.hid x9
  have HY9 := Lib.hid y9
  have hl12 : w.heap.size < w2.heap.size := by omega
  have HI0 := Lib.hid (show RefInv w w4 base w2.heap.size w1.heap.size w.heap.size #[.int .i64 e.typ, .int .i64 e.target, .int .u32 (e.flags : Int), .int .u64 (e.entry : Int), .slice (some ⟨bb, bo, none⟩) (kk + 2) xc, .slice ga gm gc] e.target (.slice none 0 0) (.slice none 0 0) (.slice none 0 0) [] from
    ⟨HE4.out, HR4.out, HX4.out, OwR.nil _ _ _ _ _, (fun p hp => by cases hp), (fun p hp => by cases hp), HB4.out, Nat.le_of_lt hl12, HB1.out.size, by omega⟩)
  have hlk : (L.take kk).length = kk := by rw [List.length_take]; have := HNL.out; omega
  have HLK := Lib.hid hlk
  clear c0 c1 c2 c3 c4 c5 z0 z1 z2 x9 y9 hlk
  go_loopw [6] (fun i wr => ∃ (k : Nat) (pa : Option Addr) (pn pc : Nat) (PL : List (PartM × Value × Value)), i = .int .i64 k ∧ k ≤ kk ∧ Hid (RefInv w wr base w2.heap.size w1.heap.size w.heap.size #[.int .i64 e.typ, .int .i64 e.target, .int .u32 (e.flags : Int), .int .u64 (e.entry : Int), .slice (some ⟨bb, bo, none⟩) (kk + 2) xc, .slice ga gm gc] e.target (.slice pa pn pc) (.slice none 0 0) (.slice pa pn pc) PL) ∧ Hid (modR (e.secs.take kk) [] = restR (L.take kk) k (PL.map (·.1))) ∧ Hid (PL.length ≤ k)) (fun i _ => kk - (intOf i).toNat)
  case atStart => exact ⟨0, none, 0, 0, [], rfl, Nat.zero_le _, HI0.out, (by show modR _ _ = modR (((L.take kk).drop 0).map (·.1)) _; rw [HTK.out]; rfl), Nat.le_refl _⟩
  case round =>
    obtain ⟨k, pa, pn, pc, PL, rfl, hk, HI, HRE, HLE⟩ := hrel
    have hbs := HI.out.below.size
    have hpn : Hid (pn = PL.length) := by
      obtain ⟨m', a', c', h1, h2, -, -⟩ := HI.out.po.shape
      cases h2
      exact h1
    have hpl9 : pn ≤ 1000 := by have := HLE.out; have := hpn.out; omega
    obtain ⟨b0, b1, b2, b3, b4, b5⟩ := elf_box HI.out.box
    obtain ⟨z0, z1, z2⟩ := obj_box HI.out.blk
    by_cases hlt : k < kk
    · obtain ⟨x, hx⟩ : ∃ x, (L.take kk)[k]? = some x := ⟨_, List.getElem?_eq_getElem (by have := HLK.out; omega)⟩
      have hxL : L[k]? = some x := by
        rw [List.getElem?_take, if_pos hlt] at hx
        exact hx
      obtain ⟨sb, so, hsb, e0, e1, e2, e3, e4, e5, e6, e7, e8, e9, hb0⟩ := sec_cells HX.out HI.out.below hxL
      cases hsb
      have hxm : x.1 ∈ e.secs := by rw [HES.out]; exact List.mem_map.2 ⟨x, List.mem_of_getElem? hxL, rfl⟩
      have HFX := Lib.hid (HFT.out.secs x.1 hxm)
      have HDN := Lib.hid (HD.out x.1 hxm)
      have HXD := Lib.hid (HH.out.data x (List.mem_of_getElem? hxL))
      have HXB := Lib.hid (HXD.out.bs)
      have HPART := Lib.hid (fun ht => restR_part (ps := PL.map (·.1)) hx ht)
      have HNONE := Lib.hid (fun ht hl => restR_none (ps := PL.map (·.1)) hx ht hl)
      have HSOME := Lib.hid (fun ht hl => restR_some (ps := PL.map (·.1)) hx ht hl)
      obtain ⟨xm, xad, xcp, -, hxv, -, -⟩ := HXD.out.shape
      obtain ⟨s, xv⟩ := x
      dsimp only at *
      subst hxv
      clear hx hxL hxm
      obtain ⟨name, typ, flags, addr, align, size, link, info, ent, data⟩ := s
      dsimp only at *
      by_cases ht4 : typ = 4
      case neg =>
        have hnt : (((typ : Nat) : Int) == 4) = false := by rw [beq_eq_false_iff_ne]; omega
        have HP2 := Lib.hid (HPART.out ht4)
        have hbt : (((typ : Nat) : Int) == 8) = decide (typ = 8) := by
          rw [Bool.eq_iff_iff, beq_iff_eq, decide_eq_true_iff]
          omega
        have hwa := wrapEq (align : Int)
        have hws := wrapEq (size : Int)
        have HPO : Hid (partOf ⟨name, typ, flags, addr, align, size, link, info, ent, data⟩ = ⟨name, textN flags (decide (typ = 8)), wrap64 (align : Int), wrap64 (size : Int), data, []⟩) := rfl
        have HNT := Lib.hid (textK_4 flags (decide (typ = 8)))
        generalize partOf ⟨name, typ, flags, addr, align, size, link, info, ent, data⟩ = pt at *
        generalize textN flags (decide (typ = 8)) = tx at *
        generalize decide (typ = 8) = bt at *
        generalize wrap64 (align : Int) = al at *
        generalize wrap64 (size : Int) = sz at *
        clear ht4 HPART HNONE HSOME
        go_wp2_with (first
          | ((with_reducible show wpList _ _ _ (⟨none, .store _ (.tmp 7) _, _, _, _, _⟩ :: _) _ _); go_must (refine wpList_storeNew rfl rfl (by kernel_rfl) rfl (by simp [Value.oneCell']) ?_; intro w7 hh7 hb7; have HH7 := Lib.hid hh7; have HI7 := Lib.hid (HI.out.mono hb7); have hz7 := hb7.size; obtain ⟨d0, d1, d2, d3, d4, d5, d6, d7, d8, d9⟩ := sec_box (x := (⟨name, typ, flags, addr, align, size, link, info, ent, data⟩, Value.slice xad xm xcp)) hh7; clear hh7 hb7))
          | ((with_reducible show wpList _ _ _ (⟨none, .store _ (.tmp 10) _, _, _, _, _⟩ :: _) _ _); go_must (refine wpList_storeNew rfl rfl (by kernel_rfl) rfl (by simp [Value.oneCell']) ?_; intro w8 hh8 hb8; have HH8 := Lib.hid hh8; have HI8 := Lib.hid (HI7.out.mono hb8); have HS8 := Lib.hid (heap_below hb8 HH7.out); have hz8 := hb8.size; clear hh8 hb8))
          | ((with_reducible show wpList _ _ _ (⟨some 79, _, _, _, _, _⟩ :: _) _ _); go_must (refine wpList_fourU ?_; intro w9 hh9 hb9 hs9; have HW9 := Lib.hid hh9; have HI9 := Lib.hid (HI8.out.mono hb9); have HS9 := Lib.hid (heap_below hb9 HS8.out); have HH9 := Lib.hid (heap_below hb9 HH8.out); clear hh9 hb9)))
        -- LOOP
        obtain ⟨wo, rfl⟩ : ∃ wo : World, wo = wr := ⟨_, rfl⟩
        have hw78 : w.heap.size ≤ w7.heap.size := by omega
        have HPV := Lib.hid (fun k (hk : (Value.slice pa pn pc).ownBlock = some k) => (show k ≠ w7.heap.size from by have := (World.ownsRow.lt HI.out.po k hk).2; omega))
        have HFL := Lib.hid (show flags < 18446744073709551616 from HFX.out.2.1)
        clear b0 b1 b2 b3 b4 b5 z0 z1 z2 d0 d1 d2 d3 d4 d5 d6 d7 d8 d9 e0 e1 e2 e3 e4 e5 e6 e7 e8 e9
        go_loopw [12] (fun i wx => ∃ j : Nat, i = .int .i64 j ∧ j ≤ 4 ∧ Hid (RefInv w wx base w2.heap.size w1.heap.size w.heap.size #[.int .i64 e.typ, .int .i64 e.target, .int .u32 (e.flags : Int), .int .u64 (e.entry : Int), .slice (some ⟨bb, bo, none⟩) (kk + 2) xc, .slice ga gm gc] e.target (.slice pa pn pc) (.slice none 0 0) (.slice pa pn pc) PL) ∧ Hid (wx.heap[wo.heap.size]? = some (.cells (cellsS name typ flags addr align size link info ent (.slice xad xm xcp)) 60 (0, 0))) ∧ Hid (wx.heap[w7.heap.size]? = some (.cells (cellsP name (textK flags j) al sz (.slice xad xm xcp)) 38 (0, 0))) ∧ Hid (wx.heap[w8.heap.size]? = some (.cells cells4 39 (0, 0)))) (fun i _ => 4 - (intOf i).toNat)
        case atStart => exact ⟨0, rfl, by omega, HI9.out, HS9.out, HH9.out, HW9.out⟩
        case round =>
          obtain ⟨j, rfl, hj, HIX, HSX, HHX, HWX⟩ := hrel
          by_cases hj4 : j < 4
          · have HS : Hid (textK flags (j + 1) = if flags &&& bitAt j ≠ 0 then textK flags j ++ [lettersM.getD j 0] else textK flags j) := rfl
            have HO := Lib.hid (show bits .and .u64 (flags : Int) (bitI j) = _ from (bitI_cast j).symm ▸ and_u64' HFL.out (bitAt_lt j))
            have hvl := textK_len flags j
            generalize textK flags j = v at *
            generalize flags &&& bitAt j = m at *
            have hwx : w.heap.size ≤ wr.heap.size := HIX.out.below.size
            obtain ⟨d0, d1, d2, d3, d4, d5, d6, d7, d8, d9⟩ := sec_box (x := (⟨name, typ, flags, addr, align, size, link, info, ent, data⟩, Value.slice xad xm xcp)) HSX.out
            obtain ⟨p0, p1, p2, p3, p4, p5⟩ := part_box (x := ((⟨name, v, al, sz, data, []⟩ : PartM), Value.slice xad xm xcp, Value.slice none 0 0)) HHX.out
            obtain ⟨f0, f1, f2, f3⟩ := four_box HWX.out
            dsimp only at *
            have l1 := block_lt d0
            have l2 := block_lt p0
            have l3 := block_lt f0
            have hAB := fun (x : Above wr) (b k : Nat) (h : b < wr.heap.size) => Above.cell x b k h
            rcases (show j = 0 ∨ j = 1 ∨ j = 2 ∨ j = 3 by omega) with rfl | rfl | rfl | rfl
            all_goals have HOO := HO.out
            all_goals simp only [bitI] at HOO
            all_goals have hbig : ¬ 9223372036854775807 < v.length + 1 := by omega
            all_goals have HV := Lib.hid hvl
            all_goals clear hvl
            all_goals by_cases hm : m = 0
            all_goals have ht := (congrArg (fun x : Int => x != 0) HOO).trans (show ((m : Int) != 0) = decide (m ≠ 0) by rw [Bool.eq_iff_iff]; simp)
            all_goals simp only [hm, ne_eq, not_true_eq_false, not_false_eq_true, decide_true, decide_false] at ht
            all_goals clear HOO
            all_goals have HM := Lib.hid hm
            all_goals clear hm
            all_goals go_wp2
            all_goals refine wp_region_walk 8 [] (by kernel_rfl) (by kernel_rfl) ?_
            all_goals simp only [List.take_succ_cons, List.take_zero, List.drop_succ_cons, List.drop_zero]
            all_goals repeat (refine walk_quiet rfl rfl rfl ?_; intro K hK; go_big_quiet_op; go_big_quiet_on)
            all_goals refine walk_nil ?_
            all_goals intro wz hbz hF
            all_goals clear hF hAB
            all_goals have HIZ := Lib.hid (HIX.out.mono hbz)
            all_goals have HSZ := Lib.hid (heap_below hbz HSX.out)
            all_goals have HHZ := Lib.hid (heap_below hbz HHX.out)
            all_goals have HWZ := Lib.hid (heap_below hbz HWX.out)
            all_goals have hwz : w.heap.size ≤ wz.heap.size := HIZ.out.below.size
            all_goals clear d0 d1 d2 d3 d4 d5 d6 d7 d8 d9 p0 p1 p2 p3 p4 p5 f0 f1 f2 f3 l1 l2 l3 hbz
            all_goals obtain ⟨p0, p1, p2, p3, p4, p5⟩ := part_box (x := ((⟨name, v, al, sz, data, []⟩ : PartM), Value.slice xad xm xcp, Value.slice none 0 0)) HHZ.out
            all_goals dsimp only at *
            -- BIT
            all_goals go_wp2
            all_goals first
              | exact ⟨⟨1, rfl, by omega, HIZ.out, HSZ.out, HHZ.out.trans (congrArg (fun l => some (Obj.cells (cellsP name l al sz (.slice xad xm xcp)) 38 (0, 0))) (HS.out.trans (if_neg (fun h => h HM.out))).symm), HWZ.out⟩, by simp [intOf]⟩
              | exact ⟨⟨2, rfl, by omega, HIZ.out, HSZ.out, HHZ.out.trans (congrArg (fun l => some (Obj.cells (cellsP name l al sz (.slice xad xm xcp)) 38 (0, 0))) (HS.out.trans (if_neg (fun h => h HM.out))).symm), HWZ.out⟩, by simp [intOf]⟩
              | exact ⟨⟨3, rfl, by omega, HIZ.out, HSZ.out, HHZ.out.trans (congrArg (fun l => some (Obj.cells (cellsP name l al sz (.slice xad xm xcp)) 38 (0, 0))) (HS.out.trans (if_neg (fun h => h HM.out))).symm), HWZ.out⟩, by simp [intOf]⟩
              | exact ⟨⟨4, rfl, by omega, HIZ.out, HSZ.out, HHZ.out.trans (congrArg (fun l => some (Obj.cells (cellsP name l al sz (.slice xad xm xcp)) 38 (0, 0))) (HS.out.trans (if_neg (fun h => h HM.out))).symm), HWZ.out⟩, by simp [intOf]⟩
              | skip
            all_goals have hAB := fun (x : Above wz) (b k : Nat) (h : b < wz.heap.size) => Above.cell x b k h
            all_goals have l2 := block_lt p0
            all_goals refine wp_region_walk 8 [] (by kernel_rfl) (by kernel_rfl) ?_
            all_goals simp only [List.take_succ_cons, List.take_zero, List.drop_succ_cons, List.drop_zero]
            all_goals repeat (refine walk_quiet rfl rfl rfl ?_; intro K hK; go_big_quiet_op; go_big_quiet_on)
            all_goals refine walk_nil ?_
            all_goals intro wy hby hF
            all_goals clear hF hAB
            all_goals refine wpList_setStr (heap_below hby HHZ.out) (show 1 < 6 by decide) rfl rfl hw78 (Nat.le_trans hwz hby.size) ?_
            all_goals intro wq hhq hbq hsq
            all_goals have HIQ := Lib.hid ((HIZ.out.mono hby).one (heap_below hby HHZ.out) HPV.out hw78 hsq)
            all_goals have HSQ := Lib.hid (hsq.kept (heap_below hby HSZ.out) (cells_ne (heap_below hby HSZ.out) (heap_below hby HHZ.out) (by decide)))
            all_goals have HWQ := Lib.hid (hsq.kept (heap_below hby HWZ.out) (cells_ne (heap_below hby HWZ.out) (heap_below hby HHZ.out) (by decide)))
            all_goals have HHQ := Lib.hid hhq
            all_goals clear hhq hbq hsq p0 p1 p2 p3 p4 p5 l2
            -- PUT
            all_goals go_wp2
            all_goals first
              | exact ⟨⟨1, rfl, by omega, HIQ.out, HSQ.out, HHQ.out.trans (congrArg (fun c => some (Obj.cells c 38 (0, 0))) ((cells_cat (c := 97) rfl).trans (congrArg (fun l => cellsP name l al sz (.slice xad xm xcp)) (HS.out.trans (if_pos HM.out)).symm))), HWQ.out⟩, by simp [intOf]⟩
              | exact ⟨⟨2, rfl, by omega, HIQ.out, HSQ.out, HHQ.out.trans (congrArg (fun c => some (Obj.cells c 38 (0, 0))) ((cells_cat (c := 119) rfl).trans (congrArg (fun l => cellsP name l al sz (.slice xad xm xcp)) (HS.out.trans (if_pos HM.out)).symm))), HWQ.out⟩, by simp [intOf]⟩
              | exact ⟨⟨3, rfl, by omega, HIQ.out, HSQ.out, HHQ.out.trans (congrArg (fun c => some (Obj.cells c 38 (0, 0))) ((cells_cat (c := 120) rfl).trans (congrArg (fun l => cellsP name l al sz (.slice xad xm xcp)) (HS.out.trans (if_pos HM.out)).symm))), HWQ.out⟩, by simp [intOf]⟩
              | exact ⟨⟨4, rfl, by omega, HIQ.out, HSQ.out, HHQ.out.trans (congrArg (fun c => some (Obj.cells c 38 (0, 0))) ((cells_cat (c := 116) rfl).trans (congrArg (fun l => cellsP name l al sz (.slice xad xm xcp)) (HS.out.trans (if_pos HM.out)).symm))), HWQ.out⟩, by simp [intOf]⟩
          · obtain rfl : j = 4 := by omega
            have hvl := textK_len flags 4
            generalize textK flags 4 = v at *
            have hbig : ¬ 9223372036854775807 < v.length + 1 := by omega
            have hwx : w.heap.size ≤ wr.heap.size := HIX.out.below.size
            obtain ⟨d0, d1, d2, d3, d4, d5, d6, d7, d8, d9⟩ := sec_box (x := (⟨name, typ, flags, addr, align, size, link, info, ent, data⟩, Value.slice xad xm xcp)) HSX.out
            obtain ⟨p0, p1, p2, p3, p4, p5⟩ := part_box (x := ((⟨name, v, al, sz, data, []⟩ : PartM), Value.slice xad xm xcp, Value.slice none 0 0)) HHX.out
            obtain ⟨z0, z1, z2⟩ := obj_box HIX.out.blk
            dsimp only at *
            have HV := Lib.hid hvl
            clear hvl
            have hg2 : w.heap.size ≤ w2.heap.size := Nat.le_of_lt hl12
            cases bt
            case false =>
              obtain rfl : v = tx := by have := HNT.out; simpa using this
              obtain ⟨wq, rfl⟩ : ∃ wq : World, wq = wr := ⟨_, rfl⟩
              have HIQ := HIX
              have HHQ := HHX
              -- FALSE
              go_wp2_with (first
                | ((with_reducible show wpList _ _ _ (⟨some 110, _, _, _, _, _⟩ :: _) _ _); go_must (refine wpList_onePart (p := (⟨name, v, al, sz, data, []⟩ : PartM)) rfl ?_; intro wA hhA hbA hsA; have HGA := Lib.hid hhA; have HIA := Lib.hid (HIQ.out.mono hbA); clear hhA hbA hsA))
                | ((with_reducible show wpList _ _ _ (⟨some 111, _, _, _, _, _⟩ :: _) _ _); go_must (refine wpList_cat TPart HIA.out.po (rd_one (x := ((⟨name, v, al, sz, data, []⟩ : PartM), Value.slice xad xm xcp, Value.slice none 0 0)) rfl HGA.out rfl) rfl rfl (onePart (L := [((⟨name, v, al, sz, data, []⟩ : PartM), Value.slice xad xm xcp, Value.slice none 0 0)]) (fun p hp => by rw [List.mem_singleton] at hp; rw [hp]; exact ⟨rfl, rfl⟩)) (by simp; have := HLE.out; omega) (by simp; have := HLE.out; omega) HIA.out.below.size ?_; intro v9 w9 hv9 hg9 hb9; have hsz9 : w.heap.size ≤ w9.heap.size := Nat.le_trans HIA.out.below.size hb9.size; obtain ⟨m9, q9, r9, -, rfl, _, _⟩ := (Reads.of_owns hv9).shape; have HVV := Lib.hid (show OwR 6 encPart 38 w9 w.heap.size (.slice q9 m9 r9) (PL ++ [((⟨name, v, al, sz, data, []⟩ : PartM), Value.slice xad xm xcp, Value.slice none 0 0)]) by unfold OwR; rw [List.length_append, List.flatMap_append]; exact hv9); have HIG := Lib.hid (HIA.out.grow HVV.out hg9 HXD.out rfl rfl); clear hv9 hg9 hb9))
                | ((with_reducible show wpList _ _ _ (⟨none, .store _ (.tmp 112) _, _, _, _, _⟩ :: _) _ _); go_must (refine wpList_set HIG.out.blk (show 1 < 3 by decide) rfl rfl hg2 hsz9 (fun w => by kernel_rfl) ?_; intro wB hhB hbB hsB; have HIB := Lib.hid (HIG.out.store (pc' := .slice q9 m9 r9) (sc' := .slice none 0 0) hhB hsB); clear hhB hbB hsB)))
              exact ⟨⟨k + 1, q9, m9, r9, PL ++ [((⟨name, v, al, sz, data, []⟩ : PartM), Value.slice xad xm xcp, Value.slice none 0 0)], rfl, by omega, HIB, (by show _ = restR _ _ (List.map _ (PL ++ _)); rw [HRE.out, HP2.out, HPO.out, List.map_append]; rfl), (by have := HLE.out; unfold Hid; rw [List.length_append, List.length_singleton]; omega)⟩, by simp [intOf]; omega⟩
            case true =>
              have HTX := Lib.hid (show v ++ [110] = tx from HNT.out)
              go_wp2_with (first
                | ((with_reducible show wpList _ _ _ (⟨none, .store _ (.tmp 106) _, _, _, _, _⟩ :: _) _ _); go_must (refine wpList_setStr HHX.out (show 1 < 6 by decide) rfl rfl hw78 hwx ?_; intro wq hhq hbq hsq; have HIQ := Lib.hid (HIX.out.one HHX.out HPV.out hw78 hsq); have HHQ := Lib.hid (show wq.heap[w7.heap.size]? = some (.cells (cellsP name tx al sz (.slice xad xm xcp)) 38 (0, 0)) from hhq.trans (congrArg (fun c => some (Obj.cells c 38 (0, 0))) ((cells_cat (c := 110) rfl).trans (congrArg (fun l => cellsP name l al sz (.slice xad xm xcp)) HTX.out)))); obtain ⟨p0, p1, p2, p3, p4, p5⟩ := part_box (x := ((⟨name, tx, al, sz, data, []⟩ : PartM), Value.slice xad xm xcp, Value.slice none 0 0)) HHQ.out; obtain ⟨z0, z1, z2⟩ := obj_box HIQ.out.blk; clear hhq hbq hsq))
                | ((with_reducible show wpList _ _ _ (⟨some 110, _, _, _, _, _⟩ :: _) _ _); go_must (refine wpList_onePart (p := (⟨name, tx, al, sz, data, []⟩ : PartM)) rfl ?_; intro wA hhA hbA hsA; have HGA := Lib.hid hhA; have HIA := Lib.hid (HIQ.out.mono hbA); clear hhA hbA hsA))
                | ((with_reducible show wpList _ _ _ (⟨some 111, _, _, _, _, _⟩ :: _) _ _); go_must (refine wpList_cat TPart HIA.out.po (rd_one (x := ((⟨name, tx, al, sz, data, []⟩ : PartM), Value.slice xad xm xcp, Value.slice none 0 0)) rfl HGA.out rfl) rfl rfl (onePart (L := [((⟨name, tx, al, sz, data, []⟩ : PartM), Value.slice xad xm xcp, Value.slice none 0 0)]) (fun p hp => by rw [List.mem_singleton] at hp; rw [hp]; exact ⟨rfl, rfl⟩)) (by simp; have := HLE.out; omega) (by simp; have := HLE.out; omega) HIA.out.below.size ?_; intro v9 w9 hv9 hg9 hb9; have hsz9 : w.heap.size ≤ w9.heap.size := Nat.le_trans HIA.out.below.size hb9.size; obtain ⟨m9, q9, r9, -, rfl, _, _⟩ := (Reads.of_owns hv9).shape; have HVV := Lib.hid (show OwR 6 encPart 38 w9 w.heap.size (.slice q9 m9 r9) (PL ++ [((⟨name, tx, al, sz, data, []⟩ : PartM), Value.slice xad xm xcp, Value.slice none 0 0)]) by unfold OwR; rw [List.length_append, List.flatMap_append]; exact hv9); have HIG := Lib.hid (HIA.out.grow HVV.out hg9 HXD.out rfl rfl); clear hv9 hg9 hb9))
                | ((with_reducible show wpList _ _ _ (⟨none, .store _ (.tmp 112) _, _, _, _, _⟩ :: _) _ _); go_must (refine wpList_set HIG.out.blk (show 1 < 3 by decide) rfl rfl hg2 hsz9 (fun w => by kernel_rfl) ?_; intro wB hhB hbB hsB; have HIB := Lib.hid (HIG.out.store (pc' := .slice q9 m9 r9) (sc' := .slice none 0 0) hhB hsB); clear hhB hbB hsB)))
              exact ⟨⟨k + 1, q9, m9, r9, PL ++ [((⟨name, tx, al, sz, data, []⟩ : PartM), Value.slice xad xm xcp, Value.slice none 0 0)], rfl, by omega, HIB, (by show _ = restR _ _ (List.map _ (PL ++ _)); rw [HRE.out, HP2.out, HPO.out, List.map_append]; rfl), (by have := HLE.out; unfold Hid; rw [List.length_append, List.length_singleton]; omega)⟩, by simp [intOf]; omega⟩
      case pos =>
        subst ht4
        have hnt : (((4 : Nat) : Int) == 4) = true := rfl
        have HRD : Hid (∀ wx, Below w.heap.size w wx → Calls Tryz.prog 40 #[.slice xad xm xcp] wx fun e w' => ∃ v', e = .returned (.tuple #[v', .int .i64 (relaRd data).2]) ∧ OwR 4 encRela 57 w' wx.heap.size v' (relaRd data).1 ∧ Below wx.heap.size wx w') := Lib.hid (fun wx hb => ref5ReadRela_big data _ wx HDN.out.1 (HXB.out.mono hb))
        have HNO := Lib.hid (fun hl => HNONE.out rfl hl)
        have HSM := Lib.hid (fun hl => HSOME.out rfl hl)
        generalize relaRd data = rd at *
        obtain ⟨rl, rcode⟩ := rd
        dsimp only at *
        have hi32 : info < 4294967296 := HFX.out.2.2.2.2.2.2.1
        clear HPART HNONE HSOME
        by_cases h1 : info < 1
        · obtain rfl : info = 0 := by omega
          have HR := Lib.hid (show secsO (fun l => modR l []) e = none by
            rw [HSP.out]
            split
            · rfl
            · rw [HRE.out, HNO.out (.inl (by omega))]; rfl)
          clear h1
          -- ZERO
          go_wp2_with (first
            | ((with_reducible show wpList _ _ _ (⟨none, .store _ (.tmp 7) _, _, _, _, _⟩ :: _) _ _); go_must (refine wpList_storeNew rfl rfl (by kernel_rfl) rfl (by simp [Value.oneCell']) ?_; intro w7 hh7 hb7; have HH7 := Lib.hid (show w7.heap[wr.heap.size]? = some (.cells (cellsS name 4 flags addr align size link 0 ent (.slice xad xm xcp)) 60 (0, 0)) from hh7); have HI7 := Lib.hid (HI.out.mono hb7); have hz7 := hb7.size; obtain ⟨d0, d1, d2, d3, d4, d5, d6, d7, d8, d9⟩ := sec_box (x := (⟨name, 4, flags, addr, align, size, link, 0, ent, data⟩, Value.slice xad xm xcp)) hh7; obtain ⟨z0, z1, z2⟩ := obj_box HI7.out.blk; clear hh7 hb7))
            | ((with_reducible show wpList _ _ _ (⟨none, .store _ (.tmp 2) _, _, _, _, _⟩ :: _) _ _); go_must (refine wpList_storeObjS HI7.out.res rfl rfl rfl rfl (by simp [Value.oneCell']) ?_; intro wy hhy hsy; have HHY := Lib.hid hhy; have HBY := Lib.hid (HI7.out.below.trans (hsy.below HI7.out.below.size (fun k hk => by rw [hk]; exact HB1.out.size))); clear hhy hsy)))
          exact bodyPost_ret (obRow2 rfl _ _ w1.heap.size _ _ _ _ rfl HHY.out rfl rfl (by kernel_rfl)) rfl ⟨.inr ⟨HR.out, _, _, _, _, _, _, _, rfl⟩, HBY.out⟩
        by_cases h3 : pn < info
        · have HR := Lib.hid (show secsO (fun l => modR l []) e = none by
            rw [HSP.out]
            split
            · rfl
            · rw [HRE.out, HNO.out (.inr (by rw [List.length_map, ← hpn.out]; exact h3))]; rfl)
          have hcv : IntKind.i64.wrap (info : Int) = (info : Int) := by rw [IntKind.wrap_i64]; omega
          -- HIGH
          go_wp2_with (first
            | ((with_reducible show wpList _ _ _ (⟨none, .store _ (.tmp 7) _, _, _, _, _⟩ :: _) _ _); go_must (refine wpList_storeNew rfl rfl (by kernel_rfl) rfl (by simp [Value.oneCell']) ?_; intro w7 hh7 hb7; have HH7 := Lib.hid (show w7.heap[wr.heap.size]? = some (.cells (cellsS name 4 flags addr align size link info ent (.slice xad xm xcp)) 60 (0, 0)) from hh7); have HI7 := Lib.hid (HI.out.mono hb7); have hz7 := hb7.size; obtain ⟨d0, d1, d2, d3, d4, d5, d6, d7, d8, d9⟩ := sec_box (x := (⟨name, 4, flags, addr, align, size, link, info, ent, data⟩, Value.slice xad xm xcp)) hh7; obtain ⟨z0, z1, z2⟩ := obj_box HI7.out.blk; clear hh7 hb7))
            | ((with_reducible show wpList _ _ _ (⟨none, .store _ (.tmp 2) _, _, _, _, _⟩ :: _) _ _); go_must (refine wpList_storeObjS HI7.out.res rfl rfl rfl rfl (by simp [Value.oneCell']) ?_; intro wy hhy hsy; have HHY := Lib.hid hhy; have HBY := Lib.hid (HI7.out.below.trans (hsy.below HI7.out.below.size (fun k hk => by rw [hk]; exact HB1.out.size))); clear hhy hsy)))
          exact bodyPost_ret (obRow2 rfl _ _ w1.heap.size _ _ _ _ rfl HHY.out rfl rfl (by kernel_rfl)) rfl ⟨.inr ⟨HR.out, _, _, _, _, _, _, _, rfl⟩, HBY.out⟩
        obtain ⟨m, hm⟩ : ∃ m, info = m + 1 := ⟨info - 1, by omega⟩
        have hml : m < PL.length := by have := hpn.out; omega
        have HSI := Lib.hid (show restR (L.take kk) k (PL.map (·.1)) = if rcode ≠ 0 then none else restR (L.take kk) (k + 1) (setRel (PL.map (·.1)) m rl) from by
          have h9 := HSM.out (by rw [List.length_map, ← hpn.out]; omega)
          rw [show info - 1 = m by omega] at h9
          exact h9)
        have hcv : IntKind.i64.wrap (info : Int) = (info : Int) := by rw [IntKind.wrap_i64]; omega
        have hsb : IntKind.u32.wrap ((info : Int) - 1) = (m : Int) := by rw [IntKind.wrap_u32]; omega
        have hmp : m < pn := by have := hpn.out; omega
        have HML := Lib.hid hml
        have hib : ¬ (info : Int) < 1 := by omega
        clear hm hml HNO HSM
        by_cases hrc : rcode = 0
        case neg =>
          have HR := Lib.hid (show secsO (fun l => modR l []) e = none by
            rw [HSP.out]
            split
            · rfl
            · rw [HRE.out, HSI.out, if_pos hrc]; rfl)
          have hrb : (rcode != 0) = true := bne_iff_ne.2 hrc
          clear hrc
          -- BAD
          go_wp2_with (first
            | ((with_reducible show wpList _ _ _ (⟨none, .store _ (.tmp 7) _, _, _, _, _⟩ :: _) _ _); go_must (refine wpList_storeNew rfl rfl (by kernel_rfl) rfl (by simp [Value.oneCell']) ?_; intro w7 hh7 hb7; have HH7 := Lib.hid (show w7.heap[wr.heap.size]? = some (.cells (cellsS name 4 flags addr align size link info ent (.slice xad xm xcp)) 60 (0, 0)) from hh7); have HI7 := Lib.hid (HI.out.mono hb7); have hz7 := hb7.size; obtain ⟨d0, d1, d2, d3, d4, d5, d6, d7, d8, d9⟩ := sec_box (x := (⟨name, 4, flags, addr, align, size, link, info, ent, data⟩, Value.slice xad xm xcp)) hh7; obtain ⟨z0, z1, z2⟩ := obj_box HI7.out.blk; clear hh7 hb7))
            | (go_at_call 40; refine (HRD.out _ HI7.out.below).mono ?_; rintro e w8 ⟨v8, rfl, hr8, hb8⟩; have HI8 := Lib.hid (HI7.out.mono hb8); have HR8 := Lib.hid hr8; obtain ⟨m8, q8, c8, -, rfl, -, -⟩ := hr8.shape; obtain ⟨d0, d1, d2, d3, d4, d5, d6, d7, d8, d9⟩ := sec_box (x := (⟨name, 4, flags, addr, align, size, link, info, ent, data⟩, Value.slice xad xm xcp)) (heap_below hb8 HH7.out); obtain ⟨z0, z1, z2⟩ := obj_box HI8.out.blk; clear hr8 hb8)
            | ((with_reducible show wpList _ _ _ (⟨none, .store _ (.tmp 2) _, _, _, _, _⟩ :: _) _ _); go_must (refine wpList_storeObjS HI8.out.res rfl rfl rfl rfl (by simp [Value.oneCell']) ?_; intro wy hhy hsy; have HHY := Lib.hid hhy; have HBY := Lib.hid (HI8.out.below.trans (hsy.below HI8.out.below.size (fun k hk => by rw [hk]; exact HB1.out.size))); clear hhy hsy)))
          exact bodyPost_ret (obRow2 rfl _ _ w1.heap.size _ _ _ _ rfl HHY.out rfl rfl (by kernel_rfl)) rfl ⟨.inr ⟨HR.out, _, _, _, _, _, _, _, rfl⟩, HBY.out⟩
        subst hrc
        have HSN := Lib.hid (show restR (L.take kk) k (PL.map (·.1)) = restR (L.take kk) (k + 1) (setRel (PL.map (·.1)) m rl) from HSI.out.trans (if_neg (by simp)))
        obtain ⟨y, hy2⟩ : ∃ y, PL[m]? = some y := ⟨_, List.getElem?_eq_getElem HML.out⟩
        have HY := Lib.hid hy2
        obtain ⟨pb, cap', hform⟩ := own_form HI.out.po (by have := HML.out; omega)
        simp only [Value.slice.injEq] at hform
        obtain ⟨rfl, -, -⟩ := hform
        clear hy2 HSI cap'
        -- GOOD
        go_wp2_with (first
          | ((with_reducible show wpList _ _ _ (⟨none, .store _ (.tmp 7) _, _, _, _, _⟩ :: _) _ _); go_must (refine wpList_storeNew rfl rfl (by kernel_rfl) rfl (by simp [Value.oneCell']) ?_; intro w7 hh7 hb7; have HH7 := Lib.hid (show w7.heap[wr.heap.size]? = some (.cells (cellsS name 4 flags addr align size link info ent (.slice xad xm xcp)) 60 (0, 0)) from hh7); have HI7 := Lib.hid (HI.out.mono hb7); have hz7 := hb7.size; obtain ⟨d0, d1, d2, d3, d4, d5, d6, d7, d8, d9⟩ := sec_box (x := (⟨name, 4, flags, addr, align, size, link, info, ent, data⟩, Value.slice xad xm xcp)) hh7; obtain ⟨z0, z1, z2⟩ := obj_box HI7.out.blk; clear hh7 hb7))
          | (go_at_call 40; refine (HRD.out _ HI7.out.below).mono ?_; rintro e w8 ⟨v8, rfl, hr8, hb8⟩; have HI8 := Lib.hid (HI7.out.mono hb8); have HR8 := Lib.hid hr8; obtain ⟨m8, q8, c8, -, rfl, -, -⟩ := hr8.shape; obtain ⟨d0, d1, d2, d3, d4, d5, d6, d7, d8, d9⟩ := sec_box (x := (⟨name, 4, flags, addr, align, size, link, info, ent, data⟩, Value.slice xad xm xcp)) (heap_below hb8 HH7.out); obtain ⟨z0, z1, z2⟩ := obj_box HI8.out.blk; clear hr8 hb8)
          | ((with_reducible show wpList _ _ _ (⟨none, .store _ (.tmp 67) _, _, _, _, _⟩ :: _) _ _); go_must (refine wpList_setRow (show w8.ownsRow w.heap.size 38 6 (.slice (some ⟨pb, 0, none⟩) pn pc) pn (PL.flatMap encPart) from (by have h1 := HI8.out.po; unfold OwR at h1; rw [← hpn.out] at h1; exact h1)) (j := m * 6 + 5) (by omega) rfl rfl HI8.out.below.size (fun w => by kernel_rfl) ?_; intro w9 ho9 hb9 hs9; have HO9 := Lib.hid ho9; have HS9 := Lib.hid hs9; clear ho9 hb9 hs9)))
        have HPO9 := Lib.hid (show OwR 6 encPart 38 w9 w.heap.size (.slice (some ⟨pb, 0, none⟩) pn pc) (PL.set m ({ y.1 with relas := rl }, y.2.1, .slice q8 m8 c8)) by
          have h1 := HO9.out
          rw [flat_set (k := 6) (enc := encPart) (fun _ => rfl) (x := y) (y := ({ y.1 with relas := rl }, y.2.1, .slice q8 m8 c8)) (show 5 < 6 by decide) rfl PL m HY.out] at h1
          unfold OwR
          rw [List.length_set, ← hpn.out]
          exact h1)
        have HI9 := Lib.hid (HI8.out.row HY.out (HR8.out.rebase HI7.out.below.size) HPO9.out (HS9.out.sub fun q _ e => by rw [e]; rfl))
        exact ⟨⟨k + 1, some ⟨pb, 0, none⟩, pn, pc, PL.set m ({ y.1 with relas := rl }, y.2.1, .slice q8 m8 c8), rfl, by omega, HI9, (by show _ = restR _ _ (List.map _ _); rw [HRE.out, HSN.out, setRel_set HY.out]), (by unfold Hid; rw [List.length_set]; have := HLE.out; omega)⟩, by simp [intOf]; omega⟩
    · obtain rfl : k = kk := by omega
      obtain ⟨_, _, hbx, -, -, -, -, -, -, -, -, -, x9, -⟩ := sec_cells HX.out HI.out.below hx
      cases hbx
      obtain ⟨_, _, hbx, -, -, -, -, -, -, -, -, -, y9, -⟩ := sec_cells HX.out HI.out.below hy
      cases hbx
      have HFIN := Lib.hid (fun (h0 : sc = 0) => show secsO (fun l => modR l []) e = some ⟨e.target, PL.map (·.1), Y⟩ by
        have h9 := restR_end (L.take k) (PL.map (·.1))
        rw [HLK.out] at h9
        rw [HSP.out, if_neg (by simp [h0]), HRE.out, h9]
        rfl)
      have HFNO := Lib.hid (fun (h0 : sc ≠ 0) => show secsO (fun l => modR l []) e = none by rw [HSP.out, if_pos h0])
      have hg2 : w.heap.size ≤ w2.heap.size := Nat.le_of_lt hl12
      have hAB := fun (x : Above wr) (b k : Nat) (h : b < wr.heap.size) => Above.cell x b k h
      have l1 := block_lt b0
      have l2 := block_lt x9
      -- END
      go_wp2
      refine wp_region_walk 20 [(14, YSym w.heap.size sc Y)] (by kernel_rfl) (by kernel_rfl) ?_
      simp only [List.take_succ_cons, List.take_zero, List.drop_succ_cons, List.drop_zero]
      repeat (refine walk_quiet rfl rfl rfl ?_; intro K hK; go_big_quiet_op; go_big_quiet_on)
      refine walk_made rfl rfl (fun wx hwx _ => WpYld.call (run_callL (vals := [_, _]) Tryz.func41 (by kernel_rfl) rfl rfl) ((HSR.out wx (HI.out.below.trans (hwx.mono hbs))).mono fun r w' ⟨v', h1, h2, h3⟩ => by
        obtain ⟨m', a', c', -, rfl, -, -⟩ := h2.shape
        exact ⟨_, h1, ⟨(a', m', c'), rfl, OwR.rebase h2 (Nat.le_trans hbs hwx.size)⟩, h3⟩)) ?_
      rintro ⟨a5, m5, q5⟩
      show walk _ _ _ _ _ _ _ _ (Act.put _ _ (.tuple #[.slice a5 m5 q5, .int .i64 sc]))
      go_frame
      repeat (refine walk_quiet rfl rfl rfl ?_; intro K hK; go_big_quiet_op; go_big_quiet_on)
      refine walk_nil ?_
      intro wz hbz hF
      have hso := YSym_got (hF 14 _ 128 _ rfl rfl rfl rfl)
      have HSO := Lib.hid hso
      have HIZ := Lib.hid (HI.out.mono hbz)
      have hszz : w.heap.size ≤ wz.heap.size := HIZ.out.below.size
      clear hF hAB hso hbz b0 b1 b2 b3 b4 b5 z0 z1 z2 x9 y9 l1 l2
      obtain ⟨z0, z1, z2⟩ := obj_box HIZ.out.blk
      by_cases hsc : sc = 0
      case pos =>
        have HR := Lib.hid (HFIN.out hsc)
        subst hsc
        go_wp2_with (first
          | ((with_reducible show wpList _ _ _ (⟨none, .store _ (.tmp 132) _, _, _, _, _⟩ :: _) _ _); go_must (refine wpList_set HIZ.out.blk (show 2 < 3 by decide) rfl rfl hg2 hszz (fun w => by kernel_rfl) ?_; intro wB hhB hbB hsB; have HIB := Lib.hid (HIZ.out.store (pc' := .slice pa pn pc) (sc' := .slice a5 m5 q5) hhB hsB); have HSB := Lib.hid (show OwR 6 encSym 41 wB w.heap.size (.slice a5 m5 q5) Y from owns_stirs HSO.out hsB (own_ne HSO.out HIZ.out.blk (by decide))); obtain ⟨z0, z1, z2⟩ := obj_box HIB.out.blk; clear hhB hbB hsB))
          | ((with_reducible show wpList _ _ _ (⟨none, .store _ (.tmp 2) _, _, _, _, _⟩ :: _) _ _); go_must (refine wpList_storeObjS HIB.out.res rfl rfl rfl rfl (by simp [Value.oneCell']) ?_; intro wy hhy hsy; have HHY := Lib.hid hhy; have HSY := Lib.hid hsy; have HBY := Lib.hid (HIB.out.below.trans (hsy.below HIB.out.below.size (fun k hk => by rw [hk]; exact HB1.out.size))); clear hhy hsy)))
        exact bodyPost_ret (obRow2 rfl _ _ w1.heap.size _ _ _ _ rfl HHY.out rfl rfl (by kernel_rfl)) rfl ⟨.inl ⟨⟨e.target, PL.map (·.1), Y⟩, PL, pa, pn, pc, a5, m5, q5, HR.out, rfl, HIB.out.own HSB.out HSY.out hbase⟩, HBY.out⟩
      case neg =>
        have HR := Lib.hid (HFNO.out hsc)
        have hscb : (sc == 0) = false := beq_eq_false_iff_ne.2 hsc
        clear hsc
        go_wp2_with (first
          | ((with_reducible show wpList _ _ _ (⟨none, .store _ (.tmp 132) _, _, _, _, _⟩ :: _) _ _); go_must (refine wpList_set HIZ.out.blk (show 2 < 3 by decide) rfl rfl hg2 hszz (fun w => by kernel_rfl) ?_; intro wB hhB hbB hsB; have HIB := Lib.hid (HIZ.out.store (pc' := .slice pa pn pc) (sc' := .slice a5 m5 q5) hhB hsB); have HSB := Lib.hid (show OwR 6 encSym 41 wB w.heap.size (.slice a5 m5 q5) Y from owns_stirs HSO.out hsB (own_ne HSO.out HIZ.out.blk (by decide))); obtain ⟨z0, z1, z2⟩ := obj_box HIB.out.blk; clear hhB hbB hsB))
          | ((with_reducible show wpList _ _ _ (⟨none, .store _ (.tmp 2) _, _, _, _, _⟩ :: _) _ _); go_must (refine wpList_storeObjS HIB.out.res rfl rfl rfl rfl (by simp [Value.oneCell']) ?_; intro wy hhy hsy; have HHY := Lib.hid hhy; have HSY := Lib.hid hsy; have HBY := Lib.hid (HIB.out.below.trans (hsy.below HIB.out.below.size (fun k hk => by rw [hk]; exact HB1.out.size))); clear hhy hsy)))
        exact bodyPost_ret (obRow2 rfl _ _ w1.heap.size _ _ _ _ rfl HHY.out rfl rfl (by kernel_rfl)) rfl ⟨.inr ⟨HR.out, _, _, _, _, _, _, _, rfl⟩, HBY.out⟩
end Go.Proofs.YtimnbnomaajmmaaGreat
namespace Go.Proofs.YtimnbnomaajmmaaGreat
open Go.RowKit Go.Fd
theorem ObjOwn.stir {w w' : World} {base r : Nat} {o : ObjM} {PL : List (PartM × Value × Value)} {pv sv : Value} {cs : Array Value} {fr : Nat × Nat} (h : ObjOwn w base o PL pv sv) (hr : w.heap[r]? = some (.cells cs 28 fr)) (hs : Stirs (fun k => k = r) w w') : ObjOwn w' base o PL pv sv :=
  ⟨h.parts, owns_stirs h.po hs (own_ne h.po hr (by decide)), fun p hp => owns_stirs (h.data p hp) hs (own_ne (h.data p hp) hr (by decide)), fun p hp => owns_stirs (h.rela p hp) hs (own_ne (h.rela p hp) hr (by decide)), owns_stirs h.so hs (own_ne h.so hr (by decide)), h.apd, h.apr⟩
theorem ElfOwn.up {w w' : World} {base : Nat} {e : ElfM} {L : List (SecM × Value)} {sv gv : Value} (h : ElfOwn w base e L sv gv) (hb : Below w.heap.size w w') : ElfOwn w' base e L sv gv :=
  ⟨h.secs, h.so.mono hb, h.go.mono hb, fun p hp => (h.data p hp).mono hb⟩
theorem ElfOwn.stir {w w' : World} {base r : Nat} {e : ElfM} {L : List (SecM × Value)} {sv gv : Value} {cs : Array Value} {fr : Nat × Nat} (h : ElfOwn w base e L sv gv) (hr : w.heap[r]? = some (.cells cs 51 fr)) (hs : Stirs (fun k => k = r) w w') : ElfOwn w' base e L sv gv :=
  ⟨h.secs, owns_stirs h.so hs (own_ne h.so hr (by decide)), owns_stirs h.go hs (own_ne h.go hr (by decide)), fun p hp => owns_stirs (h.data p hp) hs (own_ne (h.data p hp) hr (by decide))⟩
set_option maxHeartbeats 8000000 in
set_option maxRecDepth 100000 in
theorem read6_gen (l : List UInt8) (v : Value) (w : World) (hl : l.length ≤ 4194304) (hv : Bs w v l) (hdt : ∀ s ∈ (readE l).1.secs, s.data.length ≤ 1000000 ∧ s.name.length ≤ 1000000000 ∧ (s.typ = 4 → s.data.length ≤ 24000)) (hx2 : ∀ s, (readE l).1.secs[(readE l).1.secs.length - 2]? = some s → s.data.length ≤ 100000) (hsec : ∀ o, secsO (fun l => modP l [] []) (readE l).1 = some o → ObjOk o) :
    Calls Tryz.prog 6 #[v] w fun r w' => ReadRes (fun l => modP l [] []) l w.heap.size r w' ∧ Below w.heap.size w w' := by
  have HV := Lib.hid hv
  have HRE := Lib.hid (fun wx (hb : Below w.heap.size w wx) => readEA_any l v wx (by omega) (hv.mono hb))
  have hok := (readE_ok (l := l) (by omega))
  have HFW := Lib.hid (readE_few l)
  have HDT := Lib.hid hdt
  have HSEC := Lib.hid hsec
  have HX22 := Lib.hid hx2
  have HFT := Lib.hid hok.fits
  obtain ⟨lm, la, lc, -, rfl, -, -⟩ := hv.shape
  clear hv hok hdt hx2 hsec
  have HER := Lib.hid (readO_err (md := fun l => modP l [] []) (l := l))
  have HNN := Lib.hid (readO_none (md := fun l => modP l [] []) (l := l))
  have HNY := Lib.hid (fun o => readO_yes (md := fun l => modP l [] []) (l := l) (o := o))
  have HNO := Lib.hid (fun o => readO_no (md := fun l => modP l [] []) (l := l) (o := o))
  generalize hre : readE l = re at *
  have HREQ := Lib.hid hre
  obtain ⟨e, code⟩ := re
  dsimp only at *
  have HR2 : Hid (∀ wx (_ : Below w.heap.size w wx), Calls Tryz.prog 14 #[.slice la lm lc] wx fun r w' => (∃ L sa sn sc ga gn gc, r = .returned (.tuple #[elfV e (.slice sa sn sc) (.slice ga gn gc), .int .i64 code]) ∧ ElfOwn w' wx.heap.size e L (.slice sa sn sc) (.slice ga gn gc) ∧ ApartS L) ∧ Below wx.heap.size wx w') := Lib.hid (fun wx hb => (HRE.out wx hb).mono fun r w' ⟨⟨L, sv, gv, h1, h2, h3⟩, h4⟩ => by
    rw [hre] at h1 h2
    obtain ⟨sn, sa, sc, -, rfl, -, -⟩ := h2.so.shape
    obtain ⟨gn, ga, gc, -, rfl, -, -⟩ := h2.go.shape
    exact ⟨⟨L, sa, sn, sc, ga, gn, gc, h1, h2, h3⟩, h4⟩)
  clear hre HRE
  by_cases h0 : code = 0
  case neg =>
    have HR := Lib.hid (HER.out h0)
    have hcb : (code != 0) = true := bne_iff_ne.2 h0
    clear h0
    go_enter Tryz.func6, Tryz.ntmps6
    go_wp2_with (first
      | ((with_reducible show wpList _ _ _ (⟨some 2, .alloc _, _, _, _, _⟩ :: _) _ _); go_must (refine wpList_allocObj ?_; intro w1 hx1 hb1 hs1; have HX1 := Lib.hid hx1; have HB1 := Lib.hid hb1; clear hx1 hb1))
      | (go_at_call 14; refine (HR2.out _ HB1.out).mono ?_; rintro r w2 ⟨⟨L, sa, sn, sc, ga, gn, gc, rfl, ho, hap⟩, hb2⟩; have HX2 := Lib.hid (heap_below hb2 HX1.out); have HB2 := Lib.hid (HB1.out.trans (hb2.mono HB1.out.size)); clear ho hap hb2)
      | ((with_reducible show wpList _ _ _ (⟨some 4, .alloc _, _, _, _, _⟩ :: _) _ _); go_must (refine wpList_allocElf ?_; intro w3 hx3 hb3 hs3; have HE3 := Lib.hid hx3; have HX3 := Lib.hid (heap_below hb3 HX2.out); have HB3 := Lib.hid (HB2.out.trans (hb3.mono HB2.out.size)); clear hx3 hb3))
      | ((with_reducible show wpList _ _ _ (⟨none, .store _ (.tmp 4) _, _, _, _, _⟩ :: _) _ _); go_must (refine wpList_storeElfS HE3.out rfl rfl rfl rfl (by simp [Value.oneCell']) ?_; intro w4 hh4 hs4; have HX4 := Lib.hid (hs4.kept HX3.out (cells_ne HX3.out HE3.out (by decide))); have HB4 := Lib.hid (HB3.out.trans (hs4.below HB3.out.size (fun k hk => by rw [hk]; exact HB2.out.size))); clear hh4 hs4))
      | ((with_reducible show wpList _ _ _ (⟨none, .store _ (.tmp 2) _, _, _, _, _⟩ :: _) _ _); go_must (refine wpList_storeObjS HX4.out rfl rfl rfl rfl (by simp [Value.oneCell']) ?_; intro w5 hh5 hs5; have HH5 := Lib.hid hh5; have HB5 := Lib.hid (HB4.out.trans (hs5.below HB4.out.size (fun k hk => by rw [hk]; exact Nat.le_refl _))); clear hh5 hs5)))
    exact bodyPost_ret (obRow2 rfl _ _ w.heap.size _ _ _ _ rfl HH5.out rfl rfl (by kernel_rfl)) rfl ⟨ReadRes.code HR.out, HB5.out⟩
  subst h0
  cases hs : secsO (fun l => modP l [] []) e with
  | none =>
    have HR := Lib.hid (HNN.out rfl hs)
    have HMD : Hid (∀ L sv gv base wx, ElfOwn wx base e L sv gv → ApartS L → base ≤ wx.heap.size → Calls Tryz.prog 15 #[elfV e sv gv] wx fun r w' => (∃ t a1 n1 c1 a2 n2 c2, r = .returned (.tuple #[.agg #[.int .i64 t, .slice a1 n1 c1, .slice a2 n2 c2], .bool false])) ∧ Below wx.heap.size wx w') := Lib.hid (fun L sv gv base wx h1 h2 h3 => (module6_any e L sv gv base wx h1 h2 (by have := HFW.out.1; omega) HDT.out HX22.out HFT.out h3).mono fun r w' ⟨h4, h5⟩ => by
      rcases h4 with ⟨o, PL, pv, sv, hso, -, -⟩ | ⟨-, h6⟩
      · rw [hs] at hso; cases hso
      · exact ⟨h6, h5⟩)
    clear hs
    go_enter Tryz.func6, Tryz.ntmps6
    go_wp2_with (first
      | ((with_reducible show wpList _ _ _ (⟨some 2, .alloc _, _, _, _, _⟩ :: _) _ _); go_must (refine wpList_allocObj ?_; intro w1 hx1 hb1 hs1; have HX1 := Lib.hid hx1; have HB1 := Lib.hid hb1; clear hx1 hb1))
      | (go_at_call 14; refine (HR2.out _ HB1.out).mono ?_; rintro r w2 ⟨⟨L, sa, sn, sc, ga, gn, gc, rfl, ho, hap⟩, hb2⟩; have HO2 := Lib.hid ho; have HAP := Lib.hid hap; have HX2 := Lib.hid (heap_below hb2 HX1.out); have HB2 := Lib.hid (HB1.out.trans (hb2.mono HB1.out.size)); have hz2 := hb2.size; clear ho hap hb2)
      | ((with_reducible show wpList _ _ _ (⟨some 4, .alloc _, _, _, _, _⟩ :: _) _ _); go_must (refine wpList_allocElf ?_; intro w3 hx3 hb3 hs3; have HE3 := Lib.hid hx3; have HO3 := Lib.hid (HO2.out.up hb3); have HX3 := Lib.hid (heap_below hb3 HX2.out); have HB3 := Lib.hid (HB2.out.trans (hb3.mono HB2.out.size)); clear hx3 hb3))
      | ((with_reducible show wpList _ _ _ (⟨none, .store _ (.tmp 4) _, _, _, _, _⟩ :: _) _ _); go_must (refine wpList_storeElfS HE3.out rfl rfl rfl rfl (by simp [Value.oneCell']) ?_; intro w4 hh4 hs4; have HO4 := Lib.hid (HO3.out.stir HE3.out hs4); have hz4 := hs4.size; have HX4 := Lib.hid (hs4.kept HX3.out (cells_ne HX3.out HE3.out (by decide))); have HB4 := Lib.hid (HB3.out.trans (hs4.below HB3.out.size (fun k hk => by rw [hk]; exact HB2.out.size))); obtain ⟨z0, z1, z2, z3, z4, z5⟩ := elf_box (e := e) hh4; clear hh4 hs4))
      | (go_at_call 15; refine (HMD.out _ _ _ _ _ HO4.out HAP.out (by omega)).mono ?_; rintro r w5 ⟨⟨t, a1, n1, c1, a2, n2, c2, rfl⟩, hb5⟩; have HX5 := Lib.hid (heap_below hb5 HX4.out); have HB5 := Lib.hid (HB4.out.trans (hb5.mono HB4.out.size)); clear hb5)
      | ((with_reducible show wpList _ _ _ (⟨some 6, .alloc _, _, _, _, _⟩ :: _) _ _); go_must (refine wpList_allocObj ?_; intro w6 hx6 hb6 hs6; have HE6 := Lib.hid hx6; have HX6 := Lib.hid (heap_below hb6 HX5.out); have HB6 := Lib.hid (HB5.out.trans (hb6.mono HB5.out.size)); have hlt6 := block_lt (cell_rec HX5.out 0 |>.trans rfl); clear hx6 hb6))
      | ((with_reducible show wpList _ _ _ (⟨none, .store _ (.tmp 6) _, _, _, _, _⟩ :: _) _ _); go_must (refine wpList_storeObjS HE6.out rfl rfl rfl rfl (by simp [Value.oneCell']) ?_; intro w7 hh7 hs7; have HX7 := Lib.hid (hs7.kept HX6.out (Nat.ne_of_lt hlt6)); have HB7 := Lib.hid (HB6.out.trans (hs7.below HB6.out.size (fun k hk => by rw [hk]; exact HB5.out.size))); clear hh7 hs7))
      | ((with_reducible show wpList _ _ _ (⟨none, .store _ (.tmp 2) _, _, _, _, _⟩ :: _) _ _); go_must (refine wpList_storeObjS HX7.out rfl rfl rfl rfl (by simp [Value.oneCell']) ?_; intro w8 hh8 hs8; have HH8 := Lib.hid hh8; have HB8 := Lib.hid (HB7.out.trans (hs8.below HB7.out.size (fun k hk => by rw [hk]; exact Nat.le_refl _))); clear hh8 hs8)))
    exact bodyPost_ret (obRow2 rfl _ _ w.heap.size _ _ _ _ rfl HH8.out rfl rfl (by kernel_rfl)) rfl ⟨ReadRes.code HR.out, HB8.out⟩
  | some o =>
    have HOK := Lib.hid (HSEC.out o hs)
    have HYES := Lib.hid (HNY.out o rfl hs)
    have HNOO := Lib.hid (HNO.out o rfl hs)
    have HMD : Hid (∀ L sv gv base wx, ElfOwn wx base e L sv gv → ApartS L → base ≤ wx.heap.size → Calls Tryz.prog 15 #[elfV e sv gv] wx fun r w' => (∃ PL a1 n1 c1 a2 n2 c2, r = .returned (.tuple #[objV o (.slice a1 n1 c1) (.slice a2 n2 c2), .bool true]) ∧ ObjOwn w' base o PL (.slice a1 n1 c1) (.slice a2 n2 c2)) ∧ Below wx.heap.size wx w') := Lib.hid (fun L sv gv base wx h1 h2 h3 => (module6_any e L sv gv base wx h1 h2 (by have := HFW.out.1; omega) HDT.out HX22.out HFT.out h3).mono fun r w' ⟨h4, h5⟩ => by
      rcases h4 with ⟨o2, PL, pv, sv, hso, h6, h7⟩ | ⟨h6, -⟩
      · rw [hs] at hso; cases hso
        obtain ⟨n1, a1, c1, -, rfl, -, -⟩ := h7.po.shape
        obtain ⟨n2, a2, c2, -, rfl, -, -⟩ := h7.so.shape
        exact ⟨⟨PL, a1, n1, c1, a2, n2, c2, h6, h7⟩, h5⟩
      · rw [hs] at h6; cases h6)
    clear hs
    generalize hfo : fileO o = fo at *
    obtain ⟨fb, fc⟩ := fo
    have HFI : Hid (∀ PL pv sv wx, ObjAt wx o PL pv sv → Calls Tryz.prog 11 #[objV o pv sv] wx fun e w' => (∃ a n c, e = .returned (.tuple #[.slice a n c, .int .i64 fc]) ∧ OB w' wx.heap.size (.slice a n c) fb) ∧ Below wx.heap.size wx w') := Lib.hid (fun PL pv sv wx h1 => (file6_any o PL pv sv wx h1 HOK.out).mono fun r w' ⟨v, h2, h3, h4⟩ => by
      rw [hfo] at h2 h3
      obtain ⟨n, a, c, -, rfl, -, -⟩ := h3.shape
      exact ⟨⟨a, n, c, h2, h3⟩, h4⟩)
    clear hfo
    by_cases hfc : fc = 0
    case neg =>
      have HR := Lib.hid (HNOO.out (fun h => hfc (congrArg Prod.snd h)))
      have hcb : (fc != 0) = true := bne_iff_ne.2 hfc
      clear hfc
      go_enter Tryz.func6, Tryz.ntmps6
      go_wp2_with (first
        | ((with_reducible show wpList _ _ _ (⟨some 2, .alloc _, _, _, _, _⟩ :: _) _ _); go_must (refine wpList_allocObj ?_; intro w1 hx1 hb1 hs1; have HX1 := Lib.hid hx1; have HB1 := Lib.hid hb1; clear hx1 hb1))
        | (go_at_call 14; refine (HR2.out _ HB1.out).mono ?_; rintro r w2 ⟨⟨L, sa, sn, sc, ga, gn, gc, rfl, ho, hap⟩, hb2⟩; have HO2 := Lib.hid ho; have HAP := Lib.hid hap; have HX2 := Lib.hid (heap_below hb2 HX1.out); have HB2 := Lib.hid (HB1.out.trans (hb2.mono HB1.out.size)); have hz2 := hb2.size; clear ho hap hb2)
        | ((with_reducible show wpList _ _ _ (⟨some 4, .alloc _, _, _, _, _⟩ :: _) _ _); go_must (refine wpList_allocElf ?_; intro w3 hx3 hb3 hs3; have HE3 := Lib.hid hx3; have HO3 := Lib.hid (HO2.out.up hb3); have HX3 := Lib.hid (heap_below hb3 HX2.out); have HB3 := Lib.hid (HB2.out.trans (hb3.mono HB2.out.size)); clear hx3 hb3))
        | ((with_reducible show wpList _ _ _ (⟨none, .store _ (.tmp 4) _, _, _, _, _⟩ :: _) _ _); go_must (refine wpList_storeElfS HE3.out rfl rfl rfl rfl (by simp [Value.oneCell']) ?_; intro w4 hh4 hs4; have HO4 := Lib.hid (HO3.out.stir HE3.out hs4); have hz4 := hs4.size; have HX4 := Lib.hid (hs4.kept HX3.out (cells_ne HX3.out HE3.out (by decide))); have HB4 := Lib.hid (HB3.out.trans (hs4.below HB3.out.size (fun k hk => by rw [hk]; exact HB2.out.size))); obtain ⟨z0, z1, z2, z3, z4, z5⟩ := elf_box (e := e) hh4; clear hh4 hs4))
        | (go_at_call 15; refine (HMD.out _ _ _ _ _ HO4.out HAP.out (by omega)).mono ?_; rintro r w5 ⟨⟨PL, a1, n1, c1, a2, n2, c2, rfl, how⟩, hb5⟩; have HOW5 := Lib.hid how; clear how; have HX5 := Lib.hid (heap_below hb5 HX4.out); have HB5 := Lib.hid (HB4.out.trans (hb5.mono HB4.out.size)); clear hb5)
        | ((with_reducible show wpList _ _ _ (⟨some 6, .alloc _, _, _, _, _⟩ :: _) _ _); go_must (refine wpList_allocObj ?_; intro w6 hx6 hb6 hs6; have HE6 := Lib.hid hx6; have HOW6 := Lib.hid (HOW5.out.mono hb6); have HX6 := Lib.hid (heap_below hb6 HX5.out); have HB6 := Lib.hid (HB5.out.trans (hb6.mono HB5.out.size)); have hlt6 := block_lt (cell_rec HX5.out 0 |>.trans rfl); clear hx6 hb6))
        | ((with_reducible show wpList _ _ _ (⟨none, .store _ (.tmp 6) _, _, _, _, _⟩ :: _) _ _); go_must (refine wpList_storeObjS HE6.out rfl rfl rfl rfl (by simp [Value.oneCell']) ?_; intro w7 hh7 hs7; have HE7 := Lib.hid hh7; have HOW7 := Lib.hid (HOW6.out.stir HE6.out hs7); obtain ⟨z0, z1, z2⟩ := obj_box hh7; have HX7 := Lib.hid (hs7.kept HX6.out (Nat.ne_of_lt hlt6)); have HB7 := Lib.hid (HB6.out.trans (hs7.below HB6.out.size (fun k hk => by rw [hk]; exact HB5.out.size))); clear hh7 hs7))
        | (go_at_call 11; refine (HFI.out _ _ _ _ HOW7.out.at).mono ?_; rintro r w9 ⟨⟨a9, n9, c9, rfl, ho9⟩, hb9⟩; have HX9 := Lib.hid (heap_below hb9 HX7.out); have HOW9 := Lib.hid (HOW7.out.mono hb9); have HOB9 := Lib.hid ho9; have HB9 := Lib.hid (HB7.out.trans (hb9.mono HB7.out.size)); obtain ⟨z0, z1, z2⟩ := obj_box (heap_below hb9 HE7.out); clear ho9 hb9)
        | (go_at_call 16; refine (bytesEq_any fb l _ _ _ HOB9.out.bs (HV.out.mono HB9.out)).mono ?_; rintro r w10 ⟨rfl, rfl⟩)
        | ((with_reducible show wpList _ _ _ (⟨none, .store _ (.tmp 2) _, _, _, _, _⟩ :: _) _ _); go_must (refine wpList_storeObjS HX9.out rfl rfl rfl rfl (by simp [Value.oneCell']) ?_; intro w8 hh8 hs8; have HH8 := Lib.hid hh8; have HOW8 := Lib.hid (HOW9.out.stir HX9.out hs8); have HB8 := Lib.hid (HB9.out.trans (hs8.below HB9.out.size (fun k hk => by rw [hk]; exact Nat.le_refl _))); clear hh8 hs8)))
      exact bodyPost_ret (obRow2 rfl _ _ w.heap.size _ _ _ _ rfl HH8.out rfl rfl (by kernel_rfl)) rfl ⟨ReadRes.code HR.out, HB8.out⟩
    subst hfc
    by_cases hfl : fb = l
    case neg =>
      have HR := Lib.hid (HNOO.out (fun h => hfl (congrArg Prod.fst h)))
      have hcb : decide (fb = l) = false := decide_eq_false hfl
      clear hfl
      go_enter Tryz.func6, Tryz.ntmps6
      go_wp2_with (first
        | ((with_reducible show wpList _ _ _ (⟨some 2, .alloc _, _, _, _, _⟩ :: _) _ _); go_must (refine wpList_allocObj ?_; intro w1 hx1 hb1 hs1; have HX1 := Lib.hid hx1; have HB1 := Lib.hid hb1; clear hx1 hb1))
        | (go_at_call 14; refine (HR2.out _ HB1.out).mono ?_; rintro r w2 ⟨⟨L, sa, sn, sc, ga, gn, gc, rfl, ho, hap⟩, hb2⟩; have HO2 := Lib.hid ho; have HAP := Lib.hid hap; have HX2 := Lib.hid (heap_below hb2 HX1.out); have HB2 := Lib.hid (HB1.out.trans (hb2.mono HB1.out.size)); have hz2 := hb2.size; clear ho hap hb2)
        | ((with_reducible show wpList _ _ _ (⟨some 4, .alloc _, _, _, _, _⟩ :: _) _ _); go_must (refine wpList_allocElf ?_; intro w3 hx3 hb3 hs3; have HE3 := Lib.hid hx3; have HO3 := Lib.hid (HO2.out.up hb3); have HX3 := Lib.hid (heap_below hb3 HX2.out); have HB3 := Lib.hid (HB2.out.trans (hb3.mono HB2.out.size)); clear hx3 hb3))
        | ((with_reducible show wpList _ _ _ (⟨none, .store _ (.tmp 4) _, _, _, _, _⟩ :: _) _ _); go_must (refine wpList_storeElfS HE3.out rfl rfl rfl rfl (by simp [Value.oneCell']) ?_; intro w4 hh4 hs4; have HO4 := Lib.hid (HO3.out.stir HE3.out hs4); have hz4 := hs4.size; have HX4 := Lib.hid (hs4.kept HX3.out (cells_ne HX3.out HE3.out (by decide))); have HB4 := Lib.hid (HB3.out.trans (hs4.below HB3.out.size (fun k hk => by rw [hk]; exact HB2.out.size))); obtain ⟨z0, z1, z2, z3, z4, z5⟩ := elf_box (e := e) hh4; clear hh4 hs4))
        | (go_at_call 15; refine (HMD.out _ _ _ _ _ HO4.out HAP.out (by omega)).mono ?_; rintro r w5 ⟨⟨PL, a1, n1, c1, a2, n2, c2, rfl, how⟩, hb5⟩; have HOW5 := Lib.hid how; clear how; have HX5 := Lib.hid (heap_below hb5 HX4.out); have HB5 := Lib.hid (HB4.out.trans (hb5.mono HB4.out.size)); clear hb5)
        | ((with_reducible show wpList _ _ _ (⟨some 6, .alloc _, _, _, _, _⟩ :: _) _ _); go_must (refine wpList_allocObj ?_; intro w6 hx6 hb6 hs6; have HE6 := Lib.hid hx6; have HOW6 := Lib.hid (HOW5.out.mono hb6); have HX6 := Lib.hid (heap_below hb6 HX5.out); have HB6 := Lib.hid (HB5.out.trans (hb6.mono HB5.out.size)); have hlt6 := block_lt (cell_rec HX5.out 0 |>.trans rfl); clear hx6 hb6))
        | ((with_reducible show wpList _ _ _ (⟨none, .store _ (.tmp 6) _, _, _, _, _⟩ :: _) _ _); go_must (refine wpList_storeObjS HE6.out rfl rfl rfl rfl (by simp [Value.oneCell']) ?_; intro w7 hh7 hs7; have HE7 := Lib.hid hh7; have HOW7 := Lib.hid (HOW6.out.stir HE6.out hs7); obtain ⟨z0, z1, z2⟩ := obj_box hh7; have HX7 := Lib.hid (hs7.kept HX6.out (Nat.ne_of_lt hlt6)); have HB7 := Lib.hid (HB6.out.trans (hs7.below HB6.out.size (fun k hk => by rw [hk]; exact HB5.out.size))); clear hh7 hs7))
        | (go_at_call 11; refine (HFI.out _ _ _ _ HOW7.out.at).mono ?_; rintro r w9 ⟨⟨a9, n9, c9, rfl, ho9⟩, hb9⟩; have HX9 := Lib.hid (heap_below hb9 HX7.out); have HOW9 := Lib.hid (HOW7.out.mono hb9); have HOB9 := Lib.hid ho9; have HB9 := Lib.hid (HB7.out.trans (hb9.mono HB7.out.size)); obtain ⟨z0, z1, z2⟩ := obj_box (heap_below hb9 HE7.out); clear ho9 hb9)
        | (go_at_call 16; refine (bytesEq_any fb l _ _ _ HOB9.out.bs (HV.out.mono HB9.out)).mono ?_; rintro r w10 ⟨rfl, rfl⟩)
        | ((with_reducible show wpList _ _ _ (⟨none, .store _ (.tmp 2) _, _, _, _, _⟩ :: _) _ _); go_must (refine wpList_storeObjS HX9.out rfl rfl rfl rfl (by simp [Value.oneCell']) ?_; intro w8 hh8 hs8; have HH8 := Lib.hid hh8; have HOW8 := Lib.hid (HOW9.out.stir HX9.out hs8); have HB8 := Lib.hid (HB9.out.trans (hs8.below HB9.out.size (fun k hk => by rw [hk]; exact Nat.le_refl _))); clear hh8 hs8)))
      exact bodyPost_ret (obRow2 rfl _ _ w.heap.size _ _ _ _ rfl HH8.out rfl rfl (by kernel_rfl)) rfl ⟨ReadRes.code HR.out, HB8.out⟩
    have hcb : decide (fb = l) = true := decide_eq_true hfl
    have HR := Lib.hid (HYES.out (by rw [hfl]))
    clear hfl
    go_enter Tryz.func6, Tryz.ntmps6
    go_wp2_with (first
      | ((with_reducible show wpList _ _ _ (⟨some 2, .alloc _, _, _, _, _⟩ :: _) _ _); go_must (refine wpList_allocObj ?_; intro w1 hx1 hb1 hs1; have HX1 := Lib.hid hx1; have HB1 := Lib.hid hb1; clear hx1 hb1))
      | (go_at_call 14; refine (HR2.out _ HB1.out).mono ?_; rintro r w2 ⟨⟨L, sa, sn, sc, ga, gn, gc, rfl, ho, hap⟩, hb2⟩; have HO2 := Lib.hid ho; have HAP := Lib.hid hap; have HX2 := Lib.hid (heap_below hb2 HX1.out); have HB2 := Lib.hid (HB1.out.trans (hb2.mono HB1.out.size)); have hz2 := hb2.size; clear ho hap hb2)
      | ((with_reducible show wpList _ _ _ (⟨some 4, .alloc _, _, _, _, _⟩ :: _) _ _); go_must (refine wpList_allocElf ?_; intro w3 hx3 hb3 hs3; have HE3 := Lib.hid hx3; have HO3 := Lib.hid (HO2.out.up hb3); have HX3 := Lib.hid (heap_below hb3 HX2.out); have HB3 := Lib.hid (HB2.out.trans (hb3.mono HB2.out.size)); clear hx3 hb3))
      | ((with_reducible show wpList _ _ _ (⟨none, .store _ (.tmp 4) _, _, _, _, _⟩ :: _) _ _); go_must (refine wpList_storeElfS HE3.out rfl rfl rfl rfl (by simp [Value.oneCell']) ?_; intro w4 hh4 hs4; have HO4 := Lib.hid (HO3.out.stir HE3.out hs4); have hz4 := hs4.size; have HX4 := Lib.hid (hs4.kept HX3.out (cells_ne HX3.out HE3.out (by decide))); have HB4 := Lib.hid (HB3.out.trans (hs4.below HB3.out.size (fun k hk => by rw [hk]; exact HB2.out.size))); obtain ⟨z0, z1, z2, z3, z4, z5⟩ := elf_box (e := e) hh4; clear hh4 hs4))
      | (go_at_call 15; refine (HMD.out _ _ _ _ _ HO4.out HAP.out (by omega)).mono ?_; rintro r w5 ⟨⟨PL, a1, n1, c1, a2, n2, c2, rfl, how⟩, hb5⟩; have HOW5 := Lib.hid how; clear how; have HX5 := Lib.hid (heap_below hb5 HX4.out); have HB5 := Lib.hid (HB4.out.trans (hb5.mono HB4.out.size)); clear hb5)
      | ((with_reducible show wpList _ _ _ (⟨some 6, .alloc _, _, _, _, _⟩ :: _) _ _); go_must (refine wpList_allocObj ?_; intro w6 hx6 hb6 hs6; have HE6 := Lib.hid hx6; have HOW6 := Lib.hid (HOW5.out.mono hb6); have HX6 := Lib.hid (heap_below hb6 HX5.out); have HB6 := Lib.hid (HB5.out.trans (hb6.mono HB5.out.size)); have hlt6 := block_lt (cell_rec HX5.out 0 |>.trans rfl); clear hx6 hb6))
      | ((with_reducible show wpList _ _ _ (⟨none, .store _ (.tmp 6) _, _, _, _, _⟩ :: _) _ _); go_must (refine wpList_storeObjS HE6.out rfl rfl rfl rfl (by simp [Value.oneCell']) ?_; intro w7 hh7 hs7; have HE7 := Lib.hid hh7; have HOW7 := Lib.hid (HOW6.out.stir HE6.out hs7); obtain ⟨z0, z1, z2⟩ := obj_box hh7; have HX7 := Lib.hid (hs7.kept HX6.out (Nat.ne_of_lt hlt6)); have HB7 := Lib.hid (HB6.out.trans (hs7.below HB6.out.size (fun k hk => by rw [hk]; exact HB5.out.size))); clear hh7 hs7))
      | (go_at_call 11; refine (HFI.out _ _ _ _ HOW7.out.at).mono ?_; rintro r w9 ⟨⟨a9, n9, c9, rfl, ho9⟩, hb9⟩; have HX9 := Lib.hid (heap_below hb9 HX7.out); have HOW9 := Lib.hid (HOW7.out.mono hb9); have HOB9 := Lib.hid ho9; have HB9 := Lib.hid (HB7.out.trans (hb9.mono HB7.out.size)); obtain ⟨z0, z1, z2⟩ := obj_box (heap_below hb9 HE7.out); clear ho9 hb9)
      | (go_at_call 16; refine (bytesEq_any fb l _ _ _ HOB9.out.bs (HV.out.mono HB9.out)).mono ?_; rintro r w10 ⟨rfl, rfl⟩)
      | ((with_reducible show wpList _ _ _ (⟨none, .store _ (.tmp 2) _, _, _, _, _⟩ :: _) _ _); go_must (refine wpList_storeObjS HX9.out rfl rfl rfl rfl (by simp [Value.oneCell']) ?_; intro w8 hh8 hs8; have HH8 := Lib.hid hh8; have HOW8 := Lib.hid (HOW9.out.stir HX9.out hs8); have HB8 := Lib.hid (HB9.out.trans (hs8.below HB9.out.size (fun k hk => by rw [hk]; exact Nat.le_refl _))); clear hh8 hs8)))
    exact bodyPost_ret (obRow2 rfl _ _ w.heap.size _ _ _ _ rfl HH8.out rfl rfl (by kernel_rfl)) rfl ⟨⟨PL, .slice a1 n1 c1, .slice a2 n2 c2, by rw [HR.out]; rfl, by rw [HR.out]; exact HOW8.out.base HB1.out.size⟩, HB8.out⟩
theorem read6_any (l : List UInt8) (v : Value) (w : World) (hl : l.length ≤ 24000) (hv : Bs w v l) :
    Calls Tryz.prog 6 #[v] w fun r w' => ReadRes (fun l => modP l [] []) l w.heap.size r w' ∧ Below w.heap.size w w' := by
  have hd : ∀ s ∈ (readE l).1.secs, s.data.length ≤ 24000 ∧ s.name.length ≤ 1000000000 := fun s hs => ⟨Nat.le_trans (readE_data hs) hl, by have := (readE_few l).2 s hs; omega⟩
  exact read6_gen l v w (by omega) hv (fun s hs => ⟨by have := (hd s hs).1; omega, (hd s hs).2, fun _ => (hd s hs).1⟩) (fun s hs => by have := (hd s (List.mem_of_getElem? hs)).1; omega) (fun o ho => way_ok (.inl rfl) (by have := (readE_few l).1; omega) hd (readE_ok (l := l) (by omega)).fits ho)
end Go.Proofs.YtimnbnomaajmmaaGreat
namespace Go.Proofs.YtimnbnomaajmmaaGreat
open Go.RowKit Go.Fd
set_option maxHeartbeats 8000000 in
set_option maxRecDepth 100000 in
theorem refFile_any (o : ObjM) (L : List (PartM × Value × Value)) (pv sv : Value) (w : World) (h : ObjAt w o L pv sv) (ho : ObjOk o) :
    Calls Tryz.prog 19 #[objV o pv sv] w fun e w' => ∃ v, e = .returned (.tuple #[v, .int .i64 (fileO o).2]) ∧ OB w' w.heap.size v (fileO o).1 ∧ Below w.heap.size w w' := by
  have HMY := Lib.hid (fun wx (hb : Below w.heap.size w wx) => refMay_any o L pv sv wx (h.mono hb) ho)
  have HEL : Hid (MayO o → ∀ wx (_ : Below w.heap.size w wx), Calls Tryz.prog 43 #[objV o pv sv] wx fun e w' => (∃ T a n c, e = .returned (.tuple #[elfV (elfO o) (.slice a n c) (.slice none 0 0), .int .i64 0]) ∧ ElfAt w' (elfO o) T (.slice a n c) (.slice none 0 0)) ∧ Below wx.heap.size wx w') := Lib.hid (fun hm wx hb => (refElf_any o L pv sv wx (h.mono hb) ho hm).mono fun r w' ⟨T, ev, h1, h2, h3⟩ => by
    obtain ⟨n, a, c, -, rfl, -, -⟩ := h2.rd.shape
    exact ⟨⟨T, a, n, c, h1, h2⟩, h3⟩)
  have HWR : Hid (MayO o → ∀ T ev gv wx, ElfAt wx (elfO o) T ev gv → Calls Tryz.prog 39 #[elfV (elfO o) ev gv] wx fun r w' => ∃ v, r = .returned (.tuple #[v, .int .i64 (fileW (elfO o)).2]) ∧ OB w' wx.heap.size v (fileW (elfO o)).1 ∧ Below wx.heap.size wx w') := Lib.hid (fun hm T ev gv wx hx => ref4Write_any (elfO o) T ev gv wx hx (elfO_ok ho hm))
  obtain ⟨pn, pa, pc, -, rfl, -, -⟩ := h.rd.shape
  obtain ⟨sn, sa, sc, -, rfl, -, -⟩ := h.syms.shape
  have HFO : Hid (fileO o = if mayO o ≠ 0 then ([], mayO o) else if mayE (elfO o) = true then (fileB (elfO o), 0) else ([], 6)) := by unfold fileO; rfl
  have HFW : Hid (fileW (elfO o) = if mayE (elfO o) = true then (fileB (elfO o), 0) else ([], 1)) := rfl
  have HM0 := Lib.hid (mayO_0 (o := o))
  clear h ho
  generalize hmo : mayO o = mo at *
  by_cases hm0 : mo = 0
  case neg =>
    have HR := Lib.hid (show fileO o = ([], mo) by rw [HFO.out, if_pos hm0])
    have hmb : (mo != 0) = true := bne_iff_ne.2 hm0
    clear hm0 HFO hmo HM0
    go_enter Tryz.func19, Tryz.ntmps19
    go_wp2_with (first
      | ((with_reducible show wpList _ _ _ (⟨some 1, .box _ _, _, _, _, _⟩ :: _) _ _); go_must (refine wpList_box rfl ?_; intro w1 hx1 hb1 hs1; have HX1 := Lib.hid hx1; have HB1 := Lib.hid hb1; obtain ⟨c0, c1, c2⟩ := obj_box hx1; clear hx1 hb1))
      | (go_at_call 42; refine (HMY.out _ HB1.out).mono ?_; rintro e w2 ⟨rfl, hb2⟩; have HB2 := Lib.hid (HB1.out.trans (hb2.mono HB1.out.size)); clear hb2))
    go_ret2
    exact ⟨_, by rw [HR.out]; rfl, by rw [HR.out]; exact OB.nil _ _, HB2.out⟩
  subst hm0
  have HMO := Lib.hid (HM0.out rfl)
  have HFI : Hid (fileO o = if mayE (elfO o) = true then (fileB (elfO o), 0) else ([], 6)) := by
    have := HFO.out
    rwa [if_neg (by simp)] at this
  have HEL2 := Lib.hid (HEL.out HMO.out)
  have HWR2 := Lib.hid (HWR.out HMO.out)
  clear HFO HM0 hmo HEL HWR
  cases hme : mayE (elfO o) with
  | true =>
    rw [hme] at HFW HFI
    have HFW2 := Lib.hid (show fileW (elfO o) = (fileB (elfO o), 0) from HFW.out.trans (if_pos rfl))
    have HFI2 := Lib.hid (show fileO o = (fileB (elfO o), 0) from HFI.out.trans (if_pos rfl))
    rw [HFW2.out] at HWR2
    clear hme HFW HFI
    go_enter Tryz.func19, Tryz.ntmps19
    go_wp2_with (first
      | ((with_reducible show wpList _ _ _ (⟨some 1, .box _ _, _, _, _, _⟩ :: _) _ _); go_must (refine wpList_box rfl ?_; intro w1 hx1 hb1 hs1; have HX1 := Lib.hid hx1; have HB1 := Lib.hid hb1; obtain ⟨c0, c1, c2⟩ := obj_box hx1; clear hx1 hb1))
      | (go_at_call 42; refine (HMY.out _ HB1.out).mono ?_; rintro e w2 ⟨rfl, hb2⟩; have HX2 := Lib.hid (heap_below hb2 HX1.out); have HB2 := Lib.hid (HB1.out.trans (hb2.mono HB1.out.size)); obtain ⟨c0, c1, c2⟩ := obj_box HX2.out; clear hb2)
      | (go_at_call 43; refine (HEL2.out _ HB2.out).mono ?_; rintro e w3 ⟨⟨T, ea, en, ec, rfl, hea⟩, hb3⟩; have HEA := Lib.hid hea; have HB3 := Lib.hid (HB2.out.trans (hb3.mono HB2.out.size)); clear hea hb3)
      | ((with_reducible show wpList _ _ _ (⟨some 5, .alloc _, _, _, _, _⟩ :: _) _ _); go_must (refine wpList_allocElf ?_; intro w4 hx4 hb4 hs4; have HE4 := Lib.hid hx4; have HB34 := Lib.hid hb4; have HB4 := Lib.hid (HB3.out.trans (hb4.mono HB3.out.size)); clear hx4 hb4))
      | ((with_reducible show wpList _ _ _ (⟨none, .store _ (.tmp 5) _, _, _, _, _⟩ :: _) _ _); go_must (refine wpList_storeElf HE4.out rfl rfl rfl rfl (by simp [Value.oneCell']) (Nat.le_refl _) (Nat.le_of_lt hs4) ?_; intro w5 hh5 hb5; have HEA5 := Lib.hid (HEA.out.mono (HB34.out.trans hb5)); have HB5 := Lib.hid (HB4.out.trans (hb5.mono HB3.out.size)); obtain ⟨z0, z1, z2, z3, z4, z5⟩ := elf_box (e := elfO o) hh5; clear hh5 hb5))
      | (go_at_call 39; refine (HWR2.out _ _ _ _ HEA5.out).mono ?_; rintro e w6 ⟨v6, rfl, ho6, hb6⟩; have HOBR := Lib.hid (ho6.base HB5.out.size); have HBC := Lib.hid (HB5.out.trans (hb6.mono HB5.out.size)); clear ho6 hb6))
    go_ret2
    exact ⟨_, by rw [HFI2.out]; rfl, by rw [HFI2.out]; exact HOBR.out, HBC.out⟩
  | false =>
    rw [hme] at HFW HFI
    have HFW2 := Lib.hid (show fileW (elfO o) = ([], 1) from HFW.out.trans (if_neg (by simp)))
    have HFI2 := Lib.hid (show fileO o = ([], 6) from HFI.out.trans (if_neg (by simp)))
    rw [HFW2.out] at HWR2
    clear hme HFW HFI
    go_enter Tryz.func19, Tryz.ntmps19
    go_wp2_with (first
      | ((with_reducible show wpList _ _ _ (⟨some 1, .box _ _, _, _, _, _⟩ :: _) _ _); go_must (refine wpList_box rfl ?_; intro w1 hx1 hb1 hs1; have HX1 := Lib.hid hx1; have HB1 := Lib.hid hb1; obtain ⟨c0, c1, c2⟩ := obj_box hx1; clear hx1 hb1))
      | (go_at_call 42; refine (HMY.out _ HB1.out).mono ?_; rintro e w2 ⟨rfl, hb2⟩; have HX2 := Lib.hid (heap_below hb2 HX1.out); have HB2 := Lib.hid (HB1.out.trans (hb2.mono HB1.out.size)); obtain ⟨c0, c1, c2⟩ := obj_box HX2.out; clear hb2)
      | (go_at_call 43; refine (HEL2.out _ HB2.out).mono ?_; rintro e w3 ⟨⟨T, ea, en, ec, rfl, hea⟩, hb3⟩; have HEA := Lib.hid hea; have HB3 := Lib.hid (HB2.out.trans (hb3.mono HB2.out.size)); clear hea hb3)
      | ((with_reducible show wpList _ _ _ (⟨some 5, .alloc _, _, _, _, _⟩ :: _) _ _); go_must (refine wpList_allocElf ?_; intro w4 hx4 hb4 hs4; have HE4 := Lib.hid hx4; have HB34 := Lib.hid hb4; have HB4 := Lib.hid (HB3.out.trans (hb4.mono HB3.out.size)); clear hx4 hb4))
      | ((with_reducible show wpList _ _ _ (⟨none, .store _ (.tmp 5) _, _, _, _, _⟩ :: _) _ _); go_must (refine wpList_storeElf HE4.out rfl rfl rfl rfl (by simp [Value.oneCell']) (Nat.le_refl _) (Nat.le_of_lt hs4) ?_; intro w5 hh5 hb5; have HEA5 := Lib.hid (HEA.out.mono (HB34.out.trans hb5)); have HB5 := Lib.hid (HB4.out.trans (hb5.mono HB3.out.size)); obtain ⟨z0, z1, z2, z3, z4, z5⟩ := elf_box (e := elfO o) hh5; clear hh5 hb5))
      | (go_at_call 39; refine (HWR2.out _ _ _ _ HEA5.out).mono ?_; rintro e w6 ⟨v6, rfl, ho6, hb6⟩; have HOBR := Lib.hid (ho6.base HB5.out.size); have HBC := Lib.hid (HB5.out.trans (hb6.mono HB5.out.size)); clear ho6 hb6))
    go_ret2
    exact ⟨_, by rw [HFI2.out]; rfl, by rw [HFI2.out]; exact OB.nil _ _, HBC.out⟩
end Go.Proofs.YtimnbnomaajmmaaGreat
namespace Go.Proofs.YtimnbnomaajmmaaGreat
open Go.RowKit Go.Fd
set_option maxHeartbeats 8000000 in
set_option maxRecDepth 100000 in
theorem read17_any (l : List UInt8) (v : Value) (w : World) (hl : l.length ≤ 24000) (hv : Bs w v l) :
    Calls Tryz.prog 7 #[v] w fun r w' => ReadOw (fun l => modR l []) l w.heap.size r w' ∧ Below w.heap.size w w' := by
  have hdt : ∀ s ∈ (readE l).1.secs, s.data.length ≤ 24000 ∧ s.name.length ≤ 1000000000 := fun s hs => ⟨Nat.le_trans (readE_data hs) hl, by have := (readE_few l).2 s hs; omega⟩
  have hsec : ∀ o, secsO (fun l => modR l []) (readE l).1 = some o → ObjOk o := fun o ho => way_ok (.inr rfl) (by have := (readE_few l).1; omega) hdt (readE_ok (l := l) (by omega)).fits ho
  have HV := Lib.hid hv
  have HRE := Lib.hid (fun wx (hb : Below w.heap.size w wx) => ref4Read_any l v wx (by omega) (hv.mono hb))
  have hok := (readE_ok (l := l) (by omega))
  have HFW := Lib.hid (readE_few l)
  have HDT := Lib.hid hdt
  have HSEC := Lib.hid hsec
  have HFT := Lib.hid hok.fits
  obtain ⟨lm, la, lc, -, rfl, -, -⟩ := hv.shape
  clear hv hok hdt hsec
  have HER := Lib.hid (readO_err (md := fun l => modR l []) (l := l))
  have HNN := Lib.hid (readO_none (md := fun l => modR l []) (l := l))
  have HNY := Lib.hid (fun o => readO_yes (md := fun l => modR l []) (l := l) (o := o))
  have HNO := Lib.hid (fun o => readO_no (md := fun l => modR l []) (l := l) (o := o))
  generalize hre : readE l = re at *
  have HREQ := Lib.hid hre
  obtain ⟨e, code⟩ := re
  dsimp only at *
  have HR2 : Hid (∀ wx (_ : Below w.heap.size w wx), Calls Tryz.prog 17 #[.slice la lm lc] wx fun r w' => (∃ L sa sn sc ga gn gc, r = .returned (.tuple #[elfV e (.slice sa sn sc) (.slice ga gn gc), .int .i64 code]) ∧ ElfOwn w' wx.heap.size e L (.slice sa sn sc) (.slice ga gn gc)) ∧ Below wx.heap.size wx w') := Lib.hid (fun wx hb => (HRE.out wx hb).mono fun r w' ⟨⟨L, sv, gv, h1, h2⟩, h4⟩ => by
    rw [hre] at h1 h2
    obtain ⟨sn, sa, sc, -, rfl, -, -⟩ := h2.so.shape
    obtain ⟨gn, ga, gc, -, rfl, -, -⟩ := h2.go.shape
    exact ⟨⟨L, sa, sn, sc, ga, gn, gc, h1, h2⟩, h4⟩)
  clear hre HRE
  by_cases h0 : code = 0
  case neg =>
    have HR := Lib.hid (HER.out h0)
    have hcb : (code != 0) = true := bne_iff_ne.2 h0
    clear h0
    go_enter Tryz.func7, Tryz.ntmps7
    go_wp2_with (first
      | ((with_reducible show wpList _ _ _ (⟨some 2, .alloc _, _, _, _, _⟩ :: _) _ _); go_must (refine wpList_allocObj ?_; intro w1 hx1 hb1 hs1; have HX1 := Lib.hid hx1; have HB1 := Lib.hid hb1; clear hx1 hb1))
      | (go_at_call 17; refine (HR2.out _ HB1.out).mono ?_; rintro r w2 ⟨⟨L, sa, sn, sc, ga, gn, gc, rfl, ho⟩, hb2⟩; have HX2 := Lib.hid (heap_below hb2 HX1.out); have HB2 := Lib.hid (HB1.out.trans (hb2.mono HB1.out.size)); clear ho hb2)
      | ((with_reducible show wpList _ _ _ (⟨some 4, .alloc _, _, _, _, _⟩ :: _) _ _); go_must (refine wpList_allocElf ?_; intro w3 hx3 hb3 hs3; have HE3 := Lib.hid hx3; have HX3 := Lib.hid (heap_below hb3 HX2.out); have HB3 := Lib.hid (HB2.out.trans (hb3.mono HB2.out.size)); clear hx3 hb3))
      | ((with_reducible show wpList _ _ _ (⟨none, .store _ (.tmp 4) _, _, _, _, _⟩ :: _) _ _); go_must (refine wpList_storeElfS HE3.out rfl rfl rfl rfl (by simp [Value.oneCell']) ?_; intro w4 hh4 hs4; have HX4 := Lib.hid (hs4.kept HX3.out (cells_ne HX3.out HE3.out (by decide))); have HB4 := Lib.hid (HB3.out.trans (hs4.below HB3.out.size (fun k hk => by rw [hk]; exact HB2.out.size))); clear hh4 hs4))
      | ((with_reducible show wpList _ _ _ (⟨none, .store _ (.tmp 2) _, _, _, _, _⟩ :: _) _ _); go_must (refine wpList_storeObjS HX4.out rfl rfl rfl rfl (by simp [Value.oneCell']) ?_; intro w5 hh5 hs5; have HH5 := Lib.hid hh5; have HB5 := Lib.hid (HB4.out.trans (hs5.below HB4.out.size (fun k hk => by rw [hk]; exact Nat.le_refl _))); clear hh5 hs5)))
    exact bodyPost_ret (obRow2 rfl _ _ w.heap.size _ _ _ _ rfl HH5.out rfl rfl (by kernel_rfl)) rfl ⟨ReadOw.code HR.out, HB5.out⟩
  subst h0
  cases hs : secsO (fun l => modR l []) e with
  | none =>
    have HR := Lib.hid (HNN.out rfl hs)
    have HMD : Hid (∀ L sv gv base wx, ElfOwn wx base e L sv gv → base ≤ wx.heap.size → Calls Tryz.prog 18 #[elfV e sv gv] wx fun r w' => (∃ t a1 n1 c1 a2 n2 c2, r = .returned (.tuple #[.agg #[.int .i64 t, .slice a1 n1 c1, .slice a2 n2 c2], .bool false])) ∧ Below wx.heap.size wx w') := Lib.hid (fun L sv gv base wx h1 h3 => (guess17_any e L sv gv base wx h1 (by have := HFW.out.1; omega) HDT.out HFT.out h3).mono fun r w' ⟨h4, h5⟩ => by
      rcases h4 with ⟨o, PL, a1, n1, c1, a2, n2, c2, hso, -, -⟩ | ⟨-, h6⟩
      · rw [hs] at hso; cases hso
      · exact ⟨h6, h5⟩)
    clear hs
    go_enter Tryz.func7, Tryz.ntmps7
    go_wp2_with (first
      | ((with_reducible show wpList _ _ _ (⟨some 2, .alloc _, _, _, _, _⟩ :: _) _ _); go_must (refine wpList_allocObj ?_; intro w1 hx1 hb1 hs1; have HX1 := Lib.hid hx1; have HB1 := Lib.hid hb1; clear hx1 hb1))
      | (go_at_call 17; refine (HR2.out _ HB1.out).mono ?_; rintro r w2 ⟨⟨L, sa, sn, sc, ga, gn, gc, rfl, ho⟩, hb2⟩; have HO2 := Lib.hid ho; have HX2 := Lib.hid (heap_below hb2 HX1.out); have HB2 := Lib.hid (HB1.out.trans (hb2.mono HB1.out.size)); have hz2 := hb2.size; clear ho hb2)
      | ((with_reducible show wpList _ _ _ (⟨some 4, .alloc _, _, _, _, _⟩ :: _) _ _); go_must (refine wpList_allocElf ?_; intro w3 hx3 hb3 hs3; have HE3 := Lib.hid hx3; have HO3 := Lib.hid (HO2.out.up hb3); have HX3 := Lib.hid (heap_below hb3 HX2.out); have HB3 := Lib.hid (HB2.out.trans (hb3.mono HB2.out.size)); clear hx3 hb3))
      | ((with_reducible show wpList _ _ _ (⟨none, .store _ (.tmp 4) _, _, _, _, _⟩ :: _) _ _); go_must (refine wpList_storeElfS HE3.out rfl rfl rfl rfl (by simp [Value.oneCell']) ?_; intro w4 hh4 hs4; have HO4 := Lib.hid (HO3.out.stir HE3.out hs4); have hz4 := hs4.size; have HX4 := Lib.hid (hs4.kept HX3.out (cells_ne HX3.out HE3.out (by decide))); have HB4 := Lib.hid (HB3.out.trans (hs4.below HB3.out.size (fun k hk => by rw [hk]; exact HB2.out.size))); obtain ⟨z0, z1, z2, z3, z4, z5⟩ := elf_box (e := e) hh4; clear hh4 hs4))
      | (go_at_call 18; refine (HMD.out _ _ _ _ _ HO4.out (by omega)).mono ?_; rintro r w5 ⟨⟨t, a1, n1, c1, a2, n2, c2, rfl⟩, hb5⟩; have HX5 := Lib.hid (heap_below hb5 HX4.out); have HB5 := Lib.hid (HB4.out.trans (hb5.mono HB4.out.size)); clear hb5)
      | ((with_reducible show wpList _ _ _ (⟨some 6, .alloc _, _, _, _, _⟩ :: _) _ _); go_must (refine wpList_allocObj ?_; intro w6 hx6 hb6 hs6; have HE6 := Lib.hid hx6; have HX6 := Lib.hid (heap_below hb6 HX5.out); have HB6 := Lib.hid (HB5.out.trans (hb6.mono HB5.out.size)); have hlt6 := block_lt (cell_rec HX5.out 0 |>.trans rfl); clear hx6 hb6))
      | ((with_reducible show wpList _ _ _ (⟨none, .store _ (.tmp 6) _, _, _, _, _⟩ :: _) _ _); go_must (refine wpList_storeObjS HE6.out rfl rfl rfl rfl (by simp [Value.oneCell']) ?_; intro w7 hh7 hs7; have HX7 := Lib.hid (hs7.kept HX6.out (Nat.ne_of_lt hlt6)); have HB7 := Lib.hid (HB6.out.trans (hs7.below HB6.out.size (fun k hk => by rw [hk]; exact HB5.out.size))); clear hh7 hs7))
      | ((with_reducible show wpList _ _ _ (⟨none, .store _ (.tmp 2) _, _, _, _, _⟩ :: _) _ _); go_must (refine wpList_storeObjS HX7.out rfl rfl rfl rfl (by simp [Value.oneCell']) ?_; intro w8 hh8 hs8; have HH8 := Lib.hid hh8; have HB8 := Lib.hid (HB7.out.trans (hs8.below HB7.out.size (fun k hk => by rw [hk]; exact Nat.le_refl _))); clear hh8 hs8)))
    exact bodyPost_ret (obRow2 rfl _ _ w.heap.size _ _ _ _ rfl HH8.out rfl rfl (by kernel_rfl)) rfl ⟨ReadOw.code HR.out, HB8.out⟩
  | some o =>
    have HOK := Lib.hid (HSEC.out o hs)
    have HYES := Lib.hid (HNY.out o rfl hs)
    have HNOO := Lib.hid (HNO.out o rfl hs)
    have HMD : Hid (∀ L sv gv base wx, ElfOwn wx base e L sv gv → base ≤ wx.heap.size → Calls Tryz.prog 18 #[elfV e sv gv] wx fun r w' => (∃ PL a1 n1 c1 a2 n2 c2, r = .returned (.tuple #[objV o (.slice a1 n1 c1) (.slice a2 n2 c2), .bool true]) ∧ ObjOw w' base o PL (.slice a1 n1 c1) (.slice a2 n2 c2)) ∧ Below wx.heap.size wx w') := Lib.hid (fun L sv gv base wx h1 h3 => (guess17_any e L sv gv base wx h1 (by have := HFW.out.1; omega) HDT.out HFT.out h3).mono fun r w' ⟨h4, h5⟩ => by
      rcases h4 with ⟨o2, PL, a1, n1, c1, a2, n2, c2, hso, h6, h7⟩ | ⟨h6, -⟩
      · rw [hs] at hso; cases hso
        exact ⟨⟨PL, a1, n1, c1, a2, n2, c2, h6, h7⟩, h5⟩
      · rw [hs] at h6; cases h6)
    clear hs
    generalize hfo : fileO o = fo at *
    obtain ⟨fb, fc⟩ := fo
    have HFI : Hid (∀ PL pv sv wx, ObjAt wx o PL pv sv → Calls Tryz.prog 19 #[objV o pv sv] wx fun e w' => (∃ a n c, e = .returned (.tuple #[.slice a n c, .int .i64 fc]) ∧ OB w' wx.heap.size (.slice a n c) fb) ∧ Below wx.heap.size wx w') := Lib.hid (fun PL pv sv wx h1 => (refFile_any o PL pv sv wx h1 HOK.out).mono fun r w' ⟨v, h2, h3, h4⟩ => by
      rw [hfo] at h2 h3
      obtain ⟨n, a, c, -, rfl, -, -⟩ := h3.shape
      exact ⟨⟨a, n, c, h2, h3⟩, h4⟩)
    clear hfo
    by_cases hfc : fc = 0
    case neg =>
      have HR := Lib.hid (HNOO.out (fun h => hfc (congrArg Prod.snd h)))
      have hcb : (fc != 0) = true := bne_iff_ne.2 hfc
      clear hfc
      go_enter Tryz.func7, Tryz.ntmps7
      go_wp2_with (first
        | ((with_reducible show wpList _ _ _ (⟨some 2, .alloc _, _, _, _, _⟩ :: _) _ _); go_must (refine wpList_allocObj ?_; intro w1 hx1 hb1 hs1; have HX1 := Lib.hid hx1; have HB1 := Lib.hid hb1; clear hx1 hb1))
        | (go_at_call 17; refine (HR2.out _ HB1.out).mono ?_; rintro r w2 ⟨⟨L, sa, sn, sc, ga, gn, gc, rfl, ho⟩, hb2⟩; have HO2 := Lib.hid ho; have HX2 := Lib.hid (heap_below hb2 HX1.out); have HB2 := Lib.hid (HB1.out.trans (hb2.mono HB1.out.size)); have hz2 := hb2.size; clear ho hb2)
        | ((with_reducible show wpList _ _ _ (⟨some 4, .alloc _, _, _, _, _⟩ :: _) _ _); go_must (refine wpList_allocElf ?_; intro w3 hx3 hb3 hs3; have HE3 := Lib.hid hx3; have HO3 := Lib.hid (HO2.out.up hb3); have HX3 := Lib.hid (heap_below hb3 HX2.out); have HB3 := Lib.hid (HB2.out.trans (hb3.mono HB2.out.size)); clear hx3 hb3))
        | ((with_reducible show wpList _ _ _ (⟨none, .store _ (.tmp 4) _, _, _, _, _⟩ :: _) _ _); go_must (refine wpList_storeElfS HE3.out rfl rfl rfl rfl (by simp [Value.oneCell']) ?_; intro w4 hh4 hs4; have HO4 := Lib.hid (HO3.out.stir HE3.out hs4); have hz4 := hs4.size; have HX4 := Lib.hid (hs4.kept HX3.out (cells_ne HX3.out HE3.out (by decide))); have HB4 := Lib.hid (HB3.out.trans (hs4.below HB3.out.size (fun k hk => by rw [hk]; exact HB2.out.size))); obtain ⟨z0, z1, z2, z3, z4, z5⟩ := elf_box (e := e) hh4; clear hh4 hs4))
        | (go_at_call 18; refine (HMD.out _ _ _ _ _ HO4.out (by omega)).mono ?_; rintro r w5 ⟨⟨PL, a1, n1, c1, a2, n2, c2, rfl, how⟩, hb5⟩; have HOW5 := Lib.hid how; clear how; have HX5 := Lib.hid (heap_below hb5 HX4.out); have HB5 := Lib.hid (HB4.out.trans (hb5.mono HB4.out.size)); clear hb5)
        | ((with_reducible show wpList _ _ _ (⟨some 6, .alloc _, _, _, _, _⟩ :: _) _ _); go_must (refine wpList_allocObj ?_; intro w6 hx6 hb6 hs6; have HE6 := Lib.hid hx6; have HOW6 := Lib.hid (HOW5.out.mono hb6); have HX6 := Lib.hid (heap_below hb6 HX5.out); have HB6 := Lib.hid (HB5.out.trans (hb6.mono HB5.out.size)); have hlt6 := block_lt (cell_rec HX5.out 0 |>.trans rfl); clear hx6 hb6))
        | ((with_reducible show wpList _ _ _ (⟨none, .store _ (.tmp 6) _, _, _, _, _⟩ :: _) _ _); go_must (refine wpList_storeObjS HE6.out rfl rfl rfl rfl (by simp [Value.oneCell']) ?_; intro w7 hh7 hs7; have HE7 := Lib.hid hh7; have HOW7 := Lib.hid (HOW6.out.stir HE6.out hs7); obtain ⟨z0, z1, z2⟩ := obj_box hh7; have HX7 := Lib.hid (hs7.kept HX6.out (Nat.ne_of_lt hlt6)); have HB7 := Lib.hid (HB6.out.trans (hs7.below HB6.out.size (fun k hk => by rw [hk]; exact HB5.out.size))); clear hh7 hs7))
        | (go_at_call 19; refine (HFI.out _ _ _ _ HOW7.out.at).mono ?_; rintro r w9 ⟨⟨a9, n9, c9, rfl, ho9⟩, hb9⟩; have HX9 := Lib.hid (heap_below hb9 HX7.out); have HOW9 := Lib.hid (HOW7.out.mono hb9); have HOB9 := Lib.hid ho9; have HB9 := Lib.hid (HB7.out.trans (hb9.mono HB7.out.size)); obtain ⟨z0, z1, z2⟩ := obj_box (heap_below hb9 HE7.out); have hk1 := run_str HOB9.out.bs; have hk2 := run_str (HV.out.mono HB9.out); clear ho9 hb9)
        | ((with_reducible show wpList _ _ _ (⟨none, .store _ (.tmp 2) _, _, _, _, _⟩ :: _) _ _); go_must (refine wpList_storeObjS HX9.out rfl rfl rfl rfl (by simp [Value.oneCell']) ?_; intro w8 hh8 hs8; have HH8 := Lib.hid hh8; have HOW8 := Lib.hid (HOW9.out.stir HX9.out hs8); have HB8 := Lib.hid (HB9.out.trans (hs8.below HB9.out.size (fun k hk => by rw [hk]; exact Nat.le_refl _))); clear hh8 hs8)))
      exact bodyPost_ret (obRow2 rfl _ _ w.heap.size _ _ _ _ rfl HH8.out rfl rfl (by kernel_rfl)) rfl ⟨ReadOw.code HR.out, HB8.out⟩
    subst hfc
    by_cases hfl : fb = l
    case neg =>
      have HR := Lib.hid (HNOO.out (fun h => hfl (congrArg Prod.fst h)))
      have e1 : (fb != l) = true := bne_iff_ne.2 hfl
      have e2 : (fb == l) = false := beq_eq_false_iff_ne.2 hfl
      clear hfl
      go_enter Tryz.func7, Tryz.ntmps7
      go_wp2_with (first
        | ((with_reducible show wpList _ _ _ (⟨some 2, .alloc _, _, _, _, _⟩ :: _) _ _); go_must (refine wpList_allocObj ?_; intro w1 hx1 hb1 hs1; have HX1 := Lib.hid hx1; have HB1 := Lib.hid hb1; clear hx1 hb1))
        | (go_at_call 17; refine (HR2.out _ HB1.out).mono ?_; rintro r w2 ⟨⟨L, sa, sn, sc, ga, gn, gc, rfl, ho⟩, hb2⟩; have HO2 := Lib.hid ho; have HX2 := Lib.hid (heap_below hb2 HX1.out); have HB2 := Lib.hid (HB1.out.trans (hb2.mono HB1.out.size)); have hz2 := hb2.size; clear ho hb2)
        | ((with_reducible show wpList _ _ _ (⟨some 4, .alloc _, _, _, _, _⟩ :: _) _ _); go_must (refine wpList_allocElf ?_; intro w3 hx3 hb3 hs3; have HE3 := Lib.hid hx3; have HO3 := Lib.hid (HO2.out.up hb3); have HX3 := Lib.hid (heap_below hb3 HX2.out); have HB3 := Lib.hid (HB2.out.trans (hb3.mono HB2.out.size)); clear hx3 hb3))
        | ((with_reducible show wpList _ _ _ (⟨none, .store _ (.tmp 4) _, _, _, _, _⟩ :: _) _ _); go_must (refine wpList_storeElfS HE3.out rfl rfl rfl rfl (by simp [Value.oneCell']) ?_; intro w4 hh4 hs4; have HO4 := Lib.hid (HO3.out.stir HE3.out hs4); have hz4 := hs4.size; have HX4 := Lib.hid (hs4.kept HX3.out (cells_ne HX3.out HE3.out (by decide))); have HB4 := Lib.hid (HB3.out.trans (hs4.below HB3.out.size (fun k hk => by rw [hk]; exact HB2.out.size))); obtain ⟨z0, z1, z2, z3, z4, z5⟩ := elf_box (e := e) hh4; clear hh4 hs4))
        | (go_at_call 18; refine (HMD.out _ _ _ _ _ HO4.out (by omega)).mono ?_; rintro r w5 ⟨⟨PL, a1, n1, c1, a2, n2, c2, rfl, how⟩, hb5⟩; have HOW5 := Lib.hid how; clear how; have HX5 := Lib.hid (heap_below hb5 HX4.out); have HB5 := Lib.hid (HB4.out.trans (hb5.mono HB4.out.size)); clear hb5)
        | ((with_reducible show wpList _ _ _ (⟨some 6, .alloc _, _, _, _, _⟩ :: _) _ _); go_must (refine wpList_allocObj ?_; intro w6 hx6 hb6 hs6; have HE6 := Lib.hid hx6; have HOW6 := Lib.hid (HOW5.out.mono hb6); have HX6 := Lib.hid (heap_below hb6 HX5.out); have HB6 := Lib.hid (HB5.out.trans (hb6.mono HB5.out.size)); have hlt6 := block_lt (cell_rec HX5.out 0 |>.trans rfl); clear hx6 hb6))
        | ((with_reducible show wpList _ _ _ (⟨none, .store _ (.tmp 6) _, _, _, _, _⟩ :: _) _ _); go_must (refine wpList_storeObjS HE6.out rfl rfl rfl rfl (by simp [Value.oneCell']) ?_; intro w7 hh7 hs7; have HE7 := Lib.hid hh7; have HOW7 := Lib.hid (HOW6.out.stir HE6.out hs7); obtain ⟨z0, z1, z2⟩ := obj_box hh7; have HX7 := Lib.hid (hs7.kept HX6.out (Nat.ne_of_lt hlt6)); have HB7 := Lib.hid (HB6.out.trans (hs7.below HB6.out.size (fun k hk => by rw [hk]; exact HB5.out.size))); clear hh7 hs7))
        | (go_at_call 19; refine (HFI.out _ _ _ _ HOW7.out.at).mono ?_; rintro r w9 ⟨⟨a9, n9, c9, rfl, ho9⟩, hb9⟩; have HX9 := Lib.hid (heap_below hb9 HX7.out); have HOW9 := Lib.hid (HOW7.out.mono hb9); have HOB9 := Lib.hid ho9; have HB9 := Lib.hid (HB7.out.trans (hb9.mono HB7.out.size)); obtain ⟨z0, z1, z2⟩ := obj_box (heap_below hb9 HE7.out); have hk1 := run_str HOB9.out.bs; have hk2 := run_str (HV.out.mono HB9.out); clear ho9 hb9)
        | ((with_reducible show wpList _ _ _ (⟨none, .store _ (.tmp 2) _, _, _, _, _⟩ :: _) _ _); go_must (refine wpList_storeObjS HX9.out rfl rfl rfl rfl (by simp [Value.oneCell']) ?_; intro w8 hh8 hs8; have HH8 := Lib.hid hh8; have HOW8 := Lib.hid (HOW9.out.stir HX9.out hs8); have HB8 := Lib.hid (HB9.out.trans (hs8.below HB9.out.size (fun k hk => by rw [hk]; exact Nat.le_refl _))); clear hh8 hs8)))
      exact bodyPost_ret (obRow2 rfl _ _ w.heap.size _ _ _ _ rfl HH8.out rfl rfl (by kernel_rfl)) rfl ⟨ReadOw.code HR.out, HB8.out⟩
    have e1 : (fb != l) = false := by rw [hfl]; simp
    have e2 : (fb == l) = true := by rw [hfl]; simp
    have HR := Lib.hid (HYES.out (by rw [hfl]))
    clear hfl
    go_enter Tryz.func7, Tryz.ntmps7
    go_wp2_with (first
      | ((with_reducible show wpList _ _ _ (⟨some 2, .alloc _, _, _, _, _⟩ :: _) _ _); go_must (refine wpList_allocObj ?_; intro w1 hx1 hb1 hs1; have HX1 := Lib.hid hx1; have HB1 := Lib.hid hb1; clear hx1 hb1))
      | (go_at_call 17; refine (HR2.out _ HB1.out).mono ?_; rintro r w2 ⟨⟨L, sa, sn, sc, ga, gn, gc, rfl, ho⟩, hb2⟩; have HO2 := Lib.hid ho; have HX2 := Lib.hid (heap_below hb2 HX1.out); have HB2 := Lib.hid (HB1.out.trans (hb2.mono HB1.out.size)); have hz2 := hb2.size; clear ho hb2)
      | ((with_reducible show wpList _ _ _ (⟨some 4, .alloc _, _, _, _, _⟩ :: _) _ _); go_must (refine wpList_allocElf ?_; intro w3 hx3 hb3 hs3; have HE3 := Lib.hid hx3; have HO3 := Lib.hid (HO2.out.up hb3); have HX3 := Lib.hid (heap_below hb3 HX2.out); have HB3 := Lib.hid (HB2.out.trans (hb3.mono HB2.out.size)); clear hx3 hb3))
      | ((with_reducible show wpList _ _ _ (⟨none, .store _ (.tmp 4) _, _, _, _, _⟩ :: _) _ _); go_must (refine wpList_storeElfS HE3.out rfl rfl rfl rfl (by simp [Value.oneCell']) ?_; intro w4 hh4 hs4; have HO4 := Lib.hid (HO3.out.stir HE3.out hs4); have hz4 := hs4.size; have HX4 := Lib.hid (hs4.kept HX3.out (cells_ne HX3.out HE3.out (by decide))); have HB4 := Lib.hid (HB3.out.trans (hs4.below HB3.out.size (fun k hk => by rw [hk]; exact HB2.out.size))); obtain ⟨z0, z1, z2, z3, z4, z5⟩ := elf_box (e := e) hh4; clear hh4 hs4))
      | (go_at_call 18; refine (HMD.out _ _ _ _ _ HO4.out (by omega)).mono ?_; rintro r w5 ⟨⟨PL, a1, n1, c1, a2, n2, c2, rfl, how⟩, hb5⟩; have HOW5 := Lib.hid how; clear how; have HX5 := Lib.hid (heap_below hb5 HX4.out); have HB5 := Lib.hid (HB4.out.trans (hb5.mono HB4.out.size)); clear hb5)
      | ((with_reducible show wpList _ _ _ (⟨some 6, .alloc _, _, _, _, _⟩ :: _) _ _); go_must (refine wpList_allocObj ?_; intro w6 hx6 hb6 hs6; have HE6 := Lib.hid hx6; have HOW6 := Lib.hid (HOW5.out.mono hb6); have HX6 := Lib.hid (heap_below hb6 HX5.out); have HB6 := Lib.hid (HB5.out.trans (hb6.mono HB5.out.size)); have hlt6 := block_lt (cell_rec HX5.out 0 |>.trans rfl); clear hx6 hb6))
      | ((with_reducible show wpList _ _ _ (⟨none, .store _ (.tmp 6) _, _, _, _, _⟩ :: _) _ _); go_must (refine wpList_storeObjS HE6.out rfl rfl rfl rfl (by simp [Value.oneCell']) ?_; intro w7 hh7 hs7; have HE7 := Lib.hid hh7; have HOW7 := Lib.hid (HOW6.out.stir HE6.out hs7); obtain ⟨z0, z1, z2⟩ := obj_box hh7; have HX7 := Lib.hid (hs7.kept HX6.out (Nat.ne_of_lt hlt6)); have HB7 := Lib.hid (HB6.out.trans (hs7.below HB6.out.size (fun k hk => by rw [hk]; exact HB5.out.size))); clear hh7 hs7))
      | (go_at_call 19; refine (HFI.out _ _ _ _ HOW7.out.at).mono ?_; rintro r w9 ⟨⟨a9, n9, c9, rfl, ho9⟩, hb9⟩; have HX9 := Lib.hid (heap_below hb9 HX7.out); have HOW9 := Lib.hid (HOW7.out.mono hb9); have HOB9 := Lib.hid ho9; have HB9 := Lib.hid (HB7.out.trans (hb9.mono HB7.out.size)); obtain ⟨z0, z1, z2⟩ := obj_box (heap_below hb9 HE7.out); have hk1 := run_str HOB9.out.bs; have hk2 := run_str (HV.out.mono HB9.out); clear ho9 hb9)
      | ((with_reducible show wpList _ _ _ (⟨none, .store _ (.tmp 2) _, _, _, _, _⟩ :: _) _ _); go_must (refine wpList_storeObjS HX9.out rfl rfl rfl rfl (by simp [Value.oneCell']) ?_; intro w8 hh8 hs8; have HH8 := Lib.hid hh8; have HOW8 := Lib.hid (HOW9.out.stir HX9.out hs8); have HB8 := Lib.hid (HB9.out.trans (hs8.below HB9.out.size (fun k hk => by rw [hk]; exact Nat.le_refl _))); clear hh8 hs8)))
    exact bodyPost_ret (obRow2 rfl _ _ w.heap.size _ _ _ _ rfl HH8.out rfl rfl (by kernel_rfl)) rfl ⟨⟨PL, .slice a1 n1 c1, .slice a2 n2 c2, by rw [HR.out]; rfl, by rw [HR.out]; exact HOW8.out.base HB1.out.size⟩, HB8.out⟩
end Go.Proofs.YtimnbnomaajmmaaGreat
namespace Go.Proofs.YtimnbnomaajmmaaGreat
open Go.RowKit Go.Fd
def seenB (s : SymM) : Bool := !decide (s.bind = 0) && !decide (s.sec = 0) && !decide (s.name = [])
theorem def_step {l : List SymM} {k : Nat} {x : SymM} (h : l[k]? = some x) : definedO (l.take (k + 1)) = if seenB x = true then definedO (l.take k) ++ [x.name] else definedO (l.take k) := by
  unfold definedO
  rw [List.take_add_one, h, List.filter_append, List.map_append]
  show _ ++ List.map _ (List.filter seenB [x]) = _
  by_cases hs : seenB x = true
  · rw [if_pos hs, List.filter_cons_of_pos hs]; rfl
  · rw [if_neg hs, List.filter_cons_of_neg hs]; simp
theorem def_len (l : List SymM) : (definedO l).length ≤ l.length := by
  unfold definedO
  rw [List.length_map]
  exact List.length_filter_le _ _
theorem below_grownT {w1 w6 w7 : World} {v : Value} {l : List (List UInt8)} (h : Ow S 9 w6 w1.heap.size v l) (hg : w6.grownBy w7 v.ownBlock) (hz : w1.heap.size ≤ w6.heap.size) : Below w1.heap.size w6 w7 :=
  below_of_grown hg hz fun k hk => (World.ownsRow.lt h k hk).1
set_option maxHeartbeats 4000000 in
set_option maxRecDepth 100000 in
theorem defined6_any (o : ObjM) (L : List (PartM × Value × Value)) (pv sv : Value) (w : World) (h : ObjAt w o L pv sv) (hl : o.syms.length ≤ 1000) :
    Calls Tryz.prog 12 #[objV o pv sv] w fun e w' => (∃ a n c, e = .returned (.slice a n c) ∧ Ow S 9 w' w.heap.size (.slice a n c) (definedO o.syms)) ∧ Below w.heap.size w w' := by
  obtain ⟨pn, pa, pc, -, rfl, -, -⟩ := h.rd.shape
  obtain ⟨sa, sc, rfl, hsc, -, hS⟩ := h.syms.open (fun _ => rfl)
  have HS := Lib.hid hS
  obtain ⟨target, parts, syms⟩ := o
  dsimp only at *
  obtain ⟨ns, hns⟩ : ∃ n, n = syms.length := ⟨_, rfl⟩
  rw [← hns] at hl hsc ⊢
  have HNS := Lib.hid hns
  clear hS hns h
  go_enter Tryz.func12, Tryz.ntmps12
  go_wp2_with (first
    | ((with_reducible show wpList _ _ _ (⟨some 1, .box _ _, _, _, _, _⟩ :: _) _ _); go_must (refine wpList_box rfl ?_; intro w1 hx1 hb1 hs1; have HX1 := Lib.hid hx1; have HB1 := Lib.hid hb1; have hb1s := hb1.size; obtain ⟨c0, c1, c2⟩ := obj_box hx1; clear hx1 hb1)))
  go_loopw [3, 9] (fun v i wr => ∃ (k : Nat) (va : Option Addr) (vn vc : Nat), v = .slice va vn vc ∧ i = .int .i64 k ∧ k ≤ ns ∧ Hid (Ow S 9 wr w1.heap.size (.slice va vn vc) (definedO (syms.take k))) ∧ Hid (Below w1.heap.size w1 wr)) (fun _ i _ => ns - (intOf i).toNat)
  case atStart => exact ⟨0, none, 0, 0, rfl, rfl, Nat.zero_le _, Ow.nil _ _ _ _, Below.refl _ _⟩
  case round =>
    obtain ⟨k, va, vn, vc, rfl, rfl, hk, HO, HW⟩ := hrel
    have HB := Lib.hid (HB1.out.trans (HW.out.mono HB1.out.size))
    have HXr := Lib.hid (heap_below HW.out HX1.out)
    have hbs := HW.out.size
    
    by_cases hlt : k < ns
    · obtain ⟨x, hx⟩ : ∃ x, syms[k]? = some x := ⟨_, List.getElem?_eq_getElem (by have := HNS.out; omega)⟩
      obtain ⟨b, oo, rfl, e0, e1, e2, e3, e4, e5, hb0⟩ := sym_cells HS.out HB.out hx
      have HST := Lib.hid (def_step hx)
      have HDL : Hid ((definedO (syms.take k)).length ≤ 1000) := by
        have h1 := def_len (syms.take k)
        rw [List.length_take] at h1
        unfold Hid
        omega
      have HSB : Hid (seenB x = (!decide (x.bind = 0) && !decide (x.sec = 0) && !decide (x.name = []))) := rfl
      obtain ⟨name, bind, typ, sec, value, size⟩ := x
      dsimp only at *
      generalize seenB ⟨name, bind, typ, sec, value, size⟩ = sb at *
      clear hx
      by_cases hq : bind ≠ 0 ∧ sec ≠ 0 ∧ name ≠ []
      · obtain ⟨q1, q2, q3⟩ := hq
        have t1 : (bind != 0) = true := bne_iff_ne.2 q1
        have t2 : (sec != 0) = true := bne_iff_ne.2 q2
        have t3 : (name != []) = true := bne_iff_ne.2 q3
        have t4 : name.isEmpty = false := by simpa using q3
        have HN := Lib.hid (show definedO (syms.take (k + 1)) = definedO (syms.take k) ++ [name] by rw [HST.out, HSB.out, decide_eq_false q1, decide_eq_false q2, decide_eq_false q3]; rfl)
        clear HST HSB q1 q2 q3
        go_wp2_with (first
          | ((with_reducible show wpList _ _ _ (⟨none, .store _ (.tmp 5) _, _, _, _, _⟩ :: _) _ _); go_must (refine wpList_storeNew rfl rfl (by kernel_rfl) rfl (by simp [Value.oneCell']) ?_; intro w6 hh6 hb6; have HO6 := Lib.hid (HO.out.mono hb6); have HB6 := Lib.hid (HW.out.trans (hb6.mono HW.out.size)); have d0 := cell_rec hh6 0; have d1 := cell_rec hh6 1; have d2 := cell_rec hh6 2; have d3 := cell_rec hh6 3; simp only [List.getElem?_toArray, List.getElem?_cons_succ, List.getElem?_cons_zero] at d0 d1 d2 d3; clear hh6 hb6))
          | ((with_reducible show wpList _ _ _ (⟨some 30, _, _, _, _, _⟩ :: _) _ _); go_must (refine wpList_pushE TTexts HO6.out rfl rfl name rfl rfl (by have := HDL.out; omega) (by have := HDL.out; omega) HB6.out.size ?_; intro v7 w7 hv7 hg7 hb7; have HO7 := Lib.hid hv7; have HB7 := Lib.hid (HB6.out.trans (below_grownT HO6.out hg7 HB6.out.size)); clear hv7 hg7 hb7)))
        obtain ⟨m7, a7, c7, -, rfl, -, -⟩ := HO7.out.shape
        exact ⟨⟨k + 1, a7, m7, c7, rfl, rfl, by omega, by rw [HN.out]; exact HO7, HB7⟩, by simp [intOf]; omega⟩


      · have HN := Lib.hid (show definedO (syms.take (k + 1)) = definedO (syms.take k) by
          rw [HST.out, HSB.out, if_neg]
          intro h
          simp only [Bool.and_eq_true, Bool.not_eq_true', decide_eq_false_iff_not] at h
          exact hq ⟨h.1.1, h.1.2, h.2⟩)
        have HQ := Lib.hid hq
        clear HST HSB hq
        by_cases q1 : bind = 0
        · have t1 : (bind != 0) = false := by rw [q1]; rfl
          clear q1
          go_wp2_with (first
            | ((with_reducible show wpList _ _ _ (⟨none, .store _ (.tmp 5) _, _, _, _, _⟩ :: _) _ _); go_must (refine wpList_storeNew rfl rfl (by kernel_rfl) rfl (by simp [Value.oneCell']) ?_; intro w6 hh6 hb6; have HO6 := Lib.hid (HO.out.mono hb6); have HB6 := Lib.hid (HW.out.trans (hb6.mono HW.out.size)); have d0 := cell_rec hh6 0; have d1 := cell_rec hh6 1; have d2 := cell_rec hh6 2; have d3 := cell_rec hh6 3; simp only [List.getElem?_toArray, List.getElem?_cons_succ, List.getElem?_cons_zero] at d0 d1 d2 d3; clear hh6 hb6)))
          exact ⟨⟨k + 1, va, vn, vc, rfl, rfl, by omega, by rw [HN.out]; exact HO6, HB6⟩, by simp [intOf]; omega⟩
        have t1 : (bind != 0) = true := bne_iff_ne.2 q1
        by_cases q2 : sec = 0
        · have t2 : (sec != 0) = false := by rw [q2]; rfl
          clear q1 q2
          go_wp2_with (first
            | ((with_reducible show wpList _ _ _ (⟨none, .store _ (.tmp 5) _, _, _, _, _⟩ :: _) _ _); go_must (refine wpList_storeNew rfl rfl (by kernel_rfl) rfl (by simp [Value.oneCell']) ?_; intro w6 hh6 hb6; have HO6 := Lib.hid (HO.out.mono hb6); have HB6 := Lib.hid (HW.out.trans (hb6.mono HW.out.size)); have d0 := cell_rec hh6 0; have d1 := cell_rec hh6 1; have d2 := cell_rec hh6 2; have d3 := cell_rec hh6 3; simp only [List.getElem?_toArray, List.getElem?_cons_succ, List.getElem?_cons_zero] at d0 d1 d2 d3; clear hh6 hb6)))
          exact ⟨⟨k + 1, va, vn, vc, rfl, rfl, by omega, by rw [HN.out]; exact HO6, HB6⟩, by simp [intOf]; omega⟩
        have t2 : (sec != 0) = true := bne_iff_ne.2 q2
        have q3 : name = [] := by
          rcases Classical.em (name = []) with h | h
          · exact h
          · exact absurd ⟨q1, q2, h⟩ HQ.out
        have t3 : (name != []) = false := by rw [q3]; rfl
        have t4 : name.isEmpty = true := by rw [q3]; rfl
        clear q1 q2 q3
        go_wp2_with (first
          | ((with_reducible show wpList _ _ _ (⟨none, .store _ (.tmp 5) _, _, _, _, _⟩ :: _) _ _); go_must (refine wpList_storeNew rfl rfl (by kernel_rfl) rfl (by simp [Value.oneCell']) ?_; intro w6 hh6 hb6; have HO6 := Lib.hid (HO.out.mono hb6); have HB6 := Lib.hid (HW.out.trans (hb6.mono HW.out.size)); have d0 := cell_rec hh6 0; have d1 := cell_rec hh6 1; have d2 := cell_rec hh6 2; have d3 := cell_rec hh6 3; simp only [List.getElem?_toArray, List.getElem?_cons_succ, List.getElem?_cons_zero] at d0 d1 d2 d3; clear hh6 hb6)))
        exact ⟨⟨k + 1, va, vn, vc, rfl, rfl, by omega, by rw [HN.out]; exact HO6, HB6⟩, by simp [intOf]; omega⟩
    · obtain rfl : k = ns := by omega
      have HF : Hid (Ow S 9 wr w1.heap.size (.slice va vn vc) (definedO syms)) := by
        have h1 := HO.out
        rwa [List.take_of_length_le (by have := HNS.out; omega)] at h1
      go_wp2
      go_ret
      exact ⟨⟨va, vn, vc, rfl, HF.out.rebase HB1.out.size⟩, HB.out⟩
end Go.Proofs.YtimnbnomaajmmaaGreat
namespace Go.Proofs.YtimnbnomaajmmaaGreat
open Go.RowKit Go.Fd
theorem run_allocPart {a : Act} {w : World} {d : Option Tmp} {ty : TypeId} {pos : String} {aft : Array Edge} {g : Option (Nat × Bool)} :
    (execOp a.eval ⟨d, .alloc 38, ty, pos, aft, g⟩).run Tryz.prog w = .ok (.value (.pointer (some ⟨w.heap.size, 0, none⟩))) (w.alloc (.cells partZ 38)) := by
  kernel_rfl
theorem wpList_allocPart {ops : Array Oper} {rest : List Oper} {Q : Exit → Act → World → Prop} {a : Act} {w : World} {d : Option Tmp} {ty : TypeId} {pos : String} {aft : Array Edge}
    (h : ∀ w1, w1.heap[w.heap.size]? = some (.cells partZ 38 (0, 0)) → Below w.heap.size w w1 → w.heap.size < w1.heap.size → wpList Tryz.prog ops Q rest (a.put d (.pointer (some ⟨w.heap.size, 0, none⟩))) w1) :
    wpList Tryz.prog ops Q (⟨d, .alloc 38, ty, pos, aft, none⟩ :: rest) a w :=
  wpList_val rfl run_allocPart (h (w.alloc (.cells partZ 38)) (heap_alloc_last w _) (below_alloc w _) (by rw [World.size_alloc]; omega))
set_option maxHeartbeats 16000000 in
set_option maxRecDepth 100000 in
theorem refSame_eq (o : ObjM) (L M : List (PartM × Value × Value)) (pv sv pu su : Value) (w : World) (h : ObjAt w o L pv sv) (h' : ObjAt w o M pu su) (hl : o.parts.length ≤ 1000000) (hs : o.syms.length ≤ 1000000) (hr : ∀ p ∈ o.parts, p.relas.length ≤ 1000000) :
    Calls Tryz.prog 8 #[objV o pv sv, objV o pu su] w fun e w' => e = .returned (.bool true) ∧ Below w.heap.size w w' := by
  have HA := Lib.hid h
  have HA' := Lib.hid h'
  obtain ⟨pa, pc, rfl, hpc, -, hP⟩ := h.rd.open (fun _ => rfl)
  obtain ⟨qa, qc, rfl, hqc, -, hQ⟩ := h'.rd.open (fun _ => rfl)
  obtain ⟨sa, sc, rfl, hsc, -, hS⟩ := h.syms.open (fun _ => rfl)
  obtain ⟨ua, uc, rfl, huc, -, hU⟩ := h'.syms.open (fun _ => rfl)
  have HP := Lib.hid hP
  have HQ := Lib.hid hQ
  have HS := Lib.hid hS
  have HU := Lib.hid hU
  have hLn : L.length = o.parts.length := by rw [h.parts, List.length_map]
  have hMn : M.length = o.parts.length := by rw [h'.parts, List.length_map]
  have HLE : Hid (∀ (k : Nat) (p : PartM), o.parts[k]? = some p → ∃ dv rv, L[k]? = some (p, dv, rv)) := Lib.hid (fun k p hk => by
    rw [h.parts, List.getElem?_map, Option.map_eq_some_iff] at hk
    obtain ⟨⟨q, dv, rv⟩, hq, rfl⟩ := hk
    exact ⟨dv, rv, hq⟩)
  have HME : Hid (∀ (k : Nat) (p : PartM), o.parts[k]? = some p → ∃ dv rv, M[k]? = some (p, dv, rv)) := Lib.hid (fun k p hk => by
    rw [h'.parts, List.getElem?_map, Option.map_eq_some_iff] at hk
    obtain ⟨⟨q, dv, rv⟩, hq, rfl⟩ := hk
    exact ⟨dv, rv, hq⟩)
  have HRL := Lib.hid hr
  obtain ⟨target, parts, syms⟩ := o
  dsimp only at *
  rw [hLn] at hpc ⊢
  rw [hMn] at hqc ⊢
  obtain ⟨np, hnp⟩ : ∃ n, n = parts.length := ⟨_, rfl⟩
  obtain ⟨ns, hns⟩ : ∃ n, n = syms.length := ⟨_, rfl⟩
  rw [← hnp] at hpc hqc hl ⊢
  rw [← hns] at hsc huc hs ⊢
  have HNP := Lib.hid hnp
  have HNS := Lib.hid hns
  clear h h' hP hQ hS hU hLn hMn hnp hns hr
  go_enter Tryz.func8, Tryz.ntmps8
  go_wp2_with (first
    | ((with_reducible show wpList _ _ _ (⟨some 2, .box _ _, _, _, _, _⟩ :: _) _ _); go_must (refine wpList_box rfl ?_; intro w1 hx1 hb1 hs1; have HX1 := Lib.hid hx1; have HB1 := Lib.hid hb1; clear hx1 hb1))
    | ((with_reducible show wpList _ _ _ (⟨some 3, .box _ _, _, _, _, _⟩ :: _) _ _); go_must (refine wpList_box rfl ?_; intro w2 hx2 hb2 hs2; have HX2 := Lib.hid hx2; have HX12 := Lib.hid (heap_below hb2 HX1.out); have HB2 := Lib.hid (HB1.out.trans (hb2.mono HB1.out.size)); obtain ⟨c0, c1, c2⟩ := obj_box HX12.out; obtain ⟨d0, d1, d2⟩ := obj_box hx2; clear hx2 hb2)))
  clear c0 c1 c2 d0 d1 d2
  go_loopw [5] (fun i wr => ∃ k : Nat, i = .int .i64 k ∧ k ≤ ns ∧ Hid (Below w2.heap.size w2 wr)) (fun i _ => ns - (intOf i).toNat)
  case atStart => exact ⟨0, rfl, Nat.zero_le _, Below.refl _ _⟩
  case round =>
    obtain ⟨k, rfl, hk, HW⟩ := hrel
    have HB := Lib.hid (HB2.out.trans (HW.out.mono HB2.out.size))
    obtain ⟨c0, c1, c2⟩ := obj_box (heap_below HW.out HX12.out)
    obtain ⟨d0, d1, d2⟩ := obj_box (heap_below HW.out HX2.out)
    clear c0 c1 d0 d1
    by_cases hlt : k < ns
    · obtain ⟨x, hx⟩ : ∃ x, syms[k]? = some x := ⟨_, List.getElem?_eq_getElem (by have := HNS.out; omega)⟩
      obtain ⟨b1, o1, rfl, e0, e1, e2, e3, e4, e5, -⟩ := sym_cells HS.out HB.out hx
      obtain ⟨b2, o2, rfl, f0, f1, f2, f3, f4, f5, -⟩ := sym_cells HU.out HB.out hx
      clear hx
      go_wp2
      refine wp_region_quiet_lit (by kernel_rfl) (by kernel_rfl) ?_
      repeat (first
        | ((with_reducible show wpQuiet _ _ _ _ (⟨some 50, _, _, _, _, _⟩ :: _) _); refine wpQuiet_run rfl (by rintro _ ⟨n, rfl⟩; exact run_bin rfl rfl (neq_sym x x _ _ _)) ?_)
        | quiet_step (fail))
      refine wpQuiet_nil ?_
      rintro _ ⟨nq, rfl⟩
      rw [show (!decide (x = x)) = false by simp]
      go_wp2
      go_roundw
      case rel =>
        first
          | exact ⟨k + 1, by go_num, by omega, HW.out.drewN _⟩
          | ((repeat apply Exists.intro); exact ⟨⟨k + 1, by go_num, by omega, HW.out.drewN _⟩, rfl⟩)
      case measure => simp [intOf] <;> omega
    · obtain rfl : k = ns := by omega
      go_wp2
      go_loopw [6] (fun i wr => ∃ k : Nat, i = .int .i64 k ∧ k ≤ np ∧ Hid (Below w2.heap.size w2 wr)) (fun i _ => np - (intOf i).toNat)
      case atStart => exact ⟨0, rfl, Nat.zero_le _, HW.out⟩
      case round =>
        obtain ⟨j, rfl, hj, HWj⟩ := hrel
        have HBj := Lib.hid (HB2.out.trans (HWj.out.mono HB2.out.size))
        obtain ⟨c0, c1, c2⟩ := obj_box (heap_below HWj.out HX12.out)
        obtain ⟨d0, d1, d2⟩ := obj_box (heap_below HWj.out HX2.out)
        clear c0 c2 d0 d2
        by_cases hlt2 : j < np
        · obtain ⟨p, hp⟩ : ∃ p, parts[j]? = some p := ⟨_, List.getElem?_eq_getElem (by have := HNP.out; omega)⟩
          obtain ⟨dv, rv, hx1⟩ := HLE.out j p hp
          obtain ⟨du, ru, hx2⟩ := HME.out j p hp
          have HDV := Lib.hid (HA.out.data _ (List.mem_of_getElem? hx1))
          have HDU := Lib.hid (HA'.out.data _ (List.mem_of_getElem? hx2))
          obtain ⟨m9, p9, r9, hm9, rfl, -, -⟩ := HDV.out.shape
          obtain ⟨m8, p8, r8, hm8, rfl, -, -⟩ := HDU.out.shape
          have hmm : m8 = m9 := hm8.out.trans hm9.out.symm
          subst hmm
          obtain ⟨ra, rc, hrv, hrc, -, hR⟩ := (HA.out.rela _ (List.mem_of_getElem? hx1)).open (fun _ => rfl)
          obtain ⟨ta, tc, htv, htc, -, hT⟩ := (HA'.out.rela _ (List.mem_of_getElem? hx2)).open (fun _ => rfl)
          dsimp only at hrv htv
          subst hrv htv
          have HR := Lib.hid hR
          have HT := Lib.hid hT
          have hmr9 := HRL.out p (List.mem_of_getElem? hp)
          obtain ⟨b1, o1, rfl, e0, e1, e2, e3, e4, e5, -⟩ := part_cells HP.out HBj.out hx1
          obtain ⟨b2, o2, rfl, f0, f1, f2, f3, f4, f5, -⟩ := part_cells HQ.out HBj.out hx2
          obtain ⟨name, flags, align, size, data, relas⟩ := p
          dsimp only at *
          obtain ⟨mr, hmr⟩ : ∃ n, n = relas.length := ⟨_, rfl⟩
          rw [← hmr] at hrc htc hmr9 e5 f5
          have HMR := Lib.hid hmr
          clear hx1 hx2 hp hR hT hmr hm9 hm8
          have hAB := fun (x : Above wr) (b k : Nat) (h : b < wr.heap.size) => Above.cell x b k h
          have n1 := block_lt c1
          have n2 := block_lt d1
          have n3 := block_lt e0
          have n4 := block_lt f0
          go_upto_region 11 with (fail)
          go_cut [7, 8] from 58 to 67 (fun s7 s8 wx => ∃ g7 g8 : Nat, s7 = .pointer (some ⟨g7, 0, none⟩) ∧ s8 = .pointer (some ⟨g8, 0, none⟩) ∧ Hid (wx.heap[g7]? = some (.cells #[.string ⟨name.toArray⟩, .string ⟨flags.toArray⟩, .int .i64 align, .int .i64 size, .slice p9 m8 r9, .slice ra mr rc] 38 (0, 0))) ∧ Hid (wx.heap[g8]? = some (.cells #[.string ⟨name.toArray⟩, .string ⟨flags.toArray⟩, .int .i64 align, .int .i64 size, .slice p8 m8 r8, .slice ta mr tc] 38 (0, 0))) ∧ Hid (Below wr.heap.size wr wx))
          case first =>
            rename_i J1 K1 hJ1 hK1
            refine wp_region_held (S := SAb wr) (by kernel_rfl) ?_
            change wpAnyH _ _ _ _ _ 14 _ _ _
            have hb0 : Below wr.heap.size wr { wr with drawn := wr.drawn + 1 } := (Below.refl _ _).drew
            refine held_quiet (i := 0) (w0 := wr) rfl (by kernel_rfl) rfl rfl (fun _ _ _ _ h => h) hb0 ?_
            intro K hK
            go_big_quiet_op
            go_big_quiet_on
            refine held_quiet (i := 1) (w0 := wr) rfl (by kernel_rfl) rfl rfl (fun _ _ _ _ h => h) hb0 ?_
            intro K hK
            go_big_quiet_op
            go_big_quiet_on
            refine held_quiet (i := 2) (w0 := wr) rfl (by kernel_rfl) rfl rfl (fun _ _ _ _ h => h) hb0 ?_
            intro K hK
            go_big_quiet_op
            go_big_quiet_on
            refine held_quiet (i := 3) (w0 := wr) rfl (by kernel_rfl) rfl rfl (fun _ _ _ _ h => h) hb0 ?_
            intro K hK
            go_big_quiet_op
            go_big_quiet_on
            refine held_quiet (i := 4) (w0 := wr) rfl (by kernel_rfl) rfl rfl (fun _ _ _ _ h => h) hb0 ?_
            intro K hK
            go_big_quiet_op
            go_big_quiet_on
            refine held_quiet (i := 5) (w0 := wr) rfl (by kernel_rfl) rfl rfl (fun _ _ _ _ h => h) hb0 ?_
            intro K hK
            go_big_quiet_op
            go_big_quiet_on
            refine held_quiet (i := 6) (w0 := wr) rfl (by kernel_rfl) rfl rfl (fun _ _ _ _ h => h) hb0 ?_
            intro K hK
            go_big_quiet_op
            go_big_quiet_on
            refine held_quiet (i := 7) (w0 := wr) rfl (by kernel_rfl) rfl rfl (fun _ _ _ _ h => h) hb0 ?_
            intro K hK
            go_big_quiet_op
            go_big_quiet_on
            refine held_quiet (i := 8) (w0 := wr) rfl (by kernel_rfl) rfl rfl (fun _ _ _ _ h => h) hb0 ?_
            intro K hK
            go_big_quiet_op
            go_big_quiet_on
            refine held_quiet (i := 9) (w0 := wr) rfl (by kernel_rfl) rfl rfl (fun _ _ _ _ h => h) hb0 ?_
            intro K hK
            go_big_quiet_op
            go_big_quiet_on
            clear hAB
            refine wpAnyH_all (rs := [10, 11]) (by kernel_rfl) (by simp) ?_
            intro i hi
            simp only [List.mem_cons, List.not_mem_nil, or_false] at hi
            rcases hi with hi | hi
            · subst hi
              refine wpOp_of_list (i := 10) rfl ?_
              refine wpList_allocPart ?_
              intro wa hxa hba hsa
              refine ⟨hb0.trans (hba.mono hb0.size), ?_⟩
              refine wpAnyH_all (rs := [11]) (by kernel_rfl) (by simp) ?_
              intro i hi
              rw [List.mem_singleton] at hi
              subst hi
              refine wpOp_of_list (i := 11) rfl ?_
              refine wpList_allocPart ?_
              intro wb hxb hbb hsb
              have HAB0 := Lib.hid (hb0.trans ((hba.mono hb0.size).trans (hbb.mono (Nat.le_trans hb0.size hba.size))))
              refine ⟨HAB0.out, ?_⟩
              have HB7 := Lib.hid (heap_below hbb hxa)
              have HB8 := Lib.hid hxb
              have hge7 : wr.heap.size ≤ wr.heap.size := hb0.size
              have hge8 : wr.heap.size ≤ wa.heap.size := Nat.le_trans hb0.size hba.size
              have hne : ({ wr with drawn := wr.drawn + 1 } : World).heap.size < wa.heap.size := hsa
              clear hxa hxb hba hbb
              refine wpAnyH_all (rs := [12]) (by kernel_rfl) (by simp) ?_
              intro i hi
              rw [List.mem_singleton] at hi
              subst hi
              refine wpOp_of_list (i := 12) rfl ?_
              refine wpList_storeRowS HB7.out rfl rfl rfl (by kernel_rfl) (by simp [Value.oneCell']) ?_
              intro wc hhc hsc
              have HC7 := Lib.hid hhc
              have HC8 := Lib.hid (hsc.kept HB8.out (Nat.ne_of_gt hne))
              have HSC0 := Lib.hid (HAB0.out.trans (hsc.below HAB0.out.size (fun j hj => by rw [hj]; exact hge7)))
              refine ⟨HSC0.out, ?_⟩
              clear hhc hsc
              refine wpAnyH_all (rs := [13]) (by kernel_rfl) (by simp) ?_
              intro i hi
              rw [List.mem_singleton] at hi
              subst hi
              refine wpOp_of_list (i := 13) rfl ?_
              refine wpList_storeRowS HC8.out rfl rfl rfl (by kernel_rfl) (by simp [Value.oneCell']) ?_
              intro wy hhy hsy
              have HY8 := Lib.hid hhy
              have HY7 := Lib.hid (hsy.kept HC7.out (Nat.ne_of_lt hne))
              have HSY := Lib.hid (HSC0.out.trans (hsy.below HSC0.out.size (fun j hj => by rw [hj]; exact hge8)))
              refine ⟨HSY.out, ?_⟩
              clear hhy hsy hsa hsb
              refine wpAnyH_done (by kernel_rfl) ?_ _
              go_frame
              first
                | refine hK1 _ _ (Met.intro (hJ1 _ _ ?_))
                | refine Met.intro (hJ1 _ _ ?_)
              repeat apply Exists.intro
              refine ⟨?_, rfl⟩
              exact ⟨_, _, rfl, rfl, HY7, HY8, HSY⟩
            · subst hi
              refine wpOp_of_list (i := 11) rfl ?_
              refine wpList_allocPart ?_
              intro wa hxa hba hsa
              refine ⟨hb0.trans (hba.mono hb0.size), ?_⟩
              refine wpAnyH_all (rs := [10]) (by kernel_rfl) (by simp) ?_
              intro i hi
              rw [List.mem_singleton] at hi
              subst hi
              refine wpOp_of_list (i := 10) rfl ?_
              refine wpList_allocPart ?_
              intro wb hxb hbb hsb
              have HAB0 := Lib.hid (hb0.trans ((hba.mono hb0.size).trans (hbb.mono (Nat.le_trans hb0.size hba.size))))
              refine ⟨HAB0.out, ?_⟩
              have HB8 := Lib.hid (heap_below hbb hxa)
              have HB7 := Lib.hid hxb
              have hge8 : wr.heap.size ≤ wr.heap.size := hb0.size
              have hge7 : wr.heap.size ≤ wa.heap.size := Nat.le_trans hb0.size hba.size
              have hne : ({ wr with drawn := wr.drawn + 1 } : World).heap.size < wa.heap.size := hsa
              clear hxa hxb hba hbb
              refine wpAnyH_all (rs := [12]) (by kernel_rfl) (by simp) ?_
              intro i hi
              rw [List.mem_singleton] at hi
              subst hi
              refine wpOp_of_list (i := 12) rfl ?_
              refine wpList_storeRowS HB7.out rfl rfl rfl (by kernel_rfl) (by simp [Value.oneCell']) ?_
              intro wc hhc hsc
              have HC7 := Lib.hid hhc
              have HC8 := Lib.hid (hsc.kept HB8.out (Nat.ne_of_lt hne))
              have HSC0 := Lib.hid (HAB0.out.trans (hsc.below HAB0.out.size (fun j hj => by rw [hj]; exact hge7)))
              refine ⟨HSC0.out, ?_⟩
              clear hhc hsc
              refine wpAnyH_all (rs := [13]) (by kernel_rfl) (by simp) ?_
              intro i hi
              rw [List.mem_singleton] at hi
              subst hi
              refine wpOp_of_list (i := 13) rfl ?_
              refine wpList_storeRowS HC8.out rfl rfl rfl (by kernel_rfl) (by simp [Value.oneCell']) ?_
              intro wy hhy hsy
              have HY8 := Lib.hid hhy
              have HY7 := Lib.hid (hsy.kept HC7.out (Nat.ne_of_gt hne))
              have HSY := Lib.hid (HSC0.out.trans (hsy.below HSC0.out.size (fun j hj => by rw [hj]; exact hge8)))
              refine ⟨HSY.out, ?_⟩
              clear hhy hsy hsa hsb
              refine wpAnyH_done (by kernel_rfl) ?_ _
              go_frame
              first
                | refine hK1 _ _ (Met.intro (hJ1 _ _ ?_))
                | refine Met.intro (hJ1 _ _ ?_)
              repeat apply Exists.intro
              refine ⟨?_, rfl⟩
              exact ⟨_, _, rfl, rfl, HY7, HY8, HSY⟩
          case rest =>
            obtain ⟨g7, g8, rfl, rfl, HY7, HY8, HSY⟩ := hcut
            obtain ⟨wy, rfl⟩ : ∃ wy : World, wy = wc := ⟨_, rfl⟩
            have HWY := Lib.hid (HWj.out.trans (HSY.out.mono HWj.out.size))
            have HBY := Lib.hid (HBj.out.trans (HSY.out.mono HBj.out.size))
            have hk1 := run_str (HDV.out.mono HBY.out)
            have hk2 := run_str (HDU.out.mono HBY.out)
            clear hAB c1 d1 e0 e1 e2 e3 e4 e5 f0 f1 f2 f3 f4 f5 n1 n2 n3 n4
            obtain ⟨c0, c1, c2, c3, c4, c5⟩ := part_box (x := (⟨name, flags, align, size, data, relas⟩, .slice p9 m8 r9, .slice ra mr rc)) HY7.out
            obtain ⟨d0, d1, d2, d3, d4, d5⟩ := part_box (x := (⟨name, flags, align, size, data, relas⟩, .slice p8 m8 r8, .slice ta mr tc)) HY8.out
            dsimp only at c0 c1 c2 c3 c4 c5 d0 d1 d2 d3 d4 d5 hk1 hk2
            go_wp2
            clear c0 c1 c2 c3 c4 d0 d1 d2 d3 d4 hk1 hk2
            go_loopw [9] (fun i wr => ∃ k : Nat, i = .int .i64 k ∧ k ≤ mr ∧ Hid (Below wy.heap.size wy wr)) (fun i _ => mr - (intOf i).toNat)
            case atStart => exact ⟨0, rfl, Nat.zero_le _, Below.refl _ _⟩
            case round =>
              obtain ⟨q, rfl, hq, HWq⟩ := hrel
              have HBq := Lib.hid (HBY.out.trans (HWq.out.mono HBY.out.size))
              obtain ⟨c0, c1, c2, c3, c4, c5⟩ := part_box (x := (⟨name, flags, align, size, data, relas⟩, .slice p9 m8 r9, .slice ra mr rc)) (heap_below HWq.out HY7.out)
              obtain ⟨d0, d1, d2, d3, d4, d5⟩ := part_box (x := (⟨name, flags, align, size, data, relas⟩, .slice p8 m8 r8, .slice ta mr tc)) (heap_below HWq.out HY8.out)
              clear c0 c1 c2 c3 c4 d0 d1 d2 d3 d4
              dsimp only at c5 d5
              by_cases hlt3 : q < mr
              · obtain ⟨x, hx⟩ : ∃ x, relas[q]? = some x := ⟨_, List.getElem?_eq_getElem (by have := HMR.out; omega)⟩
                obtain ⟨b1, o1, rfl, e0, e1, e2, e3, -⟩ := rela_cells HR.out HBq.out hx
                obtain ⟨b2, o2, rfl, f0, f1, f2, f3, -⟩ := rela_cells HT.out HBq.out hx
                clear hx
                go_wp2
                refine wp_region_quiet_lit (by kernel_rfl) (by kernel_rfl) ?_
                repeat (first
                  | ((with_reducible show wpQuiet _ _ _ _ (⟨some 129, _, _, _, _, _⟩ :: _) _); refine wpQuiet_run rfl (by rintro _ ⟨n, rfl⟩; exact run_bin rfl rfl (neq_rela x x _ _ _)) ?_)
                  | quiet_step (fail))
                refine wpQuiet_nil ?_
                rintro _ ⟨nq, rfl⟩
                rw [show (!decide (x = x)) = false by simp]
                go_wp2
                go_roundw
                case rel =>
                  first
                    | exact ⟨q + 1, by go_num, by omega, HWq.out.drewN _⟩
                    | ((repeat apply Exists.intro); exact ⟨⟨q + 1, by go_num, by omega, HWq.out.drewN _⟩, rfl⟩)
                case measure => simp [intOf] <;> omega
              · obtain rfl : q = mr := by omega
                go_wp2
                go_roundw
                case rel => exact ⟨j + 1, by go_num, by omega, HWY.out.trans (HWq.out.mono HWY.out.size)⟩
                case measure => simp [intOf] <;> omega
        · obtain rfl : j = np := by omega
          go_wp2
          go_ret
          exact ⟨rfl, HBj.out⟩
end Go.Proofs.YtimnbnomaajmmaaGreat
namespace Go.Proofs.YtimnbnomaajmmaaGreat
open Go.RowKit Go.Fd
/-- A row's block, whatever it holds. -/
def RowR (w : World) (g n : Nat) (t : TypeId) : Prop := ∃ c : Array Value, w.heap[g]? = some (.cells c t (0, 0)) ∧ c.size = n
theorem RowR.cells {g n : Nat} {t : TypeId} : ∀ (vs : List Value) (o : Nat) (w : World), RowR w g n t → RowR (w.setCells g o vs) g n t
  | [], _, _, h => h
  | v :: r, o, w, ⟨c, h, hn⟩ => RowR.cells r (o + 1) _ ⟨c.setIfInBounds o v, by simp [World.setCell, Array.getElem?_modify, h], by simp [hn]⟩
theorem stirs_cells (g : Nat) : ∀ (vs : List Value) (o : Nat) (w : World), Stirs (fun k => k = g) w (w.setCells g o vs)
  | [], _, w => Stirs.refl _ w
  | v :: r, o, w => (stirs_setCell (S := fun k => k = g) w g o v rfl).trans (stirs_cells g r (o + 1) _) fun _ _ h => h
theorem own_room {w : World} {base e size n : Nat} {v : Value} {xs : List Value} (h : w.ownsRow base e size v n xs) : ∀ g, v.ownBlock = some g → ∃ c, n * size ≤ c ∧ RowR w g c e := by
  intro g hg
  rcases h.2 with ⟨rfl, _⟩ | ⟨g', cap, cur, rfl, _, hh, h1, _, h2, _⟩
  · cases hg
  · cases hg
    exact ⟨cap * size, Nat.mul_le_mul_right _ h1, cur, hh, h2⟩
/-- A record into a row. -/
theorem wpList_setRec {P : Program} {ops : Array Oper} {rest : List Oper} {Q : Exit → Act → World → Prop} {a : Act} {w : World} {d : Option Tmp} {ty t : TypeId} {pos : String} {aft : Array Edge} {p x : Operand} {c' : Array Value} {g o n : Nat} (hm : RowR w g n t) (ho : o + c'.size ≤ n) (hp : a.eval p = .pointer (some ⟨g, o, none⟩)) (hx : a.eval x = .agg c') (hs : (P.info? t).map (·.size) = some c'.size) (h1 : c'.all (·.oneCell') = true)
    (h : ∀ w1, RowR w1 g n t → Stirs (fun k => k = g) w w1 → wpList P ops Q rest (a.put d undef) w1) :
    wpList P ops Q (⟨d, .store t p x, ty, pos, aft, none⟩ :: rest) a w := by
  obtain ⟨c, hc, hn⟩ := hm
  have ht : w.there g o c'.size := by
    intro j hj
    refine ⟨?_, free_rec' hc (o + j)⟩
    rw [cell_rec hc (o + j), Array.getElem?_eq_getElem (by omega)]
    rfl
  have hr : (execOp a.eval ⟨d, .store t p x, ty, pos, aft, none⟩).run P w = .ok .skip (w.setCells g o c'.toList) := by
    simp only [execOp, hp, hx, Instr.storeAt, Instr.sureAddr, Sem.run_bind, Sem.run_pure, Result.andThen, run_storeVar_mid w g o t c' ht hs h1]
  exact wpList_did rfl hr (h _ (RowR.cells _ o w ⟨c, hc, hn⟩) (stirs_cells g _ o w))
/-- Blocks of the first parts' bytes and relocations. -/
def SpO (L : List (PartM × Value × Value)) (i : Nat) (k : Nat) : Prop := ∃ p ∈ L.take i, p.2.1.ownBlock = some k ∨ p.2.2.ownBlock = some k
section
variable {w : World} {base : Nat} {o : ObjM} {L : List (PartM × Value × Value)} {pv sv : Value}
theorem SpO.ge (h : ObjOwn w base o L pv sv) {i k : Nat} (hk : SpO L i k) : base ≤ k := by
  obtain ⟨p, hp, hk | hk⟩ := hk
  · exact (World.ownsRow.lt (h.data p (List.mem_of_mem_take hp)) k hk).1
  · exact (World.ownsRow.lt (h.rela p (List.mem_of_mem_take hp)) k hk).1
theorem SpO.kind (h : ObjOwn w base o L pv sv) {i k : Nat} (hk : SpO L i k) : (∃ c fz, w.heap[k]? = some (.cells c 5 fz)) ∨ ∃ c fz, w.heap[k]? = some (.cells c 57 fz) := by
  obtain ⟨p, hp, hk | hk⟩ := hk
  · exact .inl (own_kind (h.data p (List.mem_of_mem_take hp)) k hk)
  · exact .inr (own_kind (h.rela p (List.mem_of_mem_take hp)) k hk)
/-- A block of another type is none of those. -/
theorem SpO.not (h : ObjOwn w base o L pv sv) {i k : Nat} {c : Array Value} {t : TypeId} {fz : Nat × Nat} (hk : w.heap[k]? = some (.cells c t fz)) (h1 : t ≠ 5) (h2 : t ≠ 57) : ¬ SpO L i k := fun hS => by
  rcases SpO.kind h hS with ⟨c1, f1, e⟩ | ⟨c1, f1, e⟩
  · rw [hk] at e
    simp only [Option.some.injEq, Obj.cells.injEq] at e
    exact h1 e.2.1
  · rw [hk] at e
    simp only [Option.some.injEq, Obj.cells.injEq] at e
    exact h2 e.2.1
theorem SpO.pair {R : (PartM × Value × Value) → (PartM × Value × Value) → Prop} (ha : L.Pairwise R) {i : Nat} {p q : PartM × Value × Value} (hp : L[i]? = some p) (hq : q ∈ L.take i) : R q p := by
  obtain ⟨j, hj⟩ := List.mem_iff_getElem?.1 hq
  rw [List.getElem?_take] at hj
  split at hj
  · next hji =>
    obtain ⟨h1, h2⟩ := List.getElem?_eq_some_iff.1 hj
    obtain ⟨h3, h4⟩ := List.getElem?_eq_some_iff.1 hp
    have := List.pairwise_iff_getElem.1 ha j i h1 h3 hji
    rw [h2, h4] at this
    exact this
  · cases hj
theorem SpO.data (h : ObjOwn w base o L pv sv) {i : Nat} {p : PartM × Value × Value} (hp : L[i]? = some p) : ∀ k, p.2.1.ownBlock = some k → ¬ SpO L i k := by
  rintro k hk ⟨q, hq, hk2 | hk2⟩
  · exact SpO.pair h.apd hp hq k hk2 hk
  · exact Go.Fd.own_apart (h.data p (List.mem_of_getElem? hp)) (h.rela q (List.mem_of_mem_take hq)) (by decide) hk hk2
theorem SpO.rela (h : ObjOwn w base o L pv sv) {i : Nat} {p : PartM × Value × Value} (hp : L[i]? = some p) : ∀ k, p.2.2.ownBlock = some k → ¬ SpO L i k := by
  rintro k hk ⟨q, hq, hk2 | hk2⟩
  · exact Go.Fd.own_apart (h.rela p (List.mem_of_getElem? hp)) (h.data q (List.mem_of_mem_take hq)) (by decide) hk hk2
  · exact SpO.pair h.apr hp hq k hk2 hk
theorem SpO.step {i : Nat} {p : PartM × Value × Value} (hp : L[i]? = some p) {k : Nat} (h : SpO L i k ∨ p.2.1.ownBlock = some k ∨ p.2.2.ownBlock = some k) : SpO L (i + 1) k := by
  rw [SpO, List.take_add_one, hp]
  rcases h with ⟨q, hq, hk⟩ | h
  · exact ⟨q, List.mem_append_left _ hq, hk⟩
  · exact ⟨p, by simp, h⟩
end
set_option maxHeartbeats 8000000 in
set_option maxRecDepth 100000 in
theorem spoil17_any (o : ObjM) (L : List (PartM × Value × Value)) (pv sv : Value) (base : Nat) (w : World) (h : ObjOwn w base o L pv sv) (hok : ObjOk o) (hbase : base ≤ w.heap.size) :
    Calls Tryz.prog 10 #[objV o pv sv] w fun r w' => r = .returned (.tuple #[]) ∧ Below base w w' := by
  have HD := Lib.hid (fun p (hp : p ∈ L) => (⟨by have := hok.data p.1 (by rw [h.parts]; exact List.mem_map_of_mem hp); omega, (hok.wf.relas p.1 (by rw [h.parts]; exact List.mem_map_of_mem hp)).1⟩ : p.1.data.length ≤ 1000000000 ∧ p.1.relas.length ≤ 1000))
  have hm1 := hok.many
  have hm2 := hok.wf.many
  rw [h.parts, List.length_map] at hm1
  have HH := Lib.hid h
  obtain ⟨np, pa, pc, hnp, rfl, hpc, _⟩ := h.po.rd.shape
  obtain ⟨ny, ya, yc, hny, rfl, hyc, _⟩ := h.so.rd.shape
  have HNP : Hid (L.length = np) := hnp.symm
  have HNY : Hid (o.syms.length = ny) := hny.symm
  have hnp9 : np ≤ 1000 := by have := HNP.out; omega
  have hny9 : ny ≤ 1000 := by have := HNY.out; omega
  clear h hok hnp hny hm1 hm2
  go_enter Tryz.func10, Tryz.ntmps10
  go_wp2_with ((with_reducible show wpList _ _ _ (⟨some 1, .box _ _, _, _, _, _⟩ :: _) _ _); go_must (refine wpList_box rfl ?_; intro w1 hx1 hb1 hs1; have HX1 := Lib.hid (show w1.heap[w.heap.size]? = some (.cells #[.int .i64 o.target, .slice pa np pc, .slice ya ny yc] 28 (0, 0)) from hx1); have HB1 := Lib.hid hb1; have HO1 := Lib.hid (HH.out.mono hb1); clear hx1 hb1))
  go_loopw [2] (fun i wr => ∃ k : Nat, i = .int .i64 k ∧ k ≤ np ∧ Hid (Stirs (SpO L k) w1 wr)) (fun i _ => np - (intOf i).toNat)
  case atStart => exact ⟨0, rfl, Nat.zero_le _, Stirs.refl _ _⟩
  case round =>
    obtain ⟨k, rfl, hk, HST⟩ := hrel
    have HXR := Lib.hid (HST.out.kept HX1.out (SpO.not HO1.out HX1.out (by decide) (by decide)))
    have HPR := Lib.hid (OwR.rd (owns_stirs HO1.out.po HST.out (fun k hk hS => by
      obtain ⟨c2, fz2, h2⟩ := own_kind HO1.out.po k hk
      exact SpO.not HO1.out h2 (by decide) (by decide) hS)))
    obtain ⟨c0, c1, c2⟩ := obj_box HXR.out
    by_cases hlt : k < np
    · obtain ⟨x, hx⟩ : ∃ x, L[k]? = some x := ⟨_, List.getElem?_eq_getElem (by have := HNP.out; omega)⟩
      have X1 := Lib.hid hx
      have HDX := Lib.hid (owns_stirs (HO1.out.data x (List.mem_of_getElem? hx)) HST.out (SpO.data HO1.out hx))
      have HRX := Lib.hid (show OwR 4 encRela 57 wr base x.2.2 x.1.relas from owns_stirs (HO1.out.rela x (List.mem_of_getElem? hx)) HST.out (SpO.rela HO1.out hx))
      have HDN := Lib.hid (HD.out x (List.mem_of_getElem? hx))
      obtain ⟨a9, ca9, hsv, -, -, hc⟩ := HPR.out.open (fun _ => rfl)
      have e1 : pa = a9 := by injection hsv
      subst e1
      obtain ⟨b1, o1, rfl, z0, z1, z2, z3, z4, z5, -⟩ := part_cells hc (Below.refl _ _) hx
      clear hc hsv z0 z1 z2 z3 hx
      obtain ⟨p, dv, rv⟩ := x
      obtain ⟨dm, da, dc, -, hdv, _, _⟩ := (OB.shape HDX.out)
      obtain ⟨rm, ra, rc, hrm, hrv, _, _⟩ := HRX.out.shape
      dsimp only at *
      subst hdv hrv
      go_wp2_with fail
      refine (spoil_any p.data _ _ _ HDN.out.1 HDX.out).mono ?_
      rintro r wy ⟨rfl, hgr⟩
      have HSY := Lib.hid (show Stirs (SpO L (k + 1)) w1 wy from (HST.out.sub (fun k _ hk => SpO.step X1.out (.inl hk))).trans (Stirs.of_grown (S := fun k => (Value.slice da dm dc).ownBlock = some k) hgr (fun k hk => hk)) (fun k _ hk => SpO.step X1.out (.inr (.inl hk))))
      have HRY := Lib.hid (show OwR 4 encRela 57 wy base (.slice ra rm rc) p.relas from owns_grown HRX.out hgr (fun k hk hk2 => Go.Fd.own_apart HRX.out HDX.out (by decide) hk hk2))
      have HRM := Lib.hid (fun (n : Nat) (hn : n < rm) => own_form HRY.out (by have := hrm.out; omega))
      have HRO := Lib.hid (fun g hg => own_room HRY.out g hg)
      rw [← hrm.out] at HRO
      have hrm9 : rm ≤ 1000 := by have := hrm.out; have := HDN.out.2; omega
      clear hgr z4 z5 c0 c1 c2
      go_wp2
      go_loopw [3] (fun i wx => ∃ j : Nat, i = .int .i64 j ∧ j ≤ rm ∧ Hid (Stirs (SpO L (k + 1)) w1 wx) ∧ Hid (∀ g, (Value.slice ra rm rc).ownBlock = some g → ∃ c, rm * 4 ≤ c ∧ RowR wx g c 57)) (fun i _ => rm - (intOf i).toNat)
      case atStart => exact ⟨0, rfl, Nat.zero_le _, HSY, HRO⟩
      case round =>
        obtain ⟨j, rfl, hj, HSX, HRR⟩ := hrel
        have HXX := Lib.hid (HSX.out.kept HX1.out (SpO.not HO1.out HX1.out (by decide) (by decide)))
        have HPX := Lib.hid (OwR.rd (owns_stirs HO1.out.po HSX.out (fun k hk hS => by
          obtain ⟨c2, fz2, h2⟩ := own_kind HO1.out.po k hk
          exact SpO.not HO1.out h2 (by decide) (by decide) hS)))
        obtain ⟨c0, c1, c2⟩ := obj_box HXX.out
        obtain ⟨a9, ca9, hsv, -, -, hc⟩ := HPX.out.open (fun _ => rfl)
        have e1 : some ⟨b1, o1, none⟩ = a9 := by injection hsv
        subst e1
        obtain ⟨b2, o2, hbo, z0, z1, z2, z3, z4, z5, -⟩ := part_cells hc (Below.refl _ _) X1.out
        cases hbo
        clear hc hsv z0 z1 z2 z3 z4
        dsimp only at *
        by_cases hjl : j < rm
        · obtain ⟨rg, cap', hform⟩ := HRM.out j hjl
          simp only [Value.slice.injEq] at hform
          obtain ⟨rfl, -, -⟩ := hform
          obtain ⟨cc, hcc, hrow⟩ := HRR.out rg rfl
          have HCC := Lib.hid hcc
          have HRW := Lib.hid hrow
          clear hcc hrow cap'
          go_wp2_with ((with_reducible show wpList _ _ _ (⟨none, .store _ (.tmp 38) _, _, _, _, _⟩ :: _) _ _); go_must (refine wpList_setRec (o := j * 4) HRW.out (by have := HCC.out; simp; omega) rfl rfl (by kernel_rfl) (by simp [Value.oneCell']) ?_; intro wz hrz hsz; have HRZ := Lib.hid hrz; have HSZ := Lib.hid hsz; clear hrz hsz))
          exact ⟨⟨j + 1, rfl, by omega, HSX.out.trans HSZ.out (fun k _ hk => SpO.step X1.out (.inr (.inr (by rw [hk]; rfl)))), (fun g hg => by cases hg; exact ⟨cc, HCC.out, HRZ.out⟩)⟩, by simp [intOf]; omega⟩
        · obtain rfl : j = rm := by omega
          go_wp2
          exact ⟨⟨k + 1, rfl, by omega, HSX⟩, by simp [intOf]; omega⟩
    · obtain rfl : k = np := by omega
      have HSO := Lib.hid (show OwR 6 encSym 41 wr base (.slice ya ny yc) o.syms from owns_stirs HO1.out.so HST.out (fun k hk hS => by
        obtain ⟨c2, fz2, h2⟩ := own_kind HO1.out.so k hk
        exact SpO.not HO1.out h2 (by decide) (by decide) hS))
      have HYM := Lib.hid (fun (n : Nat) (hn : n < ny) => own_form HSO.out (by have := HNY.out; omega))
      have HYO := Lib.hid (fun g hg => own_room HSO.out g hg)
      rw [HNY.out] at HYO
      have HYB := Lib.hid (fun g hg => (World.ownsRow.lt HSO.out g hg).1)
      have HYN := Lib.hid (fun g (hg : (Value.slice ya ny yc).ownBlock = some g) => show g ≠ w.heap.size from fun e => by
        obtain ⟨c2, fz2, h2⟩ := own_kind HSO.out g hg
        rw [e, HXR.out] at h2
        cases h2)
      have HB := Lib.hid (show Below base w wr from (HB1.out.mono hbase).trans (HST.out.below (Nat.le_trans hbase HB1.out.size) (fun k hk => SpO.ge HO1.out hk)))
      have hbr : base ≤ wr.heap.size := Nat.le_trans hbase HB.out.size
      go_wp2
      clear c0 c1 c2
      obtain ⟨wo, rfl⟩ : ∃ wo : World, wo = wr := ⟨_, rfl⟩
      go_loopw [4] (fun i wx => ∃ j : Nat, i = .int .i64 j ∧ j ≤ ny ∧ Hid (Below base w wx) ∧ Hid (base ≤ wx.heap.size) ∧ Hid (wx.heap[w.heap.size]? = some (.cells #[.int .i64 o.target, .slice pa k pc, .slice ya ny yc] 28 (0, 0))) ∧ Hid (∀ g, (Value.slice ya ny yc).ownBlock = some g → ∃ c, ny * 6 ≤ c ∧ RowR wx g c 41)) (fun i _ => ny - (intOf i).toNat)
      case atStart => exact ⟨0, rfl, Nat.zero_le _, HB, hbr, HXR, HYO⟩
      case round =>
        obtain ⟨j, rfl, hj, HBX, HBS, HXX, HRR⟩ := hrel
        obtain ⟨c0, c1, c2⟩ := obj_box HXX.out
        by_cases hjl : j < ny
        · obtain ⟨rg, cap', hform⟩ := HYM.out j hjl
          simp only [Value.slice.injEq] at hform
          obtain ⟨rfl, -, -⟩ := hform
          obtain ⟨cc, hcc, hrow⟩ := HRR.out rg rfl
          have HCC := Lib.hid hcc
          have HRW := Lib.hid hrow
          clear hcc hrow cap'
          go_wp2_with ((with_reducible show wpList _ _ _ (⟨none, .store _ (.tmp 50) _, _, _, _, _⟩ :: _) _ _); go_must (refine wpList_setRec (o := j * 6) HRW.out (by have := HCC.out; simp; omega) rfl rfl (by kernel_rfl) (by simp [Value.oneCell']) ?_; intro wz hrz hsz; have HRZ := Lib.hid hrz; have HSZ := Lib.hid hsz; clear hrz hsz))
          have HBZ := Lib.hid (HBX.out.trans (HSZ.out.below HBS.out (fun k hk => by rw [hk]; exact HYB.out rg rfl)))
          exact ⟨⟨j + 1, rfl, by omega, HBZ, Nat.le_trans hbase HBZ.out.size, HSZ.out.kept HXX.out (fun e => HYN.out rg rfl e.symm), (fun g hg => by cases hg; exact ⟨cc, HCC.out, HRZ.out⟩)⟩, by simp [intOf]; omega⟩
        · obtain rfl : j = ny := by omega
          go_wp2
          go_end0
          exact ⟨rfl, HBX.out⟩
end Go.Proofs.YtimnbnomaajmmaaGreat
namespace Go.Proofs.YtimnbnomaajmmaaGreat
open Go.RowKit Go.Fd
def p17 : PartM := ⟨[46, 116, 101, 120, 116], [97, 120], 2, 2, [1, 0], []⟩
def s17 : SymM := ⟨[102], 1, 0, 1, 0, 0⟩
def o17 : ObjM := ⟨3, [p17], [s17]⟩
theorem o17_may : mayO o17 = 0 := by decide +kernel
theorem o17_elf : mayE (elfO o17) = true ∧ (fileB (elfO o17)).length ≤ 24000 := by decide +kernel
theorem o17_file : fileO o17 = (fileB (elfO o17), 0) := by unfold fileO; rw [if_neg (by rw [o17_may]; simp), if_pos o17_elf.1]
theorem o17_ok : ObjOk o17 :=
  ⟨⟨⟨by decide, by decide⟩, fun p hp => (by rw [List.mem_singleton.1 hp]; exact ⟨⟨by decide, by decide⟩, ⟨by decide, by decide⟩, by decide⟩), fun p hp => (by rw [List.mem_singleton.1 hp]; exact ⟨Nat.zero_le _, fun x hx => by cases hx⟩), by decide, fun s hs => (by rw [List.mem_singleton.1 hs]; exact ⟨by decide, by decide⟩)⟩, by decide, fun p hp => (by rw [List.mem_singleton.1 hp]; exact ⟨by decide, by decide⟩), fun p hp => (by rw [List.mem_singleton.1 hp]; decide), fun s hs => (by rw [List.mem_singleton.1 hs]; decide)⟩
theorem o17_read : readO (fun l => modP l [] []) (fileB (elfO o17)) = (o17, 0) := (read_obj o17_ok.wf o17_file).1
theorem obj0_may : mayO objNo = 11 := by decide +kernel
theorem run_oneSymS {x : Operand} {s : SymM} {a : Act} {w : World} {d : Option Tmp} {ty : TypeId} {pos : String} {aft : Array Edge} {g : Option (Nat × Bool)} (hx : a.eval x = .agg (encSym s).toArray) :
    (execOp a.eval ⟨d, .buildSlice 26 1 #[(0, x)], ty, pos, aft, g⟩).run Tryz.prog w = .ok (.value (.slice (some ⟨w.heap.size, 0, none⟩) 1 1)) (w.alloc (.cells (encSym s).toArray 41)) := by
  simp only [execOp, List.map_toArray, List.map_cons, List.map_nil, hx]
  kernel_rfl
theorem wpList_lit10 {ops : Array Oper} {rest : List Oper} {Q : Exit → Act → World → Prop} {a : Act} {w : World} {d : Option Tmp} {ty : TypeId} {pos : String} {aft : Array Edge}
    (h : ∀ w1, Bs w1 (.slice (some ⟨w.heap.size, 0, none⟩) 2 2) [1, 0] → Below w.heap.size w w1 → wpList Tryz.prog ops Q rest (a.put d (.slice (some ⟨w.heap.size, 0, none⟩) 2 2)) w1) :
    wpList Tryz.prog ops Q (⟨d, .buildSlice 22 2 #[(0, .const (.int .u8 1)), (1, .const (.int .u8 0))], ty, pos, aft, none⟩ :: rest) a w :=
  wpList_val rfl (w' := w.alloc (.cells #[.int .u8 1, .int .u8 0] 5)) (by kernel_rfl) (h _ (bs_lit w [1, 0] _ 2 rfl rfl) (below_alloc w _))
theorem wpList_litPart {ops : Array Oper} {rest : List Oper} {Q : Exit → Act → World → Prop} {a : Act} {w : World} {d : Option Tmp} {ty : TypeId} {pos : String} {aft : Array Edge} {x : Operand} {p : PartM} {d1 d2 : Option Addr} {m c m2 c2 : Nat} (hx : a.eval x = partV (p, .slice d1 m c, .slice d2 m2 c2))
    (h : ∀ w1, RdR 6 encPart w1 (.slice (some ⟨w.heap.size, 0, none⟩) 1 1) [(p, Value.slice d1 m c, Value.slice d2 m2 c2)] → Below w.heap.size w w1 → wpList Tryz.prog ops Q rest (a.put d (.slice (some ⟨w.heap.size, 0, none⟩) 1 1)) w1) :
    wpList Tryz.prog ops Q (⟨d, .buildSlice 25 1 #[(0, x)], ty, pos, aft, none⟩ :: rest) a w :=
  wpList_val rfl (run_onePart hx) (h _ (rd_one rfl (heap_alloc_last w _) rfl) (below_alloc w _))
theorem wpList_litSym {ops : Array Oper} {rest : List Oper} {Q : Exit → Act → World → Prop} {a : Act} {w : World} {d : Option Tmp} {ty : TypeId} {pos : String} {aft : Array Edge} {x : Operand} {s : SymM} (hx : a.eval x = .agg (encSym s).toArray)
    (h : ∀ w1, RdR 6 encSym w1 (.slice (some ⟨w.heap.size, 0, none⟩) 1 1) [s] → Below w.heap.size w w1 → wpList Tryz.prog ops Q rest (a.put d (.slice (some ⟨w.heap.size, 0, none⟩) 1 1)) w1) :
    wpList Tryz.prog ops Q (⟨d, .buildSlice 26 1 #[(0, x)], ty, pos, aft, none⟩ :: rest) a w :=
  wpList_val rfl (run_oneSymS hx) (h _ (rd_one rfl (heap_alloc_last w _) rfl) (below_alloc w _))
theorem objNo_at (w : World) : ObjAt w objNo [] (.slice none 0 0) (.slice none 0 0) := (ObjOwn.zero w 0).at
set_option maxHeartbeats 8000000 in
set_option maxRecDepth 100000 in
theorem begun17_any (w : World) : Calls Tryz.prog 4 #[] w fun e w' => e = .returned (.bool true) ∧ Below w.heap.size w w' := by
  have HMY : Hid (∀ L pv sv wx, ObjAt wx o17 L pv sv → Calls Tryz.prog 13 #[objV o17 pv sv] wx fun e w' => e = .returned (.int .i64 0) ∧ Below wx.heap.size wx w') := Lib.hid (fun L pv sv wx h => by have := may6_any o17 L pv sv wx h o17_ok; rwa [o17_may] at this)
  have HM0 : Hid (∀ wx, Calls Tryz.prog 13 #[.agg objZ] wx fun e w' => e = .returned (.int .i64 11) ∧ Below wx.heap.size wx w') := Lib.hid (fun wx => by have := may6_any objNo [] _ _ wx (objNo_at wx) objNo_ok; rwa [obj0_may] at this)
  have HFI : Hid (∀ L pv sv wx, ObjAt wx o17 L pv sv → Calls Tryz.prog 11 #[objV o17 pv sv] wx fun e w' => (∃ a n c, e = .returned (.tuple #[.slice a n c, .int .i64 0]) ∧ Bs w' (.slice a n c) (fileB (elfO o17))) ∧ Below wx.heap.size wx w') := Lib.hid (fun L pv sv wx h1 => (file6_any o17 L pv sv wx h1 o17_ok).mono fun r w' ⟨v, h2, h3, h4⟩ => by
    rw [o17_file] at h2 h3
    obtain ⟨n, a, c, -, rfl, -, -⟩ := h3.shape
    exact ⟨⟨a, n, c, h2, h3.bs⟩, h4⟩)
  have HRD : Hid (∀ v wx, Bs wx v (fileB (elfO o17)) → Calls Tryz.prog 6 #[v] wx fun r w' => (∃ PL a1 c1 a2 c2, r = .returned (.tuple #[.agg #[.int .i64 3, .slice a1 1 c1, .slice a2 1 c2], .int .i64 0]) ∧ ObjAt w' o17 PL (.slice a1 1 c1) (.slice a2 1 c2)) ∧ Below wx.heap.size wx w') := Lib.hid (fun v wx h => (read6_any _ v wx o17_elf.2 h).mono fun r w' ⟨⟨PL, pv, sv, h1, h2⟩, h3⟩ => by
    rw [o17_read] at h1 h2
    have hl : PL.length = 1 := by have := congrArg List.length h2.parts; rw [List.length_map] at this; exact this.symm
    obtain ⟨n1, a1, c1, hn1, rfl, -, -⟩ := h2.po.shape
    obtain ⟨n2, a2, c2, hn2, rfl, -, -⟩ := h2.so.shape
    have e1 : n1 = 1 := hn1.out.trans hl
    have e2 : n2 = 1 := hn2.out.trans rfl
    subst e1 e2
    exact ⟨⟨PL, a1, c1, a2, c2, h1, h2.at⟩, h3⟩)
  have HDF : Hid (∀ L pv sv wx, ObjAt wx o17 L pv sv → Calls Tryz.prog 12 #[objV o17 pv sv] wx fun e w' => (∃ b o c, e = .returned (.slice (some ⟨b, o, none⟩) 1 c) ∧ w'.cell? ⟨b, o, none⟩ = some (.string ⟨#[102]⟩)) ∧ Below wx.heap.size wx w') := Lib.hid (fun L pv sv wx h => (defined6_any o17 L pv sv wx h (by decide)).mono fun r w' ⟨⟨a, n, c, h1, h2⟩, h3⟩ => by
    have hd : definedO o17.syms = [[102]] := by decide
    rw [hd] at h2
    obtain ⟨a', c', e1, -, -, h4⟩ := h2.rd.open []
    cases e1
    obtain ⟨b, off, rfl, h5⟩ := h4 0 (by decide)
    exact ⟨⟨b, off, c, h1, h5⟩, h3⟩)
  go_enter Tryz.func4, Tryz.ntmps4
  go_wp2_with (first
    | ((with_reducible show wpList _ _ _ (⟨some 7, _, _, _, _, _⟩ :: _) _ _); go_must (refine wpList_lit10 ?_; intro w1 hd1 hb1; have HD1 := Lib.hid hd1; have HB1 := Lib.hid hb1; clear hd1 hb1))
    | ((with_reducible show wpList _ _ _ (⟨some 9, _, _, _, _, _⟩ :: _) _ _); go_must (refine wpList_litPart (p := p17) rfl ?_; intro w2 hp2 hb2; have HP2 := Lib.hid hp2; have HD2 := Lib.hid (HD1.out.mono hb2); have HB2 := Lib.hid (HB1.out.trans (hb2.mono HB1.out.size)); clear hp2 hb2))
    | ((with_reducible show wpList _ _ _ (⟨some 11, _, _, _, _, _⟩ :: _) _ _); go_must (refine wpList_litSym (s := s17) rfl ?_; intro w3 hy3 hb3; have HO3 := Lib.hid (show ObjAt w3 o17 [(p17, Value.slice (some ⟨w.heap.size, 0, none⟩) 2 2, Value.slice none 0 0)] (.slice (some ⟨w1.heap.size, 0, none⟩) 1 1) (.slice (some ⟨w2.heap.size, 0, none⟩) 1 1) from ⟨rfl, HP2.out.mono hb3, (fun p hp => by rw [List.mem_singleton] at hp; subst hp; exact HD2.out.mono hb3), (fun p hp => by rw [List.mem_singleton] at hp; subst hp; exact RdR.nil _ _ _), hy3⟩); have HB3 := Lib.hid (HB2.out.trans (hb3.mono HB2.out.size)); clear hy3 hb3))
    | ((with_reducible show wpList _ _ _ (⟨some 1, .alloc _, _, _, _, _⟩ :: _) _ _); go_must (refine wpList_allocObj ?_; intro w4 hx4 hb4 hs4; have HX4 := Lib.hid hx4; have HB4 := Lib.hid hb4; clear hx4 hb4))
    | ((with_reducible show wpList _ _ _ (⟨none, .store _ (.tmp 1) _, _, _, _, _⟩ :: _) _ _); go_must (refine wpList_storeMade HX4.out rfl rfl (by kernel_rfl) rfl (by simp [Value.oneCell']) (Nat.le_refl _) (Nat.le_of_lt hs4) ?_; intro w5 hh5 hb5; have HX5 := Lib.hid hh5; have HO5 := Lib.hid (HO3.out.mono (HB4.out.trans hb5)); have HB5 := Lib.hid (HB3.out.trans ((HB4.out.trans hb5).mono HB3.out.size)); obtain ⟨c0, c1, c2⟩ := obj_box hh5; clear hh5 hb5))
    | (go_at_call 11; refine (HFI.out _ _ _ _ HO5.out).mono ?_; rintro e w6 ⟨⟨a6, n6, c6, rfl, ho6⟩, hb6⟩; have HF6 := Lib.hid ho6; have HX6 := Lib.hid (heap_below hb6 HX5.out); have HO6 := Lib.hid (HO5.out.mono hb6); have HB6 := Lib.hid (HB5.out.trans (hb6.mono HB5.out.size)); clear ho6 hb6)
    | (go_at_call 6; refine (HRD.out _ _ HF6.out).mono ?_; rintro e w7 ⟨⟨PL, a1, n1, a2, n2, rfl, ho7⟩, hb7⟩; have HQ7 := Lib.hid ho7; have HX7 := Lib.hid (heap_below hb7 HX6.out); have HO7 := Lib.hid (HO6.out.mono hb7); have HB7 := Lib.hid (HB6.out.trans (hb7.mono HB6.out.size)); clear ho7 hb7)
    | ((with_reducible show wpList _ _ _ (⟨some 4, .alloc _, _, _, _, _⟩ :: _) _ _); go_must (refine wpList_allocObj ?_; intro w8 hx8 hb8 hs8; have HY8 := Lib.hid hx8; have HB78 := Lib.hid hb8; clear hx8 hb8))
    | ((with_reducible show wpList _ _ _ (⟨none, .store _ (.tmp 4) _, _, _, _, _⟩ :: _) _ _); go_must (refine wpList_storeMade HY8.out rfl rfl (by kernel_rfl) rfl (by simp [Value.oneCell']) (Nat.le_refl _) (Nat.le_of_lt hs8) ?_; intro w9 hh9 hb9; have HY9 := Lib.hid hh9; have HX9 := Lib.hid (heap_below (HB78.out.trans hb9) HX7.out); have HO9 := Lib.hid (HO7.out.mono (HB78.out.trans hb9)); have HQ9 := Lib.hid (HQ7.out.mono (HB78.out.trans hb9)); have HB9 := Lib.hid (HB7.out.trans ((HB78.out.trans hb9).mono HB7.out.size)); obtain ⟨d0, d1, d2⟩ := obj_box hh9; clear hh9 hb9))
    | (go_at_call 12; refine (HDF.out _ _ _ _ HQ9.out).mono ?_; rintro e wA ⟨⟨bA, oA, cA, rfl, hcA⟩, hbA⟩; have HCA := Lib.hid hcA; have HOA := Lib.hid (HO9.out.mono hbA); have HXA := Lib.hid (heap_below hbA HX9.out); have HYA := Lib.hid (heap_below hbA HY9.out); have HBA := Lib.hid (HB9.out.trans (hbA.mono HB9.out.size)); obtain ⟨c0, c1, c2⟩ := obj_box HXA.out; clear hcA hbA)
    | (go_at_call 13; (with_reducible refine (HM0.out _).mono ?_); rintro e wC ⟨rfl, hbC⟩; have HCC := Lib.hid ((hbC.cell (block_lt HCB.out)).trans HCB.out); have HBC := Lib.hid (HBB.out.trans (hbC.mono HBB.out.size)); obtain ⟨d0, d1, d2⟩ := obj_box (heap_below hbC HYB.out); have e0 := HCC.out; clear hbC)
    | (go_at_call 13; refine (HMY.out _ _ _ _ HOA.out).mono ?_; rintro e wB ⟨rfl, hbB⟩; have HCB := Lib.hid ((hbB.cell (block_lt HCA.out)).trans HCA.out); have HYB := Lib.hid (heap_below hbB HYA.out); have HBB := Lib.hid (HBA.out.trans (hbB.mono HBA.out.size)); clear hbB))
  go_ret
  exact ⟨rfl, HBC.out⟩
end Go.Proofs.YtimnbnomaajmmaaGreat
namespace Go.Proofs.YtimnbnomaajmmaaGreat
open Go.RowKit Go.Fd
theorem readO_ok {md : List SecM → Option (List PartM)} (hm : Way md) {b : List UInt8} (hl : b.length ≤ 24000) : ObjOk (readO md b).1 := by
  have hd : ∀ s ∈ (readE b).1.secs, s.data.length ≤ 24000 ∧ s.name.length ≤ 1000000000 := fun s hs => ⟨Nat.le_trans (readE_data hs) hl, by have := (readE_few b).2 s hs; omega⟩
  unfold readO
  split
  · exact objNo_ok
  · split
    · exact objNo_ok
    · next o ho =>
      split
      · exact way_ok hm (by have := (readE_few b).1; omega) hd (readE_ok (l := b) (by omega)).fits ho
      · exact objNo_ok
attribute [local irreducible] readE readO
set_option maxHeartbeats 8000000 in
set_option maxRecDepth 100000 in
theorem objectReads_any (l : List UInt8) (v : Value) (w : World) (hv : Bs w v l) :
    Calls Tryz.prog 3 #[v] w fun r w' => r = .returned (.bool true) ∧ Below w.heap.size w w' := by
  have HV := Lib.hid hv
  obtain ⟨m, ad, cap, hm, rfl, hmc, _⟩ := hv.shape
  clear hv
  by_cases hbig : 16384 < m
  · go_enter Tryz.func3, Tryz.ntmps3
    go_wp2_with fail
    refine (begun17_any _).mono ?_
    rintro e w1 ⟨rfl, hb1⟩
    go_wp2
    go_ret
    exact ⟨rfl, hb1⟩
  have hm9 : m ≤ 16384 := by omega
  have HL9 := Lib.hid (show l.length ≤ 16384 by have := hm.out; omega)
  have HEQ := Lib.hid (readO_eq (b := l) (by have := HL9.out; omega))
  have HOK := Lib.hid (readO_ok (.inl rfl) (b := l) (by have := HL9.out; omega))
  clear hbig
  go_enter Tryz.func3, Tryz.ntmps3
  go_wp2_with fail
  refine (begun17_any _).mono ?_
  rintro e w1 ⟨rfl, hb1⟩
  have HB1 := Lib.hid hb1
  clear hb1
  go_wp2_with fail
  refine (twin_any l _ w1 (by have := HL9.out; omega) (HV.out.mono HB1.out)).mono ?_
  rintro e w2 ⟨t, rfl, htw, hb2⟩
  have HTW2 := Lib.hid htw
  have HB2 := Lib.hid (HB1.out.trans (hb2.mono HB1.out.size))
  obtain ⟨tg, tc, rfl, -⟩ := htw
  clear hb2
  generalize hro : readO (fun l => modP l [] []) l = ro at *
  have HRO := Lib.hid hro
  have HRQ := Lib.hid HEQ.out.symm
  clear hro
  obtain ⟨o, code⟩ := ro
  dsimp only at *
  go_wp2
  go_loopw [4] (fun i wr => ∃ (k : Nat), i = .int .i64 k ∧ k ≤ 2 ∧ Hid (Twined wr w1.heap.size (.slice (some ⟨tg, 0, none⟩) l.length tc) l) ∧ Hid (Below w.heap.size w wr)) (fun i _ => 2 - (intOf i).toNat)
  case atStart => exact ⟨0, rfl, by omega, HTW2, HB2⟩
  case round =>
    obtain ⟨k, rfl, hk, HTW, HB⟩ := hrel
    by_cases hlt : k < 2
    · go_wp2_with fail
      refine (read6_any l _ wr (by have := HL9.out; omega) HTW.out.bs).mono ?_
      rintro e wa ⟨⟨PL, pv, sv, he, hown⟩, hba⟩
      rw [HRO.out] at he hown
      subst he
      dsimp only at *
      have HOWN := Lib.hid hown
      obtain ⟨pn, pa, pc, -, rfl, _, _⟩ := hown.po.shape
      obtain ⟨yn, ya, yc, -, rfl, _, _⟩ := hown.so.shape
      have HTWA := Lib.hid (HTW.out.mono hba)
      have HBA := Lib.hid (HB.out.trans (hba.mono HB.out.size))
      have HWA := Lib.hid hba
      clear hown hba
      go_wp2_with (first
        | ((with_reducible show wpList _ _ _ (⟨some 5, .alloc _, _, _, _, _⟩ :: _) _ _); go_must (refine wpList_allocObj ?_; intro w7 hx7 hb7 hs7; have HY7 := Lib.hid hx7; have HA7 := Lib.hid hb7; clear hx7 hb7))
        | ((with_reducible show wpList _ _ _ (⟨none, .store _ (.tmp 5) _, _, _, _, _⟩ :: _) _ _); go_must (refine wpList_storeObjS HY7.out rfl rfl rfl rfl (by simp [Value.oneCell']) ?_; intro w8 hh8 hs8; have HY8 := Lib.hid (show w8.heap[wa.heap.size]? = some (.cells #[.int .i64 o.target, .slice pa pn pc, .slice ya yn yc] 28 (0, 0)) from hh8); have HA8 := Lib.hid (HA7.out.trans (hs8.below HA7.out.size (fun k hk => by rw [hk]; exact Nat.le_refl _))); clear hh8 hs8)))
      have HB8 := Lib.hid (HBA.out.trans (HA8.out.mono HBA.out.size))
      refine (read17_any l _ w8 (by have := HL9.out; omega) (HV.out.mono HB8.out)).mono ?_
      rintro e wb ⟨⟨PL2, pv2, sv2, he, hown2⟩, hbb⟩
      rw [HRQ.out] at he hown2
      subst he
      dsimp only at *
      have HOWN2 := Lib.hid hown2
      obtain ⟨um, ua, uc, -, rfl, _, _⟩ := hown2.po.shape
      obtain ⟨vm, va, vc, -, rfl, _, _⟩ := hown2.so.shape
      have HYB := Lib.hid (heap_below hbb HY8.out)
      have HAB := Lib.hid (HA8.out.trans (hbb.mono HA8.out.size))
      clear hown2 hbb
      go_wp2_with (first
        | ((with_reducible show wpList _ _ _ (⟨some 7, .alloc _, _, _, _, _⟩ :: _) _ _); go_must (refine wpList_allocObj ?_; intro w9 hx9 hb9 hs9; have HZ9 := Lib.hid hx9; have HBB9 := Lib.hid hb9; clear hx9 hb9))
        | ((with_reducible show wpList _ _ _ (⟨none, .store _ (.tmp 7) _, _, _, _, _⟩ :: _) _ _); go_must (refine wpList_storeObjS HZ9.out rfl rfl rfl rfl (by simp [Value.oneCell']) ?_; intro wc hhc hsc; have HZC := Lib.hid (show wc.heap[wb.heap.size]? = some (.cells #[.int .i64 o.target, .slice ua um uc, .slice va vm vc] 28 (0, 0)) from hhc); have HBC0 := Lib.hid (HBB9.out.trans (hsc.below HBB9.out.size (fun k hk => by rw [hk]; exact Nat.le_refl _))); have HAC := Lib.hid (HAB.out.trans (HBC0.out.mono HAB.out.size)); have HYC := Lib.hid (heap_below HBC0.out HYB.out); obtain ⟨c0, c1, c2⟩ := obj_box HYC.out; obtain ⟨d0, d1, d2⟩ := obj_box HZC.out; clear hhc hsc)))
      have HBC := Lib.hid (HBA.out.trans (HAC.out.mono HBA.out.size))
      refine (refSame_eq o PL PL2 _ _ _ _ wc (HOWN.out.at.mono HAC.out) (HOWN2.out.at.mono HBC0.out) (by have := HOK.out.many; omega) (by have := HOK.out.wf.many; omega) (fun p hp => by have := (HOK.out.wf.relas p hp).1; omega)).mono ?_
      rintro e wd ⟨rfl, hbd⟩
      have HAD := Lib.hid (HAC.out.trans (hbd.mono HAC.out.size))
      have HBD := Lib.hid (HBC.out.trans (hbd.mono HBC.out.size))
      have HYD := Lib.hid (heap_below hbd HYC.out)
      have HTWD := Lib.hid (HTWA.out.mono HAD.out)
      have HWD := Lib.hid (HWA.out.trans (HAD.out.mono HWA.out.size))
      clear hbd c0 c1 c2 d0 d1 d2
      go_wp2_with fail
      refine (kept_any l _ _ _ wd (by have := HL9.out; omega) HTWD.out (HV.out.mono HBD.out)).mono ?_
      rintro e we ⟨rfl, rfl⟩
      obtain ⟨c0, c1, c2⟩ := obj_box HYD.out
      go_wp2_with fail
      refine (spoil17_any o PL _ _ wr.heap.size wd (HOWN.out.mono HAD.out) HOK.out HWD.out.size).mono ?_
      rintro e wf ⟨rfl, hbf⟩
      have HWF := Lib.hid (HWD.out.trans hbf)
      have HTWF := Lib.hid (HTW.out.mono HWF.out)
      have HBF := Lib.hid (HB.out.trans (HWF.out.mono HB.out.size))
      clear hbf c0 c1 c2
      go_wp2
      exact ⟨⟨k + 1, by go_num, by omega, HTWF, HBF⟩, by simp [intOf] <;> omega⟩
    · obtain rfl : k = 2 := by omega
      go_wp2
      go_ret
      exact ⟨rfl, HB.out⟩
end Go.Proofs.YtimnbnomaajmmaaGreat
namespace Go.Proofs.YtimnbnomaajmmaaGreat
open Go.ChangeShapes Go.WideShapes Go.ChangeAt Go.RowKit Go.Fd
theorem Tryz.own : ownKnob Tryz.prog.godebug = none := by kernel_rfl
theorem Tryz.laidOut : laidOutB Tryz.prog = true := by kernel_rfl
/-- All arguments read behind the call as they read before it. -/
theorem belowAll {H : Type} {enc : TypeId × Value → H} {W W' : World} (hb : Below W.heap.size W W') : ∀ {ts : List TypeId} {vs : List Value} {ds : List (DataW H)} {ps : List MemPlace},
    DataW.TrodAll enc Tryz.prog W 0 (fun _ => true) true ts vs ds ps → (∀ x ∈ ps, x.block < W.heap.size) → (∀ t ∈ ts, Tryz.prog.readableRec t = true ∧ t < Tryz.prog.types.size) →
    DataW.TrodAll enc Tryz.prog W' 0 (fun b => decide (b < W.heap.size)) true ts vs ds ps
  | [], vs, ds, ps, h, _, _ => by obtain ⟨rfl, rfl, rfl⟩ := trodAll_nil h; exact trodAll_mk0
  | t :: ts, vs, ds, ps, h, hlt, ht => by
    obtain ⟨v, vs', d, ds', p, q, rfl, rfl, rfl, h0, h1⟩ := trodAll_cons h
    exact trodAll_cons_mk (Below.trod Tryz.laidOut (ht t (by simp)).1 (ht t (by simp)).2 h0 hb fun x hx => hlt x (by simp [hx]))
      (belowAll hb h1 (fun x hx => hlt x (by simp [hx])) fun u hu => ht u (by simp [hu]))
/-- The same, the types asked as one closed fact. -/
theorem belowAllB {H : Type} {enc : TypeId × Value → H} {W W' : World} {ts : List TypeId} (ht : (ts.all fun t => Tryz.prog.readableRec t && decide (t < Tryz.prog.types.size)) = true) (hb : Below W.heap.size W W') {vs : List Value} {ds : List (DataW H)} {ps : List MemPlace}
    (h : DataW.TrodAll enc Tryz.prog W 0 (fun _ => true) true ts vs ds ps) (hlt : ∀ x ∈ ps, x.block < W.heap.size) : DataW.TrodAll enc Tryz.prog W' 0 (fun b => decide (b < W.heap.size)) true ts vs ds ps :=
  belowAll hb h hlt fun t htm => by
    have := List.all_eq_true.1 ht t htm
    simp only [Bool.and_eq_true, decide_eq_true_eq] at this
    exact this
set_option maxRecDepth 100000 in
/-- A slice of integers, as it is read. -/
theorem reads_ints {H : Type} {enc : TypeId × Value → H} {W : World} {base : Nat} {t e : TypeId} {k : IntKind} {v : Value} {d : DataW H} {p : List MemPlace} (ht : Tryz.prog.underlying t = some (.slice e)) (he : Tryz.prog.underlying e = some (.int k)) (hc : Tryz.prog.cellsOf e = 1)
    (hv : Value.okWide Tryz.prog W .any base t v) (h : DataW.Trod enc Tryz.prog W 0 (fun _ => true) true t v d p) : ∃ zs : List Int, Reads W 1 v zs.length (zs.map (Value.int k)) ∧ ∀ n ∈ zs, (Lit.int k n).wf = true := by
  obtain ⟨a0, len, cap, rfl⟩ := okWide_slice ht hv
  obtain ⟨fuel, hf⟩ := h
  rcases open_ints ht he hc hf with ⟨hcs, hx⟩ | ⟨a, len', cap', zs, hcs, _, hl, hm, hz, hx, hcell, hwz⟩
  · simp [Value.cells] at hcs
    obtain ⟨rfl, rfl, rfl⟩ := hcs
    exact ⟨[], Reads.nil W 1, fun n hn => by cases hn⟩
  · simp [Value.cells] at hcs
    obtain ⟨rfl, rfl, rfl⟩ := hcs
    simp only [if_true] at hz
    refine ⟨zs.take len, ⟨by simp, some a, cap, by rw [List.length_take]; congr 1; omega, by rw [List.length_take]; omega, (fun h => by cases h), fun j hj => ?_⟩, fun n hn => hwz n (List.mem_of_mem_take hn)⟩
    simp only [List.length_map, List.length_take] at hj
    obtain ⟨b, off, spot⟩ := a
    have h0 := hcell 0 (by omega)
    have hspot : spot = none := by simpa [Addr.add] using World.cell?_spot h0
    subst hspot
    refine ⟨b, off, rfl, ?_⟩
    have := hcell j (by omega)
    rw [add_plain] at this
    rw [this, List.getElem?_map, List.getElem?_take, if_pos (by omega), List.getD_eq_getElem?_getD, List.getElem?_eq_getElem (by omega)]
    rfl
set_option maxRecDepth 100000 in
/-- Bytes, as they are read. -/
theorem reads_bytes {H : Type} {enc : TypeId × Value → H} {W : World} {base : Nat} {v : Value} {d : DataW H} {p : List MemPlace} (hv : Value.okWide Tryz.prog W .any base 22 v) (h : DataW.Trod enc Tryz.prog W 0 (fun _ => true) true 22 v d p) :
    ∃ l : List UInt8, Reads W 1 v l.length (l.map fun c => Value.int .u8 (c.toNat : Int)) := by
  obtain ⟨zs, h1, h2⟩ := reads_ints (k := .u8) (e := 5) (by kernel_rfl) (by kernel_rfl) (by kernel_rfl) hv h
  refine ⟨zs.map fun n => UInt8.ofNat n.toNat, ?_⟩
  have e : (zs.map fun n => UInt8.ofNat n.toNat).map (fun c => Value.int .u8 (c.toNat : Int)) = zs.map (Value.int .u8) := by
    rw [List.map_map]
    apply List.map_congr_left
    intro n hn
    have := h2 n hn
    simp [Lit.wf, IntKind.min, IntKind.max, IntKind.signed, IntKind.bits] at this
    simp
    omega
  rw [e, List.length_map]
  exact h1
end Go.Proofs.YtimnbnomaajmmaaGreat
namespace Go.Proofs.YtimnbnomaajmmaaGreat
open Go.ChangeShapes Go.WideShapes Go.ChangeAt Go.RowKit Go.Fd
set_option maxRecDepth 100000 in
theorem objectReads_lifted (os : Os) (started : os.Started) (H : Type) (enc : TypeId × Value → H) :
    ReturnsInHanded {} Tryz.checked os 3 .any (Rows.objectReadsSpec.pre6 enc Tryz.prog Tryz.f3 Rows.objectReadsRow.domain false) (Rows.objectReadsSpec.post enc Tryz.prog Tryz.f3 false true false false) := by
  refine returnsInHanded_of_change (C := Tryz.checked) Tryz.own started (by kernel_rfl) Tryz.func3
    (ChangeSpec.witness6 (enc := enc) (C := Tryz.checked) false ⟨#[], #[.slice none 0 0], []⟩ 8 (by kernel_rfl) (by kernel_rfl) (by kernel_rfl) (by kernel_rfl)) ?_
  intro W base args ds gs before hval0 hW hcnd _
  have hval : ∀ (j : Nat) t v, Tryz.f3.params[j]? = some t → args[j]? = some v → Value.okWide Tryz.prog W .any base t v := hval0
  have hW' := hW
  obtain ⟨p, q, hA0, hV, rfl, hfz, hnd⟩ := hW
  have hA : DataW.TrodAll enc Tryz.prog W 0 (fun _ => true) true Tryz.f3.params.toList args.toList ds p := hA0
  have hlt : ∀ x ∈ p, x.block < W.heap.size := fun x hx => hW'.lt x (by simp [hx])
  have hback : ∀ W', Below W.heap.size W W' → DataW.TrodAll enc Tryz.prog W' 0 (fun b => decide (b < W.heap.size)) true Tryz.f3.params.toList args.toList ds p :=
    fun W' hb => belowAllB (by kernel_rfl) hb hA hlt
  rw [Tryz.params3] at hA hval
  obtain ⟨v0, vs0, d0, ds0, p0, q0, hargs, rfl, rfl, h0, r0⟩ := trodAll_cons hA
  obtain ⟨rfl, rfl, rfl⟩ := trodAll_nil r0
  obtain rfl : args = #[v0] := by
    cases args
    simp at hargs
    simp [hargs]
  clear hargs
  obtain ⟨rfl, rfl⟩ := trodVars_none hV
  have fin : ∀ (e : Ending) (W' : World), (e = .returned (.bool true) ∧ Below W.heap.size W W') → ∃ v, e = Ending.returned v ∧ Rows.objectReadsSpec.post enc Tryz.checked.prog Tryz.f3 false true false false W #[v0] v W' := by
    rintro e W' ⟨rfl, hb⟩
    exact ⟨_, rfl, _, _, _, [], _, [], hW', trodAll_mk1 (shut_bool Tryz.underlying4 true), hback W' hb, rfl, hb.frame _, fun h => by cases h⟩
  obtain ⟨l, hl⟩ := reads_bytes (hval 0 22 v0 rfl rfl) h0
  exact (objectReads_any l v0 W hl).mono fin
theorem objectReads_holds : Rows.ObjectReadsSaid :=
  OpenClaim.holds_of_wide 3 Tryz.f3 rfl rfl rfl rfl rfl rfl rfl ⟨rfl, rfl, rfl, rfl, rfl⟩ rfl rfl rfl rfl rfl (by kernel_rfl) Tryz.func3 (by kernel_rfl)
    (of_decide_eq_true (by kernel_rfl)) (by unfold Func.isWrapper; rw [if_neg (of_decide_eq_false (by kernel_rfl))]; exact ⟨rfl, rfl⟩)
    (fun os started H enc _ => objectReads_lifted os started H enc)
end Go.Proofs.YtimnbnomaajmmaaGreat
#print axioms Go.Proofs.YtimnbnomaajmmaaGreat.objectReads_holds
