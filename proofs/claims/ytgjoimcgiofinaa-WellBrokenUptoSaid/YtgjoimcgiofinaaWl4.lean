/-
  Part 4 of 7: laws and walks for well_both; no condition of its own.
-/
import Derived.Test.YtgjoimcgiofinaaWl3
import Derived.Laws.Pointers
import Derived.OrdersHeld
namespace Go.Proofs.Ytgjoimcgiofinaa
open Go.RowKit Go.Fd
theorem TSec : SliceT Try.prog 58 69 10 96 := SliceT.mk' (z := .agg #[.string ⟨#[]⟩, .int .u32 0, .int .u64 0, .int .u64 0, .int .u64 0, .int .u64 0, .int .u32 0, .int .u32 0, .int .u64 0, .slice none 0 0]) (by kernel_rfl) (by kernel_rfl) rfl (by omega)
theorem TSeg : SliceT Try.prog 59 99 7 48 := SliceT.mk' (z := .agg #[.int .u32 0, .int .u32 0, .int .u64 0, .int .u64 0, .int .u64 0, .int .u64 0, .int .u64 0]) (by kernel_rfl) (by kernel_rfl) rfl (by omega)
theorem oneSec {L : List (SecM × Value)} (h : ∀ p ∈ L, p.2.oneCell' = true) : (L.flatMap encSec).all (·.oneCell') = true := by
  rw [List.all_eq_true]
  intro x hx
  obtain ⟨p, hp, hx⟩ := List.mem_flatMap.1 hx
  have := h p hp
  simp only [encSec, List.mem_cons, List.not_mem_nil, or_false] at hx
  rcases hx with rfl | rfl | rfl | rfl | rfl | rfl | rfl | rfl | rfl | rfl <;> first | rfl | exact this
theorem oneSeg (L : List SegM) : (L.flatMap encSeg).all (·.oneCell') = true := by
  rw [List.all_eq_true]
  intro x hx
  obtain ⟨p, hp, hx⟩ := List.mem_flatMap.1 hx
  simp only [encSeg, List.mem_cons, List.not_mem_nil, or_false] at hx
  rcases hx with rfl | rfl | rfl | rfl | rfl | rfl | rfl <;> rfl
abbrev elfZ : Array Value := #[.int .i64 0, .int .i64 0, .int .u32 0, .int .u64 0, .slice none 0 0, .slice none 0 0]
theorem run_allocElf {a : Act} {w : World} {d : Option Tmp} {ty : TypeId} {pos : String} {aft : Array Edge} {g : Option (Nat × Bool)} :
    (execOp a.eval ⟨d, .alloc 61, ty, pos, aft, g⟩).run Try.prog w = .ok (.value (.pointer (some ⟨w.heap.size, 0, none⟩))) (w.alloc (.cells elfZ 61)) := by
  kernel_rfl
/-- A block of zeros, named. -/
theorem wpList_allocElf {ops : Array Oper} {rest : List Oper} {Q : Exit → Act → World → Prop} {a : Act} {w : World} {d : Option Tmp} {ty : TypeId} {pos : String} {aft : Array Edge}
    (h : ∀ w1, w1.heap[w.heap.size]? = some (.cells elfZ 61 (0, 0)) → Below w.heap.size w w1 → w.heap.size < w1.heap.size → wpList Try.prog ops Q rest (a.put d (.pointer (some ⟨w.heap.size, 0, none⟩))) w1) :
    wpList Try.prog ops Q (⟨d, .alloc 61, ty, pos, aft, none⟩ :: rest) a w :=
  wpList_val rfl run_allocElf (h (w.alloc (.cells elfZ 61)) (heap_alloc_last w _) (below_alloc w _) (by rw [World.size_alloc]; omega))
/-- A whole struct into a block that was made. -/
theorem wpList_storeElf {ops : Array Oper} {rest : List Oper} {Q : Exit → Act → World → Prop} {a : Act} {w : World} {d : Option Tmp} {ty : TypeId} {pos : String} {aft : Array Edge} {p x : Operand} {c c' : Array Value} {g B : Nat} (hg : w.heap[g]? = some (.cells c 61 (0, 0))) (hp : a.eval p = .pointer (some ⟨g, 0, none⟩)) (hx : a.eval x = .agg c')
    (ho : c.size = c'.size) (hs : c'.size = 6) (h1 : c'.all (·.oneCell') = true) (hB : B ≤ g) (hBw : B ≤ w.heap.size)
    (h : ∀ w1, w1.heap[g]? = some (.cells c' 61 (0, 0)) → Below B w w1 → wpList Try.prog ops Q rest (a.put d undef) w1) :
    wpList Try.prog ops Q (⟨d, .store 61 p x, ty, pos, aft, none⟩ :: rest) a w :=
  wpList_storeMade hg hp hx (by rw [hs]; kernel_rfl) ho h1 hB hBw h
/-- One cell of a block that was made. -/
theorem wpList_set {P : Program} {ops : Array Oper} {rest : List Oper} {Q : Exit → Act → World → Prop} {a : Act} {w : World} {d : Option Tmp} {ty t tb : TypeId} {pos : String} {aft : Array Edge} {p x : Operand} {c : Array Value} {g j base m cap : Nat} {ad : Option Addr} (hg : w.heap[g]? = some (.cells c tb (0, 0))) (hj : j < c.size) (hp : a.eval p = .pointer (some ⟨g, j, none⟩)) (hx : a.eval x = .slice ad m cap) (hB : base ≤ g) (hBw : base ≤ w.heap.size) (hs : ∀ w, (sizeOf t).run P w = .ok 1 w)
    (h : ∀ w1, w1.heap[g]? = some (.cells (c.setIfInBounds j (.slice ad m cap)) tb (0, 0)) → Below base w w1 → Stirs (fun k => k = g) w w1 → wpList P ops Q rest (a.put d undef) w1) :
    wpList P ops Q (⟨d, .store t p x, ty, pos, aft, none⟩ :: rest) a w := by
  have hc : w.cell? ⟨g, j, none⟩ = some c[j] := (cell_rec hg j).trans (Array.getElem?_eq_getElem hj)
  have hfz := free_rec' hg j
  have hst : Stirs (fun k => k = g) w (w.setCell ⟨g, j, none⟩ (.slice ad m cap)) := stirs_setCell (S := fun k => k = g) _ g j _ rfl
  refine wpList_did (w' := w.setCell ⟨g, j, none⟩ (.slice ad m cap)) rfl ?_ (h _ ?_ ?_ hst)
  · simp only [execOp, hp, hx]
    simp [go_sem, hs, hc, hfz]
  · simp [World.setCell, Array.getElem?_modify, hg]
  · exact hst.below hBw (fun k hk => by rw [hk]; exact hB)
theorem Twined.base {w : World} {b b' : Nat} {t : Value} {l : List UInt8} (h : Twined w b t l) (hb : b' ≤ b) : Twined w b' t l := by
  obtain ⟨g, cap, h1, h2, h3, h4⟩ := h
  exact ⟨g, cap, h1, h2, by omega, h4.base hb⟩
theorem Twined.stirs {w w' : World} {b g : Nat} {t : Value} {l : List UInt8} {cs : Array Value} {e : TypeId} {fr : Nat × Nat} (h : Twined w b t l) (hs : Stirs (fun k => k = g) w w') (hg : w.heap[g]? = some (.cells cs e fr)) (he : e ≠ 5) : Twined w' b t l := by
  obtain ⟨g', cap, h1, h2, h3, h4⟩ := h
  exact ⟨g', cap, h1, h2, h3, owns_stirs h4 hs (ob_apart h4 hg he)⟩
/-- What a copy is, after so many of its sections have bytes of their own. -/
structure CopyK (w : World) (base tb : Nat) (L : List (SecM × Value)) (v : Value) (k : Nat) (T : List (SecM × Value)) : Prop where
  len : T.length = k
  same : T.map (·.1) = (L.take k).map (·.1)
  own : OwR 10 encSec 69 w base v (T ++ L.drop k)
  twin : ∀ p ∈ T, Twined w tb p.2 p.1.data
theorem copy_set {T L : List (SecM × Value)} {k : Nat} {s : SecM} {dv t : Value} (hT : T.length = k) (hk : L[k]? = some (s, dv)) : ((T ++ L.drop k).flatMap encSec).set (k * 10 + 9) t = ((T ++ [(s, t)]) ++ L.drop (k + 1)).flatMap encSec := by
  have hlt := (List.getElem?_eq_some_iff.1 hk).1
  have hd : L.drop k = (s, dv) :: L.drop (k + 1) := by
    rw [List.drop_eq_getElem_cons hlt]
    congr 1
    exact (List.getElem?_eq_some_iff.1 hk).2
  have hl : (T.flatMap encSec).length = k * 10 := by rw [flat_len (k := 10) (fun _ => rfl), hT]
  rw [hd, List.flatMap_append, List.flatMap_cons, List.set_append, if_neg (by omega), hl, Nat.add_sub_cancel_left, List.set_append, if_pos (by show 9 < 10; decide), List.append_assoc, List.flatMap_append, List.flatMap_append, List.flatMap_singleton]
  rfl
/-- One cell of a row that is owned. -/
theorem wpList_setRow {P : Program} {ops : Array Oper} {rest : List Oper} {Q : Exit → Act → World → Prop} {a : Act} {w : World} {d : Option Tmp} {ty t e : TypeId} {pos : String} {aft : Array Edge} {p x : Operand} {g j base size n cap m cp : Nat} {xs : List Value} {ad : Option Addr} (hown : w.ownsRow base e size (.slice (some ⟨g, 0, none⟩) n cap) n xs) (hj : j < n * size) (hp : a.eval p = .pointer (some ⟨g, j, none⟩)) (hx : a.eval x = .slice ad m cp) (hBw : base ≤ w.heap.size) (hs : ∀ w, (sizeOf t).run P w = .ok 1 w)
    (h : ∀ w1, w1.ownsRow base e size (.slice (some ⟨g, 0, none⟩) n cap) n (xs.set j (.slice ad m cp)) → Below base w w1 → Stirs (fun k => k = g) w w1 → wpList P ops Q rest (a.put d undef) w1) :
    wpList P ops Q (⟨d, .store t p x, ty, pos, aft, none⟩ :: rest) a w := by
  have hc : w.cell? ⟨g, j, none⟩ = some (xs[j]'(by rw [hown.1]; exact hj)) := (hown.cellAt j hj).trans (List.getElem?_eq_getElem _)
  have hfz := hown.frozenAt j
  have hst : Stirs (fun k => k = g) w (w.setCell ⟨g, j, none⟩ (.slice ad m cp)) := stirs_setCell (S := fun k => k = g) _ g j _ rfl
  refine wpList_did (w' := w.setCell ⟨g, j, none⟩ (.slice ad m cp)) rfl ?_ (h _ (hown.stored j _).1 (hst.below hBw (fun k hk => by rw [hk]; exact (hown.lt g rfl).1)) hst)
  simp only [execOp, hp, hx]
  simp [go_sem, hs, hc, hfz]
theorem own_form {w : World} {base e size n : Nat} {v : Value} {xs : List Value} (h : w.ownsRow base e size v n xs) (hn : 0 < n) : ∃ g cap, v = .slice (some ⟨g, 0, none⟩) n cap := by
  rcases h.2 with ⟨_, h0⟩ | ⟨g, cap, _, hv, _⟩
  · omega
  · exact ⟨g, cap, hv⟩
theorem own_kind {w : World} {base e size n : Nat} {v : Value} {xs : List Value} (h : w.ownsRow base e size v n xs) : ∀ g, v.ownBlock = some g → ∃ c fz, w.heap[g]? = some (.cells c e fz) := by
  intro g hg
  rcases h.2 with ⟨rfl, _⟩ | ⟨g', cap, cur, rfl, _, hh, _⟩
  · cases hg
  · cases hg
    exact ⟨cur, _, hh⟩
/-- The store of a whole struct into a block that was made: that block alone turns. -/
theorem wpList_storeElfS {ops : Array Oper} {rest : List Oper} {Q : Exit → Act → World → Prop} {a : Act} {w : World} {d : Option Tmp} {ty : TypeId} {pos : String} {aft : Array Edge} {p x : Operand} {c c' : Array Value} {g : Nat} (hg : w.heap[g]? = some (.cells c 61 (0, 0))) (hp : a.eval p = .pointer (some ⟨g, 0, none⟩)) (hx : a.eval x = .agg c')
    (ho : c.size = c'.size) (hs : c'.size = 6) (h1 : c'.all (·.oneCell') = true)
    (h : ∀ w1, w1.heap[g]? = some (.cells c' 61 (0, 0)) → Stirs (fun k => k = g) w w1 → wpList Try.prog ops Q rest (a.put d undef) w1) :
    wpList Try.prog ops Q (⟨d, .store 61 p x, ty, pos, aft, none⟩ :: rest) a w := by
  have hr : (execOp a.eval ⟨d, .store 61 p x, ty, pos, aft, none⟩).run Try.prog w = .ok .skip (w.setRow g c') := by
    simp only [execOp, hp, hx, Instr.storeAt, Instr.sureAddr, Sem.run_bind, Sem.run_pure, Result.andThen, run_storeVar_row w g 61 61 c c' hg ((show (Try.prog.info? 61).map (·.size) = some 6 by kernel_rfl).trans (by rw [hs])) ho h1]
  refine wpList_did rfl hr (h _ ?_ ?_)
  · simp only [World.setRow]
    rw [Array.getElem?_modify, if_pos rfl, hg]
    rfl
  · refine ⟨rfl, rfl, rfl, by simp [World.setRow], fun k _ hk => ?_⟩
    have : g ≠ k := fun e => hk e.symm
    simp only [World.setRow]
    rw [Array.getElem?_modify, if_neg this]
/-- What a twin comes to. -/
def YT (tb : Nat) (l : List UInt8) : Yld := Yld.any (fun v w => Twined w tb v l) fun _ _ _ h hb => h.mono hb
theorem YT_mk {tb : Nat} {l : List UInt8} {v : Value} {w : World} (h : Twined w tb v l) : (YT tb l).R v w := ⟨v, rfl, h⟩
theorem YT_got {tb : Nat} {l : List UInt8} {v : Value} {w : World} (h : (YT tb l).R v w) : Twined w tb v l := by
  obtain ⟨x, e, hr⟩ := h
  have : v = x := e
  rw [this]; exact hr
theorem copy_next {L T : List (SecM × Value)} {k : Nat} {s : SecM} {dv t : Value} (hs : T.map (·.1) = (L.take k).map (·.1)) (hk : L[k]? = some (s, dv)) : (T ++ [(s, t)]).map (·.1) = (L.take (k + 1)).map (·.1) := by
  obtain ⟨hlt, he⟩ := List.getElem?_eq_some_iff.1 hk
  rw [List.take_succ_eq_append_getElem hlt, List.map_append, List.map_append, hs, he]
  rfl
set_option maxHeartbeats 4000000 in
set_option maxRecDepth 100000 in
theorem copy_any (e : ElfM) (L : List (SecM × Value)) (sv gv : Value) (w : World) (h : ElfAt w e L sv gv) (ho : ElfOk e) (hdl : dsum e.secs ≤ 1000000000) :
    Calls Try.prog 41 #[elfV e sv gv] w fun r w' => ∃ L' sv' gv', r = .returned (elfV e sv' gv') ∧ L'.map (·.1) = L.map (·.1) ∧ OwR 10 encSec 69 w' w.heap.size sv' L' ∧ (∀ p ∈ L', Twined w' w.heap.size p.2 p.1.data) ∧ OwR 7 encSeg 99 w' w.heap.size gv' e.segs ∧ Below w.heap.size w w' := by
  have HRD := Lib.hid h.rd
  have HSG := Lib.hid h.segs
  have HDL := Lib.hid hdl
  obtain ⟨a, ca, rfl, hca, -, hc⟩ := h.rd.open (fun _ => rfl)
  obtain ⟨gn, ga, gc, hgn, rfl, hgc, _⟩ := h.segs.shape
  have HC := Lib.hid hc
  have HD := Lib.hid h.data
  have HOK := Lib.hid ho
  have HSE := Lib.hid (fun k x (hk : L[k]? = some x) => sec_of h.secs hk)
  have HEL := Lib.hid (show e.secs.length = L.length by rw [h.secs, List.length_map])
  have HONE := Lib.hid (oneSec (L := L) (fun p hp => by obtain ⟨m, ad, cap, -, h2, -⟩ := (h.data p hp).shape; rw [h2]; rfl))
  have HONG := Lib.hid (oneSeg e.segs)
  obtain ⟨nl, hnl⟩ : ∃ n, n = L.length := ⟨_, rfl⟩
  rw [← hnl] at hca HRD ⊢
  have HL := Lib.hid hnl
  have hnl9 : nl ≤ 1000000000 := by have := ho.secs; have := HEL.out; omega
  have hgn9 : gn ≤ 1000000000 := by have := ho.segs; have := hgn.out; omega
  clear hc h hnl ho hdl
  go_enter Try.func41, Try.ntmps41
  go_wp2_with (first
    | ((with_reducible show wpList _ _ _ (⟨_, .box _ _, _, _, _, _⟩ :: _) _ _); go_must (refine wpList_box rfl ?_; intro w1 hx1 hb1 hs1; obtain ⟨c0, c1, c2, c3, c4, c5⟩ := elf_box hx1; have HX1 := Lib.hid hx1; have HB1 := Lib.hid hb1; clear hx1 hb1))
    | ((with_reducible show wpList _ _ _ (⟨some 2, .alloc _, _, _, _, _⟩ :: _) _ _); go_must (refine wpList_allocElf ?_; intro w2 hx2 hb2 hs2; have HX2 := Lib.hid hx2; have HX12 := Lib.hid (heap_below hb2 HX1.out); obtain ⟨d0, d1, d2, d3, d4, d5⟩ := elf_box HX12.out; have HB2 := Lib.hid (HB1.out.trans (hb2.mono HB1.out.size)); clear hx2 hb2))
    | ((with_reducible show wpList _ _ _ (⟨some 3, .alloc _, _, _, _, _⟩ :: _) _ _); go_must (refine wpList_allocElf ?_; intro w3 hx3 hb3 hs3; have HX3 := Lib.hid hx3; have HX23 := Lib.hid (heap_below hb3 HX2.out); have HX13 := Lib.hid (heap_below hb3 HX12.out); have HB3 := Lib.hid (HB2.out.trans (hb3.mono HB2.out.size)); clear hx3 hb3))
    | ((with_reducible show wpList _ _ _ (⟨none, .store _ (.tmp 3) (.tmp 5), _, _, _, _⟩ :: _) _ _); go_must (refine wpList_storeElf HX3.out rfl rfl rfl rfl (by simp [Value.oneCell']) (Nat.le_refl _) (by omega) ?_; intro w4 hh4 hb4; have HH4 := Lib.hid hh4; have HS4 := Lib.hid hb4.size; have HX14 := Lib.hid (heap_base hb4 HX13.out (by omega)); have HX24 := Lib.hid (heap_base hb4 HX23.out (by omega)); have HB4 := Lib.hid (HB3.out.trans (hb4.mono (by omega))); obtain ⟨z0, z1, z2, z3, z4, z5⟩ := elf_box HX14.out; clear hh4 hb4))
    | ((with_reducible show wpList _ _ _ (⟨some 8, _, _, _, _, _⟩ :: _) _ _); go_must (refine wpList_cat TSec (World.ownsRow_nil w4 w4.heap.size _ 10) (HRD.out.mono HB4.out) rfl rfl HONE.out (by have := HL.out; omega) (by have := HL.out; omega) (Nat.le_refl _) ?_; intro v5 w5 hv5 _ hb5; have HV5 := Lib.hid hv5; have HH5 := Lib.hid (heap_below hb5 HH4.out); have HX15 := Lib.hid (heap_below hb5 HX14.out); have HX25 := Lib.hid (heap_below hb5 HX24.out); have HB5 := Lib.hid (HB4.out.trans (hb5.mono HB4.out.size)); have HS5 := Lib.hid hb5.size; obtain ⟨m5, q5, r5, hm5, rfl, _, _⟩ := (Reads.of_owns hv5).shape; clear hv5 hb5))
    | ((with_reducible show wpList _ _ _ (⟨none, .store _ (.tmp 9) _, _, _, _, _⟩ :: _) _ _); go_must (refine wpList_set HH5.out (show 4 < 6 by decide) rfl rfl (Nat.le_refl _) (by have := HS5.out; have := HS4.out; omega) (fun w => by kernel_rfl) ?_; intro w6 hh6 hb6 ht6; have HH6 := Lib.hid hh6; have HV56 := Lib.hid (owns_stirs HV5.out ht6 (fun k hk hkg => by have h1 := (World.ownsRow.lt HV5.out k hk).1; have := HS4.out; omega)); have HX16 := Lib.hid (heap_base hb6 HX15.out (by omega)); have HX26 := Lib.hid (heap_base hb6 HX25.out (by omega)); have HB6 := Lib.hid (HB5.out.trans (hb6.mono (by omega))); have HV6 := Lib.hid hb6; obtain ⟨k0, k1, k2, k3, k4, k5⟩ := elf_box HX16.out; clear hh6 hb6))
    | ((with_reducible show wpList _ _ _ (⟨some 12, _, _, _, _, _⟩ :: _) _ _); go_must (refine wpList_cat TSeg (World.ownsRow_nil w6 w6.heap.size _ 7) (HSG.out.mono HB6.out) rfl rfl HONG.out (by have := hgn.out; omega) (by have := hgn.out; omega) (Nat.le_refl _) ?_; intro v7 w7 hv7 _ hb7; have HV7 := Lib.hid hv7; have HH7 := Lib.hid (heap_below hb7 HH6.out); have HX17 := Lib.hid (heap_below hb7 HX16.out); have HX27 := Lib.hid (heap_below hb7 HX26.out); have HB7 := Lib.hid (HB6.out.trans (hb7.mono HB6.out.size)); have HS7 := Lib.hid hb7.size; have HW7 := Lib.hid hb7; have HV57 := Lib.hid (owns_mono HV56.out hb7); obtain ⟨m7, q7, r7, hm7, rfl, _, _⟩ := (Reads.of_owns hv7).shape; clear hv7 hb7))
    | ((with_reducible show wpList _ _ _ (⟨none, .store _ (.tmp 13) _, _, _, _, _⟩ :: _) _ _); go_must (refine wpList_set HH7.out (show 5 < 6 by decide) rfl rfl (Nat.le_refl _) (by have := HS7.out; have := HV6.out.size; have := HS5.out; have := HS4.out; omega) (fun w => by kernel_rfl) ?_; intro w8 hh8 hb8 ht8; have HH8 := Lib.hid (show w8.heap[w2.heap.size]? = some (.cells #[.int .i64 e.typ, .int .i64 e.target, .int .u32 (e.flags : Int), .int .u64 (e.entry : Int), .slice q5 m5 r5, .slice q7 m7 r7] 61 (0, 0)) from hh8); have HX18 := Lib.hid (heap_base hb8 HX17.out (by omega)); have HX28 := Lib.hid (heap_base hb8 HX27.out (by omega)); have HB8 := Lib.hid (HB7.out.trans (hb8.mono (by omega))); have HB78 := Lib.hid hb8; have HV58 := Lib.hid (owns_stirs HV57.out ht8 (fun k hk hkg => by have h1 := (World.ownsRow.lt HV57.out k hk).1; have := HS4.out; omega)); have HV78 := Lib.hid (owns_stirs HV7.out ht8 (fun k hk hkg => by have h1 := (World.ownsRow.lt HV7.out k hk).1; have h2 := HV6.out.size; have h3 := HS5.out; have := HS4.out; omega)); clear hh8 hb8 ht8)))
  have h24 : w2.heap.size < w4.heap.size := by have := HS4.out; omega
  have h46 : w4.heap.size ≤ w6.heap.size := by have h2 := HV6.out.size; have h3 := HS5.out; omega
  have hm5e : m5 = nl := by have h1 := hm5.out; have h2 := HL.out; omega
  subst hm5e
  have HO0 := Lib.hid (show OwR 10 encSec 69 w8 w4.heap.size (.slice q5 m5 r5) L by have := HV58.out; rw [Nat.zero_add, List.nil_append] at this; exact this)
  have HG0 := Lib.hid (show OwR 7 encSeg 99 w8 w6.heap.size (.slice q7 m7 r7) e.segs by have := HV78.out; rw [Nat.zero_add, List.nil_append] at this; exact this)
  clear c0 c1 c2 c3 c4 c5 d0 d1 d2 d3 d4 d5 z0 z1 z2 z3 z4 z5 k0 k1 k2 k3 k4 k5
  have hw4 : w.heap.size < w4.heap.size := by have := HS4.out; omega
  have h14 : w1.heap.size < w4.heap.size := by have := HS4.out; omega
  have H84 := Lib.hid (show w4.heap.size ≤ w8.heap.size by have h1 := HV6.out.size; have h2 := HS5.out; have h3 := HW7.out.size; have h4 := HV7.out; have h5 := HS7.out; have h6 := HB78.out.size; omega)
  have HKB : Hid (CopyK w8 w4.heap.size w.heap.size L (.slice q5 m5 r5) 0 []) := ⟨rfl, rfl, by rw [List.nil_append, List.drop_zero]; exact HO0.out, fun p hp => by cases hp⟩
  clear HX1 HX2 HX12 HX23 HX13 HX14 HX24 HX15 HX16 HX17 HX25 HX26 HX27 HH4 HH5 HH6 HH7 HV5 HV56 HV57 HV58 HV7 HV78 HB1 HB2 HB3 HB4 HB5 HB6 HB7 HX3
  go_wp2
  go_loopw [4] (fun i wr => ∃ (k : Nat) (T : List (SecM × Value)), i = .int .i64 k ∧ k ≤ m5 ∧ Hid (CopyK wr w4.heap.size w.heap.size L (.slice q5 m5 r5) k T) ∧ Hid (Below w4.heap.size w8 wr) ∧ Hid (OwR 7 encSeg 99 wr w6.heap.size (.slice q7 m7 r7) e.segs)) (fun i _ => m5 - (intOf i).toNat)
  case atStart => exact ⟨0, [], rfl, Nat.zero_le _, HKB, Below.refl _ _, HG0⟩
  case round =>
    obtain ⟨k, T, rfl, hk, HK, HB, HG⟩ := hrel
    have HX1r := Lib.hid (heap_base HB.out HX18.out hw4)
    have HX2r := Lib.hid (heap_base HB.out HX28.out h14)
    have HHr := Lib.hid (heap_base HB.out HH8.out h24)
    have HBr := Lib.hid (HB8.out.trans (HB.out.mono (Nat.le_of_lt hw4)))
    have HSr := Lib.hid (Nat.le_trans H84.out HB.out.size)
    obtain ⟨c0, c1, c2, c3, c4, c5⟩ := elf_box HX1r.out
    obtain ⟨d0, d1, d2, d3, d4, d5⟩ := elf_box HHr.out
    clear c0 c1 c2 c3 c5 d0 d1 d2 d3 d5
    by_cases hlt : k < m5
    · have X1 := Lib.hid (show L[k]? = some (L[k]'(by have := HL.out; omega)) from List.getElem?_eq_getElem _)
      generalize L[k]'(by have := HL.out; omega) = x at *
      obtain ⟨s, dv⟩ := x
      have HDV := Lib.hid (Bs.mono (HD.out _ (List.mem_of_getElem? X1.out)) HBr.out)
      have HDM := Lib.hid (show s.data.length ≤ 1000000000 from Nat.le_trans (dsum_mem (List.mem_of_getElem? (HSE.out _ _ X1.out))) HDL.out)
      obtain ⟨dm, da, dc, hdm, rfl, _, _⟩ := (HD.out _ (List.mem_of_getElem? X1.out)).shape
      obtain ⟨g0, cap0, hq⟩ := own_form HO0.out (by have := HL.out; omega)
      have hq1 : q5 = some ⟨g0, 0, none⟩ := by injection hq
      have hq3 : r5 = cap0 := by injection hq
      subst hq1 hq3
      obtain ⟨b1, o1, ha, z0, z1, z2, z3, z4, z5, z6, z7, z8, z9, -⟩ := sec_cells HC.out HBr.out X1.out
      subst ha
      clear z0 z1 z2 z3 z4 z5 z6 z7 z8 hq
      have hAB := fun (x : Above wr) (b k : Nat) (h : b < wr.heap.size) => Above.cell x b k h
      have l1 := block_lt z9
      have l2 := block_lt c4
      have l3 := block_lt d4
      go_wp2
      refine wp_region_walk 12 [(9, YT w.heap.size s.data)] (by kernel_rfl) (by kernel_rfl) ?_
      simp only [List.take_succ_cons, List.take_zero, List.drop_succ_cons, List.drop_zero]
      repeat (first
        | (refine walk_quiet rfl rfl rfl ?_; intro K hK; go_big_quiet_op; go_big_quiet_on)
        | (refine walk_any rfl rfl (fun wx hwx _ => WpYld.call (run_callL (vals := [_]) Try.func16 (by kernel_rfl) rfl rfl) ((twin_any s.data _ wx HDM.out (HDV.out.mono hwx)).mono fun _ _ ⟨t, ht, htw, hb⟩ => ⟨t, ht, YT_mk (htw.base (Nat.le_trans HBr.out.size hwx.size)), hb⟩)) (fun vt => ?_); go_frame))
      refine walk_nil ?_
      intro wz hbz hF
      have HT : Hid (Twined wz w.heap.size vt s.data) := Lib.hid (YT_got (hF 9 _ 30 _ rfl rfl rfl rfl))
      have HBZ := Lib.hid hbz
      clear hbz hF hAB z9 c4 d4
      obtain ⟨tg, tc, rfl, -⟩ := HT.out
      have HTL := Lib.hid (show (T ++ L.drop k).length = m5 by rw [List.length_append, HK.out.len, List.length_drop]; have := HL.out; omega)
      have HOW : Hid (wz.ownsRow w4.heap.size 69 10 (.slice (some ⟨g0, 0, none⟩) m5 r5) m5 ((T ++ L.drop k).flatMap encSec)) := Lib.hid (by have := owns_mono HK.out.own HBZ.out; rw [HTL.out] at this; exact this)
      refine wpList_setRow HOW.out (j := k * 10 + 9) (by omega) rfl rfl (Nat.le_trans HSr.out HBZ.out.size) (fun w => by kernel_rfl) ?_
      intro wn hown hbn hsn
      rw [copy_set HK.out.len X1.out] at hown
      have hg0 := (World.ownsRow.lt HOW.out g0 rfl).1
      obtain ⟨cs0, fz0, hcs0⟩ := own_kind HOW.out g0 rfl
      have HBN := Lib.hid ((HB.out.trans (HBZ.out.mono HSr.out)).trans hbn)
      have HKN : Hid (CopyK wn w4.heap.size w.heap.size L (.slice (some ⟨g0, 0, none⟩) m5 r5) (k + 1) (T ++ [(s, .slice (some ⟨tg, 0, none⟩) s.data.length tc)])) := ⟨by rw [List.length_append, HK.out.len]; rfl, copy_next HK.out.same X1.out, by
          unfold OwR
          rw [show (T ++ [(s, Value.slice (some ⟨tg, 0, none⟩) s.data.length tc)] ++ L.drop (k + 1)).length = m5 by rw [List.length_append, List.length_append, HK.out.len, List.length_drop]; have := HL.out; simp; omega]
          exact hown, fun p hp => by
          rcases List.mem_append.1 hp with h | h
          · exact ((HK.out.twin p h).mono HBZ.out).stirs hsn hcs0 (by decide)
          · rw [List.mem_singleton] at h
            rw [h]
            exact HT.out.stirs hsn hcs0 (by decide)⟩
      have HGN : Hid (OwR 7 encSeg 99 wn w6.heap.size (.slice q7 m7 r7) e.segs) := Lib.hid (owns_stirs (owns_mono HG.out HBZ.out) hsn (fun i hi h => by
        subst h
        obtain ⟨cs1, fz1, hcs1⟩ := own_kind (owns_mono HG.out HBZ.out) i hi
        rw [hcs0] at hcs1
        cases hcs1))
      clear hown hbn hsn hcs0
      go_wp2
      go_round
      case rel => exact ⟨k + 1, _, by go_num, by omega, HKN, HBN, HGN⟩
      case measure => simp [intOf] <;> omega
    · obtain rfl : k = m5 := by omega
      have HFIN : Hid (T.map (·.1) = L.map (·.1) ∧ OwR 10 encSec 69 wr w4.heap.size (.slice q5 k r5) T ∧ ∀ p ∈ T, Twined wr w.heap.size p.2 p.1.data) := ⟨by
        rw [HK.out.same, List.take_of_length_le (by rw [HL.out]; exact Nat.le_refl _)], by
        have := HK.out.own
        rw [List.drop_of_length_le (by rw [HL.out]; exact Nat.le_refl _), List.append_nil] at this
        exact this, HK.out.twin⟩
      have HFINS := Lib.hid HFIN.out.1
      obtain ⟨d0, d1, d2, d3, d4, d5⟩ := elf_box HHr.out
      clear HOK HSE HONE HONG HD HC c4
      go_wp2_with ((with_reducible show wpList _ _ _ (⟨none, .store _ (.tmp 2) _, _, _, _, _⟩ :: _) _ _); go_must (refine wpList_storeElfS HX2r.out rfl rfl rfl rfl (by simp [Value.oneCell']) ?_; intro wn hhn hsn))
      have HON : Hid (OwR 10 encSec 69 wn w.heap.size (.slice q5 k r5) T) := Lib.hid (owns_base (owns_stirs HFIN.out.2.1 hsn (fun i hi h => by have h1 := (World.ownsRow.lt HFIN.out.2.1 i hi).1; omega)) (Nat.le_of_lt hw4))
      have HGN : Hid (OwR 7 encSeg 99 wn w.heap.size (.slice q7 m7 r7) e.segs) := Lib.hid (owns_base (owns_stirs HG.out hsn (fun i hi h => by have h1 := (World.ownsRow.lt HG.out i hi).1; omega)) (by omega))
      have HTN : Hid (∀ p ∈ T, Twined wn w.heap.size p.2 p.1.data) := Lib.hid (fun p hp => (HFIN.out.2.2 p hp).stirs hsn HX2r.out (by decide))
      have HBN : Hid (Below w.heap.size w wn) := Lib.hid (HBr.out.trans (hsn.below HBr.out.size (fun j hj => by rw [hj]; omega)))
      obtain ⟨f0, f1, f2, f3, f4, f5⟩ := elf_box hhn
      clear d0 d1 d2 d3 d4 d5 hsn HFIN HK
      refine bodyPost_ret (results_cell_row rfl _ _ w1.heap.size _ _ _ _ rfl hhn rfl rfl (by kernel_rfl)) rfl ?_
      exact ⟨T, _, _, rfl, HFINS.out, HON.out, (fun s v h => HTN.out (s, v) h), HGN.out, HBN.out⟩
end Go.Proofs.Ytgjoimcgiofinaa
namespace Go.Proofs.Ytgjoimcgiofinaa
open Go.RowKit Go.Fd
/-- A section's header, as it is read; whether it is there, with its name and its bytes. -/
def secP (l tab : List UInt8) (a : Nat) : SecM := ⟨(atR tab (gN l a 4 : Nat)).1, gN l (a + 4) 4, gN l (a + 8) 8, gN l (a + 16) 8, gN l (a + 48) 8, gN l (a + 32) 8, gN l (a + 40) 4, gN l (a + 44) 4, gN l (a + 56) 8, if gN l (a + 4) 4 = 8 then [] else (l.drop (gN l (a + 24) 8)).take (gN l (a + 32) 8)⟩
def secOk (l tab : List UInt8) (a : Nat) : Bool := decide (a + 64 ≤ l.length) && decide ((atR tab (gN l a 4 : Nat)).2 = 0) && (decide (gN l (a + 4) 4 = 8) || inB l (gN l (a + 24) 8) (gN l (a + 32) 8))
/-- A whole struct into a block that was made; what else stays. -/
theorem wpList_storeRowS {P : Program} {ops : Array Oper} {rest : List Oper} {Q : Exit → Act → World → Prop} {a : Act} {w : World} {d : Option Tmp} {ty t : TypeId} {pos : String} {aft : Array Edge} {p x : Operand} {c c' : Array Value} {g : Nat} (hg : w.heap[g]? = some (.cells c t (0, 0))) (hp : a.eval p = .pointer (some ⟨g, 0, none⟩)) (hx : a.eval x = .agg c')
    (ho : c.size = c'.size) (hs : (P.info? t).map (·.size) = some c'.size) (h1 : c'.all (·.oneCell') = true)
    (h : ∀ w1, w1.heap[g]? = some (.cells c' t (0, 0)) → Stirs (fun k => k = g) w w1 → wpList P ops Q rest (a.put d undef) w1) :
    wpList P ops Q (⟨d, .store t p x, ty, pos, aft, none⟩ :: rest) a w := by
  have hr : (execOp a.eval ⟨d, .store t p x, ty, pos, aft, none⟩).run P w = .ok .skip (w.setRow g c') := by
    simp only [execOp, hp, hx, Instr.storeAt, Instr.sureAddr, Sem.run_bind, Sem.run_pure, Result.andThen, run_storeVar_row w g t t c c' hg hs ho h1]
  refine wpList_did rfl hr (h _ ?_ ?_)
  · simp only [World.setRow]
    rw [Array.getElem?_modify, if_pos rfl, hg]
    rfl
  · refine ⟨rfl, rfl, rfl, by simp [World.setRow], fun k _ hk => ?_⟩
    have : g ≠ k := fun e => hk e.symm
    simp only [World.setRow]
    rw [Array.getElem?_modify, if_neg this]
attribute [local irreducible] gN okB inB atR
end Go.Proofs.Ytgjoimcgiofinaa
namespace Go.Proofs.Ytgjoimcgiofinaa
open Go.RowKit Go.Fd
def nsegsP (l : List UInt8) : Nat := gN l 56 2
def nsecsP (l : List UInt8) : Nat := gN l 60 2 - 2
def lastP (l : List UInt8) : Nat := gN l 40 8 + 64 * (nsecsP l + 1)
def tabP (l : List UInt8) : List UInt8 := (l.drop (gN l (lastP l + 24) 8)).take (gN l (lastP l + 32) 8)
def segsP (l : List UInt8) (n : Nat) : List SegM := (List.range n).map fun i => segP l (64 + 56 * i)
def secsP (l : List UInt8) (n : Nat) : List SecM := (List.range n).map fun i => secP l (tabP l) (gN l 40 8 + 64 * (i + 1))
/-- What is read of a file of a target. -/
def parseE (l : List UInt8) (target : Int) : ElfM := ⟨(gN l 16 2 : Nat), target, gN l 48 4, gN l 24 8, secsP l (nsecsP l), segsP l (nsegsP l)⟩
/-- Is all there? -/
structure OkP (l : List UInt8) : Prop where
  n1 : gN l 56 2 ≤ 16
  n2 : 2 ≤ gN l 60 2
  n3 : gN l 60 2 ≤ 252
  segs : ∀ i, i < nsegsP l → segOk l (64 + 56 * i) = true
  heads : gN l 40 8 ≤ l.length
  t1 : okB l (lastP l + 24) 8 = true
  t2 : okB l (lastP l + 32) 8 = true
  tab : inB l (gN l (lastP l + 24) 8) (gN l (lastP l + 32) 8) = true
  secs : ∀ i, i < nsecsP l → secOk l (tabP l) (gN l 40 8 + 64 * (i + 1)) = true
end Go.Proofs.Ytgjoimcgiofinaa
namespace Go.Proofs.Ytgjoimcgiofinaa
open Go.RowKit Go.Fd
/-- One number into a block that was there. -/
theorem wpList_setI {P : Program} {ops : Array Oper} {rest : List Oper} {Q : Exit → Act → World → Prop} {a : Act} {w : World} {d : Option Tmp} {ty t tb : TypeId} {pos : String} {aft : Array Edge} {p x : Operand} {c : Array Value} {g j : Nat} {k : IntKind} {n : Int} (hg : w.heap[g]? = some (.cells c tb (0, 0))) (hj : j < c.size) (hp : a.eval p = .pointer (some ⟨g, j, none⟩)) (hx : a.eval x = .int k n) (hs : ∀ w, (sizeOf t).run P w = .ok 1 w)
    (h : ∀ w1, w1.heap[g]? = some (.cells (c.setIfInBounds j (.int k n)) tb (0, 0)) → Stirs (fun k => k = g) w w1 → wpList P ops Q rest (a.put d undef) w1) :
    wpList P ops Q (⟨d, .store t p x, ty, pos, aft, none⟩ :: rest) a w := by
  have hc : w.cell? ⟨g, j, none⟩ = some c[j] := (cell_rec hg j).trans (Array.getElem?_eq_getElem hj)
  have hfz := free_rec' hg j
  have hst : Stirs (fun k => k = g) w (w.setCell ⟨g, j, none⟩ (.int k n)) := stirs_setCell (S := fun k => k = g) _ g j _ rfl
  refine wpList_did (w' := w.setCell ⟨g, j, none⟩ (.int k n)) rfl ?_ (h _ ?_ hst)
  · simp only [execOp, hp, hx]
    simp [go_sem, hs, hc, hfz]
  · simp [World.setCell, Array.getElem?_modify, hg]
end Go.Proofs.Ytgjoimcgiofinaa
namespace Go.Proofs.Ytgjoimcgiofinaa
open Go.RowKit Go.Fd
def elf0 : ElfM := ⟨0, 0, 0, 0, [], []⟩
/-- The target whose number is n, up to the k-th. -/
def tgt (n : Nat) : Nat → Int
  | 0 => 0
  | k + 1 => if mach ((k : Int) + 1) = n then (k : Int) + 1 else tgt n k
def magicE : List UInt8 := [127, 69, 76, 70, 2, 1, 1]
def targetR (l : List UInt8) : Int := tgt (gN l 18 2) 3
/-- What is told of bytes by their length, their first ones and their target; 0: nothing. -/
def codeR (l : List UInt8) : Int := if 4194304 < l.length then 6 else if l.length < 64 then 2 else if l.take 7 ≠ magicE then 4 else if targetR l = 0 then 11 else 0
open Classical in
/-- What is read of bytes. -/
noncomputable def readE (l : List UInt8) : ElfM × Int :=
  if codeR l ≠ 0 then (elf0, codeR l) else if OkP l ∧ mayE (parseE l (targetR l)) = true ∧ fileB (parseE l (targetR l)) = l then (parseE l (targetR l), 0) else (elf0, 4)
theorem Bs.take {w : World} {ad : Option Addr} {m cap k : Nat} {l : List UInt8} (h : Bs w (.slice ad m cap) l) (hk : k ≤ m) : Bs w (.slice ad k cap) (l.take k) := by
  obtain ⟨h1, a, c, h2, h3, h0, h4⟩ := h
  injection h2 with e1 e2 e3
  subst e1 e3
  refine ⟨by simp, ad, cap, by rw [List.length_take, Nat.min_eq_left (by omega)], by rw [List.length_take]; omega, h0, fun j hj => ?_⟩
  have hj' : j < k ∧ j < l.length := by rw [List.length_map, List.length_take] at hj; omega
  obtain ⟨b, off, e, hc⟩ := h4 j (by simpa using hj'.2)
  refine ⟨b, off, e, hc.trans ?_⟩
  rw [List.map_take, List.getElem?_take, if_pos hj'.1]
attribute [local irreducible] gN okB inB atR segOk secOk segP secP tabP readE
end Go.Proofs.Ytgjoimcgiofinaa
namespace Go.Proofs.Ytgjoimcgiofinaa
open Go.RowKit Go.Fd
/-- x stands in l at p. -/
def Has (l : List UInt8) (p : Nat) (x : List UInt8) : Prop := ∃ a b, l = a ++ (x ++ b) ∧ a.length = p
theorem Has.left {l x : List UInt8} {p : Nat} (h : Has l p x) (a : List UInt8) {q : Nat} (hq : q = a.length + p) : Has (a ++ l) q x := by
  obtain ⟨c, d, rfl, rfl⟩ := h
  exact ⟨a ++ c, d, by simp, by simp [hq]⟩
theorem Has.right {l x : List UInt8} {p : Nat} (h : Has l p x) (b : List UInt8) : Has (l ++ b) p x := by
  obtain ⟨c, d, rfl, rfl⟩ := h
  exact ⟨c, d ++ b, by simp, rfl⟩
theorem Has.all (x : List UInt8) : Has x 0 x := ⟨[], [], by simp, rfl⟩
theorem Has.sub {l x y : List UInt8} {p q r : Nat} (h : Has l p x) (k : Has x q y) (hr : r = p + q) : Has l r y := by
  obtain ⟨a, b, rfl, rfl⟩ := h
  obtain ⟨c, d, rfl, rfl⟩ := k
  exact ⟨a ++ c, d ++ b, by simp, by simp [hr]⟩
theorem Has.len {l x : List UInt8} {p : Nat} (h : Has l p x) : p + x.length ≤ l.length := by
  obtain ⟨a, b, rfl, rfl⟩ := h
  simp only [List.length_append]; omega
theorem Has.cut {l x : List UInt8} {p : Nat} (h : Has l p x) : (l.drop p).take x.length = x := by
  obtain ⟨a, b, rfl, rfl⟩ := h
  simp
theorem Has.num {l : List UInt8} {p n s : Nat} (h : Has l p (fixed n s)) (hs : Sized s) (hn : n < 256 ^ s) : gN l p s = n := by
  have h1 := h.len
  have h2 := h.cut
  rw [length_fixed] at h1 h2
  rw [gN_in hs h1, h2, fixed_get, Nat.mod_eq_of_lt hn]
theorem Has.flat {α : Type} {k : Nat} {f : α → List UInt8} (hk : ∀ x, (f x).length = k) {l : List α} {i : Nat} {x : α} (h : l[i]? = some x) : Has (l.flatMap f) (k * i) (f x) := by
  obtain ⟨r, hr⟩ := flat_head hk h
  refine ⟨(l.flatMap f).take (k * i), r, by rw [← hr, List.take_append_drop], ?_⟩
  have hi := (List.getElem?_eq_some_iff.1 h).1
  rw [List.length_take, flat_len' hk, Nat.min_eq_left]
  rw [Nat.mul_comm]
  exact Nat.mul_le_mul_right k (Nat.le_of_lt hi)
theorem putL_cons (s n : Nat) (ns : List Nat) : putL s (n :: ns) = fixed n s ++ putL s ns := rfl
theorem putL_nil (s : Nat) : putL s [] = [] := rfl
/-- A part of bytes that are put together of parts. -/
theorem has_part {ps : List (List UInt8)} {i p : Nat} {x : List UInt8} (h : ps[i]? = some x) (hp : p = ((ps.take i).map List.length).sum) : Has ps.flatten p x := by
  obtain ⟨hi, he⟩ := List.getElem?_eq_some_iff.1 h
  refine ⟨(ps.take i).flatten, (ps.drop (i + 1)).flatten, ?_, by rw [List.length_flatten, hp]⟩
  rw [← he, ← List.flatten_cons, ← List.flatten_append, List.getElem_cons_drop, List.take_append_drop]
theorem hdrBy_parts (nm : Nat) (s : SecM) (p : Nat) : hdrBy nm s p = [fixed nm 4, fixed s.typ 4, fixed s.flags 8, fixed s.addr 8, fixed p 8, fixed s.size 8, fixed s.link 4, fixed s.info 4, fixed s.align 8, fixed s.ent 8].flatten := by
  unfold hdrBy
  simp [putL_cons, putL_nil]
theorem hdrBy_has (nm : Nat) (s : SecM) (p : Nat) {i q : Nat} {x : List UInt8} (h : [fixed nm 4, fixed s.typ 4, fixed s.flags 8, fixed s.addr 8, fixed p 8, fixed s.size 8, fixed s.link 4, fixed s.info 4, fixed s.align 8, fixed s.ent 8][i]? = some x) (hp : q = (([fixed nm 4, fixed s.typ 4, fixed s.flags 8, fixed s.addr 8, fixed p 8, fixed s.size 8, fixed s.link 4, fixed s.info 4, fixed s.align 8, fixed s.ent 8].take i).map List.length).sum) : Has (hdrBy nm s p) q x := by
  rw [hdrBy_parts]; exact has_part h hp
theorem headB_parts (e : ElfM) (h : Nat) : headB e h = [magicE, List.replicate 9 0, fixed (u64of e.typ) 2, fixed (Go.Fd.mach e.target) 2, fixed 1 4, fixed e.entry 8, fixed (if segsB e = true then 64 else 0) 8, fixed h 8, fixed e.flags 4, fixed 64 2, fixed 56 2, fixed e.segs.length 2, fixed 64 2, fixed (e.secs.length + 2) 2, fixed (e.secs.length + 1) 2].flatten := by
  unfold headB magicE
  simp [putL_cons, putL_nil]
theorem headB_has (e : ElfM) (h : Nat) {i q : Nat} {x : List UInt8} (hx : [magicE, List.replicate 9 0, fixed (u64of e.typ) 2, fixed (Go.Fd.mach e.target) 2, fixed 1 4, fixed e.entry 8, fixed (if segsB e = true then 64 else 0) 8, fixed h 8, fixed e.flags 4, fixed 64 2, fixed 56 2, fixed e.segs.length 2, fixed 64 2, fixed (e.secs.length + 2) 2, fixed (e.secs.length + 1) 2][i]? = some x) (hp : q = (([magicE, List.replicate 9 0, fixed (u64of e.typ) 2, fixed (Go.Fd.mach e.target) 2, fixed 1 4, fixed e.entry 8, fixed (if segsB e = true then 64 else 0) 8, fixed h 8, fixed e.flags 4, fixed 64 2, fixed 56 2, fixed e.segs.length 2, fixed 64 2, fixed (e.secs.length + 2) 2, fixed (e.secs.length + 1) 2].take i).map List.length).sum) : Has (headB e h) q x := by
  rw [headB_parts]; exact has_part hx hp
/-- What was ahead stays ahead. -/
theorem bodyF_pre : ∀ (l : List (SecM × Nat)) (acc : List UInt8), ∃ r, bodyF acc l = acc ++ r := by
  intro l
  induction l with
  | nil => exact fun acc => ⟨[], by simp [bodyF]⟩
  | cons x l ih =>
    intro acc
    obtain ⟨r, hr⟩ := ih (acc ++ List.replicate (x.2 - acc.length) 0 ++ x.1.data)
    exact ⟨List.replicate (x.2 - acc.length) 0 ++ x.1.data ++ r, by
      show bodyF (acc ++ List.replicate (x.2 - acc.length) 0 ++ x.1.data) l = _
      rw [hr]; simp⟩
theorem bodyF_cut (acc : List UInt8) (l : List (SecM × Nat)) (k : Nat) : bodyF acc l = bodyF (bodyF acc (l.take k)) (l.drop k) := by
  unfold bodyF
  rw [← List.foldl_append, List.take_append_drop]
section
variable {e : ElfM}
theorem atsB_ok (h : MayK e) {i : Nat} {x : List UInt8} (hi : (namesOf e.secs)[i]? = some x) : ∃ p, (atsOf e)[i]? = some p ∧ atR (tabOf e) p = (x, 0) ∧ p < (tabOf e).length := by
  obtain ⟨h1, h2⟩ := build_ok h.ok
  obtain ⟨p, e1, _, e2, e3⟩ := build_at h1 hi
  have ht : tabOf e = (buildT (namesOf e.secs)).tab := by unfold tabOf; rw [h2]
  refine ⟨p, by unfold atsOf; rw [h2]; exact e1, by rw [ht]; exact at_place e2 e3, ?_⟩
  rw [ht]
  have := e2.lt
  omega
theorem ats_len (h : MayK e) : (atsOf e).length = e.secs.length + 1 := by
  obtain ⟨h1, h2⟩ := build_ok h.ok
  unfold atsOf
  rw [h2, (build_places _).1]
  simp [namesOf]
theorem places_len (e : ElfM) : (placesOf e).1.length = e.secs.length := plF_len _
theorem hdrs_get (h : MayK e) {i : Nat} {s : SecM} (hi : e.secs[i]? = some s) : ∃ n p, (atsOf e)[i]? = some n ∧ (placesOf e).1[i]? = some p ∧ (e.secs.zip ((atsOf e).zip (placesOf e).1))[i]? = some (s, n, p) := by
  have hlt := (List.getElem?_eq_some_iff.1 hi).1
  have h1 : (atsOf e)[i]? = some ((atsOf e)[i]'(by rw [ats_len h]; omega)) := List.getElem?_eq_getElem _
  have h2 : (placesOf e).1[i]? = some ((placesOf e).1[i]'(by rw [places_len]; omega)) := List.getElem?_eq_getElem _
  refine ⟨_, _, h1, h2, ?_⟩
  rw [List.getElem?_zip_eq_some]
  exact ⟨hi, by rw [List.getElem?_zip_eq_some]; exact ⟨h1, h2⟩⟩
theorem hdrsB_len (h : MayK e) : (hdrsB e).length = 64 * e.secs.length := by
  unfold hdrsB
  rw [flat_len' fun p => hdrBy_len _ _ _, List.length_zip, List.length_zip, ats_len h, places_len]
  omega
theorem fileB_len (h : MayK e) : (fileB e).length = headsOf e (tabOf e).length + 64 * (e.secs.length + 2) := by
  unfold fileB
  rw [List.length_append, List.length_append, midB_len h, hdrsB_len h, hdrBy_len]
  omega
theorem has_mid {p : Nat} {x : List UInt8} (h : Has (bodyB e) p x) : Has (fileB e) p x := by
  unfold fileB midB
  exact (((h.right _).right _).right _).right _
theorem has_front {p : Nat} {x : List UInt8} (h : Has (frontB e) p x) : Has (fileB e) p x := by
  obtain ⟨r, hr⟩ := bodyF_pre (e.secs.zip (placesOf e).1) (frontB e)
  refine has_mid ?_
  unfold bodyB
  rw [hr]
  exact h.right _
theorem has_head {p : Nat} {x : List UInt8} (h : Has (headB e (headsOf e (tabOf e).length)) p x) : Has (fileB e) p x := by
  refine has_front ?_
  unfold frontB
  exact h.right _
theorem has_data (h : MayK e) {i : Nat} {s : SecM} {p : Nat} (hi : e.secs[i]? = some s) (hp : (placesOf e).1[i]? = some p) : Has (fileB e) p s.data := by
  refine has_mid ?_
  have hz : (e.secs.zip (placesOf e).1)[i]? = some (s, p) := by rw [List.getElem?_zip_eq_some]; exact ⟨hi, hp⟩
  have hlt := (List.getElem?_eq_some_iff.1 hi).1
  have hl := body_len (g := segsB e) (frontB_len e) h.pow i (Nat.le_of_lt hlt)
  have hpl : p = placeS (segsB e) (plF (segsB e) (front e) (e.secs.take i)).2 s := by
    have := plF_get (g := segsB e) (n := front e) hi
    unfold placesOf at hp
    rw [this] at hp
    exact (Option.some.inj hp).symm
  have hge := placeS_le (g := segsB e) (p := (plF (segsB e) (front e) (e.secs.take i)).2) (h.pow s (List.mem_of_getElem? hi))
  obtain ⟨r, hr⟩ := bodyF_pre ((e.secs.zip (placesOf e).1).drop (i + 1)) (bodyF (frontB e) ((e.secs.zip (placesOf e).1).take (i + 1)))
  unfold bodyB
  rw [bodyF_cut _ _ (i + 1), hr, bodyF_step hz]
  refine Has.right ?_ _
  have := (Has.all s.data).left (bodyF (frontB e) ((e.secs.zip (placesOf e).1).take i) ++ List.replicate (p - (bodyF (frontB e) ((e.secs.zip (placesOf e).1).take i)).length) 0) (q := p) (by
    rw [List.length_append, List.length_replicate]
    unfold placesOf
    rw [hl, hpl]
    omega)
  exact this
theorem has_tab (h : MayK e) : Has (fileB e) (placesOf e).2 (tabOf e) := by
  unfold fileB midB
  refine Has.right (Has.right (Has.right ?_ _) _) _
  exact (Has.all _).left _ (by rw [bodyB_len h.pow]; rfl)
theorem has_hdr (h : MayK e) {i : Nat} {s : SecM} {n p : Nat} (hz : (e.secs.zip ((atsOf e).zip (placesOf e).1))[i]? = some (s, n, p)) : Has (fileB e) (headsOf e (tabOf e).length + 64 * (i + 1)) (hdrBy n s p) := by
  unfold fileB
  refine Has.right ?_ _
  have := Has.flat (f := fun p : SecM × Nat × Nat => hdrBy p.2.1 p.1 p.2.2) (fun p => hdrBy_len _ _ _) hz
  exact this.left _ (by rw [midB_len h]; omega)
end
end Go.Proofs.Ytgjoimcgiofinaa
namespace Go.Proofs.Ytgjoimcgiofinaa
open Go.RowKit Go.Fd
theorem sec_w {l : List UInt8} {a n p : Nat} {s : SecM} (h : Has l a (hdrBy n s p)) (hf : s.fits) (hn : n < 4294967296) (hp : p < 18446744073709551616) : secW l a = ⟨n, s.typ, s.addr, s.align, p, s.size⟩ := by
  obtain ⟨f1, f2, f3, f4, f5, f6, f7, f8⟩ := hf
  have g0 := (h.sub (hdrBy_has n s p (i := 0) rfl rfl) (r := a) (by simp) : Has l a (fixed n 4)).num sz4 hn
  have g1 := (h.sub (hdrBy_has n s p (i := 1) rfl rfl) (r := a + 4) (by simp [length_fixed]) : Has l (a + 4) (fixed s.typ 4)).num sz4 f1
  have g3 := (h.sub (hdrBy_has n s p (i := 3) rfl rfl) (r := a + 16) (by simp [length_fixed]) : Has l (a + 16) (fixed s.addr 8)).num sz8 f3
  have g4 := (h.sub (hdrBy_has n s p (i := 4) rfl rfl) (r := a + 24) (by simp [length_fixed]) : Has l (a + 24) (fixed p 8)).num sz8 hp
  have g5 := (h.sub (hdrBy_has n s p (i := 5) rfl rfl) (r := a + 32) (by simp [length_fixed]) : Has l (a + 32) (fixed s.size 8)).num sz8 f5
  have g8 := (h.sub (hdrBy_has n s p (i := 8) rfl rfl) (r := a + 48) (by simp [length_fixed]) : Has l (a + 48) (fixed s.align 8)).num sz8 f4
  unfold secW
  rw [g0, g1, g3, g4, g5, g8]
/-- The section that is none, ahead of all others. -/
theorem tabSec_fitsW {n : Nat} (h : n < 4294967296) : (tabSec n).fits := by
  unfold tabSec SecM.fits
  refine ⟨?_, ?_, ?_, ?_, ?_, ?_, ?_, ?_⟩ <;> simp <;> omega
/-- Zeros stand in a list. -/
theorem gN_zeros {l : List UInt8} {p n a s : Nat} (h : Has l p (List.replicate n 0)) (hs : Sized s) (h1 : p ≤ a) (h2 : a + s ≤ p + n) : gN l a s = 0 := by
  obtain ⟨x, y, rfl, rfl⟩ := h
  rw [gN_in hs (by simp only [List.length_append, List.length_replicate]; omega)]
  have e : ((x ++ (List.replicate n (0 : UInt8) ++ y)).drop a).take s = List.replicate s 0 := by
    rw [List.drop_append, List.drop_eq_nil_of_le h1, List.nil_append, List.drop_append, List.take_append]
    simp only [List.drop_replicate, List.take_replicate, List.length_replicate]
    rw [show min s (n - (a - x.length)) = s by omega, show s - (n - (a - x.length)) = 0 by omega]
    simp
  rw [e]
  clear e
  clear h2 hs
  induction s with
  | zero => rfl
  | succ s ih => rw [List.replicate_succ, numLE, ih]; rfl
theorem has_null {e : ElfM} (h : MayK e) : Has (fileB e) (headsOf e (tabOf e).length) (List.replicate 64 0) := by
  have hg := heads_ge (e := e)
  unfold fileB midB
  refine Has.right (Has.right ?_ _) _
  have hl : (bodyB e ++ tabOf e).length = (placesOf e).2 + (tabOf e).length := by rw [List.length_append, bodyB_len h.pow]
  rw [show headsOf e (tabOf e).length + 64 - ((placesOf e).2 + (tabOf e).length) = (headsOf e (tabOf e).length - ((placesOf e).2 + (tabOf e).length)) + 64 by omega, ← List.replicate_append_replicate, ← List.append_assoc]
  exact (Has.all _).left _ (by rw [List.length_append, hl, List.length_replicate]; omega)
theorem atR_zero {tab : List UInt8} {n : Nat} {x : List UInt8} (h : atR tab n = (x, 0)) : n < tab.length ∧ (0 : UInt8) ∈ tab.drop n := by
  have key : ∀ l g, upto0 l = some g → (0 : UInt8) ∈ l := by
    intro l
    induction l with
    | nil => intro g h; cases h
    | cons c l ih =>
      intro g h
      rw [upto0] at h
      split at h
      · next hc => simp_all
      · cases hr : upto0 l with
        | none => rw [hr] at h; cases h
        | some g' => exact List.mem_cons_of_mem _ (ih g' hr)
  unfold atR at h
  split at h
  · cases h
  · next h1 =>
    split at h
    · cases h
    · next g hg => exact ⟨by omega, by simpa using key _ _ hg⟩
theorem plF_mono {g : Bool} {n : Nat} {l : List SecM} (hp : ∀ s ∈ l, powB s.align = true) {i j : Nat} (hij : i ≤ j) : (plF g n (l.take i)).2 ≤ (plF g n (l.take j)).2 := by
  induction j with
  | zero => obtain rfl : i = 0 := by omega
            exact Nat.le_refl _
  | succ j ih =>
    rcases Nat.lt_or_ge j i with h3 | h3
    · obtain rfl : i = j + 1 := by omega
      exact Nat.le_refl _
    · refine Nat.le_trans (ih h3) ?_
      rcases Nat.lt_or_ge j l.length with hl | hl
      · have hx : l[j]? = some l[j] := List.getElem?_eq_getElem hl
        rw [plF_step hx]
        have := placeS_le (g := g) (p := (plF g n (l.take j)).2) (hp _ (List.mem_of_getElem? hx))
        show _ ≤ placeS _ _ _ + _
        omega
      · rw [List.take_of_length_le hl, List.take_of_length_le (by omega)]
        exact Nat.le_refl _
/-- Places rise. -/
theorem place_rise {e : ElfM} (h : MayK e) {i k : Nat} {s t : SecM} {p q : Nat} (hik : i < k) (hi : e.secs[i]? = some s) (hk : e.secs[k]? = some t) (hp : (placesOf e).1[i]? = some p) (hq : (placesOf e).1[k]? = some q) : p + s.data.length ≤ q := by
  unfold placesOf at hp hq
  rw [plF_get hi] at hp
  rw [plF_get hk] at hq
  cases hp
  cases hq
  have h1 := plF_mono (g := segsB e) (n := front e) h.pow (i := i + 1) (j := k) (by omega)
  rw [plF_step hi] at h1
  have h2 := placeS_le (g := segsB e) (p := (plF (segsB e) (front e) (e.secs.take k)).2) (h.pow _ (List.mem_of_getElem? hk))
  have h3 : placeS (segsB e) (plF (segsB e) (front e) (e.secs.take i)).2 s + s.data.length ≤ (plF (segsB e) (front e) (e.secs.take k)).2 := h1
  omega
theorem place_end {e : ElfM} (h : MayK e) {i : Nat} {s : SecM} {p : Nat} (hi : e.secs[i]? = some s) (hp : (placesOf e).1[i]? = some p) : p + s.data.length ≤ (placesOf e).2 := by
  unfold placesOf at hp
  rw [plF_get hi] at hp
  cases hp
  have h1 := plF_mono (g := segsB e) (n := front e) h.pow (i := i + 1) (j := e.secs.length) (by have := (List.getElem?_eq_some_iff.1 hi).1; omega)
  rw [plF_step hi, List.take_length] at h1
  exact h1
/-- A file's header, as it is looked at. -/
structure HeadK (e : ElfM) (l : List UInt8) : Prop where
  magic : Has l 0 [127, 69, 76, 70, 2, 1, 1]
  typ : Has l 16 (fixed (u64of e.typ) 2)
  one : Has l 20 (fixed 1 4)
  front : Has l 32 (fixed (if segsB e = true then 64 else 0) 8)
  heads : Has l 40 (fixed (headsOf e (tabOf e).length) 8)
  hsize : Has l 52 (fixed 64 2)
  gsize : Has l 54 (fixed 56 2)
  ng : Has l 56 (fixed e.segs.length 2)
  ssize : Has l 58 (fixed 64 2)
  ns : Has l 60 (fixed (e.secs.length + 2) 2)
  own : Has l 62 (fixed (e.secs.length + 1) 2)
theorem head_has (e : ElfM) : HeadK e (fileB e) := by
  have t0 := has_head (headB_has e (headsOf e (tabOf e).length) (i := 0) rfl rfl)
  exact ⟨t0, has_head (headB_has e (headsOf e (tabOf e).length) (i := 2) (q := 16) rfl (by simp; rfl)),
    has_head (headB_has e (headsOf e (tabOf e).length) (i := 4) (q := 20) rfl (by simp [length_fixed]; rfl)),
    has_head (headB_has e (headsOf e (tabOf e).length) (i := 6) (q := 32) rfl (by simp [length_fixed]; rfl)),
    has_head (headB_has e (headsOf e (tabOf e).length) (i := 7) (q := 40) rfl (by simp [length_fixed]; rfl)),
    has_head (headB_has e (headsOf e (tabOf e).length) (i := 9) (q := 52) rfl (by simp [length_fixed]; rfl)),
    has_head (headB_has e (headsOf e (tabOf e).length) (i := 10) (q := 54) rfl (by simp [length_fixed]; rfl)),
    has_head (headB_has e (headsOf e (tabOf e).length) (i := 11) (q := 56) rfl (by simp [length_fixed]; rfl)),
    has_head (headB_has e (headsOf e (tabOf e).length) (i := 12) (q := 58) rfl (by simp [length_fixed]; rfl)),
    has_head (headB_has e (headsOf e (tabOf e).length) (i := 13) (q := 60) rfl (by simp [length_fixed]; rfl)),
    has_head (headB_has e (headsOf e (tabOf e).length) (i := 14) (q := 62) rfl (by simp [length_fixed]; rfl))⟩
/-- What the header's numbers are. -/
structure HeadN (e : ElfM) (l : List UInt8) : Prop where
  len : l.length = headsOf e (tabOf e).length + 64 * (e.secs.length + 2)
  magic : l.take 7 = [127, 69, 76, 70, 2, 1, 1]
  typ : gN l 16 2 = e.typ.toNat
  one : gN l 20 4 = 1
  front : gN l 32 8 = if segsB e = true then 64 else 0
  heads : gN l 40 8 = headsOf e (tabOf e).length
  hsize : gN l 52 2 = 64
  gsize : gN l 54 2 = 56
  ng : gN l 56 2 = e.segs.length
  ssize : gN l 58 2 = 64
  ns : gN l 60 2 = e.secs.length + 2
  own : gN l 62 2 = e.secs.length + 1
theorem head_num {e : ElfM} (h : MayK e) : HeadN e (fileB e) := by
  have k := head_has e
  have hlen := fileB_len h
  have hge := heads_ge (e := e)
  have hle := h.len
  have hsl := h.secs
  have hgl := h.segs
  have hfr : front e ≤ (placesOf e).2 := (plF_le (g := segsB e) (n := front e) h.pow).1
  refine ⟨hlen, by have := k.magic.cut; simpa using this, ?_, k.one.num sz4 (by omega), k.front.num sz8 (by split <;> omega), k.heads.num sz8 (by omega), k.hsize.num sz2 (by omega), k.gsize.num sz2 (by omega), k.ng.num sz2 (by omega), k.ssize.num sz2 (by omega), k.ns.num sz2 (by omega), k.own.num sz2 (by omega)⟩
  rw [k.typ.num sz2 (by rcases h.typ with h1 | h1 <;> rw [h1] <;> decide)]
  rcases h.typ with h1 | h1 <;> rw [h1] <;> decide
theorem front_ge {e : ElfM} (h : MayK e) : 64 + 56 * e.segs.length ≤ headsOf e (tabOf e).length := by
  have hge := heads_ge (e := e)
  have hfr : front e ≤ (placesOf e).2 := (plF_le (g := segsB e) (n := front e) h.pow).1
  unfold front at hfr
  omega
theorem head_sound {e : ElfM} (h : MayK e) : headF (fileB e) = [] := by
  have n := head_num h
  have hfg := front_ge h
  have h1 : bad1 (fileB e) = false := by
    unfold bad1
    rw [n.magic, n.len]
    simp; omega
  have h2 : bad2 (fileB e) = false := by
    unfold bad2
    rw [n.typ, n.one, n.hsize, n.gsize, n.ssize]
    rcases h.typ with h1 | h1 <;> rw [h1] <;> simp
  have h3 : bad3 (fileB e) = false := by
    unfold bad3 withinB
    rw [n.front, n.ng, n.heads, n.ns, n.own, n.len]
    simp only [Bool.or_eq_false_iff, Bool.not_eq_false', Bool.or_eq_true, Bool.and_eq_true, decide_eq_true_eq, decide_eq_false_iff_not]
    refine ⟨⟨?_, ?_⟩, by omega⟩
    · right; split <;> omega
    · right; omega
  unfold headF
  rw [h1, h2, h3]
  rfl
/-- What the sections' headers are. -/
theorem secs_at {e : ElfM} (h : MayK e) (hf : e.fits) {i : Nat} {x : WSec} (hi : (secsW (fileB e) (gN (fileB e) 60 2))[i]? = some x) :
    (i = 0 ∧ x = ⟨0, 0, 0, 0, 0, 0⟩) ∨ (∃ (j : Nat) (s : SecM) (n p : Nat), i = j + 1 ∧ e.secs[j]? = some s ∧ (placesOf e).1[j]? = some p ∧ atR (tabOf e) n = (s.name, 0) ∧ p + s.data.length ≤ (fileB e).length ∧ x = ⟨n, s.typ, s.addr, s.align, p, s.size⟩) ∨
    (i = e.secs.length + 1 ∧ ∃ n : Nat, atR (tabOf e) n = (tabName, 0) ∧ x = ⟨n, 3, 0, 1, (placesOf e).2, (tabOf e).length⟩) := by
  have n := head_num h
  have hle := h.len
  have hge := heads_ge (e := e)
  rw [n.ns] at hi
  have hlt : i < e.secs.length + 2 := by have := (List.getElem?_eq_some_iff.1 hi).1; rwa [secsW_len] at this
  rw [secsW_get hlt, n.heads] at hi
  cases hi
  rcases Nat.eq_zero_or_pos i with h0 | h0
  · left
    subst h0
    refine ⟨rfl, ?_⟩
    have hz := has_null h
    unfold secW
    rw [gN_zeros (s := 4) hz sz4 (by omega) (by omega), gN_zeros (s := 4) hz sz4 (by omega) (by omega), gN_zeros (s := 8) hz sz8 (by omega) (by omega), gN_zeros (s := 8) hz sz8 (by omega) (by omega), gN_zeros (s := 8) hz sz8 (by omega) (by omega), gN_zeros (s := 8) hz sz8 (by omega) (by omega)]
  · right
    obtain ⟨j, rfl⟩ : ∃ j, i = j + 1 := ⟨i - 1, by omega⟩
    rcases Nat.lt_or_ge j e.secs.length with hj | hj
    · left
      have hx : e.secs[j]? = some e.secs[j] := List.getElem?_eq_getElem hj
      obtain ⟨m, p, a1, a2, a3⟩ := hdrs_get h hx
      have hnm : (namesOf e.secs)[j]? = some e.secs[j].name := by
        unfold namesOf
        rw [List.getElem?_append_left (by rw [List.length_map]; exact hj), List.getElem?_map, hx]
        rfl
      obtain ⟨n', b1, b2, b3⟩ := atsB_ok h hnm
      rw [a1] at b1
      cases b1
      have hdt := (has_data h hx a2).len
      exact ⟨j, _, m, p, rfl, hx, a2, b2, hdt, sec_w (has_hdr h a3) (hf.secs _ (List.mem_of_getElem? hx)) (by omega) (by have := n.len; omega)⟩
    · right
      obtain rfl : j = e.secs.length := by omega
      refine ⟨rfl, ?_⟩
      have hnm : (namesOf e.secs)[e.secs.length]? = some tabName := by
        unfold namesOf
        rw [List.getElem?_append_right (by simp)]
        simp
      obtain ⟨m, b1, b2, b3⟩ := atsB_ok h hnm
      refine ⟨m, b2, ?_⟩
      have hl : Has (fileB e) (headsOf e (tabOf e).length + 64 * (e.secs.length + 1)) (hdrBy m (tabSec (tabOf e).length) (placesOf e).2) := by
        have : (atsOf e)[e.secs.length]?.getD 0 = m := by rw [b1]; rfl
        unfold fileB
        rw [this]
        exact (Has.all _).left _ (by rw [List.length_append, midB_len h, hdrsB_len h]; omega)
      exact sec_w hl (tabSec_fitsW (by omega)) (by omega) (by omega)
theorem named_of {s : WSec} {tab : List UInt8} {x : List UInt8} (h : atR tab s.name = (x, 0)) : namedB s tab = true := by
  unfold namedB
  have := atR_zero h
  simpa using this
theorem fine_size {s : SecM} (h : fineB s = true) (h8 : s.typ ≠ 8) : s.size = s.data.length := by
  unfold fineB at h
  simp only [Bool.and_eq_true, Bool.not_eq_true', decide_eq_false_iff_not] at h
  obtain ⟨_, hfd⟩ := h
  rw [if_neg h8] at hfd
  exact of_decide_eq_true hfd
theorem pow2_of {n : Nat} (h : powB n = true) : pow2B n = true := by
  unfold powB at h
  unfold pow2B
  simp only [Bool.and_eq_true, decide_eq_true_eq, Bool.not_eq_true', decide_eq_false_iff_not] at *
  exact ⟨by omega, h.2⟩
theorem full_ne {s : WSec} (h : fullB s = true) : s.typ ≠ 0 ∧ s.typ ≠ 8 := by
  unfold fullB at h
  simpa using h
theorem common_no {a s b t : Nat} (h : a + s ≤ b) : commonB a s b t = false := by
  unfold commonB
  split
  · simp only [Bool.and_eq_false_iff, decide_eq_false_iff_not]; omega
  · simp only [Bool.and_eq_false_iff, decide_eq_false_iff_not]; omega
/-- Of a file that was written nothing but addresses, segments and the entry can be wrong. -/
theorem fl_written {e : ElfM} (hm : mayE e = true) (hf : e.fits) {f : FlM} (hfl : FlOk (fileB e) f) :
    (8 ≤ f.code ∧ (e.segs.length ≠ 0 ∨ e.typ = 2)) ∨ (f.code = 5 ∧ ∃ (j : Nat) (s : SecM), f.a = (j : Int) + 1 ∧ e.secs[j]? = some s ∧ s.align ≠ 0 ∧ s.addr % s.align ≠ 0) := by
  have h := mayK hm
  have n := head_num h
  have hle := h.len
  have hge := heads_ge (e := e)
  rcases hfl with hs | ⟨h8, hg⟩
  · right
    have hfine : ∀ {j : Nat} {s : SecM}, e.secs[j]? = some s → fineB s = true := fun hj => h.fine _ (List.mem_of_getElem? hj)
    rcases hs with ⟨i, s, hi, rfl, hfu, hw⟩ | ⟨i, s, hi, rfl, ha, hp⟩ | ⟨i, s, t, hi, ht, rfl, hnm⟩ | ⟨i, k, s, t, hik, hi, hk, rfl, hfs, hft, hc⟩
    · exfalso
      have hne := full_ne hfu
      rcases secs_at h hf hi with ⟨rfl, rfl⟩ | ⟨j, x, m, p, rfl, hj, hp, hat, hl, rfl⟩ | ⟨rfl, m, hat, rfl⟩
      · exact hne.1 rfl
      · have hsz := fine_size (hfine hj) hne.2
        unfold withinB at hw
        simp only [Bool.or_eq_false_iff, Bool.and_eq_false_iff, decide_eq_false_iff_not] at hw
        omega
      · unfold withinB at hw
        rw [n.len] at hw
        simp only [Bool.or_eq_false_iff, Bool.and_eq_false_iff, decide_eq_false_iff_not] at hw
        omega
    · rcases secs_at h hf hi with ⟨rfl, rfl⟩ | ⟨j, x, m, p, rfl, hj, hpl, hat, hl, rfl⟩ | ⟨rfl, m, hat, rfl⟩
      · exact absurd rfl ha
      · refine ⟨rfl, j, x, by simp, hj, ha, ?_⟩
        rcases hp with hp | hp
        · have h1 := pow2_of (h.pow _ (List.mem_of_getElem? hj))
          have h2 : pow2B x.align = false := hp
          rw [h1] at h2
          cases h2
        · exact hp
      · exfalso
        rcases hp with hp | hp
        · exact absurd (show pow2B 1 = false from hp) (by decide)
        · exact hp rfl
    · exfalso
      rw [n.own] at ht
      have htt : tabW (fileB e) t = tabOf e := by
        rcases secs_at h hf ht with ⟨h0, _⟩ | ⟨j, x, m, p, hj1, hj, hpl, hat, hl, rfl⟩ | ⟨_, m, hat, rfl⟩
        · omega
        · have := (List.getElem?_eq_some_iff.1 hj).1
          omega
        · have hpos : 0 < (tabOf e).length := by have := (atR_zero hat).1; omega
          unfold tabW
          rw [if_pos ⟨rfl, hpos⟩]
          exact (has_tab h).cut
      rw [htt] at hnm
      rcases secs_at h hf hi with ⟨rfl, rfl⟩ | ⟨j, x, m, p, rfl, hj, hpl, hat, hl, rfl⟩ | ⟨rfl, m, hat, rfl⟩
      · have hnm2 : (namesOf e.secs)[e.secs.length]? = some tabName := by
          unfold namesOf
          rw [List.getElem?_append_right (by simp)]
          simp
        obtain ⟨m, _, b2, _⟩ := atsB_ok h hnm2
        obtain ⟨z1, z2⟩ := atR_zero b2
        unfold namedB at hnm
        have z3 : (0 : UInt8) ∈ tabOf e := List.mem_of_mem_drop z2
        simp only [List.drop_zero, Bool.and_eq_false_iff, decide_eq_false_iff_not] at hnm
        rcases hnm with hnm | hnm
        · omega
        · exact hnm z3
      · rw [named_of (s := ⟨m, x.typ, x.addr, x.align, p, x.size⟩) hat] at hnm
        cases hnm
      · rw [named_of (s := ⟨m, 3, 0, 1, (placesOf e).2, (tabOf e).length⟩) hat] at hnm
        cases hnm
    · exfalso
      have hns := full_ne hfs
      have hnt := full_ne hft
      have : commonB s.pl s.size t.pl t.size = false := by
        rcases secs_at h hf hi with ⟨rfl, rfl⟩ | ⟨j, x, m, p, rfl, hj, hpl, hat, hl, rfl⟩ | ⟨rfl, m, hat, rfl⟩
        · exact absurd rfl hns.1
        · have hsz := fine_size (hfine hj) hns.2
          rcases secs_at h hf hk with ⟨h0, _⟩ | ⟨j2, x2, m2, p2, rfl, hj2, hpl2, hat2, hl2, rfl⟩ | ⟨rfl, m2, hat2, rfl⟩
          · omega
          · refine common_no ?_
            have := place_rise h (by omega : j < j2) hj hj2 hpl hpl2
            show p + x.size ≤ p2
            omega
          · refine common_no ?_
            have := place_end h hj hpl
            show p + x.size ≤ (placesOf e).2
            omega
        · rcases secs_at h hf hk with ⟨h0, _⟩ | ⟨j2, x2, m2, p2, rfl, hj2, hpl2, hat2, hl2, rfl⟩ | ⟨rfl, m2, hat2, rfl⟩
          · omega
          · have := (List.getElem?_eq_some_iff.1 hj2).1
            omega
          · omega
      rw [this] at hc
      cases hc
  · left
    refine ⟨h8, ?_⟩
    rw [n.ng, n.typ] at hg
    rcases hg with hg | hg
    · exact .inl hg
    · right
      rcases h.typ with h1 | h1
      · rw [h1] at hg; exact absurd hg (by decide)
      · exact h1
end Go.Proofs.Ytgjoimcgiofinaa
namespace Go.Proofs.Ytgjoimcgiofinaa
open Go.RowKit Go.Fd
theorem nat_beq {a b : Nat} : ((a : Int) == (b : Int)) = decide (a = b) := by
  rw [Bool.eq_iff_iff, beq_iff_eq, decide_eq_true_iff]; omega
theorem nat_bne {a b : Nat} : ((a : Int) != (b : Int)) = !decide (a = b) := by
  rw [bne, nat_beq]
theorem zbeq {a : Nat} {b : Nat} {c : Int} (hc : c = (b : Int)) : ((a : Int) == c) = decide (a = b) := by subst hc; exact nat_beq
theorem zbne {a : Nat} {b : Nat} {c : Int} (hc : c = (b : Int)) : ((a : Int) != c) = !decide (a = b) := by subst hc; exact nat_bne
theorem u64_sub' {a b : Nat} (h : b ≤ a) (ha : a < 18446744073709551616) : IntKind.u64.wrap ((a : Int) - (b : Int)) = ((a - b : Nat) : Int) := by
  simp [IntKind.wrap, IntKind.bits, IntKind.signed]; omega
theorem and_self2 {n : Nat} (h : n ≠ 0) (h2 : n < 18446744073709551616) : (bits .and .u64 (n : Int) ((n : Int) - 1) == 0) = pow2B n := by
  have e : (n : Int) - 1 = ((n - 1 : Nat) : Int) := by omega
  rw [e, bits_and_u64_nat n (n - 1) (by omega) (by omega)]
  unfold pow2B
  rw [decide_eq_false h, Bool.eq_iff_iff]
  simp only [beq_iff_eq, Bool.and_eq_true, decide_eq_true_eq, Bool.not_false, true_and]
  omega
set_option maxRecDepth 100000 in
theorem wPower_any (n : Nat) (w : World) (hn : n < 18446744073709551616) : Calls Try.prog 106 #[U6 n] w fun r w' => r = .returned (.bool (pow2B n)) ∧ w = w' := by
  rcases Nat.eq_zero_or_pos n with rfl | hp
  · go_enter Try.func106, Try.ntmps106
    go_wp2
    go_ret
    exact ⟨rfl, rfl⟩
  · have HR := Lib.hid (and_self2 (by omega : n ≠ 0) hn)
    have h1 : ((n : Int) != 0) = true := by rw [zbne (a := n) (b := 0) (c := 0) rfl, decide_eq_false (by omega)]; rfl
    have h2 : 1 ≤ n := hp
    have h3 : IntKind.u64.wrap ((n : Int) - 1) = (n : Int) - 1 := by simp [IntKind.wrap, IntKind.bits, IntKind.signed]; omega
    have HX := Lib.hid hn
    clear hn hp
    go_enter Try.func106, Try.ntmps106
    go_wp2
    go_ret
    exact ⟨by rw [HR.out]; rfl, rfl⟩
theorem sec6 {s : WSec} {w : World} {g : Nat} {fr : Nat × Nat} {t : TypeId} (h : w.heap[g]? = some (.cells (encWS s).toArray t fr)) : w.cell? ⟨g, 0, none⟩ = some (U6 s.name) ∧ w.cell? ⟨g, 1, none⟩ = some (U6 s.typ) ∧ w.cell? ⟨g, 2, none⟩ = some (U6 s.addr) ∧ w.cell? ⟨g, 3, none⟩ = some (U6 s.align) ∧ w.cell? ⟨g, 4, none⟩ = some (U6 s.pl) ∧ w.cell? ⟨g, 5, none⟩ = some (U6 s.size) :=
  ⟨cell_rec h 0, cell_rec h 1, cell_rec h 2, cell_rec h 3, cell_rec h 4, cell_rec h 5⟩
theorem seg8 {s : WSeg} {w : World} {g : Nat} {fr : Nat × Nat} {t : TypeId} (h : w.heap[g]? = some (.cells (encWG s).toArray t fr)) : w.cell? ⟨g, 0, none⟩ = some (U6 s.typ) ∧ w.cell? ⟨g, 1, none⟩ = some (U6 s.flags) ∧ w.cell? ⟨g, 2, none⟩ = some (U6 s.off) ∧ w.cell? ⟨g, 3, none⟩ = some (U6 s.align) ∧ w.cell? ⟨g, 4, none⟩ = some (U6 s.pl) ∧ w.cell? ⟨g, 5, none⟩ = some (U6 s.psize) ∧ w.cell? ⟨g, 6, none⟩ = some (U6 s.mem) ∧ w.cell? ⟨g, 7, none⟩ = some (U6 s.msize) :=
  ⟨cell_rec h 0, cell_rec h 1, cell_rec h 2, cell_rec h 3, cell_rec h 4, cell_rec h 5, cell_rec h 6, cell_rec h 7⟩
theorem spn2 {a s : Nat} {w : World} {g : Nat} {fr : Nat × Nat} {t : TypeId} (h : w.heap[g]? = some (.cells #[U6 a, U6 s] t fr)) : w.cell? ⟨g, 0, none⟩ = some (U6 a) ∧ w.cell? ⟨g, 1, none⟩ = some (U6 s) :=
  ⟨cell_rec h 0, cell_rec h 1⟩
set_option maxRecDepth 100000 in
theorem wFull_any (s : WSec) (w : World) : Calls Try.prog 105 #[.agg (encWS s).toArray] w fun r w' => r = .returned (.bool (fullB s)) ∧ Below w.heap.size w w' := by
  have HR : Hid (fullB s = (!decide (s.typ = 0) && !decide (s.typ = 8))) := rfl
  have h1 : ((s.typ : Int) != 0) = !decide (s.typ = 0) := zbne rfl
  have h2 : ((s.typ : Int) != 8) = !decide (s.typ = 8) := zbne rfl
  obtain ⟨n, t, d, al, p, z⟩ := s
  dsimp only at h1 h2 HR
  generalize decide (t = 0) = q0 at *
  generalize decide (t = 8) = q8 at *
  cases q0 <;> cases q8
  all_goals
    simp only [Bool.not_true, Bool.not_false] at h1 h2
    go_enter Try.func105, Try.ntmps105
    go_wp2_with ((with_reducible show wpList _ _ _ (⟨some 1, .box _ _, _, _, _, _⟩ :: _) _ _); go_must (refine wpList_box rfl ?_; intro w1 hx1 hb1 hs1; have HX1 := Lib.hid hx1; have HB1 := Lib.hid hb1; clear hx1 hb1; obtain ⟨c0, c1, c2, c3, c4, c5⟩ := sec6 (s := ⟨n, t, d, al, p, z⟩) HX1.out; dsimp only at c0 c1 c2 c3 c4 c5))
    go_ret
    exact ⟨by rw [HR.out]; rfl, HB1.out⟩
set_option maxRecDepth 100000 in
theorem wWithin_any (a s n : Nat) (w : World) (ha : a < 18446744073709551616) (_hs : s < 18446744073709551616) (hn : n ≤ 1000000000) : Calls Try.prog 104 #[.agg #[U6 a, U6 s], .int .i64 n] w fun r w' => r = .returned (.bool (withinB a s n)) ∧ Below w.heap.size w w' := by
  have HR : Hid (withinB a s n = (decide (s = 0) || (decide (a ≤ n) && decide (s ≤ n - a)))) := rfl
  have h1 : ((s : Int) == 0) = decide (s = 0) := zbeq rfl
  have h2 : decide ((a : Int) ≤ (n : Int)) = decide (a ≤ n) := by simp
  by_cases h3 : a ≤ n
  · have h4 : IntKind.u64.wrap ((n : Int) - (a : Int)) = ((n - a : Nat) : Int) := u64_sub' h3 (by omega)
    have h6 : (n : Int) - (a : Int) = ((n - a : Nat) : Int) := by omega
    rw [decide_eq_true h3] at h2 HR
    have HX := Lib.hid ha
    clear ha
    generalize decide (s = 0) = q0 at *
    cases q0
    all_goals
      go_enter Try.func104, Try.ntmps104
      go_wp2_with ((with_reducible show wpList _ _ _ (⟨some 2, .box _ _, _, _, _, _⟩ :: _) _ _); go_must (refine wpList_box rfl ?_; intro w1 hx1 hb1 hs1; have HX1 := Lib.hid hx1; have HB1 := Lib.hid hb1; clear hx1 hb1; obtain ⟨c0, c1⟩ := spn2 HX1.out))
      go_ret
      exact ⟨by rw [HR.out]; rfl, HB1.out⟩
  · rw [decide_eq_false h3] at h2 HR
    have HX := Lib.hid ha
    clear ha
    generalize decide (s = 0) = q0 at *
    cases q0
    all_goals
      go_enter Try.func104, Try.ntmps104
      go_wp2_with ((with_reducible show wpList _ _ _ (⟨some 2, .box _ _, _, _, _, _⟩ :: _) _ _); go_must (refine wpList_box rfl ?_; intro w1 hx1 hb1 hs1; have HX1 := Lib.hid hx1; have HB1 := Lib.hid hb1; clear hx1 hb1; obtain ⟨c0, c1⟩ := spn2 HX1.out))
      go_ret
      exact ⟨by rw [HR.out]; rfl, HB1.out⟩
end Go.Proofs.Ytgjoimcgiofinaa
namespace Go.Proofs.Ytgjoimcgiofinaa
open Go.RowKit Go.Fd
def WSec.fits (s : WSec) : Prop := s.name < 18446744073709551616 ∧ s.typ < 18446744073709551616 ∧ s.addr < 18446744073709551616 ∧ s.align < 18446744073709551616 ∧ s.pl < 18446744073709551616 ∧ s.size < 18446744073709551616
def WSeg.fits (s : WSeg) : Prop := s.align < 18446744073709551616 ∧ s.pl < 18446744073709551616 ∧ s.psize < 18446744073709551616 ∧ s.mem < 18446744073709551616 ∧ s.msize < 18446744073709551616
theorem secW_fits (l : List UInt8) (a : Nat) : WSec.fits (secW l a) := ⟨by have := gN4 l a; show gN l a 4 < _; omega, by have := gN4 l (a + 4); show gN l (a + 4) 4 < _; omega, gN8 _ _, gN8 _ _, gN8 _ _, gN8 _ _⟩
theorem segW_fits (l : List UInt8) (a : Nat) : WSeg.fits (segW l a) := ⟨gN8 _ _, gN8 _ _, gN8 _ _, gN8 _ _, gN8 _ _⟩
theorem secsW_fits (l : List UInt8) (n : Nat) : ∀ s ∈ secsW l n, WSec.fits s := by
  intro s hs
  unfold secsW at hs
  obtain ⟨i, -, rfl⟩ := List.mem_map.1 hs
  exact secW_fits _ _
theorem segsW_fits (l : List UInt8) (n : Nat) : ∀ s ∈ segsW l n, WSeg.fits s := by
  intro s hs
  unfold segsW at hs
  obtain ⟨i, -, rfl⟩ := List.mem_map.1 hs
  exact segW_fits _ _
theorem TFl : SliceT Try.prog 64 67 3 24 := SliceT.mk' (z := .agg #[.int .i64 0, .int .i64 0, .int .i64 0]) (by kernel_rfl) (by kernel_rfl) rfl (by omega)
theorem TWS : SliceT Try.prog 103 138 6 48 := SliceT.mk' (z := .agg #[.int .u64 0, .int .u64 0, .int .u64 0, .int .u64 0, .int .u64 0, .int .u64 0]) (by kernel_rfl) (by kernel_rfl) rfl (by omega)
theorem TWG : SliceT Try.prog 104 140 8 64 := SliceT.mk' (z := .agg #[.int .u64 0, .int .u64 0, .int .u64 0, .int .u64 0, .int .u64 0, .int .u64 0, .int .u64 0, .int .u64 0]) (by kernel_rfl) (by kernel_rfl) rfl (by omega)
theorem own_len {α : Type} {k : Nat} {enc : α → List Value} {e : TypeId} {w : World} {base : Nat} {a : Option Addr} {m c : Nat} {l : List α} (h : OwR k enc e w base (.slice a m c) l) : m = l.length := by
  obtain ⟨m', a', c', hm, hv, _⟩ := h.shape
  injection hv with _ h2 _
  rw [h2]; exact hm.out
/-- What a looker knows. -/
structure Lk (w0 w : World) (p : Nat) (l : List UInt8) (bv : Value) (F : List FlM) (S : List WSec) (G : List WSeg) (fv sv gv : Value) : Prop where
  blk : w.heap[p]? = some (.cells #[bv, fv, sv, gv] 106 (0, 0))
  hp : w0.heap.size ≤ p
  below : Below w0.heap.size w0 w
  b : Bs w0 bv l
  f : OwR 3 encFl 67 w w0.heap.size fv F
  s : OwR 6 encWS 138 w w0.heap.size sv S
  g : OwR 8 encWG 140 w w0.heap.size gv G
/-- Blocks of other elements' types, but for one block, stay as they are. -/
def KeepL (p : Nat) (w w' : World) : Prop := ∀ (b : Nat) cs e fr, b ≠ p → e ≠ 67 → w.heap[b]? = some (.cells cs e fr) → w'.heap[b]? = some (.cells cs e fr)
theorem KeepL.refl (p : Nat) (w : World) : KeepL p w w := fun _ _ _ _ _ _ h => h
theorem KeepL.trans {p : Nat} {w w' w'' : World} (h : KeepL p w w') (k : KeepL p w' w'') : KeepL p w w'' := fun b cs e fr hb he hh => k b cs e fr hb he (h b cs e fr hb he hh)
theorem KeepL.below {p : Nat} {w w' : World} (h : Below w.heap.size w w') : KeepL p w w' := fun _b _cs _e _fr _ _ hh => heap_below h hh
theorem Lk.mono {w0 w w' : World} {p : Nat} {l : List UInt8} {bv : Value} {F : List FlM} {S : List WSec} {G : List WSeg} {fv sv gv : Value} (h : Lk w0 w p l bv F S G fv sv gv) (hb : Below w.heap.size w w') : Lk w0 w' p l bv F S G fv sv gv :=
  ⟨heap_below hb h.blk, h.hp, h.below.trans (hb.mono h.below.size), h.b, h.f.mono hb, h.s.mono hb, h.g.mono hb⟩
theorem Lk.bs {w0 w : World} {p : Nat} {l : List UInt8} {bv : Value} {F : List FlM} {S : List WSec} {G : List WSeg} {fv sv gv : Value} (h : Lk w0 w p l bv F S G fv sv gv) : Bs w bv l := h.b.mono h.below
/-- Its four cells. -/
theorem Lk.cells {w0 w : World} {p : Nat} {l : List UInt8} {bv : Value} {F : List FlM} {S : List WSec} {G : List WSeg} {fv sv gv : Value} (h : Lk w0 w p l bv F S G fv sv gv) :
    w.cell? ⟨p, 0, none⟩ = some bv ∧ w.cell? ⟨p, 1, none⟩ = some fv ∧ w.cell? ⟨p, 2, none⟩ = some sv ∧ w.cell? ⟨p, 3, none⟩ = some gv := ⟨cell_rec h.blk 0, cell_rec h.blk 1, cell_rec h.blk 2, cell_rec h.blk 3⟩
set_option maxRecDepth 100000 in
theorem wU_any {w0 w : World} {p : Nat} {l : List UInt8} {bv : Value} {F : List FlM} {S : List WSec} {G : List WSeg} {fv sv gv : Value} (h : Lk w0 w p l bv F S G fv sv gv) (a s : Nat) (hl : l.length ≤ 1000000000) :
    Calls Try.prog 103 #[.pointer (some ⟨p, 0, none⟩), .int .i64 a, .int .i64 s] w fun r w' => r = .returned (U6 (gN l a s)) ∧ w = w' := by
  obtain ⟨c0, -, -, -⟩ := h.cells
  obtain ⟨m, ad, cap, -, rfl, _, _⟩ := h.b.shape
  have HU := Lib.hid (octU_any l a s _ w hl h.bs)
  have HR : Hid (gN l a s = (getR l a s false).1) := rfl
  clear h
  generalize getR l a s false = q at *
  obtain ⟨q1, q2⟩ := q
  dsimp only at HU HR
  go_enter Try.func103, Try.ntmps103
  go_wp2_with (go_at_call 100; refine HU.out.mono ?_; rintro e w' ⟨rfl, rfl⟩)
  go_ret
  exact ⟨by rw [HR.out]; rfl, rfl⟩
/-- A flaw behind others: the looker's list. -/
theorem Lk.noted {w0 w w1 w2 : World} {p : Nat} {l : List UInt8} {bv : Value} {F : List FlM} {S : List WSec} {G : List WSeg} {fv sv gv fv' : Value} {x : FlM} (h : Lk w0 w p l bv F S G fv sv gv) (ho : OwR 3 encFl 67 w1 w0.heap.size fv' (F ++ [x])) (hg : w.grownBy w1 fv.ownBlock) (hb : Below w0.heap.size w w1)
    (hh : w2.heap[p]? = some (.cells #[bv, fv', sv, gv] 106 (0, 0))) (hs : Stirs (fun k => k = p) w1 w2) : Lk w0 w2 p l bv (F ++ [x]) S G fv' sv gv ∧ KeepL p w w2 := by
  have hk := keeps_own h.f hg
  have hblk := hk _ _ _ _ (show 106 ≠ 67 by decide) h.blk
  have hne : ∀ {e : TypeId} {base size n : Nat} {v : Value} {xs : List Value}, w1.ownsRow base e size v n xs → e ≠ 106 → ∀ k, v.ownBlock = some k → ¬ k = p := by
    intro e base size n v xs h1 he k hk1 hkp
    subst hkp
    obtain ⟨c, fz, hc⟩ := own_kind h1 k hk1
    rw [hblk] at hc
    cases hc
    exact he rfl
  have hs1 : OwR 6 encWS 138 w1 w0.heap.size sv S := by
    refine ⟨h.s.1, ?_⟩
    rcases h.s.2 with h2 | ⟨g, cap, cur, hv, hg2, hh2, r⟩
    · exact .inl h2
    · exact .inr ⟨g, cap, cur, hv, hg2, hk _ _ _ _ (by decide) hh2, r⟩
  have hg1 : OwR 8 encWG 140 w1 w0.heap.size gv G := by
    refine ⟨h.g.1, ?_⟩
    rcases h.g.2 with h2 | ⟨g, cap, cur, hv, hg2, hh2, r⟩
    · exact .inl h2
    · exact .inr ⟨g, cap, cur, hv, hg2, hk _ _ _ _ (by decide) hh2, r⟩
  refine ⟨⟨hh, h.hp, (h.below.trans hb).trans (hs.below (Nat.le_trans h.below.size hb.size) (fun k hk => by rw [hk]; exact h.hp)), h.b, owns_stirs ho hs (hne ho (by decide)), owns_stirs hs1 hs (hne hs1 (by decide)), owns_stirs hg1 hs (hne hg1 (by decide))⟩, ?_⟩
  intro b cs e fr hbp he hx
  exact hs.kept (hk _ _ _ _ he hx) hbp
set_option maxHeartbeats 1000000 in
set_option maxRecDepth 100000 in
theorem wFind_any {w0 w : World} {p : Nat} {l : List UInt8} {bv : Value} {F : List FlM} {S : List WSec} {G : List WSeg} {fv sv gv : Value} (h : Lk w0 w p l bv F S G fv sv gv) (is : Bool) (c a d : Int) (hF : F.length ≤ 1000000000) :
    Calls Try.prog 102 #[.pointer (some ⟨p, 0, none⟩), .bool is, .int .i64 c, .int .i64 a, .int .i64 d] w fun r w' => r = .returned (.tuple #[]) ∧ ∃ fm fa fc, Lk w0 w' p l bv (F ++ fl is c a d) S G (.slice fa fm fc) sv gv ∧ KeepL p w w' := by
  cases is with
  | false =>
    have HL := Lib.hid h
    obtain ⟨fm, fa, fc, -, rfl, _, _⟩ := h.f.shape
    clear h
    go_enter Try.func102, Try.ntmps102
    go_wp2
    go_end0
    exact ⟨rfl, fm, fa, fc, by rw [fl_no rfl, List.append_nil]; exact HL.out, KeepL.refl _ _⟩
  | true =>
    have HL := Lib.hid h
    obtain ⟨-, c1, -, -⟩ := h.cells
    obtain ⟨fm, fa, fc, -, rfl, _, _⟩ := h.f.shape
    have hFn := Lib.hid hF
    clear h hF
    go_enter Try.func102, Try.ntmps102
    go_wp2_with (first
      | ((with_reducible show wpList _ _ _ (⟨some 21, _, _, _, _, _⟩ :: _) _ _); go_must (refine wpList_pushR TFl HL.out.f rfl rfl (⟨c, a, d⟩ : FlM) rfl rfl rfl (by have := hFn.out; omega) (by have := hFn.out; omega) HL.out.below.size ?_; intro v5 w5 hv5 hg5 hb5; have HV5 := Lib.hid hv5; have HG5 := Lib.hid hg5; have HB5 := Lib.hid hb5; have HBK := Lib.hid (keeps_own HL.out.f hg5 _ _ _ _ (show 106 ≠ 67 by decide) HL.out.blk); obtain ⟨m5, a5, q5, -, rfl, _, _⟩ := hv5.shape; clear hv5 hg5 hb5))
      | ((with_reducible show wpList _ _ _ (⟨none, .store _ (.tmp 23) _, _, _, _, _⟩ :: _) _ _); go_must (refine wpList_set HBK.out (Nat.lt_of_lt_of_eq (show 1 < 4 by decide) rfl) rfl rfl HL.out.hp (Nat.le_trans HL.out.below.size HB5.out.size) (fun w => by kernel_rfl) ?_; intro w6 hh6 hb6 hs6; have HN := Lib.hid (HL.out.noted HV5.out HG5.out HB5.out hh6 hs6); clear hh6 hb6 hs6)))
    go_end0
    exact ⟨rfl, _, _, _, by rw [fl_yes rfl]; exact HN.out.1, HN.out.2⟩
set_option maxRecDepth 100000 in
theorem wNamed_any (s : WSec) (tab : List UInt8) (v : Value) (w : World) (hl : tab.length ≤ 1000000000) (hv : Bs w v tab) :
    Calls Try.prog 122 #[.agg (encWS s).toArray, v] w fun r w' => r = .returned (.bool (namedB s tab)) ∧ Below w.heap.size w w' := by
  obtain ⟨n, t, d, al, q, z⟩ := s
  have HV := Lib.hid hv
  obtain ⟨m, ad, cap, hm, rfl, _, _⟩ := hv.shape
  have HR : Hid (namedB ⟨n, t, d, al, q, z⟩ tab = (decide (n < tab.length) && decide ((0 : UInt8) ∈ tab.drop n))) := rfl
  have hm9 : m ≤ 1000000000 := by have := hm.out; omega
  clear hv
  by_cases hlt : n < tab.length
  · have hn9 : n < m := by have := hm.out; omega
    have h1 : decide ((n : Int) < (m : Int)) = true := by simp; omega
    obtain ⟨v1, hrun, hv1⟩ := run_fromB HV.out (i := (n : Int)) (k := .u64) (by omega) (by omega)
    have HRUN := Lib.hid hrun
    rw [Int.toNat_natCast] at hv1
    have HI := Lib.hid (fun w' (hb : Below w.heap.size w w') => indexByte_any (tab.drop n) 0 v1 w' (by rw [List.length_drop]; omega) (hv1.mono hb))
    have HX : Hid (decide ((0 : UInt8) ∈ tab.drop n) = decide (0 ≤ Lib.indexByte (tab.drop n) 0)) := Lib.hid (by
      rw [indexByte_upto0, Bool.eq_iff_iff, decide_eq_true_iff, decide_eq_true_iff]
      generalize tab.drop n = r
      induction r with
      | nil => simp [upto0]
      | cons c r ih =>
        rw [upto0]
        by_cases hc : c = 0
        · simp [hc]
        · rw [if_neg hc]
          rw [List.mem_cons]
          cases hu : upto0 r with
          | none => rw [hu] at ih; simp at ih; simp [ih, Ne.symm hc]
          | some g => rw [hu] at ih; exact ⟨fun _ => Int.natCast_nonneg _, fun _ => .inr (ih.2 (Int.natCast_nonneg _))⟩)
    generalize Lib.indexByte (tab.drop n) 0 = ib at *
    obtain ⟨m1, a1, k1, -, rfl, _, _⟩ := hv1.shape
    clear hrun hlt hv1
    have HXX := Lib.hid (show decide (n < tab.length) = true by have := hm.out; simp; omega)
    cases hq : decide (0 ≤ ib)
    all_goals
     have hq' : decide (ib ≥ 0) = decide (0 ≤ ib) := rfl
     rw [hq] at hq' HX
     go_enter Try.func122, Try.ntmps122
     go_wp2_with (first
       | ((with_reducible show wpList _ _ _ (⟨some 2, .box _ _, _, _, _, _⟩ :: _) _ _); go_must (refine wpList_box rfl ?_; intro w1 hx1 hb1 hs1; have HX1 := Lib.hid hx1; have HB1 := Lib.hid hb1; clear hx1 hb1; obtain ⟨c0, c1, c2, c3, c4, c5⟩ := sec6 (s := ⟨n, t, d, al, q, z⟩) HX1.out; dsimp only at c0 c1 c2 c3 c4 c5))
       | ((with_reducible show wpList _ _ _ (⟨some 15, _, _, _, _, _⟩ :: _) _ _); go_must (refine wpList_val rfl (exec_sliceFrom HRUN.out rfl rfl) ?_))
       | (go_at_call 96; refine (HI.out _ HB1.out).mono ?_; rintro e w' ⟨rfl, rfl⟩))
     go_ret
     exact ⟨by rw [HR.out, HX.out, HXX.out]; rfl, HB1.out⟩
  · have h1 : decide ((n : Int) < (m : Int)) = false := by have := hm.out; simp; omega
    have HQ := Lib.hid hlt
    have hn9 : m ≤ n := by have := hm.out; omega
    clear hlt
    go_enter Try.func122, Try.ntmps122
    go_wp2_with ((with_reducible show wpList _ _ _ (⟨some 2, .box _ _, _, _, _, _⟩ :: _) _ _); go_must (refine wpList_box rfl ?_; intro w1 hx1 hb1 hs1; have HX1 := Lib.hid hx1; have HB1 := Lib.hid hb1; clear hx1 hb1; obtain ⟨c0, c1, c2, c3, c4, c5⟩ := sec6 (s := ⟨n, t, d, al, q, z⟩) HX1.out; dsimp only at c0 c1 c2 c3 c4 c5))
    go_ret
    exact ⟨by rw [HR.out, decide_eq_false HQ.out]; rfl, HB1.out⟩
set_option maxHeartbeats 1000000 in
set_option maxRecDepth 100000 in
theorem wCommon_any (a s b t : Nat) (w : World) (ha : a < 18446744073709551616) (hb : b < 18446744073709551616) (_hs : s < 18446744073709551616) (_ht : t < 18446744073709551616) :
    Calls Try.prog 108 #[.agg #[U6 a, U6 s], .agg #[U6 b, U6 t]] w fun r w' => r = .returned (.bool (commonB a s b t)) ∧ Below w.heap.size w w' := by
  by_cases hlt : b < a
  · have h1 : decide ((a : Int) > (b : Int)) = true := by simp; omega
    have h2 : IntKind.u64.wrap ((a : Int) - (b : Int)) = ((a - b : Nat) : Int) := u64_sub' (by omega) ha
    have h3 : decide ((s : Int) > 0) = decide (0 < s) := by simp
    have h5 : IntKind.u64.wrap ((a - b : Nat) : Int) = ((a - b : Nat) : Int) := by simp [IntKind.wrap, IntKind.bits, IntKind.signed]; omega
    have HR := Lib.hid (show commonB a s b t = (decide (0 < s) && decide (a - b < t)) by unfold commonB; rw [if_pos hlt])
    have HX := Lib.hid (And.intro ha hb)
    clear ha hb h1 h3
    generalize commonB a s b t = qr at *
    rcases Nat.eq_zero_or_pos s with rfl | h0
    · have HR2 := Lib.hid (show qr = false by rw [HR.out]; rfl)
      clear HR
      go_enter Try.func108, Try.ntmps108
      go_wp2_with (first
        | ((with_reducible show wpList _ _ _ (⟨some 2, .box _ _, _, _, _, _⟩ :: _) _ _); go_must (refine wpList_box rfl ?_; intro w1 hx1 hb1 hs1; have HX1 := Lib.hid hx1; have HB1 := Lib.hid hb1; clear hx1 hb1))
        | ((with_reducible show wpList _ _ _ (⟨some 3, .box _ _, _, _, _, _⟩ :: _) _ _); go_must (refine wpList_box rfl ?_; intro w2 hx2 hb2 hs2; have HX2 := Lib.hid hx2; have HX12 := Lib.hid (heap_below hb2 HX1.out); have HB2 := Lib.hid (HB1.out.trans (hb2.mono HB1.out.size)); clear hx2 hb2; obtain ⟨c0, c1⟩ := spn2 HX12.out; obtain ⟨d0, d1⟩ := spn2 HX2.out))
        | ((with_reducible show wpList _ _ _ (⟨none, .store _ (.tmp 2) _, _, _, _, _⟩ :: _) _ _); go_must (refine wpList_storeRowS HX12.out rfl rfl rfl (by kernel_rfl) (by simp [Value.oneCell']) ?_; intro w3 hh3 hs3; have HH3 := Lib.hid hh3; have HX23 := Lib.hid (hs3.kept HX2.out (show ¬ w1.heap.size = w.heap.size by omega)); have HB3 := Lib.hid (HB2.out.trans (hs3.below HB2.out.size (fun j hj => by rw [hj]; exact Nat.le_refl _))); clear hh3 hs3 c0 c1 d0 d1))
        | ((with_reducible show wpList _ _ _ (⟨none, .store _ (.tmp 3) _, _, _, _, _⟩ :: _) _ _); go_must (refine wpList_storeRowS HX23.out rfl rfl rfl (by kernel_rfl) (by simp [Value.oneCell']) ?_; intro w4 hh4 hs4; have HB4 := Lib.hid (HB3.out.trans (hs4.below HB3.out.size (fun j hj => by rw [hj]; omega))); obtain ⟨d0, d1⟩ := spn2 hh4; obtain ⟨c0, c1⟩ := spn2 (hs4.kept HH3.out (show ¬ w.heap.size = w1.heap.size by omega)); clear hh4 hs4)))
      go_ret
      exact ⟨by rw [HR2.out]; rfl, HB4.out⟩
    · have HR2 := Lib.hid (show qr = decide (a - b < t) by rw [HR.out, decide_eq_true h0]; rfl)
      clear HR
      go_enter Try.func108, Try.ntmps108
      go_wp2_with (first
        | ((with_reducible show wpList _ _ _ (⟨some 2, .box _ _, _, _, _, _⟩ :: _) _ _); go_must (refine wpList_box rfl ?_; intro w1 hx1 hb1 hs1; have HX1 := Lib.hid hx1; have HB1 := Lib.hid hb1; clear hx1 hb1))
        | ((with_reducible show wpList _ _ _ (⟨some 3, .box _ _, _, _, _, _⟩ :: _) _ _); go_must (refine wpList_box rfl ?_; intro w2 hx2 hb2 hs2; have HX2 := Lib.hid hx2; have HX12 := Lib.hid (heap_below hb2 HX1.out); have HB2 := Lib.hid (HB1.out.trans (hb2.mono HB1.out.size)); clear hx2 hb2; obtain ⟨c0, c1⟩ := spn2 HX12.out; obtain ⟨d0, d1⟩ := spn2 HX2.out))
        | ((with_reducible show wpList _ _ _ (⟨none, .store _ (.tmp 2) _, _, _, _, _⟩ :: _) _ _); go_must (refine wpList_storeRowS HX12.out rfl rfl rfl (by kernel_rfl) (by simp [Value.oneCell']) ?_; intro w3 hh3 hs3; have HH3 := Lib.hid hh3; have HX23 := Lib.hid (hs3.kept HX2.out (show ¬ w1.heap.size = w.heap.size by omega)); have HB3 := Lib.hid (HB2.out.trans (hs3.below HB2.out.size (fun j hj => by rw [hj]; exact Nat.le_refl _))); clear hh3 hs3 c0 c1 d0 d1))
        | ((with_reducible show wpList _ _ _ (⟨none, .store _ (.tmp 3) _, _, _, _, _⟩ :: _) _ _); go_must (refine wpList_storeRowS HX23.out rfl rfl rfl (by kernel_rfl) (by simp [Value.oneCell']) ?_; intro w4 hh4 hs4; have HB4 := Lib.hid (HB3.out.trans (hs4.below HB3.out.size (fun j hj => by rw [hj]; omega))); obtain ⟨d0, d1⟩ := spn2 hh4; obtain ⟨c0, c1⟩ := spn2 (hs4.kept HH3.out (show ¬ w.heap.size = w1.heap.size by omega)); clear hh4 hs4)))
      go_ret
      exact ⟨by rw [HR2.out]; rfl, HB4.out⟩
  · have h1 : decide ((a : Int) > (b : Int)) = false := by simp; omega
    have h2 : IntKind.u64.wrap ((b : Int) - (a : Int)) = ((b - a : Nat) : Int) := u64_sub' (by omega) hb
    have h3 : decide ((t : Int) > 0) = decide (0 < t) := by simp
    have h5 : IntKind.u64.wrap ((b - a : Nat) : Int) = ((b - a : Nat) : Int) := by simp [IntKind.wrap, IntKind.bits, IntKind.signed]; omega
    have HR := Lib.hid (show commonB a s b t = (decide (0 < t) && decide (b - a < s)) by unfold commonB; rw [if_neg hlt])
    have HX := Lib.hid (And.intro ha hb)
    have hle : a ≤ b := Nat.not_lt.1 hlt
    clear hlt
    clear ha hb h1 h3
    generalize commonB a s b t = qr at *
    rcases Nat.eq_zero_or_pos t with rfl | h0
    · have HR2 := Lib.hid (show qr = false by rw [HR.out]; rfl)
      clear HR
      go_enter Try.func108, Try.ntmps108
      go_wp2_with (first
        | ((with_reducible show wpList _ _ _ (⟨some 2, .box _ _, _, _, _, _⟩ :: _) _ _); go_must (refine wpList_box rfl ?_; intro w1 hx1 hb1 hs1; have HX1 := Lib.hid hx1; have HB1 := Lib.hid hb1; clear hx1 hb1))
        | ((with_reducible show wpList _ _ _ (⟨some 3, .box _ _, _, _, _, _⟩ :: _) _ _); go_must (refine wpList_box rfl ?_; intro w2 hx2 hb2 hs2; have HX2 := Lib.hid hx2; have HX12 := Lib.hid (heap_below hb2 HX1.out); have HB2 := Lib.hid (HB1.out.trans (hb2.mono HB1.out.size)); clear hx2 hb2; obtain ⟨c0, c1⟩ := spn2 HX12.out; obtain ⟨d0, d1⟩ := spn2 HX2.out)))
      go_ret
      exact ⟨by rw [HR2.out]; rfl, HB2.out⟩
    · have HR2 := Lib.hid (show qr = decide (b - a < s) by rw [HR.out, decide_eq_true h0]; rfl)
      clear HR
      go_enter Try.func108, Try.ntmps108
      go_wp2_with (first
        | ((with_reducible show wpList _ _ _ (⟨some 2, .box _ _, _, _, _, _⟩ :: _) _ _); go_must (refine wpList_box rfl ?_; intro w1 hx1 hb1 hs1; have HX1 := Lib.hid hx1; have HB1 := Lib.hid hb1; clear hx1 hb1))
        | ((with_reducible show wpList _ _ _ (⟨some 3, .box _ _, _, _, _, _⟩ :: _) _ _); go_must (refine wpList_box rfl ?_; intro w2 hx2 hb2 hs2; have HX2 := Lib.hid hx2; have HX12 := Lib.hid (heap_below hb2 HX1.out); have HB2 := Lib.hid (HB1.out.trans (hb2.mono HB1.out.size)); clear hx2 hb2; obtain ⟨c0, c1⟩ := spn2 HX12.out; obtain ⟨d0, d1⟩ := spn2 HX2.out)))
      go_ret
      exact ⟨by rw [HR2.out]; rfl, HB2.out⟩
end Go.Proofs.Ytgjoimcgiofinaa
namespace Go.Fd
open Go.RowKit
section
variable {P : Program} {L : List Oper} {Q : Exit → Act → World → Prop} {w0 : World} {fuel i : Nat} {listed : Array Bool} {a : Act} {w : World} {o : Oper}
abbrev SAb (w0 : World) : World → Prop := fun w => Below w0.heap.size w0 w
theorem wpOp_of_list {ops : Array Oper} {K : Act → World → Prop} (hi : ops[i]? = some o) (h : wpList P ops (Exit.then K Q) [o] a w) : wpOp P ops Q i K a w := by
  unfold wpOp
  rw [hi]
  simp only [wpList] at h
  split at h
  · next hw =>
    simp only [hw, if_true]
    rcases h with h | ⟨h1, a1, w1, h2⟩
    · left
      unfold Oper.wp at *
      generalize (execOp a.eval o).run P w = r at *
      cases r with
      | ok n w' =>
        cases n <;> simp only [Oper.upon] at h ⊢ <;>
          first
            | exact h
            | exact Calls.mono h (fun e w'' he => by
                cases e with
                | returned v => exact he
                | panicked c => exact he
                | outgrown => obtain ⟨a0, w0, h0⟩ := (he : LetsOut _); exact ⟨a0, w0, h0⟩)
      | halt x w' => cases x <;> simp only [Oper.upon] at h ⊢ <;> exact h
    · right
      exact ⟨h1, a1, w1, h2⟩
  · next hw =>
    simp only [hw]
    exact h
end
end Go.Fd
namespace Go.Fd
open Go.RowKit
section
variable {P : Program} {L : List Oper} {Q : Exit → Act → World → Prop} {w0 : World} {fuel i : Nat} {listed : Array Bool} {a : Act} {w : World} {o : Oper}
end
section
variable {P : Program} {ops : Array Oper} {rest : List Oper} {Q : Exit → Act → World → Prop} {a : Act} {w : World} {o : Oper}
theorem wpList_callIs {f : FuncId} {args : Array Value} {c : Value} (hw : Region.wanted o (yielded ops a.tmps) = true) (hr : (execOp a.eval o).run P w = .ok (.enter f args) w) (hc : Calls P f args w fun e w' => e = .returned c ∧ w = w')
    (h : wpList P ops Q rest (a.put o.dst c) w) : wpList P ops Q (o :: rest) a w := by
  unfold wpList
  rw [if_pos hw]
  refine .inl ?_
  unfold Oper.wp Oper.upon
  rw [hr]
  refine hc.mono ?_
  rintro e w' ⟨rfl, rfl⟩
  exact h
/-- Two numbers into a block that was made. -/
theorem wpList_store2 {d : Option Tmp} {ty t tb : TypeId} {pos : String} {aft : Array Edge} {p x : Operand} {c : Array Value} {g j : Nat} {k k' : IntKind} {n n' : Int} (hg : w.heap[g]? = some (.cells c tb (0, 0))) (hj : j + 1 < c.size) (hp : a.eval p = .pointer (some ⟨g, j, none⟩)) (hx : a.eval x = .agg #[.int k n, .int k' n']) (hs : ∀ w, (sizeOf t).run P w = .ok 2 w)
    (h : ∀ w1, w1.heap[g]? = some (.cells ((c.setIfInBounds j (.int k n)).setIfInBounds (j + 1) (.int k' n')) tb (0, 0)) → Stirs (fun k => k = g) w w1 → wpList P ops Q rest (a.put d undef) w1) :
    wpList P ops Q (⟨d, .store t p x, ty, pos, aft, none⟩ :: rest) a w := by
  have hc : w.cell? ⟨g, j, none⟩ = some c[j] := (cell_rec hg j).trans (Array.getElem?_eq_getElem (by omega))
  have hc' : w.cell? ⟨g, j + 1, none⟩ = some c[j + 1] := (cell_rec hg (j + 1)).trans (Array.getElem?_eq_getElem hj)
  have hfz : w.frozen? ⟨g, j, none⟩ = false := by simp [World.frozen?, hg]
  have hfz' : w.frozen? ⟨g, j + 1, none⟩ = false := by simp [World.frozen?, hg]
  have hst : Stirs (fun k => k = g) w ((w.setCell ⟨g, j, none⟩ (.int k n)).setCell ⟨g, j + 1, none⟩ (.int k' n')) := (stirs_setCell (S := fun k => k = g) _ g j _ rfl).trans (stirs_setCell (S := fun k => k = g) _ g (j + 1) _ rfl) (fun _ _ h => h)
  refine wpList_did (w' := (w.setCell ⟨g, j, none⟩ (.int k n)).setCell ⟨g, j + 1, none⟩ (.int k' n')) rfl ?_ (h _ ?_ hst)
  · simp only [execOp, hp, hx]
    simp [go_sem, hs, hc, hc', hfz, hfz']
  · simp [World.setCell, Array.getElem?_modify, hg]
end
end Go.Fd
namespace Go.Fd
open Go.RowKit
section
variable {P : Program} {ops : Array Oper} {Q : Exit → Act → World → Prop} {md : Region.Mode} {S : World → Prop} {f : Nat}
/-- Whatever order is picked from here on; S holds behind each operation as long as operation f has not come up. -/
def wpAnyF (P : Program) (md : Region.Mode) (ops : Array Oper) (Q : Exit → Act → World → Prop) (S : World → Prop) (f : Nat) : Nat → Array Bool → Act → World → Prop
  | 0, listed, a, w => Region.ready md ops listed = [] ∧ Q .normal a w
  | fuel + 1, listed, a, w =>
    (Region.ready md ops listed = [] → Q .normal a w) ∧
    ∀ i ∈ Region.ready md ops listed, wpOp P ops Q i (fun a' w' => ((listed.setIfInBounds i true).getD f true = false → S w') ∧ wpAnyF P md ops Q S f fuel (listed.setIfInBounds i true) a' w') a w
theorem wpAny_of_flag : ∀ (fuel : Nat) (listed : Array Bool) (a : Act) (w : World), wpAnyF P md ops Q S f fuel listed a w → wpAny P md ops Q fuel listed a w
  | 0, _, _, _, h => h
  | fuel + 1, _, _, _, h => ⟨h.1, fun i hi => wpOp_mono (fun a' w' h' => wpAny_of_flag fuel _ a' w' h'.2) (h.2 i hi)⟩
theorem getD_two {listed : Array Bool} {c : Nat} (h : listed.getD c true = false) : listed.getD c false = false := by
  rcases Nat.lt_or_ge c listed.size with h' | h'
  · simp [h'] at h ⊢; exact h
  · simp [Array.getElem?_eq_none h'] at h
theorem wpAnyF_first {i : Nat} {oi : Oper} {v : Value} {chain : List Nat} (hi : ops[i]? = some oi) (hsel : ∀ (j : Nat) (o : Oper) cs b, ops[j]? = some o → o.op ≠ .select cs b)
    (hQ : ∀ c a w, Q (.panic c) (a.put oi.dst v) w → Q (.panic c) a w) (hf : f ∈ chain) (hic : i ∉ chain) (hch : ∀ c ∈ chain, ∃ oc, ops[c]? = some oc ∧ ∃ e ∈ oc.after, Region.binds md e = true ∧ (e.on = i ∨ e.on ∈ chain)) :
    ∀ (fuel : Nat) (listed : Array Bool) (a : Act) (w : World),
      (∀ j oj, ops[j]? = some oj → j ≠ i → listed.getD j true = false → (∀ e ∈ oj.after, Region.binds md e = true → e.on ≠ i) → oi.apart ops oj = true) →
      i ∈ Region.ready md ops listed → (∀ c ∈ chain, listed.getD c true = false) → YieldsIf P ops S oi v a → S w →
      wpAnyF P md ops Q S f fuel (listed.setIfInBounds i true) (a.put oi.dst v) w → wpAnyF P md ops Q S f (fuel + 1) listed a w := by
  intro fuel
  induction fuel with
  | zero =>
    intro listed a w _ hr hc hy hS H
    refine ⟨fun h => (by rw [h] at hr; cases hr), fun j hj => ?_⟩
    by_cases hji : j = i
    · subst hji; exact hy.wpOp hi hS ⟨fun _ => hS, H⟩
    · have := ready_mono hj hji
      rw [H.1] at this
      cases this
  | succ fuel ih =>
    intro listed a w hfree hr hc hy hS H
    refine ⟨fun h => (by rw [h] at hr; cases hr), fun j hj => ?_⟩
    by_cases hji : j = i
    · subst hji; exact hy.wpOp hi hS ⟨fun _ => hS, H⟩
    · have h1 := H.2 j (ready_mono hj hji)
      obtain ⟨hjun, oj, hoj, hall⟩ := mem_ready.1 hj
      have hiun := getD_two (mem_ready.1 hr).1
      have hjc : j ∉ chain := fun hjc => by
        obtain ⟨oc, hoc, e, he, hb, hon⟩ := hch j hjc
        rw [hoj] at hoc
        cases hoc
        have h2 := hall e he hb
        rcases hon with hon | hon
        · rw [hon, hiun] at h2; cases h2
        · rw [getD_two (hc _ hon)] at h2; cases h2
      have hfi : i ≠ f := fun h => hic (h ▸ hf)
      have hfj : j ≠ f := fun h => hjc (h ▸ hf)
      have hnot : ∀ e ∈ oj.after, Region.binds md e = true → e.on ≠ i := fun e he hb heq => by
        have h1 := hall e he hb
        rw [heq, hiun] at h1
        cases h1
      have h2 := wpOp_putIf hoj (hfree j oj hoj hji hjun hnot) (fun cs b => hsel i oi cs b hi) (fun cs b => hsel j oj cs b hoj) hQ hy h1
      have hfree' : ∀ k ok, ops[k]? = some ok → k ≠ i → (listed.setIfInBounds j true).getD k true = false →
          (∀ e ∈ ok.after, Region.binds md e = true → e.on ≠ i) → oi.apart ops ok = true := fun k ok hk hki hun hno => by
        refine hfree k ok hk hki ?_ hno
        by_cases hjk : j = k
        · subst hjk; exact hjun
        · rw [getD_set_ne true hjk] at hun; exact hun
      have hfu : listed.getD f true = false := hc f hf
      refine wpOp_mono (fun a' w' h3 => ?_) h2
      have hS' : S w' := h3.2.1 (by rw [getD_set_ne true hfj, getD_set_ne true hfi]; exact hfu)
      refine ⟨fun _ => hS', ih (listed.setIfInBounds j true) a' w' hfree' (ready_mono hr (Ne.symm hji)) (fun c hcc => ?_) h3.1 hS' ?_⟩
      · rw [getD_set_ne true (fun h => hjc (by rw [h]; exact hcc))]; exact hc c hcc
      · rw [Array.setIfInBounds_comm _ _ hji]
        exact h3.2.2
/-- What yields in whatever world is taken first at any time. -/
theorem wpAnyF_pure {i : Nat} {oi : Oper} {v : Value} (hi : ops[i]? = some oi) (hsel : ∀ (j : Nat) (o : Oper) cs b, ops[j]? = some o → o.op ≠ .select cs b)
    (hQ : ∀ c a w, Q (.panic c) (a.put oi.dst v) w → Q (.panic c) a w) (hfi : i ≠ f) :
    ∀ (fuel : Nat) (listed : Array Bool) (a : Act) (w : World),
      (∀ j oj, ops[j]? = some oj → j ≠ i → listed.getD j true = false → (∀ e ∈ oj.after, Region.binds md e = true → e.on ≠ i) → oi.apart ops oj = true) →
      i ∈ Region.ready md ops listed → YieldsIf P ops (fun _ => True) oi v a → (listed.getD f true = false → S w) →
      wpAnyF P md ops Q S f fuel (listed.setIfInBounds i true) (a.put oi.dst v) w → wpAnyF P md ops Q S f (fuel + 1) listed a w := by
  intro fuel
  induction fuel with
  | zero =>
    intro listed a w _ hr hy hS H
    refine ⟨fun h => (by rw [h] at hr; cases hr), fun j hj => ?_⟩
    by_cases hji : j = i
    · subst hji; exact hy.wpOp hi trivial ⟨fun h => hS (by rw [getD_set_ne true hfi] at h; exact h), H⟩
    · have := ready_mono hj hji
      rw [H.1] at this
      cases this
  | succ fuel ih =>
    intro listed a w hfree hr hy hS H
    refine ⟨fun h => (by rw [h] at hr; cases hr), fun j hj => ?_⟩
    by_cases hji : j = i
    · subst hji; exact hy.wpOp hi trivial ⟨fun h => hS (by rw [getD_set_ne true hfi] at h; exact h), H⟩
    · have h1 := H.2 j (ready_mono hj hji)
      obtain ⟨hjun, oj, hoj, hall⟩ := mem_ready.1 hj
      have hiun := getD_two (mem_ready.1 hr).1
      have hnot : ∀ e ∈ oj.after, Region.binds md e = true → e.on ≠ i := fun e he hb heq => by
        have h1 := hall e he hb
        rw [heq, hiun] at h1
        cases h1
      have h2 := wpOp_putIf hoj (hfree j oj hoj hji hjun hnot) (fun cs b => hsel i oi cs b hi) (fun cs b => hsel j oj cs b hoj) hQ hy h1
      have hfree' : ∀ k ok, ops[k]? = some ok → k ≠ i → (listed.setIfInBounds j true).getD k true = false →
          (∀ e ∈ ok.after, Region.binds md e = true → e.on ≠ i) → oi.apart ops ok = true := fun k ok hk hki hun hno => by
        refine hfree k ok hk hki ?_ hno
        by_cases hjk : j = k
        · subst hjk; exact hjun
        · rw [getD_set_ne true hjk] at hun; exact hun
      refine wpOp_mono (fun a' w' h3 => ?_) h2
      have hS' : (listed.setIfInBounds j true).getD f true = false → S w' := fun h => h3.2.1 (by
        rw [← Array.setIfInBounds_comm _ _ hji, getD_set_ne true hfi]; exact h)
      refine ⟨hS', ih (listed.setIfInBounds j true) a' w' hfree' (ready_mono hr (Ne.symm hji)) h3.1 hS' ?_⟩
      rw [Array.setIfInBounds_comm _ _ hji]
      exact h3.2.2
theorem wp_region_flag {id : Nat} {a : Act} {w : World} (f : Nat) (S : World → Prop) (hm : P.follows .mixedOrders = true)
    (h : wpAnyF P .any ops Q S f ops.size (Array.replicate ops.size false) a { w with drawn := w.drawn + 1 }) : (Code.region id ops true).wp P Q a w :=
  wp_region_any hm (wpAny_of_flag _ _ _ _ h)
/-- The same, from a world of which it is known that it is the one ahead of the draw but for draws. -/
theorem wp_region_flagW {id : Nat} {a : Act} {w : World} (f : Nat) (hm : P.follows .mixedOrders = true)
    (h : ∀ wz, Below w.heap.size w wz → wz.heap.size = w.heap.size → wpAnyF P .any ops Q (SAb w) f ops.size (Array.replicate ops.size false) a wz) : (Code.region id ops true).wp P Q a w :=
  wp_region_flag f (SAb w) hm (h _ (Below.refl _ _).drew rfl)
theorem flagOff {listed : Array Bool} {X : Prop} (h : listed.getD f true = true) : listed.getD f true = false → X := fun h' => by rw [h] at h'; cases h'
theorem wpAnyF_done {listed : Array Bool} {a : Act} {w : World} (hr : Region.ready md ops listed = []) (h : Q .normal a w) :
    ∀ fuel, wpAnyF P md ops Q S f fuel listed a w
  | 0 => ⟨hr, h⟩
  | _ + 1 => ⟨fun _ => h, by rw [hr]; simp⟩
end
section
variable {P : Program} {L : List Oper} {Q : Exit → Act → World → Prop} {w0 : World} {f fuel i : Nat} {listed : Array Bool} {a : Act} {w : World} {o : Oper}
def mayFirst (L : List Oper) (listed : Array Bool) (i : Nat) : Bool := Region.noSelect L.toArray && Region.free .any L.toArray listed i && (Region.ready .any L.toArray listed).contains i
def chainB (L : List Oper) (listed : Array Bool) (f i : Nat) (chain : List Nat) : Bool :=
  chain.contains f && !chain.contains i && chain.all fun c => (listed.getD c true == false) && (match L[c]? with | some oc => oc.after.any fun e => Region.binds .any e && (e.on == i || chain.contains e.on) | none => false)
theorem chainB_spec {chain : List Nat} (h : chainB L listed f i chain = true) : f ∈ chain ∧ i ∉ chain ∧ (∀ c ∈ chain, ∃ oc, L.toArray[c]? = some oc ∧ ∃ e ∈ oc.after, Region.binds .any e = true ∧ (e.on = i ∨ e.on ∈ chain)) ∧ ∀ c ∈ chain, listed.getD c true = false := by
  unfold chainB at h
  simp only [Bool.and_eq_true, List.all_eq_true, Bool.not_eq_true', List.contains_eq_mem, decide_eq_true_eq, decide_eq_false_iff_not, beq_iff_eq] at h
  obtain ⟨⟨h1, h2⟩, h3⟩ := h
  refine ⟨h1, h2, fun c hc => ?_, fun c hc => (h3 c hc).1⟩
  have h4 := (h3 c hc).2
  cases hL : L[c]? with
  | none => rw [hL] at h4; cases h4
  | some oc =>
    rw [hL] at h4
    simp only [Array.any_eq_true, Bool.and_eq_true, Bool.or_eq_true, beq_iff_eq, decide_eq_true_eq] at h4
    obtain ⟨k, hk, hb, ho⟩ := h4
    exact ⟨oc, by simpa using hL, _, Array.getElem_mem hk, hb, ho⟩
/-- An operation that reads, taken first: f waits for it. -/
theorem flag_quiet (chain : List Nat) (hi : L[i]? = some o) (hB : mayFirst L listed i = true) (hc : chainB L listed f i chain = true) (hw : Region.wanted o (yielded L.toArray a.tmps) = true) (hv : valB o = true)
    (hQ : ∀ v c a w, Q (.panic c) (a.put o.dst v) w → Q (.panic c) a w) (hb : Below w0.heap.size w0 w)
    (h : ∀ K : Act → Prop, (∀ a, wpAnyF P .any L.toArray Q (SAb w0) f fuel (listed.setIfInBounds i true) a w → K a) → o.quiet P a (fun w => ∃ x : Above w0, w = x.w) K) : wpAnyF P .any L.toArray Q (SAb w0) f (fuel + 1) listed a w := by
  unfold mayFirst at hB
  simp only [Bool.and_eq_true] at hB
  obtain ⟨⟨h1, h2⟩, h3⟩ := hB
  obtain ⟨k1, k2, k3, k4⟩ := chainB_spec hc
  obtain ⟨v, q1, q2⟩ := h (fun a => wpAnyF P .any L.toArray Q (SAb w0) f fuel (listed.setIfInBounds i true) a w) (fun _ h => h)
  have hi' : L.toArray[i]? = some o := by simpa using hi
  refine wpAnyF_first hi' (Region.noSelect_spec h1) (hQ v) k1 k2 k3 fuel listed a w (Region.free_spec hi' h2) (by simpa using h3) k4 (.inl ⟨hw, fun w' hw' => ?_⟩) hb q2
  have := q1 w' ⟨⟨w', hw'⟩, rfl⟩
  unfold Oper.quietAt at this
  generalize hr : (execOp a.eval o).run P w' = res at this
  cases res with
  | halt x w2 => exact this.elim
  | ok n w2 =>
    obtain ⟨u, rfl⟩ := valB_spec hv hr
    obtain ⟨rfl, rfl⟩ := (this : w2 = w' ∧ u = v)
    rfl
/-- An operation that looks at no world, taken first. -/
theorem flag_pure (hi : L[i]? = some o) (hB : (mayFirst L listed i && !(i == f)) = true) (hw : Region.wanted o (yielded L.toArray a.tmps) = true) (hv : valB o = true)
    (hQ : ∀ v c a w, Q (.panic c) (a.put o.dst v) w → Q (.panic c) a w) (hb : listed.getD f true = false → Below w0.heap.size w0 w)
    (h : ∀ K : Act → Prop, (∀ a, wpAnyF P .any L.toArray Q (SAb w0) f fuel (listed.setIfInBounds i true) a w → K a) → o.quiet P a (fun _ => True) K) : wpAnyF P .any L.toArray Q (SAb w0) f (fuel + 1) listed a w := by
  unfold mayFirst at hB
  simp only [Bool.and_eq_true, Bool.not_eq_true', beq_eq_false_iff_ne] at hB
  obtain ⟨⟨⟨h1, h2⟩, h3⟩, h4⟩ := hB
  obtain ⟨v, q1, q2⟩ := h (fun a => wpAnyF P .any L.toArray Q (SAb w0) f fuel (listed.setIfInBounds i true) a w) (fun _ h => h)
  have hi' : L.toArray[i]? = some o := by simpa using hi
  refine wpAnyF_pure hi' (Region.noSelect_spec h1) (hQ v) h4 fuel listed a w (Region.free_spec hi' h2) (by simpa using h3) (.inl ⟨hw, fun w' _ => ?_⟩) hb q2
  have := q1 w' trivial
  unfold Oper.quietAt at this
  generalize hr : (execOp a.eval o).run P w' = res at this
  cases res with
  | halt x w2 => exact this.elim
  | ok n w2 =>
    obtain ⟨u, rfl⟩ := valB_spec hv hr
    obtain ⟨rfl, rfl⟩ := (this : w2 = w' ∧ u = v)
    rfl
theorem flag_check {x : Operand} {p : Addr} (hi : L[i]? = some o) (hB : (mayFirst L listed i && !(i == f)) = true) (hw : Region.wanted o (yielded L.toArray a.tmps) = true) (ho : o.op = .nilCheck x) (hp : a.eval x = .pointer (some p))
    (hQ : ∀ v c a w, Q (.panic c) (a.put o.dst v) w → Q (.panic c) a w) (hb : listed.getD f true = false → Below w0.heap.size w0 w)
    (h : wpAnyF P .any L.toArray Q (SAb w0) f fuel (listed.setIfInBounds i true) (a.put o.dst (.pointer (some p))) w) : wpAnyF P .any L.toArray Q (SAb w0) f (fuel + 1) listed a w := by
  unfold mayFirst at hB
  simp only [Bool.and_eq_true, Bool.not_eq_true', beq_eq_false_iff_ne] at hB
  obtain ⟨⟨⟨h1, h2⟩, h3⟩, h4⟩ := hB
  have hi' : L.toArray[i]? = some o := by simpa using hi
  exact wpAnyF_pure (v := .pointer (some p)) hi' (Region.noSelect_spec h1) (hQ _) h4 fuel listed a w (Region.free_spec hi' h2) (by simpa using h3) (.inl ⟨hw, fun w' _ => by simp only [execOp, ho, hp]; rfl⟩) hb h
/-- One operation alone may come up. -/
theorem flag_one (hr : Region.ready .any L.toArray listed = [i]) (hi : L[i]? = some o)
    (h : wpList P L.toArray (Exit.then (fun a' w' => ((listed.setIfInBounds i true).getD f true = false → SAb w0 w') ∧ wpAnyF P .any L.toArray Q (SAb w0) f fuel (listed.setIfInBounds i true) a' w') Q) [o] a w) : wpAnyF P .any L.toArray Q (SAb w0) f (fuel + 1) listed a w := by
  refine ⟨(fun h0 => by rw [hr] at h0; cases h0), fun j hj => ?_⟩
  rw [hr, List.mem_singleton] at hj
  subst hj
  exact wpOp_of_list (by simpa using hi) h
end
end Go.Fd
