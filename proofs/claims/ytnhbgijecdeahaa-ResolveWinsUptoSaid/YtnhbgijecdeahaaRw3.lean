/-
  Part 3 of 6: laws and walks for resolve_all; no condition of its own.
-/
import Derived.Test.YtnhbgijecdeahaaRw2
import Derived.Laws.CopyOwn
import Derived.Laws.Externs
import Derived.Lib.AppendZerosOnto
import Derived.Lib.Overlaps
import Derived.Deep.DeepCutAuto
import Derived.Deep.RegionLaw
import Derived.DeepKeys4
namespace Go.Fd
open Go.RowKit
theorem grown_below {w w' : World} (h : Below w.heap.size w w') (row : Option Nat) : w.grownBy w' row := ⟨h.os, h.tape, h.output, h.size, fun k hk _ => h.block k hk⟩
/-- 'copy' into a row, elements of 'size' cells. -/
theorem run_copyR {P : Program} (w : World) {dT sT ty elem : TypeId} {size n g o dLen dCap : Nat} {a : Addr} {sLen sCap : Nat} {cur : Array Value} {t : TypeId} {cs : List Value} (hu : P.underlying dT = some (.slice elem)) (hs : (P.info? elem).map (·.size) = some size)
    (hg : w.heap[g]? = some (.cells cur t (0, 0))) (hn : n = Nat.min sLen dLen) (hl : cs.length = n * size) (hsrc : ∀ j v, cs[j]? = some v → w.cell? (a.add j) = some v) (hfit : o + cs.length ≤ cur.size) (h1 : ∀ v ∈ cs, v.oneCell' = true) :
    (Builtin.copy_ #[dT, sT] ty #[.slice (some ⟨g, o, none⟩) dLen dCap, .slice (some a) sLen sCap]).run P w = .ok (goInt n) (w.setRow g (splice cur.toList o cs).toArray) := by
  have hf := run_firstCells_some (P := P) w size n a sLen sCap cs hl hsrc
  have hst := run_storeCells_at P g o t cs 0 cur w hg (by simpa using hfit) h1
  cases hq : P.info? elem with
  | none => simp [hq] at hs
  | some i =>
    have hi : i.size = size := by simpa [hq] using hs
    subst hi
    simp [Builtin.copy_, run_underlying hu, Builtin.lenOf, sizeOf, typeInfo, hq, ← hn, hf, hst, splice]
theorem wpList_copyR {P : Program} {ops : Array Oper} {rest : List Oper} {Q : Exit → Act → World → Prop} {a : Act} {w : World} {d : Option Tmp} {dT sT ty elem : TypeId} {pos : String} {aft : Array Edge} {x y : Operand} {size g o dLen dCap g2 o2 sLen sCap : Nat} {cur : Array Value} {t : TypeId}
    (n O O2 : Nat) (cs : List Value) (hx : a.eval x = .slice (some ⟨g, o, none⟩) dLen dCap) (hy : a.eval y = .slice (some ⟨g2, o2, none⟩) sLen sCap) (hu : P.underlying dT = some (.slice elem)) (hs : (P.info? elem).map (·.size) = some size)
    (hg : w.heap[g]? = some (.cells cur t (0, 0))) (ho : o = O) (ho2 : o2 = O2) (hn : n = Nat.min sLen dLen) (hl : cs.length = n * size) (hsrc : ∀ j v, cs[j]? = some v → w.cell? ⟨g2, O2 + j, none⟩ = some v) (hfit : O + cs.length ≤ cur.size) (h1 : ∀ v ∈ cs, v.oneCell' = true)
    (h : ∀ w', Hid (w'.heap[g]? = some (.cells (splice cur.toList O cs).toArray t (0, 0))) → w.grownBy w' (some g) → wpList P ops Q rest (a.put d (goInt n)) w') :
    wpList P ops Q (⟨d, .call { callee := .builtin .copy, args := #[x, y], argTypes := #[dT, sT] }, ty, pos, aft, none⟩ :: rest) a w := by
  subst ho ho2
  have hrun := run_copyR (ty := ty) (dCap := dCap) (sCap := sCap) (a := ⟨g2, o2, none⟩) (o := o) (sT := sT) w hu hs hg hn hl (fun j v hj => by
    rw [Addr.add_lit]
    exact hsrc j v hj) hfit h1
  refine wpList_val rfl (v := goInt n) (w' := w.setRow g (splice cur.toList o cs).toArray) ?_ (h _ (setRow_heap w g cur _ t _ hg) ⟨rfl, rfl, rfl, by simp [World.setRow], fun k _ hk => setRow_other w g k _ fun e => hk (by rw [e])⟩)
  simp [execOp, resolve, invoke, builtin, hx, hy, hrun, Result.andThen]
theorem splice_get {α : Type} {L cs : List α} {o j : Nat} (h : o ≤ L.length) : (splice L o cs)[j]? = if j < o then L[j]? else if j < o + cs.length then cs[j - o]? else L[j]? := by
  unfold splice
  rw [List.getElem?_append, List.length_take, Nat.min_eq_left h]
  by_cases h1 : j < o
  · rw [if_pos h1, if_pos h1, List.getElem?_take, if_pos h1]
  · rw [if_neg h1, if_neg h1, List.getElem?_append]
    by_cases h2 : j < o + cs.length
    · rw [if_pos h2, if_pos (by omega)]
    · rw [if_neg h2, if_neg (by omega), List.getElem?_drop]
      congr 1
      omega
theorem length_splice' {α : Type} {L cs : List α} {o : Nat} (h : o + cs.length ≤ L.length) : (splice L o cs).length = L.length := length_splice L o cs h
/-- Room made, and a record put there. -/
theorem shift_row {α : Type} {C X Y : List α} {i n : Nat} (hC : C.take (n * 2) = X) (hX : X.length = 2 * n) (hY : Y.length = 2) (hl : (n + 1) * 2 ≤ C.length) (hi : i ≤ n) :
    (splice (splice C ((i + 1) * 2) (X.drop (2 * i))) (i * 2) Y).take ((n + 1) * 2) = X.take (2 * i) ++ (Y ++ X.drop (2 * i)) := by
  have hcx : ∀ j, j < n * 2 → C[j]? = X[j]? := fun j hj => by rw [← hC, List.getElem?_take, if_pos hj]
  have hd : (X.drop (2 * i)).length = 2 * n - 2 * i := by rw [List.length_drop, hX]
  have hl2 : (splice C ((i + 1) * 2) (X.drop (2 * i))).length = C.length := length_splice' (by rw [hd]; omega)
  apply List.ext_getElem?
  intro j
  rw [List.getElem?_take, splice_get (by rw [hl2]; omega), splice_get (by omega), hY, hd, List.getElem?_append, List.getElem?_append, List.length_take, hX, hY, Nat.min_eq_left (show 2 * i ≤ 2 * n by omega), List.getElem?_take, List.getElem?_drop, List.getElem?_drop]
  by_cases h1 : j < 2 * i
  · rw [if_pos (by omega), if_pos (by omega), if_pos (by omega), if_pos h1, if_pos h1]
    exact hcx j (by omega)
  · rw [if_neg h1]
    by_cases h2 : j < 2 * i + 2
    · rw [if_pos (by omega), if_neg (by omega), if_pos (by omega), if_pos (by omega)]
      congr 1
      omega
    · rw [if_neg (show ¬ j - 2 * i < 2 by omega)]
      by_cases h3 : j < (n + 1) * 2
      · rw [if_pos h3, if_neg (by omega), if_neg (by omega), if_neg (by omega), if_pos (by omega)]
        congr 1
        omega
      · rw [if_neg h3]
        exact (List.getElem?_eq_none (by omega)).symm
/-- The same in a new row. -/
theorem grow_row {α : Type} {C X Y Z : List α} {i n : Nat} (hC : C = X.take (2 * i) ++ Z) (hX : X.length = 2 * n) (hY : Y.length = 2) (hl : (n + 1) * 2 ≤ C.length) (hi : i ≤ n) :
    (splice (splice C (i * 2) Y) ((i + 1) * 2) (X.drop (2 * i))).take ((n + 1) * 2) = X.take (2 * i) ++ (Y ++ X.drop (2 * i)) := by
  have hcx : ∀ j, j < i * 2 → C[j]? = X[j]? := fun j hj => by
    rw [hC, List.getElem?_append_left (by rw [List.length_take, hX]; omega), List.getElem?_take, if_pos (by omega)]
  have hd : (X.drop (2 * i)).length = 2 * n - 2 * i := by rw [List.length_drop, hX]
  have hl2 : (splice C (i * 2) Y).length = C.length := length_splice' (by rw [hY]; omega)
  apply List.ext_getElem?
  intro j
  rw [List.getElem?_take, splice_get (by rw [hl2]; omega), splice_get (by omega), hY, hd, List.getElem?_append, List.getElem?_append, List.length_take, hX, hY, Nat.min_eq_left (show 2 * i ≤ 2 * n by omega), List.getElem?_take, List.getElem?_drop, List.getElem?_drop]
  by_cases h1 : j < 2 * i
  · rw [if_pos (by omega), if_pos (by omega), if_pos (by omega), if_pos h1, if_pos h1]
    exact hcx j (by omega)
  · rw [if_neg h1]
    by_cases h2 : j < 2 * i + 2
    · rw [if_pos (by omega), if_pos (by omega), if_neg (by omega), if_pos (by omega), if_pos (by omega)]
      congr 1
      omega
    · rw [if_neg (show ¬ j - 2 * i < 2 by omega)]
      by_cases h3 : j < (n + 1) * 2
      · rw [if_pos h3, if_neg (by omega), if_pos (by omega)]
        congr 1
        omega
      · rw [if_neg h3]
        exact (List.getElem?_eq_none (by omega)).symm
end Go.Fd
namespace Go.Proofs.Ytnhbgijecdeahaa
open Go.RowKit Go.Fd
theorem TPr : SliceT Try.prog 101 123 2 24 := SliceT.mk' (z := .agg #[.string ⟨#[]⟩, .int .i64 0]) (by kernel_rfl) (by kernel_rfl) rfl (by omega)
theorem onePr (l : List PrM) : ∀ v ∈ l.flatMap encPr, v.oneCell' = true := by
  intro v hv
  obtain ⟨p, -, hp⟩ := List.mem_flatMap.1 hv
  unfold encPr at hp
  simp only [List.mem_cons, List.not_mem_nil, or_false] at hp
  rcases hp with rfl | rfl <;> rfl
theorem flatPr (l : List PrM) : (l.flatMap encPr).length = 2 * l.length := by rw [flat_len encPr_len]; omega
theorem prTake (l : List PrM) : ∀ i, (l.take i).flatMap encPr = (l.flatMap encPr).take (2 * i) := by
  induction l with
  | nil => intro i; simp
  | cons x l ih =>
    intro i
    cases i with
    | zero => simp
    | succ i =>
      rw [List.take_succ_cons, List.flatMap_cons, List.flatMap_cons, ih, show 2 * (i + 1) = 2 * i + 1 + 1 by omega]
      simp [encPr]
theorem prDrop (l : List PrM) : ∀ i, (l.drop i).flatMap encPr = (l.flatMap encPr).drop (2 * i) := by
  induction l with
  | nil => intro i; simp
  | cons x l ih =>
    intro i
    cases i with
    | zero => simp
    | succ i =>
      rw [List.drop_succ_cons, ih, List.flatMap_cons, show 2 * (i + 1) = 2 * i + 1 + 1 by omega]
      simp [encPr]
/-- 'append(s[:i], make(S, k)...)', no room: a new row. -/
theorem wpList_growZ {ops : Array Oper} {rest : List Oper} {Q : Exit → Act → World → Prop} {a : Act} {w : World} {d : Option Tmp} {ty : TypeId} {pos : String} {aft : Array Edge} {x y : Operand} {g cap : Nat} {z : Int} (i k : Nat) (olds : List Value)
    (hx : a.eval x = .slice (some ⟨g, 0, none⟩) i cap) (hy : a.eval y = .int .i64 z) (hz : z = (k : Int)) (hl : olds.length = i * 2) (hsrc : ∀ j v, olds[j]? = some v → w.cell? ⟨g, j, none⟩ = some v) (h0 : 0 < k) (hroom : cap < i + k) (hn : i + k ≤ 2000000)
    (h : ∀ C row w', i + k ≤ C → C ≤ maxLen → Hid (w'.heap[w.heap.size]? = some (.cells row 123 (0, 0))) → (∃ Z, row.toList = olds ++ Z) → row.size = C * 2 → Below w.heap.size w w' → wpList Try.prog ops Q rest (a.put d (.slice (some ⟨w.heap.size, 0, none⟩) (i + k) C)) w') :
    wpList Try.prog ops Q (⟨d, .call { callee := .builtin .append, args := #[x, y], argTypes := #[101, 3] }, ty, pos, aft, none⟩ :: rest) a w := by
  subst hz
  obtain ⟨i0, z0, hi0, hz0, hs0, hb0, hzz⟩ := TPr.info
  have hold : (Builtin.firstCells i0.size i (.slice (some ⟨g, 0, none⟩) i cap)).run Try.prog w.drew = .ok olds.toArray w.drew := by
    rw [hs0]
    exact run_firstCells_some w.drew 2 i ⟨g, 0, none⟩ i cap olds hl fun j v hj => by
      rw [Addr.add_lit, Nat.zero_add]
      exact hsrc j v hj
  have hrun := Lib.run_append_grow_zeros (P := Try.prog) w 101 3 ty 123 i0 z0 .i64 .i64 TPr.ht (by kernel_rfl) hi0 hz0 (some ⟨g, 0, none⟩) i cap olds hold k h0 (by omega) hroom (by omega) (by rw [hb0]; omega) (by rw [hb0]; exact growslice_fits hroom (by omega))
  have hge := grownCap_ge w (i + k) cap 123
  have hmx := grownCap_le_maxLen w (i + k) cap 123 (by unfold maxLen; omega)
  generalize grownCap w (i + k) cap 123 = C at *
  refine wpList_val rfl (v := .slice (some ⟨w.heap.size, 0, none⟩) (i + k) C) (w' := w.drew.alloc (.cells (olds.toArray ++ Builtin.zeroCells z0.cells k ++ Builtin.zeroCells z0.cells (C - (i + k))) 123)) ?_ ?_
  · simp [execOp, resolve, invoke, builtin, hx, hy, hrun, Result.andThen]
  · refine h C _ _ hge hmx (heap_alloc_new w.drew _) ⟨(Builtin.zeroCells z0.cells k).toList ++ (Builtin.zeroCells z0.cells (C - (i + k))).toList, ?_⟩ ?_ ((Below.refl _ w).drew.alloc (Nat.le_refl _) _)
    · simp
    · simp only [Array.size_append, List.size_toArray, size_zeroCells, hzz, hl]
      omega
set_option maxHeartbeats 4000000 in
set_option maxRecDepth 100000 in
/-- There is room. -/
theorem insert_room (L : List PrM) (x : PrM) (i base g cap gv : Nat) (cur : Array Value) (w : World) (hb : base ≤ g) (hg : w.heap[g]? = some (.cells cur 123 (0, 0))) (hcm : cap ≤ maxLen) (hcs : cur.size = cap * 2) (ht : cur.toList.take (L.length * 2) = L.flatMap encPr)
    (hv : w.heap[gv]? = some (.cells (encPr x).toArray 123 (0, 0))) (hne : gv ≠ g) (hi : i < L.length) (hn : L.length ≤ 1000000) (hroom : L.length + 1 ≤ cap) :
    Calls Try.prog 51 #[.slice (some ⟨g, 0, none⟩) L.length cap, .int .i64 (i : Int), .slice (some ⟨gv, 0, none⟩) 1 1] w fun e w' => ∃ lv', e = .returned lv' ∧ OwR 2 encPr 123 w' base lv' (L.take i ++ x :: L.drop i) ∧ w.grownBy w' (some g) := by
  obtain ⟨n, hN⟩ : ∃ n, n = L.length := ⟨_, rfl⟩
  rw [← hN] at hi hn hroom ⊢
  have HN := Lib.hid hN
  have HG := Lib.hid hg
  have HV := Lib.hid hv
  have HT := Lib.hid ht
  have HCS := Lib.hid hcs
  have HCM := Lib.hid hcm
  have hcm2 : cap ≤ 9223372036854775807 := by unfold maxLen at hcm; omega
  have hov : ∀ off lb cb, (callFunc 70 #[.slice (some ⟨gv, 0, none⟩) 1 1, .slice (some ⟨g, off, none⟩) lb cb]).run Try.prog w = .ok (.value (.bool false)) w := fun off lb cb => by
    rw [run_callFunc_extern Try.func70 (by kernel_rfl) (by kernel_rfl) (by kernel_rfl) (e := Extern.SlicesOverlaps.overlaps #[101, 101] #[4]) (by kernel_rfl),
      Lib.run_overlaps_apart w 101 4 123 TPr.ht 2 (fun w => by kernel_rfl) ⟨gv, 0, none⟩ ⟨g, off, none⟩ 1 1 lb cb hne 123 123 2 cur.size (by simp [World.shape?, hv, encPr]) (by simp [World.shape?, hg]) (by rw [hcs]; omega) (by simp [World.frozen?, hv]) (by simp [World.frozen?, hv])]
    rfl
  have d1 : decide (i = n) = false := decide_eq_false (by omega)
  have d2 : ((i : Int) == (n : Int)) = false := by simp; omega
  have d3 : decide ((n : Int) + 1 > (cap : Int)) = false := by simp; omega
  clear hN hg hv ht hcs hcm
  go_enter Try.func51, Try.ntmps51
  go_wp2_with (simp only [hov])
  refine wp_region_walk 8 [] (by kernel_rfl) (by kernel_rfl) ?_
  simp only [List.take_succ_cons, List.take_zero, List.drop_succ_cons, List.drop_zero]
  repeat (refine walk_quiet rfl rfl rfl ?_; intro K hK; go_big_quiet_op; go_big_quiet_on)
  refine walk_nil ?_
  intro wz hbz hF
  clear hF
  have HGz := Lib.hid (heap_below hbz HG.out)
  have HVz := Lib.hid (heap_below hbz HV.out)
  have HGR := Lib.hid (grown_below hbz (some g))
  have HX := Lib.hid (flatPr L)
  have HC := Lib.hid (show cur.toList.length = cap * 2 by rw [Array.length_toList]; exact HCS.out)
  have HIN := Lib.hid (show (L.take i ++ x :: L.drop i).flatMap encPr = (L.flatMap encPr).take (2 * i) ++ (encPr x ++ (L.flatMap encPr).drop (2 * i)) by rw [List.flatMap_append, List.flatMap_cons, prTake, prDrop])
  have HO := Lib.hid (onePr L)
  have HT2 := Lib.hid (show cur.toList.take (n * 2) = L.flatMap encPr by rw [HN.out]; exact HT.out)
  generalize L.flatMap encPr = X at *
  have hdl : (X.drop (2 * i)).length = (n - i) * 2 := by rw [List.length_drop, HX.out, ← HN.out]; omega
  have HDL := Lib.hid hdl
  have HLE := Lib.hid (show (n + 1) * 2 ≤ cur.toList.length by rw [HC.out]; omega)
  clear hbz hdl
  refine wpList_copyR (size := 2) (n - i) ((i + 1) * 2) (i * 2) (X.drop (2 * i)) rfl rfl TPr.ht (by kernel_rfl) HGz.out (by simp) (by simp) (by simp only [Nat.min_def]; split <;> omega) HDL.out ?_ (by have := HDL.out; have := HCS.out; omega) (fun v hv => HO.out v (List.mem_of_mem_drop hv)) ?_
  · intro j v hj
    rw [cell_rec HGz.out]
    rw [List.getElem?_drop, ← HT2.out, List.getElem?_take] at hj
    split at hj
    · rw [← Array.getElem?_toList, ← hj]
      congr 1
      omega
    · cases hj
  intro w2 HG2 hg2
  have HV2 := Lib.hid ((hg2.block gv (Array.getElem?_eq_some_iff.1 HVz.out).1 (by simpa using hne)).trans HVz.out)
  have HGR2 := Lib.hid (grownBy_trans HGR.out hg2)
  have HL2 := Lib.hid (length_splice' (L := cur.toList) (o := (i + 1) * 2) (cs := X.drop (2 * i)) (by have := HDL.out; have := HC.out; omega))
  have HS2 := Lib.hid (shift_row (Y := encPr x) HT2.out (by rw [HX.out, HN.out]) rfl HLE.out (Nat.le_of_lt hi))
  generalize splice cur.toList ((i + 1) * 2) (X.drop (2 * i)) = C2 at *
  clear hg2
  go_wp2_with ((with_reducible show wpList _ _ _ (⟨some 82, _, _, _, _, _⟩ :: _) _ _); go_must (refine wpList_copyR (size := 2) 1 (i * 2) 0 (encPr x) rfl rfl TPr.ht (by kernel_rfl) HG2.out (by simp) (by simp) (by simp only [Nat.min_def]; split <;> omega) rfl (fun j v hj => by rw [Nat.zero_add, cell_rec HV2.out, ← hj]; simp) (by have := HL2.out; have := HC.out; simp [encPr]; omega) (fun v hv => onePr [x] v (by simpa using hv)) ?_; intro w3 HG3 hg3; have HGR3 := Lib.hid (grownBy_trans HGR2.out hg3); have HL3 := Lib.hid (length_splice' (L := C2) (o := i * 2) (cs := encPr x) (by have := HL2.out; have := HC.out; simp [encPr]; omega)); generalize splice C2 (i * 2) (encPr x) = C3 at *; clear hg3))
  go_ret
  refine ⟨_, rfl, ?_, HGR3.out⟩
  have hle : (L.take i ++ x :: L.drop i).length = n + 1 := by
    rw [List.length_append, List.length_cons, List.length_take, List.length_drop, ← HN.out, Nat.min_eq_left (Nat.le_of_lt hi)]
    omega
  unfold OwR
  rw [HIN.out, hle]
  refine ⟨?_, .inr ⟨g, cap, C3.toArray, rfl, hb, HG3.out, hroom, HCM.out, ?_, ?_⟩⟩
  · rw [← HS2.out, List.length_take]
    have h1 := HL3.out
    have h2 := HL2.out
    have h3 := HC.out
    omega
  · have h1 := HL3.out
    have h2 := HL2.out
    have h3 := HC.out
    simp only [List.size_toArray]
    omega
  · simpa using HS2.out
set_option maxHeartbeats 4000000 in
set_option maxRecDepth 100000 in
/-- There is no room. -/
theorem insert_grow (L : List PrM) (x : PrM) (i base g cap gv : Nat) (cur : Array Value) (w : World) (hb : base ≤ w.heap.size) (hg : w.heap[g]? = some (.cells cur 123 (0, 0))) (hcm : cap ≤ maxLen) (_hcs : cur.size = cap * 2) (ht : cur.toList.take (L.length * 2) = L.flatMap encPr)
    (hv : w.heap[gv]? = some (.cells (encPr x).toArray 123 (0, 0))) (hi : i < L.length) (hn : L.length ≤ 1000000) (hroom : cap < L.length + 1) (hc : L.length ≤ cap) :
    Calls Try.prog 51 #[.slice (some ⟨g, 0, none⟩) L.length cap, .int .i64 (i : Int), .slice (some ⟨gv, 0, none⟩) 1 1] w fun e w' => ∃ lv', e = .returned lv' ∧ OwR 2 encPr 123 w' base lv' (L.take i ++ x :: L.drop i) ∧ w.grownBy w' (some g) := by
  obtain ⟨n, hN⟩ : ∃ n, n = L.length := ⟨_, rfl⟩
  rw [← hN] at hi hn hroom hc ⊢
  obtain rfl : cap = n := by omega
  have HN := Lib.hid hN
  have hlt := (Array.getElem?_eq_some_iff.1 hg).1
  have hltv := (Array.getElem?_eq_some_iff.1 hv).1
  have HG := Lib.hid hg
  have HV := Lib.hid hv
  have HX := Lib.hid (flatPr L)
  have HIN := Lib.hid (show (L.take i ++ x :: L.drop i).flatMap encPr = (L.flatMap encPr).take (2 * i) ++ (encPr x ++ (L.flatMap encPr).drop (2 * i)) by rw [List.flatMap_append, List.flatMap_cons, prTake, prDrop])
  have HO := Lib.hid (onePr L)
  have HT2 := Lib.hid (show cur.toList.take (cap * 2) = L.flatMap encPr by rw [hN]; exact ht)
  generalize L.flatMap encPr = X at *
  have HGC := Lib.hid (fun j v (hj : X[j]? = some v) => show w.cell? ⟨g, j, none⟩ = some v by
    rw [cell_rec HG.out]
    rw [← HT2.out, List.getElem?_take] at hj
    split at hj
    · rw [← Array.getElem?_toList, ← hj]
    · cases hj)
  have HDL := Lib.hid (show (X.drop (2 * i)).length = (cap - i) * 2 by rw [List.length_drop, HX.out, ← HN.out]; omega)
  have HTL := Lib.hid (show (X.take (2 * i)).length = i * 2 by rw [List.length_take, HX.out, ← HN.out]; omega)
  have d1 : decide (i = cap) = false := decide_eq_false (by omega)
  have d2 : ((i : Int) == (cap : Int)) = false := by simp; omega
  have d3 : decide ((cap : Int) + 1 > (cap : Int)) = true := by simp; omega
  have hcm2 : cap ≤ 9223372036854775807 := by unfold maxLen at hcm; omega
  clear hN hg hv ht _hcs hcm
  go_enter Try.func51, Try.ntmps51
  go_wp2_with (first
    | ((with_reducible show wpList _ _ _ (⟨some 40, _, _, _, _, _⟩ :: _) _ _); go_must (refine wpList_growZ i (cap + 1 - i) (X.take (2 * i)) rfl rfl (by omega) HTL.out (fun j v hj => HGC.out j v (by rw [List.getElem?_take] at hj; split at hj; exact hj; cases hj)) (by omega) (by omega) (by omega) ?_; intro C row w1 hC1 hC2 HR1 hz hs hb1; rw [show i + (cap + 1 - i) = cap + 1 by omega] at *; have HZ := Lib.hid hz; have HS := Lib.hid hs; have HB1 := Lib.hid hb1; have HC2 := Lib.hid hC2; have hC3 : C ≤ 9223372036854775807 := (by unfold maxLen at hC2; omega); clear hz hs hb1 hC2))
    | ((with_reducible show wpList _ _ _ (⟨some 45, _, _, _, _, _⟩ :: _) _ _); go_must (refine wpList_copyR (size := 2) 1 (i * 2) 0 (encPr x) rfl rfl TPr.ht (by kernel_rfl) HR1.out (by simp) (by simp) (by simp only [Nat.min_def]; split <;> omega) rfl (fun j v hj => by rw [Nat.zero_add, cell_rec (heap_below HB1.out HV.out), ← hj]; simp) (by have := HS.out; simp [encPr]; omega) (fun v hv => onePr [x] v (by simpa using hv)) ?_; intro w2 HR2 hg2; have HGR2 := Lib.hid hg2; clear hg2)))
  go_frame
  refine wp_region_walk 8 [] (by kernel_rfl) (by kernel_rfl) ?_
  simp only [List.take_succ_cons, List.take_zero, List.drop_succ_cons, List.drop_zero]
  repeat (refine walk_quiet rfl rfl rfl ?_; intro K hK; go_big_quiet_op; go_big_quiet_on)
  refine walk_nil ?_
  intro wz hbz hF
  clear hF
  have hgs : g ≠ w.heap.size := Nat.ne_of_lt hlt
  have HRz := Lib.hid (heap_below hbz HR2.out)
  have HGz := Lib.hid (heap_below hbz ((HGR2.out.block g (Nat.lt_of_lt_of_le hlt HB1.out.size) (by simpa using hgs)).trans (heap_below HB1.out HG.out)))
  have HGR := Lib.hid (grownBy_trans HGR2.out (grown_below hbz (some w.heap.size)))
  have HL2 := Lib.hid (length_splice' (L := row.toList) (o := i * 2) (cs := encPr x) (by have := HS.out; simp [encPr]; omega))
  obtain ⟨Z, hZ⟩ := HZ.out
  have HS2 := Lib.hid (grow_row (Y := encPr x) (n := cap) hZ (by rw [HX.out, HN.out]) rfl (by have := HS.out; simp; omega) (Nat.le_of_lt hi))
  generalize splice row.toList (i * 2) (encPr x) = C2 at *
  clear hZ hbz
  refine wpList_copyR (size := 2) (cap - i) ((i + 1) * 2) (i * 2) (X.drop (2 * i)) rfl rfl TPr.ht (by kernel_rfl) HRz.out (by simp) (by simp) (by simp only [Nat.min_def]; split <;> omega) HDL.out ?_ (by have := HDL.out; have := HL2.out; have := HS.out; simp at *; omega) (fun v hv => HO.out v (List.mem_of_mem_drop hv)) ?_
  · intro j v hj
    rw [cell_rec HGz.out, ← cell_rec HG.out]
    exact HGC.out (i * 2 + j) v (by rw [← hj, List.getElem?_drop]; congr 1; omega)
  intro w3 HR3 hg3
  have HGR3 := Lib.hid (grownBy_trans HGR.out hg3)
  have HL3 := Lib.hid (length_splice' (L := C2) (o := (i + 1) * 2) (cs := X.drop (2 * i)) (by have := HDL.out; have := HL2.out; have := HS.out; simp at *; omega))
  generalize splice C2 ((i + 1) * 2) (X.drop (2 * i)) = C3 at *
  clear hg3
  go_wp2
  go_ret
  refine ⟨_, rfl, ?_, ⟨HGR3.out.os.trans HB1.out.os, HGR3.out.tape.trans HB1.out.tape, HGR3.out.output.trans HB1.out.output, Nat.le_trans HB1.out.size HGR3.out.size, fun k hk _ => (HGR3.out.block k (Nat.lt_of_lt_of_le hk HB1.out.size) (by simpa using Nat.ne_of_lt hk)).trans (HB1.out.block k hk)⟩⟩
  have hle : (L.take i ++ x :: L.drop i).length = cap + 1 := by
    rw [List.length_append, List.length_cons, List.length_take, List.length_drop, ← HN.out, Nat.min_eq_left (Nat.le_of_lt hi)]
    omega
  unfold OwR
  rw [HIN.out, hle]
  refine ⟨?_, .inr ⟨w.heap.size, C, C3.toArray, rfl, hb, HR3.out, hC1, HC2.out, ?_, ?_⟩⟩
  · rw [← HS2.out, List.length_take]
    have h1 := HL3.out
    have h2 := HL2.out
    have h3 := HS.out
    simp at *
    omega
  · have h1 := HL3.out
    have h2 := HL2.out
    have h3 := HS.out
    simp at *
    omega
  · simpa using HS2.out
end Go.Proofs.Ytnhbgijecdeahaa
namespace Go.Proofs.Ytnhbgijecdeahaa
open Go.RowKit Go.Fd
set_option maxHeartbeats 4000000 in
set_option maxRecDepth 100000 in
/-- At the end. -/
theorem insert_end (L : List PrM) (x : PrM) (base gv : Nat) (lv : Value) (w : World) (hb : base ≤ w.heap.size) (ho : OwR 2 encPr 123 w base lv L)
    (hv : w.heap[gv]? = some (.cells (encPr x).toArray 123 (0, 0))) (hn : L.length ≤ 1000000) :
    Calls Try.prog 51 #[lv, .int .i64 (L.length : Int), .slice (some ⟨gv, 0, none⟩) 1 1] w fun e w' => ∃ lv', e = .returned lv' ∧ OwR 2 encPr 123 w' base lv' (L ++ [x]) ∧ w.grownBy w' lv.ownBlock := by
  have HO := Lib.hid ho
  have HRV : Hid (Reads w 2 (.slice (some ⟨gv, 0, none⟩) 1 1) 1 (encPr x)) := ⟨rfl, _, 1, rfl, Nat.le_refl _, (fun h => by cases h), fun j hj => ⟨gv, 0, rfl, by rw [cell_rec hv]; simp⟩⟩
  have HON := Lib.hid (show (encPr x).all (·.oneCell') = true by simp [encPr, Value.oneCell'])
  obtain ⟨n, hN⟩ : ∃ n, n = L.length := ⟨_, rfl⟩
  have HN := Lib.hid hN
  rw [← hN] at hn ⊢
  clear hv
  rcases ho.2 with ⟨rfl, h0⟩ | ⟨g, cap, cur, rfl, hbg, hg, hnc, hcm, hcs, htk⟩
  · obtain rfl : n = 0 := hN.trans h0
    clear hN h0 ho
    go_enter Try.func51, Try.ntmps51
    go_wp2_with ((with_reducible show wpList _ _ _ (⟨some 25, _, _, _, _, _⟩ :: _) _ _); go_must (refine wpList_cat TPr HO.out HRV.out rfl rfl HON.out (by rw [← HN.out]; omega) (by rw [← HN.out]; omega) hb ?_; intro v2 w2 ho2 hg2 hb2; have HO2 := Lib.hid ho2; have HG2 := Lib.hid hg2; clear ho2 hg2 hb2))
    go_ret
    refine ⟨_, rfl, ?_, HG2.out⟩
    unfold OwR
    rw [List.flatMap_append, List.flatMap_singleton, List.length_append]
    exact HO2.out
  · have hcm2 : cap ≤ 9223372036854775807 := by unfold maxLen at hcm; omega
    rw [← hN] at hnc HO ⊢
    have d2 : ((n : Int) == (n : Int)) = true := by simp
    clear hN htk hcs hcm hg ho
    go_enter Try.func51, Try.ntmps51
    go_wp2_with ((with_reducible show wpList _ _ _ (⟨some 25, _, _, _, _, _⟩ :: _) _ _); go_must (refine wpList_cat TPr HO.out HRV.out rfl rfl HON.out (by rw [← HN.out]; omega) (by rw [← HN.out]; omega) hb ?_; intro v2 w2 ho2 hg2 hb2; have HO2 := Lib.hid ho2; have HG2 := Lib.hid hg2; clear ho2 hg2 hb2))
    all_goals go_ret
    all_goals refine ⟨_, rfl, ?_, HG2.out⟩
    all_goals unfold OwR
    all_goals rw [List.flatMap_append, List.flatMap_singleton, List.length_append]
    all_goals exact HO2.out
/-- slices.Insert of one pair. -/
theorem insert_any (L : List PrM) (x : PrM) (i base gv : Nat) (lv : Value) (w : World) (hb : base ≤ w.heap.size) (ho : OwR 2 encPr 123 w base lv L)
    (hv : w.heap[gv]? = some (.cells (encPr x).toArray 123 (0, 0))) (hne : ∀ g, lv.ownBlock = some g → gv ≠ g) (hi : i ≤ L.length) (hn : L.length ≤ 1000000) :
    Calls Try.prog 51 #[lv, .int .i64 (i : Int), .slice (some ⟨gv, 0, none⟩) 1 1] w fun e w' => ∃ lv', e = .returned lv' ∧ OwR 2 encPr 123 w' base lv' (L.take i ++ x :: L.drop i) ∧ w.grownBy w' lv.ownBlock := by
  by_cases h : i = L.length
  · subst h
    rw [List.take_length, List.drop_length]
    exact insert_end L x base gv lv w hb ho hv hn
  · rcases ho.2 with ⟨rfl, h0⟩ | ⟨g, cap, cur, rfl, hbg, hg, hnc, hcm, hcs, htk⟩
    · omega
    · by_cases hr : L.length + 1 ≤ cap
      · exact insert_room L x i base g cap gv cur w hbg hg hcm hcs htk hv (hne g rfl) (by omega) hn hr
      · exact insert_grow L x i base g cap gv cur w hb hg hcm hcs htk hv (by omega) hn (by omega) hnc
theorem own_stirs {α : Type} {k : Nat} {enc : α → List Value} {e : TypeId} {w w' : World} {base : Nat} {v : Value} {l : List α} {B : Nat → Prop} (h : OwR k enc e w base v l) (hs : Stirs B w w') (hn : ∀ k, v.ownBlock = some k → ¬ B k) : OwR k enc e w' base v l := by
  refine ⟨h.1, ?_⟩
  rcases h.2 with h2 | ⟨g, cap, cur, rfl, hg, hh, r⟩
  · exact .inl h2
  · exact .inr ⟨g, cap, cur, rfl, hg, hs.kept hh (hn g rfl), r⟩
/-- A table in memory. -/
structure TabIs (w : World) (base g : Nat) (lv : Value) (L : List PrM) : Prop where
  box : w.heap[g]? = some (.cells #[.bool true, lv] 103 (0, 0))
  row : OwR 2 encPr 123 w base lv L
  srt : Srt L
  low : base ≤ g
theorem TabIs.mono {w w' : World} {base g : Nat} {lv : Value} {L : List PrM} (h : TabIs w base g lv L) (hb : Below w.heap.size w w') : TabIs w' base g lv L :=
  ⟨heap_below hb h.box, h.row.mono hb, h.srt, h.low⟩
theorem TabIs.stirs {w w' : World} {base g : Nat} {lv : Value} {L : List PrM} {B : Nat → Prop} (h : TabIs w base g lv L) (hs : Stirs B w w') (h1 : ¬ B g) (h2 : ∀ k, lv.ownBlock = some k → ¬ B k) : TabIs w' base g lv L :=
  ⟨hs.kept h.box h1, own_stirs h.row hs h2, h.srt, h.low⟩
/-- A pair put into its key's place. -/
def putT (L : List PrM) (k : List UInt8) (v : Int) : List PrM := if foundK L k = true then L.set (lowK L k) (k, v) else L.take (lowK L k) ++ (k, v) :: L.drop (lowK L k)
def getT (L : List PrM) (k : List UInt8) : Int := if foundK L k = true then (L[lowK L k]?.elim 0 (·.2)) else 0
set_option maxHeartbeats 4000000 in
set_option maxRecDepth 100000 in
theorem tbFind_any (base g : Nat) (lv : Value) (L : List PrM) (k : List UInt8) (w : World) (h : TabIs w base g lv L) (hn : L.length ≤ 1000000) :
    Calls Try.prog 50 #[.pointer (some ⟨g, 0, none⟩), S k] w fun e w' => e = .returned (.tuple #[.int .i64 (lowK L k : Nat), .bool (foundK L k)]) ∧ Below w.heap.size w w' := by
  have HC := Lib.hid (fun w' (hb : Below w.heap.size w w') => search_any L k lv w' (h.mono hb).row.rd h.srt hn)
  have c0 := cell_rec h.box 0
  have c1 := cell_rec h.box 1
  generalize lowK L k = low at *
  generalize foundK L k = fk at *
  clear h hn
  go_enter Try.func50, Try.ntmps50
  go_wp2_with (go_at_call 67; refine (HC.out _ (Below.refl _ _)).mono ?_; rintro e w2 ⟨rfl, hb2⟩; have HB2 := Lib.hid hb2; clear hb2)
  go_ret2
  exact ⟨rfl, HB2.out⟩
set_option maxHeartbeats 4000000 in
set_option maxRecDepth 100000 in
theorem tbGet_any (base g : Nat) (lv : Value) (L : List PrM) (k : List UInt8) (w : World) (h : TabIs w base g lv L) (hn : L.length ≤ 1000000) :
    Calls Try.prog 38 #[.pointer (some ⟨g, 0, none⟩), S k] w fun e w' => e = .returned (.tuple #[.int .i64 (getT L k), .bool (foundK L k)]) ∧ Below w.heap.size w w' := by
  have HC := Lib.hid (tbFind_any base g lv L k w h hn)
  have HG : Hid (getT L k = if foundK L k = true then (L[lowK L k]?.elim 0 (·.2)) else 0) := rfl
  have HF : Hid (foundK L k = match L[lowK L k]? with | some p => decide (p.1 = k) | none => false) := rfl
  have HB := Lib.hid h.box
  have HR := Lib.hid h.row.rd
  obtain ⟨a, cap, hlv, hcap, -, hP⟩ := h.row.rd.open encPr_len
  have HP := Lib.hid hP
  subst hlv
  obtain ⟨n, hN⟩ : ∃ n, n = L.length := ⟨_, rfl⟩
  rw [← hN] at hn hcap HB
  have HN := Lib.hid hN
  generalize getT L k = gk at *
  generalize lowK L k = low at *
  clear h hP hN HR
  cases hfk : foundK L k with
  | true =>
    rw [hfk] at HC HG HF
    cases hp : L[low]? with
    | none => rw [hp] at HF; exact absurd HF.out (by simp)
    | some p =>
      have hlo : low < n := by have := HN.out; have := (List.getElem?_eq_some_iff.1 hp).1; omega
      have HGK := Lib.hid (show gk = p.2 by rw [HG.out, if_pos rfl, hp]; rfl)
      have HPP := Lib.hid (fun wr (hb : Below w.heap.size w wr) => pr_cells HP.out hb hp)
      clear hp hfk HF HG
      go_enter Try.func38, Try.ntmps38
      go_wp2_with (go_at_call 50; refine HC.out.mono ?_; rintro e w2 ⟨rfl, hb2⟩; have HB2 := Lib.hid hb2; have HX2 := Lib.hid (heap_below hb2 HB.out); obtain ⟨b, o, rfl, e0, e1, hb0⟩ := HPP.out _ hb2; have c0 := cell_rec HX2.out 0; have c1 := cell_rec HX2.out 1; clear hb2)
      go_ret2
      exact ⟨by rw [HGK.out]; rfl, HB2.out⟩
  | false =>
    rw [hfk] at HC HG HF
    have hg0 : gk = 0 := by rw [HG.out]; simp
    subst hg0
    go_enter Try.func38, Try.ntmps38
    go_wp2_with (go_at_call 50; refine HC.out.mono ?_; rintro e w2 ⟨rfl, hb2⟩; have HB2 := Lib.hid hb2; clear hb2)
    go_ret2
    exact ⟨rfl, HB2.out⟩
theorem tbNew_any (w : World) : Calls Try.prog 23 #[] w fun e w' => e = .returned (.pointer (some ⟨w.heap.size, 0, none⟩)) ∧ TabIs w' w.heap.size w.heap.size (.slice none 0 0) [] ∧ Below w.heap.size w w' := by
  go_enter Try.func23, Try.ntmps23
  go_wp2_with ((with_reducible show wpList _ _ _ (⟨some _, .box _ _, _, _, _, _⟩ :: _) _ _); go_must (refine wpList_box rfl ?_; intro w1 hx1 hb1 hs1; have HX1 := Lib.hid hx1; have HB1 := Lib.hid hb1; clear hx1 hb1))
  go_ret
  exact ⟨rfl, ⟨HX1.out, OwR.nil _ _ _ _ _, List.Pairwise.nil, Nat.le_refl _⟩, HB1.out⟩
/-- All but tables and their rows is kept. -/
abbrev KeepT (w w' : World) : Prop := ∀ (b : Nat) (o : Obj), w.heap[b]? = some o → (∀ cs t fr, o = Obj.cells cs t fr → t ≠ 103 ∧ t ≠ 123) → w'.heap[b]? = some o
theorem putT_srt {L : List PrM} (hs : Srt L) (k : List UInt8) (v : Int) : Srt (putT L k v) := by
  unfold putT
  split
  · rename_i hf
    unfold foundK at hf
    split at hf
    · rename_i p hp
      have hk : p.1 = k := by simpa using hf
      have e : (L.set (lowK L k) (k, v)).map (·.1) = L.map (·.1) := by
        rw [List.map_set]
        apply List.ext_getElem?
        intro j
        rw [List.getElem?_set]
        split
        · rename_i hj
          subst hj
          have hlt := (List.getElem?_eq_some_iff.1 hp).1
          rw [if_pos (by simpa using hlt), List.getElem?_map, hp]
          simp [hk]
        · rfl
      have h1 : (L.map (·.1)).Pairwise (· < ·) := List.pairwise_map.2 hs
      rw [← e] at h1
      exact List.pairwise_map.1 h1
    · cases hf
  · rename_i hf
    have hlow := lowK_le L k
    refine List.pairwise_append.2 ⟨hs.sublist (List.take_sublist _ _), List.pairwise_cons.2 ⟨fun y hy => ?_, hs.sublist (List.drop_sublist _ _)⟩, fun a ha b hb => ?_⟩
    · obtain ⟨j, hj⟩ := List.mem_iff_getElem?.1 hy
      rw [List.getElem?_drop] at hj
      have h1 : ¬ y.1 < k := fun e => by
        have := (lowK_iff hs hj).1 e
        omega
      have h2 : y.1 ≠ k := fun e => hf ((foundK_iff hs k).2 (List.mem_map.2 ⟨y, List.mem_of_getElem? hj, e⟩))
      rcases List.le_iff_lt_or_eq.1 (List.not_lt.1 h1) with h | h
      · exact h
      · exact absurd h.symm h2
    · obtain ⟨j, hj⟩ := List.mem_iff_getElem?.1 ha
      rw [List.getElem?_take] at hj
      split at hj
      · rename_i hlt
        have h1 : a.1 < k := (lowK_iff hs hj).2 hlt
        rcases List.mem_cons.1 hb with rfl | hb
        · exact h1
        · obtain ⟨i, hi⟩ := List.mem_iff_getElem?.1 hb
          rw [List.getElem?_drop] at hi
          have := List.pairwise_iff_getElem.1 hs _ _ (List.getElem?_eq_some_iff.1 hj).1 (List.getElem?_eq_some_iff.1 hi).1 (by omega)
          rwa [(List.getElem?_eq_some_iff.1 hj).2, (List.getElem?_eq_some_iff.1 hi).2] at this
      · cases hj
theorem prSet (l : List PrM) : ∀ (i : Nat) (p : PrM) (v : Int), l[i]? = some p → (l.set i (p.1, v)).flatMap encPr = (l.flatMap encPr).set (i * 2 + 1) (.int .i64 v) := by
  induction l with
  | nil => intro i p v h; simp at h
  | cons x l ih =>
    intro i p v h
    cases i with
    | zero =>
      rw [List.getElem?_cons_zero] at h
      cases h
      rfl
    | succ i =>
      rw [List.getElem?_cons_succ] at h
      rw [List.set_cons_succ, List.flatMap_cons, List.flatMap_cons, ih i p v h, show (i + 1) * 2 + 1 = (i * 2 + 1) + 1 + 1 by omega]
      rfl
set_option maxHeartbeats 4000000 in
set_option maxRecDepth 100000 in
theorem tbPut_any (base g : Nat) (lv : Value) (L : List PrM) (k : List UInt8) (v : Int) (w : World) (h : TabIs w base g lv L) (hn : L.length ≤ 1000000) (hb : base ≤ w.heap.size) :
    Calls Try.prog 37 #[.pointer (some ⟨g, 0, none⟩), S k, .int .i64 v] w fun e w' => e = .returned (.bool (!foundK L k)) ∧ (∃ lv', TabIs w' base g lv' (putT L k v)) ∧ Below base w w' ∧ KeepT w w' := by
  have HC := Lib.hid (tbFind_any base g lv L k w h hn)
  have HT := Lib.hid h
  have HSRT := Lib.hid (putT_srt h.srt k v)
  have HPU : Hid (putT L k v = if foundK L k = true then L.set (lowK L k) (k, v) else L.take (lowK L k) ++ (k, v) :: L.drop (lowK L k)) := rfl
  have HF : Hid (foundK L k = match L[lowK L k]? with | some p => decide (p.1 = k) | none => false) := rfl
  have HB := Lib.hid h.box
  have HLO := Lib.hid (lowK_le L k)
  have hgt : ∀ gl, lv.ownBlock = some gl → gl ≠ g := fun gl hgl e => by
    subst e
    rcases h.row.2 with ⟨rfl, -⟩ | ⟨g2, cap, cur, rfl, -, hh, -⟩
    · cases hgl
    · cases hgl
      rw [h.box] at hh
      injection hh with hh
      injection hh with _ hh
      exact absurd hh (by decide)
  have c0 := cell_rec h.box 0
  have HKT : Hid (∀ w', Stirs (fun b => b = g ∨ lv.ownBlock = some b) w w' → KeepT w w' ∧ Below base w w') := Lib.hid fun w' hst => by
    refine ⟨fun b o hbo ht => hst.kept hbo ?_, hst.below hb ?_⟩
    · rintro (rfl | hl)
      · rw [h.box] at hbo
        cases hbo
        exact (ht _ _ _ rfl).1 rfl
      · rcases h.row.2 with ⟨rfl, -⟩ | ⟨g2, cap, cur, rfl, -, hh, -⟩
        · cases hl
        · cases hl
          rw [hh] at hbo
          cases hbo
          exact (ht _ _ _ rfl).2 rfl
    · rintro b (rfl | hl)
      · exact h.low
      · exact (World.ownsRow.lt h.row b hl).1
  have hgw : g < w.heap.size := (Array.getElem?_eq_some_iff.1 h.box).1
  generalize lowK L k = low at *
  generalize putT L k v = PU at *
  cases hfk : foundK L k with
  | true =>
    rw [hfk] at HC HPU HF
    cases hp : L[low]? with
    | none => rw [hp] at HF; exact absurd HF.out (by simp)
    | some p =>
      rcases h.row.2 with ⟨rfl, h0⟩ | ⟨gl, cap, cur, rfl, hbg, hg, hnc, hcm, hcs, htk⟩
      · have := (List.getElem?_eq_some_iff.1 hp).1; omega
      obtain ⟨n, hN⟩ : ∃ n, n = L.length := ⟨_, rfl⟩
      rw [← hN] at hn hnc HB
      have hlo : low < n := by have := (List.getElem?_eq_some_iff.1 hp).1; omega
      have HROW : Hid (∀ w2 w3, Below w.heap.size w w2 → w3.heap[gl]? = some (.cells (cur.setIfInBounds (low * 2 + 1) (.int .i64 v)) 123 (0, 0)) → Stirs (fun b => b = gl) w2 w3 → (∃ lv', TabIs w3 base g lv' PU) ∧ Below base w w3 ∧ KeepT w w3) := Lib.hid fun w2 w3 hb2 h3 hs3 => by
        have hPL : PU.length = L.length := by rw [HPU.out, if_pos rfl, List.length_set]
        have hst : Stirs (fun b => b = g ∨ (Value.slice (some ⟨gl, 0, none⟩) L.length cap).ownBlock = some b) w w3 := (Stirs.of_below hb2).trans hs3 fun b _ hb => .inr (by rw [hb]; rfl)
        refine ⟨⟨_, hs3.kept (heap_below hb2 h.box) (fun e => hgt gl rfl e.symm), ⟨?_, .inr ⟨gl, cap, _, (by rw [hPL]), hbg, h3, ?_, hcm, by simpa using hcs, ?_⟩⟩, HSRT.out, h.low⟩, (HKT.out w3 hst).2, (HKT.out w3 hst).1⟩
        · rw [flatPr]; omega
        · rw [HPU.out, if_pos rfl, List.length_set, ← hN]; exact hnc
        · have hk : p.1 = k := by have := HF.out; rw [hp] at this; simpa using this.symm
          rw [HPU.out, if_pos rfl, List.length_set, Array.toList_setIfInBounds, ← hk, prSet L low p v hp, ← htk, List.take_set]
      have HG := Lib.hid hg
      have HSZ := Lib.hid (show low * 2 + 1 < cur.size by rw [hcs]; omega)
      have hcm2 : cap ≤ 9223372036854775807 := by unfold maxLen at hcm; omega
      clear h hp hN hg htk hcs hcm HT HF HKT
      go_enter Try.func37, Try.ntmps37
      go_wp2_with (first
        | (go_at_call 50; refine HC.out.mono ?_; rintro e w2 ⟨rfl, hb2⟩; have HB2 := Lib.hid hb2; have HX2 := Lib.hid (heap_below hb2 HB.out); have HG2 := Lib.hid (heap_below hb2 HG.out); have c1 := cell_rec HX2.out 1; clear hb2)
        | ((with_reducible show wpList _ _ _ (⟨none, .store _ (.tmp 32) _, _, _, _, _⟩ :: _) _ _); go_must (refine wpList_setN HG2.out HSZ.out rfl rfl hbg (Nat.le_trans hb HB2.out.size) (fun w => by kernel_rfl) ?_; intro w3 hh3 hb3 hs3; have HR3 := Lib.hid (HROW.out _ _ HB2.out hh3 hs3); clear hh3 hb3 hs3)))
      go_ret
      exact ⟨rfl, HR3.out⟩
  | false =>
    rw [hfk] at HC HPU HF
    have HR := Lib.hid h.row
    obtain ⟨n, a, cap, hN, hlv, hcap, -⟩ := h.row.rd.shape
    have HIN : Hid (∀ w2, Below w.heap.size w w2 → Calls Try.prog 51 #[lv, .int .i64 (low : Nat), .slice (some ⟨w2.heap.size, 0, none⟩) 1 1] (w2.alloc (.cells #[S k, .int .i64 v] 123)) fun e w' => ∃ lv', e = .returned lv' ∧ OwR 2 encPr 123 w' base lv' PU ∧ (w2.alloc (.cells #[S k, .int .i64 v] 123)).grownBy w' lv.ownBlock) := Lib.hid fun w2 hb2 => by
      have hba := below_alloc w2 (.cells #[S k, .int .i64 v] 123)
      have hr := (HR.out.mono hb2).mono hba
      rw [HPU.out]
      exact insert_any L (k, v) low base w2.heap.size lv _ (Nat.le_trans hb (Nat.le_trans hb2.size hba.size)) hr (heap_alloc_new w2 _) (fun gl hgl e => absurd (e ▸ (World.ownsRow.lt HR.out gl hgl).2) (Nat.not_lt.2 hb2.size)) HLO.out hn
    have HFI : Hid (∀ w2 w3 w4 lv', Below w.heap.size w w2 → (w2.alloc (.cells #[S k, .int .i64 v] 123)).grownBy w3 lv.ownBlock → OwR 2 encPr 123 w3 base lv' PU → w3.heap[g]? = some (.cells #[.bool true, lv] 103 (0, 0)) → w4.heap[g]? = some (.cells #[.bool true, lv'] 103 (0, 0)) → Stirs (fun b => b = g) w3 w4 → (∃ lv', TabIs w4 base g lv' PU) ∧ Below base w w4 ∧ KeepT w w4) := Lib.hid fun w2 w3 w4 lv' hb2 hg3 ho3 hx3 h4 hs4 => by
      have hst : Stirs (fun b => b = g ∨ lv.ownBlock = some b) w w4 := ((Stirs.of_below hb2).trans ((Stirs.of_below (below_alloc w2 _)).trans (Stirs.of_grown hg3 (S := fun b => lv.ownBlock = some b) fun b hb => hb) fun _ _ h => h) fun _ _ h => .inr h).trans hs4 fun b _ hb => .inl hb
      refine ⟨⟨lv', h4, own_stirs ho3 hs4 (fun gl hgl e => ?_), HSRT.out, h.low⟩, (HKT.out w4 hst).2, (HKT.out w4 hst).1⟩
      subst e
      rcases ho3.2 with ⟨rfl, -⟩ | ⟨g2, cap2, cur, rfl, -, hh, -⟩
      · cases hgl
      · cases hgl
        rw [hx3] at hh
        injection hh with hh
        injection hh with _ hh
        exact absurd hh (by decide)
    have HBG : Hid (∀ w2 w3, Below w.heap.size w w2 → (w2.alloc (.cells #[S k, .int .i64 v] 123)).grownBy w3 lv.ownBlock → w3.heap[g]? = some (.cells #[.bool true, lv] 103 (0, 0)) ∧ base ≤ w3.heap.size) := Lib.hid fun w2 w3 hb2 hg3 => by
      have hba := below_alloc w2 (.cells #[S k, .int .i64 v] 123)
      have hx := heap_below hba (heap_below hb2 HB.out)
      exact ⟨(hg3.block g (Array.getElem?_eq_some_iff.1 hx).1 (fun e => hgt g e.symm rfl)).trans hx, Nat.le_trans hb (Nat.le_trans hb2.size (Nat.le_trans hba.size hg3.size))⟩
    have hlow := h.low
    subst hlv
    clear h hfk HT HF HKT HR hcap hN
    go_enter Try.func37, Try.ntmps37
    go_wp2_with (first
      | (go_at_call 50; refine HC.out.mono ?_; rintro e w2 ⟨rfl, hb2⟩; have HB2 := Lib.hid hb2; have HX2 := Lib.hid (heap_below hb2 HB.out); have c1 := cell_rec HX2.out 1; clear hb2)
      | (go_at_call 51; refine (HIN.out _ HB2.out).mono ?_; rintro e w3 ⟨lv3, rfl, ho3, hg3⟩; have HO3 := Lib.hid ho3; have HG3 := Lib.hid hg3; obtain ⟨hx3, hbs3⟩ := HBG.out _ _ HB2.out hg3; have HX3 := Lib.hid hx3; have c3 := cell_rec hx3 1; obtain ⟨n3, a3, cap3, hn3, rfl, -, -⟩ := ho3.shape; clear ho3 hg3 hx3)
      | ((with_reducible show wpList _ _ _ (⟨none, .store _ _ _, _, _, _, _⟩ :: _) _ _); go_must (refine wpList_set HX3.out (show 1 < 2 by decide) rfl rfl hlow hbs3 (fun w => by kernel_rfl) ?_; intro w4 hh4 hb4 hs4; have HR4 := Lib.hid (HFI.out _ _ _ _ HB2.out HG3.out HO3.out HX3.out hh4 hs4); clear hh4 hb4 hs4)))
    go_ret
    exact ⟨rfl, HR4.out⟩
end Go.Proofs.Ytnhbgijecdeahaa
namespace Go.Proofs.Ytnhbgijecdeahaa
open Go.RowKit Go.Fd
theorem TPart : SliceT Try.prog 33 70 6 96 := SliceT.mk' (z := .agg #[.string ⟨#[]⟩, .string ⟨#[]⟩, .int .i64 0, .int .i64 0, .slice none 0 0, .slice none 0 0]) (by kernel_rfl) (by kernel_rfl) rfl (by omega)
end Go.Proofs.Ytnhbgijecdeahaa
namespace Go.Proofs.Ytnhbgijecdeahaa
open Go.RowKit Go.Fd
theorem obRow2 {P : Program} {fn : Func} {p u : Tmp} {ty : TypeId} (h : fn.results = #[.cell p ty, .tmp u]) (tmps : Array Value) (w : World) (g : Nat) (t : TypeId) (cs : Array Value) (fr : Nat × Nat) (d : TypeDesc)
    (hp : tmps.getD p undef = .pointer (some ⟨g, 0, none⟩)) (hg : w.heap[g]? = some (.cells cs t fr))
    (hu : P.underlying ty = some d) (hd : (match d with | .struct _ | .array _ _ => true | _ => false) = true) (hi : (P.info? ty).map (·.size) = some cs.size) :
    (results fn tmps).run P w = .ok (.tuple #[.agg cs, tmps.getD u undef]) w := by
  rw [results_cell_tmp h, hp]
  simp [asAddr, Result.andThen, run_loadVar_row w g t ty cs fr d hg hu hd hi]
end Go.Proofs.Ytnhbgijecdeahaa
namespace Go.Fd
open Go.RowKit
section
variable {P : Program} {L : List Oper} {Q : Exit → Act → World → Prop} {S : World → Prop} {fuel i : Nat} {listed : Array Bool} {a : Act} {w : World} {o : Oper}
structure Of (S : World → Prop) where
  w : World
  h : S w
theorem heldS_quiet (hi : L[i]? = some o) (hB : (Region.noSelect L.toArray && Region.free .any L.toArray listed i && (Region.ready .any L.toArray listed).contains i) = true) (hw : Region.wanted o (yielded L.toArray a.tmps) = true) (hv : valB o = true) [_hne : Nonempty (Of S)]
    (hQ : ∀ v c a w, Q (.panic c) (a.put o.dst v) w → Q (.panic c) a w) (hb : S w)
    (h : ∀ K : Act → Prop, (∀ a, wpAnyH P .any L.toArray Q S fuel (listed.setIfInBounds i true) a w → K a) → o.quiet P a (fun w => ∃ x : Of S, w = x.w) K) : wpAnyH P .any L.toArray Q S (fuel + 1) listed a w := by
  simp only [Bool.and_eq_true] at hB
  obtain ⟨⟨h1, h2⟩, h3⟩ := hB
  obtain ⟨v, k1, k2⟩ := h (fun a => wpAnyH P .any L.toArray Q S fuel (listed.setIfInBounds i true) a w) (fun _ h => h)
  refine wpAnyH_take (i := i) (oi := o) (v := v) (by simpa using hi) h1 h2 h3 (hQ v) (.inl ⟨hw, fun w' hw' => ?_⟩) hb k2
  have := k1 w' ⟨⟨w', hw'⟩, rfl⟩
  unfold Oper.quietAt at this
  generalize hr : (execOp a.eval o).run P w' = res at this
  cases res with
  | halt x w2 => exact this.elim
  | ok n w2 =>
    obtain ⟨u, rfl⟩ := valB_spec hv hr
    obtain ⟨rfl, rfl⟩ := (this : w2 = w' ∧ u = v)
    rfl
theorem heldS_check {x : Operand} {p : Addr} (hi : L[i]? = some o) (hB : (Region.noSelect L.toArray && Region.free .any L.toArray listed i && (Region.ready .any L.toArray listed).contains i) = true) (hw : Region.wanted o (yielded L.toArray a.tmps) = true) (ho : o.op = .nilCheck x) (hp : a.eval x = .pointer (some p))
    (hQ : ∀ v c a w, Q (.panic c) (a.put o.dst v) w → Q (.panic c) a w) (hb : S w)
    (h : wpAnyH P .any L.toArray Q S fuel (listed.setIfInBounds i true) (a.put o.dst (.pointer (some p))) w) : wpAnyH P .any L.toArray Q S (fuel + 1) listed a w := by
  simp only [Bool.and_eq_true] at hB
  obtain ⟨⟨h1, h2⟩, h3⟩ := hB
  exact wpAnyH_take (i := i) (oi := o) (v := .pointer (some p)) (by simpa using hi) h1 h2 h3 (hQ _) (.inl ⟨hw, fun w' _ => by simp only [execOp, ho, hp]; rfl⟩) hb h
/-- One operation alone may come up. -/
theorem heldS_one (hr : Region.ready .any L.toArray listed = [i]) (hi : L[i]? = some o)
    (h : wpList P L.toArray (Exit.then (fun a' w' => S w' ∧ wpAnyH P .any L.toArray Q S fuel (listed.setIfInBounds i true) a' w') Q) [o] a w) : wpAnyH P .any L.toArray Q S (fuel + 1) listed a w := by
  refine wpAnyH_all hr (by simp) ?_
  intro j hj
  rw [List.mem_singleton] at hj
  subst hj
  exact wpOp_of_list (by simpa using hi) h
end
end Go.Fd
namespace Go.Proofs.Ytnhbgijecdeahaa
open Go.RowKit Go.Fd
/-- A module in memory of its own. -/
structure ObjOwn (w : World) (base : Nat) (o : ObjM) (PL : List (PartM × Value × Value)) (pv sv : Value) : Prop where
  parts : o.parts = PL.map (·.1)
  po : OwR 6 encPart 70 w base pv PL
  data : ∀ p ∈ PL, OB w base p.2.1 p.1.data
  rela : ∀ p ∈ PL, OwR 4 encRela 86 w base p.2.2 p.1.relas
  so : OwR 6 encSym 44 w base sv o.syms
  apd : PL.Pairwise fun p q => ∀ k, p.2.1.ownBlock = some k → q.2.1.ownBlock ≠ some k
  apr : PL.Pairwise fun p q => ∀ k, p.2.2.ownBlock = some k → q.2.2.ownBlock ≠ some k
theorem ObjOwn.at {w : World} {base : Nat} {o : ObjM} {PL : List (PartM × Value × Value)} {pv sv : Value} (h : ObjOwn w base o PL pv sv) : ObjAt w o PL pv sv :=
  ⟨h.parts, h.po.rd, fun p hp => (h.data p hp).bs, fun p hp => (h.rela p hp).rd, h.so.rd⟩
abbrev objZ : Array Value := #[.int .i64 0, .slice none 0 0, .slice none 0 0]
theorem cells_ne {w : World} {a b : Nat} {c1 c2 : Array Value} {t1 t2 : TypeId} {f1 f2 : Nat × Nat} (h1 : w.heap[a]? = some (.cells c1 t1 f1)) (h2 : w.heap[b]? = some (.cells c2 t2 f2)) (hne : t1 ≠ t2) : a ≠ b := fun e => by
  rw [e, h2] at h1
  injection h1 with h1
  injection h1 with _ h1 _
  exact hne h1.symm
section
variable {w wr w1 w2 w' : World} {base g r b mb : Nat} {bx : Array Value} {tg : Int} {pc sc pc' sc' pv pv' sv sv' : Value} {PL : List (PartM × Value × Value)} {Y Y' : List SymM} {A A' : List (List UInt8 × Nat)}
end
end Go.Proofs.Ytnhbgijecdeahaa
namespace Go.Proofs.Ytnhbgijecdeahaa
open Go.RowKit Go.Fd
theorem run_allocObj {a : Act} {w : World} {d : Option Tmp} {ty : TypeId} {pos : String} {aft : Array Edge} {g : Option (Nat × Bool)} :
    (execOp a.eval ⟨d, .alloc 36, ty, pos, aft, g⟩).run Try.prog w = .ok (.value (.pointer (some ⟨w.heap.size, 0, none⟩))) (w.alloc (.cells objZ 36)) := by
  kernel_rfl
theorem wpList_allocObj {ops : Array Oper} {rest : List Oper} {Q : Exit → Act → World → Prop} {a : Act} {w : World} {d : Option Tmp} {ty : TypeId} {pos : String} {aft : Array Edge}
    (h : ∀ w1, w1.heap[w.heap.size]? = some (.cells objZ 36 (0, 0)) → Below w.heap.size w w1 → w.heap.size < w1.heap.size → wpList Try.prog ops Q rest (a.put d (.pointer (some ⟨w.heap.size, 0, none⟩))) w1) :
    wpList Try.prog ops Q (⟨d, .alloc 36, ty, pos, aft, none⟩ :: rest) a w :=
  wpList_val rfl run_allocObj (h (w.alloc (.cells objZ 36)) (heap_alloc_last w _) (below_alloc w _) (by rw [World.size_alloc]; omega))
/-- A whole module into a block that was made; what else stays. -/
theorem wpList_storeObjS {ops : Array Oper} {rest : List Oper} {Q : Exit → Act → World → Prop} {a : Act} {w : World} {d : Option Tmp} {ty : TypeId} {pos : String} {aft : Array Edge} {p x : Operand} {c c' : Array Value} {g : Nat} (hg : w.heap[g]? = some (.cells c 36 (0, 0))) (hp : a.eval p = .pointer (some ⟨g, 0, none⟩)) (hx : a.eval x = .agg c')
    (ho : c.size = c'.size) (hs : c'.size = 3) (h1 : c'.all (·.oneCell') = true)
    (h : ∀ w1, w1.heap[g]? = some (.cells c' 36 (0, 0)) → Stirs (fun k => k = g) w w1 → wpList Try.prog ops Q rest (a.put d undef) w1) :
    wpList Try.prog ops Q (⟨d, .store 36 p x, ty, pos, aft, none⟩ :: rest) a w :=
  wpList_storeRowS hg hp hx ho (by rw [hs]; kernel_rfl) h1 h
end Go.Proofs.Ytnhbgijecdeahaa
namespace Go.Proofs.Ytnhbgijecdeahaa
open Go.RowKit Go.Fd
theorem ObjOwn.zero (w : World) (base : Nat) : ObjOwn w base objNo [] (.slice none 0 0) (.slice none 0 0) := ⟨rfl, OwR.nil _ _ _ _ _, (fun p hp => by cases hp), (fun p hp => by cases hp), OwR.nil _ _ _ _ _, List.Pairwise.nil, List.Pairwise.nil⟩
end Go.Proofs.Ytnhbgijecdeahaa
namespace Go.Proofs.Ytnhbgijecdeahaa
open Go.RowKit Go.Fd
theorem run_allocPart {a : Act} {w : World} {d : Option Tmp} {ty : TypeId} {pos : String} {aft : Array Edge} {g : Option (Nat × Bool)} :
    (execOp a.eval ⟨d, .alloc 70, ty, pos, aft, g⟩).run Try.prog w = .ok (.value (.pointer (some ⟨w.heap.size, 0, none⟩))) (w.alloc (.cells partZ 70)) := by
  kernel_rfl
theorem wpList_allocPart {ops : Array Oper} {rest : List Oper} {Q : Exit → Act → World → Prop} {a : Act} {w : World} {d : Option Tmp} {ty : TypeId} {pos : String} {aft : Array Edge}
    (h : ∀ w1, w1.heap[w.heap.size]? = some (.cells partZ 70 (0, 0)) → Below w.heap.size w w1 → w.heap.size < w1.heap.size → wpList Try.prog ops Q rest (a.put d (.pointer (some ⟨w.heap.size, 0, none⟩))) w1) :
    wpList Try.prog ops Q (⟨d, .alloc 70, ty, pos, aft, none⟩ :: rest) a w :=
  wpList_val rfl run_allocPart (h (w.alloc (.cells partZ 70)) (heap_alloc_last w _) (below_alloc w _) (by rw [World.size_alloc]; omega))
set_option maxHeartbeats 16000000 in
set_option maxRecDepth 100000 in
theorem refSame_eq (o : ObjM) (L M : List (PartM × Value × Value)) (pv sv pu su : Value) (w : World) (h : ObjAt w o L pv sv) (h' : ObjAt w o M pu su) (hl : o.parts.length ≤ 1000000) (hs : o.syms.length ≤ 1000000) (hr : ∀ p ∈ o.parts, p.relas.length ≤ 1000000) :
    Calls Try.prog 22 #[objV o pv sv, objV o pu su] w fun e w' => e = .returned (.bool true) ∧ Below w.heap.size w w' := by
  have HA := Lib.hid h
  have HA' := Lib.hid h'
  obtain ⟨pa, pc, rfl, hpc, -, hP⟩ := h.rd.open (fun _ => rfl)
  obtain ⟨qa, qc, rfl, hqc, -, hQ⟩ := h'.rd.open (fun _ => rfl)
  obtain ⟨sa, sc, rfl, hsc, -, hS⟩ := h.syms.open (fun _ => rfl)
  obtain ⟨ua, uc, rfl, huc, -, hU⟩ := h'.syms.open (fun _ => rfl)
  have HP := Lib.hid hP
  have HQ := Lib.hid hQ
  have HS := Lib.hid hS
  have HU := Lib.hid hU
  have hLn : L.length = o.parts.length := by rw [h.parts, List.length_map]
  have hMn : M.length = o.parts.length := by rw [h'.parts, List.length_map]
  have HLE : Hid (∀ (k : Nat) (p : PartM), o.parts[k]? = some p → ∃ dv rv, L[k]? = some (p, dv, rv)) := Lib.hid (fun k p hk => by
    rw [h.parts, List.getElem?_map, Option.map_eq_some_iff] at hk
    obtain ⟨⟨q, dv, rv⟩, hq, rfl⟩ := hk
    exact ⟨dv, rv, hq⟩)
  have HME : Hid (∀ (k : Nat) (p : PartM), o.parts[k]? = some p → ∃ dv rv, M[k]? = some (p, dv, rv)) := Lib.hid (fun k p hk => by
    rw [h'.parts, List.getElem?_map, Option.map_eq_some_iff] at hk
    obtain ⟨⟨q, dv, rv⟩, hq, rfl⟩ := hk
    exact ⟨dv, rv, hq⟩)
  have HRL := Lib.hid hr
  obtain ⟨target, parts, syms⟩ := o
  dsimp only at *
  rw [hLn] at hpc ⊢
  rw [hMn] at hqc ⊢
  obtain ⟨np, hnp⟩ : ∃ n, n = parts.length := ⟨_, rfl⟩
  obtain ⟨ns, hns⟩ : ∃ n, n = syms.length := ⟨_, rfl⟩
  rw [← hnp] at hpc hqc hl ⊢
  rw [← hns] at hsc huc hs ⊢
  have HNP := Lib.hid hnp
  have HNS := Lib.hid hns
  clear h h' hP hQ hS hU hLn hMn hnp hns hr
  go_enter Try.func22, Try.ntmps22
  go_wp2_with (first
    | ((with_reducible show wpList _ _ _ (⟨some 2, .box _ _, _, _, _, _⟩ :: _) _ _); go_must (refine wpList_box rfl ?_; intro w1 hx1 hb1 hs1; have HX1 := Lib.hid hx1; have HB1 := Lib.hid hb1; clear hx1 hb1))
    | ((with_reducible show wpList _ _ _ (⟨some 3, .box _ _, _, _, _, _⟩ :: _) _ _); go_must (refine wpList_box rfl ?_; intro w2 hx2 hb2 hs2; have HX2 := Lib.hid hx2; have HX12 := Lib.hid (heap_below hb2 HX1.out); have HB2 := Lib.hid (HB1.out.trans (hb2.mono HB1.out.size)); obtain ⟨c0, c1, c2⟩ := obj_box HX12.out; obtain ⟨d0, d1, d2⟩ := obj_box hx2; clear hx2 hb2)))
  clear c0 c1 c2 d0 d1 d2
  go_loopw [5] (fun i wr => ∃ k : Nat, i = .int .i64 k ∧ k ≤ ns ∧ Hid (Below w2.heap.size w2 wr)) (fun i _ => ns - (intOf i).toNat)
  case atStart => exact ⟨0, rfl, Nat.zero_le _, Below.refl _ _⟩
  case round =>
    obtain ⟨k, rfl, hk, HW⟩ := hrel
    have HB := Lib.hid (HB2.out.trans (HW.out.mono HB2.out.size))
    obtain ⟨c0, c1, c2⟩ := obj_box (heap_below HW.out HX12.out)
    obtain ⟨d0, d1, d2⟩ := obj_box (heap_below HW.out HX2.out)
    clear c0 c1 d0 d1
    by_cases hlt : k < ns
    · obtain ⟨x, hx⟩ : ∃ x, syms[k]? = some x := ⟨_, List.getElem?_eq_getElem (by have := HNS.out; omega)⟩
      obtain ⟨b1, o1, rfl, e0, e1, e2, e3, e4, e5, -⟩ := sym_cells HS.out HB.out hx
      obtain ⟨b2, o2, rfl, f0, f1, f2, f3, f4, f5, -⟩ := sym_cells HU.out HB.out hx
      clear hx
      go_wp2
      refine wp_region_quiet_lit (by kernel_rfl) (by kernel_rfl) ?_
      repeat (first
        | ((with_reducible show wpQuiet _ _ _ _ (⟨some 50, _, _, _, _, _⟩ :: _) _); refine wpQuiet_run rfl (by rintro _ ⟨n, rfl⟩; exact run_bin rfl rfl (neq_sym x x _ _ _)) ?_)
        | quiet_step (fail))
      refine wpQuiet_nil ?_
      rintro _ ⟨nq, rfl⟩
      rw [show (!decide (x = x)) = false by simp]
      go_wp2
      go_roundw
      case rel =>
        first
          | exact ⟨k + 1, by go_num, by omega, HW.out.drewN _⟩
          | ((repeat apply Exists.intro); exact ⟨⟨k + 1, by go_num, by omega, HW.out.drewN _⟩, rfl⟩)
      case measure => simp [intOf] <;> omega
    · obtain rfl : k = ns := by omega
      go_wp2
      go_loopw [6] (fun i wr => ∃ k : Nat, i = .int .i64 k ∧ k ≤ np ∧ Hid (Below w2.heap.size w2 wr)) (fun i _ => np - (intOf i).toNat)
      case atStart => exact ⟨0, rfl, Nat.zero_le _, HW.out⟩
      case round =>
        obtain ⟨j, rfl, hj, HWj⟩ := hrel
        have HBj := Lib.hid (HB2.out.trans (HWj.out.mono HB2.out.size))
        obtain ⟨c0, c1, c2⟩ := obj_box (heap_below HWj.out HX12.out)
        obtain ⟨d0, d1, d2⟩ := obj_box (heap_below HWj.out HX2.out)
        clear c0 c2 d0 d2
        by_cases hlt2 : j < np
        · obtain ⟨p, hp⟩ : ∃ p, parts[j]? = some p := ⟨_, List.getElem?_eq_getElem (by have := HNP.out; omega)⟩
          obtain ⟨dv, rv, hx1⟩ := HLE.out j p hp
          obtain ⟨du, ru, hx2⟩ := HME.out j p hp
          have HDV := Lib.hid (HA.out.data _ (List.mem_of_getElem? hx1))
          have HDU := Lib.hid (HA'.out.data _ (List.mem_of_getElem? hx2))
          obtain ⟨m9, p9, r9, hm9, rfl, -, -⟩ := HDV.out.shape
          obtain ⟨m8, p8, r8, hm8, rfl, -, -⟩ := HDU.out.shape
          have hmm : m8 = m9 := hm8.out.trans hm9.out.symm
          subst hmm
          obtain ⟨ra, rc, hrv, hrc, -, hR⟩ := (HA.out.rela _ (List.mem_of_getElem? hx1)).open (fun _ => rfl)
          obtain ⟨ta, tc, htv, htc, -, hT⟩ := (HA'.out.rela _ (List.mem_of_getElem? hx2)).open (fun _ => rfl)
          dsimp only at hrv htv
          subst hrv htv
          have HR := Lib.hid hR
          have HT := Lib.hid hT
          have hmr9 := HRL.out p (List.mem_of_getElem? hp)
          obtain ⟨b1, o1, rfl, e0, e1, e2, e3, e4, e5, -⟩ := part_cells HP.out HBj.out hx1
          obtain ⟨b2, o2, rfl, f0, f1, f2, f3, f4, f5, -⟩ := part_cells HQ.out HBj.out hx2
          obtain ⟨name, flags, align, size, data, relas⟩ := p
          dsimp only at *
          obtain ⟨mr, hmr⟩ : ∃ n, n = relas.length := ⟨_, rfl⟩
          rw [← hmr] at hrc htc hmr9 e5 f5
          have HMR := Lib.hid hmr
          clear hx1 hx2 hp hR hT hmr hm9 hm8
          have hAB := fun (x : Above wr) (b k : Nat) (h : b < wr.heap.size) => Above.cell x b k h
          have n1 := block_lt c1
          have n2 := block_lt d1
          have n3 := block_lt e0
          have n4 := block_lt f0
          go_upto_region 11 with (fail)
          go_cut [7, 8] from 58 to 67 (fun s7 s8 wx => ∃ g7 g8 : Nat, s7 = .pointer (some ⟨g7, 0, none⟩) ∧ s8 = .pointer (some ⟨g8, 0, none⟩) ∧ Hid (wx.heap[g7]? = some (.cells #[.string ⟨name.toArray⟩, .string ⟨flags.toArray⟩, .int .i64 align, .int .i64 size, .slice p9 m8 r9, .slice ra mr rc] 70 (0, 0))) ∧ Hid (wx.heap[g8]? = some (.cells #[.string ⟨name.toArray⟩, .string ⟨flags.toArray⟩, .int .i64 align, .int .i64 size, .slice p8 m8 r8, .slice ta mr tc] 70 (0, 0))) ∧ Hid (Below wr.heap.size wr wx))
          case first =>
            rename_i J1 K1 hJ1 hK1
            refine wp_region_held (S := SAb wr) (by kernel_rfl) ?_
            change wpAnyH _ _ _ _ _ 14 _ _ _
            have hb0 : Below wr.heap.size wr { wr with drawn := wr.drawn + 1 } := (Below.refl _ _).drew
            refine held_quiet (i := 0) (w0 := wr) rfl (by kernel_rfl) rfl rfl (fun _ _ _ _ h => h) hb0 ?_
            intro K hK
            go_big_quiet_op
            go_big_quiet_on
            refine held_quiet (i := 1) (w0 := wr) rfl (by kernel_rfl) rfl rfl (fun _ _ _ _ h => h) hb0 ?_
            intro K hK
            go_big_quiet_op
            go_big_quiet_on
            refine held_quiet (i := 2) (w0 := wr) rfl (by kernel_rfl) rfl rfl (fun _ _ _ _ h => h) hb0 ?_
            intro K hK
            go_big_quiet_op
            go_big_quiet_on
            refine held_quiet (i := 3) (w0 := wr) rfl (by kernel_rfl) rfl rfl (fun _ _ _ _ h => h) hb0 ?_
            intro K hK
            go_big_quiet_op
            go_big_quiet_on
            refine held_quiet (i := 4) (w0 := wr) rfl (by kernel_rfl) rfl rfl (fun _ _ _ _ h => h) hb0 ?_
            intro K hK
            go_big_quiet_op
            go_big_quiet_on
            refine held_quiet (i := 5) (w0 := wr) rfl (by kernel_rfl) rfl rfl (fun _ _ _ _ h => h) hb0 ?_
            intro K hK
            go_big_quiet_op
            go_big_quiet_on
            refine held_quiet (i := 6) (w0 := wr) rfl (by kernel_rfl) rfl rfl (fun _ _ _ _ h => h) hb0 ?_
            intro K hK
            go_big_quiet_op
            go_big_quiet_on
            refine held_quiet (i := 7) (w0 := wr) rfl (by kernel_rfl) rfl rfl (fun _ _ _ _ h => h) hb0 ?_
            intro K hK
            go_big_quiet_op
            go_big_quiet_on
            refine held_quiet (i := 8) (w0 := wr) rfl (by kernel_rfl) rfl rfl (fun _ _ _ _ h => h) hb0 ?_
            intro K hK
            go_big_quiet_op
            go_big_quiet_on
            refine held_quiet (i := 9) (w0 := wr) rfl (by kernel_rfl) rfl rfl (fun _ _ _ _ h => h) hb0 ?_
            intro K hK
            go_big_quiet_op
            go_big_quiet_on
            clear hAB
            refine wpAnyH_all (rs := [10, 11]) (by kernel_rfl) (by simp) ?_
            intro i hi
            simp only [List.mem_cons, List.not_mem_nil, or_false] at hi
            rcases hi with hi | hi
            · subst hi
              refine wpOp_of_list (i := 10) rfl ?_
              refine wpList_allocPart ?_
              intro wa hxa hba hsa
              refine ⟨hb0.trans (hba.mono hb0.size), ?_⟩
              refine wpAnyH_all (rs := [11]) (by kernel_rfl) (by simp) ?_
              intro i hi
              rw [List.mem_singleton] at hi
              subst hi
              refine wpOp_of_list (i := 11) rfl ?_
              refine wpList_allocPart ?_
              intro wb hxb hbb hsb
              have HAB0 := Lib.hid (hb0.trans ((hba.mono hb0.size).trans (hbb.mono (Nat.le_trans hb0.size hba.size))))
              refine ⟨HAB0.out, ?_⟩
              have HB7 := Lib.hid (heap_below hbb hxa)
              have HB8 := Lib.hid hxb
              have hge7 : wr.heap.size ≤ wr.heap.size := hb0.size
              have hge8 : wr.heap.size ≤ wa.heap.size := Nat.le_trans hb0.size hba.size
              have hne : ({ wr with drawn := wr.drawn + 1 } : World).heap.size < wa.heap.size := hsa
              clear hxa hxb hba hbb
              refine wpAnyH_all (rs := [12]) (by kernel_rfl) (by simp) ?_
              intro i hi
              rw [List.mem_singleton] at hi
              subst hi
              refine wpOp_of_list (i := 12) rfl ?_
              refine wpList_storeRowS HB7.out rfl rfl rfl (by kernel_rfl) (by simp [Value.oneCell']) ?_
              intro wc hhc hsc
              have HC7 := Lib.hid hhc
              have HC8 := Lib.hid (hsc.kept HB8.out (Nat.ne_of_gt hne))
              have HSC0 := Lib.hid (HAB0.out.trans (hsc.below HAB0.out.size (fun j hj => by rw [hj]; exact hge7)))
              refine ⟨HSC0.out, ?_⟩
              clear hhc hsc
              refine wpAnyH_all (rs := [13]) (by kernel_rfl) (by simp) ?_
              intro i hi
              rw [List.mem_singleton] at hi
              subst hi
              refine wpOp_of_list (i := 13) rfl ?_
              refine wpList_storeRowS HC8.out rfl rfl rfl (by kernel_rfl) (by simp [Value.oneCell']) ?_
              intro wy hhy hsy
              have HY8 := Lib.hid hhy
              have HY7 := Lib.hid (hsy.kept HC7.out (Nat.ne_of_lt hne))
              have HSY := Lib.hid (HSC0.out.trans (hsy.below HSC0.out.size (fun j hj => by rw [hj]; exact hge8)))
              refine ⟨HSY.out, ?_⟩
              clear hhy hsy hsa hsb
              refine wpAnyH_done (by kernel_rfl) ?_ _
              go_frame
              first
                | refine hK1 _ _ (Met.intro (hJ1 _ _ ?_))
                | refine Met.intro (hJ1 _ _ ?_)
              repeat apply Exists.intro
              refine ⟨?_, rfl⟩
              exact ⟨_, _, rfl, rfl, HY7, HY8, HSY⟩
            · subst hi
              refine wpOp_of_list (i := 11) rfl ?_
              refine wpList_allocPart ?_
              intro wa hxa hba hsa
              refine ⟨hb0.trans (hba.mono hb0.size), ?_⟩
              refine wpAnyH_all (rs := [10]) (by kernel_rfl) (by simp) ?_
              intro i hi
              rw [List.mem_singleton] at hi
              subst hi
              refine wpOp_of_list (i := 10) rfl ?_
              refine wpList_allocPart ?_
              intro wb hxb hbb hsb
              have HAB0 := Lib.hid (hb0.trans ((hba.mono hb0.size).trans (hbb.mono (Nat.le_trans hb0.size hba.size))))
              refine ⟨HAB0.out, ?_⟩
              have HB8 := Lib.hid (heap_below hbb hxa)
              have HB7 := Lib.hid hxb
              have hge8 : wr.heap.size ≤ wr.heap.size := hb0.size
              have hge7 : wr.heap.size ≤ wa.heap.size := Nat.le_trans hb0.size hba.size
              have hne : ({ wr with drawn := wr.drawn + 1 } : World).heap.size < wa.heap.size := hsa
              clear hxa hxb hba hbb
              refine wpAnyH_all (rs := [12]) (by kernel_rfl) (by simp) ?_
              intro i hi
              rw [List.mem_singleton] at hi
              subst hi
              refine wpOp_of_list (i := 12) rfl ?_
              refine wpList_storeRowS HB7.out rfl rfl rfl (by kernel_rfl) (by simp [Value.oneCell']) ?_
              intro wc hhc hsc
              have HC7 := Lib.hid hhc
              have HC8 := Lib.hid (hsc.kept HB8.out (Nat.ne_of_lt hne))
              have HSC0 := Lib.hid (HAB0.out.trans (hsc.below HAB0.out.size (fun j hj => by rw [hj]; exact hge7)))
              refine ⟨HSC0.out, ?_⟩
              clear hhc hsc
              refine wpAnyH_all (rs := [13]) (by kernel_rfl) (by simp) ?_
              intro i hi
              rw [List.mem_singleton] at hi
              subst hi
              refine wpOp_of_list (i := 13) rfl ?_
              refine wpList_storeRowS HC8.out rfl rfl rfl (by kernel_rfl) (by simp [Value.oneCell']) ?_
              intro wy hhy hsy
              have HY8 := Lib.hid hhy
              have HY7 := Lib.hid (hsy.kept HC7.out (Nat.ne_of_gt hne))
              have HSY := Lib.hid (HSC0.out.trans (hsy.below HSC0.out.size (fun j hj => by rw [hj]; exact hge8)))
              refine ⟨HSY.out, ?_⟩
              clear hhy hsy hsa hsb
              refine wpAnyH_done (by kernel_rfl) ?_ _
              go_frame
              first
                | refine hK1 _ _ (Met.intro (hJ1 _ _ ?_))
                | refine Met.intro (hJ1 _ _ ?_)
              repeat apply Exists.intro
              refine ⟨?_, rfl⟩
              exact ⟨_, _, rfl, rfl, HY7, HY8, HSY⟩
          case rest =>
            obtain ⟨g7, g8, rfl, rfl, HY7, HY8, HSY⟩ := hcut
            obtain ⟨wy, rfl⟩ : ∃ wy : World, wy = wc := ⟨_, rfl⟩
            have HWY := Lib.hid (HWj.out.trans (HSY.out.mono HWj.out.size))
            have HBY := Lib.hid (HBj.out.trans (HSY.out.mono HBj.out.size))
            have hk1 := run_str (HDV.out.mono HBY.out)
            have hk2 := run_str (HDU.out.mono HBY.out)
            clear hAB c1 d1 e0 e1 e2 e3 e4 e5 f0 f1 f2 f3 f4 f5 n1 n2 n3 n4
            obtain ⟨c0, c1, c2, c3, c4, c5⟩ := part_box (x := (⟨name, flags, align, size, data, relas⟩, .slice p9 m8 r9, .slice ra mr rc)) HY7.out
            obtain ⟨d0, d1, d2, d3, d4, d5⟩ := part_box (x := (⟨name, flags, align, size, data, relas⟩, .slice p8 m8 r8, .slice ta mr tc)) HY8.out
            dsimp only at c0 c1 c2 c3 c4 c5 d0 d1 d2 d3 d4 d5 hk1 hk2
            go_wp2
            clear c0 c1 c2 c3 c4 d0 d1 d2 d3 d4 hk1 hk2
            go_loopw [9] (fun i wr => ∃ k : Nat, i = .int .i64 k ∧ k ≤ mr ∧ Hid (Below wy.heap.size wy wr)) (fun i _ => mr - (intOf i).toNat)
            case atStart => exact ⟨0, rfl, Nat.zero_le _, Below.refl _ _⟩
            case round =>
              obtain ⟨q, rfl, hq, HWq⟩ := hrel
              have HBq := Lib.hid (HBY.out.trans (HWq.out.mono HBY.out.size))
              obtain ⟨c0, c1, c2, c3, c4, c5⟩ := part_box (x := (⟨name, flags, align, size, data, relas⟩, .slice p9 m8 r9, .slice ra mr rc)) (heap_below HWq.out HY7.out)
              obtain ⟨d0, d1, d2, d3, d4, d5⟩ := part_box (x := (⟨name, flags, align, size, data, relas⟩, .slice p8 m8 r8, .slice ta mr tc)) (heap_below HWq.out HY8.out)
              clear c0 c1 c2 c3 c4 d0 d1 d2 d3 d4
              dsimp only at c5 d5
              by_cases hlt3 : q < mr
              · obtain ⟨x, hx⟩ : ∃ x, relas[q]? = some x := ⟨_, List.getElem?_eq_getElem (by have := HMR.out; omega)⟩
                obtain ⟨b1, o1, rfl, e0, e1, e2, e3, -⟩ := rela_cells HR.out HBq.out hx
                obtain ⟨b2, o2, rfl, f0, f1, f2, f3, -⟩ := rela_cells HT.out HBq.out hx
                clear hx
                go_wp2
                refine wp_region_quiet_lit (by kernel_rfl) (by kernel_rfl) ?_
                repeat (first
                  | ((with_reducible show wpQuiet _ _ _ _ (⟨some 129, _, _, _, _, _⟩ :: _) _); refine wpQuiet_run rfl (by rintro _ ⟨n, rfl⟩; exact run_bin rfl rfl (neq_rela x x _ _ _)) ?_)
                  | quiet_step (fail))
                refine wpQuiet_nil ?_
                rintro _ ⟨nq, rfl⟩
                rw [show (!decide (x = x)) = false by simp]
                go_wp2
                go_roundw
                case rel =>
                  first
                    | exact ⟨q + 1, by go_num, by omega, HWq.out.drewN _⟩
                    | ((repeat apply Exists.intro); exact ⟨⟨q + 1, by go_num, by omega, HWq.out.drewN _⟩, rfl⟩)
                case measure => simp [intOf] <;> omega
              · obtain rfl : q = mr := by omega
                go_wp2
                go_roundw
                case rel => exact ⟨j + 1, by go_num, by omega, HWY.out.trans (HWq.out.mono HWY.out.size)⟩
                case measure => simp [intOf] <;> omega
        · obtain rfl : j = np := by omega
          go_wp2
          go_ret
          exact ⟨rfl, HBj.out⟩
end Go.Proofs.Ytnhbgijecdeahaa
namespace Go.Proofs.Ytnhbgijecdeahaa
open Go.RowKit Go.Fd
def psum (l : List PartM) : Nat := (l.map fun p => p.data.length + 24 * p.relas.length).sum
theorem psum_step {l : List PartM} {k : Nat} {x : PartM} (h : l[k]? = some x) : psum (l.take (k + 1)) = psum (l.take k) + (x.data.length + 24 * x.relas.length) := by
  rw [List.take_add_one, h]
  unfold psum
  simp
theorem psum_take (l : List PartM) (k : Nat) : psum (l.take k) ≤ psum l := by
  conv => rhs; rw [← List.take_append_drop k l]
  unfold psum
  rw [List.map_append, List.sum_append]
  omega
theorem psum_mem {l : List PartM} {p : PartM} (h : p ∈ l) : p.data.length + 24 * p.relas.length ≤ psum l := by
  induction l with
  | nil => cases h
  | cons x l ih =>
    unfold psum at *
    rw [List.map_cons, List.sum_cons]
    rcases List.mem_cons.1 h with rfl | h
    · omega
    · have := ih h; omega
def lightO (o : ObjM) : Bool := decide (psum o.parts ≤ 8192) && decide (o.parts.length ≤ 120) && decide (o.syms.length ≤ 300)
set_option maxHeartbeats 4000000 in
set_option maxRecDepth 100000 in
theorem light17_any (o : ObjM) (L : List (PartM × Value × Value)) (pv sv : Value) (w : World) (h : ObjAt w o L pv sv) (hp : o.parts.length ≤ 1000000000) (hs : psum o.parts ≤ 1000000000) :
    Calls Try.prog 13 #[objV o pv sv] w fun e w' => e = .returned (.bool (lightO o)) ∧ Below w.heap.size w w' := by
  have HH := Lib.hid h
  obtain ⟨pa, pc, rfl, hpc, -, hP⟩ := h.rd.open (fun _ => rfl)
  obtain ⟨sn, sa, sc, hsn, rfl, -, -⟩ := h.syms.shape
  have HP := Lib.hid hP
  have hLn : L.length = o.parts.length := by rw [h.parts, List.length_map]
  have HLP := Lib.hid h.parts
  obtain ⟨target, parts, syms⟩ := o
  dsimp only at *
  rw [hLn] at hpc ⊢
  obtain ⟨np, hnp⟩ : ∃ n, n = parts.length := ⟨_, rfl⟩
  rw [← hnp] at hpc hp hLn ⊢
  have HNP := Lib.hid hnp
  have HLN := Lib.hid hLn
  have HPS := Lib.hid hs
  have HLB : Hid (lightO ⟨target, parts, syms⟩ = (decide (psum parts ≤ 8192) && decide (np ≤ 120) && decide (sn ≤ 300))) := by
    unfold lightO
    rw [hnp, hsn.out]
    rfl
  generalize lightO ⟨target, parts, syms⟩ = q at *
  clear h hP hLn hnp hs
  go_enter Try.func13, Try.ntmps13
  go_wp2_with (first
    | ((with_reducible show wpList _ _ _ (⟨some 1, .box _ _, _, _, _, _⟩ :: _) _ _); go_must (refine wpList_box rfl ?_; intro w1 hx1 hb1 hs1; have HX1 := Lib.hid hx1; have HB1 := Lib.hid hb1; obtain ⟨c0, c1, c2⟩ := obj_box hx1; clear hx1 hb1)))
  clear c0 c1 c2
  go_loopw [3, 4] (fun x i wr => ∃ k : Nat, x = .int .i64 ((psum (parts.take k) : Nat) : Int) ∧ i = .int .i64 k ∧ k ≤ np ∧ Hid (Below w1.heap.size w1 wr)) (fun _ i _ => np - (intOf i).toNat)
  case atStart => exact ⟨0, by rw [List.take_zero]; rfl, rfl, Nat.zero_le _, Below.refl _ _⟩
  case round =>
    obtain ⟨k, rfl, rfl, hk, HW⟩ := hrel
    have HB := Lib.hid (HB1.out.trans (HW.out.mono HB1.out.size))
    have HXr := Lib.hid (heap_below HW.out HX1.out)
    obtain ⟨c0, c1, c2⟩ := obj_box HXr.out
    have hk9 := psum_take parts k
    by_cases hlt : k < np
    · obtain ⟨x, hx⟩ : ∃ x, L[k]? = some x := ⟨_, List.getElem?_eq_getElem (by have := HLN.out; omega)⟩
      obtain ⟨b, o, rfl, e0, e1, e2, e3, e4, e5, hb0⟩ := part_cells HP.out HB.out hx
      have hxp : parts[k]? = some x.1 := by rw [HLP.out, List.getElem?_map, hx]; rfl
      have HST := Lib.hid (psum_step hxp)
      have hk8 := psum_take parts (k + 1)
      obtain ⟨md, ad, cd, hmd, hdv, -, -⟩ := (HH.out.data x (List.mem_of_getElem? hx)).shape
      obtain ⟨mr, ar, cr, hmr, hrv, -, -⟩ := (HH.out.rela x (List.mem_of_getElem? hx)).shape
      obtain ⟨⟨name, flags, align, size, data, relas⟩, dv, rv⟩ := x
      dsimp only at *
      subst hdv hrv
      have HST2 := Lib.hid (show psum (parts.take (k + 1)) = psum (parts.take k) + (md + 24 * mr) by rw [HST.out, hmd.out, hmr.out])
      have hb1 : psum (parts.take k) + (md + 24 * mr) ≤ 1000000000 := by rw [← HST2.out]; exact Nat.le_trans hk8 HPS.out
      clear hx hxp HST hk8 hk9
      generalize psum (parts.take k) = ps at *
      go_wp2
      go_quiet (fail)
      have HWd := Lib.hid (HW.out.trans ((below_drewN (Below.refl _ wr) nq).mono HW.out.size))
      generalize wr.drewN nq = wd at *
      go_wp2
      go_roundw
      case rel => exact ⟨k + 1, (int_eq (by rw [HST2.out]; omega)), by go_num, by omega, HWd.out⟩
      case measure => simp [intOf] <;> omega
    · obtain rfl : k = np := by omega
      have HT : Hid (parts.take k = parts) := List.take_of_length_le (by have := HNP.out; omega)
      rw [HT.out]
      generalize psum parts = ps at *
      go_wp2
      all_goals go_ret
      all_goals refine ⟨?_, HB.out⟩
      all_goals rw [HLB.out]
      all_goals refine ret1 (bool_eq ?_)
      all_goals rw [Bool.eq_iff_iff]
      all_goals simp
      all_goals omega
end Go.Proofs.Ytnhbgijecdeahaa
namespace Go.Proofs.Ytnhbgijecdeahaa
open Go.RowKit Go.Fd
theorem TSymS : SliceT Try.prog 34 44 6 56 := SliceT.mk' (z := .agg #[.string ⟨#[]⟩, .int .i64 0, .int .i64 0, .int .i64 0, .int .u64 0, .int .u64 0]) (by kernel_rfl) (by kernel_rfl) rfl (by omega)
theorem TRelaS : SliceT Try.prog 68 86 4 32 := SliceT.mk' (z := .agg #[.int .u64 0, .int .i64 0, .int .i64 0, .int .i64 0]) (by kernel_rfl) (by kernel_rfl) rfl (by omega)
theorem oneSym (l : List SymM) : (l.flatMap encSym).all (·.oneCell') = true := by
  rw [List.all_eq_true]
  intro x hx
  obtain ⟨p, hp, hx⟩ := List.mem_flatMap.1 hx
  simp only [encSym, List.mem_cons, List.not_mem_nil, or_false] at hx
  rcases hx with rfl | rfl | rfl | rfl | rfl | rfl <;> rfl
theorem oneRela (l : List RelaM) : (l.flatMap encRela).all (·.oneCell') = true := by
  rw [List.all_eq_true]
  intro x hx
  obtain ⟨p, hp, hx⟩ := List.mem_flatMap.1 hx
  simp only [encRela, List.mem_cons, List.not_mem_nil, or_false] at hx
  rcases hx with rfl | rfl | rfl | rfl <;> rfl
/-- Symbols of its own, in a region. -/
def YSyO (B : Nat) (l : List SymM) : Yld := ⟨Option Addr × Nat × Nat, (none, 0, 0), fun q => .slice q.1 q.2.1 q.2.2, fun q w => OwR 6 encSym 44 w B (.slice q.1 q.2.1 q.2.2) l, fun _ _ _ h hb => h.mono hb⟩
theorem YSyO_got {B : Nat} {l : List SymM} {a : Option Addr} {n c : Nat} {w : World} (h : (YSyO B l).R (.slice a n c) w) : OwR 6 encSym 44 w B (.slice a n c) l := by
  obtain ⟨⟨a', n', c'⟩, e, h⟩ := h
  have e' : Value.slice a n c = .slice a' n' c' := e
  rw [e']
  exact h
end Go.Proofs.Ytnhbgijecdeahaa
namespace Go.Proofs.Ytnhbgijecdeahaa
open Go.RowKit Go.Fd
def s17 : SymM := ⟨[102], 1, 0, 1, 0, 0⟩
theorem run_oneSymS {x : Operand} {s : SymM} {a : Act} {w : World} {d : Option Tmp} {ty : TypeId} {pos : String} {aft : Array Edge} {g : Option (Nat × Bool)} (hx : a.eval x = .agg (encSym s).toArray) :
    (execOp a.eval ⟨d, .buildSlice 34 1 #[(0, x)], ty, pos, aft, g⟩).run Try.prog w = .ok (.value (.slice (some ⟨w.heap.size, 0, none⟩) 1 1)) (w.alloc (.cells (encSym s).toArray 44)) := by
  simp only [execOp, List.map_toArray, List.map_cons, List.map_nil, hx]
  kernel_rfl
theorem wpList_litSym {ops : Array Oper} {rest : List Oper} {Q : Exit → Act → World → Prop} {a : Act} {w : World} {d : Option Tmp} {ty : TypeId} {pos : String} {aft : Array Edge} {x : Operand} {s : SymM} (hx : a.eval x = .agg (encSym s).toArray)
    (h : ∀ w1, RdR 6 encSym w1 (.slice (some ⟨w.heap.size, 0, none⟩) 1 1) [s] → Below w.heap.size w w1 → wpList Try.prog ops Q rest (a.put d (.slice (some ⟨w.heap.size, 0, none⟩) 1 1)) w1) :
    wpList Try.prog ops Q (⟨d, .buildSlice 34 1 #[(0, x)], ty, pos, aft, none⟩ :: rest) a w :=
  wpList_val rfl (run_oneSymS hx) (h _ (rd_one rfl (heap_alloc_last w _) rfl) (below_alloc w _))
theorem objNo_at (w : World) : ObjAt w objNo [] (.slice none 0 0) (.slice none 0 0) := (ObjOwn.zero w 0).at
end Go.Proofs.Ytnhbgijecdeahaa
namespace Go.Proofs.Ytnhbgijecdeahaa
open Go.RowKit Go.Fd
theorem own_apart {w : World} {p : Nat} {c : Array Value} {fz : Nat × Nat} {t : TypeId} (hblk : w.heap[p]? = some (.cells c t fz)) {e : TypeId} {base size n : Nat} {v : Value} {xs : List Value} (h : w.ownsRow base e size v n xs) (he : e ≠ t) : ∀ k, v.ownBlock = some k → ¬ k = p := by
  intro k hk1 hkp
  subst hkp
  obtain ⟨c, fz, hc⟩ := own_kind h k hk1
  rw [hblk] at hc
  cases hc
  exact he rfl
theorem heap_set {w : World} {g j : Nat} {c : Array Value} {t : TypeId} {fr : Nat × Nat} {v : Value} (h : w.heap[g]? = some (.cells c t fr)) : (w.setCell ⟨g, j, none⟩ v).heap[g]? = some (.cells (c.setIfInBounds j v) t fr) := by
  simp [World.setCell, Array.getElem?_modify, h]
theorem i64_nat {n : Nat} (h : n < 9223372036854775808) : IntKind.i64.wrap (n : Int) = (n : Int) := by
  simp [IntKind.wrap, IntKind.bits, IntKind.signed]; omega
end Go.Proofs.Ytnhbgijecdeahaa
namespace Go.Proofs.Ytnhbgijecdeahaa
open Go.RowKit Go.Fd
/-- What is known of an argument. -/
structure ObjArg (o : ObjM) : Prop where
  target : -9223372036854775808 ≤ o.target ∧ o.target < 9223372036854775808
  nums : ∀ p ∈ o.parts, (-9223372036854775808 ≤ p.align ∧ p.align < 9223372036854775808) ∧ (-9223372036854775808 ≤ p.size ∧ p.size < 9223372036854775808)
  relas : ∀ p ∈ o.parts, ∀ x ∈ p.relas, x.off < 18446744073709551616 ∧ -9223372036854775808 ≤ x.add ∧ x.add < 9223372036854775808
  vals : ∀ s ∈ o.syms, s.value < 18446744073709551616 ∧ s.size < 18446744073709551616
  parts : o.parts.length ≤ 100000000
  sum : psum o.parts ≤ 1000000000
  names : ∀ p ∈ o.parts, p.name.length ≤ 9223372036854775807 ∧ p.flags.length ≤ 9223372036854775807
  texts : ∀ s ∈ o.syms, s.name.length ≤ 9223372036854775807
theorem ObjArg.ok {o : ObjM} (h : ObjArg o) (hl : lightO o = true) : ObjOk o ∧ ∀ p ∈ o.parts, p.data.length ≤ 24000 := by
  unfold lightO at hl
  simp only [Bool.and_eq_true, decide_eq_true_eq] at hl
  obtain ⟨⟨h1, h2⟩, h3⟩ := hl
  have hp : ∀ p ∈ o.parts, p.data.length + 24 * p.relas.length ≤ 8192 := fun p hp => Nat.le_trans (psum_mem hp) h1
  exact ⟨⟨⟨h.target, fun p hm => ⟨(h.nums p hm).1, (h.nums p hm).2, by have := hp p hm; omega⟩, fun p hm => ⟨by have := hp p hm; omega, h.relas p hm⟩, by omega, h.vals⟩, by omega, h.names, fun p hm => by have := hp p hm; omega, h.texts⟩, fun p hm => by have := hp p hm; omega⟩
end Go.Proofs.Ytnhbgijecdeahaa
namespace Go.Fd
theorem wf_i64 {x : Int} (h : -9223372036854775808 ≤ x ∧ x < 9223372036854775808) : (Lit.int .i64 x).wf = true := by
  have e1 : IntKind.i64.min = -9223372036854775808 := rfl
  have e2 : IntKind.i64.max = 9223372036854775807 := rfl
  simp only [Lit.wf, e1, e2, Bool.and_eq_true, decide_eq_true_eq]
  omega
theorem keyOf_two {P : Program} {k t0 : TypeId} {f0 f1 : Field} {d : Nat} (hu : P.underlying k = some (.struct #[f0, f1])) (hn : (#[f0, f1] : Array Field).all (·.name != "_") = true) (hf0 : f0.type = t0) (hf1 : f1.type = t0) (ho0 : f0.offset = 0) (ho1 : f1.offset = 1) (hk : P.keyType k = true) (hc : P.cellsOf k = 2) (hc0 : P.cellsOf t0 = 1) (hu0 : P.underlying t0 = some (.int .i64)) (hd : P.types.size = d + 1)
    (a b : Int) (wa : (Lit.int .i64 a).wf = true) (wb : (Lit.int .i64 b).wf = true) : ∃ l, keyOf P k (.agg #[.int .i64 a, .int .i64 b]) = some l := by
  have hn' : f0.name ≠ "_" ∧ f1.name ≠ "_" := by simpa using hn
  unfold keyOf
  rw [hu]
  simp [hk, Value.formed, hu, hc, hd, Program.keyLits, Value.cells, hf0, hf1, ho0, ho1, hu0, hc0, wa, wb, hn']
end Go.Fd
namespace Go.Proofs.Ytnhbgijecdeahaa
open Go.RowKit Go.Fd
/-- A member in memory. -/
structure MemV where
  m : MemM
  L : List (PartM × Value × Value)
  pv : Value
  sv : Value
/-- An input in memory. -/
structure InV where
  x : InM
  L : List (PartM × Value × Value)
  pv : Value
  sv : Value
  lv : Value
  ml : List MemV
def encMem (y : MemV) : List Value := [S y.m.name, .int .i64 y.m.obj.target, y.pv, y.sv]
def encIn (x : InV) : List Value := [S x.x.name, .int .i64 x.x.obj.target, x.pv, x.sv, x.lv]
/-- What memory holds of inputs. -/
structure InsAt (w : World) (l : List InM) (V : List InV) (v : Value) : Prop where
  eq : l = V.map (·.x)
  rd : RdR 5 encIn w v V
  obj : ∀ x ∈ V, ObjAt w x.x.obj x.L x.pv x.sv
  lib : ∀ x ∈ V, x.x.lib = x.ml.map (·.m) ∧ RdR 4 encMem w x.lv x.ml
  mem : ∀ x ∈ V, ∀ y ∈ x.ml, ObjAt w y.m.obj y.L y.pv y.sv
theorem InsAt.mono {w w' : World} {l : List InM} {V : List InV} {v : Value} (h : InsAt w l V v) (hb : Below w.heap.size w w') : InsAt w' l V v :=
  ⟨h.eq, h.rd.mono hb, fun x hx => (h.obj x hx).mono hb, fun x hx => ⟨(h.lib x hx).1, (h.lib x hx).2.mono hb⟩, fun x hx y hy => (h.mem x hx y hy).mono hb⟩
abbrev symV (s : SymM) : Value := .agg #[S s.name, .int .i64 s.bind, .int .i64 s.typ, .int .i64 s.sec, .int .u64 (s.value : Int), .int .u64 (s.size : Int)]
abbrev spotV (s : Spot) : Value := .agg #[.int .i64 (s.1 : Int), .int .i64 s.2]
theorem spotV_inj (a b : Spot) (h : spotV a = spotV b) : a = b := by
  obtain ⟨a1, a2⟩ := a
  obtain ⟨b1, b2⟩ := b
  simp only [Value.agg.injEq, Array.mk.injEq, List.cons.injEq, Value.int.injEq, true_and, and_true] at h
  exact Prod.ext (by omega) h.2
theorem laidOutR : laidOutB Try.prog = true := by kernel_rfl
theorem TMSp : KeyT Try.prog 71 61 4 spotV :=
  ⟨by kernel_rfl, Maps.Keyed.of_law (deep_law_laid laidOutR (m := 2) (by omega) (of_decide_eq_true (by kernel_rfl)) (by kernel_rfl) (by kernel_rfl)), spotV_inj⟩
theorem TMH : KeyT Try.prog 74 9 61 S := ⟨by kernel_rfl, Maps.string_keyed (by kernel_rfl), fun a b h => by simpa [S] using h⟩
theorem zeroSp (w : World) : (zeroValue 61).run Try.prog w = .ok (.agg #[.int .i64 0, .int .i64 0]) w := by kernel_rfl
theorem keySp (s : Spot) (h1 : s.1 < 1000000) (h2 : -9223372036854775808 ≤ s.2 ∧ s.2 < 9223372036854775808) : ∃ l, keyOf Try.prog 61 (spotV s) = some l := by
  obtain ⟨i, m⟩ := s
  dsimp only at h1 h2
  exact keyOf_two (t0 := 3) (d := Try.prog.types.size - 1) Try.underlying61 (by kernel_rfl) rfl rfl rfl rfl (by kernel_rfl) (by kernel_rfl) (by kernel_rfl) Try.underlying3 (by kernel_rfl) _ _ (wf_i64 (by omega)) (wf_i64 h2)
set_option maxHeartbeats 1000000 in
set_option maxRecDepth 100000 in
theorem definesR_any (s : SymM) (w : World) : Calls Try.prog 25 #[symV s] w fun e w' => e = .returned (.bool (definesM s)) ∧ Below w.heap.size w w' := by
  have HSB : Hid (definesM s = (!decide (s.bind = 0) && !decide (s.sec = 0) && !decide (s.name = []))) := rfl
  generalize definesM s = q at *
  obtain ⟨name, bind, typ, sec, value, size⟩ := s
  dsimp only at *
  by_cases q1 : bind = 0
  · have HQ := Lib.hid (show q = false by rw [HSB.out, decide_eq_true q1]; rfl)
    have t1 : (bind != 0) = false := by rw [q1]; rfl
    clear q1 HSB
    go_enter Try.func25, Try.ntmps25
    go_wp2_with ((with_reducible show wpList _ _ _ (⟨some 1, .box _ _, _, _, _, _⟩ :: _) _ _); go_must (refine wpList_box rfl ?_; intro w1 hx1 hb1 hs1; have HB1 := Lib.hid hb1; have c0 := cell_rec hx1 0; have c1 := cell_rec hx1 1; have c2 := cell_rec hx1 3; simp only [List.getElem?_toArray, List.getElem?_cons_succ, List.getElem?_cons_zero] at c0 c1 c2; clear hx1 hb1))
    go_ret
    exact ⟨by rw [HQ.out]; rfl, HB1.out⟩
  have t1 : (bind != 0) = true := bne_iff_ne.2 q1
  by_cases q2 : sec = 0
  · have HQ := Lib.hid (show q = false by rw [HSB.out, decide_eq_true q2]; simp)
    have t2 : (sec != 0) = false := by rw [q2]; rfl
    clear q1 q2 HSB
    go_enter Try.func25, Try.ntmps25
    go_wp2_with ((with_reducible show wpList _ _ _ (⟨some 1, .box _ _, _, _, _, _⟩ :: _) _ _); go_must (refine wpList_box rfl ?_; intro w1 hx1 hb1 hs1; have HB1 := Lib.hid hb1; have c0 := cell_rec hx1 0; have c1 := cell_rec hx1 1; have c2 := cell_rec hx1 3; simp only [List.getElem?_toArray, List.getElem?_cons_succ, List.getElem?_cons_zero] at c0 c1 c2; clear hx1 hb1))
    go_ret
    exact ⟨by rw [HQ.out]; rfl, HB1.out⟩
  have t2 : (sec != 0) = true := bne_iff_ne.2 q2
  have HQ := Lib.hid (show q = !decide (name = []) by rw [HSB.out, decide_eq_false q1, decide_eq_false q2]; rfl)
  clear q1 q2 HSB
  by_cases q3 : name = []
  · have HQ2 := Lib.hid (show q = false by rw [HQ.out, decide_eq_true q3]; rfl)
    have t3 : (name != []) = false := by rw [q3]; rfl
    have t4 : name.isEmpty = true := by rw [q3]; rfl
    clear q3 HQ
    go_enter Try.func25, Try.ntmps25
    go_wp2_with ((with_reducible show wpList _ _ _ (⟨some 1, .box _ _, _, _, _, _⟩ :: _) _ _); go_must (refine wpList_box rfl ?_; intro w1 hx1 hb1 hs1; have HB1 := Lib.hid hb1; have c0 := cell_rec hx1 0; have c1 := cell_rec hx1 1; have c2 := cell_rec hx1 3; simp only [List.getElem?_toArray, List.getElem?_cons_succ, List.getElem?_cons_zero] at c0 c1 c2; clear hx1 hb1))
    go_ret
    exact ⟨by rw [HQ2.out]; rfl, HB1.out⟩
  · have HQ2 := Lib.hid (show q = true by rw [HQ.out, decide_eq_false q3]; rfl)
    have t3 : (name != []) = true := bne_iff_ne.2 q3
    have t4 : name.isEmpty = false := by simpa using q3
    clear q3 HQ
    go_enter Try.func25, Try.ntmps25
    go_wp2_with ((with_reducible show wpList _ _ _ (⟨some 1, .box _ _, _, _, _, _⟩ :: _) _ _); go_must (refine wpList_box rfl ?_; intro w1 hx1 hb1 hs1; have HB1 := Lib.hid hb1; have c0 := cell_rec hx1 0; have c1 := cell_rec hx1 1; have c2 := cell_rec hx1 3; simp only [List.getElem?_toArray, List.getElem?_cons_succ, List.getElem?_cons_zero] at c0 c1 c2; clear hx1 hb1))
    go_ret
    exact ⟨by rw [HQ2.out]; rfl, HB1.out⟩
set_option maxHeartbeats 1000000 in
set_option maxRecDepth 100000 in
theorem needsR_any (s : SymM) (w : World) : Calls Try.prog 34 #[symV s] w fun e w' => e = .returned (.bool (needsM s)) ∧ Below w.heap.size w w' := by
  have HSB : Hid (needsM s = (decide (s.bind = 1) && decide (s.sec = 0) && !decide (s.name = []))) := rfl
  generalize needsM s = q at *
  obtain ⟨name, bind, typ, sec, value, size⟩ := s
  dsimp only at *
  by_cases q1 : bind = 1
  case neg =>
    have HQ := Lib.hid (show q = false by rw [HSB.out, decide_eq_false q1]; rfl)
    have t1 : (bind == 1) = false := by simpa using q1
    clear q1 HSB
    go_enter Try.func34, Try.ntmps34
    go_wp2_with ((with_reducible show wpList _ _ _ (⟨some 1, .box _ _, _, _, _, _⟩ :: _) _ _); go_must (refine wpList_box rfl ?_; intro w1 hx1 hb1 hs1; have HB1 := Lib.hid hb1; have c0 := cell_rec hx1 0; have c1 := cell_rec hx1 1; have c2 := cell_rec hx1 3; simp only [List.getElem?_toArray, List.getElem?_cons_succ, List.getElem?_cons_zero] at c0 c1 c2; clear hx1 hb1))
    go_ret
    exact ⟨by rw [HQ.out]; rfl, HB1.out⟩
  have t1 : (bind == 1) = true := by simpa using q1
  by_cases q2 : sec = 0
  case neg =>
    have HQ := Lib.hid (show q = false by rw [HSB.out, decide_eq_false q2]; simp)
    have t2 : (sec == 0) = false := by simpa using q2
    clear q1 q2 HSB
    go_enter Try.func34, Try.ntmps34
    go_wp2_with ((with_reducible show wpList _ _ _ (⟨some 1, .box _ _, _, _, _, _⟩ :: _) _ _); go_must (refine wpList_box rfl ?_; intro w1 hx1 hb1 hs1; have HB1 := Lib.hid hb1; have c0 := cell_rec hx1 0; have c1 := cell_rec hx1 1; have c2 := cell_rec hx1 3; simp only [List.getElem?_toArray, List.getElem?_cons_succ, List.getElem?_cons_zero] at c0 c1 c2; clear hx1 hb1))
    go_ret
    exact ⟨by rw [HQ.out]; rfl, HB1.out⟩
  have t2 : (sec == 0) = true := by simpa using q2
  have HQ := Lib.hid (show q = !decide (name = []) by rw [HSB.out, decide_eq_true q1, decide_eq_true q2]; rfl)
  clear q1 q2 HSB
  by_cases q3 : name = []
  · have HQ2 := Lib.hid (show q = false by rw [HQ.out, decide_eq_true q3]; rfl)
    have t3 : (name != []) = false := by rw [q3]; rfl
    have t4 : name.isEmpty = true := by rw [q3]; rfl
    clear q3 HQ
    go_enter Try.func34, Try.ntmps34
    go_wp2_with ((with_reducible show wpList _ _ _ (⟨some 1, .box _ _, _, _, _, _⟩ :: _) _ _); go_must (refine wpList_box rfl ?_; intro w1 hx1 hb1 hs1; have HB1 := Lib.hid hb1; have c0 := cell_rec hx1 0; have c1 := cell_rec hx1 1; have c2 := cell_rec hx1 3; simp only [List.getElem?_toArray, List.getElem?_cons_succ, List.getElem?_cons_zero] at c0 c1 c2; clear hx1 hb1))
    go_ret
    exact ⟨by rw [HQ2.out]; rfl, HB1.out⟩
  · have HQ2 := Lib.hid (show q = true by rw [HQ.out, decide_eq_false q3]; rfl)
    have t3 : (name != []) = true := bne_iff_ne.2 q3
    have t4 : name.isEmpty = false := by simpa using q3
    clear q3 HQ
    go_enter Try.func34, Try.ntmps34
    go_wp2_with ((with_reducible show wpList _ _ _ (⟨some 1, .box _ _, _, _, _, _⟩ :: _) _ _); go_must (refine wpList_box rfl ?_; intro w1 hx1 hb1 hs1; have HB1 := Lib.hid hb1; have c0 := cell_rec hx1 0; have c1 := cell_rec hx1 1; have c2 := cell_rec hx1 3; simp only [List.getElem?_toArray, List.getElem?_cons_succ, List.getElem?_cons_zero] at c0 c1 c2; clear hx1 hb1))
    go_ret
    exact ⟨by rw [HQ2.out]; rfl, HB1.out⟩
set_option maxHeartbeats 1000000 in
set_option maxRecDepth 100000 in
theorem rankR_any (s : SymM) (w : World) : Calls Try.prog 46 #[symV s] w fun e w' => e = .returned (.int .i64 (rankM s)) ∧ Below w.heap.size w w' := by
  have HSB : Hid (rankM s = if s.sec = 65522 then 2 else if s.bind = 2 then 1 else 3) := rfl
  generalize rankM s = q at *
  obtain ⟨name, bind, typ, sec, value, size⟩ := s
  dsimp only at *
  by_cases q1 : sec = 65522
  · have HQ := Lib.hid (show q = 2 by rw [HSB.out, if_pos q1])
    have t1 : (sec == 65522) = true := by simpa using q1
    clear q1 HSB
    go_enter Try.func46, Try.ntmps46
    go_wp2_with ((with_reducible show wpList _ _ _ (⟨some 1, .box _ _, _, _, _, _⟩ :: _) _ _); go_must (refine wpList_box rfl ?_; intro w1 hx1 hb1 hs1; have HB1 := Lib.hid hb1; have c1 := cell_rec hx1 1; have c2 := cell_rec hx1 3; simp only [List.getElem?_toArray, List.getElem?_cons_succ, List.getElem?_cons_zero] at c1 c2; clear hx1 hb1))
    go_ret
    exact ⟨by rw [HQ.out]; rfl, HB1.out⟩
  have t1 : (sec == 65522) = false := by simpa using q1
  by_cases q2 : bind = 2
  · have HQ := Lib.hid (show q = 1 by rw [HSB.out, if_neg q1, if_pos q2])
    have t2 : (bind == 2) = true := by simpa using q2
    clear q1 q2 HSB
    go_enter Try.func46, Try.ntmps46
    go_wp2_with ((with_reducible show wpList _ _ _ (⟨some 1, .box _ _, _, _, _, _⟩ :: _) _ _); go_must (refine wpList_box rfl ?_; intro w1 hx1 hb1 hs1; have HB1 := Lib.hid hb1; have c1 := cell_rec hx1 1; have c2 := cell_rec hx1 3; simp only [List.getElem?_toArray, List.getElem?_cons_succ, List.getElem?_cons_zero] at c1 c2; clear hx1 hb1))
    go_ret
    exact ⟨by rw [HQ.out]; rfl, HB1.out⟩
  · have HQ := Lib.hid (show q = 3 by rw [HSB.out, if_neg q1, if_neg q2])
    have t2 : (bind == 2) = false := by simpa using q2
    clear q1 q2 HSB
    go_enter Try.func46, Try.ntmps46
    go_wp2_with ((with_reducible show wpList _ _ _ (⟨some 1, .box _ _, _, _, _, _⟩ :: _) _ _); go_must (refine wpList_box rfl ?_; intro w1 hx1 hb1 hs1; have HB1 := Lib.hid hb1; have c1 := cell_rec hx1 1; have c2 := cell_rec hx1 3; simp only [List.getElem?_toArray, List.getElem?_cons_succ, List.getElem?_cons_zero] at c1 c2; clear hx1 hb1))
    go_ret
    exact ⟨by rw [HQ.out]; rfl, HB1.out⟩
end Go.Proofs.Ytnhbgijecdeahaa
namespace Go.Proofs.Ytnhbgijecdeahaa
open Go.RowKit Go.Fd
theorem in_cells {w wr : World} {a : Option Addr} {l : List InV} {x : InV} {k : Nat}
    (hc : ∀ i x, l[i]? = some x → 0 < 5 → ∃ b off, a = some ⟨b, off, none⟩ ∧ ∀ c, c < 5 → w.cell? ⟨b, off + (i * 5 + c), none⟩ = (encIn x)[c]?) (hb : Below w.heap.size w wr) (hk : l[k]? = some x) :
    ∃ b o, a = some ⟨b, o, none⟩ ∧ wr.cell? ⟨b, o + k * 5, none⟩ = some (S x.x.name) ∧ wr.cell? ⟨b, o + k * 5 + 1, none⟩ = some (.int .i64 x.x.obj.target) ∧ wr.cell? ⟨b, o + k * 5 + 2, none⟩ = some x.pv ∧ wr.cell? ⟨b, o + k * 5 + 3, none⟩ = some x.sv ∧ wr.cell? ⟨b, o + k * 5 + 4, none⟩ = some x.lv ∧ b < w.heap.size := by
  obtain ⟨b, o, ha, hcc⟩ := hc k x hk (by decide)
  have hlt : b < w.heap.size := block_lt (v := S x.x.name) (by rw [hcc 0 (by decide)]; rfl)
  have hh : ∀ c, c < 5 → wr.cell? ⟨b, o + k * 5 + c, none⟩ = (encIn x)[c]? := fun c hc5 => by
    rw [Nat.add_assoc, hb.cell (p := ⟨b, o + (k * 5 + c), none⟩) hlt]
    exact hcc c hc5
  exact ⟨b, o, ha, hh 0 (by decide), hh 1 (by decide), hh 2 (by decide), hh 3 (by decide), hh 4 (by decide), hlt⟩
theorem mem_cells {w wr : World} {a : Option Addr} {l : List MemV} {x : MemV} {k : Nat}
    (hc : ∀ i x, l[i]? = some x → 0 < 4 → ∃ b off, a = some ⟨b, off, none⟩ ∧ ∀ c, c < 4 → w.cell? ⟨b, off + (i * 4 + c), none⟩ = (encMem x)[c]?) (hb : Below w.heap.size w wr) (hk : l[k]? = some x) :
    ∃ b o, a = some ⟨b, o, none⟩ ∧ wr.cell? ⟨b, o + k * 4, none⟩ = some (S x.m.name) ∧ wr.cell? ⟨b, o + k * 4 + 1, none⟩ = some (.int .i64 x.m.obj.target) ∧ wr.cell? ⟨b, o + k * 4 + 2, none⟩ = some x.pv ∧ wr.cell? ⟨b, o + k * 4 + 3, none⟩ = some x.sv ∧ b < w.heap.size := by
  obtain ⟨b, o, ha, hcc⟩ := hc k x hk (by decide)
  have hlt : b < w.heap.size := block_lt (v := S x.m.name) (by rw [hcc 0 (by decide)]; rfl)
  have hh : ∀ c, c < 4 → wr.cell? ⟨b, o + k * 4 + c, none⟩ = (encMem x)[c]? := fun c hc5 => by
    rw [Nat.add_assoc, hb.cell (p := ⟨b, o + (k * 4 + c), none⟩) hlt]
    exact hcc c hc5
  exact ⟨b, o, ha, hh 0 (by decide), hh 1 (by decide), hh 2 (by decide), hh 3 (by decide), hlt⟩
theorem in_box {w : World} {g : Nat} {x : InV} {ty : TypeId} {fr : Nat × Nat} (h : w.heap[g]? = some (.cells #[S x.x.name, .int .i64 x.x.obj.target, x.pv, x.sv, x.lv] ty fr)) :
    w.cell? ⟨g, 0, none⟩ = some (S x.x.name) ∧ w.cell? ⟨g, 1, none⟩ = some (.int .i64 x.x.obj.target) ∧ w.cell? ⟨g, 2, none⟩ = some x.pv ∧ w.cell? ⟨g, 3, none⟩ = some x.sv ∧ w.cell? ⟨g, 4, none⟩ = some x.lv :=
  ⟨cell_rec h 0, cell_rec h 1, cell_rec h 2, cell_rec h 3, cell_rec h 4⟩
theorem mem_box {w : World} {g : Nat} {x : MemV} {ty : TypeId} {fr : Nat × Nat} (h : w.heap[g]? = some (.cells #[S x.m.name, .int .i64 x.m.obj.target, x.pv, x.sv] ty fr)) :
    w.cell? ⟨g, 0, none⟩ = some (S x.m.name) ∧ w.cell? ⟨g, 1, none⟩ = some (.int .i64 x.m.obj.target) ∧ w.cell? ⟨g, 2, none⟩ = some x.pv ∧ w.cell? ⟨g, 3, none⟩ = some x.sv :=
  ⟨cell_rec h 0, cell_rec h 1, cell_rec h 2, cell_rec h 3⟩
theorem any_drop {α : Type} {f : α → Bool} {l : List α} {k : Nat} {x : α} (h : l[k]? = some x) : (l.drop k).any f = (f x || (l.drop (k + 1)).any f) := by rw [drop_get h, List.any_cons]
set_option maxHeartbeats 4000000 in
set_option maxRecDepth 100000 in
theorem faultyR_any (l : List InM) (V : List InV) (v : Value) (w : World) (h : InsAt w l V v) (hl : l.length ≤ 1000000000) :
    Calls Try.prog 14 #[v] w fun e w' => e = .returned (.int .i64 (faultyM l)) ∧ Below w.heap.size w w' := by
  have HM : Hid (faultyM l = if l.any bothM = true then 1 else if 64 < l.length then 6 else if l.any (fun x => decide (64 < x.lib.length)) = true then 6 else 0) := rfl
  have HI := Lib.hid h
  obtain ⟨a, cap, rfl, hcap, -, hP⟩ := h.rd.open (fun _ => rfl)
  have HP := Lib.hid hP
  have HL := Lib.hid h.eq
  have hll : l.length = V.length := by rw [h.eq, List.length_map]
  obtain ⟨n, hN⟩ : ∃ n, n = V.length := ⟨_, rfl⟩
  rw [← hN] at hcap hll ⊢
  rw [hll] at hl HM
  have HN := Lib.hid hN
  have A1 : Hid (l.any bothM = (l.drop 0).any bothM) := rfl
  have A2 : Hid (l.any (fun x => decide (64 < x.lib.length)) = (l.drop 0).any (fun x => decide (64 < x.lib.length))) := rfl
  have hget : Hid (∀ k, k < n → ∃ x, V[k]? = some x ∧ l[k]? = some x.x) := Lib.hid fun k hk => ⟨_, List.getElem?_eq_getElem (by omega), (congrArg (·[k]?) HL.out).trans (by show (V.map (·.x))[k]? = _; rw [List.getElem?_map, List.getElem?_eq_getElem (by omega)]; rfl)⟩
  have HLL := Lib.hid hll
  generalize faultyM l = q at *
  clear h hP hN hll
  go_enter Try.func14, Try.ntmps14
  go_wp2
  go_loopw [4, 9] (fun _ i wr => ∃ k : Nat, i = .int .i64 k ∧ k ≤ n ∧ Hid (l.any bothM = (l.drop k).any bothM) ∧ Hid (Below w.heap.size w wr)) (fun _ i _ => n - (intOf i).toNat)
  case atStart => exact ⟨0, rfl, Nat.zero_le _, A1, Below.refl _ _⟩
  case round =>
    obtain ⟨k, rfl, hk, HA, HW⟩ := hrel
    by_cases hlt : k < n
    · obtain ⟨x, hx, hxl⟩ := hget.out k hlt
      obtain ⟨b, o, rfl, e0, e1, e2, e3, e4, hb0⟩ := in_cells HP.out HW.out hx
      have HST := Lib.hid (any_drop (f := bothM) hxl)
      have hxm := List.mem_of_getElem? hx
      obtain ⟨hle, hlr⟩ := HI.out.lib x hxm
      obtain ⟨nl, al, cl, hnl, hlv, -, -⟩ := hlr.shape
      obtain ⟨np, ap, cp, hnp, hpv, -, -⟩ := (HI.out.obj x hxm).rd.shape
      obtain ⟨ns, asy, cs, hns, hsv, -, -⟩ := (HI.out.obj x hxm).syms.shape
      have HBM : Hid (bothM x.x = (decide (0 < nl) && (!decide (x.x.obj.target = 0) || decide (0 < np) || decide (0 < ns)))) := Lib.hid (by
        unfold bothM
        rw [hle, List.length_map, hnl.out, (HI.out.obj x hxm).parts, List.length_map, hnp.out, hns.out])
      obtain ⟨x, L, pv, sv, lv, ml⟩ := x
      dsimp only at *
      subst hlv hpv hsv
      generalize bothM x = bm at *
      clear hx hxl hxm hle hlr
      cases bm with
      | true =>
        have HQ := Lib.hid (show q = 1 by rw [HM.out, HA.out, HST.out]; rfl)
        have t1 : 0 < nl := by
          have := HBM.out
          by_cases h : 0 < nl
          · exact h
          · rw [decide_eq_false h] at this; cases this
        have HB2 := Lib.hid (show (x.obj.target != 0) = true ∨ (x.obj.target != 0) = false ∧ 0 < np ∨ (x.obj.target != 0) = false ∧ ¬ 0 < np ∧ 0 < ns by
          have := HBM.out
          rw [decide_eq_true t1, Bool.true_and] at this
          by_cases h : x.obj.target = 0
          · by_cases h2 : 0 < np
            · exact .inr (.inl ⟨by simpa using h, h2⟩)
            · rw [decide_eq_true h, decide_eq_false h2] at this
              exact .inr (.inr ⟨by simpa using h, h2, by simpa using this.symm⟩)
          · exact .inl (by simpa using h))
        rcases HB2.out with t2 | ⟨t2, t3⟩ | ⟨t2, t3, t4⟩
        all_goals
          go_wp2_with ((with_reducible show wpList _ _ _ (⟨none, .store _ (.tmp 4) _, _, _, _, _⟩ :: _) _ _); go_must (refine wpList_storeNew rfl rfl (by kernel_rfl) rfl (by simp [Value.oneCell']) ?_; intro w2 hh2 hb2; have HB3 := Lib.hid (HW.out.trans (hb2.mono HW.out.size)); obtain ⟨d0, d1, d2, d3, d4⟩ := in_box (x := ⟨x, L, .slice ap np cp, .slice asy ns cs, .slice al nl cl, ml⟩) hh2; clear hh2 hb2))
          go_ret
          exact ⟨by rw [HQ.out]; rfl, HB3.out⟩
      | false =>
        have HA2 := Lib.hid (show l.any bothM = (l.drop (k + 1)).any bothM by rw [HA.out, HST.out]; rfl)
        have HB2 := Lib.hid (show ¬ 0 < nl ∨ 0 < nl ∧ (x.obj.target != 0) = false ∧ ¬ 0 < np ∧ ¬ 0 < ns by
          have := HBM.out
          by_cases h0 : 0 < nl
          · rw [decide_eq_true h0, Bool.true_and] at this
            have h2 := this.symm
            simp only [Bool.or_eq_false_iff, Bool.not_eq_false', decide_eq_true_eq, decide_eq_false_iff_not] at h2
            exact .inr ⟨h0, by simpa using h2.1.1, h2.1.2, h2.2⟩
          · exact .inl h0)
        rcases HB2.out with t1 | ⟨t1, t2, t3, t4⟩
        all_goals
          go_wp2_with ((with_reducible show wpList _ _ _ (⟨none, .store _ (.tmp 4) _, _, _, _, _⟩ :: _) _ _); go_must (refine wpList_storeNew rfl rfl (by kernel_rfl) rfl (by simp [Value.oneCell']) ?_; intro w2 hh2 hb2; have HB3 := Lib.hid (HW.out.trans (hb2.mono HW.out.size)); obtain ⟨d0, d1, d2, d3, d4⟩ := in_box (x := ⟨x, L, .slice ap np cp, .slice asy ns cs, .slice al nl cl, ml⟩) hh2; clear hh2 hb2))
          exact ⟨⟨k + 1, rfl, by omega, HA2.out, HB3.out⟩, by simp [intOf]; omega⟩
    · obtain rfl : k = n := by omega
      have HAF := Lib.hid (show l.any bothM = false by rw [HA.out, List.drop_eq_nil_of_le (by have := HLL.out; omega)]; rfl)
      have HM2 := Lib.hid (show q = if 64 < k then 6 else if l.any (fun x => decide (64 < x.lib.length)) = true then 6 else 0 by rw [HM.out, if_neg (by rw [HAF.out]; simp)])
      clear HM HA HAF
      by_cases h64 : 64 < k
      · have HQ := Lib.hid (show q = 6 by rw [HM2.out, if_pos h64])
        go_wp2
        go_ret
        exact ⟨by rw [HQ.out]; rfl, HW.out⟩
      have HM3 := Lib.hid (show q = if l.any (fun x => decide (64 < x.lib.length)) = true then 6 else 0 by rw [HM2.out, if_neg h64])
      clear HM2
      go_wp2
      go_loopw [6, 43] (fun _ i wr => ∃ j : Nat, i = .int .i64 j ∧ j ≤ k ∧ Hid (l.any (fun x => decide (64 < x.lib.length)) = (l.drop j).any (fun x => decide (64 < x.lib.length))) ∧ Hid (Below w.heap.size w wr)) (fun _ i _ => k - (intOf i).toNat)
      case atStart => exact ⟨0, rfl, Nat.zero_le _, A2, HW⟩
      case round =>
        obtain ⟨j, rfl, hj, HA, HW⟩ := hrel
        by_cases hlt : j < k
        · obtain ⟨x, hx, hxl⟩ := hget.out j hlt
          obtain ⟨b, o, rfl, e0, e1, e2, e3, e4, hb0⟩ := in_cells HP.out HW.out hx
          have HST := Lib.hid (any_drop (f := fun x : InM => decide (64 < x.lib.length)) hxl)
          have hxm := List.mem_of_getElem? hx
          obtain ⟨hle, hlr⟩ := HI.out.lib x hxm
          obtain ⟨nl, al, cl, hnl, hlv, -, -⟩ := hlr.shape
          obtain ⟨np, ap, cp, -, hpv, -, -⟩ := (HI.out.obj x hxm).rd.shape
          obtain ⟨ns, asy, cs, -, hsv, -, -⟩ := (HI.out.obj x hxm).syms.shape
          have HBM : Hid (decide (64 < x.x.lib.length) = decide (64 < nl)) := Lib.hid (by rw [hle, List.length_map, hnl.out])
          rw [HBM.out] at HST
          obtain ⟨x, L, pv, sv, lv, ml⟩ := x
          dsimp only at *
          subst hlv hpv hsv
          clear hx hxl hxm hle hlr HBM
          by_cases t1 : 64 < nl
          · have HQ := Lib.hid (show q = 6 by rw [HM3.out, HA.out, HST.out, decide_eq_true t1]; rfl)
            go_wp2_with ((with_reducible show wpList _ _ _ (⟨none, .store _ (.tmp 6) _, _, _, _, _⟩ :: _) _ _); go_must (refine wpList_storeNew rfl rfl (by kernel_rfl) rfl (by simp [Value.oneCell']) ?_; intro w2 hh2 hb2; have HB3 := Lib.hid (HW.out.trans (hb2.mono HW.out.size)); obtain ⟨d0, d1, d2, d3, d4⟩ := in_box (x := ⟨x, L, .slice ap np cp, .slice asy ns cs, .slice al nl cl, ml⟩) hh2; clear hh2 hb2))
            go_ret
            exact ⟨by rw [HQ.out]; rfl, HB3.out⟩
          · have HA2 := Lib.hid (show l.any (fun x => decide (64 < x.lib.length)) = (l.drop (j + 1)).any (fun x => decide (64 < x.lib.length)) by rw [HA.out, HST.out, decide_eq_false t1]; rfl)
            go_wp2_with ((with_reducible show wpList _ _ _ (⟨none, .store _ (.tmp 6) _, _, _, _, _⟩ :: _) _ _); go_must (refine wpList_storeNew rfl rfl (by kernel_rfl) rfl (by simp [Value.oneCell']) ?_; intro w2 hh2 hb2; have HB3 := Lib.hid (HW.out.trans (hb2.mono HW.out.size)); obtain ⟨d0, d1, d2, d3, d4⟩ := in_box (x := ⟨x, L, .slice ap np cp, .slice asy ns cs, .slice al nl cl, ml⟩) hh2; clear hh2 hb2))
            exact ⟨⟨j + 1, rfl, by omega, HA2.out, HB3.out⟩, by simp [intOf]; omega⟩
        · obtain rfl : j = k := by omega
          have HQ := Lib.hid (show q = 0 by rw [HM3.out, HA.out, List.drop_eq_nil_of_le (by have := HLL.out; omega)]; rfl)
          go_wp2
          go_ret
          exact ⟨by rw [HQ.out]; rfl, HW.out⟩
/-- A module in memory. -/
abbrev ObV := ObjM × List (PartM × Value × Value) × Value × Value
def encOb (y : ObV) : List Value := [.int .i64 y.1.target, y.2.2.1, y.2.2.2]
abbrev obV (y : ObV) : Value := objV y.1 y.2.2.1 y.2.2.2
def InV.ob (x : InV) : ObV := (x.x.obj, x.L, x.pv, x.sv)
def MemV.ob (y : MemV) : ObV := (y.m.obj, y.L, y.pv, y.sv)
def objsV (x : InV) : List ObV := (if x.ml = [] then [x.ob] else []) ++ x.ml.map MemV.ob
/-- Modules in memory. -/
structure ObsAt (w : World) (os : List ObjM) (Y : List ObV) : Prop where
  eq : os = Y.map (·.1)
  obj : ∀ y ∈ Y, ObjAt w y.1 y.2.1 y.2.2.1 y.2.2.2
theorem ObsAt.mono {w w' : World} {os : List ObjM} {Y : List ObV} (h : ObsAt w os Y) (hb : Below w.heap.size w w') : ObsAt w' os Y := ⟨h.eq, fun y hy => (h.obj y hy).mono hb⟩
theorem InsAt.obs {w : World} {l : List InM} {V : List InV} {v : Value} (h : InsAt w l V v) : ObsAt w (objsM l) (V.flatMap objsV) := by
  refine ⟨?_, fun y hy => ?_⟩
  · rw [h.eq]
    unfold objsM
    have hl := h.lib
    clear h
    induction V with
    | nil => rfl
    | cons x V ih =>
      rw [List.map_cons, List.flatMap_cons, List.flatMap_cons, List.map_append, ih (fun x hx => hl x (List.mem_cons_of_mem _ hx))]
      congr 1
      have hx := (hl x (by simp)).1
      unfold objsI objsV
      rw [hx, List.map_append, List.map_map, List.map_map]
      congr 1
      by_cases hm : x.ml = []
      · simp [hm, InV.ob]
      · simp [hm]
  · obtain ⟨x, hx, hy⟩ := List.mem_flatMap.1 hy
    unfold objsV at hy
    rcases List.mem_append.1 hy with hy | hy
    · split at hy
      · rw [List.mem_singleton] at hy
        subst hy
        exact h.obj x hx
      · cases hy
    · obtain ⟨m, hm, rfl⟩ := List.mem_map.1 hy
      exact h.mem x hx m hm
theorem TOb : SliceT Try.prog 25 36 3 56 := SliceT.mk' (z := .agg #[.int .i64 0, .slice none 0 0, .slice none 0 0]) (by kernel_rfl) (by kernel_rfl) rfl (by omega)
theorem objsV_len {x : InV} (h : x.ml.length ≤ 64) : (objsV x).length ≤ 65 := by
  unfold objsV
  rw [List.length_append, List.length_map]
  split <;> simp <;> omega
theorem flatV_len : ∀ {V : List InV}, (∀ x ∈ V, x.ml.length ≤ 64) → (V.flatMap objsV).length ≤ 65 * V.length
  | [], _ => by simp
  | x :: V, h => by
    have h1 := objsV_len (h x (by simp))
    have h2 := flatV_len (V := V) fun y hy => h y (by simp [hy])
    rw [List.flatMap_cons, List.length_append, List.length_cons]
    omega
theorem flatMap_take {α β : Type} {l : List α} {k : Nat} {x : α} (h : l[k]? = some x) (f : α → List β) : (l.take (k + 1)).flatMap f = (l.take k).flatMap f ++ f x := by
  rw [List.take_add_one, h, List.flatMap_append]
  simp
theorem map_take_next {α β : Type} {l : List α} {k : Nat} {x : α} (h : l[k]? = some x) (f : α → β) : (l.take (k + 1)).map f = (l.take k).map f ++ [f x] := by
  rw [List.take_add_one, h]
  simp
set_option maxHeartbeats 4000000 in
set_option maxRecDepth 100000 in
theorem objectsR_any (l : List InM) (V : List InV) (v : Value) (w : World) (h : InsAt w l V v) (hl : V.length ≤ 64) (hm : ∀ x ∈ V, x.ml.length ≤ 64) :
    Calls Try.prog 15 #[v] w fun e w' => (∃ a n c, e = .returned (.slice a n c) ∧ OwR 3 encOb 36 w' w.heap.size (.slice a n c) (V.flatMap objsV)) ∧ Below w.heap.size w w' := by
  have HI := Lib.hid h
  obtain ⟨a, cap, rfl, hcap, -, hP⟩ := h.rd.open (fun _ => rfl)
  have HP := Lib.hid hP
  have HM := Lib.hid hm
  obtain ⟨n, hN⟩ : ∃ n, n = V.length := ⟨_, rfl⟩
  rw [← hN] at hcap hl ⊢
  have HN := Lib.hid hN
  have HLE := Lib.hid (fun k => show ((V.take k).flatMap objsV).length ≤ 4160 by
    have h1 := flatV_len (V := V.take k) fun x hx => hm x (List.mem_of_mem_take hx)
    have h2 : (V.take k).length ≤ V.length := by rw [List.length_take]; omega
    omega)
  clear h hP hN hm
  go_enter Try.func15, Try.ntmps15
  go_wp2
  go_loopw [3, 5, 7, 10, 26] (fun v _ _ i _ wr => ∃ (k : Nat) (va : Option Addr) (vn vc : Nat), v = .slice va vn vc ∧ i = .int .i64 k ∧ k ≤ n ∧ Hid (OwR 3 encOb 36 wr w.heap.size (.slice va vn vc) ((V.take k).flatMap objsV)) ∧ Hid (Below w.heap.size w wr)) (fun _ _ _ i _ _ => n - (intOf i).toNat)
  case atStart => exact ⟨0, none, 0, 0, rfl, rfl, Nat.zero_le _, OwR.nil _ _ _ _ _, Below.refl _ _⟩
  case round =>
    obtain ⟨k, va, vn, vc, rfl, rfl, hk, HO, HW⟩ := hrel
    have hws := HW.out.size
    by_cases hlt : k < n
    · obtain ⟨x, hx⟩ : ∃ x, V[k]? = some x := ⟨_, List.getElem?_eq_getElem (by have := HN.out; omega)⟩
      obtain ⟨b, o, rfl, e0, e1, e2, e3, e4, hb0⟩ := in_cells HP.out HW.out hx
      have hxm := List.mem_of_getElem? hx
      have hml := HM.out x hxm
      have hlr := (HI.out.lib x hxm).2
      obtain ⟨al, cl, hlv, hcl, -, hP2⟩ := hlr.open (fun _ => rfl)
      have HP2 := Lib.hid hP2
      obtain ⟨np, ap, cp, -, hpv, -, -⟩ := (HI.out.obj x hxm).rd.shape
      obtain ⟨ns, asy, cs, -, hsv, -, -⟩ := (HI.out.obj x hxm).syms.shape
      have HST := Lib.hid (flatMap_take hx objsV)
      have HOV : Hid (objsV x = (if x.ml = [] then [x.ob] else []) ++ x.ml.map MemV.ob) := rfl
      have HOB : Hid (x.ob = (x.x.obj, x.L, x.pv, x.sv)) := rfl
      have HMS := Lib.hid (fun y (hy : y ∈ x.ml) => HI.out.mem x hxm y hy)
      obtain ⟨x, L, pv, sv, lv, ml⟩ := x
      dsimp only at *
      subst hlv hpv hsv
      obtain ⟨nl, hnl⟩ : ∃ n, n = ml.length := ⟨_, rfl⟩
      rw [← hnl] at hcl hml e4
      have HNL := Lib.hid hnl
      have HLK := HLE.out k
      generalize objsV ⟨x, L, .slice ap np cp, .slice asy ns cs, .slice al ml.length cl, ml⟩ = ov at *
      generalize InV.ob ⟨x, L, .slice ap np cp, .slice asy ns cs, .slice al ml.length cl, ml⟩ = ob at *
      clear hx hxm hlr hP2 hnl
      by_cases h0 : nl = 0
      · have hml0 : ml = [] := List.eq_nil_of_length_eq_zero (by have := HNL.out; omega)
        have t1 : ((nl : Int) == 0) = true := by simpa using h0
        obtain ⟨Bs, hBs⟩ : ∃ B, B = (V.take k).flatMap objsV ++ [(x.obj, L, Value.slice ap np cp, Value.slice asy ns cs)] := ⟨_, rfl⟩
        have HBS := Lib.hid (show (V.take (k + 1)).flatMap objsV = Bs ++ ml.map MemV.ob by rw [HST.out, HOV.out, if_pos hml0, HOB.out, hBs, List.append_assoc])
        have HBL : Bs.length ≤ 4200 := by rw [hBs, List.length_append, List.length_singleton]; omega
        clear hml0 h0
        go_wp2_with (first
          | ((with_reducible show wpList _ _ _ (⟨none, .store _ (.tmp 5) _, _, _, _, _⟩ :: _) _ _); go_must (refine wpList_storeNew rfl rfl (by kernel_rfl) rfl (by simp [Value.oneCell']) ?_; intro w2 hh2 hb2; have HO2 := Lib.hid (HO.out.mono hb2); have HB2 := Lib.hid (HW.out.trans (hb2.mono HW.out.size)); have hws2 := HB2.out.size; have HH2 := Lib.hid hh2; obtain ⟨d0, d1, d2, d3, d4⟩ := in_box (x := ⟨x, L, .slice ap np cp, .slice asy ns cs, .slice al nl cl, ml⟩) hh2; clear hh2 hb2))
          | ((with_reducible show wpList _ _ _ (⟨some 22, _, _, _, _, _⟩ :: _) _ _); go_must (refine wpList_pushR TOb HO2.out rfl rfl (x.obj, L, .slice ap np cp, .slice asy ns cs) rfl rfl rfl (by omega) (by omega) hws2 ?_; intro v3 w3 ho3 hg3 hb3; have HO3 := Lib.hid ho3; have HB3 := Lib.hid (HB2.out.trans hb3); have HH3 := Lib.hid ((hg3.block wr.heap.size (Array.getElem?_eq_some_iff.1 HH2.out).1 (fun e => absurd (World.ownsRow.lt HO.out _ e.symm).2 (Nat.lt_irrefl _))).trans HH2.out); obtain ⟨d0, d1, d2, d3, d4⟩ := in_box (x := ⟨x, L, .slice ap np cp, .slice asy ns cs, .slice al nl cl, ml⟩) HH3.out; obtain ⟨vb, va2, vc2, -, rfl, -, -⟩ := ho3.shape; clear ho3 hg3 hb3)))
        have HO33 := Lib.hid (show OwR 3 encOb 36 w3 w.heap.size (.slice va2 vb vc2) Bs by rw [hBs]; exact HO3.out)
        clear hBs
        have hws3 := HB3.out.size
        go_loopw [3, 7, 26] (fun v _ i wr2 => ∃ (j : Nat) (ub : Option Addr) (un uc : Nat), v = .slice ub un uc ∧ i = .int .i64 j ∧ j ≤ nl ∧ Hid (OwR 3 encOb 36 wr2 w.heap.size (.slice ub un uc) (Bs ++ (ml.take j).map MemV.ob)) ∧ Hid (Below w.heap.size w wr2)) (fun _ _ i _ => nl - (intOf i).toNat)
        case atStart => exact ⟨0, _, _, _, rfl, rfl, Nat.zero_le _, by rw [List.take_zero, List.map_nil, List.append_nil]; exact HO33, HB3.out⟩
        case round =>
          obtain ⟨j, ub, un, uc, rfl, rfl, hj, HO4, HW4⟩ := hrel
          have hws4 := HW4.out.size
          by_cases hlj : j < nl
          · obtain ⟨y, hy⟩ : ∃ y, ml[j]? = some y := ⟨_, List.getElem?_eq_getElem (by have := HNL.out; omega)⟩
            obtain ⟨b2, o2, rfl, f0, f1, f2, f3, hb2⟩ := mem_cells HP2.out HW4.out hy
            obtain ⟨mp, bp, dp, -, hpv, -, -⟩ := (HMS.out y (List.mem_of_getElem? hy)).rd.shape
            obtain ⟨ms, bs, ds, -, hsv, -, -⟩ := (HMS.out y (List.mem_of_getElem? hy)).syms.shape
            have HSJ := Lib.hid (map_take_next hy MemV.ob)
            have HYB : Hid (y.ob = (y.m.obj, y.L, y.pv, y.sv)) := rfl
            have HLJ := Lib.hid (show (Bs ++ (ml.take j).map MemV.ob).length ≤ 9000 by rw [List.length_append, List.length_map, List.length_take]; omega)
            obtain ⟨y, L2, pv2, sv2⟩ := y
            dsimp only at *
            subst hpv hsv
            generalize MemV.ob ⟨y, L2, .slice bp mp dp, .slice bs ms ds⟩ = yb at *
            obtain ⟨Bj, hBj⟩ : ∃ B, B = Bs ++ (ml.take j).map MemV.ob := ⟨_, rfl⟩
            have HBJ := Lib.hid hBj.symm
            rw [← hBj] at HO4 HLJ
            clear hBj hy
            go_wp2_with (first
              | ((with_reducible show wpList _ _ _ (⟨none, .store _ (.tmp 7) _, _, _, _, _⟩ :: _) _ _); go_must (refine wpList_storeNew rfl rfl (by kernel_rfl) rfl (by simp [Value.oneCell']) ?_; intro w5 hh5 hb5; have HO5 := Lib.hid (HO4.out.mono hb5); have HB5 := Lib.hid (HW4.out.trans (hb5.mono HW4.out.size)); have hws5 := HB5.out.size; obtain ⟨k0, k1, k2, k3⟩ := mem_box (x := ⟨y, L2, .slice bp mp dp, .slice bs ms ds⟩) hh5; clear hh5 hb5))
              | ((with_reducible show wpList _ _ _ (⟨some 34, _, _, _, _, _⟩ :: _) _ _); go_must (refine wpList_pushR TOb HO5.out rfl rfl (y.obj, L2, .slice bp mp dp, .slice bs ms ds) rfl rfl rfl (by have := HLJ.out; omega) (by have := HLJ.out; omega) hws5 ?_; intro v6 w6 ho6 hg6 hb6; have HO6 := Lib.hid ho6; have HB6 := Lib.hid (HB5.out.trans hb6); clear ho6 hg6 hb6)))
            obtain ⟨un6, ub6, uc6, -, rfl, -, -⟩ := HO6.out.shape
            go_roundw
            case rel => exact ⟨j + 1, _, _, _, rfl, by go_num, by omega, Lib.hid (by have h6 := HO6.out; rw [← HYB.out] at h6; rw [HSJ.out, ← List.append_assoc, HBJ.out]; exact h6), HB6.out⟩
            case measure => simp [intOf] <;> omega
          · obtain rfl : j = nl := by omega
            have HF := Lib.hid (show Bs ++ (ml.take j).map MemV.ob = (V.take (k + 1)).flatMap objsV by rw [List.take_of_length_le (by have := HNL.out; omega)]; exact HBS.out.symm)
            rw [HF.out] at HO4
            go_wp2
            go_roundw
            case rel => exact ⟨k + 1, _, _, _, rfl, by go_num, by omega, HO4.out, HW4.out⟩
            case measure => simp [intOf] <;> omega
      · have t1 : ((nl : Int) == 0) = false := by simpa using h0
        have hml0 : ml ≠ [] := fun e => h0 (by have := HNL.out; rw [e] at this; exact this)
        obtain ⟨Bs, hBs⟩ : ∃ B, B = (V.take k).flatMap objsV := ⟨_, rfl⟩
        have HBS := Lib.hid (show (V.take (k + 1)).flatMap objsV = Bs ++ ml.map MemV.ob by rw [HST.out, HOV.out, if_neg hml0, hBs, List.nil_append])
        have HBL : Bs.length ≤ 4200 := by rw [hBs]; omega
        rw [← hBs] at HO
        clear hml0 hBs h0
        go_wp2_with ((with_reducible show wpList _ _ _ (⟨none, .store _ (.tmp 5) _, _, _, _, _⟩ :: _) _ _); go_must (refine wpList_storeNew rfl rfl (by kernel_rfl) rfl (by simp [Value.oneCell']) ?_; intro w2 hh2 hb2; have HO2 := Lib.hid (HO.out.mono hb2); have HB2 := Lib.hid (HW.out.trans (hb2.mono HW.out.size)); have hws2 := HB2.out.size; have HH2 := Lib.hid hh2; obtain ⟨d0, d1, d2, d3, d4⟩ := in_box (x := ⟨x, L, .slice ap np cp, .slice asy ns cs, .slice al nl cl, ml⟩) hh2; clear hh2 hb2))
        have hws9 := hws2
        go_loopw [3, 7, 26] (fun v _ i wr2 => ∃ (j : Nat) (ub : Option Addr) (un uc : Nat), v = .slice ub un uc ∧ i = .int .i64 j ∧ j ≤ nl ∧ Hid (OwR 3 encOb 36 wr2 w.heap.size (.slice ub un uc) (Bs ++ (ml.take j).map MemV.ob)) ∧ Hid (Below w.heap.size w wr2)) (fun _ _ i _ => nl - (intOf i).toNat)
        case atStart => exact ⟨0, _, _, _, rfl, rfl, Nat.zero_le _, by rw [List.take_zero, List.map_nil, List.append_nil]; exact HO2, HB2.out⟩
        case round =>
          obtain ⟨j, ub, un, uc, rfl, rfl, hj, HO4, HW4⟩ := hrel
          have hws4 := HW4.out.size
          by_cases hlj : j < nl
          · obtain ⟨y, hy⟩ : ∃ y, ml[j]? = some y := ⟨_, List.getElem?_eq_getElem (by have := HNL.out; omega)⟩
            obtain ⟨b2, o2, rfl, f0, f1, f2, f3, hb2⟩ := mem_cells HP2.out HW4.out hy
            obtain ⟨mp, bp, dp, -, hpv, -, -⟩ := (HMS.out y (List.mem_of_getElem? hy)).rd.shape
            obtain ⟨ms, bs, ds, -, hsv, -, -⟩ := (HMS.out y (List.mem_of_getElem? hy)).syms.shape
            have HSJ := Lib.hid (map_take_next hy MemV.ob)
            have HYB : Hid (y.ob = (y.m.obj, y.L, y.pv, y.sv)) := rfl
            have HLJ := Lib.hid (show (Bs ++ (ml.take j).map MemV.ob).length ≤ 9000 by rw [List.length_append, List.length_map, List.length_take]; omega)
            obtain ⟨y, L2, pv2, sv2⟩ := y
            dsimp only at *
            subst hpv hsv
            generalize MemV.ob ⟨y, L2, .slice bp mp dp, .slice bs ms ds⟩ = yb at *
            obtain ⟨Bj, hBj⟩ : ∃ B, B = Bs ++ (ml.take j).map MemV.ob := ⟨_, rfl⟩
            have HBJ := Lib.hid hBj.symm
            rw [← hBj] at HO4 HLJ
            clear hBj hy
            go_wp2_with (first
              | ((with_reducible show wpList _ _ _ (⟨none, .store _ (.tmp 7) _, _, _, _, _⟩ :: _) _ _); go_must (refine wpList_storeNew rfl rfl (by kernel_rfl) rfl (by simp [Value.oneCell']) ?_; intro w5 hh5 hb5; have HO5 := Lib.hid (HO4.out.mono hb5); have HB5 := Lib.hid (HW4.out.trans (hb5.mono HW4.out.size)); have hws5 := HB5.out.size; obtain ⟨k0, k1, k2, k3⟩ := mem_box (x := ⟨y, L2, .slice bp mp dp, .slice bs ms ds⟩) hh5; clear hh5 hb5))
              | ((with_reducible show wpList _ _ _ (⟨some 34, _, _, _, _, _⟩ :: _) _ _); go_must (refine wpList_pushR TOb HO5.out rfl rfl (y.obj, L2, .slice bp mp dp, .slice bs ms ds) rfl rfl rfl (by have := HLJ.out; omega) (by have := HLJ.out; omega) hws5 ?_; intro v6 w6 ho6 hg6 hb6; have HO6 := Lib.hid ho6; have HB6 := Lib.hid (HB5.out.trans hb6); clear ho6 hg6 hb6)))
            obtain ⟨un6, ub6, uc6, -, rfl, -, -⟩ := HO6.out.shape
            go_roundw
            case rel => exact ⟨j + 1, _, _, _, rfl, by go_num, by omega, Lib.hid (by have h6 := HO6.out; rw [← HYB.out] at h6; rw [HSJ.out, ← List.append_assoc, HBJ.out]; exact h6), HB6.out⟩
            case measure => simp [intOf] <;> omega
          · obtain rfl : j = nl := by omega
            have HF := Lib.hid (show Bs ++ (ml.take j).map MemV.ob = (V.take (k + 1)).flatMap objsV by rw [List.take_of_length_le (by have := HNL.out; omega)]; exact HBS.out.symm)
            rw [HF.out] at HO4
            go_wp2
            go_roundw
            case rel => exact ⟨k + 1, _, _, _, rfl, by go_num, by omega, HO4.out, HW4.out⟩
            case measure => simp [intOf] <;> omega
    · obtain rfl : k = n := by omega
      have HF := Lib.hid (show (V.take k).flatMap objsV = V.flatMap objsV by rw [List.take_of_length_le (by have := HN.out; omega)])
      rw [HF.out] at HO
      go_wp2
      go_ret
      exact ⟨⟨_, _, _, rfl, HO.out⟩, HW.out⟩
end Go.Proofs.Ytnhbgijecdeahaa
namespace Go.Proofs.Ytnhbgijecdeahaa
open Go.RowKit Go.Fd
/-! ### Tables of names -/
theorem lowK_cons (x : List UInt8) (D : List (List UInt8)) (k : List UInt8) : lowK ((x :: D).map fun n => (n, (1 : Int))) k = lowK (D.map fun n => (n, (1 : Int))) k + if x < k then 1 else 0 := by
  unfold lowK
  rw [List.map_cons, List.countP_cons]
  by_cases h : x < k <;> simp [h]
theorem lowK_zero {D : List (List UInt8)} {k : List UInt8} (h : ∀ n ∈ D, ¬ n < k) : lowK (D.map fun n => (n, (1 : Int))) k = 0 := by
  unfold lowK
  rw [List.countP_eq_zero]
  intro p hp
  obtain ⟨n, hn, rfl⟩ := List.mem_map.1 hp
  simpa using h n hn
theorem putT_ins : ∀ {D : List (List UInt8)} {k : List UInt8}, D.Pairwise (· < ·) → putT (D.map fun n => (n, (1 : Int))) k 1 = (insN D k).map fun n => (n, (1 : Int))
  | [], k, _ => by simp [putT, insN, foundK, lowK]
  | x :: D, k, h => by
    have hx := (List.pairwise_cons.1 h).1
    have ih := putT_ins (k := k) (List.pairwise_cons.1 h).2
    rw [insN]
    by_cases h1 : k = x
    · subst h1
      rw [if_pos rfl]
      have h0 : lowK ((k :: D).map fun n => (n, (1 : Int))) k = 0 := lowK_zero fun n hn hlt => by
        rcases List.mem_cons.1 hn with rfl | hn
        · exact List.lt_irrefl _ hlt
        · exact List.lt_irrefl _ (List.lt_trans (hx n hn) hlt)
      unfold putT foundK
      rw [h0]
      simp
    · rw [if_neg h1]
      by_cases h2 : k < x
      · rw [if_pos h2]
        have h0 : lowK ((x :: D).map fun n => (n, (1 : Int))) k = 0 := lowK_zero fun n hn hlt => by
          rcases List.mem_cons.1 hn with rfl | hn
          · exact List.lt_irrefl _ (List.lt_trans h2 hlt)
          · exact List.lt_irrefl _ (List.lt_trans (List.lt_trans h2 (hx n hn)) hlt)
        have hxk : ¬ x = k := fun e => h1 e.symm
        unfold putT foundK
        rw [h0]
        simp [hxk]
      · rw [if_neg h2]
        have hxk : x < k := by
          rcases List.le_iff_lt_or_eq.1 (List.not_lt.1 h2) with h | h
          · exact h
          · exact absurd h.symm h1
        have h0 := lowK_cons x D k
        rw [if_pos hxk] at h0
        show putT _ k 1 = (x, (1 : Int)) :: (insN D k).map fun n => (n, (1 : Int))
        rw [← ih]
        unfold putT foundK
        rw [h0, List.map_cons, List.getElem?_cons_succ]
        split
        · rename_i q hq
          by_cases hqk : q.1 = k <;> simp [hqk]
        · simp
theorem insN_len : ∀ (D : List (List UInt8)) (k : List UInt8), (insN D k).length ≤ D.length + 1
  | [], k => by simp [insN]
  | x :: D, k => by
    have ih := insN_len D k
    rw [insN]
    split
    · simp
    · split
      · simp
      · simp only [List.length_cons]; omega
/-! ### The drawer -/
/-- A drawer in memory. -/
structure DrwAt (w : World) (base p : Nat) (lv : Value) (mt tb mh : Nat) (H : Homes) (d : Drn) : Prop where
  box : w.heap[p]? = some (.cells #[lv, .map (some mt), .pointer (some ⟨tb, 0, none⟩), .map (some mh)] 76 (0, 0))
  tak : MapIs Try.prog 61 spotV w mt (seenE d.taken)
  tab : ∃ tv, TabIs w base tb tv (d.defd.map fun n => (n, (1 : Int)))
  hom : MapIs Try.prog 9 S w mh (H.map fun x => (x.1, spotV x.2))
  low : base ≤ p ∧ base ≤ mt ∧ base ≤ mh
  ne : mt ≠ mh
section
variable {w w' : World} {base p : Nat} {lv : Value} {mt tb mh : Nat} {H : Homes} {d : Drn}
theorem DrwAt.mono (h : DrwAt w base p lv mt tb mh H d) (hb : Below w.heap.size w w') : DrwAt w' base p lv mt tb mh H d :=
  ⟨heap_below hb h.box, h.tak.mono hb, by obtain ⟨tv, ht⟩ := h.tab; exact ⟨tv, ht.mono hb⟩, h.hom.mono hb, h.low, h.ne⟩
theorem DrwAt.srt (h : DrwAt w base p lv mt tb mh H d) : d.defd.Pairwise (· < ·) := by
  obtain ⟨tv, ht⟩ := h.tab
  have := ht.srt
  unfold Srt at this
  rw [List.pairwise_map] at this
  exact this
theorem mapKeepT {κ : Type} {k : TypeId} {mk : κ → Value} {b : Nat} {E : List (κ × Value)} (h : MapIs Try.prog k mk w b E) (hk : KeepT w w') : MapIs Try.prog k mk w' b E := by
  obtain ⟨es, clock, hb, r⟩ := h
  exact ⟨es, clock, hk b _ hb (fun cs t fr e => by cases e), r⟩
theorem DrwAt.put (h : DrwAt w base p lv mt tb mh H d) {D : List (List UInt8)} (ht : ∃ tv, TabIs w' base tb tv (D.map fun n => (n, (1 : Int)))) (hk : KeepT w w') : DrwAt w' base p lv mt tb mh H ⟨d.taken, D⟩ :=
  ⟨hk p _ h.box (fun cs t fr e => by cases e; exact ⟨by decide, by decide⟩), mapKeepT h.tak hk, ht, mapKeepT h.hom hk, h.low, h.ne⟩
theorem DrwAt.stirTak (h : DrwAt w base p lv mt tb mh H d) {T : List Spot} (hm : MapIs Try.prog 61 spotV w' mt (seenE T)) (hg : w.grownBy w' (some mt)) : DrwAt w' base p lv mt tb mh H ⟨T, d.defd⟩ := by
  have hs : Stirs (fun k => k = mt) w w' := Stirs.of_grown hg fun b hb => by cases hb; rfl
  have hmc : ∃ es clock, w.heap[mt]? = some (.map es clock) := by obtain ⟨es, clock, hb, -⟩ := h.tak; exact ⟨es, clock, hb⟩
  obtain ⟨es, clock, hmb⟩ := hmc
  obtain ⟨tv, ht⟩ := h.tab
  refine ⟨hs.kept h.box fun e => ?_, hm, ⟨tv, ht.stirs hs (fun e => ?_) fun k hk e => ?_⟩, h.hom.kept hg (fun e => h.ne (by cases e; rfl)), h.low, h.ne⟩
  · rw [← e, h.box] at hmb
    cases hmb
  · rw [← e, ht.box] at hmb
    cases hmb
  · subst e
    rcases ht.row.2 with ⟨rfl, -⟩ | ⟨g2, cap, cur, rfl, -, hh, -⟩
    · cases hk
    · cases hk
      rw [hh] at hmb
      cases hmb
end
/-- The module at a place. -/
def obVAt (V : List InV) (s : Spot) : Option ObV :=
  match V[s.1]? with
  | none => none
  | some x => if s.2 < 0 then some x.ob else (x.ml[s.2.toNat]?).map MemV.ob
theorem obVAt_at {w : World} {l : List InM} {V : List InV} {v : Value} (h : InsAt w l V v) {s : Spot} {y : ObV} (hy : obVAt V s = some y) : objAt l s = y.1 ∧ ObjAt w y.1 y.2.1 y.2.2.1 y.2.2.2 := by
  unfold obVAt at hy
  cases hx : V[s.1]? with
  | none => rw [hx] at hy; cases hy
  | some x =>
    have hxl : l[s.1]? = some x.x := by rw [h.eq, List.getElem?_map, hx]; rfl
    have hxm := List.mem_of_getElem? hx
    rw [hx] at hy
    dsimp only at hy
    unfold objAt
    rw [hxl]
    dsimp only
    split at hy
    · rename_i hs
      cases hy
      rw [if_pos hs]
      exact ⟨rfl, h.obj x hxm⟩
    · rename_i hs
      rw [if_neg hs]
      obtain ⟨m, hm, rfl⟩ := Option.map_eq_some_iff.1 hy
      rw [(h.lib x hxm).1, List.getElem?_map, hm]
      exact ⟨rfl, h.mem x hxm m (List.mem_of_getElem? hm)⟩
set_option maxHeartbeats 4000000 in
set_option maxRecDepth 100000 in
theorem objR_any (l : List InM) (V : List InV) (lv : Value) (s : Spot) (y : ObV) (base p mt tb mh : Nat) (H : Homes) (d : Drn) (w : World) (h : InsAt w l V lv) (hd : DrwAt w base p lv mt tb mh H d) (hy : obVAt V s = some y) (hs : -9223372036854775808 ≤ s.2 ∧ s.2 < 9223372036854775808) (_hl : V.length ≤ 1000000) :
    Calls Try.prog 20 #[.pointer (some ⟨p, 0, none⟩), spotV s] w fun e w' => e = .returned (obV y) ∧ Below w.heap.size w w' := by
  obtain ⟨-, hat⟩ := obVAt_at h hy
  obtain ⟨qp, qa, qc, -, hqp, -, -⟩ := hat.rd.shape
  obtain ⟨qs, qb, qd, -, hqs, -, -⟩ := hat.syms.shape
  obtain ⟨a, cap, rfl, hcap, -, hP⟩ := h.rd.open (fun _ => rfl)
  have HP := Lib.hid hP
  have HBX := Lib.hid hd.box
  unfold obVAt at hy
  obtain ⟨i, m⟩ := s
  dsimp only at *
  cases hx : V[i]? with
  | none => rw [hx] at hy; cases hy
  | some x =>
    rw [hx] at hy
    have hxm := List.mem_of_getElem? hx
    have hil := (List.getElem?_eq_some_iff.1 hx).1
    dsimp only at hy
    have HLR := Lib.hid (h.lib x hxm).2
    have HIC := Lib.hid (fun wr (hb : Below w.heap.size w wr) => in_cells HP.out hb hx)
    obtain ⟨n, hN⟩ : ∃ n, n = V.length := ⟨_, rfl⟩
    rw [← hN] at hcap hil _hl HBX
    by_cases hm : m < 0
    · rw [if_pos hm] at hy
      have t1 : decide (m < 0) = true := decide_eq_true hm
      have HY := Lib.hid (show y = (x.x.obj, x.L, x.pv, x.sv) from (Option.some.inj hy).symm)
      clear h hd hP hy hx hxm hat hN
      rw [HY.out]
      rw [HY.out] at hqp hqs
      dsimp only at hqp hqs
      obtain ⟨b, o, rfl, e0, e1, e2, e3, e4, hb0⟩ := HIC.out w (Below.refl _ _)
      obtain ⟨xx, L, pv, sv, lv, ml⟩ := x
      dsimp only at *
      subst hqp hqs
      go_enter Try.func20, Try.ntmps20
      go_wp2_with (first
        | ((with_reducible show wpList _ _ _ (⟨some 3, .box _ _, _, _, _, _⟩ :: _) _ _); go_must (refine wpList_box rfl ?_; intro w1 hx1 hb1 hs1; have HX1 := Lib.hid hx1; have HB1 := Lib.hid hb1; clear hx1 hb1))
        | ((with_reducible show wpList _ _ _ (⟨some 4, .alloc _, _, _, _, _⟩ :: _) _ _); go_must (refine wpList_allocObj ?_; intro w2 hx2 hb2 hs2; have HX2 := Lib.hid hx2; have HX12 := Lib.hid (heap_below hb2 HX1.out); have HB2 := Lib.hid (HB1.out.trans (hb2.mono HB1.out.size)); have HBX2 := Lib.hid (heap_below HB2.out HBX.out); have c0 := cell_rec HX12.out 0; have c1 := cell_rec HX12.out 1; have p0 := cell_rec HBX2.out 0; simp only [List.getElem?_toArray, List.getElem?_cons_succ, List.getElem?_cons_zero] at c0 c1 p0; clear hx2 hb2)))
      obtain ⟨b', o', hbo, e0, e1, e2, e3, e4, hb0⟩ := HIC.out w2 HB2.out
      cases hbo
      clear c1
      have hAB := fun (x : Above w2) (b k : Nat) (h : b < w2.heap.size) => Above.cell x b k h
      have l1 := block_lt c0
      have l2 := block_lt p0
      have l3 := block_lt e0
      refine wp_region_walk 9 [] (by kernel_rfl) (by kernel_rfl) ?_
      simp only [List.take_succ_cons, List.take_zero, List.drop_succ_cons, List.drop_zero]
      repeat (first | (refine walk_check (by kernel_rfl) rfl rfl ?_; go_frame) | (refine walk_quiet rfl rfl rfl ?_; intro K hK; go_big_quiet_op; go_big_quiet_on))
      refine walk_nil ?_
      intro wz hbz hF
      clear hF
      have HX2z := Lib.hid (heap_below hbz HX2.out)
      have HBz := Lib.hid (HB2.out.trans (hbz.mono HB2.out.size))
      have h12 := HB1.out.size
      have hz2 := hbz.size
      clear hbz hAB c0 p0
      refine wpList_storeMade HX2z.out rfl rfl (by kernel_rfl) rfl (by simp [Value.oneCell']) h12 HBz.out.size ?_
      intro w3 hh3 hb3
      have HH3 := Lib.hid hh3
      have HB3 := Lib.hid (HBz.out.trans hb3)
      clear hh3 hb3
      go_wp2
      refine bodyPost_ret (results_cell_row rfl _ _ w1.heap.size _ _ _ _ rfl HH3.out rfl rfl (by kernel_rfl)) rfl ⟨rfl, HB3.out⟩
    · rw [if_neg hm] at hy
      have t1 : decide (m < 0) = false := decide_eq_false hm
      obtain ⟨z, hz, hzy⟩ := Option.map_eq_some_iff.1 hy
      have HY := Lib.hid (show y = (z.m.obj, z.L, z.pv, z.sv) from hzy.symm)
      obtain ⟨al, cl, hlv, hcl, -, hP2⟩ := (h.lib x hxm).2.open (fun _ => rfl)
      have HP2 := Lib.hid hP2
      have HMC := Lib.hid (fun wr (hb : Below w.heap.size w wr) => mem_cells HP2.out hb hz)
      have hkl := (List.getElem?_eq_some_iff.1 hz).1
      obtain ⟨k, hk⟩ : ∃ k : Nat, m = (k : Int) := ⟨m.toNat, by omega⟩
      subst hk
      rw [Int.toNat_natCast] at hkl HMC
      obtain ⟨nl, hNL⟩ : ∃ n, n = x.ml.length := ⟨_, rfl⟩
      rw [← hNL] at hkl hcl hlv
      clear h hd hP hy hx hxm hat hN hz hzy hP2 hNL hm
      rw [HY.out]
      rw [HY.out] at hqp hqs
      dsimp only at hqp hqs
      obtain ⟨b, o, rfl, e0, e1, e2, e3, e4, hb0⟩ := HIC.out w (Below.refl _ _)
      obtain ⟨b2, o2, rfl, f0, f1, f2, f3, hb2⟩ := HMC.out w (Below.refl _ _)
      obtain ⟨xx, L, pv, sv, lv, ml⟩ := x
      obtain ⟨zz, zL, zpv, zsv⟩ := z
      dsimp only at *
      subst hqp hqs hlv
      go_enter Try.func20, Try.ntmps20
      go_wp2_with (first
        | ((with_reducible show wpList _ _ _ (⟨some 3, .box _ _, _, _, _, _⟩ :: _) _ _); go_must (refine wpList_box rfl ?_; intro w1 hx1 hb1 hs1; have HX1 := Lib.hid hx1; have HB1 := Lib.hid hb1; clear hx1 hb1))
        | ((with_reducible show wpList _ _ _ (⟨some 4, .alloc _, _, _, _, _⟩ :: _) _ _); go_must (refine wpList_allocObj ?_; intro w2 hx2 hb2 hs2; have HX2 := Lib.hid hx2; have HX12 := Lib.hid (heap_below hb2 HX1.out); have HB2 := Lib.hid (HB1.out.trans (hb2.mono HB1.out.size)); have HBX2 := Lib.hid (heap_below HB2.out HBX.out); have c0 := cell_rec HX12.out 0; have c1 := cell_rec HX12.out 1; have p0 := cell_rec HBX2.out 0; simp only [List.getElem?_toArray, List.getElem?_cons_succ, List.getElem?_cons_zero] at c0 c1 p0; clear hx2 hb2)))
      obtain ⟨b', o', hbo, e0, e1, e2, e3, e4, hb0⟩ := HIC.out w2 HB2.out
      cases hbo
      obtain ⟨b2, o2, hbo2, f0, f1, f2, f3, hb2⟩ := HMC.out w2 HB2.out
      cases hbo2
      have hAB := fun (x : Above w2) (b k : Nat) (h : b < w2.heap.size) => Above.cell x b k h
      have l1 := block_lt c0
      have l2 := block_lt p0
      have l3 := block_lt e0
      have l4 := block_lt f0
      refine wp_region_walk 14 [] (by kernel_rfl) (by kernel_rfl) ?_
      simp only [List.take_succ_cons, List.take_zero, List.drop_succ_cons, List.drop_zero]
      repeat (first | (refine walk_check (by kernel_rfl) rfl rfl ?_; go_frame) | (refine walk_quiet rfl rfl rfl ?_; intro K hK; go_big_quiet_op; go_big_quiet_on))
      refine walk_nil ?_
      intro wz hbz hF
      clear hF
      have HX2z := Lib.hid (heap_below hbz HX2.out)
      have HBz := Lib.hid (HB2.out.trans (hbz.mono HB2.out.size))
      have h12 := HB1.out.size
      have hz2 := hbz.size
      clear hbz hAB c0 c1 p0
      refine wpList_storeMade HX2z.out rfl rfl (by kernel_rfl) rfl (by simp [Value.oneCell']) h12 HBz.out.size ?_
      intro w3 hh3 hb3
      have HH3 := Lib.hid hh3
      have HB3 := Lib.hid (HBz.out.trans hb3)
      clear hh3 hb3
      go_wp2
      refine bodyPost_ret (results_cell_row rfl _ _ w1.heap.size _ _ _ _ rfl HH3.out rfl rfl (by kernel_rfl)) rfl ⟨rfl, HB3.out⟩
end Go.Proofs.Ytnhbgijecdeahaa
namespace Go.Proofs.Ytnhbgijecdeahaa
open Go.RowKit Go.Fd
def encSp (s : Spot) : List Value := [.int .i64 (s.1 : Int), .int .i64 s.2]
theorem TSp : SliceT Try.prog 57 61 2 16 := SliceT.mk' (z := .agg #[.int .i64 0, .int .i64 0]) (by kernel_rfl) (by kernel_rfl) rfl (by omega)
theorem order_step {l : List InM} {T : List Spot} : ∀ {k i : Nat} {x : InM}, l[k]? = some x → orderM i (l.take (k + 1)) T = orderM i (l.take k) T ++ orderI T (i + k) x := by
  induction l with
  | nil => intro k i x h; simp at h
  | cons y l ih =>
    intro k i x h
    cases k with
    | zero =>
      rw [List.getElem?_cons_zero] at h
      cases h
      simp [orderM]
    | succ k =>
      rw [List.getElem?_cons_succ] at h
      rw [List.take_succ_cons, orderM, ih h, List.take_succ_cons, orderM, List.append_assoc, show i + 1 + k = i + (k + 1) by omega]
def restI (T : List Spot) (i n : Nat) : List Spot := ((List.range n).filter fun (k : Nat) => decide ((i, (k : Int)) ∈ T)).map fun (k : Nat) => (i, (k : Int))
theorem restI_step (T : List Spot) (i n : Nat) : restI T i (n + 1) = restI T i n ++ (if (i, (n : Int)) ∈ T then [(i, (n : Int))] else []) := by
  unfold restI
  rw [List.range_succ, List.filter_append, List.map_append]
  congr 1
  by_cases h : (i, (n : Int)) ∈ T
  · simp [h]
  · simp [h]
theorem restI_len (T : List Spot) (i n : Nat) : (restI T i n).length ≤ n := by
  unfold restI
  rw [List.length_map]
  exact Nat.le_trans (List.length_filter_le _ _) (by simp)
theorem orderI_eq (T : List Spot) (i : Nat) (x : InM) : orderI T i x = (if x.lib = [] then [(i, -1)] else []) ++ restI T i x.lib.length := rfl
theorem orderM_len {T : List Spot} : ∀ {l : List InM} {i : Nat}, (∀ x ∈ l, x.lib.length ≤ 64) → (orderM i l T).length ≤ 65 * l.length
  | [], i, _ => by simp [orderM]
  | x :: l, i, h => by
    have ih := orderM_len (T := T) (l := l) (i := i + 1) fun y hy => h y (by simp [hy])
    have h1 := restI_len T i x.lib.length
    have h2 := h x (by simp)
    rw [orderM, orderI_eq, List.length_append, List.length_append, List.length_cons]
    split <;> simp <;> omega
theorem sp_box {w : World} {g : Nat} {s : Spot} {ty : TypeId} {fr : Nat × Nat} (h : w.heap[g]? = some (.cells #[.int .i64 (s.1 : Int), .int .i64 s.2] ty fr)) : w.cell? ⟨g, 0, none⟩ = some (.int .i64 (s.1 : Int)) ∧ w.cell? ⟨g, 1, none⟩ = some (.int .i64 s.2) := ⟨cell_rec h 0, cell_rec h 1⟩
theorem sp_cells {w wr : World} {a : Option Addr} {l : List Spot} {x : Spot} {k : Nat}
    (hc : ∀ i x, l[i]? = some x → 0 < 2 → ∃ b off, a = some ⟨b, off, none⟩ ∧ ∀ c, c < 2 → w.cell? ⟨b, off + (i * 2 + c), none⟩ = (encSp x)[c]?) (hb : Below w.heap.size w wr) (hk : l[k]? = some x) :
    ∃ b o, a = some ⟨b, o, none⟩ ∧ wr.cell? ⟨b, o + k * 2, none⟩ = some (.int .i64 (x.1 : Int)) ∧ wr.cell? ⟨b, o + k * 2 + 1, none⟩ = some (.int .i64 x.2) ∧ b < w.heap.size := by
  obtain ⟨b, o, ha, hcc⟩ := hc k x hk (by decide)
  have hlt : b < w.heap.size := block_lt (v := .int .i64 (x.1 : Int)) (by rw [hcc 0 (by decide)]; rfl)
  have hh : ∀ c, c < 2 → wr.cell? ⟨b, o + k * 2 + c, none⟩ = (encSp x)[c]? := fun c hc5 => by
    rw [Nat.add_assoc, hb.cell (p := ⟨b, o + (k * 2 + c), none⟩) hlt]
    exact hcc c hc5
  exact ⟨b, o, ha, hh 0 (by decide), hh 1 (by decide), hlt⟩
set_option maxHeartbeats 8000000 in
set_option maxRecDepth 100000 in
theorem orderR_any (l : List InM) (V : List InV) (lv : Value) (base p mt tb mh : Nat) (H : Homes) (d : Drn) (w : World) (h : InsAt w l V lv) (hd : DrwAt w base p lv mt tb mh H d) (hl : V.length ≤ 64) (hm : ∀ x ∈ V, x.ml.length ≤ 64) :
    Calls Try.prog 17 #[.pointer (some ⟨p, 0, none⟩)] w fun e w' => (∃ a n c, e = .returned (.slice a n c) ∧ OwR 2 encSp 61 w' w.heap.size (.slice a n c) (orderM 0 l d.taken)) ∧ Below w.heap.size w w' := by
  have HI := Lib.hid h
  have HBX := Lib.hid hd.box
  have HTK := Lib.hid hd.tak
  obtain ⟨a, cap, rfl, hcap, -, hP⟩ := h.rd.open (fun _ => rfl)
  have HP := Lib.hid hP
  have HM := Lib.hid hm
  obtain ⟨T, D⟩ := d
  dsimp only at *
  obtain ⟨n, hN⟩ : ∃ n, n = V.length := ⟨_, rfl⟩
  have hll : l.length = n := by rw [h.eq, List.length_map, hN]
  rw [← hN] at hcap hl HBX
  have HN := Lib.hid hN
  have HLL := Lib.hid hll
  have HEQ := Lib.hid h.eq
  have HLE := Lib.hid (fun k => show (orderM 0 (l.take k) T).length ≤ 4160 by
    have h1 := orderM_len (T := T) (l := l.take k) (i := 0) fun x hx => by
      have hx2 := List.mem_of_mem_take hx
      rw [h.eq] at hx2
      obtain ⟨y, hy, rfl⟩ := List.mem_map.1 hx2
      rw [(h.lib y hy).1, List.length_map]
      exact hm y hy
    have h2 : (l.take k).length ≤ l.length := by rw [List.length_take]; omega
    omega)
  have hpw := (Array.getElem?_eq_some_iff.1 hd.box).1
  clear h hd hP hN hm hll
  have q0 := cell_rec HBX.out 0
  go_enter Try.func17, Try.ntmps17
  go_wp2
  clear q0
  go_loopw [3, 4, 5, 6, 12, 29] (fun v _ _ _ i _ wr => ∃ (k : Nat) (va : Option Addr) (vn vc : Nat), v = .slice va vn vc ∧ i = .int .i64 k ∧ k ≤ n ∧ Hid (OwR 2 encSp 61 wr w.heap.size (.slice va vn vc) (orderM 0 (l.take k) T)) ∧ Hid (Below w.heap.size w wr)) (fun _ _ _ _ i _ _ => n - (intOf i).toNat)
  case atStart => exact ⟨0, none, 0, 0, rfl, rfl, Nat.zero_le _, OwR.nil _ _ _ _ _, Below.refl _ _⟩
  case round =>
    obtain ⟨k, va, vn, vc, rfl, rfl, hk, HO, HW⟩ := hrel
    have hws := HW.out.size
    by_cases hlt : k < n
    · obtain ⟨x, hx⟩ : ∃ x, V[k]? = some x := ⟨_, List.getElem?_eq_getElem (by have := HN.out; omega)⟩
      obtain ⟨b, o, rfl, e0, e1, e2, e3, e4, hb0⟩ := in_cells HP.out HW.out hx
      have hxm := List.mem_of_getElem? hx
      have hml := HM.out x hxm
      obtain ⟨hle, hlr⟩ := HI.out.lib x hxm
      obtain ⟨nl, al, cl, hnl, hlv, -, -⟩ := hlr.shape
      obtain ⟨np, ap, cp, -, hpv, -, -⟩ := (HI.out.obj x hxm).rd.shape
      obtain ⟨ns, asy, cs, -, hsv, -, -⟩ := (HI.out.obj x hxm).syms.shape
      have hxl : l[k]? = some x.x := (congrArg (·[k]?) HEQ.out).trans (by show (V.map (·.x))[k]? = _; rw [List.getElem?_map, hx]; rfl)
      have hll2 : x.x.lib.length = nl := by rw [hle, List.length_map, hnl.out]
      have HST := Lib.hid (show orderM 0 (l.take (k + 1)) T = orderM 0 (l.take k) T ++ ((if x.x.lib = [] then [(k, -1)] else []) ++ restI T k nl) by rw [order_step hxl, orderI_eq, hll2, Nat.zero_add])
      have HLN := Lib.hid hll2
      have hml2 : nl ≤ 64 := by rw [← hll2, hle, List.length_map]; exact hml
      obtain ⟨x, L, pv, sv, lv, ml⟩ := x
      dsimp only at *
      subst hlv hpv hsv
      have HLK := HLE.out k
      clear hx hxm hlr hle hxl hll2 hml
      by_cases h0 : nl = 0
      · have hml0 : x.lib = [] := List.eq_nil_of_length_eq_zero (by have := HLN.out; omega)
        have t1 : ((nl : Int) == 0) = true := by simpa using h0
        obtain ⟨Bs, hBs⟩ : ∃ B, B = orderM 0 (l.take k) T ++ [(k, -1)] := ⟨_, rfl⟩
        have HBS := Lib.hid (show orderM 0 (l.take (k + 1)) T = Bs ++ restI T k nl by rw [HST.out, if_pos hml0, hBs, List.append_assoc])
        have HBL : Bs.length ≤ 4200 := by rw [hBs, List.length_append, List.length_singleton]; omega
        clear hml0 h0
        go_wp2_with (first
          | ((with_reducible show wpList _ _ _ (⟨none, .store _ (.tmp 5) _, _, _, _, _⟩ :: _) _ _); go_must (refine wpList_storeNew rfl rfl (by kernel_rfl) rfl (by simp [Value.oneCell']) ?_; intro w2 hh2 hb2; have HO2 := Lib.hid (HO.out.mono hb2); have HB2 := Lib.hid (HW.out.trans (hb2.mono HW.out.size)); have hws2 := HB2.out.size; have HH2 := Lib.hid hh2; obtain ⟨d0, d1, d2, d3, d4⟩ := in_box (x := ⟨x, L, .slice ap np cp, .slice asy ns cs, .slice al nl cl, ml⟩) hh2; clear hh2 hb2))
          | ((with_reducible show wpList _ _ _ (⟨some 25, _, _, _, _, _⟩ :: _) _ _); go_must (refine wpList_pushR TSp HO2.out rfl rfl (k, -1) rfl rfl rfl (by omega) (by omega) hws2 ?_; intro v3 w3 ho3 hg3 hb3; have HO3 := Lib.hid ho3; have HB3 := Lib.hid (HB2.out.trans hb3); have HH3 := Lib.hid ((hg3.block wr.heap.size (Array.getElem?_eq_some_iff.1 HH2.out).1 (fun e => absurd (World.ownsRow.lt HO.out _ e.symm).2 (Nat.lt_irrefl _))).trans HH2.out); obtain ⟨d0, d1, d2, d3, d4⟩ := in_box (x := ⟨x, L, .slice ap np cp, .slice asy ns cs, .slice al nl cl, ml⟩) HH3.out; obtain ⟨vb, va2, vc2, -, rfl, -, -⟩ := ho3.shape; clear ho3 hg3 hb3)))
        have HO33 := Lib.hid (show OwR 2 encSp 61 w3 w.heap.size (.slice va2 vb vc2) Bs by rw [hBs]; exact HO3.out)
        clear hBs
        have hws3 := HB3.out.size
        go_loopw [3, 6, 29] (fun v _ i wr2 => ∃ (j : Nat) (ub : Option Addr) (un uc : Nat), v = .slice ub un uc ∧ i = .int .i64 j ∧ j ≤ nl ∧ Hid (OwR 2 encSp 61 wr2 w.heap.size (.slice ub un uc) (Bs ++ restI T k j)) ∧ Hid (Below w.heap.size w wr2)) (fun _ _ i _ => nl - (intOf i).toNat)
        case atStart => exact ⟨0, _, _, _, rfl, rfl, Nat.zero_le _, by rw [show restI T k 0 = [] from rfl, List.append_nil]; exact HO33, HB3.out⟩
        case round =>
          obtain ⟨j, ub, un, uc, rfl, rfl, hj, HO4, HW4⟩ := hrel
          have hws4 := HW4.out.size
          by_cases hlj : j < nl
          · have HSJ := Lib.hid (restI_step T k j)
            have HLJ := Lib.hid (show (Bs ++ restI T k j).length ≤ 9000 by have := restI_len T k j; rw [List.length_append]; omega)
            obtain ⟨Bj, hBj⟩ : ∃ B, B = Bs ++ restI T k j := ⟨_, rfl⟩
            have HBJ := Lib.hid hBj.symm
            rw [← hBj] at HO4 HLJ
            obtain ⟨lk, hkl⟩ := keySp (k, (j : Int)) (by show k < 1000000; omega) (by show -9223372036854775808 ≤ (j : Int) ∧ (j : Int) < 9223372036854775808; omega)
            have HLT : Hid (lookV false (.bool false) (@List.lookup _ _ instBEqOfDecidableEq (k, (j : Int)) (seenE T)) = .bool (decide ((k, (j : Int)) ∈ T))) := Lib.hid ((look_seen T (k, (j : Int))).trans (congrArg Value.bool (decide_eq_decide.2 Iff.rfl)))
            have q1 := cell_rec (heap_below HW4.out HBX.out) 1
            simp only [List.getElem?_toArray, List.getElem?_cons_succ, List.getElem?_cons_zero] at q1
            clear hBj
            by_cases hin : (k, (j : Int)) ∈ T
            · rw [decide_eq_true hin] at HLT
              rw [if_pos hin] at HSJ
              clear hin
              go_wp2_with (first
                | ((with_reducible show wpList _ _ _ (⟨some 39, _, _, _, _, _⟩ :: _) _ _); go_must (refine wpList_lookM TMSp (HTK.out.mono HW4.out) (zeroB _) (key := (k, (j : Int))) hkl HLT.out rfl rfl ?_))
                | ((with_reducible show wpList _ _ _ (⟨some 45, _, _, _, _, _⟩ :: _) _ _); go_must (refine wpList_pushR TSp HO4.out rfl rfl (k, (j : Int)) rfl rfl rfl (by have := HLJ.out; omega) (by have := HLJ.out; omega) hws4 ?_; intro v6 w6 ho6 hg6 hb6; have HO6 := Lib.hid ho6; have HB6 := Lib.hid (HW4.out.trans hb6); obtain ⟨un6, ub6, uc6, -, rfl, -, -⟩ := ho6.shape; clear ho6 hg6 hb6)))
              go_roundw
              case rel => exact ⟨j + 1, _, _, _, rfl, by go_num, by omega, Lib.hid (by have h6 := HO6.out; rw [HSJ.out, ← List.append_assoc, HBJ.out]; exact h6), HB6.out⟩
              case measure => simp [intOf] <;> omega
            · rw [decide_eq_false hin] at HLT
              rw [if_neg hin] at HSJ
              clear hin
              go_wp2_with ((with_reducible show wpList _ _ _ (⟨some 39, _, _, _, _, _⟩ :: _) _ _); go_must (refine wpList_lookM TMSp (HTK.out.mono HW4.out) (zeroB _) (key := (k, (j : Int))) hkl HLT.out rfl rfl ?_))
              go_roundw
              case rel => exact ⟨j + 1, _, _, _, rfl, by go_num, by omega, Lib.hid (by have h6 := HO4.out; rw [HSJ.out, List.append_nil, HBJ.out]; exact h6), HW4.out⟩
              case measure => simp [intOf] <;> omega
          · obtain rfl : j = nl := by omega
            have HF := Lib.hid (show Bs ++ restI T k j = orderM 0 (l.take (k + 1)) T from HBS.out.symm)
            rw [HF.out] at HO4
            go_wp2
            go_roundw
            case rel => exact ⟨k + 1, _, _, _, rfl, by go_num, by omega, HO4.out, HW4.out⟩
            case measure => simp [intOf] <;> omega
      · have t1 : ((nl : Int) == 0) = false := by simpa using h0
        have hml0 : x.lib ≠ [] := fun e => h0 (by have := HLN.out; rw [e] at this; exact this.symm)
        obtain ⟨Bs, hBs⟩ : ∃ B, B = orderM 0 (l.take k) T := ⟨_, rfl⟩
        have HBS := Lib.hid (show orderM 0 (l.take (k + 1)) T = Bs ++ restI T k nl by rw [HST.out, if_neg hml0, hBs, List.nil_append])
        have HBL : Bs.length ≤ 4200 := by rw [hBs]; omega
        rw [← hBs] at HO
        clear hml0 hBs h0
        go_wp2_with ((with_reducible show wpList _ _ _ (⟨none, .store _ (.tmp 5) _, _, _, _, _⟩ :: _) _ _); go_must (refine wpList_storeNew rfl rfl (by kernel_rfl) rfl (by simp [Value.oneCell']) ?_; intro w2 hh2 hb2; have HO2 := Lib.hid (HO.out.mono hb2); have HB2 := Lib.hid (HW.out.trans (hb2.mono HW.out.size)); have hws2 := HB2.out.size; have HH2 := Lib.hid hh2; obtain ⟨d0, d1, d2, d3, d4⟩ := in_box (x := ⟨x, L, .slice ap np cp, .slice asy ns cs, .slice al nl cl, ml⟩) hh2; clear hh2 hb2))
        have hws3 := HB2.out.size
        go_loopw [3, 6, 29] (fun v _ i wr2 => ∃ (j : Nat) (ub : Option Addr) (un uc : Nat), v = .slice ub un uc ∧ i = .int .i64 j ∧ j ≤ nl ∧ Hid (OwR 2 encSp 61 wr2 w.heap.size (.slice ub un uc) (Bs ++ restI T k j)) ∧ Hid (Below w.heap.size w wr2)) (fun _ _ i _ => nl - (intOf i).toNat)
        case atStart => exact ⟨0, _, _, _, rfl, rfl, Nat.zero_le _, by rw [show restI T k 0 = [] from rfl, List.append_nil]; exact HO2, HB2.out⟩
        case round =>
          obtain ⟨j, ub, un, uc, rfl, rfl, hj, HO4, HW4⟩ := hrel
          have hws4 := HW4.out.size
          by_cases hlj : j < nl
          · have HSJ := Lib.hid (restI_step T k j)
            have HLJ := Lib.hid (show (Bs ++ restI T k j).length ≤ 9000 by have := restI_len T k j; rw [List.length_append]; omega)
            obtain ⟨Bj, hBj⟩ : ∃ B, B = Bs ++ restI T k j := ⟨_, rfl⟩
            have HBJ := Lib.hid hBj.symm
            rw [← hBj] at HO4 HLJ
            obtain ⟨lk, hkl⟩ := keySp (k, (j : Int)) (by show k < 1000000; omega) (by show -9223372036854775808 ≤ (j : Int) ∧ (j : Int) < 9223372036854775808; omega)
            have HLT : Hid (lookV false (.bool false) (@List.lookup _ _ instBEqOfDecidableEq (k, (j : Int)) (seenE T)) = .bool (decide ((k, (j : Int)) ∈ T))) := Lib.hid ((look_seen T (k, (j : Int))).trans (congrArg Value.bool (decide_eq_decide.2 Iff.rfl)))
            have q1 := cell_rec (heap_below HW4.out HBX.out) 1
            simp only [List.getElem?_toArray, List.getElem?_cons_succ, List.getElem?_cons_zero] at q1
            clear hBj
            by_cases hin : (k, (j : Int)) ∈ T
            · rw [decide_eq_true hin] at HLT
              rw [if_pos hin] at HSJ
              clear hin
              go_wp2_with (first
                | ((with_reducible show wpList _ _ _ (⟨some 39, _, _, _, _, _⟩ :: _) _ _); go_must (refine wpList_lookM TMSp (HTK.out.mono HW4.out) (zeroB _) (key := (k, (j : Int))) hkl HLT.out rfl rfl ?_))
                | ((with_reducible show wpList _ _ _ (⟨some 45, _, _, _, _, _⟩ :: _) _ _); go_must (refine wpList_pushR TSp HO4.out rfl rfl (k, (j : Int)) rfl rfl rfl (by have := HLJ.out; omega) (by have := HLJ.out; omega) hws4 ?_; intro v6 w6 ho6 hg6 hb6; have HO6 := Lib.hid ho6; have HB6 := Lib.hid (HW4.out.trans hb6); obtain ⟨un6, ub6, uc6, -, rfl, -, -⟩ := ho6.shape; clear ho6 hg6 hb6)))
              go_roundw
              case rel => exact ⟨j + 1, _, _, _, rfl, by go_num, by omega, Lib.hid (by have h6 := HO6.out; rw [HSJ.out, ← List.append_assoc, HBJ.out]; exact h6), HB6.out⟩
              case measure => simp [intOf] <;> omega
            · rw [decide_eq_false hin] at HLT
              rw [if_neg hin] at HSJ
              clear hin
              go_wp2_with ((with_reducible show wpList _ _ _ (⟨some 39, _, _, _, _, _⟩ :: _) _ _); go_must (refine wpList_lookM TMSp (HTK.out.mono HW4.out) (zeroB _) (key := (k, (j : Int))) hkl HLT.out rfl rfl ?_))
              go_roundw
              case rel => exact ⟨j + 1, _, _, _, rfl, by go_num, by omega, Lib.hid (by have h6 := HO4.out; rw [HSJ.out, List.append_nil, HBJ.out]; exact h6), HW4.out⟩
              case measure => simp [intOf] <;> omega
          · obtain rfl : j = nl := by omega
            have HF := Lib.hid (show Bs ++ restI T k j = orderM 0 (l.take (k + 1)) T from HBS.out.symm)
            rw [HF.out] at HO4
            go_wp2
            go_roundw
            case rel => exact ⟨k + 1, _, _, _, rfl, by go_num, by omega, HO4.out, HW4.out⟩
            case measure => simp [intOf] <;> omega
    · obtain rfl : k = n := by omega
      have HF := Lib.hid (show orderM 0 (l.take k) T = orderM 0 l T by rw [List.take_of_length_le (by have := HLL.out; omega)])
      rw [HF.out] at HO
      go_wp2
      go_ret
      exact ⟨⟨_, _, _, rfl, HO.out⟩, HW.out⟩
end Go.Proofs.Ytnhbgijecdeahaa
namespace Go.Proofs.Ytnhbgijecdeahaa
open Go.RowKit Go.Fd
theorem defAll_step {D : List (List UInt8)} {l : List SymM} {k : Nat} {x : SymM} (h : l[k]? = some x) : defAll D (l.take (k + 1)) = defN (defAll D (l.take k)) x := by
  unfold defAll
  rw [List.take_add_one, h, List.foldl_append]
  rfl
theorem defN_len (D : List (List UInt8)) (s : SymM) : (defN D s).length ≤ D.length + 1 := by
  unfold defN
  split
  · exact insN_len D s.name
  · omega
theorem defAll_len {l : List SymM} : ∀ (D : List (List UInt8)), (defAll D l).length ≤ D.length + l.length := by
  induction l with
  | nil => intro D; exact Nat.le_refl _
  | cons x l ih =>
    intro D
    have h1 := ih (defN D x)
    have h2 := defN_len D x
    unfold defAll at *
    rw [List.foldl_cons, List.length_cons]
    omega
theorem put_addS (T : List Spot) (s : Spot) : @putE _ instDecidableEqProd (seenE T) s (.bool true) = seenE (addS T s) := by
  unfold putE addS
  rw [seen_keys]
  by_cases h : s ∈ T
  · rw [if_pos h, if_pos h]
    unfold seenE
    rw [List.map_map]
    apply List.map_congr_left
    intro t _
    simp only [Function.comp_apply]
    split
    · rename_i e; rw [e]
    · rfl
  · rw [if_neg h, if_neg h]
    simp
theorem sym_box {w : World} {g : Nat} {s : SymM} {ty : TypeId} {fr : Nat × Nat} (h : w.heap[g]? = some (.cells #[S s.name, .int .i64 s.bind, .int .i64 s.typ, .int .i64 s.sec, .int .u64 (s.value : Int), .int .u64 (s.size : Int)] ty fr)) :
    w.cell? ⟨g, 0, none⟩ = some (S s.name) ∧ w.cell? ⟨g, 1, none⟩ = some (.int .i64 s.bind) ∧ w.cell? ⟨g, 2, none⟩ = some (.int .i64 s.typ) ∧ w.cell? ⟨g, 3, none⟩ = some (.int .i64 s.sec) ∧ w.cell? ⟨g, 4, none⟩ = some (.int .u64 (s.value : Int)) ∧ w.cell? ⟨g, 5, none⟩ = some (.int .u64 (s.size : Int)) :=
  ⟨cell_rec h 0, cell_rec h 1, cell_rec h 2, cell_rec h 3, cell_rec h 4, cell_rec h 5⟩
/-- All rows but tables and their pairs are kept. -/
abbrev KeepC (w w' : World) : Prop := ∀ (b : Nat) (cs : Array Value) (t : TypeId) (fr : Nat × Nat), w.heap[b]? = some (.cells cs t fr) → t ≠ 103 → t ≠ 123 → w'.heap[b]? = some (.cells cs t fr)
theorem keepC_below {w w' : World} (h : Below w.heap.size w w') : KeepC w w' := fun _ _ _ _ hb _ _ => heap_below h hb
theorem keepC_trans {w1 w2 w3 : World} (h : KeepC w1 w2) (k : KeepC w2 w3) : KeepC w1 w3 := fun b cs t fr hb h1 h2 => k b cs t fr (h b cs t fr hb h1 h2) h1 h2
theorem keepC_T {w w' : World} (h : KeepT w w') : KeepC w w' := fun b cs t fr hb h1 h2 => h b _ hb fun cs' t' fr' e => by cases e; exact ⟨h1, h2⟩
theorem keepC_map {w w' : World} {κ : Type} {k : TypeId} {mk : κ → Value} {mb : Nat} {E : List (κ × Value)} (hm : MapIs Try.prog k mk w mb E) (hg : w.grownBy w' (some mb)) : KeepC w w' := fun b cs t fr hb _ _ => by
  refine (hg.block b (Array.getElem?_eq_some_iff.1 hb).1 fun e => ?_).trans hb
  cases e
  obtain ⟨es, clock, h, -⟩ := hm
  rw [hb] at h
  cases h
theorem run_fieldSyms (t : Int) (pv : Value) (sa : Option Addr) (sn sc : Nat) (w : World) : (Instr.field 36 (.agg #[.int .i64 t, pv, .slice sa sn sc]) 2).run Try.prog w = .ok (.slice sa sn sc) w := by kernel_rfl
theorem wpList_fieldSyms {ops : Array Oper} {rest : List Oper} {Q : Exit → Act → World → Prop} {a : Act} {w : World} {d : Option Tmp} {ty : TypeId} {pos : String} {aft : Array Edge} {x : Operand} {t : Int} {pv : Value} {sa : Option Addr} {sn sc : Nat} (hx : a.eval x = .agg #[.int .i64 t, pv, .slice sa sn sc])
    (h : wpList Try.prog ops Q rest (a.put d (.slice sa sn sc)) w) : wpList Try.prog ops Q (⟨d, .field 36 x 2, ty, pos, aft, none⟩ :: rest) a w := by
  refine wpList_val rfl (v := .slice sa sn sc) (w' := w) ?_ h
  simp only [execOp, hx, Sem.run_bind, run_fieldSyms, Result.andThen_ok]
  rfl
set_option maxHeartbeats 8000000 in
set_option maxRecDepth 100000 in
theorem takeR_any (l : List InM) (V : List InV) (lv : Value) (s : Spot) (y : ObV) (p mt tb mh : Nat) (H : Homes) (d : Drn) (w0 w : World) (h : InsAt w0 l V lv) (hw0 : Below w0.heap.size w0 w) (hd : DrwAt w w0.heap.size p lv mt tb mh H d) (hy : obVAt V s = some y) (hs1 : s.1 < 1000000) (hs : -9223372036854775808 ≤ s.2 ∧ s.2 < 9223372036854775808) (hl : V.length ≤ 1000000) (hsy : y.1.syms.length ≤ 1000) (hdl : d.defd.length ≤ 900000) (htl : d.taken.length ≤ 900000) :
    Calls Try.prog 24 #[.pointer (some ⟨p, 0, none⟩), spotV s] w fun e w' => e = .returned (.tuple #[]) ∧ DrwAt w' w0.heap.size p lv mt tb mh H (takeM l d s) ∧ Below w0.heap.size w0 w' ∧ KeepC w w' := by
  have HOBJ := Lib.hid (fun wx d' (hb : Below w0.heap.size w0 wx) (hd' : DrwAt wx w0.heap.size p lv mt tb mh H d') => show Calls Try.prog 20 #[.pointer (some ⟨p, 0, none⟩), .agg #[.int .i64 (s.1 : Int), .int .i64 s.2]] wx fun e w' => e = .returned (.agg #[.int .i64 y.1.target, y.2.2.1, y.2.2.2]) ∧ Below wx.heap.size wx w' from objR_any l V lv s y w0.heap.size p mt tb mh H d' wx (h.mono hb) hd' hy hs hl)
  obtain ⟨hoe, hat⟩ := obVAt_at h hy
  obtain ⟨lks, hks⟩ := keySp s hs1 hs
  have HTM : Hid (takeM l d s = ⟨addS d.taken s, defAll d.defd y.1.syms⟩) := Lib.hid (by unfold takeM; rw [hoe])
  have HPA := Lib.hid (put_addS d.taken s)
  have HD := Lib.hid hd
  have HRM := Lib.hid (show (seenE d.taken).length < maxLen by unfold maxLen seenE; rw [List.length_map]; omega)
  obtain ⟨qp, qa, qc, -, hqp, -, -⟩ := hat.rd.shape
  obtain ⟨sa, sc, hsv, hsc, -, hS⟩ := hat.syms.open (fun _ => rfl)
  have HS := Lib.hid hS
  obtain ⟨T, D⟩ := d
  obtain ⟨⟨target, parts, syms⟩, L, pv, sv⟩ := y
  dsimp only at *
  subst hqp hsv
  obtain ⟨ns, hns⟩ : ∃ n, n = syms.length := ⟨_, rfl⟩
  have hsc2 : ns ≤ sc := by rw [hns]; exact hsc
  rw [← hns] at hsy HOBJ
  have HNS := Lib.hid hns
  have HW0 := Lib.hid hw0
  have p1 := cell_rec hd.box 1
  have HDS := Lib.hid (fun k => show (defAll D (syms.take k)).length ≤ 1000000 by
    have := defAll_len (l := syms.take k) D
    have h2 : (syms.take k).length ≤ 1000 := by rw [List.length_take]; omega
    omega)
  have l2 := (Array.getElem?_eq_some_iff.1 hd.box).1
  have hbase := hw0.size
  simp only [List.getElem?_toArray, List.getElem?_cons_succ, List.getElem?_cons_zero] at p1
  clear h hw0 hd hy hs hat hsc hS hns hl hdl htl hoe
  go_enter Try.func24, Try.ntmps24
  go_wp2_with ((with_reducible show wpList _ _ _ (⟨some 3, .box _ _, _, _, _, _⟩ :: _) _ _); go_must (refine wpList_box rfl ?_; intro w1 hx1 hb1 hs1; have HX1 := Lib.hid hx1; have HB1 := Lib.hid hb1; have c0 := cell_rec hx1 0; have c1 := cell_rec hx1 1; have HD1 := Lib.hid (HD.out.mono hb1); have q1 := cell_rec HD1.out.box 1; simp only [List.getElem?_toArray, List.getElem?_cons_succ, List.getElem?_cons_zero] at c0 c1 q1; clear hx1 hb1))
  have hAB := fun (x : Above w1) (b k : Nat) (h : b < w1.heap.size) => Above.cell x b k h
  have l1 := block_lt c0
  have l3 := block_lt q1
  refine wp_region_walk 5 [] (by kernel_rfl) (by kernel_rfl) ?_
  simp only [List.take_succ_cons, List.take_zero, List.drop_succ_cons, List.drop_zero]
  try go_frame
  repeat (first | (refine walk_check (by kernel_rfl) rfl rfl ?_; go_frame) | (refine walk_quiet rfl rfl rfl ?_; intro K hK; go_big_quiet_op; go_big_quiet_on))
  refine walk_nil ?_
  intro wz hbz hF
  clear hF hAB q1 p1
  have HDz := Lib.hid (HD1.out.mono hbz)
  have HXz := Lib.hid (heap_below hbz HX1.out)
  have HBz := Lib.hid (HW0.out.trans ((HB1.out.trans (hbz.mono HB1.out.size)).mono hbase))
  have hw1z := hbz.size
  have HKZ := Lib.hid (keepC_below (HB1.out.trans (hbz.mono HB1.out.size)))
  clear hbz
  refine wpList_storeM TMSp HDz.out.tak HRM.out (key := s) (val := .bool true) hks rfl rfl rfl ?_
  intro w2 hm2 hg2 hs2
  have HKC := Lib.hid (keepC_map HDz.out.tak hg2)
  have hm2' : MapIs Try.prog 61 spotV w2 mt (seenE (addS T s)) := by rw [← HPA.out]; exact hm2
  have hmt := HD.out.tak.lt
  have HD2 := Lib.hid (HDz.out.stirTak hm2' hg2)
  have HX2 := Lib.hid ((hg2.block w.heap.size (by omega) (fun e => by cases e; omega)).trans HXz.out)
  have HB2 := Lib.hid (HBz.out.trans (below_of_grown (B := w0.heap.size) hg2 HBz.out.size (fun q hq => by cases hq; exact HD.out.low.2.1)))
  have c0 := cell_rec HX2.out 0
  have c1 := cell_rec HX2.out 1
  have hs2' := hs2
  have hwz : w.heap.size < w2.heap.size := by omega
  simp only [List.getElem?_toArray, List.getElem?_cons_succ, List.getElem?_cons_zero] at c0 c1
  clear hm2 hm2' hg2 hs2
  go_frame
  go_wp2_with (first
    | (go_at_call 20; refine (HOBJ.out _ _ HB2.out HD2.out).mono ?_; rintro e w3 ⟨rfl, hb3⟩; have HD3 := Lib.hid (HD2.out.mono hb3); have HB3 := Lib.hid (HB2.out.trans (hb3.mono HB2.out.size)); have HK3 := Lib.hid (keepC_trans HKZ.out (keepC_trans HKC.out (keepC_below hb3))); have hw3 := hb3.size; clear hb3)
    | ((with_reducible show wpList _ _ _ (⟨some 14, _, _, _, _, _⟩ :: _) _ _); go_must (refine wpList_fieldSyms rfl ?_)))
  go_loopw [5, 16] (fun _ i wr => ∃ k : Nat, i = .int .i64 k ∧ k ≤ ns ∧ Hid (DrwAt wr w0.heap.size p lv mt tb mh H ⟨addS T s, defAll D (syms.take k)⟩) ∧ Hid (Below w0.heap.size w0 wr) ∧ Hid (KeepC w wr)) (fun _ i _ => ns - (intOf i).toNat)
  case atStart => exact ⟨0, rfl, Nat.zero_le _, HD3.out, HB3.out, HK3.out⟩
  case round =>
    obtain ⟨k, rfl, hk, HDr, HBr, HKr⟩ := hrel
    have hbr := HBr.out.size
    by_cases hlt : k < ns
    · obtain ⟨x, hx⟩ : ∃ x, syms[k]? = some x := ⟨_, List.getElem?_eq_getElem (by have := HNS.out; omega)⟩
      obtain ⟨b, oo, rfl, e0, e1, e2, e3, e4, e5, hb0⟩ := sym_cells HS.out HBr.out hx
      have HST := Lib.hid (defAll_step (D := D) hx)
      have HDN : Hid (defN (defAll D (syms.take k)) x = if definesM x = true then insN (defAll D (syms.take k)) x.name else defAll D (syms.take k)) := rfl
      have HDE := Lib.hid (fun wx => definesR_any x wx)
      have HLK := Lib.hid (HDS.out k)
      generalize hD2 : defAll D (syms.take k) = D2 at *
      clear hD2 hx
      cases hdf : definesM x with
      | false =>
        rw [hdf] at HDE HDN
        have HN := Lib.hid (show defAll D (syms.take (k + 1)) = D2 by rw [HST.out, HDN.out]; rfl)
        obtain ⟨name, bind, typ, sec, value, size⟩ := x
        dsimp only at *
        clear HST HDN hdf
        go_wp2_with (first
          | ((with_reducible show wpList _ _ _ (⟨none, .store _ (.tmp 5) _, _, _, _, _⟩ :: _) _ _); go_must (refine wpList_storeNew rfl rfl (by kernel_rfl) rfl (by simp [Value.oneCell']) ?_; intro w6 hh6 hb6; have HK6 := Lib.hid (keepC_trans HKr.out (keepC_below hb6)); have HD6 := Lib.hid (HDr.out.mono hb6); have HB6 := Lib.hid (HBr.out.trans (hb6.mono HBr.out.size)); obtain ⟨g0, g1, g2, g3, g4, g5⟩ := sym_box (s := ⟨name, bind, typ, sec, value, size⟩) hh6; clear hh6 hb6))
          | (go_at_call 25; refine (HDE.out _).mono ?_; rintro e w7 ⟨rfl, hb7⟩; have HK7 := Lib.hid (keepC_trans HK6.out (keepC_below hb7)); have HD7 := Lib.hid (HD6.out.mono hb7); have HB7 := Lib.hid (HB6.out.trans (hb7.mono HB6.out.size)); clear hb7))
        go_roundw
        case rel => exact ⟨k + 1, by go_num, by omega, by rw [HN.out]; exact HD7, HB7.out, HK7.out⟩
        case measure => simp [intOf] <;> omega
      | true =>
        rw [hdf] at HDE HDN
        have HN := Lib.hid (show defAll D (syms.take (k + 1)) = insN D2 x.name by rw [HST.out, HDN.out, if_pos rfl])
        have HSR := Lib.hid (HDr.out.srt)
        have HPI := Lib.hid (putT_ins (k := x.name) HSR.out)
        have HPU := Lib.hid (fun wx (hb : Below w0.heap.size w0 wx) (hd' : DrwAt wx w0.heap.size p lv mt tb mh H ⟨addS T s, D2⟩) => show Calls Try.prog 37 #[.pointer (some ⟨tb, 0, none⟩), S x.name, .int .i64 1] wx fun e w' => (∃ c, e = .returned (.bool c)) ∧ DrwAt w' w0.heap.size p lv mt tb mh H ⟨addS T s, insN D2 x.name⟩ ∧ Below w0.heap.size w0 w' ∧ KeepT wx w' by
          obtain ⟨tv, ht⟩ := hd'.tab
          refine (tbPut_any w0.heap.size tb tv _ x.name 1 wx ht (by rw [List.length_map]; exact HLK.out) hb.size).mono fun e w' ⟨h1, h2, h3, h4⟩ => ⟨⟨_, h1⟩, ?_, hb.trans h3, h4⟩
          rw [HPI.out] at h2
          exact hd'.put h2 h4)
        obtain ⟨name, bind, typ, sec, value, size⟩ := x
        dsimp only at *
        clear HST HDN hdf HPI HSR
        go_wp2_with (first
          | ((with_reducible show wpList _ _ _ (⟨none, .store _ (.tmp 5) _, _, _, _, _⟩ :: _) _ _); go_must (refine wpList_storeNew rfl rfl (by kernel_rfl) rfl (by simp [Value.oneCell']) ?_; intro w6 hh6 hb6; have HH6 := Lib.hid hh6; have HK6 := Lib.hid (keepC_trans HKr.out (keepC_below hb6)); have HD6 := Lib.hid (HDr.out.mono hb6); have HB6 := Lib.hid (HBr.out.trans (hb6.mono HBr.out.size)); obtain ⟨g0, g1, g2, g3, g4, g5⟩ := sym_box (s := ⟨name, bind, typ, sec, value, size⟩) hh6; clear hh6 hb6))
          | (go_at_call 25; refine (HDE.out _).mono ?_; rintro e w7 ⟨rfl, hb7⟩; have HH7 := Lib.hid (heap_below hb7 HH6.out); have HK7 := Lib.hid (keepC_trans HK6.out (keepC_below hb7)); have HD7 := Lib.hid (HD6.out.mono hb7); have HB7 := Lib.hid (HB6.out.trans (hb7.mono HB6.out.size)); obtain ⟨g0, g1, g2, g3, g4, g5⟩ := sym_box (s := ⟨name, bind, typ, sec, value, size⟩) HH7.out; have q2 := cell_rec HD7.out.box 2; simp only [List.getElem?_toArray, List.getElem?_cons_succ, List.getElem?_cons_zero] at q2; clear hb7))
        have hAB := fun (x : Above w7) (b k : Nat) (h : b < w7.heap.size) => Above.cell x b k h
        have l1 := block_lt g0
        have l3 := block_lt q2
        refine wp_region_walk 6 [] (by kernel_rfl) (by kernel_rfl) ?_
        simp only [List.take_succ_cons, List.take_zero, List.drop_succ_cons, List.drop_zero]
        try go_frame
        repeat (first | (refine walk_check (by kernel_rfl) rfl rfl ?_; go_frame) | (refine walk_quiet rfl rfl rfl ?_; intro K hK; go_big_quiet_op; go_big_quiet_on))
        refine walk_nil ?_
        intro wz hbz hF
        clear hF hAB q2 g0 g1 g2 g3 g4 g5
        have HDz := Lib.hid (HD7.out.mono hbz)
        have HBz := Lib.hid (HB7.out.trans (hbz.mono HB7.out.size))
        have HKz := Lib.hid (keepC_trans HK7.out (keepC_below hbz))
        clear hbz
        go_wp2_with (go_at_call 37; refine (HPU.out _ HBz.out HDz.out).mono ?_; rintro e w8 ⟨⟨cc, rfl⟩, hd8, hb8, hk8⟩; have HK8 := Lib.hid (keepC_trans HKz.out (keepC_T hk8)); have HD8 := Lib.hid hd8; have HB8 := Lib.hid hb8; clear hd8 hb8 hk8)
        go_roundw
        case rel => exact ⟨k + 1, by go_num, by omega, by rw [HN.out]; exact HD8, HB8.out, HK8.out⟩
        case measure => simp [intOf] <;> omega
    · obtain rfl : k = ns := by omega
      have HF := Lib.hid (show defAll D (syms.take k) = defAll D syms by rw [List.take_of_length_le (by have := HNS.out; omega)])
      rw [HF.out] at HDr
      go_wp2
      go_end0
      exact ⟨rfl, by rw [HTM.out]; exact HDr.out, HBr.out, HKr.out⟩
end Go.Proofs.Ytnhbgijecdeahaa
namespace Go.Fd
open Go.RowKit
section
variable {P : Program} {L : List Oper} {Q : Exit → Act → World → Prop} {S : World → Prop} {fuel i : Nat} {listed : Array Bool} {a : Act} {w : World} {o : Oper} {v : Value}
/-- An operation whose value is the same in each world of the kind. -/
theorem heldS_val (hi : L[i]? = some o) (hB : (Region.noSelect L.toArray && Region.free .any L.toArray listed i && (Region.ready .any L.toArray listed).contains i) = true) (hw : Region.wanted o (yielded L.toArray a.tmps) = true)
    (hQ : ∀ v c a w, Q (.panic c) (a.put o.dst v) w → Q (.panic c) a w) (hb : S w) (hr : ∀ w', S w' → (execOp a.eval o).run P w' = .ok (.value v) w')
    (h : wpAnyH P .any L.toArray Q S fuel (listed.setIfInBounds i true) (a.put o.dst v) w) : wpAnyH P .any L.toArray Q S (fuel + 1) listed a w := by
  simp only [Bool.and_eq_true] at hB
  obtain ⟨⟨h1, h2⟩, h3⟩ := hB
  exact wpAnyH_take (i := i) (oi := o) (v := v) (by simpa using hi) h1 h2 h3 (hQ _) (.inl ⟨hw, fun w' hw' => hr w' hw'⟩) hb h
end
end Go.Fd
namespace Go.Proofs.Ytnhbgijecdeahaa
open Go.RowKit Go.Fd
theorem wpList_allocSpot {ops : Array Oper} {rest : List Oper} {Q : Exit → Act → World → Prop} {a : Act} {w : World} {d : Option Tmp} {ty : TypeId} {pos : String} {aft : Array Edge}
    (h : ∀ w1, w1.heap[w.heap.size]? = some (.cells #[.int .i64 0, .int .i64 0] 61 (0, 0)) → Below w.heap.size w w1 → w.heap.size < w1.heap.size → wpList Try.prog ops Q rest (a.put d (.pointer (some ⟨w.heap.size, 0, none⟩))) w1) :
    wpList Try.prog ops Q (⟨d, .alloc 61, ty, pos, aft, none⟩ :: rest) a w :=
  wpList_val rfl (by kernel_rfl) (h (w.alloc (.cells #[.int .i64 0, .int .i64 0] 61)) (heap_alloc_last w _) (below_alloc w _) (by rw [World.size_alloc]; omega))
theorem beq_same : (instBEqOfDecidableEq : BEq (List UInt8)) = List.instBEq := by
  have h : ∀ (i j : BEq (List UInt8)), (∀ a b, @BEq.beq _ i a b = @BEq.beq _ j a b) → i = j := by
    rintro ⟨f⟩ ⟨g⟩ h
    congr
    funext a b
    exact h a b
  exact h _ _ fun a b => by rw [Bool.eq_iff_iff]; simp
theorem look_map {H : Homes} {n : List UInt8} : @List.lookup _ _ instBEqOfDecidableEq n (H.map fun x => (x.1, spotV x.2)) = (H.lookup n).map spotV := by
  rw [beq_same]
  induction H with
  | nil => rfl
  | cons p H ih =>
    obtain ⟨k, s⟩ := p
    rw [List.map_cons, List.lookup_cons, List.lookup_cons]
    cases n == k with
    | true => rfl
    | false => exact ih
def spotOf (r : Option Spot) : Spot := r.getD (0, 0)
theorem lookV_home {H : Homes} {n : List UInt8} : lookV true (.agg #[.int .i64 0, .int .i64 0]) (@List.lookup _ _ instBEqOfDecidableEq n (H.map fun x => (x.1, spotV x.2))) = .tuple #[.agg #[.int .i64 ((spotOf (H.lookup n)).1 : Int), .int .i64 (spotOf (H.lookup n)).2], .bool (H.lookup n).isSome] := by
  rw [look_map]
  cases H.lookup n <;> rfl
/-- The look-up of a name's home, anywhere. -/
theorem run_home {H : Homes} {wx : World} {mh : Nat} {n : List UInt8} {a : Act} {x y : Operand} {d : Option Tmp} {ty : TypeId} {pos : String} {aft : Array Edge} (hm : MapIs Try.prog 9 S wx mh (H.map fun x => (x.1, spotV x.2))) (hn : n.length ≤ 9223372036854775807) (hx : a.eval x = .map (some mh)) (hy : a.eval y = S n) :
    (execOp a.eval ⟨d, .lookup 74 x y true, ty, pos, aft, none⟩).run Try.prog wx = .ok (.value (.tuple #[.agg #[.int .i64 ((spotOf (H.lookup n)).1 : Int), .int .i64 (spotOf (H.lookup n)).2], .bool (H.lookup n).isSome])) wx := by
  obtain ⟨l, hkl⟩ := keySL n hn
  have h := hm.look true TMH (zeroSp wx) (x := n) hkl
  rw [lookV_home] at h
  simp [execOp, hx, hy, h, Result.andThen]
theorem order_obV {w : World} {l : List InM} {V : List InV} {v : Value} (h : InsAt w l V v) {T : List Spot} {s : Spot} (hs : s ∈ orderM 0 l T) (hm : ∀ x ∈ V, x.ml.length ≤ 64) : (∃ y, obVAt V s = some y) ∧ s.1 < V.length ∧ -1 ≤ s.2 ∧ s.2 < 64 := by
  obtain ⟨j, x, hx, hs⟩ := mem_orderM.1 hs
  rw [Nat.zero_add] at hs
  rw [h.eq, List.getElem?_map] at hx
  obtain ⟨X, hX, rfl⟩ := Option.map_eq_some_iff.1 hx
  have hXm := List.mem_of_getElem? hX
  have hj := (List.getElem?_eq_some_iff.1 hX).1
  rcases mem_orderI.1 hs with ⟨-, rfl⟩ | ⟨k, hk, rfl, -⟩
  · exact ⟨⟨X.ob, by unfold obVAt; rw [hX]; rfl⟩, hj, by show (-1 : Int) ≤ -1; decide, by show (-1 : Int) < 64; decide⟩
  · rw [(h.lib X hXm).1, List.length_map] at hk
    have h6 := hm X hXm
    refine ⟨⟨MemV.ob X.ml[k], ?_⟩, hj, by show (-1 : Int) ≤ (k : Int); omega, by show (k : Int) < 64; omega⟩
    unfold obVAt
    rw [hX]
    dsimp only
    rw [if_neg (by omega), Int.toNat_natCast, List.getElem?_eq_getElem hk]
    rfl
theorem found_def {D : List (List UInt8)} (hs : D.Pairwise (· < ·)) (k : List UInt8) : foundK (D.map fun n => (n, (1 : Int))) k = decide (k ∈ D) := by
  have h1 : Srt (D.map fun n => (n, (1 : Int))) := List.pairwise_map.2 hs
  have h2 := foundK_iff h1 k
  rw [List.map_map, show ((fun x : PrM => x.1) ∘ fun n => (n, (1 : Int))) = id from rfl, List.map_id] at h2
  rw [Bool.eq_iff_iff, h2]
  simp
def nextV (r : Option Spot) : Value := .tuple #[.agg #[.int .i64 ((spotOf r).1 : Int), .int .i64 (spotOf r).2], .bool r.isSome]
theorem some_drop {α β : Type} {f : α → Option β} {l : List α} {k : Nat} {x : α} (h : l[k]? = some x) : (l.drop k).findSome? f = match f x with | some r => some r | none => (l.drop (k + 1)).findSome? f := by
  rw [drop_get h, List.findSome?_cons]
  cases f x <;> rfl
set_option maxHeartbeats 16000000 in
set_option maxRecDepth 100000 in
theorem nextR_any (l : List InM) (V : List InV) (lv : Value) (base p mt tb mh : Nat) (H : Homes) (d : Drn) (w : World) (h : InsAt w l V lv) (hd : DrwAt w base p lv mt tb mh H d) (hl : V.length ≤ 64) (hm : ∀ x ∈ V, x.ml.length ≤ 64) (hdl : d.defd.length ≤ 1000000)
    (hsy : ∀ s ∈ orderM 0 l d.taken, (objAt l s).syms.length ≤ 1000 ∧ ∀ x ∈ (objAt l s).syms, x.name.length ≤ 9223372036854775807) :
    Calls Try.prog 26 #[.pointer (some ⟨p, 0, none⟩)] w fun e w' => e = .returned (nextV (nextM l H d)) ∧ Below w.heap.size w w' := by
  have HORD := Lib.hid (fun wx (hb : Below w.heap.size w wx) => orderR_any l V lv base p mt tb mh H d wx (h.mono hb) (hd.mono hb) hl hm)
  have HOB := Lib.hid (fun s (hs : s ∈ orderM 0 l d.taken) => order_obV h hs hm)
  have HOBJ := Lib.hid (fun s y (hy : obVAt V s = some y) (hs : -1 ≤ s.2 ∧ s.2 < 64) wx (hb : Below w.heap.size w wx) => show Calls Try.prog 20 #[.pointer (some ⟨p, 0, none⟩), .agg #[.int .i64 (s.1 : Int), .int .i64 s.2]] wx fun e w' => e = .returned (.agg #[.int .i64 y.1.target, y.2.2.1, y.2.2.2]) ∧ Below wx.heap.size wx w' from objR_any l V lv s y base p mt tb mh H d wx (h.mono hb) (hd.mono hb) hy (by omega) (by omega))
  have HAT := Lib.hid (fun s y (hy : obVAt V s = some y) => obVAt_at h hy)
  have HNX : Hid (nextM l H d = ((orderM 0 l d.taken).drop 0).findSome? fun s => (objAt l s).syms.findSome? (wantS d.defd H)) := rfl
  have HSY := Lib.hid hsy
  have HSR := Lib.hid hd.srt
  have HBX := Lib.hid hd.box
  have HHM := Lib.hid hd.hom
  have HGET := Lib.hid (fun k wx (hb : Below w.heap.size w wx) => show ∃ gk, Calls Try.prog 38 #[.pointer (some ⟨tb, 0, none⟩), S k] wx fun e w' => e = .returned (.tuple #[.int .i64 gk, .bool (decide (k ∈ d.defd))]) ∧ Below wx.heap.size wx w' by
    obtain ⟨tv, ht⟩ := hd.tab
    have h1 := tbGet_any base tb tv _ k wx (ht.mono hb) (by rw [List.length_map]; exact hdl)
    rw [found_def HSR.out] at h1
    exact ⟨_, h1⟩)
  have hgk := Lib.hid (fun k => show ∃ gk, ∀ wx, Below w.heap.size w wx → Calls Try.prog 38 #[.pointer (some ⟨tb, 0, none⟩), S k] wx fun e w' => e = .returned (.tuple #[.int .i64 gk, .bool (decide (k ∈ d.defd))]) ∧ Below wx.heap.size wx w' by
    obtain ⟨tv, ht⟩ := hd.tab
    refine ⟨getT (d.defd.map fun n => (n, (1 : Int))) k, fun wx hb => ?_⟩
    have h1 := tbGet_any base tb tv _ k wx (ht.mono hb) (by rw [List.length_map]; exact hdl)
    rw [found_def HSR.out] at h1
    exact h1)
  clear HGET
  have HORL := Lib.hid (show (orderM 0 l d.taken).length ≤ 4160 by
    have h1 := orderM_len (T := d.taken) (l := l) (i := 0) fun x hx => by
      rw [h.eq] at hx
      obtain ⟨y, hy, rfl⟩ := List.mem_map.1 hx
      rw [(h.lib y hy).1, List.length_map]
      exact hm y hy
    have h2 : l.length = V.length := by rw [h.eq, List.length_map]
    omega)
  generalize nextM l H d = R at *
  generalize orderM 0 l d.taken = O at *
  obtain ⟨T, D⟩ := d
  dsimp only at *
  clear h hd hl hm hdl hsy
  go_enter Try.func26, Try.ntmps26
  go_wp2_with (first
    | ((with_reducible show wpList _ _ _ (⟨some 2, .alloc _, _, _, _, _⟩ :: _) _ _); go_must (refine wpList_allocSpot ?_; intro w1 hx1 hb1 hs1; have HX1 := Lib.hid hx1; have HB1 := Lib.hid hb1; clear hx1 hb1))
    | (go_at_call 17; refine (HORD.out _ HB1.out).mono ?_; rintro e w2 ⟨⟨oa, on, oc, rfl, ho2⟩, hb2⟩; obtain ⟨oa2, oc2, hov, hoc, -, hP⟩ := ho2.rd.open (fun _ => rfl); cases hov; have HP := Lib.hid hP; have HB2 := Lib.hid (hb2); clear ho2 hb2 hP))
  obtain ⟨on, hON⟩ : ∃ n, n = O.length := ⟨_, rfl⟩
  rw [← hON] at hoc ⊢
  have HON := Lib.hid hON
  have hon9 : on ≤ 4160 := by rw [hON]; exact HORL.out
  clear hON
  have h12 := HB2.out.size
  have hw1 := HB1.out.size
  go_loopw [5, 7, 8, 9, 10, 11, 15, 24] (fun _ _ _ _ _ _ i _ wr => ∃ k : Nat, i = .int .i64 k ∧ k ≤ on ∧ Hid (R = (O.drop k).findSome? fun s => (objAt l s).syms.findSome? (wantS D H)) ∧ Hid (Below w2.heap.size w2 wr)) (fun _ _ _ _ _ _ i _ _ => on - (intOf i).toNat)
  case atStart => exact ⟨0, rfl, Nat.zero_le _, HNX, Below.refl _ _⟩
  case round =>
    obtain ⟨k, rfl, hk, HR, HW⟩ := hrel
    have hwr := HW.out.size
    have HBr := Lib.hid (HB1.out.trans ((HB2.out.trans (HW.out.mono HB2.out.size)).mono HB1.out.size))
    by_cases hlt : k < on
    · obtain ⟨s, hs⟩ : ∃ s, O[k]? = some s := ⟨_, List.getElem?_eq_getElem (by have := HON.out; omega)⟩
      obtain ⟨b, o, rfl, e0, e1, hb0⟩ := sp_cells HP.out HW.out hs
      have hsm := List.mem_of_getElem? hs
      obtain ⟨⟨y, hy⟩, hs1, hs2⟩ := HOB.out s hsm
      obtain ⟨hoe, hat⟩ := HAT.out s y hy
      have HST := Lib.hid (some_drop (f := fun s => (objAt l s).syms.findSome? (wantS D H)) hs)
      obtain ⟨hsl, hsn⟩ := HSY.out s hsm
      rw [hoe] at hsl hsn
      rw [hoe] at HST
      have HCO := Lib.hid (HOBJ.out s y hy hs2)
      obtain ⟨qp, qa, qc, -, hqp, -, -⟩ := hat.rd.shape
      obtain ⟨sa, sc, hsv, hsc, -, hS⟩ := hat.syms.open (fun _ => rfl)
      have HS := Lib.hid hS
      have HSN := Lib.hid hsn
      obtain ⟨⟨target, parts, syms⟩, L, pv, sv⟩ := y
      dsimp only at *
      subst hqp hsv
      obtain ⟨ns, hns⟩ : ∃ n, n = syms.length := ⟨_, rfl⟩
      rw [← hns] at hsl hsc
      rw [← hns] at HCO
      have HNS := Lib.hid hns
      clear hs hsm hy hoe hat hS hns hsn
      go_wp2_with (first
        | ((with_reducible show wpList _ _ _ (⟨none, .store _ (.tmp 5) _, _, _, _, _⟩ :: _) _ _); go_must (refine wpList_storeNew rfl rfl (by kernel_rfl) rfl (by simp [Value.oneCell']) ?_; intro w3 hh3 hb3; have HB3 := Lib.hid (HW.out.trans (hb3.mono HW.out.size)); obtain ⟨d0, d1⟩ := sp_box (s := s) hh3; clear hh3 hb3))
        | (go_at_call 20; refine (HCO.out _ (HB1.out.trans ((HB2.out.trans (HB3.out.mono HB2.out.size)).mono HB1.out.size))).mono ?_; rintro e w4 ⟨rfl, hb4⟩; have HB4 := Lib.hid (HB3.out.trans (hb4.mono HB3.out.size)); clear hb4)
        | ((with_reducible show wpList _ _ _ (⟨some 22, _, _, _, _, _⟩ :: _) _ _); go_must (refine wpList_fieldSyms rfl ?_)))
      go_loopw [7, 8, 9, 10, 11, 24] (fun _ _ _ _ _ i wr2 => ∃ j : Nat, i = .int .i64 j ∧ j ≤ ns ∧ Hid (R = match (syms.drop j).findSome? (wantS D H) with | some r => some r | none => (O.drop (k + 1)).findSome? fun s => (objAt l s).syms.findSome? (wantS D H)) ∧ Hid (Below w2.heap.size w2 wr2)) (fun _ _ _ _ _ i _ => ns - (intOf i).toNat)
      case atStart => exact ⟨0, rfl, Nat.zero_le _, Lib.hid (by rw [HR.out, HST.out, List.drop_zero]; cases List.findSome? (wantS D H) syms <;> rfl), HB4.out⟩
      case round =>
        obtain ⟨j, rfl, hj, HRj, HWj⟩ := hrel
        have hwj := HWj.out.size
        have HBj := Lib.hid (HB1.out.trans ((HB2.out.trans (HWj.out.mono HB2.out.size)).mono HB1.out.size))
        by_cases hlj : j < ns
        · obtain ⟨x, hx⟩ : ∃ x, syms[j]? = some x := ⟨_, List.getElem?_eq_getElem (by have := HNS.out; omega)⟩
          obtain ⟨b2, o2, rfl, f0, f1, f2, f3, f4, f5, hb2⟩ := sym_cells HS.out HBj.out hx
          have hxn := HSN.out x (List.mem_of_getElem? hx)
          have HSX := Lib.hid (some_drop (f := wantS D H) hx)
          have HWS : Hid (wantS D H x = if x.name ∈ D ∨ needsM x = false then none else H.lookup x.name) := rfl
          have HNE := Lib.hid (fun wx => needsR_any x wx)
          obtain ⟨gk, hgkx⟩ := hgk.out x.name
          have HGX := Lib.hid hgkx
          have HRH := Lib.hid (fun wx (hb : Below w.heap.size w wx) (a : Act) (xx yy : Operand) (dd : Option Tmp) (ty : TypeId) (pos : String) (aft : Array Edge) (e1 : a.eval xx = .map (some mh)) (e2 : a.eval yy = S x.name) => run_home (d := dd) (ty := ty) (pos := pos) (aft := aft) (HHM.out.mono hb) hxn e1 e2)
          obtain ⟨name, bind, typ, sec, value, size⟩ := x
          dsimp only at *
          clear hx hgkx
          generalize needsM ⟨name, bind, typ, sec, value, size⟩ = nd at *
          generalize wantS D H ⟨name, bind, typ, sec, value, size⟩ = wn at *
          generalize hfk : decide (name ∈ D) = fk at *
          have HFK := Lib.hid hfk
          clear hfk
          go_wp2_with ((with_reducible show wpList _ _ _ (⟨none, .store _ (.tmp 7) _, _, _, _, _⟩ :: _) _ _); go_must (refine wpList_storeNew rfl rfl (by kernel_rfl) rfl (by simp [Value.oneCell']) ?_; intro w6 hh6 hb6; have HH6 := Lib.hid hh6; have HW6 := Lib.hid (HWj.out.trans (hb6.mono HWj.out.size)); obtain ⟨g0, g1, g2, g3, g4, g5⟩ := sym_box (s := ⟨name, bind, typ, sec, value, size⟩) hh6; clear hh6 hb6))
          have HB6 := Lib.hid (HB1.out.trans ((HB2.out.trans (HW6.out.mono HB2.out.size)).mono HB1.out.size))
          have q2 := cell_rec (heap_below HB6.out HBX.out) 2
          simp only [List.getElem?_toArray, List.getElem?_cons_succ, List.getElem?_cons_zero] at q2
          have hAB := fun (x : Above w6) (b k : Nat) (h : b < w6.heap.size) => Above.cell x b k h
          have l1 := block_lt g0
          have l3 := block_lt q2
          refine wp_region_walk 12 [(6, .is (.tuple #[.int .i64 gk, .bool fk]))] (by kernel_rfl) (by kernel_rfl) ?_
          simp only [List.take_succ_cons, List.take_zero, List.drop_succ_cons, List.drop_zero]
          try go_frame
          repeat (first | (refine walk_check (by kernel_rfl) rfl rfl ?_; go_frame) | (refine walk_quiet rfl rfl rfl ?_; intro K hK; go_big_quiet_op; go_big_quiet_on))
          refine walk_is rfl rfl (fun wx hwx _ => WpYld.callIsB (run_callL (vals := [.pointer (some ⟨tb, 0, none⟩), S name]) Try.func38 (by kernel_rfl) rfl rfl) (HGX.out wx (HB6.out.trans (hwx.mono HB6.out.size)))) ?_
          go_frame
          repeat (first | (refine walk_check (by kernel_rfl) rfl rfl ?_; go_frame) | (refine walk_quiet rfl rfl rfl ?_; intro K hK; go_big_quiet_op; go_big_quiet_on))
          refine walk_nil ?_
          intro wz hbz hF
          have HWz := Lib.hid (HW6.out.trans (hbz.mono HW6.out.size))
          have HHz := Lib.hid (heap_below hbz HH6.out)
          clear hF hAB q2 g0 g1 g2 g3 g4 g5 hbz
          obtain ⟨g0, g1, g2, g3, g4, g5⟩ := sym_box (s := ⟨name, bind, typ, sec, value, size⟩) HHz.out
          cases fk with
          | true =>
            have HW2 := Lib.hid (show wn = none by rw [HWS.out, if_pos (.inl (of_decide_eq_true HFK.out))])
            go_wp2
            go_roundw
            case rel => exact ⟨j + 1, by go_num, by omega, Lib.hid (by rw [HRj.out, HSX.out, HW2.out]), HWz.out⟩
            case measure => simp [intOf] <;> omega
          | false =>
            cases nd with
            | false =>
              have HW2 := Lib.hid (show wn = none by rw [HWS.out, if_pos (.inr rfl)])
              go_wp2_with (go_at_call 34; refine (HNE.out _).mono ?_; rintro e w9 ⟨rfl, hb9⟩; have HW9 := Lib.hid (HWz.out.trans (hb9.mono HWz.out.size)); have HH9 := Lib.hid (heap_below hb9 HHz.out); clear hb9)
              go_roundw
              case rel => exact ⟨j + 1, by go_num, by omega, Lib.hid (by rw [HRj.out, HSX.out, HW2.out]), HW9.out⟩
              case measure => simp [intOf] <;> omega
            | true =>
              have HWN := Lib.hid (show wn = H.lookup name by rw [HWS.out, if_neg (by rw [not_or]; exact ⟨of_decide_eq_false HFK.out, by simp⟩)])
              generalize H.lookup name = hm at *
              go_wp2_with (go_at_call 34; refine (HNE.out _).mono ?_; rintro e w9 ⟨rfl, hb9⟩; have HW9 := Lib.hid (HWz.out.trans (hb9.mono HWz.out.size)); have HH9 := Lib.hid (heap_below hb9 HHz.out); clear hb9)
              have HB9 := Lib.hid (HB1.out.trans ((HB2.out.trans (HW9.out.mono HB2.out.size)).mono HB1.out.size))
              have q3 := cell_rec (heap_below HB9.out HBX.out) 3
              obtain ⟨g0, g1, g2, g3, g4, g5⟩ := sym_box (s := ⟨name, bind, typ, sec, value, size⟩) HH9.out
              simp only [List.getElem?_toArray, List.getElem?_cons_succ, List.getElem?_cons_zero] at q3
              have hAB := fun (x : Of (fun wx => Below w9.heap.size w9 wx)) (b k : Nat) (h : b < w9.heap.size) => (show x.w.cell? ⟨b, k, none⟩ = w9.cell? ⟨b, k, none⟩ from by
                unfold World.cell?
                rw [x.h.block b h])
              have hb0 : Below w9.heap.size w9 { w9 with drawn := w9.drawn + 1 } := (Below.refl _ _).drew
              have hne : Nonempty (Of (fun wx => Below w9.heap.size w9 wx)) := ⟨⟨_, hb0⟩⟩
              have l1 := block_lt g0
              have l3 := block_lt q3
              refine wp_region_held (S := fun wx => Below w9.heap.size w9 wx) (by kernel_rfl) ?_
              change wpAnyH _ _ _ _ _ 13 _ _ _
              try go_frame
              refine heldS_quiet (i := 0) rfl (by kernel_rfl) rfl rfl (fun _ _ _ _ h => h) hb0 ?_
              intro K hK
              go_big_quiet_op
              go_big_quiet_on
              refine heldS_check (i := 1) rfl (by kernel_rfl) rfl rfl rfl (fun _ _ _ _ h => h) hb0 ?_
              go_frame
              refine heldS_quiet (i := 2) rfl (by kernel_rfl) rfl rfl (fun _ _ _ _ h => h) hb0 ?_
              intro K hK
              go_big_quiet_op
              go_big_quiet_on
              refine heldS_quiet (i := 3) rfl (by kernel_rfl) rfl rfl (fun _ _ _ _ h => h) hb0 ?_
              intro K hK
              go_big_quiet_op
              go_big_quiet_on
              refine heldS_quiet (i := 4) rfl (by kernel_rfl) rfl rfl (fun _ _ _ _ h => h) hb0 ?_
              intro K hK
              go_big_quiet_op
              go_big_quiet_on
              refine heldS_quiet (i := 5) rfl (by kernel_rfl) rfl rfl (fun _ _ _ _ h => h) hb0 ?_
              intro K hK
              go_big_quiet_op
              go_big_quiet_on
              refine heldS_val (i := 6) rfl (by kernel_rfl) rfl (fun _ _ _ _ h => h) hb0 (fun w' hw' => HRH.out w' (HB9.out.trans (hw'.mono HB9.out.size)) _ _ _ _ _ _ _ rfl rfl) ?_
              go_frame
              refine heldS_quiet (i := 7) rfl (by kernel_rfl) rfl rfl (fun _ _ _ _ h => h) hb0 ?_
              intro K hK
              go_big_quiet_op
              go_big_quiet_on
              refine heldS_quiet (i := 8) rfl (by kernel_rfl) rfl rfl (fun _ _ _ _ h => h) hb0 ?_
              intro K hK
              go_big_quiet_op
              go_big_quiet_on
              refine heldS_quiet (i := 9) rfl (by kernel_rfl) rfl rfl (fun _ _ _ _ h => h) hb0 ?_
              intro K hK
              go_big_quiet_op
              go_big_quiet_on
              refine heldS_one (i := 10) (by kernel_rfl) rfl ?_
              go_wp2
              refine ⟨(hb0.trans ((below_alloc w9.drew (.cells #[.int .i64 0, .int .i64 0] 61)).mono (Nat.le_refl _)) : Below w9.heap.size w9 _), ?_⟩
              refine heldS_one (i := 11) (by kernel_rfl) rfl ?_
              show wpList _ _ _ _ _ (World.alloc w9.drew (.cells #[.int .i64 0, .int .i64 0] 61))
              refine wpList_storeNew rfl rfl (by kernel_rfl) rfl (by simp [Value.oneCell']) ?_
              intro wA hhA hbA
              have hbA' : Below w9.heap.size w9 wA := hb0.trans hbA
              refine ⟨hbA', ?_⟩
              go_frame
              refine heldS_quiet (i := 12) rfl (by kernel_rfl) rfl rfl (fun _ _ _ _ h => h) hbA' ?_
              intro K hK
              go_big_quiet_op
              go_big_quiet_on
              refine wpAnyH_done (by kernel_rfl) ?_ _
              have HWA := Lib.hid (HW9.out.trans (hbA'.mono HW9.out.size))
              have hhA2 : wA.heap[w9.heap.size]? = some (.cells #[.int .i64 ((spotOf hm).1 : Int), .int .i64 (spotOf hm).2] 61 (0, 0)) := hhA
              obtain ⟨k0, k1⟩ := sp_box (s := spotOf hm) hhA2
              have HXA := Lib.hid (heap_below (HB2.out.trans (HWA.out.mono HB2.out.size)) HX1.out)
              have HBA := Lib.hid (HB1.out.trans ((HB2.out.trans (HWA.out.mono HB2.out.size)).mono HB1.out.size))
              clear hAB hne hb0 q3 g0 g1 g2 g3 g4 g5 hbA hbA' hhA hhA2
              cases hm with
              | none =>
                have HW2 := Lib.hid (show wn = none from HWN.out)
                go_wp2
                go_roundw
                case rel => exact ⟨j + 1, by go_num, by omega, Lib.hid (by rw [HRj.out, HSX.out, HW2.out]), HWA.out⟩
                case measure => simp [intOf] <;> omega
              | some hs =>
                have HRR := Lib.hid (show R = some hs by rw [HRj.out, HSX.out, HWN.out])
                go_wp2_with ((with_reducible show wpList _ _ _ (⟨none, .store _ (.tmp 2) _, _, _, _, _⟩ :: _) _ _); go_must (refine wpList_storeMade HXA.out rfl rfl (by kernel_rfl) rfl (by simp [Value.oneCell']) (Nat.le_refl _) HBA.out.size ?_; intro wB hhB hbB; have HHB := Lib.hid hhB; have HBB := Lib.hid (HBA.out.trans hbB); clear hhB hbB))
                refine bodyPost_ret (obRow2 rfl _ _ w.heap.size _ _ _ _ rfl HHB.out rfl rfl (by kernel_rfl)) rfl ⟨by rw [HRR.out]; rfl, HBB.out⟩
        · obtain rfl : j = ns := by omega
          have HR2 := Lib.hid (show R = (O.drop (k + 1)).findSome? fun s => (objAt l s).syms.findSome? (wantS D H) by rw [HRj.out, List.drop_eq_nil_of_le (by have := HNS.out; omega)]; rfl)
          go_wp2
          go_roundw
          case rel => exact ⟨k + 1, by go_num, by omega, HR2.out, HWj.out⟩
          case measure => simp [intOf] <;> omega
    · obtain rfl : k = on := by omega
      have HRN := Lib.hid (show R = none by rw [HR.out, List.drop_eq_nil_of_le (by have := HON.out; omega)]; rfl)
      have HXr := Lib.hid (heap_below (HB2.out.trans (HW.out.mono HB2.out.size)) HX1.out)
      go_wp2_with ((with_reducible show wpList _ _ _ (⟨none, .store _ (.tmp 2) _, _, _, _, _⟩ :: _) _ _); go_must (refine wpList_storeMade HXr.out rfl rfl (by kernel_rfl) rfl (by simp [Value.oneCell']) (Nat.le_refl _) HBr.out.size ?_; intro wB hhB hbB; have HHB := Lib.hid hhB; have HBB := Lib.hid (HBr.out.trans hbB); clear hhB hbB))
      refine bodyPost_ret (obRow2 rfl _ _ w.heap.size _ _ _ _ rfl HHB.out rfl rfl (by kernel_rfl)) rfl ⟨by rw [HRN.out]; rfl, HBB.out⟩
end Go.Proofs.Ytnhbgijecdeahaa
