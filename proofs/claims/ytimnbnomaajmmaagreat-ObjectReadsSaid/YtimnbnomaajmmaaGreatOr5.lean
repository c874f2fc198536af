/-
  Part 5 of 8: laws and walks for objectReads_holds; no condition of its own.
-/
import Derived.Test.YtimnbnomaajmmaaGreatOr4
namespace Go.Fd
open Go.RowKit
abbrev encPart (p : Go.Proofs.YtimnbnomaajmmaaGreat.PartM × Value × Value) : List Value := [.string ⟨p.1.name.toArray⟩, .string ⟨p.1.flags.toArray⟩, .int .i64 p.1.align, .int .i64 p.1.size, p.2.1, p.2.2]
abbrev partV (p : Go.Proofs.YtimnbnomaajmmaaGreat.PartM × Value × Value) : Value := .agg #[.string ⟨p.1.name.toArray⟩, .string ⟨p.1.flags.toArray⟩, .int .i64 p.1.align, .int .i64 p.1.size, p.2.1, p.2.2]
theorem part_box {w : World} {g : Nat} {x : Go.Proofs.YtimnbnomaajmmaaGreat.PartM × Value × Value} {t : TypeId} {fr : Nat × Nat} (h : w.heap[g]? = some (.cells #[.string ⟨x.1.name.toArray⟩, .string ⟨x.1.flags.toArray⟩, .int .i64 x.1.align, .int .i64 x.1.size, x.2.1, x.2.2] t fr)) :
    w.cell? ⟨g, 0, none⟩ = some (.string ⟨x.1.name.toArray⟩) ∧ w.cell? ⟨g, 1, none⟩ = some (.string ⟨x.1.flags.toArray⟩) ∧ w.cell? ⟨g, 2, none⟩ = some (.int .i64 x.1.align) ∧ w.cell? ⟨g, 3, none⟩ = some (.int .i64 x.1.size) ∧ w.cell? ⟨g, 4, none⟩ = some x.2.1 ∧ w.cell? ⟨g, 5, none⟩ = some x.2.2 :=
  ⟨cell_rec h 0, cell_rec h 1, cell_rec h 2, cell_rec h 3, cell_rec h 4, cell_rec h 5⟩
end Go.Fd
namespace Go.Proofs.YtimnbnomaajmmaaGreat
open Go.RowKit Go.Fd
set_option maxHeartbeats 1000000 in
set_option maxRecDepth 100000 in
theorem sized6_any (p : PartM) (dv rv : Value) (w : World) (hd : Bs w dv p.data) (hcm : p.data.length ≤ 9223372036854775807) :
    Calls Tryz.prog 58 #[partV (p, dv, rv)] w fun e w' => e = .returned (.bool (sizedF p)) ∧ Below w.heap.size w w' := by
  obtain ⟨m, a, cap, hm, rfl, hmc, _⟩ := hd.shape
  have HF := Lib.hid (fun w => has_any p.flags 110 w)
  obtain ⟨name, flags, align, size, data, relas⟩ := p
  dsimp only at *
  clear hd
  rw [← hm.out] at hcm
  have HS : Hid (sizedF ⟨name, flags, align, size, data, relas⟩ = if hasF flags 110 = true then decide (0 ≤ size) && decide (size ≤ 1048576) && decide (m = 0) else decide (size = (m : Int))) := by
    have h1 := hm.out
    have h2 : decide (data = []) = decide (m = 0) := by rw [Bool.eq_iff_iff, decide_eq_true_iff, decide_eq_true_iff, h1, List.length_eq_zero_iff]
    unfold sizedF
    dsimp only
    rw [h2, h1]
    rfl
  generalize sizedF ⟨name, flags, align, size, data, relas⟩ = q at *
  generalize hasF flags 110 = h at *
  cases h with
  | true =>
    have HR : Hid (q = (decide (0 ≤ size) && decide (size ≤ 1048576) && decide (m = 0))) := HS.out
    clear HS
    go_enter Tryz.func58, Tryz.ntmps58
    go_wp2_with (first
      | ((with_reducible show wpList _ _ _ (⟨_, .box _ _, _, _, _, _⟩ :: _) _ _); go_must (refine wpList_box rfl ?_; intro w1 hx1 hb1 hs1; obtain ⟨c0, c1, c2, c3, c4, c5⟩ := part_box (x := (⟨name, flags, align, size, data, relas⟩, .slice a m cap, rv)) hx1))
      | (go_at_call 45; refine (HF.out _).mono ?_; rintro e w2 ⟨rfl, rfl⟩))
    all_goals go_ret
    all_goals refine ⟨?_, hb1⟩
    all_goals rw [HR.out]
    all_goals refine ret1 (bool_eq ?_)
    all_goals rw [Bool.eq_iff_iff]
    all_goals simp
    all_goals omega
  | false =>
    have HR : Hid (q = decide (size = (m : Int))) := HS.out
    clear HS
    go_enter Tryz.func58, Tryz.ntmps58
    go_wp2_with (first
      | ((with_reducible show wpList _ _ _ (⟨_, .box _ _, _, _, _, _⟩ :: _) _ _); go_must (refine wpList_box rfl ?_; intro w1 hx1 hb1 hs1; obtain ⟨c0, c1, c2, c3, c4, c5⟩ := part_box (x := (⟨name, flags, align, size, data, relas⟩, .slice a m cap, rv)) hx1))
      | (go_at_call 45; refine (HF.out _).mono ?_; rintro e w2 ⟨rfl, rfl⟩))
    go_ret
    refine ⟨?_, hb1⟩
    rw [HR.out]
    refine ret1 (bool_eq ?_)
    rw [Bool.eq_iff_iff]
    simp
theorem pre_rel (s : List UInt8) : Lib.hasPrefix s relaN = decide (s.take 5 = relaN) := by
  rw [Bool.eq_iff_iff, decide_eq_true_iff]
  unfold Lib.hasPrefix
  rw [List.isPrefixOf_iff_prefix, List.prefix_iff_eq_take]
  exact eq_comm
theorem wpList_lit1S {ops : Array Oper} {rest : List Oper} {Q : Exit → Act → World → Prop} {a : Act} {w : World} {d : Option Tmp} {ty : TypeId} {pos : String} {aft : Array Edge} {x : Operand} (s : List UInt8) (hx : a.eval x = S s)
    (h : ∀ w1, Rd S w1 (.slice (some ⟨w.heap.size, 0, none⟩) 1 1) [s] → Below w.heap.size w w1 → wpList Tryz.prog ops Q rest (a.put d (.slice (some ⟨w.heap.size, 0, none⟩) 1 1)) w1) :
    wpList Tryz.prog ops Q (⟨d, .buildSlice 44 1 #[(0, x)], ty, pos, aft, none⟩ :: rest) a w :=
  wpList_val rfl (w' := w.alloc (.cells #[S s] 9)) (by simp only [execOp, List.map_toArray, List.map_cons, List.map_nil, hx]; kernel_rfl) (h _ (rd_lit S w [s] _ 1 _ rfl rfl) (below_alloc w _))
set_option maxHeartbeats 1000000 in
set_option maxRecDepth 100000 in
theorem named6_any (s : List UInt8) (w : World) :
    Calls Tryz.prog 56 #[S s] w fun e w' => e = .returned (.bool (namedF s)) ∧ Below w.heap.size w w' := by
  have HBU := Lib.hid (fun v w (h : Rd S w v [s]) => build_any [s] v w (by simp) h)
  have HNM : Hid (namedF s = (decide ((buildR [s]).2.2 = 0) && !decide (s = []) && !decide (s = symtabN) && !decide (s = strtabN) && !decide (s = tabName) && !decide (s.take 5 = relaN))) := rfl
  generalize namedF s = q at *
  generalize buildR [s] = B at *
  obtain ⟨B1, B2, B3⟩ := B
  dsimp only at *
  go_enter Tryz.func56, Tryz.ntmps56
  have HPF := Lib.hid (fun w => Tryz.strings_HasPrefix ⟨s.toArray⟩ ⟨relaN.toArray⟩ w)
  go_wp2_with (first
    | ((with_reducible show wpList _ _ _ (⟨some 8, _, _, _, _, _⟩ :: _) _ _); go_must (refine wpList_lit1S s (by rfl) ?_; intro w1 hr1 hb1; have HR1 := Lib.hid hr1; have HB1 := Lib.hid hb1; clear hr1 hb1))
    | (go_at_call 49; refine (HBU.out _ _ HR1.out).mono ?_; rintro e w2 ⟨v1, v2, rfl, -, -, hb2⟩; have HB2 := Lib.hid (HB1.out.trans (hb2.mono HB1.out.size)); clear hb2)
    | (go_at_call 90; refine (HPF.out _).mono ?_; rintro e w3 ⟨rfl, rfl⟩))
  all_goals go_ret
  all_goals refine ⟨?_, HB2.out⟩
  all_goals rw [HNM.out]
  all_goals refine ret1 (bool_eq ?_)
  all_goals simp_all [symtabN, strtabN, tabName, pre_rel]
end Go.Proofs.YtimnbnomaajmmaaGreat
namespace Go.Proofs.YtimnbnomaajmmaaGreat
open Go.RowKit Go.Fd
def bitAt : Nat → Nat
  | 0 => 2
  | 1 => 1
  | 2 => 4
  | _ => 1024
def bitsK (fs : List UInt8) : Nat → Nat
  | 0 => 0
  | k + 1 => if hasF fs (lettersM.getD k 0) = true then bitsK fs k ||| bitAt k else bitsK fs k
theorem bitAt_lt (k : Nat) : bitAt k < 2048 := by
  unfold bitAt
  split <;> omega
theorem bitsK_lt (fs : List UInt8) (k : Nat) : bitsK fs k < 2048 := by
  induction k with
  | zero => show 0 < _; omega
  | succ k ih =>
    rw [bitsK]
    split
    · exact Nat.or_lt_two_pow (n := 11) ih (bitAt_lt k)
    · exact ih
theorem or_u64 {a b : Nat} (h1 : a < 2048) (h2 : b < 2048) : bits .or .u64 (a : Int) (b : Int) = ((a ||| b : Nat) : Int) := bits_or_u64_nat a b (by omega) (by omega)
theorem bitsK_4 (fs : List UInt8) : bitsK fs 4 = bitsN fs := by
  unfold bitsN
  simp only [bitsK, lettersM, bitAt, List.getD_cons_zero, List.getD_cons_succ]
  cases hasF fs 97 <;> cases hasF fs 119 <;> cases hasF fs 120 <;> cases hasF fs 116 <;> rfl
def textK (n : Nat) : Nat → List UInt8
  | 0 => []
  | k + 1 => if n &&& bitAt k ≠ 0 then textK n k ++ [lettersM.getD k 0] else textK n k
theorem textK_4 (n : Nat) (bare : Bool) : textK n 4 ++ (if bare = true then [110] else []) = textN n bare := by
  unfold textN
  simp only [textK, lettersM, bitAt, List.getD_cons_zero, List.getD_cons_succ]
  generalize n &&& 2 = a1
  generalize n &&& 1 = a2
  generalize n &&& 4 = a3
  generalize n &&& 1024 = a4
  by_cases h1 : a1 = 0 <;> by_cases h2 : a2 = 0 <;> by_cases h3 : a3 = 0 <;> by_cases h4 : a4 = 0 <;> simp [h1, h2, h3, h4]
theorem wpList_four {ops : Array Oper} {rest : List Oper} {Q : Exit → Act → World → Prop} {a : Act} {w : World} {d : Option Tmp} {ty : TypeId} {pos : String} {aft : Array Edge}
    (h : ∀ w1, w1.cell? ⟨w.heap.size, 0, none⟩ = some (.int .u64 2) → w1.cell? ⟨w.heap.size, 1, none⟩ = some (.int .u64 1) → w1.cell? ⟨w.heap.size, 2, none⟩ = some (.int .u64 4) → w1.cell? ⟨w.heap.size, 3, none⟩ = some (.int .u64 1024) → Below w.heap.size w w1 → wpList Tryz.prog ops Q rest (a.put d (.slice (some ⟨w.heap.size, 0, none⟩) 4 4)) w1) :
    wpList Tryz.prog ops Q (⟨d, .buildSlice 87 4 #[(0, .const (.int .u64 2)), (1, .const (.int .u64 1)), (2, .const (.int .u64 4)), (3, .const (.int .u64 1024))], ty, pos, aft, none⟩ :: rest) a w :=
  wpList_val rfl (w' := w.alloc (.cells #[.int .u64 2, .int .u64 1, .int .u64 4, .int .u64 1024] 39)) (by kernel_rfl) (h _ (cell_rec (heap_alloc_last w _) 0) (cell_rec (heap_alloc_last w _) 1) (cell_rec (heap_alloc_last w _) 2) (cell_rec (heap_alloc_last w _) 3) (below_alloc w _))
set_option maxHeartbeats 1000000 in
set_option maxRecDepth 100000 in
theorem bits6_any (fs : List UInt8) (w : World) :
    Calls Tryz.prog 44 #[S fs] w fun e w' => e = .returned (.int .u64 ((bitsN fs : Nat) : Int)) ∧ Below w.heap.size w w' := by
  have HH := Lib.hid (fun c w => has_any fs c w)
  have HN : Hid (bitsK fs 4 = bitsN fs) := bitsK_4 fs
  go_enter Tryz.func44, Tryz.ntmps44
  go_wp2_with ((with_reducible show wpList _ _ _ (⟨some 6, _, _, _, _, _⟩ :: _) _ _); go_must (refine wpList_four ?_; intro w1 c0 c1 c2 c3 hb1))
  go_loop [3, 8] (fun x i => ∃ k : Nat, i = .int .i64 k ∧ k ≤ 4 ∧ x = .int .u64 ((bitsK fs k : Nat) : Int)) (fun _ i => 4 - (intOf i).toNat)
  case atStart => exact ⟨0, rfl, by omega, rfl⟩
  case round =>
    obtain ⟨k, rfl, hk, rfl⟩ := hrel
    by_cases hlt : k < 4
    · have HS : Hid (bitsK fs (k + 1) = if hasF fs (lettersM.getD k 0) = true then bitsK fs k ||| bitAt k else bitsK fs k) := rfl
      have HO := Lib.hid (or_u64 (bitsK_lt fs k) (bitAt_lt k))
      generalize bitsK fs k = v at *
      have HHK := Lib.hid (fun w => HH.out (lettersM.getD k 0) w)
      generalize hasF fs (lettersM.getD k 0) = h at *
      rcases (show k = 0 ∨ k = 1 ∨ k = 2 ∨ k = 3 by omega) with rfl | rfl | rfl | rfl
      all_goals cases h
      all_goals have HOO := HO.out
      all_goals simp only [bitAt] at HOO
      all_goals go_wp2_with (go_at_call 45; refine (HHK.out _).mono ?_; rintro e w2 ⟨rfl, rfl⟩)
      all_goals refine ⟨?_, by simp [intOf]⟩
      all_goals first
        | exact ⟨1, rfl, by omega, congrArg (fun x : Nat => Value.int .u64 (x : Int)) HS.out.symm⟩
        | exact ⟨2, rfl, by omega, congrArg (fun x : Nat => Value.int .u64 (x : Int)) HS.out.symm⟩
        | exact ⟨3, rfl, by omega, congrArg (fun x : Nat => Value.int .u64 (x : Int)) HS.out.symm⟩
        | exact ⟨4, rfl, by omega, congrArg (fun x : Nat => Value.int .u64 (x : Int)) HS.out.symm⟩
        | exact ⟨1, rfl, by omega, (congrArg (Value.int .u64) HOO).trans (congrArg (fun x : Nat => Value.int .u64 (x : Int)) HS.out.symm)⟩
        | exact ⟨2, rfl, by omega, (congrArg (Value.int .u64) HOO).trans (congrArg (fun x : Nat => Value.int .u64 (x : Int)) HS.out.symm)⟩
        | exact ⟨3, rfl, by omega, (congrArg (Value.int .u64) HOO).trans (congrArg (fun x : Nat => Value.int .u64 (x : Int)) HS.out.symm)⟩
        | exact ⟨4, rfl, by omega, (congrArg (Value.int .u64) HOO).trans (congrArg (fun x : Nat => Value.int .u64 (x : Int)) HS.out.symm)⟩
    · obtain rfl : k = 4 := by omega
      rw [HN.out]
      go_wp2
      go_ret
      exact ⟨rfl, hb1⟩
def bitI : Nat → Int
  | 0 => 2
  | 1 => 1
  | 2 => 4
  | _ => 1024
theorem bitI_cast (k : Nat) : bitI k = ((bitAt k : Nat) : Int) := by
  unfold bitI bitAt
  split <;> rfl
theorem cat_str (v : List UInt8) (x : ByteArray) : (⟨v.toArray⟩ : ByteArray) ++ x = ⟨(v ++ x.data.toList).toArray⟩ := by
  apply ByteArray.ext
  simp
theorem textK_len (n k : Nat) : (textK n k).length ≤ k := by
  induction k with
  | zero => exact Nat.le_refl _
  | succ k ih =>
    rw [textK]
    split
    · rw [List.length_append, List.length_singleton]; omega
    · omega
theorem and_u64' {a b : Nat} (h1 : a < 18446744073709551616) (h2 : b < 2048) : bits .and .u64 (a : Int) (b : Int) = ((a &&& b : Nat) : Int) := bits_and_u64_nat a b h1 (by omega)
set_option maxHeartbeats 1000000 in
set_option maxRecDepth 100000 in
theorem text6_any (n : Nat) (bare : Bool) (w : World) (hn : n < 18446744073709551616) :
    Calls Tryz.prog 33 #[.int .u64 (n : Int), .bool bare] w fun e w' => e = .returned (S (textN n bare)) ∧ Below w.heap.size w w' := by
  have HN := Lib.hid (textK_4 n bare)
  have HLT := Lib.hid hn
  clear hn
  go_enter Tryz.func33, Tryz.ntmps33
  go_wp2_with ((with_reducible show wpList _ _ _ (⟨some 8, _, _, _, _, _⟩ :: _) _ _); go_must (refine wpList_four ?_; intro w1 c0 c1 c2 c3 hb1))
  go_loop [5, 10] (fun x i => ∃ k : Nat, i = .int .i64 k ∧ k ≤ 4 ∧ x = S (textK n k)) (fun _ i => 4 - (intOf i).toNat)
  case atStart => exact ⟨0, rfl, by omega, rfl⟩
  case round =>
    obtain ⟨k, rfl, hk, rfl⟩ := hrel
    by_cases hlt : k < 4
    · have HS : Hid (textK n (k + 1) = if n &&& bitAt k ≠ 0 then textK n k ++ [lettersM.getD k 0] else textK n k) := rfl
      have HO := Lib.hid (show bits .and .u64 (n : Int) (bitI k) = _ from (bitI_cast k).symm ▸ and_u64' HLT.out (bitAt_lt k))
      have hvl := textK_len n k
      generalize textK n k = v at *
      generalize n &&& bitAt k = m at *
      rcases (show k = 0 ∨ k = 1 ∨ k = 2 ∨ k = 3 by omega) with rfl | rfl | rfl | rfl
      all_goals have HOO := HO.out
      all_goals simp only [bitI] at HOO
      all_goals have hbig : ¬ 9223372036854775807 < v.length + 1 := by omega
      all_goals have HV := Lib.hid hvl
      all_goals clear hvl
      all_goals by_cases hm : m = 0
      all_goals have ht := (congrArg (fun x : Int => x != 0) HOO).trans (show ((m : Int) != 0) = decide (m ≠ 0) by rw [Bool.eq_iff_iff]; simp)
      all_goals simp only [hm, ne_eq, not_true_eq_false, not_false_eq_true, decide_true, decide_false] at ht
      all_goals clear HOO
      all_goals have HM := Lib.hid hm
      all_goals clear hm
      all_goals go_wp2
      all_goals refine ⟨?_, by simp [intOf]⟩
      all_goals first
        | exact ⟨1, rfl, by omega, congrArg S (HS.out.trans (if_neg (fun h => h HM.out))).symm⟩
        | exact ⟨2, rfl, by omega, congrArg S (HS.out.trans (if_neg (fun h => h HM.out))).symm⟩
        | exact ⟨3, rfl, by omega, congrArg S (HS.out.trans (if_neg (fun h => h HM.out))).symm⟩
        | exact ⟨4, rfl, by omega, congrArg S (HS.out.trans (if_neg (fun h => h HM.out))).symm⟩
        | exact ⟨1, rfl, by omega, (congrArg Value.string (cat_str v _)).trans (congrArg S (HS.out.trans (if_pos HM.out)).symm)⟩
        | exact ⟨2, rfl, by omega, (congrArg Value.string (cat_str v _)).trans (congrArg S (HS.out.trans (if_pos HM.out)).symm)⟩
        | exact ⟨3, rfl, by omega, (congrArg Value.string (cat_str v _)).trans (congrArg S (HS.out.trans (if_pos HM.out)).symm)⟩
        | exact ⟨4, rfl, by omega, (congrArg Value.string (cat_str v _)).trans (congrArg S (HS.out.trans (if_pos HM.out)).symm)⟩
    · obtain rfl : k = 4 := by omega
      have hvl := textK_len n 4
      generalize textK n 4 = v at *
      have hbig : ¬ 9223372036854775807 < v.length + 1 := by omega
      have HV := Lib.hid hvl
      clear hvl
      cases bare
      · go_wp2
        go_ret
        exact ⟨by rw [← HN.out]; exact congrArg (fun l => Ending.returned (S l)) (List.append_nil v).symm, hb1⟩
      · go_wp2
        go_ret
        exact ⟨by rw [← HN.out]; exact congrArg (fun b => Ending.returned (Value.string b)) (cat_str v ⟨#[110]⟩), hb1⟩
end Go.Proofs.YtimnbnomaajmmaaGreat
namespace Go.Proofs.YtimnbnomaajmmaaGreat
open Go.RowKit Go.Fd
set_option maxHeartbeats 1000000 in
set_option maxRecDepth 100000 in
theorem relocation6_any (r : RelaM) (p : PartM) (dv rv : Value) (n : Nat) (w : World) (hf : r.off < 18446744073709551616) :
    Calls Tryz.prog 26 #[.agg #[.int .u64 (r.off : Int), .int .i64 r.typ, .int .i64 r.sym, .int .i64 r.add], partV (p, dv, rv), .int .i64 (n : Int)] w fun e w' => e = .returned (.int .i64 (relE n p.size r)) ∧ Below w.heap.size w w' := by
  obtain ⟨name, flags, align, size, data, relas⟩ := p
  obtain ⟨off, typ, sym, add⟩ := r
  have HS : Hid (relE n size ⟨off, typ, sym, add⟩ = if sym < 0 ∨ (n : Int) < sym then 14 else if u64of size ≤ off then 5 else if typ < 0 ∨ 65535 < typ then 3 else 0) := rfl
  dsimp only at *
  have HU := Lib.hid (u64of_cast size)
  generalize relE n size ⟨off, typ, sym, add⟩ = q at *
  generalize u64of size = us at *
  go_enter Tryz.func26, Tryz.ntmps26
  go_wp2_with (first
    | ((with_reducible show wpList _ _ _ (⟨some 3, .box _ _, _, _, _, _⟩ :: _) _ _); go_must (refine wpList_box rfl ?_; intro w1 hx1 hb1 hs1; have HX1 := Lib.hid hx1; have HB1 := Lib.hid hb1; clear hx1 hb1))
    | ((with_reducible show wpList _ _ _ (⟨some 4, .box _ _, _, _, _, _⟩ :: _) _ _); go_must (refine wpList_box rfl ?_; intro w2 hx2 hb2 hs2; obtain ⟨c0, c1, c2, c3, c4, c5⟩ := part_box (x := (⟨name, flags, align, size, data, relas⟩, dv, rv)) hx2; have hx3 := heap_below hb2 HX1.out; have d0 := cell_rec hx3 0; have d1 := cell_rec hx3 1; have d2 := cell_rec hx3 2; simp only [List.getElem?_toArray, List.getElem?_cons_succ, List.getElem?_cons_zero] at d0 d1 d2; have HB2 := Lib.hid (HB1.out.trans (hb2.mono HB1.out.size)); clear hx3 hx2)))
  all_goals have hu := HU.out
  all_goals go_ret
  all_goals refine ⟨?_, HB2.out⟩
  all_goals rw [HS.out]
  all_goals refine ret1 (int_eq ?_)
  all_goals repeat' split
  all_goals omega
def allO (n : Nat) (p : Nat → Bool) : Bool := Nat.rec true (fun k ih => p k && ih) n
theorem allO_spec {n : Nat} {p : Nat → Bool} (h : allO n p = true) : ∀ k, k < n → p k = true := by
  induction n with
  | zero => intro k hk; omega
  | succ n ih =>
    have h' : (p n && allO n p) = true := h
    rw [Bool.and_eq_true] at h'
    intro k hk
    by_cases e : k = n
    · subst e; exact h'.1
    · exact ih h'.2 k (by omega)
theorem and_all : allO 4096 (fun a => decide (bits .and .i64 ((a + 1 : Nat) : Int) ((a : Nat) : Int) = (((a + 1) &&& a : Nat) : Int))) = true := by kernel_rfl
theorem and_i64' {a : Nat} (h1 : 1 ≤ a) (h2 : a ≤ 4096) : bits .and .i64 (a : Int) ((a : Int) - 1) = ((a &&& (a - 1) : Nat) : Int) := by
  have h := of_decide_eq_true (allO_spec and_all (a - 1) (by omega))
  rw [show a - 1 + 1 = a by omega] at h
  rw [show (a : Int) - 1 = ((a - 1 : Nat) : Int) by omega]
  exact h
set_option maxHeartbeats 1000000 in
set_option maxRecDepth 100000 in
theorem part6_any (p : PartM) (there : Bool) (dv rv : Value) (w : World) (hd : Bs w dv p.data) (hcm : p.data.length ≤ 9223372036854775807) (hfl : p.flags.length ≤ 9223372036854775807) :
    Calls Tryz.prog 25 #[partV (p, dv, rv), .bool there] w fun e w' => e = .returned (.int .i64 (partE p there)) ∧ Below w.heap.size w w' := by
  have HNM := Lib.hid (fun w => named6_any p.name w)
  have HOR := Lib.hid (fun w => ordered6_any p.flags w hfl)
  have HSZ := Lib.hid (fun w' (hb : Below w.heap.size w w') => sized6_any p dv rv w' (hd.mono hb) hcm)
  have HS : Hid (partE p there = if namedF p.name = false then 7 else if there = true then 8 else if ordF p.flags lettersM = false then 15 else if pow2F p.align = false then 10 else if sizedF p = false then 1 else 0) := rfl
  have HP2 : Hid (pow2F p.align = (decide (1 ≤ p.align) && decide (p.align ≤ 4096) && decide (p.align.toNat &&& (p.align.toNat - 1) = 0))) := rfl
  generalize partE p there = q at *
  generalize namedF p.name = b1 at *
  generalize ordF p.flags lettersM = b2 at *
  generalize sizedF p = b3 at *
  generalize pow2F p.align = b4 at *
  obtain ⟨name, flags, align, size, data, relas⟩ := p
  dsimp only at *
  clear hd hcm hfl
  cases b1 with
  | false =>
    go_enter Tryz.func25, Tryz.ntmps25
    go_wp2_with (first
        | ((with_reducible show wpList _ _ _ (⟨some 2, .box _ _, _, _, _, _⟩ :: _) _ _); go_must (refine wpList_box rfl ?_; intro w1 hx1 hb1 hs1; obtain ⟨c0, c1, c2, c3, c4, c5⟩ := part_box (x := (⟨name, flags, align, size, data, relas⟩, dv, rv)) hx1; have HX1 := Lib.hid hx1; have HB1 := Lib.hid hb1; clear hx1 hb1))
        | (go_at_call 56; refine (HNM.out _).mono ?_; rintro e w2 ⟨rfl, hb2⟩; have HB2 := Lib.hid (HB1.out.trans (hb2.mono HB1.out.size)); obtain ⟨c0, c1, c2, c3, c4, c5⟩ := part_box (x := (⟨name, flags, align, size, data, relas⟩, dv, rv)) (heap_below hb2 HX1.out); have HX2 := Lib.hid (heap_below hb2 HX1.out); clear hb2)
        | (go_at_call 57; refine (HOR.out _).mono ?_; rintro e w3 ⟨rfl, hb3⟩; have HB3 := Lib.hid (HB2.out.trans (hb3.mono HB2.out.size)); obtain ⟨c0, c1, c2, c3, c4, c5⟩ := part_box (x := (⟨name, flags, align, size, data, relas⟩, dv, rv)) (heap_below hb3 HX2.out); clear hb3)
        | (go_at_call 58; refine (HSZ.out _ HB3.out).mono ?_; rintro e w4 ⟨rfl, hb4⟩; have HB4 := Lib.hid (HB3.out.trans (hb4.mono HB3.out.size)); clear hb4))
    go_ret
    exact ⟨by rw [HS.out]; rfl, HB2.out⟩
  | true =>
    cases there with
    | true =>
      go_enter Tryz.func25, Tryz.ntmps25
      go_wp2_with (first
          | ((with_reducible show wpList _ _ _ (⟨some 2, .box _ _, _, _, _, _⟩ :: _) _ _); go_must (refine wpList_box rfl ?_; intro w1 hx1 hb1 hs1; obtain ⟨c0, c1, c2, c3, c4, c5⟩ := part_box (x := (⟨name, flags, align, size, data, relas⟩, dv, rv)) hx1; have HX1 := Lib.hid hx1; have HB1 := Lib.hid hb1; clear hx1 hb1))
          | (go_at_call 56; refine (HNM.out _).mono ?_; rintro e w2 ⟨rfl, hb2⟩; have HB2 := Lib.hid (HB1.out.trans (hb2.mono HB1.out.size)); obtain ⟨c0, c1, c2, c3, c4, c5⟩ := part_box (x := (⟨name, flags, align, size, data, relas⟩, dv, rv)) (heap_below hb2 HX1.out); have HX2 := Lib.hid (heap_below hb2 HX1.out); clear hb2)
          | (go_at_call 57; refine (HOR.out _).mono ?_; rintro e w3 ⟨rfl, hb3⟩; have HB3 := Lib.hid (HB2.out.trans (hb3.mono HB2.out.size)); obtain ⟨c0, c1, c2, c3, c4, c5⟩ := part_box (x := (⟨name, flags, align, size, data, relas⟩, dv, rv)) (heap_below hb3 HX2.out); clear hb3)
          | (go_at_call 58; refine (HSZ.out _ HB3.out).mono ?_; rintro e w4 ⟨rfl, hb4⟩; have HB4 := Lib.hid (HB3.out.trans (hb4.mono HB3.out.size)); clear hb4))
      go_ret
      exact ⟨by rw [HS.out]; rfl, HB2.out⟩
    | false =>
      cases b2 with
      | false =>
        go_enter Tryz.func25, Tryz.ntmps25
        go_wp2_with (first
            | ((with_reducible show wpList _ _ _ (⟨some 2, .box _ _, _, _, _, _⟩ :: _) _ _); go_must (refine wpList_box rfl ?_; intro w1 hx1 hb1 hs1; obtain ⟨c0, c1, c2, c3, c4, c5⟩ := part_box (x := (⟨name, flags, align, size, data, relas⟩, dv, rv)) hx1; have HX1 := Lib.hid hx1; have HB1 := Lib.hid hb1; clear hx1 hb1))
            | (go_at_call 56; refine (HNM.out _).mono ?_; rintro e w2 ⟨rfl, hb2⟩; have HB2 := Lib.hid (HB1.out.trans (hb2.mono HB1.out.size)); obtain ⟨c0, c1, c2, c3, c4, c5⟩ := part_box (x := (⟨name, flags, align, size, data, relas⟩, dv, rv)) (heap_below hb2 HX1.out); have HX2 := Lib.hid (heap_below hb2 HX1.out); clear hb2)
            | (go_at_call 57; refine (HOR.out _).mono ?_; rintro e w3 ⟨rfl, hb3⟩; have HB3 := Lib.hid (HB2.out.trans (hb3.mono HB2.out.size)); obtain ⟨c0, c1, c2, c3, c4, c5⟩ := part_box (x := (⟨name, flags, align, size, data, relas⟩, dv, rv)) (heap_below hb3 HX2.out); clear hb3)
            | (go_at_call 58; refine (HSZ.out _ HB3.out).mono ?_; rintro e w4 ⟨rfl, hb4⟩; have HB4 := Lib.hid (HB3.out.trans (hb4.mono HB3.out.size)); clear hb4))
        go_ret
        exact ⟨by rw [HS.out]; rfl, HB3.out⟩
      | true =>
        by_cases hlo : align < 1
        · have HR := Lib.hid (show b4 = false by rw [HP2.out, decide_eq_false (show ¬ 1 ≤ align by omega)]; rfl)
          clear HP2
          go_enter Tryz.func25, Tryz.ntmps25
          go_wp2_with (first
              | ((with_reducible show wpList _ _ _ (⟨some 2, .box _ _, _, _, _, _⟩ :: _) _ _); go_must (refine wpList_box rfl ?_; intro w1 hx1 hb1 hs1; obtain ⟨c0, c1, c2, c3, c4, c5⟩ := part_box (x := (⟨name, flags, align, size, data, relas⟩, dv, rv)) hx1; have HX1 := Lib.hid hx1; have HB1 := Lib.hid hb1; clear hx1 hb1))
              | (go_at_call 56; refine (HNM.out _).mono ?_; rintro e w2 ⟨rfl, hb2⟩; have HB2 := Lib.hid (HB1.out.trans (hb2.mono HB1.out.size)); obtain ⟨c0, c1, c2, c3, c4, c5⟩ := part_box (x := (⟨name, flags, align, size, data, relas⟩, dv, rv)) (heap_below hb2 HX1.out); have HX2 := Lib.hid (heap_below hb2 HX1.out); clear hb2)
              | (go_at_call 57; refine (HOR.out _).mono ?_; rintro e w3 ⟨rfl, hb3⟩; have HB3 := Lib.hid (HB2.out.trans (hb3.mono HB2.out.size)); obtain ⟨c0, c1, c2, c3, c4, c5⟩ := part_box (x := (⟨name, flags, align, size, data, relas⟩, dv, rv)) (heap_below hb3 HX2.out); clear hb3)
              | (go_at_call 58; refine (HSZ.out _ HB3.out).mono ?_; rintro e w4 ⟨rfl, hb4⟩; have HB4 := Lib.hid (HB3.out.trans (hb4.mono HB3.out.size)); clear hb4))
          go_ret
          exact ⟨by rw [HS.out, HR.out]; rfl, HB3.out⟩
        by_cases hhi : 4096 < align
        · have HR := Lib.hid (show b4 = false by rw [HP2.out, decide_eq_false (show ¬ align ≤ 4096 by omega)]; simp)
          clear HP2
          go_enter Tryz.func25, Tryz.ntmps25
          go_wp2_with (first
              | ((with_reducible show wpList _ _ _ (⟨some 2, .box _ _, _, _, _, _⟩ :: _) _ _); go_must (refine wpList_box rfl ?_; intro w1 hx1 hb1 hs1; obtain ⟨c0, c1, c2, c3, c4, c5⟩ := part_box (x := (⟨name, flags, align, size, data, relas⟩, dv, rv)) hx1; have HX1 := Lib.hid hx1; have HB1 := Lib.hid hb1; clear hx1 hb1))
              | (go_at_call 56; refine (HNM.out _).mono ?_; rintro e w2 ⟨rfl, hb2⟩; have HB2 := Lib.hid (HB1.out.trans (hb2.mono HB1.out.size)); obtain ⟨c0, c1, c2, c3, c4, c5⟩ := part_box (x := (⟨name, flags, align, size, data, relas⟩, dv, rv)) (heap_below hb2 HX1.out); have HX2 := Lib.hid (heap_below hb2 HX1.out); clear hb2)
              | (go_at_call 57; refine (HOR.out _).mono ?_; rintro e w3 ⟨rfl, hb3⟩; have HB3 := Lib.hid (HB2.out.trans (hb3.mono HB2.out.size)); obtain ⟨c0, c1, c2, c3, c4, c5⟩ := part_box (x := (⟨name, flags, align, size, data, relas⟩, dv, rv)) (heap_below hb3 HX2.out); clear hb3)
              | (go_at_call 58; refine (HSZ.out _ HB3.out).mono ?_; rintro e w4 ⟨rfl, hb4⟩; have HB4 := Lib.hid (HB3.out.trans (hb4.mono HB3.out.size)); clear hb4))
          go_ret
          exact ⟨by rw [HS.out, HR.out]; rfl, HB3.out⟩
        obtain ⟨m, rfl⟩ : ∃ m : Nat, align = (m : Int) := ⟨align.toNat, by omega⟩
        have HA := and_i64' (a := m) (by omega) (by omega)
        have HP3 : Hid (b4 = decide (m &&& (m - 1) = 0)) := by
          rw [HP2.out, decide_eq_true (show (1 : Int) ≤ (m : Int) by omega), decide_eq_true (show (m : Int) ≤ 4096 by omega)]
          rfl
        clear HP2
        generalize m &&& (m - 1) = z at *
        have hlo' : (1 : Int) ≤ (m : Int) := by omega
        have hhi' : (m : Int) ≤ 4096 := by omega
        have ht := (congrArg (fun x : Int => x != 0) HA).trans (show ((z : Int) != 0) = decide (z ≠ 0) by rw [Bool.eq_iff_iff]; simp)
        clear HA
        by_cases hz : z = 0
        · have HR := Lib.hid (show b4 = true by rw [HP3.out, decide_eq_true hz])
          simp only [hz, ne_eq, not_true_eq_false, decide_false] at ht
          clear HP3 hz
          cases b3 with
          | false =>
            go_enter Tryz.func25, Tryz.ntmps25
            go_wp2_with (first
                | ((with_reducible show wpList _ _ _ (⟨some 2, .box _ _, _, _, _, _⟩ :: _) _ _); go_must (refine wpList_box rfl ?_; intro w1 hx1 hb1 hs1; obtain ⟨c0, c1, c2, c3, c4, c5⟩ := part_box (x := (⟨name, flags, (m : Int), size, data, relas⟩, dv, rv)) hx1; have HX1 := Lib.hid hx1; have HB1 := Lib.hid hb1; clear hx1 hb1))
                | (go_at_call 56; refine (HNM.out _).mono ?_; rintro e w2 ⟨rfl, hb2⟩; have HB2 := Lib.hid (HB1.out.trans (hb2.mono HB1.out.size)); obtain ⟨c0, c1, c2, c3, c4, c5⟩ := part_box (x := (⟨name, flags, (m : Int), size, data, relas⟩, dv, rv)) (heap_below hb2 HX1.out); have HX2 := Lib.hid (heap_below hb2 HX1.out); clear hb2)
                | (go_at_call 57; refine (HOR.out _).mono ?_; rintro e w3 ⟨rfl, hb3⟩; have HB3 := Lib.hid (HB2.out.trans (hb3.mono HB2.out.size)); obtain ⟨c0, c1, c2, c3, c4, c5⟩ := part_box (x := (⟨name, flags, (m : Int), size, data, relas⟩, dv, rv)) (heap_below hb3 HX2.out); clear hb3)
                | (go_at_call 58; refine (HSZ.out _ HB3.out).mono ?_; rintro e w4 ⟨rfl, hb4⟩; have HB4 := Lib.hid (HB3.out.trans (hb4.mono HB3.out.size)); clear hb4))
            go_ret
            exact ⟨by rw [HS.out, HR.out]; rfl, HB4.out⟩
          | true =>
            go_enter Tryz.func25, Tryz.ntmps25
            go_wp2_with (first
                | ((with_reducible show wpList _ _ _ (⟨some 2, .box _ _, _, _, _, _⟩ :: _) _ _); go_must (refine wpList_box rfl ?_; intro w1 hx1 hb1 hs1; obtain ⟨c0, c1, c2, c3, c4, c5⟩ := part_box (x := (⟨name, flags, (m : Int), size, data, relas⟩, dv, rv)) hx1; have HX1 := Lib.hid hx1; have HB1 := Lib.hid hb1; clear hx1 hb1))
                | (go_at_call 56; refine (HNM.out _).mono ?_; rintro e w2 ⟨rfl, hb2⟩; have HB2 := Lib.hid (HB1.out.trans (hb2.mono HB1.out.size)); obtain ⟨c0, c1, c2, c3, c4, c5⟩ := part_box (x := (⟨name, flags, (m : Int), size, data, relas⟩, dv, rv)) (heap_below hb2 HX1.out); have HX2 := Lib.hid (heap_below hb2 HX1.out); clear hb2)
                | (go_at_call 57; refine (HOR.out _).mono ?_; rintro e w3 ⟨rfl, hb3⟩; have HB3 := Lib.hid (HB2.out.trans (hb3.mono HB2.out.size)); obtain ⟨c0, c1, c2, c3, c4, c5⟩ := part_box (x := (⟨name, flags, (m : Int), size, data, relas⟩, dv, rv)) (heap_below hb3 HX2.out); clear hb3)
                | (go_at_call 58; refine (HSZ.out _ HB3.out).mono ?_; rintro e w4 ⟨rfl, hb4⟩; have HB4 := Lib.hid (HB3.out.trans (hb4.mono HB3.out.size)); clear hb4))
            go_ret
            exact ⟨by rw [HS.out, HR.out]; rfl, HB4.out⟩
        · have HR := Lib.hid (show b4 = false by rw [HP3.out, decide_eq_false hz])
          simp only [hz, ne_eq, not_false_eq_true, decide_true] at ht
          clear HP3 hz
          go_enter Tryz.func25, Tryz.ntmps25
          go_wp2_with (first
              | ((with_reducible show wpList _ _ _ (⟨some 2, .box _ _, _, _, _, _⟩ :: _) _ _); go_must (refine wpList_box rfl ?_; intro w1 hx1 hb1 hs1; obtain ⟨c0, c1, c2, c3, c4, c5⟩ := part_box (x := (⟨name, flags, (m : Int), size, data, relas⟩, dv, rv)) hx1; have HX1 := Lib.hid hx1; have HB1 := Lib.hid hb1; clear hx1 hb1))
              | (go_at_call 56; refine (HNM.out _).mono ?_; rintro e w2 ⟨rfl, hb2⟩; have HB2 := Lib.hid (HB1.out.trans (hb2.mono HB1.out.size)); obtain ⟨c0, c1, c2, c3, c4, c5⟩ := part_box (x := (⟨name, flags, (m : Int), size, data, relas⟩, dv, rv)) (heap_below hb2 HX1.out); have HX2 := Lib.hid (heap_below hb2 HX1.out); clear hb2)
              | (go_at_call 57; refine (HOR.out _).mono ?_; rintro e w3 ⟨rfl, hb3⟩; have HB3 := Lib.hid (HB2.out.trans (hb3.mono HB2.out.size)); obtain ⟨c0, c1, c2, c3, c4, c5⟩ := part_box (x := (⟨name, flags, (m : Int), size, data, relas⟩, dv, rv)) (heap_below hb3 HX2.out); clear hb3)
              | (go_at_call 58; refine (HSZ.out _ HB3.out).mono ?_; rintro e w4 ⟨rfl, hb4⟩; have HB4 := Lib.hid (HB3.out.trans (hb4.mono HB3.out.size)); clear hb4))
          go_ret
          exact ⟨by rw [HS.out, HR.out]; rfl, HB3.out⟩
end Go.Proofs.YtimnbnomaajmmaaGreat
namespace Go.Proofs.YtimnbnomaajmmaaGreat
open Go.RowKit Go.Fd
theorem hasF_step {fs : List UInt8} {k : Nat} {x c : UInt8} (h : fs[k]? = some x) : hasF (fs.take (k + 1)) c = (hasF (fs.take k) c || decide (x = c)) := by
  unfold hasF
  rw [List.take_add_one, h, List.any_append]
  simp
set_option maxHeartbeats 1000000 in
set_option maxRecDepth 100000 in
theorem refHas_any (fs : List UInt8) (c : UInt8) (w : World) (hs : fs.length ≤ 9223372036854775807) :
    Calls Tryz.prog 82 #[S fs, .int .u8 (c.toNat : Int)] w fun e w' => e = .returned (.bool (hasF fs c)) ∧ w = w' := by
  go_enter Tryz.func82, Tryz.ntmps82
  go_wp2
  go_loop [5] (fun i => ∃ k : Nat, i = .int .i64 k ∧ k ≤ fs.length ∧ Hid (hasF (fs.take k) c = false)) (fun i => fs.length - (intOf i).toNat)
  case atStart => exact ⟨0, rfl, Nat.zero_le _, rfl⟩
  case round =>
    obtain ⟨k, rfl, hk, HK⟩ := hrel
    by_cases hlt : k < fs.length
    · have hb : ∀ h, (⟨fs.toArray⟩ : ByteArray)[k]'h = fs[k] := fun _ => rfl
      have HX := Lib.hid (show fs[k]? = some fs[k] from List.getElem?_eq_getElem hlt)
      have HB := Lib.hid hb
      clear hb
      go_wp2
      · rename_i hz _
        have he : fs[k] = c := by
          have h1 := hz
          rw [HB.out, beq_iff_eq] at h1
          exact UInt8.toNat_inj.1 (by omega)
        have HR := Lib.hid (show hasF fs c = true by unfold hasF; rw [List.any_eq_true]; exact ⟨fs[k], List.getElem_mem hlt, by simp [he]⟩)
        go_ret
        exact ⟨by rw [HR.out]; rfl, rfl⟩
      · rename_i hz
        have he : ¬ fs[k] = c := by
          intro e
          have h1 := hz
          rw [HB.out, e] at h1
          simp at h1
        exact ⟨⟨k + 1, rfl, by omega, by show hasF _ c = false; rw [hasF_step HX.out, HK.out, decide_eq_false he]; rfl⟩, by simp only [intOf]; omega⟩
    · obtain rfl : k = fs.length := by omega
      have HR := Lib.hid (show hasF fs c = false by have := HK.out; rwa [List.take_length] at this)
      go_wp2
      go_ret
      exact ⟨by rw [HR.out]; rfl, rfl⟩
end Go.Proofs.YtimnbnomaajmmaaGreat
namespace Go.Proofs.YtimnbnomaajmmaaGreat
open Go.RowKit Go.Fd
theorem ordF_skip {c x : UInt8} {fs ls : List UInt8} {a : Nat} (h : ls[a]? = some x) (hx : ¬ x = c) : ordF (c :: fs) (ls.drop a) = ordF (c :: fs) (ls.drop (a + 1)) := by
  obtain ⟨h1, h2⟩ := List.getElem?_eq_some_iff.1 h
  rw [List.drop_eq_getElem_cons h1, h2, ordF, if_neg hx]
theorem ordF_take {c : UInt8} {fs ls : List UInt8} {a : Nat} (h : ls[a]? = some c) : ordF (c :: fs) (ls.drop a) = ordF fs (ls.drop (a + 1)) := by
  obtain ⟨h1, h2⟩ := List.getElem?_eq_some_iff.1 h
  rw [List.drop_eq_getElem_cons h1, h2, ordF, if_pos rfl]
set_option maxHeartbeats 1000000 in
set_option maxRecDepth 100000 in
theorem sorted17_any (fs : List UInt8) (w : World) (hs : fs.length ≤ 9223372036854775807) :
    Calls Tryz.prog 102 #[S fs] w fun e w' => e = .returned (.bool (ordF fs lettersM)) ∧ Below w.heap.size w w' := by
  go_enter Tryz.func102, Tryz.ntmps102
  go_wp2
  go_loopw [3, 4] (fun x i wr => ∃ k at_ : Nat, x = .int .i64 at_ ∧ i = .int .i64 k ∧ k ≤ fs.length ∧ at_ ≤ 5 ∧ Hid (ordF fs lettersM = ordF (fs.drop k) (lettersM.drop at_)) ∧ Hid (Below w.heap.size w wr)) (fun _ i _ => fs.length - (intOf i).toNat)
  case atStart => exact ⟨0, 0, rfl, rfl, Nat.zero_le _, by omega, rfl, Below.refl _ _⟩
  case round =>
    obtain ⟨k, at_, rfl, rfl, hk, ha, HK, HB0⟩ := hrel
    by_cases hlt : k < fs.length
    · have hb : ∀ h, (⟨fs.toArray⟩ : ByteArray)[k]'h = fs[k] := fun _ => rfl
      have HX := Lib.hid (show fs[k]? = some fs[k] from List.getElem?_eq_getElem hlt)
      have HD := Lib.hid (show fs.drop k = fs[k] :: fs.drop (k + 1) from List.drop_eq_getElem_cons hlt)
      have HB := Lib.hid hb
      clear hb
      go_wp2
      go_loopw [3] (fun x wr => ∃ a : Nat, x = .int .i64 a ∧ a ≤ 5 ∧ Hid (ordF fs lettersM = ordF (fs.drop k) (lettersM.drop a)) ∧ Hid (Below w.heap.size w wr)) (fun x _ => 5 - (intOf x).toNat)
      case atStart => exact ⟨at_, rfl, ha, HK, HB0.out⟩
      case round =>
        obtain ⟨a, rfl, ha5, HA, HBa⟩ := hrel
        by_cases h5 : a < 5
        · have hk' : k < (⟨fs.toArray⟩ : ByteArray).size := hlt
          have HY := Lib.hid (show (⟨fs.toArray⟩ : ByteArray)[k]'hk' = fs[k] from rfl)
          have HS := Lib.hid (fun x (h : lettersM[a]? = some x) (hx : ¬ x = fs[k]) => (show ordF fs lettersM = ordF (fs.drop k) (lettersM.drop (a + 1)) by rw [HA.out, HD.out, ordF_skip h hx]))
          have HT := Lib.hid (fun (h : lettersM[a]? = some fs[k]) => (show ordF fs lettersM = ordF (fs.drop (k + 1)) (lettersM.drop (a + 1)) by rw [HA.out, HD.out, ordF_take h]))
          rcases (show a = 0 ∨ a = 1 ∨ a = 2 ∨ a = 3 ∨ a = 4 by omega) with rfl | rfl | rfl | rfl | rfl
          · go_wp2
            go_quiet (fail)
            have HBd := Lib.hid (HBa.out.trans ((below_drewN (Below.refl _ wr) nq).mono HBa.out.size))
            generalize wr.drewN nq = wd at *
            go_wp2
            · rename_i hz
              have h1 := hz
              rw [HY.out, bne_iff_ne] at h1
              exact ⟨⟨1, rfl, by omega, HS.out 97 rfl (fun e => h1 (by rw [← e]; rfl)), HBd.out⟩, by simp [intOf]⟩
            · rename_i hz
              have h1 := hz
              rw [HY.out, bne_eq_false_iff_eq] at h1
              have e : (97 : UInt8) = fs[k] := UInt8.toNat_inj.1 (Int.ofNat.inj h1)
              exact ⟨⟨k + 1, 1, rfl, rfl, by omega, by omega, HT.out (e ▸ rfl), HBd.out⟩, by simp only [intOf]; omega⟩
          · go_wp2
            go_quiet (fail)
            have HBd := Lib.hid (HBa.out.trans ((below_drewN (Below.refl _ wr) nq).mono HBa.out.size))
            generalize wr.drewN nq = wd at *
            go_wp2
            · rename_i hz
              have h1 := hz
              rw [HY.out, bne_iff_ne] at h1
              exact ⟨⟨2, rfl, by omega, HS.out 119 rfl (fun e => h1 (by rw [← e]; rfl)), HBd.out⟩, by simp [intOf]⟩
            · rename_i hz
              have h1 := hz
              rw [HY.out, bne_eq_false_iff_eq] at h1
              have e : (119 : UInt8) = fs[k] := UInt8.toNat_inj.1 (Int.ofNat.inj h1)
              exact ⟨⟨k + 1, 2, rfl, rfl, by omega, by omega, HT.out (e ▸ rfl), HBd.out⟩, by simp only [intOf]; omega⟩
          · go_wp2
            go_quiet (fail)
            have HBd := Lib.hid (HBa.out.trans ((below_drewN (Below.refl _ wr) nq).mono HBa.out.size))
            generalize wr.drewN nq = wd at *
            go_wp2
            · rename_i hz
              have h1 := hz
              rw [HY.out, bne_iff_ne] at h1
              exact ⟨⟨3, rfl, by omega, HS.out 120 rfl (fun e => h1 (by rw [← e]; rfl)), HBd.out⟩, by simp [intOf]⟩
            · rename_i hz
              have h1 := hz
              rw [HY.out, bne_eq_false_iff_eq] at h1
              have e : (120 : UInt8) = fs[k] := UInt8.toNat_inj.1 (Int.ofNat.inj h1)
              exact ⟨⟨k + 1, 3, rfl, rfl, by omega, by omega, HT.out (e ▸ rfl), HBd.out⟩, by simp only [intOf]; omega⟩
          · go_wp2
            go_quiet (fail)
            have HBd := Lib.hid (HBa.out.trans ((below_drewN (Below.refl _ wr) nq).mono HBa.out.size))
            generalize wr.drewN nq = wd at *
            go_wp2
            · rename_i hz
              have h1 := hz
              rw [HY.out, bne_iff_ne] at h1
              exact ⟨⟨4, rfl, by omega, HS.out 116 rfl (fun e => h1 (by rw [← e]; rfl)), HBd.out⟩, by simp [intOf]⟩
            · rename_i hz
              have h1 := hz
              rw [HY.out, bne_eq_false_iff_eq] at h1
              have e : (116 : UInt8) = fs[k] := UInt8.toNat_inj.1 (Int.ofNat.inj h1)
              exact ⟨⟨k + 1, 4, rfl, rfl, by omega, by omega, HT.out (e ▸ rfl), HBd.out⟩, by simp only [intOf]; omega⟩
          · go_wp2
            go_quiet (fail)
            have HBd := Lib.hid (HBa.out.trans ((below_drewN (Below.refl _ wr) nq).mono HBa.out.size))
            generalize wr.drewN nq = wd at *
            go_wp2
            · rename_i hz
              have h1 := hz
              rw [HY.out, bne_iff_ne] at h1
              exact ⟨⟨5, rfl, by omega, HS.out 110 rfl (fun e => h1 (by rw [← e]; rfl)), HBd.out⟩, by simp [intOf]⟩
            · rename_i hz
              have h1 := hz
              rw [HY.out, bne_eq_false_iff_eq] at h1
              have e : (110 : UInt8) = fs[k] := UInt8.toNat_inj.1 (Int.ofNat.inj h1)
              exact ⟨⟨k + 1, 5, rfl, rfl, by omega, by omega, HT.out (e ▸ rfl), HBd.out⟩, by simp only [intOf]; omega⟩
        · obtain rfl : a = 5 := by omega
          have HR := Lib.hid (show ordF fs lettersM = false by rw [HA.out, HD.out]; rfl)
          go_wp2
          go_quiet (fail)
          have HBd := Lib.hid (HBa.out.trans ((below_drewN (Below.refl _ wr) nq).mono HBa.out.size))
          generalize wr.drewN nq = wd at *
          go_wp2
          go_ret
          exact ⟨by rw [HR.out]; rfl, HBd.out⟩
    · obtain rfl : k = fs.length := by omega
      have HR := Lib.hid (show ordF fs lettersM = true by rw [HK.out, List.drop_length, ordF_nil])
      go_wp2
      go_ret
      exact ⟨by rw [HR.out]; rfl, HB0.out⟩
end Go.Proofs.YtimnbnomaajmmaaGreat
namespace Go.Proofs.YtimnbnomaajmmaaGreat
open Go.RowKit Go.Fd
def bitAt5 : Nat → Nat
  | 0 => 2
  | 1 => 1
  | 2 => 4
  | 3 => 1024
  | _ => 0
def bitsK5 (fs : List UInt8) : Nat → Nat
  | 0 => 0
  | k + 1 => if hasF fs (lettersM.getD k 0) = true then bitsK5 fs k ||| bitAt5 k else bitsK5 fs k
theorem bitAt5_lt (k : Nat) : bitAt5 k < 2048 := by
  unfold bitAt5
  split <;> omega
theorem bitsK5_lt (fs : List UInt8) (k : Nat) : bitsK5 fs k < 2048 := by
  induction k with
  | zero => show 0 < _; omega
  | succ k ih =>
    rw [bitsK5]
    split
    · exact Nat.or_lt_two_pow (n := 11) ih (bitAt5_lt k)
    · exact ih
theorem bitsK5_5 (fs : List UInt8) : bitsK5 fs 5 = bitsN fs := by
  unfold bitsN
  simp only [bitsK5, lettersM, bitAt5, List.getD_cons_zero, List.getD_cons_succ]
  cases hasF fs 97 <;> cases hasF fs 119 <;> cases hasF fs 120 <;> cases hasF fs 116 <;> cases hasF fs 110 <;> rfl
theorem wpList_five {ops : Array Oper} {rest : List Oper} {Q : Exit → Act → World → Prop} {a : Act} {w : World} {d : Option Tmp} {ty : TypeId} {pos : String} {aft : Array Edge}
    (h : ∀ w1, w1.cell? ⟨w.heap.size, 0, none⟩ = some (.int .u64 2) → w1.cell? ⟨w.heap.size, 1, none⟩ = some (.int .u64 1) → w1.cell? ⟨w.heap.size, 2, none⟩ = some (.int .u64 4) → w1.cell? ⟨w.heap.size, 3, none⟩ = some (.int .u64 1024) → w1.cell? ⟨w.heap.size, 4, none⟩ = some (.int .u64 0) → Below w.heap.size w w1 → wpList Tryz.prog ops Q rest (a.put d (.slice (some ⟨w.heap.size, 0, none⟩) 5 5)) w1) :
    wpList Tryz.prog ops Q (⟨d, .buildSlice 87 5 #[(0, .const (.int .u64 2)), (1, .const (.int .u64 1)), (2, .const (.int .u64 4)), (3, .const (.int .u64 1024)), (4, .const (.int .u64 0))], ty, pos, aft, none⟩ :: rest) a w :=
  wpList_val rfl (w' := w.alloc (.cells #[.int .u64 2, .int .u64 1, .int .u64 4, .int .u64 1024, .int .u64 0] 39)) (by kernel_rfl) (h _ (cell_rec (heap_alloc_last w _) 0) (cell_rec (heap_alloc_last w _) 1) (cell_rec (heap_alloc_last w _) 2) (cell_rec (heap_alloc_last w _) 3) (cell_rec (heap_alloc_last w _) 4) (below_alloc w _))
set_option maxHeartbeats 1000000 in
set_option maxRecDepth 100000 in
theorem refBits_any (fs : List UInt8) (w : World) (hs : fs.length ≤ 9223372036854775807) :
    Calls Tryz.prog 81 #[S fs] w fun e w' => e = .returned (.int .u64 ((bitsN fs : Nat) : Int)) ∧ Below w.heap.size w w' := by
  have HH := Lib.hid (fun c w => refHas_any fs c w hs)
  have HN : Hid (bitsK5 fs 5 = bitsN fs) := bitsK5_5 fs
  go_enter Tryz.func81, Tryz.ntmps81
  go_wp2_with ((with_reducible show wpList _ _ _ (⟨some 6, _, _, _, _, _⟩ :: _) _ _); go_must (refine wpList_five ?_; intro w1 c0 c1 c2 c3 c4 hb1))
  go_loop [3, 5] (fun x i => ∃ k : Nat, i = .int .i64 k ∧ k ≤ 5 ∧ x = .int .u64 ((bitsK5 fs k : Nat) : Int)) (fun _ i => 5 - (intOf i).toNat)
  case atStart => exact ⟨0, rfl, by omega, rfl⟩
  case round =>
    obtain ⟨k, rfl, hk, rfl⟩ := hrel
    by_cases hlt : k < 5
    · have HS : Hid (bitsK5 fs (k + 1) = if hasF fs (lettersM.getD k 0) = true then bitsK5 fs k ||| bitAt5 k else bitsK5 fs k) := rfl
      have HO := Lib.hid (or_u64 (bitsK5_lt fs k) (bitAt5_lt k))
      generalize bitsK5 fs k = v at *
      have HHK := Lib.hid (fun w => HH.out (lettersM.getD k 0) w)
      generalize hasF fs (lettersM.getD k 0) = h at *
      rcases (show k = 0 ∨ k = 1 ∨ k = 2 ∨ k = 3 ∨ k = 4 by omega) with rfl | rfl | rfl | rfl | rfl
      all_goals cases h
      all_goals have HOO := HO.out
      all_goals simp only [bitAt5] at HOO
      all_goals go_wp2_with (go_at_call 82; refine (HHK.out _).mono ?_; rintro e w2 ⟨rfl, rfl⟩)
      all_goals refine ⟨?_, by simp [intOf]⟩
      all_goals first
        | exact ⟨1, rfl, by omega, congrArg (fun x : Nat => Value.int .u64 (x : Int)) HS.out.symm⟩
        | exact ⟨2, rfl, by omega, congrArg (fun x : Nat => Value.int .u64 (x : Int)) HS.out.symm⟩
        | exact ⟨3, rfl, by omega, congrArg (fun x : Nat => Value.int .u64 (x : Int)) HS.out.symm⟩
        | exact ⟨4, rfl, by omega, congrArg (fun x : Nat => Value.int .u64 (x : Int)) HS.out.symm⟩
        | exact ⟨5, rfl, by omega, congrArg (fun x : Nat => Value.int .u64 (x : Int)) HS.out.symm⟩
        | exact ⟨1, rfl, by omega, (congrArg (Value.int .u64) HOO).trans (congrArg (fun x : Nat => Value.int .u64 (x : Int)) HS.out.symm)⟩
        | exact ⟨2, rfl, by omega, (congrArg (Value.int .u64) HOO).trans (congrArg (fun x : Nat => Value.int .u64 (x : Int)) HS.out.symm)⟩
        | exact ⟨3, rfl, by omega, (congrArg (Value.int .u64) HOO).trans (congrArg (fun x : Nat => Value.int .u64 (x : Int)) HS.out.symm)⟩
        | exact ⟨4, rfl, by omega, (congrArg (Value.int .u64) HOO).trans (congrArg (fun x : Nat => Value.int .u64 (x : Int)) HS.out.symm)⟩
        | exact ⟨5, rfl, by omega, (congrArg (Value.int .u64) HOO).trans (congrArg (fun x : Nat => Value.int .u64 (x : Int)) HS.out.symm)⟩
    · obtain rfl : k = 5 := by omega
      rw [HN.out]
      go_wp2
      go_ret
      exact ⟨rfl, hb1⟩
end Go.Proofs.YtimnbnomaajmmaaGreat
namespace Go.Proofs.YtimnbnomaajmmaaGreat
open Go.RowKit Go.Fd
theorem build_one (s : List UInt8) : decide ((buildR [s]).2.2 = 0) = mayS s := by
  cases h : mayS s with
  | false =>
    rw [decide_eq_false_iff_not]
    unfold buildR
    rw [if_neg (by simp [h])]
    decide
  | true =>
    rw [decide_eq_true_iff]
    unfold buildR
    have h1 := (buildT_len [s] (fun x hx => by rw [List.mem_singleton] at hx; subst hx; exact mayS_len h)).1
    rw [List.length_singleton] at h1
    rw [if_pos (by simp [h]), if_neg (by omega)]
theorem named_may (s : List UInt8) : namedF s = (mayS s && !decide (s = []) && !decide (s = symtabN) && !decide (s = strtabN) && !decide (s = tabName) && !decide (s.take 5 = relaN)) := by
  unfold namedF
  rw [build_one]
theorem ext5 (s : List UInt8) : ((⟨s.toArray⟩ : ByteArray).extract 0 5).toList = s.take 5 := by
  rw [ByteArray.toList_eq]
  simp
theorem short5 {s : List UInt8} (h : s.length < 5) : ¬ s.take 5 = relaN := by
  intro e
  have := congrArg List.length e
  rw [List.length_take, show relaN.length = 5 from rfl] at this
  omega
set_option maxHeartbeats 2000000 in
set_option maxRecDepth 100000 in
theorem refPart_name (p : PartM) (dv rv av : Value) (A : List (PartM × Value × Value)) (w : World) (hv : RdR 6 encPart w av A) (hnl : p.name.length ≤ 9223372036854775807) (hn : namedF p.name = false) :
    Calls Tryz.prog 79 #[partV (p, dv, rv), av] w fun e w' => e = .returned (.int .i64 7) ∧ Below w.heap.size w w' := by
  obtain ⟨na, aa, ca, hna, rfl, hcap, _⟩ := hv.shape
  clear hv
  have HM := Lib.hid (fun w => ref3May_any p.name w hnl)
  have HN := Lib.hid ((named_may p.name).symm.trans hn)
  obtain ⟨name, flags, align, size, data, relas⟩ := p
  dsimp only at *
  generalize mayS name = mb at *
  clear hn
  go_enter Tryz.func79, Tryz.ntmps79
  go_wp2_with (first
    | ((with_reducible show wpList _ _ _ (⟨some 2, .box _ _, _, _, _, _⟩ :: _) _ _); go_must (refine wpList_box rfl ?_; intro w1 hx1 hb1 hs1; obtain ⟨c0, c1, c2, c3, c4, c5⟩ := part_box (x := (⟨name, flags, align, size, data, relas⟩, dv, rv)) hx1; have HX1 := Lib.hid hx1; have HB1 := Lib.hid hb1; clear hx1 hb1))
    | (go_at_call 99; refine (HM.out _).mono ?_; rintro e w2 ⟨rfl, rfl⟩))
  all_goals first
    | (go_ret; exact ⟨rfl, HB1.out⟩)
    | (exfalso; have hh := HN.out; simp_all [symtabN, strtabN, tabName, relaN, ext5]; done)
    | (exfalso; have hh := HN.out; have h5 := short5 (s := name) (by omega); simp_all [symtabN, strtabN, tabName]; done)
theorem part_cells {w wr : World} {a : Option Addr} {L : List (PartM × Value × Value)} {x : PartM × Value × Value} {k : Nat}
    (hc : ∀ i x, L[i]? = some x → 0 < 6 → ∃ b off, a = some ⟨b, off, none⟩ ∧ ∀ c, c < 6 → w.cell? ⟨b, off + (i * 6 + c), none⟩ = (encPart x)[c]?) (hb : Below w.heap.size w wr) (hk : L[k]? = some x) :
    ∃ b o, a = some ⟨b, o, none⟩ ∧ wr.cell? ⟨b, o + k * 6, none⟩ = some (.string ⟨x.1.name.toArray⟩) ∧ wr.cell? ⟨b, o + k * 6 + 1, none⟩ = some (.string ⟨x.1.flags.toArray⟩) ∧ wr.cell? ⟨b, o + k * 6 + 2, none⟩ = some (.int .i64 x.1.align) ∧ wr.cell? ⟨b, o + k * 6 + 3, none⟩ = some (.int .i64 x.1.size) ∧ wr.cell? ⟨b, o + k * 6 + 4, none⟩ = some x.2.1 ∧ wr.cell? ⟨b, o + k * 6 + 5, none⟩ = some x.2.2 ∧ b < w.heap.size := by
  obtain ⟨b, o, ha, hcc⟩ := hc k x hk (by decide)
  have hd : ∀ c v, (encPart x)[c]? = some v → wr.cell? ⟨b, o + k * 6 + c, none⟩ = some v := fun c v h => by
    have h6 : c < 6 := (List.getElem?_eq_some_iff.1 h).1
    have := (hcc c h6).trans h
    rw [← Nat.add_assoc] at this
    exact (hb.cell (block_lt this)).trans this
  have h0 : b < w.heap.size := block_lt ((hcc 0 (by decide)).trans rfl)
  exact ⟨b, o, ha, hd 0 _ rfl, hd 1 _ rfl, hd 2 _ rfl, hd 3 _ rfl, hd 4 _ rfl, hd 5 _ rfl, h0⟩
theorem named_facts {s : List UInt8} (h : namedF s = true) : mayS s = true ∧ s.isEmpty = false ∧ (s == [46, 115, 121, 109, 116, 97, 98]) = false ∧ (s == [46, 115, 116, 114, 116, 97, 98]) = false ∧ (s == [46, 115, 104, 115, 116, 114, 116, 97, 98]) = false ∧ (((⟨s.toArray⟩ : ByteArray).extract 0 5).toList == [46, 114, 101, 108, 97]) = false := by
  rw [named_may] at h
  simp only [Bool.and_eq_true, Bool.not_eq_true', decide_eq_false_iff_not] at h
  obtain ⟨⟨⟨⟨⟨h1, h2⟩, h3⟩, h4⟩, h5⟩, h6⟩ := h
  refine ⟨h1, by simpa using h2, beq_eq_false_iff_ne.2 h3, beq_eq_false_iff_ne.2 h4, beq_eq_false_iff_ne.2 h5, beq_eq_false_iff_ne.2 ?_⟩
  rw [ext5]
  exact h6
set_option maxHeartbeats 4000000 in
set_option maxRecDepth 100000 in
theorem refPart_ok (p : PartM) (dv0 rv av : Value) (A : List (PartM × Value × Value)) (w : World) (hd : Bs w dv0 p.data) (hv : RdR 6 encPart w av A) (hnl : p.name.length ≤ 9223372036854775807) (hfl : p.flags.length ≤ 9223372036854775807) (hcm : p.data.length ≤ 9223372036854775807) (hal : A.length ≤ 1000) (hn : namedF p.name = true) :
    Calls Tryz.prog 79 #[partV (p, dv0, rv), av] w fun e w' => e = .returned (.int .i64 (partE p (decide (p.name ∈ A.map (·.1.name))))) ∧ Below w.heap.size w w' := by
  obtain ⟨aa, ca, rfl, hcap, -, hc⟩ := hv.open (fun _ => rfl)
  have HC := Lib.hid hc
  obtain ⟨na, hna⟩ : ∃ n, n = A.length := ⟨_, rfl⟩
  rw [← hna] at hal hcap ⊢
  have HNA := Lib.hid hna
  obtain ⟨md, ad, cd, hmd, hdv, hmc, _⟩ := hd.shape
  clear hv hc hna hd
  have HM := Lib.hid (fun w => ref3May_any p.name w hnl)
  have HOR := Lib.hid (fun w => sorted17_any p.flags w hfl)
  have HHS := Lib.hid (fun w => refHas_any p.flags 110 w hfl)
  obtain ⟨f1, f2, f3, f4, f5, f6⟩ := named_facts hn
  rw [f1] at HM
  have HS : Hid (∀ there, partE p there = if namedF p.name = false then 7 else if there = true then 8 else if ordF p.flags lettersM = false then 15 else if pow2F p.align = false then 10 else if sizedF p = false then 1 else 0) := fun there => rfl
  rw [hn] at HS
  have HP2 : Hid (pow2F p.align = (decide (1 ≤ p.align) && decide (p.align ≤ 4096) && decide (p.align.toNat &&& (p.align.toNat - 1) = 0))) := rfl
  have HSZ : Hid (sizedF p = if hasF p.flags 110 = true then decide (0 ≤ p.size) && decide (p.size ≤ 1048576) && decide (md = 0) else decide (p.size = (md : Int))) := by
    have h1 := hmd.out
    have h2 : decide (p.data = []) = decide (md = 0) := by rw [Bool.eq_iff_iff, decide_eq_true_iff, decide_eq_true_iff, h1, List.length_eq_zero_iff]
    unfold sizedF
    rw [h2, h1]
    rfl
  have hmd9 : md ≤ 9223372036854775807 := by have := hmd.out; omega
  have HTH : Hid (∀ (k : Nat) (x : PartM × Value × Value), A[k]? = some x → x.1.name = p.name → decide (p.name ∈ A.map (·.1.name)) = true) := fun k x hx hq => decide_eq_true (List.mem_map.2 ⟨x, List.mem_of_getElem? hx, hq⟩)
  have HTN : Hid ((∀ (k : Nat) (x : PartM × Value × Value), k < na → A[k]? = some x → ¬ x.1.name = p.name) → decide (p.name ∈ A.map (·.1.name)) = false) := fun h => decide_eq_false fun hm => by
    obtain ⟨x, hx, hq⟩ := List.mem_map.1 hm
    obtain ⟨k, hk⟩ := List.getElem?_of_mem hx
    exact h k x (by have := (List.getElem?_eq_some_iff.1 hk).1; have := HNA.out; omega) hk hq
  generalize decide (p.name ∈ A.map (·.1.name)) = there at *
  have HQ : Hid (∃ q, q = partE p there) := ⟨_, rfl⟩
  have HS' := Lib.hid (HS.out there)
  clear HS
  generalize partE p there = q at *
  generalize sizedF p = b3 at *
  generalize hasF p.flags 110 = hf at *
  generalize ordF p.flags lettersM = b2 at *
  generalize pow2F p.align = b4 at *
  obtain ⟨name, flags, align, size, data, relas⟩ := p
  dsimp only at *
  subst hdv
  clear hn f1 HQ hnl hfl hcm hmd
  have h5 : ∀ h : name.length < 5, True := fun _ => trivial
  clear h5
  go_enter Tryz.func79, Tryz.ntmps79
  go_wp2_with (first
    | ((with_reducible show wpList _ _ _ (⟨some 2, .box _ _, _, _, _, _⟩ :: _) _ _); go_must (refine wpList_box rfl ?_; intro w1 hx1 hb1 hs1; obtain ⟨c0, c1, c2, c3, c4, c5⟩ := part_box (x := (⟨name, flags, align, size, data, relas⟩, Value.slice ad md cd, rv)) hx1; have HX1 := Lib.hid hx1; have HB1 := Lib.hid hb1; clear hx1 hb1))
    | (go_at_call 99; refine (HM.out _).mono ?_; rintro e w2 ⟨rfl, rfl⟩))
  all_goals (
    go_loopw [5] (fun i wr => ∃ k : Nat, i = .int .i64 k ∧ k ≤ na ∧ Hid (∀ (j : Nat) (x : PartM × Value × Value), j < k → A[j]? = some x → ¬ x.1.name = name) ∧ Hid (Below w1.heap.size w1 wr)) (fun i _ => na - (intOf i).toNat)
    case atStart => exact ⟨0, rfl, Nat.zero_le _, (fun j x h => by omega), Below.refl _ _⟩
    case round =>
      obtain ⟨k, rfl, hk, HNO, HW⟩ := hrel
      have HXr := Lib.hid (heap_below HW.out HX1.out)
      have HBr := Lib.hid (HB1.out.trans (HW.out.mono HB1.out.size))
      obtain ⟨d0, d1, d2, d3, d4, d5⟩ := part_box (x := (⟨name, flags, align, size, data, relas⟩, Value.slice ad md cd, rv)) HXr.out
      by_cases hlt : k < na
      · obtain ⟨x, hx⟩ : ∃ x, A[k]? = some x := ⟨_, List.getElem?_eq_getElem (by have := HNA.out; omega)⟩
        obtain ⟨b, o, rfl, e0, -, -, -, -, -, hb0⟩ := part_cells HC.out HBr.out hx
        have HX := Lib.hid hx
        have HIS := Lib.hid (fun hq : x.1.name = name => HTH.out k x hx hq)
        have HNE : Hid (¬ x.1.name = name → ∀ (j : Nat) (y : PartM × Value × Value), j < k + 1 → A[j]? = some y → ¬ y.1.name = name) := Lib.hid (fun hc j y hj hy => by
          by_cases e : j = k
          · subst e
            rw [hx, Option.some.injEq] at hy
            subst hy
            exact hc
          · exact HNO.out j y (by omega) hy)
        obtain ⟨⟨xn, xf, xa, xs, xd, xr⟩, xv, xu⟩ := x
        dsimp only at e0 HIS HNE
        clear hx
        by_cases hq : xn = name
        · have hqb : (xn == name) = true := by simpa using hq
          have HR := Lib.hid (show q = 8 by rw [HS'.out, HIS.out hq, if_neg (by simp), if_pos rfl])
          clear hq HIS HNE
          go_wp2
          go_quiet (fail)
          have HBd := Lib.hid (HBr.out.trans ((below_drewN (Below.refl _ wr) nq).mono HBr.out.size))
          generalize wr.drewN nq = wd at *
          go_wp2
          go_ret
          exact ⟨by rw [HR.out]; rfl, HBd.out⟩
        · have hqb : (xn == name) = false := by simpa using hq
          have HNX := Lib.hid (HNE.out hq)
          clear hq HIS HNE
          go_wp2
          go_quiet (fail)
          have HBd := Lib.hid (HW.out.trans ((below_drewN (Below.refl _ wr) nq).mono HW.out.size))
          generalize wr.drewN nq = wd at *
          go_wp2
          go_roundw
          case rel => exact ⟨k + 1, by go_num, by omega, HNX.out, HBd.out⟩
          case measure => simp [intOf] <;> omega
      · obtain rfl : k = na := by omega
        have HT := HTN.out HNO.out
        subst HT
        clear HTH HTN HNO
        cases b2 with
        | false =>
          go_wp2_with (first
            | (go_at_call 102; refine (HOR.out _).mono ?_; rintro e w3 ⟨rfl, hb3⟩; have HB3 := Lib.hid (HBr.out.trans (hb3.mono HBr.out.size)); have HX3 := Lib.hid (heap_below hb3 HXr.out); obtain ⟨d0, d1, d2, d3, d4, d5⟩ := part_box (x := (⟨name, flags, align, size, data, relas⟩, Value.slice ad md cd, rv)) HX3.out; clear hb3)
            | (go_at_call 82; refine (HHS.out _).mono ?_; rintro e w4 ⟨rfl, rfl⟩))
          go_ret
          exact ⟨by rw [HS'.out]; rfl, HB3.out⟩
        | true =>
          by_cases hlo : align < 1
          · have HR := Lib.hid (show b4 = false by rw [HP2.out, decide_eq_false (show ¬ 1 ≤ align by omega)]; rfl)
            clear HP2
            go_wp2_with (first
              | (go_at_call 102; refine (HOR.out _).mono ?_; rintro e w3 ⟨rfl, hb3⟩; have HB3 := Lib.hid (HBr.out.trans (hb3.mono HBr.out.size)); have HX3 := Lib.hid (heap_below hb3 HXr.out); obtain ⟨d0, d1, d2, d3, d4, d5⟩ := part_box (x := (⟨name, flags, align, size, data, relas⟩, Value.slice ad md cd, rv)) HX3.out; clear hb3)
              | (go_at_call 82; refine (HHS.out _).mono ?_; rintro e w4 ⟨rfl, rfl⟩))
            go_ret
            exact ⟨by rw [HS'.out, HR.out]; rfl, HB3.out⟩
          by_cases hhi : 4096 < align
          · have HR := Lib.hid (show b4 = false by rw [HP2.out, decide_eq_false (show ¬ align ≤ 4096 by omega)]; simp)
            clear HP2
            go_wp2_with (first
              | (go_at_call 102; refine (HOR.out _).mono ?_; rintro e w3 ⟨rfl, hb3⟩; have HB3 := Lib.hid (HBr.out.trans (hb3.mono HBr.out.size)); have HX3 := Lib.hid (heap_below hb3 HXr.out); obtain ⟨d0, d1, d2, d3, d4, d5⟩ := part_box (x := (⟨name, flags, align, size, data, relas⟩, Value.slice ad md cd, rv)) HX3.out; clear hb3)
              | (go_at_call 82; refine (HHS.out _).mono ?_; rintro e w4 ⟨rfl, rfl⟩))
            go_ret
            exact ⟨by rw [HS'.out, HR.out]; rfl, HB3.out⟩
          obtain ⟨m, rfl⟩ : ∃ m : Nat, align = (m : Int) := ⟨align.toNat, by omega⟩
          have HA := and_i64' (a := m) (by omega) (by omega)
          have HP3 : Hid (b4 = decide (m &&& (m - 1) = 0)) := by
            rw [HP2.out, decide_eq_true (show (1 : Int) ≤ (m : Int) by omega), decide_eq_true (show (m : Int) ≤ 4096 by omega)]
            rfl
          clear HP2
          generalize m &&& (m - 1) = z at *
          have hlo' : (1 : Int) ≤ (m : Int) := by omega
          have hhi' : (m : Int) ≤ 4096 := by omega
          have ht := (congrArg (fun x : Int => x != 0) HA).trans (show ((z : Int) != 0) = decide (z ≠ 0) by rw [Bool.eq_iff_iff]; simp)
          clear HA
          by_cases hz : z = 0
          · have HR := Lib.hid (show b4 = true by rw [HP3.out, decide_eq_true hz])
            simp only [hz, ne_eq, not_true_eq_false, decide_false] at ht
            clear HP3 hz
            cases hf with
            | true =>
              have HR2 := Lib.hid (show q = if (decide (0 ≤ size) && decide (size ≤ 1048576) && decide (md = 0)) = false then 1 else 0 by rw [HS'.out, HR.out, HSZ.out]; rfl)
              clear HS' HR HSZ
              go_wp2_with (first
                | (go_at_call 102; refine (HOR.out _).mono ?_; rintro e w3 ⟨rfl, hb3⟩; have HB3 := Lib.hid (HBr.out.trans (hb3.mono HBr.out.size)); have HX3 := Lib.hid (heap_below hb3 HXr.out); obtain ⟨d0, d1, d2, d3, d4, d5⟩ := part_box (x := (⟨name, flags, (m : Int), size, data, relas⟩, Value.slice ad md cd, rv)) HX3.out; clear hb3)
                | (go_at_call 82; refine (HHS.out _).mono ?_; rintro e w4 ⟨rfl, rfl⟩))
              all_goals go_ret
              all_goals refine ⟨?_, HB3.out⟩
              all_goals rw [HR2.out]
              all_goals refine ret1 (int_eq ?_)
              all_goals split
              all_goals simp_all
              all_goals omega
            | false =>
              have HR2 := Lib.hid (show q = if decide (size = (md : Int)) = false then 1 else 0 by rw [HS'.out, HR.out, HSZ.out]; rfl)
              clear HS' HR HSZ
              go_wp2_with (first
                | (go_at_call 102; refine (HOR.out _).mono ?_; rintro e w3 ⟨rfl, hb3⟩; have HB3 := Lib.hid (HBr.out.trans (hb3.mono HBr.out.size)); have HX3 := Lib.hid (heap_below hb3 HXr.out); obtain ⟨d0, d1, d2, d3, d4, d5⟩ := part_box (x := (⟨name, flags, (m : Int), size, data, relas⟩, Value.slice ad md cd, rv)) HX3.out; clear hb3)
                | (go_at_call 82; refine (HHS.out _).mono ?_; rintro e w4 ⟨rfl, rfl⟩))
              all_goals go_ret
              all_goals refine ⟨?_, HB3.out⟩
              all_goals rw [HR2.out]
              all_goals refine ret1 (int_eq ?_)
              all_goals split
              all_goals simp_all
              all_goals omega
          · have HR := Lib.hid (show b4 = false by rw [HP3.out, decide_eq_false hz])
            simp only [hz, ne_eq, not_false_eq_true, decide_true] at ht
            clear HP3
            have hzz := hz
            clear hz hzz
            go_wp2_with (first
              | (go_at_call 102; refine (HOR.out _).mono ?_; rintro e w3 ⟨rfl, hb3⟩; have HB3 := Lib.hid (HBr.out.trans (hb3.mono HBr.out.size)); have HX3 := Lib.hid (heap_below hb3 HXr.out); obtain ⟨d0, d1, d2, d3, d4, d5⟩ := part_box (x := (⟨name, flags, (m : Int), size, data, relas⟩, Value.slice ad md cd, rv)) HX3.out; clear hb3)
              | (go_at_call 82; refine (HHS.out _).mono ?_; rintro e w4 ⟨rfl, rfl⟩))
            go_ret
            exact ⟨by rw [HS'.out, HR.out]; rfl, HB3.out⟩)
end Go.Proofs.YtimnbnomaajmmaaGreat
namespace Go.Proofs.YtimnbnomaajmmaaGreat
open Go.RowKit Go.Fd
/-! ### Letters -/
/-- All lists that keep some of the letters, in their order. -/
def subsF : List UInt8 → List (List UInt8)
  | [] => [[]]
  | x :: ls => (subsF ls).map (x :: ·) ++ subsF ls
theorem ordF_subs : ∀ (ls fs : List UInt8), ordF fs ls = true → fs ∈ subsF ls := by
  intro ls
  induction ls with
  | nil =>
    intro fs h
    cases fs with
    | nil => simp [subsF]
    | cons c fs => simp [ordF] at h
  | cons x ls ih =>
    intro fs h
    cases fs with
    | nil => rw [subsF, List.mem_append]; exact .inr (ih [] (by cases ls <;> rfl))
    | cons c fs =>
      rw [ordF] at h
      rw [subsF, List.mem_append, List.mem_map]
      split at h
      · next e => exact .inl ⟨fs, ih fs h, by rw [e]⟩
      · exact .inr (ih _ h)
theorem text_bits {fs : List UInt8} (h : ordF fs lettersM = true) : textN (bitsN fs) (hasF fs 110) = fs := by
  have hall : ∀ fs ∈ subsF lettersM, textN (bitsN fs) (hasF fs 110) = fs := by decide
  exact hall fs (ordF_subs _ _ h)
theorem bits_lt (fs : List UInt8) : bitsN fs < 2048 := by
  unfold bitsN
  repeat' split
  all_goals omega
/-! ### What a part that may be is -/
theorem partE_0 {p : PartM} {b : Bool} (h : partE p b = 0) : namedF p.name = true ∧ b = false ∧ ordF p.flags lettersM = true ∧ pow2F p.align = true ∧ sizedF p = true := by
  unfold partE at h
  repeat' split at h
  all_goals first | omega | skip
  next h1 h2 h3 h4 h5 => exact ⟨by simpa using h1, by simpa using h2, by simpa using h3, by simpa using h4, by simpa using h5⟩
theorem partsE_0 : ∀ (ps : List PartM) (seen : List (List UInt8)), partsE ps seen = 0 → (∀ p ∈ ps, partE p false = 0) ∧ (ps.map (·.name)).Nodup ∧ ∀ p ∈ ps, p.name ∉ seen := by
  intro ps
  induction ps with
  | nil => intro seen _; simp
  | cons p ps ih =>
    intro seen h
    rw [partsE] at h
    split at h
    · next h0 =>
      obtain ⟨h1, h2, h3⟩ := ih _ h
      have hb := (partE_0 h0).2.1
      rw [decide_eq_false_iff_not] at hb
      refine ⟨fun q hq => ?_, ?_, fun q hq => ?_⟩
      · rcases List.mem_cons.1 hq with rfl | hq
        · rw [← h0]; congr 1; simp [hb]
        · exact h1 q hq
      · rw [List.map_cons, List.nodup_cons]
        refine ⟨fun hm => ?_, h2⟩
        obtain ⟨q, hq, he⟩ := List.mem_map.1 hm
        exact h3 q hq (by rw [he]; simp)
      · rcases List.mem_cons.1 hq with rfl | hq
        · exact hb
        · intro hs; exact h3 q hq (by simp [hs])
    · next h0 => exact absurd h h0
theorem pow2F_le {n : Int} (h : pow2F n = true) : 1 ≤ n ∧ n ≤ 4096 := by
  unfold pow2F at h
  simp only [Bool.and_eq_true, decide_eq_true_eq] at h
  exact h.1
theorem sizedF_le {p : PartM} (h : sizedF p = true) : 0 ≤ p.size ∧ (hasF p.flags 110 = true → p.size ≤ 1048576 ∧ p.data = []) ∧ (hasF p.flags 110 = false → p.size = (p.data.length : Int)) := by
  unfold sizedF at h
  split at h
  · next h0 =>
    simp only [Bool.and_eq_true, decide_eq_true_eq] at h
    exact ⟨h.1.1, fun _ => ⟨h.1.2, h.2⟩, fun e => by rw [h0] at e; cases e⟩
  · next h0 =>
    rw [decide_eq_true_eq] at h
    exact ⟨by omega, fun e => absurd e h0, fun _ => h⟩
/-! ### A section of a part tells the part -/
/-- What a module's numbers are at most. -/
structure ObjWf (o : ObjM) : Prop where
  target : -9223372036854775808 ≤ o.target ∧ o.target < 9223372036854775808
  nums : ∀ p ∈ o.parts, (-9223372036854775808 ≤ p.align ∧ p.align < 9223372036854775808) ∧ (-9223372036854775808 ≤ p.size ∧ p.size < 9223372036854775808) ∧ p.data.length < 4611686018427387904
  relas : ∀ p ∈ o.parts, p.relas.length ≤ 1000 ∧ ∀ x ∈ p.relas, x.off < 18446744073709551616 ∧ -9223372036854775808 ≤ x.add ∧ x.add < 9223372036854775808
  many : o.syms.length ≤ 1000
  syms : ∀ s ∈ o.syms, s.value < 18446744073709551616 ∧ s.size < 18446744073709551616
theorem wrap_u {x : Int} (h1 : 0 ≤ x) (h2 : x < 9223372036854775808) : wrap64 ((u64of x : Nat) : Int) = x := by
  rw [u64of_pos h1 (by omega), wrap64]; omega
theorem part_back {p : PartM} (h : partE p false = 0) (hd : p.data.length < 4611686018427387904) : partOf (secPart p) = { p with relas := [] } := by
  obtain ⟨h1, -, h3, h4, h5⟩ := partE_0 h
  have ha := pow2F_le h4
  have hs := sizedF_le h5
  unfold partOf secPart
  have hb : decide ((if hasF p.flags 110 = true then 8 else 1) = 8) = hasF p.flags 110 := by
    cases hasF p.flags 110 <;> simp
  have hsz : p.size < 9223372036854775808 := by
    cases hh : hasF p.flags 110 with
    | true => have := (hs.2.1 hh).1; omega
    | false => have := hs.2.2 hh; omega
  cases p
  dsimp only at *
  rw [hb, text_bits h3, wrap_u (by omega) (by omega), wrap_u hs.1 hsz]
theorem lkp_putN (A : List (List UInt8 × Nat)) (s : List UInt8) (n : Nat) (x : List UInt8) : lkp (putN A s n) x = if x = s then some n else lkp A x := by
  unfold putN
  split
  · next h =>
    induction A with
    | nil => simp at h
    | cons p A ih =>
      obtain ⟨q, m⟩ := p
      rw [List.map_cons]
      by_cases hq : q = s
      · subst hq
        rw [if_pos rfl, lkp_cons, lkp_cons]
        by_cases hx : x = q
        · rw [if_pos hx, if_pos hx]
        · rw [if_neg hx, if_neg hx, if_neg hx]
          -- behind it nothing that is looked for changes
          clear ih h
          induction A with
          | nil => rfl
          | cons r A ih =>
            obtain ⟨y, k⟩ := r
            rw [List.map_cons]
            dsimp only
            by_cases hy : y = q
            · subst hy; rw [if_pos rfl, lkp_cons, lkp_cons, if_neg hx, if_neg hx]; exact ih
            · rw [if_neg hy, lkp_cons, lkp_cons]
              split
              · rfl
              · exact ih
      · rw [if_neg hq, lkp_cons, lkp_cons]
        rw [List.map_cons, List.mem_cons] at h
        have h' := h.resolve_left (fun e => hq e.symm)
        rw [ih h']
        by_cases hx : x = q
        · rw [if_pos hx, if_neg (fun e => hq (hx ▸ e)), if_pos hx]
        · rw [if_neg hx, if_neg hx]
  · next h =>
    by_cases hx : x = s
    · subst hx
      rw [if_pos rfl]
      refine lkp_app ?_ n
      cases hl : lkp A x with
      | none => rfl
      | some v =>
        exfalso; apply h
        induction A with
        | nil => cases hl
        | cons r A ih =>
          obtain ⟨y, k⟩ := r
          rw [lkp_cons] at hl
          rw [List.map_cons, List.mem_cons]
          by_cases e : x = y
          · exact .inl e
          · rw [if_neg e] at hl
            rw [List.map_cons, List.mem_cons, not_or] at h
            exact .inr (ih h.2 hl)
    · rw [if_neg hx]; exact lkp_other hx _ _
theorem secPart_typ (p : PartM) : (secPart p).typ ≠ 4 := by unfold secPart; dsimp only; split <;> omega
/-! ### Sections of a module tell the module -/
def bareP (p : PartM) : PartM := { p with relas := [] }
theorem modP_parts : ∀ (ps qs : List PartM) (A : List (List UInt8 × Nat)) (R : List SecM), (∀ p ∈ ps, partE p false = 0 ∧ p.data.length < 4611686018427387904) → ((qs ++ ps).map (·.name)).Nodup → (∀ (j : Nat) (q : PartM), qs[j]? = some q → lkp A q.name = some j) →
    ∃ A', modP (ps.map secPart ++ R) qs A = modP R (qs ++ ps.map bareP) A' ∧ ∀ (j : Nat) (q : PartM), (qs ++ ps)[j]? = some q → lkp A' q.name = some j := by
  intro ps
  induction ps with
  | nil => intro qs A R _ _ h; exact ⟨A, by simp, by simpa using h⟩
  | cons p ps ih =>
    intro qs A R hp hn h
    have hb := part_back (hp p (by simp)).1 (hp p (by simp)).2
    have hnm : (bareP p).name = p.name := rfl
    have hmap : ((qs ++ [bareP p] ++ ps).map (·.name)) = ((qs ++ p :: ps).map (·.name)) := by simp [bareP]
    obtain ⟨A', e1, e2⟩ := ih (qs ++ [bareP p]) (putN A p.name qs.length) R (fun q hq => hp q (by simp [hq])) (by rw [hmap]; exact hn) (fun j q hj => by
      rw [lkp_putN]
      by_cases hlt : j < qs.length
      · rw [List.getElem?_append_left hlt] at hj
        have hne : q.name ≠ p.name := by
          intro e
          rw [List.map_append, List.nodup_append] at hn
          exact hn.2.2 q.name (List.mem_map.2 ⟨q, List.mem_of_getElem? hj, rfl⟩) p.name (by simp) e
        rw [if_neg hne]; exact h j q hj
      · rw [List.getElem?_append_right (by omega)] at hj
        have h0 : j - qs.length = 0 := by
          have := (List.getElem?_eq_some_iff.1 hj).1
          simp at this; omega
        rw [h0] at hj
        simp at hj
        rw [← hj, hnm, if_pos rfl]
        exact congrArg some (by omega))
    refine ⟨A', ?_, fun j q hj => ?_⟩
    · rw [List.map_cons, List.cons_append, modP, if_pos (secPart_typ p), show (secPart p).name = p.name from rfl, hb]
      rw [show ({ p with relas := [] } : PartM) = bareP p from rfl, e1]
      simp
    · by_cases hlt : j = qs.length
      · subst hlt
        rw [List.getElem?_append_right (by omega)] at hj
        simp at hj
        subst hj
        exact e2 qs.length (bareP p) (by simp)
      · refine e2 j q ?_
        rcases Nat.lt_or_ge j qs.length with hl | hl
        · rw [List.append_assoc, List.getElem?_append_left hl]; rwa [List.getElem?_append_left hl] at hj
        · rw [List.append_assoc, List.getElem?_append_right hl]
          rw [List.getElem?_append_right hl] at hj
          obtain ⟨m, hm⟩ : ∃ m, j - qs.length = m + 1 := ⟨j - qs.length - 1, by omega⟩
          rw [hm] at hj ⊢
          simpa using hj
theorem modR_parts : ∀ (ps qs : List PartM) (R : List SecM), (∀ p ∈ ps, partE p false = 0 ∧ p.data.length < 4611686018427387904) → modR (ps.map secPart ++ R) qs = modR R (qs ++ ps.map bareP) := by
  intro ps
  induction ps with
  | nil => intro qs R _; simp
  | cons p ps ih =>
    intro qs R hp
    have hb := part_back (hp p (by simp)).1 (hp p (by simp)).2
    rw [List.map_cons, List.cons_append, modR, if_pos (secPart_typ p), hb, ih _ _ (fun q hq => hp q (by simp [hq]))]
    rw [show ({ p with relas := [] } : PartM) = bareP p from rfl]
    simp
theorem trim_rel (n : List UInt8) : trimRel (relaN ++ n) = n := by
  unfold trimRel
  rw [if_pos (by simp [relaN])]
  simp [relaN]
theorem set_rel (qs ps : List PartM) (p : PartM) : setRel (qs ++ bareP p :: ps) qs.length p.relas = qs ++ p :: ps := by
  unfold setRel
  induction qs with
  | nil => simp [bareP]
  | cons q qs ih =>
    rw [List.cons_append, List.length_cons, List.modify_succ_cons, ih]
    rfl
theorem modP_rels (A : List (List UInt8 × Nat)) (st : Nat) : ∀ (ps qs : List PartM), (∀ p ∈ ps, relaRd (relaW p.relas).1 = (p.relas, 0)) → (∀ (j : Nat) (q : PartM), (qs ++ ps)[j]? = some q → lkp A q.name = some j) → modP (relSecs st qs.length ps) (qs ++ ps.map bareP) A = some (qs ++ ps) := by
  intro ps
  induction ps with
  | nil => intro qs _ _; simp [relSecs, modP]
  | cons p ps ih =>
    intro qs hr h
    have ih' := ih (qs ++ [p]) (fun q hq => hr q (by simp [hq])) (by simpa using h)
    rw [List.length_append, List.length_singleton, List.append_assoc, List.append_assoc] at ih'
    rw [relSecs, List.map_cons]
    by_cases hh : hasRel p = true
    · rw [if_pos hh, modP, if_neg (by simp [relSec])]
      have hl : lkp A (trimRel (relSec st qs.length p).name) = some qs.length := by
        show lkp A (trimRel (relaN ++ p.name)) = _
        rw [trim_rel]
        exact h qs.length p (by simp)
      rw [hl]
      dsimp only
      rw [show (relSec st qs.length p).data = (relaW p.relas).1 from rfl, hr p (by simp), if_neg (by simp), set_rel]
      exact ih'
    · rw [if_neg hh]
      have hb : bareP p = p := by
        unfold hasRel at hh
        simp at hh
        cases p; simp only [bareP, PartM.mk.injEq, true_and] at *; exact hh.symm
      rw [hb]
      exact ih'
theorem modR_rels (st : Nat) : ∀ (ps qs : List PartM), (∀ p ∈ ps, relaRd (relaW p.relas).1 = (p.relas, 0)) → modR (relSecs st qs.length ps) (qs ++ ps.map bareP) = some (qs ++ ps) := by
  intro ps
  induction ps with
  | nil => intro qs _; simp [relSecs, modR]
  | cons p ps ih =>
    intro qs hr
    have ih' := ih (qs ++ [p]) (fun q hq => hr q (by simp [hq]))
    rw [List.length_append, List.length_singleton, List.append_assoc, List.append_assoc] at ih'
    rw [relSecs, List.map_cons]
    by_cases hh : hasRel p = true
    · rw [if_pos hh, modR, if_neg (by simp [relSec])]
      rw [show (relSec st qs.length p).info = qs.length + 1 from rfl, if_neg (by simp)]
      rw [show (relSec st qs.length p).data = (relaW p.relas).1 from rfl, hr p (by simp), if_neg (by simp), show qs.length + 1 - 1 = qs.length from rfl, set_rel]
      exact ih'
    · rw [if_neg hh]
      have hb : bareP p = p := by
        unfold hasRel at hh
        simp at hh
        cases p; simp only [bareP, PartM.mk.injEq, true_and] at *; exact hh.symm
      rw [hb]
      exact ih'
end Go.Proofs.YtimnbnomaajmmaaGreat
namespace Go.Proofs.YtimnbnomaajmmaaGreat
open Go.RowKit Go.Fd
theorem refSized_yes (n : Int) (w : World) (h : Sized n) : Calls Tryz.prog 107 #[.int .i64 n] w fun e w' => e = .returned (.bool true) ∧ w = w' := by
  rcases h with rfl | rfl | rfl | rfl
  all_goals
    go_enter Tryz.func107, Tryz.ntmps107
    go_wp2
    go_ret
    exact ⟨rfl, rfl⟩
theorem refSized_no (n : Int) (w : World) (h : ¬ Sized n) : Calls Tryz.prog 107 #[.int .i64 n] w fun e w' => e = .returned (.bool false) ∧ w = w' := by
  unfold Sized at h
  have h1 : (n == 1) = false := beq_eq_false_iff_ne.2 (by omega)
  have h2 : (n == 2) = false := beq_eq_false_iff_ne.2 (by omega)
  have h3 : (n == 4) = false := beq_eq_false_iff_ne.2 (by omega)
  have h4 : (n == 8) = false := beq_eq_false_iff_ne.2 (by omega)
  clear h
  go_enter Tryz.func107, Tryz.ntmps107
  go_wp2
  go_ret
  exact ⟨rfl, rfl⟩
set_option maxHeartbeats 1000000 in
theorem refgetL_any (l : List UInt8) (at_ size : Int) (v : Value) (w : World) (hl : l.length ≤ 1000000000) (hv : Bs w v l) (hat : at_ < 9223372036854775808) :
    Calls Tryz.prog 98 #[v, .int .i64 at_, .int .i64 size, .bool false] w fun e w' =>
      e = .returned (.tuple #[.int .u64 (getR l at_ size false).1, .int .i64 (getR l at_ size false).2]) ∧ w = w' := by
  by_cases hs : Sized size
  · have hb1 := (sized_bounds hs).1
    have hb2 := (sized_bounds hs).2
    obtain ⟨a, cap, rfl, hcap, _, _⟩ := hv.open
    by_cases h1 : at_ < 0
    · have HR := Lib.hid (show getR l at_ size false = (0, 5) by rw [getR, if_pos hs, if_pos (.inl h1)])
      go_enter Tryz.func98, Tryz.ntmps98
      go_wp2_with (go_at_call 107; refine (refSized_yes _ _ hs).mono ?_; rintro e w' ⟨rfl, rfl⟩)
      go_ret2
      exact ⟨by rw [HR.out]; rfl, rfl⟩
    by_cases h2 : (l.length : Int) < at_
    · have HR := Lib.hid (show getR l at_ size false = (0, 5) by rw [getR, if_pos hs, if_pos (.inr h2)])
      go_enter Tryz.func98, Tryz.ntmps98
      go_wp2_with (go_at_call 107; refine (refSized_yes _ _ hs).mono ?_; rintro e w' ⟨rfl, rfl⟩)
      go_ret2
      exact ⟨by rw [HR.out]; rfl, rfl⟩
    by_cases h3 : (l.length : Int) - at_ < size
    · have HR := Lib.hid (show getR l at_ size false = (0, 2) by rw [getR, if_pos hs, if_neg (by omega), if_pos h3])
      go_enter Tryz.func98, Tryz.ntmps98
      go_wp2_with (go_at_call 107; refine (refSized_yes _ _ hs).mono ?_; rintro e w' ⟨rfl, rfl⟩)
      go_ret2
      exact ⟨by rw [HR.out]; rfl, rfl⟩
    have HR := Lib.hid (show getR l at_ size false = (numLE ((l.drop at_.toNat).take size.toNat), 0) by rw [getR, if_pos hs, if_neg (by omega), if_neg h3]; rfl)
    have HL := Lib.hid (cut_len l at_ size hs)
    obtain ⟨v', hrun, hv'⟩ := run_sliceB hv (i := at_) (j := at_ + size) (k := .i64) (k' := .i64) (by omega) (by omega) (by omega)
    rw [show at_ + size - at_ = size by omega] at hv'
    have HRUN := Lib.hid hrun
    clear hrun
    go_enter Tryz.func98, Tryz.ntmps98
    go_wp2_with (first
      | (go_at_call 107; refine (refSized_yes _ _ hs).mono ?_; rintro e w' ⟨rfl, rfl⟩)
      | (with_reducible show wpList _ _ _ (⟨some 33, _, _, _, _, _⟩ :: _) _ _; refine wpList_val rfl (exec_slice2 HRUN.out rfl rfl rfl) ?_)
      | (go_at_call 77; refine (num_any _ _ _ HL.out hv').mono ?_; rintro e w' ⟨rfl, rfl⟩))
    go_ret2
    exact ⟨by rw [HR.out]; rfl, rfl⟩
  · have HR := Lib.hid (show getR l at_ size false = (0, 1) by rw [getR, if_neg hs])
    go_enter Tryz.func98, Tryz.ntmps98
    go_wp2_with (go_at_call 107; refine (refSized_no _ _ hs).mono ?_; rintro e w' ⟨rfl, rfl⟩)
    go_ret2
    exact ⟨by rw [HR.out]; rfl, rfl⟩
theorem refUL_any (l : List UInt8) (at_ size : Int) (v : Value) (w : World) (hl : l.length ≤ 1000000000) (hv : Bs w v l) (hat : at_ < 9223372036854775808) :
    Calls Tryz.prog 66 #[v, .int .i64 at_, .int .i64 size] w fun e w' =>
      e = .returned (.tuple #[.int .u64 (getR l at_ size false).1, .int .i64 (getR l at_ size false).2]) ∧ w = w' := by
  go_enter Tryz.func66, Tryz.ntmps66
  go_wp2_with (go_at_call 98; refine (refgetL_any l at_ size v w hl hv hat).mono ?_; rintro e w1 ⟨rfl, rfl⟩)
  go_ret2
  exact ⟨rfl, rfl⟩
end Go.Proofs.YtimnbnomaajmmaaGreat
namespace Go.Proofs.YtimnbnomaajmmaaGreat
open Go.RowKit Go.Fd
theorem elf0_ok : ElfOk elf0 := ⟨⟨by decide, by decide, by decide, by decide, (fun s hs => by cases hs), (fun s hs => by cases hs)⟩, by decide, (fun s hs => by cases hs), by decide, by decide⟩
theorem wpList_litB1 {ops : Array Oper} {rest : List Oper} {Q : Exit → Act → World → Prop} {a : Act} {w : World} {d : Option Tmp} {ty : TypeId} {pos : String} {aft : Array Edge}
    (h : ∀ w1, w1.heap[w.heap.size]? = some (.cells #[.int .u8 1] 5 (0, 0)) → Below w.heap.size w w1 → w.heap.size < w1.heap.size → wpList Tryz.prog ops Q rest (a.put d (.slice (some ⟨w.heap.size, 0, none⟩) 1 1)) w1) :
    wpList Tryz.prog ops Q (⟨d, .buildSlice 22 1 #[(0, .const (.int .u8 1))], ty, pos, aft, none⟩ :: rest) a w :=
  wpList_val rfl (by kernel_rfl) (h (w.alloc (.cells #[.int .u8 1] 5)) (heap_alloc_last w _) (below_alloc w _) (by rw [World.size_alloc]; omega))
theorem wpList_oneSec {ops : Array Oper} {rest : List Oper} {Q : Exit → Act → World → Prop} {x : Operand} {s : SecM} {p : Option Addr} {m c : Nat} {a : Act} {w : World} {d : Option Tmp} {ty : TypeId} {pos : String} {aft : Array Edge} (hx : a.eval x = secV (s, .slice p m c))
    (h : ∀ w1, w1.heap[w.heap.size]? = some (.cells (encSec (s, .slice p m c)).toArray 60 (0, 0)) → Below w.heap.size w w1 → w.heap.size < w1.heap.size → wpList Tryz.prog ops Q rest (a.put d (.slice (some ⟨w.heap.size, 0, none⟩) 1 1)) w1) :
    wpList Tryz.prog ops Q (⟨d, .buildSlice 48 1 #[(0, x)], ty, pos, aft, none⟩ :: rest) a w :=
  wpList_val rfl (run_oneSec hx) (h _ (heap_alloc_last w _) (below_alloc w _) (by rw [World.size_alloc]; omega))
end Go.Proofs.YtimnbnomaajmmaaGreat
namespace Go.Proofs.YtimnbnomaajmmaaGreat
open Go.RowKit Go.Fd
theorem ref4Num_any (l : List UInt8) (at_ s : Nat) (v : Value) (w : World) (hl : l.length ≤ 1000000000) (hv : Bs w v l) (ha : at_ ≤ 1000000000) :
    Calls Tryz.prog 37 #[v, .int .i64 at_, .int .i64 s] w fun r w' => r = .returned (.int .u64 (gN l at_ s : Nat)) ∧ w = w' := by
  have HU := Lib.hid (refUL_any l at_ s v w hl hv (by omega))
  have HR : Hid (gN l at_ s = (getR l at_ s false).1) := rfl
  obtain ⟨m, ad, cap, -, rfl, _, _⟩ := hv.shape
  generalize getR l at_ s false = q at *
  obtain ⟨q1, q2⟩ := q
  dsimp only at HU HR
  clear hv
  go_enter Tryz.func37, Tryz.ntmps37
  go_wp2_with (go_at_call 66; refine HU.out.mono ?_; rintro e w' ⟨rfl, rfl⟩)
  go_ret
  exact ⟨by rw [HR.out]; rfl, rfl⟩
/-- Bytes that are in a file, in memory of their own, or none. -/
def WinRes (l : List UInt8) (a s base : Nat) (r : Ending) (w : World) : Prop := ∃ u, r = .returned (.tuple #[u, .bool (inB l a s)]) ∧ OB w base u (if inB l a s = true then (l.drop a).take s else [])
theorem WinRes.yes {l : List UInt8} {a s base : Nat} {u : Value} {w : World} (h : inB l a s = true) (ho : OB w base u ((l.drop a).take s)) : WinRes l a s base (.returned (.tuple #[u, .bool true])) w := ⟨u, by rw [h], by rw [if_pos h]; exact ho⟩
theorem WinRes.no {l : List UInt8} {a s base : Nat} {w : World} (h : inB l a s = false) : WinRes l a s base (.returned (.tuple #[.slice none 0 0, .bool false])) w := ⟨_, by rw [h], by rw [if_neg (by simp [h])]; exact OB.nil _ _⟩
set_option maxRecDepth 100000 in
theorem ref4Within_any (l : List UInt8) (a s : Nat) (v : Value) (w : World) (hl : l.length ≤ 1000000000) (hv : Bs w v l) (ha : a < 18446744073709551616) (hs : s < 18446744073709551616) :
    Calls Tryz.prog 67 #[v, .int .u64 a, .int .u64 s] w fun r w' => WinRes l a s w.heap.size r w' ∧ Below w.heap.size w w' := by
  have HV := Lib.hid hv
  obtain ⟨m, ad, cap, hm, rfl, hmc, _⟩ := hv.shape
  have hm9 : m ≤ 1000000000 := by have := hm.out; omega
  have HX := Lib.hid hs
  by_cases h1 : a ≤ m
  · by_cases h2 : s ≤ m - a
    · have HR : Hid (inB l a s = true) := by unfold inB; rw [← hm.out, decide_eq_true h1, decide_eq_true h2]; exact rfl
      obtain ⟨v', hr, hb⟩ := run_sliceB HV.out (i := (a : Int)) (j := (a : Int) + s) (k := .u64) (k' := .u64) (by omega) (by omega) (by have := hm.out; omega)
      rw [show ((a : Int) + s - a).toNat = s by omega, Int.toNat_natCast] at hb
      have HRUN := Lib.hid hr
      have HB := Lib.hid hb
      have HLN := Lib.hid (show ((l.drop a).take s).length ≤ 1000000000 by rw [List.length_take, List.length_drop]; omega)
      have h3 : (s : Int) ≤ (m : Int) - (a : Int) := by omega
      clear hr hb hv
      go_enter Tryz.func67, Tryz.ntmps67
      go_wp2_with (first
        | ((with_reducible show wpList _ _ _ (⟨some 27, _, _, _, _, _⟩ :: _) _ _); go_must (refine wpList_val rfl (exec_slice2 HRUN.out rfl rfl rfl) ?_))
        | ((with_reducible show wpList _ _ _ (⟨some 28, _, _, _, _, _⟩ :: _) _ _); go_must (refine wpList_catB (OB.nil _ w.heap.size) HB.out rfl rfl (by have := HLN.out; simp; omega) (Nat.le_refl _) ?_; intro v1 w1 hv1 _ hb1; have HV1 := Lib.hid hv1; have HB1 := Lib.hid hb1; clear hv1 hb1)))
      go_ret2
      exact ⟨WinRes.yes HR.out (by have := HV1.out; rw [List.nil_append] at this; exact this), HB1.out⟩
    · have HR : Hid (inB l a s = false) := by unfold inB; rw [← hm.out, decide_eq_true h1, decide_eq_false h2]; exact rfl
      have h3 : ¬ ((s : Int) ≤ (m : Int) - (a : Int)) := by omega
      clear hv
      go_enter Tryz.func67, Tryz.ntmps67
      go_wp2
      go_ret2
      exact ⟨WinRes.no HR.out, Below.refl _ _⟩
  · have HR : Hid (inB l a s = false) := by unfold inB; rw [← hm.out, decide_eq_false h1]; exact rfl
    clear hv
    go_enter Tryz.func67, Tryz.ntmps67
    go_wp2
    go_ret2
    exact ⟨WinRes.no HR.out, Below.refl _ _⟩
/-- All there, the sections' headers too. -/
def OkG (l : List UInt8) : Prop := OkP l ∧ gN l 40 8 + 64 * gN l 60 2 ≤ l.length
/-- Few segments and sections. -/
def FewP (l : List UInt8) : Prop := gN l 56 2 ≤ 16 ∧ gN l 60 2 ≤ 252
/-- What could be of bytes. -/
def GuRes (l : List UInt8) (target : Int) (base : Nat) (r : Ending) (w : World) : Prop :=
  ∃ b e L sv gv, r = .returned (.tuple #[elfV e sv gv, .bool b]) ∧ ElfOwn w base e L sv gv ∧ (b = true → e = parseE l target ∧ FewP l) ∧ (OkG l → b = true)
theorem _root_.Go.Proofs.YtimnbnomaajmmaaGreat.AllInv.own {w wr wn : World} {g r : Nat} {hd : List Value} {sv gv : Value} {L : List (SecM × Value)} {T : List SegM} (h : AllInv w wr g r hd sv gv L T) (hs : Stirs (fun k => k = r) wr wn) (e : ElfM) (he : e.secs = L.map (·.1)) (hg : e.segs = T) : ElfOwn wn w.heap.size e L sv gv ∧ Below w.heap.size w wn :=
  ⟨⟨he, owns_stirs h.so hs (own_ne h.so h.res (by decide)), by rw [hg]; exact owns_stirs h.go hs (own_ne h.go h.res (by decide)), fun p hp => owns_stirs (h.data p hp) hs (own_ne (h.data p hp) h.res (by decide))⟩, h.below.trans (hs.below h.below.size (fun k hk => by rw [hk]; exact h.hr))⟩
theorem _root_.Go.Proofs.YtimnbnomaajmmaaGreat.AllInv.tab {w wr w1 w2 : World} {g r : Nat} {hd : List Value} {sv gv tv : Value} {tl : List UInt8} {L : List (SecM × Value)} {T : List SegM} (h : AllInv w wr g r hd sv gv L T) (ht : OB wr w.heap.size tv tl) (hgr : wr.grownBy w1 sv.ownBlock) (hs : Stirs (fun k => k = g) w1 w2) : OB w2 w.heap.size tv tl := by
  have hblk := keeps_own h.so hgr _ _ _ _ (show 51 ≠ 60 by decide) h.blk
  have h1 : OB w1 w.heap.size tv tl := owns_grown ht hgr (fun k hk hk2 => own_apart ht h.so (by decide) hk hk2)
  exact owns_stirs h1 hs (own_ne h1 hblk (by decide))
/-- What bytes of a file come to, in a region. -/
def YW (b : Bool) (B : Nat) (d : List UInt8) : Yld := ⟨Value, undef, fun u => .tuple #[u, .bool b], fun u w => OB w B u (if b = true then d else []), fun _ _ _ h hb => h.mono hb⟩
theorem YW_got {b : Bool} {B : Nat} {d : List UInt8} {u : Value} {w : World} (h : (YW b B d).R (.tuple #[u, .bool b]) w) : OB w B u (if b = true then d else []) := by
  obtain ⟨(x : Value), e, hr⟩ := h
  have : u = x := by
    have e1 := congrArg (fun v : Value => match v with | .tuple c => c[0]? | _ => none) e
    have e2 : some u = some x := e1
    injection e2
  subst this
  exact hr
theorem YW_mk {b c : Bool} {B : Nat} {d : List UInt8} {u : Value} {w : World} (h : OB w B u (if c = true then d else [])) (hc : c = b) : (YW b B d).R (.tuple #[u, .bool b]) w := ⟨u, rfl, by subst hc; exact h⟩
theorem GuRes.no {l : List UInt8} {target : Int} {base : Nat} {w : World} {e : ElfM} {L : List (SecM × Value)} {sv gv : Value} (h : ElfOwn w base e L sv gv) (hn : ¬ OkG l) : GuRes l target base (.returned (.tuple #[elfV e sv gv, .bool false])) w :=
  ⟨false, e, L, sv, gv, rfl, h, (fun h => by cases h), fun h => absurd h hn⟩
theorem GuRes.yes {l : List UInt8} {target : Int} {base : Nat} {w : World} {e : ElfM} {L : List (SecM × Value)} {sv gv : Value} (h : ElfOwn w base e L sv gv) (he : e = parseE l target) (hf : FewP l) : GuRes l target base (.returned (.tuple #[elfV e sv gv, .bool true])) w :=
  ⟨true, e, L, sv, gv, rfl, h, (fun _ => ⟨he, hf⟩), fun _ => rfl⟩
attribute [local irreducible] gN okB inB atR segOk secOk segP secP tabP walk
set_option maxHeartbeats 8000000 in
set_option maxRecDepth 100000 in
theorem ref4Guess_any (l : List UInt8) (target : Int) (v : Value) (w : World) (hl : l.length ≤ 4194304) (hv : Bs w v l) :
    Calls Tryz.prog 38 #[v, .int .i64 target] w fun r w' => GuRes l target w.heap.size r w' ∧ Below w.heap.size w w' := by
  have HV := Lib.hid hv
  obtain ⟨m, ad, cap, hm, rfl, _, _⟩ := hv.shape
  have HL9 := Lib.hid (show l.length ≤ 1000000000 by omega)
  have hm9 : m ≤ 4194304 := by have := hm.out; omega
  have HU16 : Hid (∀ wx, Below w.heap.size w wx → Calls Tryz.prog 37 #[.slice ad m cap, .int .i64 16, .int .i64 2] wx fun r w' => r = .returned (.int .u64 (gN l 16 2 : Nat)) ∧ wx = w') := Lib.hid (fun wx hwx => ref4Num_any l 16 2 _ wx HL9.out (HV.out.mono hwx) (by omega))
  have HU48 : Hid (∀ wx, Below w.heap.size w wx → Calls Tryz.prog 37 #[.slice ad m cap, .int .i64 48, .int .i64 4] wx fun r w' => r = .returned (.int .u64 (gN l 48 4 : Nat)) ∧ wx = w') := Lib.hid (fun wx hwx => ref4Num_any l 48 4 _ wx HL9.out (HV.out.mono hwx) (by omega))
  have HU24 : Hid (∀ wx, Below w.heap.size w wx → Calls Tryz.prog 37 #[.slice ad m cap, .int .i64 24, .int .i64 8] wx fun r w' => r = .returned (.int .u64 (gN l 24 8 : Nat)) ∧ wx = w') := Lib.hid (fun wx hwx => ref4Num_any l 24 8 _ wx HL9.out (HV.out.mono hwx) (by omega))
  have HU56 : Hid (∀ wx, Below w.heap.size w wx → Calls Tryz.prog 37 #[.slice ad m cap, .int .i64 56, .int .i64 2] wx fun r w' => r = .returned (.int .u64 (gN l 56 2 : Nat)) ∧ wx = w') := Lib.hid (fun wx hwx => ref4Num_any l 56 2 _ wx HL9.out (HV.out.mono hwx) (by omega))
  have HU60 : Hid (∀ wx, Below w.heap.size w wx → Calls Tryz.prog 37 #[.slice ad m cap, .int .i64 60, .int .i64 2] wx fun r w' => r = .returned (.int .u64 (gN l 60 2 : Nat)) ∧ wx = w') := Lib.hid (fun wx hwx => ref4Num_any l 60 2 _ wx HL9.out (HV.out.mono hwx) (by omega))
  have HU40 : Hid (∀ wx, Below w.heap.size w wx → Calls Tryz.prog 37 #[.slice ad m cap, .int .i64 40, .int .i64 8] wx fun r w' => r = .returned (.int .u64 (gN l 40 8 : Nat)) ∧ wx = w') := Lib.hid (fun wx hwx => ref4Num_any l 40 8 _ wx HL9.out (HV.out.mono hwx) (by omega))
  have HN1 := Lib.hid (fun h : OkG l => h.1.n1)
  have HN2 := Lib.hid (fun h : OkG l => h.1.n2)
  have HN3 := Lib.hid (fun h : OkG l => h.1.n3)
  have HNH := Lib.hid (fun h : OkG l => h.1.heads)
  have HNG := Lib.hid (fun h : OkG l => h.2)
  have HTB := Lib.hid (fun h : OkG l => h.1.tab)
  have HNC := Lib.hid (fun h : OkG l => h.1.secs)
  have b16 := gN2 l 16
  have b48 := gN4 l 48
  have HB24 := Lib.hid (gN8 l 24)
  have b56 := gN2 l 56
  have b60 := gN2 l 60
  have HB40 := Lib.hid (gN8 l 40)
  have HPE : Hid (parseE l target = ⟨(gN l 16 2 : Nat), target, gN l 48 4, gN l 24 8, secsP l (gN l 60 2 - 2), segsP l (gN l 56 2)⟩) := rfl
  clear hv
  go_enter Tryz.func38, Tryz.ntmps38
  go_wp2_with (first
    | ((with_reducible show wpList _ _ _ (⟨some 4, .alloc _, _, _, _, _⟩ :: _) _ _); go_must (refine wpList_allocElf ?_; intro w1 hx1 hb1 hs1; have HX1 := Lib.hid hx1; have HB1 := Lib.hid hb1; clear hx1 hb1))
    | (go_at_call 37; (with_reducible refine (HU16.out _ HB1.out).mono ?_); rintro e wu ⟨rfl, rfl⟩)
    | (go_at_call 37; (with_reducible refine (HU48.out _ HB1.out).mono ?_); rintro e wu ⟨rfl, rfl⟩)
    | (go_at_call 37; (with_reducible refine (HU24.out _ HB1.out).mono ?_); rintro e wu ⟨rfl, rfl⟩)
    | ((with_reducible show wpList _ _ _ (⟨some 6, .alloc _, _, _, _, _⟩ :: _) _ _); go_must (refine wpList_allocElf ?_; intro w2 hx2 hb2 hs2; have HX2 := Lib.hid hx2; have HX12 := Lib.hid (heap_below hb2 HX1.out); have HB2 := Lib.hid (HB1.out.trans (hb2.mono HB1.out.size)); clear hx2 hb2))
    | ((with_reducible show wpList _ _ _ (⟨none, .store _ (.tmp 6) _, _, _, _, _⟩ :: _) _ _); go_must (refine wpList_storeElfS HX2.out rfl rfl rfl rfl (by simp [Value.oneCell']) ?_; intro w3 hh3 hs3; have HH3 := Lib.hid hh3; have HX13 := Lib.hid (hs3.kept HX12.out (show ¬ w.heap.size = w1.heap.size by omega)); have HB3 := Lib.hid (HB2.out.trans (hs3.below HB2.out.size (fun j hj => by rw [hj]; exact HB1.out.size))); clear hh3 hs3))
    | (go_at_call 37; (with_reducible refine (HU56.out _ HB3.out).mono ?_); rintro e wu ⟨rfl, rfl⟩)
    | (go_at_call 37; (with_reducible refine (HU60.out _ HB3.out).mono ?_); rintro e wu ⟨rfl, rfl⟩))
  have HI0 : Hid (AllInv w w3 w1.heap.size w.heap.size [.int .i64 (gN l 16 2 : Nat), .int .i64 target, .int .u32 (gN l 48 4 : Nat), .int .u64 (gN l 24 8 : Nat)] (.slice none 0 0) (.slice none 0 0) [] []) := ⟨HH3.out, HX13.out, OwR.nil _ _ _ _ _, OwR.nil _ _ _ _ _, (fun p hp => by cases hp), HB3.out, HB1.out.size, Nat.le_refl _, by omega⟩
  clear HX1 HX2 HX12 HX13 HH3 HB1 HB2 hs1 hs2
  rcases Nat.lt_or_ge 16 (gN l 56 2) with hA1 | hA1
  · have HNO : Hid (¬ OkG l) := Lib.hid (fun h => by have h1 := HN1.out h; have h2 := hm.out; omega)
    clear HN1 HN2 HN3 HNH HNG HTB HNC
    have d0 := cell_rec HI0.out.blk 0
    have d1 := cell_rec HI0.out.blk 1
    have d2 := cell_rec HI0.out.blk 2
    have d3 := cell_rec HI0.out.blk 3
    have d4 := cell_rec HI0.out.blk 4
    have d5 := cell_rec HI0.out.blk 5
    simp only [List.getElem?_toArray, List.cons_append, List.nil_append, List.getElem?_cons_zero, List.getElem?_cons_succ] at d0 d1 d2 d3 d4 d5
    go_wp2_with (first | (go_at_call 37; (with_reducible refine (HU40.out _ HB3.out).mono ?_); rintro e wu ⟨rfl, rfl⟩) | ((with_reducible show wpList _ _ _ (⟨none, .store _ (.tmp 4) _, _, _, _, _⟩ :: _) _ _); go_must (refine wpList_storeElfS HI0.out.res rfl rfl rfl rfl (by simp [Value.oneCell']) ?_; intro wn hhn hsn; have HE := Lib.hid (AllInv.own HI0.out hsn ⟨(gN l 16 2 : Nat), target, gN l 48 4, gN l 24 8, ([] : List (SecM × Value)).map (·.1), ([] : List SegM)⟩ rfl rfl); have f0 := cell_rec hhn 0; have f1 := cell_rec hhn 1; have f2 := cell_rec hhn 2; have f3 := cell_rec hhn 3; have f4 := cell_rec hhn 4; have f5 := cell_rec hhn 5; clear hhn hsn d0 d1 d2 d3 d4 d5)))
    simp only [List.getElem?_toArray, List.getElem?_cons_zero, List.getElem?_cons_succ] at f0 f1 f2 f3 f4 f5
    exact bodyPost_ret (v := .tuple #[elfV ⟨(gN l 16 2 : Nat), target, gN l 48 4, gN l 24 8, ([] : List (SecM × Value)).map (·.1), ([] : List SegM)⟩ (.slice none 0 0) (.slice none 0 0), .bool false]) (by simp [results, Tryz.results38, go_sem, elfV, f0, f1, f2, f3, f4, f5]) rfl ⟨GuRes.no HE.out.1 HNO.out, HE.out.2⟩
  rcases Nat.lt_or_ge (gN l 60 2) 2 with hA2 | hA2
  · have HNO : Hid (¬ OkG l) := Lib.hid (fun h => by have h1 := HN2.out h; have h2 := hm.out; omega)
    clear HN1 HN2 HN3 HNH HNG HTB HNC
    have d0 := cell_rec HI0.out.blk 0
    have d1 := cell_rec HI0.out.blk 1
    have d2 := cell_rec HI0.out.blk 2
    have d3 := cell_rec HI0.out.blk 3
    have d4 := cell_rec HI0.out.blk 4
    have d5 := cell_rec HI0.out.blk 5
    simp only [List.getElem?_toArray, List.cons_append, List.nil_append, List.getElem?_cons_zero, List.getElem?_cons_succ] at d0 d1 d2 d3 d4 d5
    go_wp2_with (first | (go_at_call 37; (with_reducible refine (HU40.out _ HB3.out).mono ?_); rintro e wu ⟨rfl, rfl⟩) | ((with_reducible show wpList _ _ _ (⟨none, .store _ (.tmp 4) _, _, _, _, _⟩ :: _) _ _); go_must (refine wpList_storeElfS HI0.out.res rfl rfl rfl rfl (by simp [Value.oneCell']) ?_; intro wn hhn hsn; have HE := Lib.hid (AllInv.own HI0.out hsn ⟨(gN l 16 2 : Nat), target, gN l 48 4, gN l 24 8, ([] : List (SecM × Value)).map (·.1), ([] : List SegM)⟩ rfl rfl); have f0 := cell_rec hhn 0; have f1 := cell_rec hhn 1; have f2 := cell_rec hhn 2; have f3 := cell_rec hhn 3; have f4 := cell_rec hhn 4; have f5 := cell_rec hhn 5; clear hhn hsn d0 d1 d2 d3 d4 d5)))
    simp only [List.getElem?_toArray, List.getElem?_cons_zero, List.getElem?_cons_succ] at f0 f1 f2 f3 f4 f5
    exact bodyPost_ret (v := .tuple #[elfV ⟨(gN l 16 2 : Nat), target, gN l 48 4, gN l 24 8, ([] : List (SecM × Value)).map (·.1), ([] : List SegM)⟩ (.slice none 0 0) (.slice none 0 0), .bool false]) (by simp [results, Tryz.results38, go_sem, elfV, f0, f1, f2, f3, f4, f5]) rfl ⟨GuRes.no HE.out.1 HNO.out, HE.out.2⟩
  rcases Nat.lt_or_ge 252 (gN l 60 2) with hA3 | hA3
  · have HNO : Hid (¬ OkG l) := Lib.hid (fun h => by have h1 := HN3.out h; have h2 := hm.out; omega)
    clear HN1 HN2 HN3 HNH HNG HTB HNC
    have d0 := cell_rec HI0.out.blk 0
    have d1 := cell_rec HI0.out.blk 1
    have d2 := cell_rec HI0.out.blk 2
    have d3 := cell_rec HI0.out.blk 3
    have d4 := cell_rec HI0.out.blk 4
    have d5 := cell_rec HI0.out.blk 5
    simp only [List.getElem?_toArray, List.cons_append, List.nil_append, List.getElem?_cons_zero, List.getElem?_cons_succ] at d0 d1 d2 d3 d4 d5
    go_wp2_with (first | (go_at_call 37; (with_reducible refine (HU40.out _ HB3.out).mono ?_); rintro e wu ⟨rfl, rfl⟩) | ((with_reducible show wpList _ _ _ (⟨none, .store _ (.tmp 4) _, _, _, _, _⟩ :: _) _ _); go_must (refine wpList_storeElfS HI0.out.res rfl rfl rfl rfl (by simp [Value.oneCell']) ?_; intro wn hhn hsn; have HE := Lib.hid (AllInv.own HI0.out hsn ⟨(gN l 16 2 : Nat), target, gN l 48 4, gN l 24 8, ([] : List (SecM × Value)).map (·.1), ([] : List SegM)⟩ rfl rfl); have f0 := cell_rec hhn 0; have f1 := cell_rec hhn 1; have f2 := cell_rec hhn 2; have f3 := cell_rec hhn 3; have f4 := cell_rec hhn 4; have f5 := cell_rec hhn 5; clear hhn hsn d0 d1 d2 d3 d4 d5)))
    simp only [List.getElem?_toArray, List.getElem?_cons_zero, List.getElem?_cons_succ] at f0 f1 f2 f3 f4 f5
    exact bodyPost_ret (v := .tuple #[elfV ⟨(gN l 16 2 : Nat), target, gN l 48 4, gN l 24 8, ([] : List (SecM × Value)).map (·.1), ([] : List SegM)⟩ (.slice none 0 0) (.slice none 0 0), .bool false]) (by simp [results, Tryz.results38, go_sem, elfV, f0, f1, f2, f3, f4, f5]) rfl ⟨GuRes.no HE.out.1 HNO.out, HE.out.2⟩
  rcases Nat.lt_or_ge m (gN l 40 8) with hA4 | hA4
  · have HNO : Hid (¬ OkG l) := Lib.hid (fun h => by have h1 := HNH.out h; have h2 := hm.out; omega)
    clear HN1 HN2 HN3 HNH HNG HTB HNC
    have hb40 := HB40.out
    have d0 := cell_rec HI0.out.blk 0
    have d1 := cell_rec HI0.out.blk 1
    have d2 := cell_rec HI0.out.blk 2
    have d3 := cell_rec HI0.out.blk 3
    have d4 := cell_rec HI0.out.blk 4
    have d5 := cell_rec HI0.out.blk 5
    simp only [List.getElem?_toArray, List.cons_append, List.nil_append, List.getElem?_cons_zero, List.getElem?_cons_succ] at d0 d1 d2 d3 d4 d5
    go_wp2_with (first | (go_at_call 37; (with_reducible refine (HU40.out _ HB3.out).mono ?_); rintro e wu ⟨rfl, rfl⟩) | ((with_reducible show wpList _ _ _ (⟨none, .store _ (.tmp 4) _, _, _, _, _⟩ :: _) _ _); go_must (refine wpList_storeElfS HI0.out.res rfl rfl rfl rfl (by simp [Value.oneCell']) ?_; intro wn hhn hsn; have HE := Lib.hid (AllInv.own HI0.out hsn ⟨(gN l 16 2 : Nat), target, gN l 48 4, gN l 24 8, ([] : List (SecM × Value)).map (·.1), ([] : List SegM)⟩ rfl rfl); have f0 := cell_rec hhn 0; have f1 := cell_rec hhn 1; have f2 := cell_rec hhn 2; have f3 := cell_rec hhn 3; have f4 := cell_rec hhn 4; have f5 := cell_rec hhn 5; clear hhn hsn d0 d1 d2 d3 d4 d5)))
    simp only [List.getElem?_toArray, List.getElem?_cons_zero, List.getElem?_cons_succ] at f0 f1 f2 f3 f4 f5
    exact bodyPost_ret (v := .tuple #[elfV ⟨(gN l 16 2 : Nat), target, gN l 48 4, gN l 24 8, ([] : List (SecM × Value)).map (·.1), ([] : List SegM)⟩ (.slice none 0 0) (.slice none 0 0), .bool false]) (by simp [results, Tryz.results38, go_sem, elfV, f0, f1, f2, f3, f4, f5]) rfl ⟨GuRes.no HE.out.1 HNO.out, HE.out.2⟩
  rcases Nat.lt_or_ge m (gN l 40 8 + 64 * gN l 60 2) with hA5 | hA5
  · have HNO : Hid (¬ OkG l) := Lib.hid (fun h => by have h1 := HNG.out h; have h2 := hm.out; omega)
    clear HN1 HN2 HN3 HNH HNG HTB HNC
    have d0 := cell_rec HI0.out.blk 0
    have d1 := cell_rec HI0.out.blk 1
    have d2 := cell_rec HI0.out.blk 2
    have d3 := cell_rec HI0.out.blk 3
    have d4 := cell_rec HI0.out.blk 4
    have d5 := cell_rec HI0.out.blk 5
    simp only [List.getElem?_toArray, List.cons_append, List.nil_append, List.getElem?_cons_zero, List.getElem?_cons_succ] at d0 d1 d2 d3 d4 d5
    go_wp2_with (first | (go_at_call 37; (with_reducible refine (HU40.out _ HB3.out).mono ?_); rintro e wu ⟨rfl, rfl⟩) | ((with_reducible show wpList _ _ _ (⟨none, .store _ (.tmp 4) _, _, _, _, _⟩ :: _) _ _); go_must (refine wpList_storeElfS HI0.out.res rfl rfl rfl rfl (by simp [Value.oneCell']) ?_; intro wn hhn hsn; have HE := Lib.hid (AllInv.own HI0.out hsn ⟨(gN l 16 2 : Nat), target, gN l 48 4, gN l 24 8, ([] : List (SecM × Value)).map (·.1), ([] : List SegM)⟩ rfl rfl); have f0 := cell_rec hhn 0; have f1 := cell_rec hhn 1; have f2 := cell_rec hhn 2; have f3 := cell_rec hhn 3; have f4 := cell_rec hhn 4; have f5 := cell_rec hhn 5; clear hhn hsn d0 d1 d2 d3 d4 d5)))
    simp only [List.getElem?_toArray, List.getElem?_cons_zero, List.getElem?_cons_succ] at f0 f1 f2 f3 f4 f5
    exact bodyPost_ret (v := .tuple #[elfV ⟨(gN l 16 2 : Nat), target, gN l 48 4, gN l 24 8, ([] : List (SecM × Value)).map (·.1), ([] : List SegM)⟩ (.slice none 0 0) (.slice none 0 0), .bool false]) (by simp [results, Tryz.results38, go_sem, elfV, f0, f1, f2, f3, f4, f5]) rfl ⟨GuRes.no HE.out.1 HNO.out, HE.out.2⟩
  obtain ⟨k2, hk2⟩ : ∃ k2, gN l 60 2 = k2 + 2 := ⟨gN l 60 2 - 2, by omega⟩
  have hk9 : k2 ≤ 250 := by omega
  have hA6 : gN l 40 8 + 64 * (k2 + 2) ≤ m := by omega
  have HFEW : Hid (FewP l) := Lib.hid ⟨hA1, hA3⟩
  have E60 : Hid (nsecsP l = k2) := Lib.hid (by show gN l 60 2 - 2 = k2; omega)
  have HPE2 : Hid (parseE l target = ⟨(gN l 16 2 : Nat), target, gN l 48 4, gN l 24 8, secsP l k2, segsP l (gN l 56 2)⟩) := Lib.hid (by rw [HPE.out, hk2]; rfl)
  clear hA2 hA3 HPE
  generalize hn60 : gN l 60 2 = n60 at *
  clear hn60
  subst hk2
  rw [show ((k2 + 2 : Nat) : Int) = (k2 : Int) + 2 from rfl]
  have d1 : decide ((16 : Int) < ((gN l 56 2 : Nat) : Int)) = false := decide_eq_false (by omega)
  have d2 : decide ((k2 : Int) + 2 < 2) = false := decide_eq_false (by omega)
  have d3 : decide ((252 : Int) < (k2 : Int) + 2) = false := decide_eq_false (by omega)
  have d4 : decide (m < gN l 40 8) = false := decide_eq_false (by omega)
  have d5 : decide ((m : Int) < ((gN l 40 8 : Nat) : Int) + 64 * ((k2 : Int) + 2)) = false := decide_eq_false (by omega)
  go_wp2_with (go_at_call 37; (with_reducible refine (HU40.out _ HB3.out).mono ?_); rintro e wu ⟨rfl, rfl⟩)
  clear d1 d2 d3 d4 d5
  generalize hns : gN l 56 2 = ns at *
  clear hns
  go_loopw [10, 11] (fun i _ wr => ∃ (k : Nat) (q : Option Addr) (n r : Nat), i = .int .i64 k ∧ k ≤ ns ∧ Hid (AllInv w wr w1.heap.size w.heap.size [.int .i64 (gN l 16 2 : Nat), .int .i64 target, .int .u32 (gN l 48 4 : Nat), .int .u64 (gN l 24 8 : Nat)] (.slice none 0 0) (.slice q n r) [] (segsP l k))) (fun i _ _ => ns - (intOf i).toNat)
  case atStart => exact ⟨0, none, 0, 0, rfl, Nat.zero_le _, HI0⟩
  case round =>
    obtain ⟨k, q, n, r, rfl, hk, HI⟩ := hrel
    have HB := Lib.hid HI.out.below
    by_cases hlt : k < ns
    · have e5 : wr.cell? ⟨w1.heap.size, 5, none⟩ = some (.slice q n r) := cell_rec HI.out.blk 5
      have hAB := fun (x : Above wr) (b k : Nat) (h : b < wr.heap.size) => Above.cell x b k h
      have l1 := block_lt e5
      have HSS := Lib.hid (segsP_succ l k)
      have HSL := Lib.hid (segsP_len l k)
      obtain ⟨a, haN⟩ : ∃ a : Nat, a = 64 + 56 * k := ⟨_, rfl⟩
      have HA := Lib.hid haN
      have ha9 : a ≤ 10000 := by omega
      have HaI : Hid ((64 : Int) + 56 * (k : Int) = (a : Int)) := Lib.hid (by omega)
      clear haN
      go_wp2
      have haI := HaI.out
      have HUs0 : Hid (∀ wx (_ : Below wr.heap.size wr wx), Calls Tryz.prog 37 #[.slice ad m cap, .int .i64 ((a : Int)), .int .i64 4] wx fun r w' => r = .returned (.int .u64 (gN l a 4 : Nat)) ∧ wx = w') := Lib.hid (fun wx hwx => ref4Num_any l a 4 _ wx HL9.out (HV.out.mono (HB.out.trans (hwx.mono HB.out.size))) (by omega))
      have HUs4 : Hid (∀ wx (_ : Below wr.heap.size wr wx), Calls Tryz.prog 37 #[.slice ad m cap, .int .i64 ((a : Int) + 4), .int .i64 4] wx fun r w' => r = .returned (.int .u64 (gN l (a + 4) 4 : Nat)) ∧ wx = w') := Lib.hid (fun wx hwx => ref4Num_any l (a + 4) 4 _ wx HL9.out (HV.out.mono (HB.out.trans (hwx.mono HB.out.size))) (by omega))
      have HUs8 : Hid (∀ wx (_ : Below wr.heap.size wr wx), Calls Tryz.prog 37 #[.slice ad m cap, .int .i64 ((a : Int) + 8), .int .i64 8] wx fun r w' => r = .returned (.int .u64 (gN l (a + 8) 8 : Nat)) ∧ wx = w') := Lib.hid (fun wx hwx => ref4Num_any l (a + 8) 8 _ wx HL9.out (HV.out.mono (HB.out.trans (hwx.mono HB.out.size))) (by omega))
      have HUs16 : Hid (∀ wx (_ : Below wr.heap.size wr wx), Calls Tryz.prog 37 #[.slice ad m cap, .int .i64 ((a : Int) + 16), .int .i64 8] wx fun r w' => r = .returned (.int .u64 (gN l (a + 16) 8 : Nat)) ∧ wx = w') := Lib.hid (fun wx hwx => ref4Num_any l (a + 16) 8 _ wx HL9.out (HV.out.mono (HB.out.trans (hwx.mono HB.out.size))) (by omega))
      have HUs32 : Hid (∀ wx (_ : Below wr.heap.size wr wx), Calls Tryz.prog 37 #[.slice ad m cap, .int .i64 ((a : Int) + 32), .int .i64 8] wx fun r w' => r = .returned (.int .u64 (gN l (a + 32) 8 : Nat)) ∧ wx = w') := Lib.hid (fun wx hwx => ref4Num_any l (a + 32) 8 _ wx HL9.out (HV.out.mono (HB.out.trans (hwx.mono HB.out.size))) (by omega))
      have HUs40 : Hid (∀ wx (_ : Below wr.heap.size wr wx), Calls Tryz.prog 37 #[.slice ad m cap, .int .i64 ((a : Int) + 40), .int .i64 8] wx fun r w' => r = .returned (.int .u64 (gN l (a + 40) 8 : Nat)) ∧ wx = w') := Lib.hid (fun wx hwx => ref4Num_any l (a + 40) 8 _ wx HL9.out (HV.out.mono (HB.out.trans (hwx.mono HB.out.size))) (by omega))
      have HUs48 : Hid (∀ wx (_ : Below wr.heap.size wr wx), Calls Tryz.prog 37 #[.slice ad m cap, .int .i64 ((a : Int) + 48), .int .i64 8] wx fun r w' => r = .returned (.int .u64 (gN l (a + 48) 8 : Nat)) ∧ wx = w') := Lib.hid (fun wx hwx => ref4Num_any l (a + 48) 8 _ wx HL9.out (HV.out.mono (HB.out.trans (hwx.mono HB.out.size))) (by omega))
      have v0 := gN4 l a
      have v4 := gN4 l (a + 4)
      have HSG : Hid (segP l (64 + 56 * k) = ⟨gN l a 4, gN l (a + 4) 4, gN l (a + 8) 8, gN l (a + 16) 8, gN l (a + 32) 8, gN l (a + 40) 8, gN l (a + 48) 8⟩) := Lib.hid (by rw [← HA.out]; unfold segP; rfl)
      have hw4 : IntKind.i64.wrap ((a : Int) + 4) = (a : Int) + 4 := by have := i64_small (n := a + 4) (by omega); simpa using this
      have hw8 : IntKind.i64.wrap ((a : Int) + 8) = (a : Int) + 8 := by have := i64_small (n := a + 8) (by omega); simpa using this
      have hw16 : IntKind.i64.wrap ((a : Int) + 16) = (a : Int) + 16 := by have := i64_small (n := a + 16) (by omega); simpa using this
      have hw32 : IntKind.i64.wrap ((a : Int) + 32) = (a : Int) + 32 := by have := i64_small (n := a + 32) (by omega); simpa using this
      have hw40 : IntKind.i64.wrap ((a : Int) + 40) = (a : Int) + 40 := by have := i64_small (n := a + 40) (by omega); simpa using this
      have hw48 : IntKind.i64.wrap ((a : Int) + 48) = (a : Int) + 48 := by have := i64_small (n := a + 48) (by omega); simpa using this
      rw [haI]
      refine wp_region_walk 33 [(4, .is (.int .u64 (gN l a 4 : Nat))), (9, .is (.int .u64 (gN l (a + 4) 4 : Nat))), (14, .is (.int .u64 (gN l (a + 8) 8 : Nat))), (18, .is (.int .u64 (gN l (a + 16) 8 : Nat))), (22, .is (.int .u64 (gN l (a + 32) 8 : Nat))), (26, .is (.int .u64 (gN l (a + 40) 8 : Nat))), (30, .is (.int .u64 (gN l (a + 48) 8 : Nat))), (32, Yld.one wr.heap.size 105 (encSeg ⟨gN l a 4, gN l (a + 4) 4, gN l (a + 8) 8, gN l (a + 16) 8, gN l (a + 32) 8, gN l (a + 40) 8, gN l (a + 48) 8⟩).toArray)] (by kernel_rfl) (by kernel_rfl) ?_
      simp only [List.take_succ_cons, List.take_zero, List.drop_succ_cons, List.drop_zero]
      repeat (refine walk_quiet rfl rfl rfl ?_; intro K hK; go_big_quiet_op; go_big_quiet_on)
      refine walk_is rfl rfl (fun wx hwx _ => WpYld.callIs (run_callL (vals := [_, _, _]) Tryz.func37 (by kernel_rfl) rfl rfl) (HUs0.out wx hwx)) ?_
      go_frame
      repeat (refine walk_quiet rfl rfl rfl ?_; intro K hK; go_big_quiet_op; go_big_quiet_on)
      refine walk_is rfl rfl (fun wx hwx _ => WpYld.callIs (run_callL (vals := [_, _, _]) Tryz.func37 (by kernel_rfl) rfl rfl) (HUs4.out wx hwx)) ?_
      go_frame
      repeat (refine walk_quiet rfl rfl rfl ?_; intro K hK; go_big_quiet_op; go_big_quiet_on)
      refine walk_is rfl rfl (fun wx hwx _ => WpYld.callIs (run_callL (vals := [_, _, _]) Tryz.func37 (by kernel_rfl) rfl rfl) (HUs8.out wx hwx)) ?_
      go_frame
      repeat (refine walk_quiet rfl rfl rfl ?_; intro K hK; go_big_quiet_op; go_big_quiet_on)
      refine walk_is rfl rfl (fun wx hwx _ => WpYld.callIs (run_callL (vals := [_, _, _]) Tryz.func37 (by kernel_rfl) rfl rfl) (HUs16.out wx hwx)) ?_
      go_frame
      repeat (refine walk_quiet rfl rfl rfl ?_; intro K hK; go_big_quiet_op; go_big_quiet_on)
      refine walk_is rfl rfl (fun wx hwx _ => WpYld.callIs (run_callL (vals := [_, _, _]) Tryz.func37 (by kernel_rfl) rfl rfl) (HUs32.out wx hwx)) ?_
      go_frame
      repeat (refine walk_quiet rfl rfl rfl ?_; intro K hK; go_big_quiet_op; go_big_quiet_on)
      refine walk_is rfl rfl (fun wx hwx _ => WpYld.callIs (run_callL (vals := [_, _, _]) Tryz.func37 (by kernel_rfl) rfl rfl) (HUs40.out wx hwx)) ?_
      go_frame
      repeat (refine walk_quiet rfl rfl rfl ?_; intro K hK; go_big_quiet_op; go_big_quiet_on)
      refine walk_is rfl rfl (fun wx hwx _ => WpYld.callIs (run_callL (vals := [_, _, _]) Tryz.func37 (by kernel_rfl) rfl rfl) (HUs48.out wx hwx)) ?_
      go_frame
      repeat (refine walk_quiet rfl rfl rfl ?_; intro K hK; go_big_quiet_op; go_big_quiet_on)
      refine walk_one rfl rfl (fun wx hwx _ => WpYld.val (run_oneSeg (s := ⟨gN l a 4, gN l (a + 4) 4, gN l (a + 8) 8, gN l (a + 16) 8, gN l (a + 32) 8, gN l (a + 40) 8, gN l (a + 48) 8⟩) rfl) (Yld.one_mk _ hwx).1 (Yld.one_mk _ hwx).2) (fun gb => ?_)
      go_frame
      refine walk_nil ?_
      intro wz hbz hF
      have HGB := Lib.hid (Yld.one_got (hF 32 _ 108 _ rfl rfl rfl rfl)).2
      have HIZ := Lib.hid (HI.out.mono hbz)
      clear hF hAB e5 hbz hw4 hw8 hw16 hw32 hw40 hw48 v0 v4 HUs0 HUs4 HUs8 HUs16 HUs32 HUs40 HUs48
      generalize (⟨gN l a 4, gN l (a + 4) 4, gN l (a + 8) 8, gN l (a + 16) 8, gN l (a + 32) 8, gN l (a + 40) 8, gN l (a + 48) 8⟩ : SegM) = sg at *
      refine wpList_cat TSeg HIZ.out.go (rd_one rfl HGB.out rfl) rfl rfl (oneSeg [sg]) (by rw [HSL.out]; simp; omega) (by rw [HSL.out]; simp; omega) HIZ.out.below.size ?_
      intro v5 w5 hv5 hg5 hb5
      have HV5 := Lib.hid hv5
      have HG5 := Lib.hid hg5
      have HBL := Lib.hid (keeps_own HIZ.out.go hg5 _ _ _ _ (show 51 ≠ 105 by decide) HIZ.out.blk)
      have HB5 := Lib.hid hb5
      obtain ⟨m5, q5, r5, -, rfl, _, _⟩ := (Reads.of_owns hv5).shape
      clear hv5 hg5 hb5
      have HVV := Lib.hid (show w5.ownsRow w.heap.size 105 7 (.slice q5 m5 r5) (segsP l k ++ [sg]).length ((segsP l k ++ [sg]).flatMap encSeg) by rw [List.length_append, List.flatMap_append]; exact HV5.out)
      have hgt : w.heap.size ≤ w1.heap.size := HI.out.hg
      go_wp2_with ((with_reducible show wpList _ _ _ (⟨none, .store _ (.tmp 110) _, _, _, _, _⟩ :: _) _ _); go_must (refine wpList_set HBL.out (Nat.lt_of_lt_of_eq (show 5 < 6 by decide) rfl) rfl rfl hgt (Nat.le_trans HIZ.out.below.size HB5.out.size) (fun w => by kernel_rfl) ?_; intro w6 hh6 hb6 hs6; have HI6 := Lib.hid (AllInv.seg HIZ.out rfl HVV.out HG5.out hh6 hs6); clear hh6 hb6 hs6))
      go_round
      case rel => exact ⟨k + 1, q5, m5, r5, by go_num, by omega, (by rw [HSS.out, HSG.out]; exact HI6)⟩
      case measure => simp [intOf] <;> omega
    · obtain rfl : k = ns := by omega
      have ELAST : Hid (lastP l = gN l 40 8 + 64 * (k2 + 1)) := Lib.hid (by unfold lastP; rw [E60.out])
      have HTABL : Hid ((l.drop (gN l (lastP l + 24) 8)).take (gN l (lastP l + 32) 8) = tabP l) := Lib.hid (by unfold tabP; rfl)
      have HSP := Lib.hid (secsP_succ l)
      have HC1 := Lib.hid (gN8 l (lastP l + 24))
      have HC2 := Lib.hid (gN8 l (lastP l + 32))
      generalize gN l 40 8 = h40 at *
      have hh9 : h40 ≤ 4194304 := by omega
      have HUA : Hid (∀ wx, Below w.heap.size w wx → Calls Tryz.prog 37 #[.slice ad m cap, .int .i64 ((h40 : Int) + 64 * ((k2 : Int) + 2 - 1) + 24), .int .i64 8] wx fun r w' => r = .returned (.int .u64 (gN l (lastP l + 24) 8 : Nat)) ∧ wx = w') := Lib.hid (fun wx hwx => by
        have h1 := ref4Num_any l (lastP l + 24) 8 _ wx HL9.out (HV.out.mono hwx) (by rw [ELAST.out]; omega)
        rw [show ((lastP l + 24 : Nat) : Int) = (h40 : Int) + 64 * ((k2 : Int) + 2 - 1) + 24 by rw [ELAST.out]; omega] at h1
        exact h1)
      have HUB : Hid (∀ wx, Below w.heap.size w wx → Calls Tryz.prog 37 #[.slice ad m cap, .int .i64 ((h40 : Int) + 64 * ((k2 : Int) + 2 - 1) + 32), .int .i64 8] wx fun r w' => r = .returned (.int .u64 (gN l (lastP l + 32) 8 : Nat)) ∧ wx = w') := Lib.hid (fun wx hwx => by
        have h1 := ref4Num_any l (lastP l + 32) 8 _ wx HL9.out (HV.out.mono hwx) (by rw [ELAST.out]; omega)
        rw [show ((lastP l + 32 : Nat) : Int) = (h40 : Int) + 64 * ((k2 : Int) + 2 - 1) + 32 by rw [ELAST.out]; omega] at h1
        exact h1)
      have HWI := Lib.hid (fun wx (hwx : Below w.heap.size w wx) => ref4Within_any l (gN l (lastP l + 24) 8) (gN l (lastP l + 32) 8) _ wx HL9.out (HV.out.mono hwx) HC1.out HC2.out)
      have HTB2 : Hid (inB l (gN l (lastP l + 24) 8) (gN l (lastP l + 32) 8) = false → ¬ OkG l) := Lib.hid (fun h1 h => by have := HTB.out h; rw [h1] at this; cases this)
      clear HTB
      generalize gN l (lastP l + 24) 8 = c24 at *
      generalize gN l (lastP l + 32) 8 = c32 at *
      obtain ⟨wo, rfl⟩ : ∃ wo : World, wo = wr := ⟨_, rfl⟩
      cases hin : inB l c24 c32 with
      | false =>
        have HNO := Lib.hid (HTB2.out hin)
        have HIN := Lib.hid hin
        clear hin HTB2
        go_wp2_with (first
          | (go_at_call 37; (with_reducible refine (HUA.out _ HB.out).mono ?_); rintro e wu ⟨rfl, rfl⟩)
          | (go_at_call 37; (with_reducible refine (HUB.out _ HB.out).mono ?_); rintro e wu ⟨rfl, rfl⟩))
        refine (HWI.out wo HB.out).mono ?_
        rintro e wt ⟨⟨tv, rfl, hto⟩, hbt⟩
        rw [HIN.out]
        have HIT := Lib.hid (HI.out.mono hbt)
        obtain ⟨tm, tad, tcap, -, rfl, _, _⟩ := hto.shape
        clear hto hbt
        have d0 := cell_rec HIT.out.blk 0
        have d1 := cell_rec HIT.out.blk 1
        have d2 := cell_rec HIT.out.blk 2
        have d3 := cell_rec HIT.out.blk 3
        have d4 := cell_rec HIT.out.blk 4
        have d5 := cell_rec HIT.out.blk 5
        simp only [List.getElem?_toArray, List.cons_append, List.nil_append, List.getElem?_cons_zero, List.getElem?_cons_succ] at d0 d1 d2 d3 d4 d5
        go_wp2_with (first | ((with_reducible show wpList _ _ _ (⟨none, .store _ (.tmp 4) _, _, _, _, _⟩ :: _) _ _); go_must (refine wpList_storeElfS HIT.out.res rfl rfl rfl rfl (by simp [Value.oneCell']) ?_; intro wn hhn hsn; have HE := Lib.hid (AllInv.own HIT.out hsn ⟨(gN l 16 2 : Nat), target, gN l 48 4, gN l 24 8, ([] : List (SecM × Value)).map (·.1), (segsP l k)⟩ rfl rfl); have f0 := cell_rec hhn 0; have f1 := cell_rec hhn 1; have f2 := cell_rec hhn 2; have f3 := cell_rec hhn 3; have f4 := cell_rec hhn 4; have f5 := cell_rec hhn 5; clear hhn hsn d0 d1 d2 d3 d4 d5)))
        simp only [List.getElem?_toArray, List.getElem?_cons_zero, List.getElem?_cons_succ] at f0 f1 f2 f3 f4 f5
        exact bodyPost_ret (v := .tuple #[elfV ⟨(gN l 16 2 : Nat), target, gN l 48 4, gN l 24 8, ([] : List (SecM × Value)).map (·.1), (segsP l k)⟩ (.slice none 0 0) (.slice q n r), .bool false]) (by simp [results, Tryz.results38, go_sem, elfV, f0, f1, f2, f3, f4, f5]) rfl ⟨GuRes.no HE.out.1 HNO.out, HE.out.2⟩
      | true =>
        have HIN := Lib.hid hin
        clear hin HTB2
        go_wp2_with (first
          | (go_at_call 37; (with_reducible refine (HUA.out _ HB.out).mono ?_); rintro e wu ⟨rfl, rfl⟩)
          | (go_at_call 37; (with_reducible refine (HUB.out _ HB.out).mono ?_); rintro e wu ⟨rfl, rfl⟩))
        refine (HWI.out wo HB.out).mono ?_
        rintro e wt ⟨⟨tv, rfl, hto⟩, hbt⟩
        rw [HIN.out]
        rw [if_pos HIN.out, HTABL.out] at hto
        have HTO := Lib.hid (hto.base HB.out.size)
        have HTL := Lib.hid (show (tabP l).length ≤ 1000000000 by rw [← HTABL.out, List.length_take, List.length_drop]; have := HL9.out; omega)
        have HIT := Lib.hid (HI.out.mono hbt)
        obtain ⟨tm, tad, tcap, -, rfl, _, _⟩ := hto.shape
        clear hto hbt HUA HUB HWI HC1 HC2
        go_wp2
        go_loopw [14, 15, 16, 17, 18, 19, 20, 21] (fun o i _ _ _ _ _ _ wr => o = .bool true ∧ ∃ (j : Nat) (sq : Option Addr) (sn sr : Nat) (L : List (SecM × Value)), i = .int .i64 ((j : Int) + 1) ∧ j ≤ k2 ∧ Hid (AllInv w wr w1.heap.size w.heap.size [.int .i64 (gN l 16 2 : Nat), .int .i64 target, .int .u32 (gN l 48 4 : Nat), .int .u64 (gN l 24 8 : Nat)] (.slice sq sn sr) (.slice q n r) L (segsP l k)) ∧ Hid (L.map (·.1) = secsP l j) ∧ Hid (OB wr w.heap.size (.slice tad tm tcap) (tabP l))) (fun _ i _ _ _ _ _ _ _ => k2 + 1 - (intOf i).toNat)
        case atStart => exact ⟨rfl, 0, none, 0, 0, [], rfl, Nat.zero_le _, HIT, rfl, HTO⟩
        case round =>
          obtain ⟨rfl, j, sq, sn, sr, L, rfl, hj, HI2, HL2, HBT2⟩ := hrel
          have HB3 := Lib.hid HI2.out.below
          by_cases hlt2 : j < k2
          · have HLL := Lib.hid (show L.length = j by have := congrArg List.length HL2.out; rw [secsP_len, List.length_map] at this; exact this)
            have HSS := Lib.hid (HSP.out j)
            obtain ⟨a, haN⟩ : ∃ a : Nat, a = h40 + 64 * (j + 1) := ⟨_, rfl⟩
            rw [← haN] at HSS
            have ha9 : a ≤ 10000000 := by omega
            have HaI : Hid ((h40 : Int) + 64 * ((j : Int) + 1) = (a : Int)) := Lib.hid (by omega)
            have HBAD : Hid (secOk l (tabP l) a = false → ¬ OkG l) := Lib.hid (fun h1 ho => by have := HNC.out ho j (by rw [E60.out]; exact hlt2); rw [← haN, h1] at this; cases this)
            clear haN
            have HUt0 : Hid (∀ wx (_ : Below wr.heap.size wr wx), Calls Tryz.prog 37 #[.slice ad m cap, .int .i64 ((a : Int)), .int .i64 4] wx fun r w' => r = .returned (.int .u64 (gN l a 4 : Nat)) ∧ wx = w') := Lib.hid (fun wx hwx => ref4Num_any l a 4 _ wx HL9.out (HV.out.mono (HB3.out.trans (hwx.mono HB3.out.size))) (by omega))
            have HUt4 : Hid (∀ wx (_ : Below wr.heap.size wr wx), Calls Tryz.prog 37 #[.slice ad m cap, .int .i64 ((a : Int) + 4), .int .i64 4] wx fun r w' => r = .returned (.int .u64 (gN l (a + 4) 4 : Nat)) ∧ wx = w') := Lib.hid (fun wx hwx => ref4Num_any l (a + 4) 4 _ wx HL9.out (HV.out.mono (HB3.out.trans (hwx.mono HB3.out.size))) (by omega))
            have HUt8 : Hid (∀ wx (_ : Below wr.heap.size wr wx), Calls Tryz.prog 37 #[.slice ad m cap, .int .i64 ((a : Int) + 8), .int .i64 8] wx fun r w' => r = .returned (.int .u64 (gN l (a + 8) 8 : Nat)) ∧ wx = w') := Lib.hid (fun wx hwx => ref4Num_any l (a + 8) 8 _ wx HL9.out (HV.out.mono (HB3.out.trans (hwx.mono HB3.out.size))) (by omega))
            have HUt16 : Hid (∀ wx (_ : Below wr.heap.size wr wx), Calls Tryz.prog 37 #[.slice ad m cap, .int .i64 ((a : Int) + 16), .int .i64 8] wx fun r w' => r = .returned (.int .u64 (gN l (a + 16) 8 : Nat)) ∧ wx = w') := Lib.hid (fun wx hwx => ref4Num_any l (a + 16) 8 _ wx HL9.out (HV.out.mono (HB3.out.trans (hwx.mono HB3.out.size))) (by omega))
            have HUt32 : Hid (∀ wx (_ : Below wr.heap.size wr wx), Calls Tryz.prog 37 #[.slice ad m cap, .int .i64 ((a : Int) + 32), .int .i64 8] wx fun r w' => r = .returned (.int .u64 (gN l (a + 32) 8 : Nat)) ∧ wx = w') := Lib.hid (fun wx hwx => ref4Num_any l (a + 32) 8 _ wx HL9.out (HV.out.mono (HB3.out.trans (hwx.mono HB3.out.size))) (by omega))
            have HUt40 : Hid (∀ wx (_ : Below wr.heap.size wr wx), Calls Tryz.prog 37 #[.slice ad m cap, .int .i64 ((a : Int) + 40), .int .i64 4] wx fun r w' => r = .returned (.int .u64 (gN l (a + 40) 4 : Nat)) ∧ wx = w') := Lib.hid (fun wx hwx => ref4Num_any l (a + 40) 4 _ wx HL9.out (HV.out.mono (HB3.out.trans (hwx.mono HB3.out.size))) (by omega))
            have HUt44 : Hid (∀ wx (_ : Below wr.heap.size wr wx), Calls Tryz.prog 37 #[.slice ad m cap, .int .i64 ((a : Int) + 44), .int .i64 4] wx fun r w' => r = .returned (.int .u64 (gN l (a + 44) 4 : Nat)) ∧ wx = w') := Lib.hid (fun wx hwx => ref4Num_any l (a + 44) 4 _ wx HL9.out (HV.out.mono (HB3.out.trans (hwx.mono HB3.out.size))) (by omega))
            have HUt48 : Hid (∀ wx (_ : Below wr.heap.size wr wx), Calls Tryz.prog 37 #[.slice ad m cap, .int .i64 ((a : Int) + 48), .int .i64 8] wx fun r w' => r = .returned (.int .u64 (gN l (a + 48) 8 : Nat)) ∧ wx = w') := Lib.hid (fun wx hwx => ref4Num_any l (a + 48) 8 _ wx HL9.out (HV.out.mono (HB3.out.trans (hwx.mono HB3.out.size))) (by omega))
            have HUt56 : Hid (∀ wx (_ : Below wr.heap.size wr wx), Calls Tryz.prog 37 #[.slice ad m cap, .int .i64 ((a : Int) + 56), .int .i64 8] wx fun r w' => r = .returned (.int .u64 (gN l (a + 56) 8 : Nat)) ∧ wx = w') := Lib.hid (fun wx hwx => ref4Num_any l (a + 56) 8 _ wx HL9.out (HV.out.mono (HB3.out.trans (hwx.mono HB3.out.size))) (by omega))
            have HUt24 : Hid (∀ wx (_ : Below wr.heap.size wr wx), Calls Tryz.prog 37 #[.slice ad m cap, .int .i64 ((a : Int) + 24), .int .i64 8] wx fun r w' => r = .returned (.int .u64 (gN l (a + 24) 8 : Nat)) ∧ wx = w') := Lib.hid (fun wx hwx => ref4Num_any l (a + 24) 8 _ wx HL9.out (HV.out.mono (HB3.out.trans (hwx.mono HB3.out.size))) (by omega))
            have v0 := gN4 l a
            have v4 := gN4 l (a + 4)
            have v40 := gN4 l (a + 40)
            have v44 := gN4 l (a + 44)
            have HAT : Hid (∀ wx, Below wr.heap.size wr wx → Calls Tryz.prog 68 #[.slice tad tm tcap, .int .i64 (gN l a 4 : Nat)] wx fun e w' => e = .returned (.tuple #[S (atR (tabP l) (gN l a 4 : Nat)).1, .int .i64 (atR (tabP l) (gN l a 4 : Nat)).2]) ∧ wx = w') := Lib.hid (fun wx hwx => ref3At_any (tabP l) (gN l a 4 : Nat) _ wx HTL.out (OB.bs (HBT2.out.mono hwx)))
            have HNM := Lib.hid (secOk_name (l := l) (tab := tabP l) (a := a))
            have HCT := Lib.hid (secOk_cut (l := l) (tab := tabP l) (a := a))
            have HSEC : Hid (secP l (tabP l) a = ⟨(atR (tabP l) (gN l a 4 : Nat)).1, gN l (a + 4) 4, gN l (a + 8) 8, gN l (a + 16) 8, gN l (a + 48) 8, gN l (a + 32) 8, gN l (a + 40) 4, gN l (a + 44) 4, gN l (a + 56) 8, if gN l (a + 4) 4 = 8 then [] else ((l.drop (gN l (a + 24) 8)).take (gN l (a + 32) 8))⟩) := Lib.hid (by unfold secP; rfl)
            have HB24 := Lib.hid (gN8 l (a + 24))
            have HB32 := Lib.hid (gN8 l (a + 32))
            have HDL : Hid (((l.drop (gN l (a + 24) 8)).take (gN l (a + 32) 8)).length ≤ 1000000000) := Lib.hid (by rw [List.length_take, List.length_drop]; have := HL9.out; omega)
            generalize atR (tabP l) (gN l a 4 : Nat) = qn at *
            obtain ⟨nm, code⟩ := qn
            go_wp2_with fail
            rw [HaI.out]
            by_cases h8 : gN l (a + 4) 4 = 8
            · have k8b : (((gN l (a + 4) 4 : Nat) : Int) == 8) = true := by rw [h8]; rfl
              have k8c : (((gN l (a + 4) 4 : Nat) : Int) != 8) = false := by rw [h8]; rfl
              have H8 := Lib.hid h8
              clear h8
              by_cases hcode : code = 0
              · subst hcode
                have HODX := Lib.hid (fun (w' : World) => OB.nil w' w.heap.size)
                go_wp2_with (first
                  | (go_at_call 37; (with_reducible refine (HUt4.out _ (Below.refl _ _)).mono ?_); rintro e wu ⟨rfl, rfl⟩)
                  | (go_at_call 37; (with_reducible refine (HUt8.out _ (Below.refl _ _)).mono ?_); rintro e wu ⟨rfl, rfl⟩)
                  | (go_at_call 37; (with_reducible refine (HUt16.out _ (Below.refl _ _)).mono ?_); rintro e wu ⟨rfl, rfl⟩)
                  | (go_at_call 37; (with_reducible refine (HUt32.out _ (Below.refl _ _)).mono ?_); rintro e wu ⟨rfl, rfl⟩)
                  | (go_at_call 37; (with_reducible refine (HUt40.out _ (Below.refl _ _)).mono ?_); rintro e wu ⟨rfl, rfl⟩)
                  | (go_at_call 37; (with_reducible refine (HUt44.out _ (Below.refl _ _)).mono ?_); rintro e wu ⟨rfl, rfl⟩)
                  | (go_at_call 37; (with_reducible refine (HUt48.out _ (Below.refl _ _)).mono ?_); rintro e wu ⟨rfl, rfl⟩)
                  | (go_at_call 37; (with_reducible refine (HUt56.out _ (Below.refl _ _)).mono ?_); rintro e wu ⟨rfl, rfl⟩)
                  | ((with_reducible show wpList _ _ _ (⟨some 17, .alloc _, _, _, _, _⟩ :: _) _ _); go_must (refine wpList_allocSec ?_; intro w4 hx4 hb4 hs4; have HX4 := Lib.hid hx4; have HB4 := Lib.hid hb4; clear hx4 hb4))
                  | ((with_reducible show wpList _ _ _ (⟨none, .store _ (.tmp 17) _, _, _, _, _⟩ :: _) _ _); go_must (refine wpList_storeRowS HX4.out rfl rfl rfl (by kernel_rfl) (by simp [Value.oneCell']) ?_; intro w5 hh5 hs5; have HH5 := Lib.hid (show w5.heap[wr.heap.size]? = some (.cells #[.string ⟨#[]⟩, .int .u32 (gN l (a + 4) 4 : Nat), .int .u64 (gN l (a + 8) 8 : Nat), .int .u64 (gN l (a + 16) 8 : Nat), .int .u64 (gN l (a + 48) 8 : Nat), .int .u64 (gN l (a + 32) 8 : Nat), .int .u32 (gN l (a + 40) 4 : Nat), .int .u32 (gN l (a + 44) 4 : Nat), .int .u64 (gN l (a + 56) 8 : Nat), .slice none 0 0] 60 (0, 0)) from hh5); have HB5 := Lib.hid (HB4.out.trans (hs5.below HB4.out.size (fun j hj => by rw [hj]; exact Nat.le_refl _))); clear hh5 hs5))
                  | (go_at_call 37; (with_reducible refine (HUt0.out _ HB5.out).mono ?_); rintro e wu ⟨rfl, rfl⟩)
                  | (go_at_call 68; (with_reducible refine (HAT.out _ HB5.out).mono ?_); rintro e wu ⟨rfl, rfl⟩)
                  | ((with_reducible show wpList _ _ _ (⟨none, .store _ (.tmp 190) _, _, _, _, _⟩ :: _) _ _); go_must (refine wpList_setS HH5.out (show 0 < 10 by decide) rfl rfl (Nat.le_refl wr.heap.size) HB5.out.size (fun w => by kernel_rfl) ?_; intro w6 hh6 hb6 hs6; have HH6 := Lib.hid (show w6.heap[wr.heap.size]? = some (.cells #[.string ⟨nm.toArray⟩, .int .u32 (gN l (a + 4) 4 : Nat), .int .u64 (gN l (a + 8) 8 : Nat), .int .u64 (gN l (a + 16) 8 : Nat), .int .u64 (gN l (a + 48) 8 : Nat), .int .u64 (gN l (a + 32) 8 : Nat), .int .u32 (gN l (a + 40) 4 : Nat), .int .u32 (gN l (a + 44) 4 : Nat), .int .u64 (gN l (a + 56) 8 : Nat), .slice none 0 0] 60 (0, 0)) from hh6); have HB6 := Lib.hid (HB5.out.trans hb6); obtain ⟨z0, z1, z2, z3, z4, z5, z6, z7, z8, z9⟩ := sec_box (x := ((⟨nm, gN l (a + 4) 4, gN l (a + 8) 8, gN l (a + 16) 8, gN l (a + 48) 8, gN l (a + 32) 8, gN l (a + 40) 4, gN l (a + 44) 4, gN l (a + 56) 8, []⟩ : SecM), .slice none 0 0)) HH6.out; have HIW := Lib.hid (HI2.out.mono HB6.out); have e4 : w6.cell? ⟨w1.heap.size, 4, none⟩ = some (.slice sq sn sr) := cell_rec HIW.out.blk 4; clear hh6 hb6 hs6))
                  | ((with_reducible show wpList _ _ _ (⟨some 218, _, _, _, _, _⟩ :: _) _ _); go_must (refine wpList_oneSec (s := (⟨nm, gN l (a + 4) 4, gN l (a + 8) 8, gN l (a + 16) 8, gN l (a + 48) 8, gN l (a + 32) 8, gN l (a + 40) 4, gN l (a + 44) 4, gN l (a + 56) 8, []⟩ : SecM)) rfl ?_; intro wq hxq hbq hsq; have HXQ := Lib.hid hxq; have HIZ := Lib.hid (HIW.out.mono hbq); have HBTZ := Lib.hid ((HBT2.out.mono HB6.out).mono hbq); have HDU := Lib.hid (HODX.out wq); clear hxq hbq))
                  | ((with_reducible show wpList _ _ _ (⟨some 219, _, _, _, _, _⟩ :: _) _ _); go_must (refine wpList_cat TSec HIZ.out.so (rd_one rfl HXQ.out rfl) rfl rfl (oneSec (L := [((⟨nm, gN l (a + 4) 4, gN l (a + 8) 8, gN l (a + 16) 8, gN l (a + 48) 8, gN l (a + 32) 8, gN l (a + 40) 4, gN l (a + 44) 4, gN l (a + 56) 8, []⟩ : SecM), Value.slice none 0 0)]) (fun p hp => by rw [List.mem_singleton] at hp; rw [hp]; rfl)) (by rw [HLL.out]; simp; omega) (by rw [HLL.out]; simp; omega) HIZ.out.below.size ?_; intro v5 w9 hv5 hg5 hb5; have HV5 := Lib.hid hv5; have HG5 := Lib.hid hg5; have HBL := Lib.hid (keeps_own HIZ.out.so hg5 _ _ _ _ (show 51 ≠ 60 by decide) HIZ.out.blk); have HB9 := Lib.hid hb5; obtain ⟨m5, q5, r5, -, rfl, _, _⟩ := (Reads.of_owns hv5).shape; clear hv5 hg5 hb5))
                  | ((with_reducible show wpList _ _ _ (⟨none, .store _ (.tmp 220) _, _, _, _, _⟩ :: _) _ _); go_must (refine wpList_set HBL.out (Nat.lt_of_lt_of_eq (show 4 < 6 by decide) rfl) rfl rfl HI2.out.hg (Nat.le_trans HIZ.out.below.size HB9.out.size) (fun w => by kernel_rfl) ?_; intro wA hh6 hb6 hs6; have HVV := Lib.hid (show w9.ownsRow w.heap.size 60 10 (.slice q5 m5 r5) (L ++ [((⟨nm, gN l (a + 4) 4, gN l (a + 8) 8, gN l (a + 16) 8, gN l (a + 48) 8, gN l (a + 32) 8, gN l (a + 40) 4, gN l (a + 44) 4, gN l (a + 56) 8, []⟩ : SecM), Value.slice none 0 0)]).length ((L ++ [((⟨nm, gN l (a + 4) 4, gN l (a + 8) 8, gN l (a + 16) 8, gN l (a + 48) 8, gN l (a + 32) 8, gN l (a + 40) 4, gN l (a + 44) 4, gN l (a + 56) 8, []⟩ : SecM), Value.slice none 0 0)]).flatMap encSec) by rw [List.length_append, List.flatMap_append]; exact HV5.out); have HI6 := Lib.hid (AllInv.sec HIZ.out rfl HVV.out HG5.out HDU.out hh6 hs6); have HT6 := Lib.hid (AllInv.tab HIZ.out HBTZ.out HG5.out hs6); clear hh6 hb6 hs6)))
                have HSEC2 : Hid (secP l (tabP l) a = (⟨nm, gN l (a + 4) 4, gN l (a + 8) 8, gN l (a + 16) 8, gN l (a + 48) 8, gN l (a + 32) 8, gN l (a + 40) 4, gN l (a + 44) 4, gN l (a + 56) 8, []⟩ : SecM)) := Lib.hid (by rw [HSEC.out]; rw [if_pos H8.out])
                go_round
                case rel => exact ⟨rfl, j + 1, q5, m5, r5, _, by go_num, by omega, HI6, (by rw [HSS.out, HSEC2.out, List.map_append, HL2.out]; rfl), HT6⟩
                case measure => simp [intOf] <;> omega
              · have hcb : (code == (0 : Int)) = false := by simpa using hcode
                have hcn : (code != (0 : Int)) = true := by simpa using hcode
                have HNO := Lib.hid (HBAD.out (HNM.out hcode))
                clear hcode
                go_wp2_with (first
                  | (go_at_call 37; (with_reducible refine (HUt4.out _ (Below.refl _ _)).mono ?_); rintro e wu ⟨rfl, rfl⟩)
                  | (go_at_call 37; (with_reducible refine (HUt8.out _ (Below.refl _ _)).mono ?_); rintro e wu ⟨rfl, rfl⟩)
                  | (go_at_call 37; (with_reducible refine (HUt16.out _ (Below.refl _ _)).mono ?_); rintro e wu ⟨rfl, rfl⟩)
                  | (go_at_call 37; (with_reducible refine (HUt32.out _ (Below.refl _ _)).mono ?_); rintro e wu ⟨rfl, rfl⟩)
                  | (go_at_call 37; (with_reducible refine (HUt40.out _ (Below.refl _ _)).mono ?_); rintro e wu ⟨rfl, rfl⟩)
                  | (go_at_call 37; (with_reducible refine (HUt44.out _ (Below.refl _ _)).mono ?_); rintro e wu ⟨rfl, rfl⟩)
                  | (go_at_call 37; (with_reducible refine (HUt48.out _ (Below.refl _ _)).mono ?_); rintro e wu ⟨rfl, rfl⟩)
                  | (go_at_call 37; (with_reducible refine (HUt56.out _ (Below.refl _ _)).mono ?_); rintro e wu ⟨rfl, rfl⟩)
                  | ((with_reducible show wpList _ _ _ (⟨some 17, .alloc _, _, _, _, _⟩ :: _) _ _); go_must (refine wpList_allocSec ?_; intro w4 hx4 hb4 hs4; have HX4 := Lib.hid hx4; have HB4 := Lib.hid hb4; clear hx4 hb4))
                  | ((with_reducible show wpList _ _ _ (⟨none, .store _ (.tmp 17) _, _, _, _, _⟩ :: _) _ _); go_must (refine wpList_storeRowS HX4.out rfl rfl rfl (by kernel_rfl) (by simp [Value.oneCell']) ?_; intro w5 hh5 hs5; have HH5 := Lib.hid (show w5.heap[wr.heap.size]? = some (.cells #[.string ⟨#[]⟩, .int .u32 (gN l (a + 4) 4 : Nat), .int .u64 (gN l (a + 8) 8 : Nat), .int .u64 (gN l (a + 16) 8 : Nat), .int .u64 (gN l (a + 48) 8 : Nat), .int .u64 (gN l (a + 32) 8 : Nat), .int .u32 (gN l (a + 40) 4 : Nat), .int .u32 (gN l (a + 44) 4 : Nat), .int .u64 (gN l (a + 56) 8 : Nat), .slice none 0 0] 60 (0, 0)) from hh5); have HB5 := Lib.hid (HB4.out.trans (hs5.below HB4.out.size (fun j hj => by rw [hj]; exact Nat.le_refl _))); clear hh5 hs5))
                  | (go_at_call 37; (with_reducible refine (HUt0.out _ HB5.out).mono ?_); rintro e wu ⟨rfl, rfl⟩)
                  | (go_at_call 68; (with_reducible refine (HAT.out _ HB5.out).mono ?_); rintro e wu ⟨rfl, rfl⟩)
                  | ((with_reducible show wpList _ _ _ (⟨none, .store _ (.tmp 190) _, _, _, _, _⟩ :: _) _ _); go_must (refine wpList_setS HH5.out (show 0 < 10 by decide) rfl rfl (Nat.le_refl wr.heap.size) HB5.out.size (fun w => by kernel_rfl) ?_; intro w6 hh6 hb6 hs6; have HH6 := Lib.hid (show w6.heap[wr.heap.size]? = some (.cells #[.string ⟨nm.toArray⟩, .int .u32 (gN l (a + 4) 4 : Nat), .int .u64 (gN l (a + 8) 8 : Nat), .int .u64 (gN l (a + 16) 8 : Nat), .int .u64 (gN l (a + 48) 8 : Nat), .int .u64 (gN l (a + 32) 8 : Nat), .int .u32 (gN l (a + 40) 4 : Nat), .int .u32 (gN l (a + 44) 4 : Nat), .int .u64 (gN l (a + 56) 8 : Nat), .slice none 0 0] 60 (0, 0)) from hh6); have HB6 := Lib.hid (HB5.out.trans hb6); obtain ⟨z0, z1, z2, z3, z4, z5, z6, z7, z8, z9⟩ := sec_box (x := ((⟨nm, gN l (a + 4) 4, gN l (a + 8) 8, gN l (a + 16) 8, gN l (a + 48) 8, gN l (a + 32) 8, gN l (a + 40) 4, gN l (a + 44) 4, gN l (a + 56) 8, []⟩ : SecM), .slice none 0 0)) HH6.out; have HIW := Lib.hid (HI2.out.mono HB6.out); have d0 := cell_rec HIW.out.blk 0; have d1 := cell_rec HIW.out.blk 1; have d2 := cell_rec HIW.out.blk 2; have d3 := cell_rec HIW.out.blk 3; have d4 := cell_rec HIW.out.blk 4; have d5 := cell_rec HIW.out.blk 5; simp only [List.getElem?_toArray, List.cons_append, List.nil_append, List.getElem?_cons_zero, List.getElem?_cons_succ] at d0 d1 d2 d3 d4 d5; clear z0 z2 z3 z4 z5 z6 z7 z8 z9; clear hh6 hb6 hs6))
                  | ((with_reducible show wpList _ _ _ (⟨none, .store _ (.tmp 4) _, _, _, _, _⟩ :: _) _ _); go_must (refine wpList_storeElfS HIW.out.res rfl rfl rfl rfl (by simp [Value.oneCell']) ?_; intro wn hhn hsn; have HE := Lib.hid (AllInv.own HIW.out hsn ⟨(gN l 16 2 : Nat), target, gN l 48 4, gN l 24 8, L.map (·.1), (segsP l k)⟩ rfl rfl); have f0 := cell_rec hhn 0; have f1 := cell_rec hhn 1; have f2 := cell_rec hhn 2; have f3 := cell_rec hhn 3; have f4 := cell_rec hhn 4; have f5 := cell_rec hhn 5; clear hhn hsn d0 d1 d2 d3 d4 d5)))
                simp only [List.getElem?_toArray, List.getElem?_cons_zero, List.getElem?_cons_succ] at f0 f1 f2 f3 f4 f5
                exact bodyPost_ret (v := .tuple #[elfV ⟨(gN l 16 2 : Nat), target, gN l 48 4, gN l 24 8, L.map (·.1), (segsP l k)⟩ (.slice sq sn sr) (.slice q n r), .bool false]) (by simp [results, Tryz.results38, go_sem, elfV, f0, f1, f2, f3, f4, f5]) rfl ⟨GuRes.no HE.out.1 HNO.out, HE.out.2⟩
            · have k8b : (((gN l (a + 4) 4 : Nat) : Int) == 8) = false := by rw [beq_eq_false_iff_ne]; omega
              have k8c : (((gN l (a + 4) 4 : Nat) : Int) != 8) = true := by rw [bne_iff_ne]; omega
              have H8 := Lib.hid h8
              clear h8
              have HCUT := Lib.hid (fun h => HBAD.out (HCT.out H8.out h))
              go_wp2_with (first
                | (go_at_call 37; (with_reducible refine (HUt4.out _ (Below.refl _ _)).mono ?_); rintro e wu ⟨rfl, rfl⟩)
                | (go_at_call 37; (with_reducible refine (HUt8.out _ (Below.refl _ _)).mono ?_); rintro e wu ⟨rfl, rfl⟩)
                | (go_at_call 37; (with_reducible refine (HUt16.out _ (Below.refl _ _)).mono ?_); rintro e wu ⟨rfl, rfl⟩)
                | (go_at_call 37; (with_reducible refine (HUt32.out _ (Below.refl _ _)).mono ?_); rintro e wu ⟨rfl, rfl⟩)
                | (go_at_call 37; (with_reducible refine (HUt40.out _ (Below.refl _ _)).mono ?_); rintro e wu ⟨rfl, rfl⟩)
                | (go_at_call 37; (with_reducible refine (HUt44.out _ (Below.refl _ _)).mono ?_); rintro e wu ⟨rfl, rfl⟩)
                | (go_at_call 37; (with_reducible refine (HUt48.out _ (Below.refl _ _)).mono ?_); rintro e wu ⟨rfl, rfl⟩)
                | (go_at_call 37; (with_reducible refine (HUt56.out _ (Below.refl _ _)).mono ?_); rintro e wu ⟨rfl, rfl⟩)
                | ((with_reducible show wpList _ _ _ (⟨some 17, .alloc _, _, _, _, _⟩ :: _) _ _); go_must (refine wpList_allocSec ?_; intro w4 hx4 hb4 hs4; have HX4 := Lib.hid hx4; have HB4 := Lib.hid hb4; clear hx4 hb4))
                | ((with_reducible show wpList _ _ _ (⟨none, .store _ (.tmp 17) _, _, _, _, _⟩ :: _) _ _); go_must (refine wpList_storeRowS HX4.out rfl rfl rfl (by kernel_rfl) (by simp [Value.oneCell']) ?_; intro w5 hh5 hs5; have HH5 := Lib.hid (show w5.heap[wr.heap.size]? = some (.cells #[.string ⟨#[]⟩, .int .u32 (gN l (a + 4) 4 : Nat), .int .u64 (gN l (a + 8) 8 : Nat), .int .u64 (gN l (a + 16) 8 : Nat), .int .u64 (gN l (a + 48) 8 : Nat), .int .u64 (gN l (a + 32) 8 : Nat), .int .u32 (gN l (a + 40) 4 : Nat), .int .u32 (gN l (a + 44) 4 : Nat), .int .u64 (gN l (a + 56) 8 : Nat), .slice none 0 0] 60 (0, 0)) from hh5); have HB5 := Lib.hid (HB4.out.trans (hs5.below HB4.out.size (fun j hj => by rw [hj]; exact Nat.le_refl _))); clear hh5 hs5))
                | (go_at_call 37; (with_reducible refine (HUt0.out _ HB5.out).mono ?_); rintro e wu ⟨rfl, rfl⟩)
                | (go_at_call 68; (with_reducible refine (HAT.out _ HB5.out).mono ?_); rintro e wu ⟨rfl, rfl⟩)
                | ((with_reducible show wpList _ _ _ (⟨none, .store _ (.tmp 190) _, _, _, _, _⟩ :: _) _ _); go_must (refine wpList_setS HH5.out (show 0 < 10 by decide) rfl rfl (Nat.le_refl wr.heap.size) HB5.out.size (fun w => by kernel_rfl) ?_; intro w6 hh6 hb6 hs6; have HH6 := Lib.hid (show w6.heap[wr.heap.size]? = some (.cells #[.string ⟨nm.toArray⟩, .int .u32 (gN l (a + 4) 4 : Nat), .int .u64 (gN l (a + 8) 8 : Nat), .int .u64 (gN l (a + 16) 8 : Nat), .int .u64 (gN l (a + 48) 8 : Nat), .int .u64 (gN l (a + 32) 8 : Nat), .int .u32 (gN l (a + 40) 4 : Nat), .int .u32 (gN l (a + 44) 4 : Nat), .int .u64 (gN l (a + 56) 8 : Nat), .slice none 0 0] 60 (0, 0)) from hh6); have HB6 := Lib.hid (HB5.out.trans hb6); obtain ⟨z0, z1, z2, z3, z4, z5, z6, z7, z8, z9⟩ := sec_box (x := ((⟨nm, gN l (a + 4) 4, gN l (a + 8) 8, gN l (a + 16) 8, gN l (a + 48) 8, gN l (a + 32) 8, gN l (a + 40) 4, gN l (a + 44) 4, gN l (a + 56) 8, []⟩ : SecM), .slice none 0 0)) HH6.out; clear hh6 hb6 hs6)))
              have HWN := Lib.hid (fun wx (hwx : Below w6.heap.size w6 wx) => ref4Within_any l (gN l (a + 24) 8) (gN l (a + 32) 8) _ wx HL9.out (HV.out.mono (HB3.out.trans ((HB6.out.trans (hwx.mono HB6.out.size)).mono HB3.out.size))) HB24.out HB32.out)
              generalize hib : inB l (gN l (a + 24) 8) (gN l (a + 32) 8) = ib at *
              have HIB := Lib.hid hib
              clear hib z0 z2 z3 z4 z6 z7 z8 z9
              have hw24 : IntKind.i64.wrap ((a : Int) + 24) = (a : Int) + 24 := by have := i64_small (n := a + 24) (by omega); simpa using this
              have hAB := fun (x : Above w6) (b k : Nat) (h : b < w6.heap.size) => Above.cell x b k h
              have l1 := block_lt z5
              go_wp2
              refine wp_region_walk 13 [(4, .is (.int .u64 (gN l (a + 24) 8 : Nat))), (7, YW ib w6.heap.size ((l.drop (gN l (a + 24) 8)).take (gN l (a + 32) 8)))] (by kernel_rfl) (by kernel_rfl) ?_
              simp only [List.take_succ_cons, List.take_zero, List.drop_succ_cons, List.drop_zero]
              repeat (refine walk_quiet rfl rfl rfl ?_; intro K hK; go_big_quiet_op; go_big_quiet_on)
              refine walk_is rfl rfl (fun wx hwx _ => WpYld.callIs (run_callL (vals := [_, _, _]) Tryz.func37 (by kernel_rfl) rfl rfl) (HUt24.out wx (HB6.out.trans (hwx.mono HB6.out.size)))) ?_
              go_frame
              repeat (refine walk_quiet rfl rfl rfl ?_; intro K hK; go_big_quiet_op; go_big_quiet_on)
              refine walk_made rfl rfl (fun wx hwx _ => WpYld.call (run_callL (vals := [_, _, _]) Tryz.func67 (by kernel_rfl) rfl rfl) ((HWN.out wx hwx).mono fun r w' ⟨⟨u, h1, h2⟩, h3⟩ => ⟨_, by rw [h1, HIB.out], YW_mk (h2.base hwx.size) HIB.out, h3⟩)) (fun (vu : Value) => ?_)
              change walk _ _ _ _ _ _ _ _ (Act.put _ _ (.tuple #[vu, .bool ib]))
              go_frame
              repeat (refine walk_quiet rfl rfl rfl ?_; intro K hK; go_big_quiet_op; go_big_quiet_on)
              refine walk_nil ?_
              intro w7 hb7 hF
              have HOD7 := Lib.hid (YW_got (hF 7 _ 202 _ rfl rfl rfl rfl))
              have HH7 := Lib.hid (heap_below hb7 HH6.out)
              have HB7 := Lib.hid (HB6.out.trans (hb7.mono HB6.out.size))
              clear hF hb7 hAB z1 z5 hw24
              obtain ⟨dm, da, dc, -, rfl, _, _⟩ := HOD7.out.shape
              by_cases hcode : code = 0
              · subst hcode
                cases ib with
                | true =>
                  rw [if_pos rfl] at HOD7
                  go_wp2_with (first
                    | ((with_reducible show wpList _ _ _ (⟨none, .store _ (.tmp 206) _, _, _, _, _⟩ :: _) _ _); go_must (refine wpList_set HH7.out (show 9 < 10 by decide) rfl rfl (base := wr.heap.size) (Nat.le_refl _) HB7.out.size (fun w => by kernel_rfl) ?_; intro w8 hh8 hb8 hs8; have HH8 := Lib.hid (show w8.heap[wr.heap.size]? = some (.cells #[.string ⟨nm.toArray⟩, .int .u32 (gN l (a + 4) 4 : Nat), .int .u64 (gN l (a + 8) 8 : Nat), .int .u64 (gN l (a + 16) 8 : Nat), .int .u64 (gN l (a + 48) 8 : Nat), .int .u64 (gN l (a + 32) 8 : Nat), .int .u32 (gN l (a + 40) 4 : Nat), .int .u32 (gN l (a + 44) 4 : Nat), .int .u64 (gN l (a + 56) 8 : Nat), .slice da dm dc] 60 (0, 0)) from hh8); have HB8 := Lib.hid (HB7.out.trans hb8); have HOD8 := Lib.hid (owns_stirs HOD7.out hs8 (ob_apart HOD7.out HH7.out (by decide))); have HIW := Lib.hid (HI2.out.mono HB8.out); have e4 : w8.cell? ⟨w1.heap.size, 4, none⟩ = some (.slice sq sn sr) := cell_rec HIW.out.blk 4; obtain ⟨z0, z1, z2, z3, z4, z5, z6, z7, z8, z9⟩ := sec_box (x := ((⟨nm, gN l (a + 4) 4, gN l (a + 8) 8, gN l (a + 16) 8, gN l (a + 48) 8, gN l (a + 32) 8, gN l (a + 40) 4, gN l (a + 44) 4, gN l (a + 56) 8, []⟩ : SecM), .slice da dm dc)) HH8.out; have HODX := Lib.hid (show OB w8 w.heap.size (.slice da dm dc) ((l.drop (gN l (a + 24) 8)).take (gN l (a + 32) 8)) from (show OB w8 w6.heap.size (.slice da dm dc) ((l.drop (gN l (a + 24) 8)).take (gN l (a + 32) 8)) from HOD8.out).base (Nat.le_trans HI2.out.below.size HB6.out.size)); clear hh8 hb8 hs8))
                    | ((with_reducible show wpList _ _ _ (⟨some 218, _, _, _, _, _⟩ :: _) _ _); go_must (refine wpList_oneSec (s := (⟨nm, gN l (a + 4) 4, gN l (a + 8) 8, gN l (a + 16) 8, gN l (a + 48) 8, gN l (a + 32) 8, gN l (a + 40) 4, gN l (a + 44) 4, gN l (a + 56) 8, ((l.drop (gN l (a + 24) 8)).take (gN l (a + 32) 8))⟩ : SecM)) rfl ?_; intro wq hxq hbq hsq; have HXQ := Lib.hid hxq; have HIZ := Lib.hid (HIW.out.mono hbq); have HBTZ := Lib.hid ((HBT2.out.mono HB8.out).mono hbq); have HDU := Lib.hid (HODX.out.mono hbq); clear hxq hbq))
                    | ((with_reducible show wpList _ _ _ (⟨some 219, _, _, _, _, _⟩ :: _) _ _); go_must (refine wpList_cat TSec HIZ.out.so (rd_one rfl HXQ.out rfl) rfl rfl (oneSec (L := [((⟨nm, gN l (a + 4) 4, gN l (a + 8) 8, gN l (a + 16) 8, gN l (a + 48) 8, gN l (a + 32) 8, gN l (a + 40) 4, gN l (a + 44) 4, gN l (a + 56) 8, ((l.drop (gN l (a + 24) 8)).take (gN l (a + 32) 8))⟩ : SecM), Value.slice da dm dc)]) (fun p hp => by rw [List.mem_singleton] at hp; rw [hp]; rfl)) (by rw [HLL.out]; simp; omega) (by rw [HLL.out]; simp; omega) HIZ.out.below.size ?_; intro v5 w9 hv5 hg5 hb5; have HV5 := Lib.hid hv5; have HG5 := Lib.hid hg5; have HBL := Lib.hid (keeps_own HIZ.out.so hg5 _ _ _ _ (show 51 ≠ 60 by decide) HIZ.out.blk); have HB9 := Lib.hid hb5; obtain ⟨m5, q5, r5, -, rfl, _, _⟩ := (Reads.of_owns hv5).shape; clear hv5 hg5 hb5))
                    | ((with_reducible show wpList _ _ _ (⟨none, .store _ (.tmp 220) _, _, _, _, _⟩ :: _) _ _); go_must (refine wpList_set HBL.out (Nat.lt_of_lt_of_eq (show 4 < 6 by decide) rfl) rfl rfl HI2.out.hg (Nat.le_trans HIZ.out.below.size HB9.out.size) (fun w => by kernel_rfl) ?_; intro wA hh6 hb6 hs6; have HVV := Lib.hid (show w9.ownsRow w.heap.size 60 10 (.slice q5 m5 r5) (L ++ [((⟨nm, gN l (a + 4) 4, gN l (a + 8) 8, gN l (a + 16) 8, gN l (a + 48) 8, gN l (a + 32) 8, gN l (a + 40) 4, gN l (a + 44) 4, gN l (a + 56) 8, ((l.drop (gN l (a + 24) 8)).take (gN l (a + 32) 8))⟩ : SecM), Value.slice da dm dc)]).length ((L ++ [((⟨nm, gN l (a + 4) 4, gN l (a + 8) 8, gN l (a + 16) 8, gN l (a + 48) 8, gN l (a + 32) 8, gN l (a + 40) 4, gN l (a + 44) 4, gN l (a + 56) 8, ((l.drop (gN l (a + 24) 8)).take (gN l (a + 32) 8))⟩ : SecM), Value.slice da dm dc)]).flatMap encSec) by rw [List.length_append, List.flatMap_append]; exact HV5.out); have HI6 := Lib.hid (AllInv.sec HIZ.out rfl HVV.out HG5.out HDU.out hh6 hs6); have HT6 := Lib.hid (AllInv.tab HIZ.out HBTZ.out HG5.out hs6); clear hh6 hb6 hs6)))
                  have HSEC2 : Hid (secP l (tabP l) a = (⟨nm, gN l (a + 4) 4, gN l (a + 8) 8, gN l (a + 16) 8, gN l (a + 48) 8, gN l (a + 32) 8, gN l (a + 40) 4, gN l (a + 44) 4, gN l (a + 56) 8, ((l.drop (gN l (a + 24) 8)).take (gN l (a + 32) 8))⟩ : SecM)) := Lib.hid (by rw [HSEC.out]; rw [if_neg H8.out])
                  go_round
                  case rel => exact ⟨rfl, j + 1, q5, m5, r5, _, by go_num, by omega, HI6, (by rw [HSS.out, HSEC2.out, List.map_append, HL2.out]; rfl), HT6⟩
                  case measure => simp [intOf] <;> omega
                | false =>
                  have HNO := Lib.hid (HCUT.out rfl)
                  go_wp2_with (first
                    | ((with_reducible show wpList _ _ _ (⟨none, .store _ (.tmp 206) _, _, _, _, _⟩ :: _) _ _); go_must (refine wpList_set HH7.out (show 9 < 10 by decide) rfl rfl (base := wr.heap.size) (Nat.le_refl _) HB7.out.size (fun w => by kernel_rfl) ?_; intro w8 hh8 hb8 hs8; have HH8 := Lib.hid (show w8.heap[wr.heap.size]? = some (.cells #[.string ⟨nm.toArray⟩, .int .u32 (gN l (a + 4) 4 : Nat), .int .u64 (gN l (a + 8) 8 : Nat), .int .u64 (gN l (a + 16) 8 : Nat), .int .u64 (gN l (a + 48) 8 : Nat), .int .u64 (gN l (a + 32) 8 : Nat), .int .u32 (gN l (a + 40) 4 : Nat), .int .u32 (gN l (a + 44) 4 : Nat), .int .u64 (gN l (a + 56) 8 : Nat), .slice da dm dc] 60 (0, 0)) from hh8); have HB8 := Lib.hid (HB7.out.trans hb8); have HOD8 := Lib.hid (owns_stirs HOD7.out hs8 (ob_apart HOD7.out HH7.out (by decide))); have HIW := Lib.hid (HI2.out.mono HB8.out); have d0 := cell_rec HIW.out.blk 0; have d1 := cell_rec HIW.out.blk 1; have d2 := cell_rec HIW.out.blk 2; have d3 := cell_rec HIW.out.blk 3; have d4 := cell_rec HIW.out.blk 4; have d5 := cell_rec HIW.out.blk 5; simp only [List.getElem?_toArray, List.cons_append, List.nil_append, List.getElem?_cons_zero, List.getElem?_cons_succ] at d0 d1 d2 d3 d4 d5; clear hh8 hb8 hs8))
                    | ((with_reducible show wpList _ _ _ (⟨none, .store _ (.tmp 4) _, _, _, _, _⟩ :: _) _ _); go_must (refine wpList_storeElfS HIW.out.res rfl rfl rfl rfl (by simp [Value.oneCell']) ?_; intro wn hhn hsn; have HE := Lib.hid (AllInv.own HIW.out hsn ⟨(gN l 16 2 : Nat), target, gN l 48 4, gN l 24 8, L.map (·.1), (segsP l k)⟩ rfl rfl); have f0 := cell_rec hhn 0; have f1 := cell_rec hhn 1; have f2 := cell_rec hhn 2; have f3 := cell_rec hhn 3; have f4 := cell_rec hhn 4; have f5 := cell_rec hhn 5; clear hhn hsn d0 d1 d2 d3 d4 d5)))
                  simp only [List.getElem?_toArray, List.getElem?_cons_zero, List.getElem?_cons_succ] at f0 f1 f2 f3 f4 f5
                  exact bodyPost_ret (v := .tuple #[elfV ⟨(gN l 16 2 : Nat), target, gN l 48 4, gN l 24 8, L.map (·.1), (segsP l k)⟩ (.slice sq sn sr) (.slice q n r), .bool false]) (by simp [results, Tryz.results38, go_sem, elfV, f0, f1, f2, f3, f4, f5]) rfl ⟨GuRes.no HE.out.1 HNO.out, HE.out.2⟩
              · have hcb : (code == (0 : Int)) = false := by simpa using hcode
                have hcn : (code != (0 : Int)) = true := by simpa using hcode
                have HNO := Lib.hid (HBAD.out (HNM.out hcode))
                clear hcode
                go_wp2_with (first
                  | ((with_reducible show wpList _ _ _ (⟨none, .store _ (.tmp 206) _, _, _, _, _⟩ :: _) _ _); go_must (refine wpList_set HH7.out (show 9 < 10 by decide) rfl rfl (base := wr.heap.size) (Nat.le_refl _) HB7.out.size (fun w => by kernel_rfl) ?_; intro w8 hh8 hb8 hs8; have HH8 := Lib.hid (show w8.heap[wr.heap.size]? = some (.cells #[.string ⟨nm.toArray⟩, .int .u32 (gN l (a + 4) 4 : Nat), .int .u64 (gN l (a + 8) 8 : Nat), .int .u64 (gN l (a + 16) 8 : Nat), .int .u64 (gN l (a + 48) 8 : Nat), .int .u64 (gN l (a + 32) 8 : Nat), .int .u32 (gN l (a + 40) 4 : Nat), .int .u32 (gN l (a + 44) 4 : Nat), .int .u64 (gN l (a + 56) 8 : Nat), .slice da dm dc] 60 (0, 0)) from hh8); have HB8 := Lib.hid (HB7.out.trans hb8); have HOD8 := Lib.hid (owns_stirs HOD7.out hs8 (ob_apart HOD7.out HH7.out (by decide))); have HIW := Lib.hid (HI2.out.mono HB8.out); have d0 := cell_rec HIW.out.blk 0; have d1 := cell_rec HIW.out.blk 1; have d2 := cell_rec HIW.out.blk 2; have d3 := cell_rec HIW.out.blk 3; have d4 := cell_rec HIW.out.blk 4; have d5 := cell_rec HIW.out.blk 5; simp only [List.getElem?_toArray, List.cons_append, List.nil_append, List.getElem?_cons_zero, List.getElem?_cons_succ] at d0 d1 d2 d3 d4 d5; clear hh8 hb8 hs8))
                  | ((with_reducible show wpList _ _ _ (⟨none, .store _ (.tmp 4) _, _, _, _, _⟩ :: _) _ _); go_must (refine wpList_storeElfS HIW.out.res rfl rfl rfl rfl (by simp [Value.oneCell']) ?_; intro wn hhn hsn; have HE := Lib.hid (AllInv.own HIW.out hsn ⟨(gN l 16 2 : Nat), target, gN l 48 4, gN l 24 8, L.map (·.1), (segsP l k)⟩ rfl rfl); have f0 := cell_rec hhn 0; have f1 := cell_rec hhn 1; have f2 := cell_rec hhn 2; have f3 := cell_rec hhn 3; have f4 := cell_rec hhn 4; have f5 := cell_rec hhn 5; clear hhn hsn d0 d1 d2 d3 d4 d5)))
                simp only [List.getElem?_toArray, List.getElem?_cons_zero, List.getElem?_cons_succ] at f0 f1 f2 f3 f4 f5
                exact bodyPost_ret (v := .tuple #[elfV ⟨(gN l 16 2 : Nat), target, gN l 48 4, gN l 24 8, L.map (·.1), (segsP l k)⟩ (.slice sq sn sr) (.slice q n r), .bool false]) (by simp [results, Tryz.results38, go_sem, elfV, f0, f1, f2, f3, f4, f5]) rfl ⟨GuRes.no HE.out.1 HNO.out, HE.out.2⟩
          · obtain rfl : j = k2 := by omega
            have d0 := cell_rec HI2.out.blk 0
            have d1 := cell_rec HI2.out.blk 1
            have d2 := cell_rec HI2.out.blk 2
            have d3 := cell_rec HI2.out.blk 3
            have d4 := cell_rec HI2.out.blk 4
            have d5 := cell_rec HI2.out.blk 5
            simp only [List.getElem?_toArray, List.cons_append, List.nil_append, List.getElem?_cons_zero, List.getElem?_cons_succ] at d0 d1 d2 d3 d4 d5
            go_wp2_with (first | ((with_reducible show wpList _ _ _ (⟨none, .store _ (.tmp 4) _, _, _, _, _⟩ :: _) _ _); go_must (refine wpList_storeElfS HI2.out.res rfl rfl rfl rfl (by simp [Value.oneCell']) ?_; intro wn hhn hsn; have HE := Lib.hid (AllInv.own HI2.out hsn ⟨(gN l 16 2 : Nat), target, gN l 48 4, gN l 24 8, L.map (·.1), (segsP l k)⟩ rfl rfl); have f0 := cell_rec hhn 0; have f1 := cell_rec hhn 1; have f2 := cell_rec hhn 2; have f3 := cell_rec hhn 3; have f4 := cell_rec hhn 4; have f5 := cell_rec hhn 5; clear hhn hsn d0 d1 d2 d3 d4 d5)))
            simp only [List.getElem?_toArray, List.getElem?_cons_zero, List.getElem?_cons_succ] at f0 f1 f2 f3 f4 f5
            exact bodyPost_ret (v := .tuple #[elfV ⟨(gN l 16 2 : Nat), target, gN l 48 4, gN l 24 8, L.map (·.1), (segsP l k)⟩ (.slice sq sn sr) (.slice q n r), .bool true]) (by simp [results, Tryz.results38, go_sem, elfV, f0, f1, f2, f3, f4, f5]) rfl ⟨GuRes.yes HE.out.1 (by rw [HPE2.out, HL2.out]) HFEW.out, HE.out.2⟩
end Go.Proofs.YtimnbnomaajmmaaGreat
namespace Go.Proofs.YtimnbnomaajmmaaGreat
open Go.RowKit Go.Fd
set_option maxRecDepth 100000 in
theorem ref4Put_any (l : List UInt8) (n s : Nat) (v : Value) (w : World) (base : Nat) (hl : l.length ≤ 1000000000) (hn : n < 18446744073709551616) (hs : s ≤ 8) (hv : OB w base v l) (hbase : base ≤ w.heap.size) :
    Calls Tryz.prog 75 #[v, .int .u64 n, .int .i64 s] w fun e w' => ∃ v', e = .returned v' ∧ OB w' base v' (l ++ fixed n s) ∧ Below base w w' ∧ Keeps 5 w w' := by
  have HV := Lib.hid hv
  have HL := Lib.hid hl
  clear hv
  go_enter Tryz.func75, Tryz.ntmps75
  go_wp2_with (first
    | (go_at_call 101; refine (fixed_any n s _ hn hs).mono ?_; rintro e w1 ⟨u, rfl, hu, hb1⟩; have HU := Lib.hid hu; have HB1 := Lib.hid hb1; have HV1 := Lib.hid (HV.out.mono hb1); clear hu hb1)
    | ((with_reducible show wpList _ _ _ (⟨some 11, _, _, _, _, _⟩ :: _) _ _); go_must (refine wpList_catB HV1.out HU.out.bs rfl rfl (by rw [length_fixed]; have := HL.out; omega) (Nat.le_trans hbase HB1.out.size) ?_; intro v2 w2 hv2 hg2 hb2)))
  go_ret
  exact ⟨_, rfl, hv2, (HB1.out.mono hbase).trans hb2, (keeps_below HB1.out).trans (keeps_own HV1.out hg2)⟩
set_option maxHeartbeats 1000000 in
set_option maxRecDepth 100000 in
theorem till_any (l : List UInt8) (d : Nat) (z : Int) (v : Value) (w : World) (base : Nat) (hl : l.length + d ≤ 1000000000) (hz : z = ((l.length + d : Nat) : Int)) (hv : OB w base v l) (hbase : base ≤ w.heap.size) :
    Calls Tryz.prog 74 #[v, .int .i64 z] w fun e w' => ∃ v', e = .returned v' ∧ OB w' base v' (l ++ List.replicate d 0) ∧ Below base w w' ∧ Keeps 5 w w' := by
  have HV := Lib.hid hv
  obtain ⟨m, hm⟩ : ∃ m, m = l.length := ⟨_, rfl⟩
  rw [← hm] at hl hz
  have HM := Lib.hid hm
  obtain ⟨z', hz'⟩ : ∃ z' : Nat, z' = m + d := ⟨_, rfl⟩
  rw [← hz'] at hz
  subst hz
  have HZ := Lib.hid hz'
  clear hv hm hz'
  go_enter Tryz.func74, Tryz.ntmps74
  go_wp2
  go_loopw [0] (fun x wr => ∃ (k : Nat) (ad : Option Addr) (cap : Nat), x = .slice ad (m + k) cap ∧ k ≤ d ∧ Hid (OB wr base (.slice ad (m + k) cap) (l ++ List.replicate k 0)) ∧ Hid (Below base w wr) ∧ Hid (Keeps 5 w wr)) (fun x _ => m + d - lenV x)
  case atStart =>
    obtain ⟨m', ad, cap, hm', rfl, _, _⟩ := HV.out.shape
    obtain rfl : m' = m := hm'.out.trans HM.out.symm
    exact ⟨0, ad, cap, rfl, Nat.zero_le _, by simpa [Hid] using HV.out, Below.refl _ _, Keeps.refl _ _⟩
  case round =>
    obtain ⟨k, ad, cap, rfl, hk, HO, HB, HK⟩ := hrel
    by_cases hlt : k < d
    · have hlt2 : m + k < z' := by have := HZ.out; omega
      have hb0 := Nat.le_trans hbase HB.out.size
      go_wp2_with (((with_reducible show wpList _ _ _ (⟨some 11, _, _, _, _, _⟩ :: _) _ _); go_must (refine wpList_pushB HO.out rfl rfl 0 rfl (by rw [List.length_append, List.length_replicate]; have := HM.out; omega) hb0 ?_; intro v1 w1 hv1 hg1 hb1)))
      obtain ⟨m1, ad1, cap1, hm1, rfl, _, _⟩ := hv1.shape
      obtain rfl : m1 = m + (k + 1) := by have h1 := hm1.out; rw [List.length_append, List.length_append, List.length_replicate] at h1; have h2 := HM.out; simp at h1; omega
      have G1 : Hid (OB w1 base (.slice ad1 (m + (k + 1)) cap1) (l ++ List.replicate (k + 1) 0)) := by
        show OB _ _ _ _
        rw [List.replicate_succ', ← List.append_assoc]; exact hv1
      have G2 := Lib.hid (HB.out.trans hb1)
      have G3 := Lib.hid (HK.out.trans (keeps_own HO.out hg1))
      clear hv1 hg1 hb1 hm1
      go_roundw
      case rel =>
        first
          | exact ⟨k + 1, ad1, cap1, rfl, by omega, G1.out, G2.out, G3.out⟩
          | ((repeat apply Exists.intro); exact ⟨⟨k + 1, ad1, cap1, rfl, by omega, G1.out, G2.out, G3.out⟩, rfl⟩)
      case measure => simp [lenV] <;> omega
    · obtain rfl : k = d := by omega
      have hlt2 : ¬ (m + k < z') := by have := HZ.out; omega
      go_wp2
      go_ret
      exact ⟨_, rfl, HO.out, HB.out, HK.out⟩
end Go.Proofs.YtimnbnomaajmmaaGreat
namespace Go.Proofs.YtimnbnomaajmmaaGreat
open Go.RowKit Go.Fd
set_option maxHeartbeats 4000000 in
set_option maxRecDepth 100000 in
theorem header_any (l : List UInt8) (name p : Nat) (s : SecM) (dv v : Value) (w : World) (base : Nat) (hl : l.length ≤ 100000000) (hname : name ≤ 4611686018427387904) (hp : p ≤ 4611686018427387904) (hf : s.fits) (_hdv : dv.oneCell' = true) (hv : OB w base v l) (hbase : base ≤ w.heap.size) :
    Calls Tryz.prog 76 #[v, .int .i64 name, secV (s, dv), .int .i64 p] w fun e w' => ∃ v', e = .returned v' ∧ OB w' base v' (l ++ hdrBy name s p) ∧ Below base w w' ∧ Keeps 5 w w' := by
  have HV := Lib.hid hv
  have HFS := Lib.hid hf
  obtain ⟨sname, typ, flags, addr, align, size, link, info, ent, data⟩ := s

  have hty : typ < 4294967296 := HFS.out.1
  have hli : link < 4294967296 := HFS.out.2.2.2.2.2.1
  have hin : info < 4294967296 := HFS.out.2.2.2.2.2.2.1
  have HL := Lib.hid hl
  clear hv hf hl
  go_enter Tryz.func76, Tryz.ntmps76
  go_wp2_with ((with_reducible show wpList _ _ _ (⟨_, .box _ _, _, _, _, _⟩ :: _) _ _); go_must (refine wpList_box rfl ?_; intro w1 hx1 hb1 hs1; obtain ⟨e0, e1, e2, e3, e4, e5, e6, e7, e8, e9⟩ := sec_box (x := (⟨sname, typ, flags, addr, align, size, link, info, ent, data⟩, dv)) hx1; have HX1 := Lib.hid hx1; have HV1 := Lib.hid (HV.out.mono hb1); have HB1 := Lib.hid (hb1.mono hbase); have HK1 := Lib.hid (keeps_below (e0 := 5) hb1); clear hb1 hx1))
  refine (ref4Put_any _ name 4 v w1 base (by have h1 := HL.out; omega) (by omega) (by decide) HV1.out (Nat.le_trans hbase HB1.out.size)).mono ?_
  rintro r w2 ⟨v2, rfl, ho, hb, hk⟩
  have HV2 := Lib.hid ho
  have HB2 := Lib.hid (HB1.out.trans hb)
  have HK2 := Lib.hid (HK1.out.trans hk)
  have HX2 := Lib.hid (hk _ _ _ _ (by decide) HX1.out)
  clear ho hb hk
  clear e0 e1 e2 e3 e4 e5 e6 e7 e8 e9
  obtain ⟨e0, e1, e2, e3, e4, e5, e6, e7, e8, e9⟩ := sec_box (x := (⟨sname, typ, flags, addr, align, size, link, info, ent, data⟩, dv)) HX2.out
  go_wp2_with fail
  refine (ref4Put_any _ typ 4 v2 w2 base (by have h1 := HL.out; simp only [List.length_append, length_fixed]; omega) (by omega) (by decide) HV2.out (Nat.le_trans hbase HB2.out.size)).mono ?_
  rintro r w3 ⟨v3, rfl, ho, hb, hk⟩
  have HV3 := Lib.hid ho
  have HB3 := Lib.hid (HB2.out.trans hb)
  have HK3 := Lib.hid (HK2.out.trans hk)
  have HX3 := Lib.hid (hk _ _ _ _ (by decide) HX2.out)
  clear ho hb hk
  clear e0 e1 e2 e3 e4 e5 e6 e7 e8 e9
  obtain ⟨e0, e1, e2, e3, e4, e5, e6, e7, e8, e9⟩ := sec_box (x := (⟨sname, typ, flags, addr, align, size, link, info, ent, data⟩, dv)) HX3.out
  go_wp2_with fail
  refine (ref4Put_any _ flags 8 v3 w3 base (by have h1 := HL.out; simp only [List.length_append, length_fixed]; omega) HFS.out.2.1 (by decide) HV3.out (Nat.le_trans hbase HB3.out.size)).mono ?_
  rintro r w4 ⟨v4, rfl, ho, hb, hk⟩
  have HV4 := Lib.hid ho
  have HB4 := Lib.hid (HB3.out.trans hb)
  have HK4 := Lib.hid (HK3.out.trans hk)
  have HX4 := Lib.hid (hk _ _ _ _ (by decide) HX3.out)
  clear ho hb hk
  clear e0 e1 e2 e3 e4 e5 e6 e7 e8 e9
  obtain ⟨e0, e1, e2, e3, e4, e5, e6, e7, e8, e9⟩ := sec_box (x := (⟨sname, typ, flags, addr, align, size, link, info, ent, data⟩, dv)) HX4.out
  go_wp2_with fail
  refine (ref4Put_any _ addr 8 v4 w4 base (by have h1 := HL.out; simp only [List.length_append, length_fixed]; omega) HFS.out.2.2.1 (by decide) HV4.out (Nat.le_trans hbase HB4.out.size)).mono ?_
  rintro r w5 ⟨v5, rfl, ho, hb, hk⟩
  have HV5 := Lib.hid ho
  have HB5 := Lib.hid (HB4.out.trans hb)
  have HK5 := Lib.hid (HK4.out.trans hk)
  have HX5 := Lib.hid (hk _ _ _ _ (by decide) HX4.out)
  clear ho hb hk
  clear e0 e1 e2 e3 e4 e5 e6 e7 e8 e9
  obtain ⟨e0, e1, e2, e3, e4, e5, e6, e7, e8, e9⟩ := sec_box (x := (⟨sname, typ, flags, addr, align, size, link, info, ent, data⟩, dv)) HX5.out
  go_wp2_with fail
  refine (ref4Put_any _ p 8 v5 w5 base (by have h1 := HL.out; simp only [List.length_append, length_fixed]; omega) (by omega) (by decide) HV5.out (Nat.le_trans hbase HB5.out.size)).mono ?_
  rintro r w6 ⟨v6, rfl, ho, hb, hk⟩
  have HV6 := Lib.hid ho
  have HB6 := Lib.hid (HB5.out.trans hb)
  have HK6 := Lib.hid (HK5.out.trans hk)
  have HX6 := Lib.hid (hk _ _ _ _ (by decide) HX5.out)
  clear ho hb hk
  clear e0 e1 e2 e3 e4 e5 e6 e7 e8 e9
  obtain ⟨e0, e1, e2, e3, e4, e5, e6, e7, e8, e9⟩ := sec_box (x := (⟨sname, typ, flags, addr, align, size, link, info, ent, data⟩, dv)) HX6.out
  go_wp2_with fail
  refine (ref4Put_any _ size 8 v6 w6 base (by have h1 := HL.out; simp only [List.length_append, length_fixed]; omega) HFS.out.2.2.2.2.1 (by decide) HV6.out (Nat.le_trans hbase HB6.out.size)).mono ?_
  rintro r w7 ⟨v7, rfl, ho, hb, hk⟩
  have HV7 := Lib.hid ho
  have HB7 := Lib.hid (HB6.out.trans hb)
  have HK7 := Lib.hid (HK6.out.trans hk)
  have HX7 := Lib.hid (hk _ _ _ _ (by decide) HX6.out)
  clear ho hb hk
  clear e0 e1 e2 e3 e4 e5 e6 e7 e8 e9
  obtain ⟨e0, e1, e2, e3, e4, e5, e6, e7, e8, e9⟩ := sec_box (x := (⟨sname, typ, flags, addr, align, size, link, info, ent, data⟩, dv)) HX7.out
  go_wp2_with fail
  refine (ref4Put_any _ link 4 v7 w7 base (by have h1 := HL.out; simp only [List.length_append, length_fixed]; omega) (by omega) (by decide) HV7.out (Nat.le_trans hbase HB7.out.size)).mono ?_
  rintro r w8 ⟨v8, rfl, ho, hb, hk⟩
  have HV8 := Lib.hid ho
  have HB8 := Lib.hid (HB7.out.trans hb)
  have HK8 := Lib.hid (HK7.out.trans hk)
  have HX8 := Lib.hid (hk _ _ _ _ (by decide) HX7.out)
  clear ho hb hk
  clear e0 e1 e2 e3 e4 e5 e6 e7 e8 e9
  obtain ⟨e0, e1, e2, e3, e4, e5, e6, e7, e8, e9⟩ := sec_box (x := (⟨sname, typ, flags, addr, align, size, link, info, ent, data⟩, dv)) HX8.out
  go_wp2_with fail
  refine (ref4Put_any _ info 4 v8 w8 base (by have h1 := HL.out; simp only [List.length_append, length_fixed]; omega) (by omega) (by decide) HV8.out (Nat.le_trans hbase HB8.out.size)).mono ?_
  rintro r w9 ⟨v9, rfl, ho, hb, hk⟩
  have HV9 := Lib.hid ho
  have HB9 := Lib.hid (HB8.out.trans hb)
  have HK9 := Lib.hid (HK8.out.trans hk)
  have HX9 := Lib.hid (hk _ _ _ _ (by decide) HX8.out)
  clear ho hb hk
  clear e0 e1 e2 e3 e4 e5 e6 e7 e8 e9
  obtain ⟨e0, e1, e2, e3, e4, e5, e6, e7, e8, e9⟩ := sec_box (x := (⟨sname, typ, flags, addr, align, size, link, info, ent, data⟩, dv)) HX9.out
  go_wp2_with fail
  refine (ref4Put_any _ align 8 v9 w9 base (by have h1 := HL.out; simp only [List.length_append, length_fixed]; omega) HFS.out.2.2.2.1 (by decide) HV9.out (Nat.le_trans hbase HB9.out.size)).mono ?_
  rintro r w10 ⟨v10, rfl, ho, hb, hk⟩
  have HV10 := Lib.hid ho
  have HB10 := Lib.hid (HB9.out.trans hb)
  have HK10 := Lib.hid (HK9.out.trans hk)
  have HX10 := Lib.hid (hk _ _ _ _ (by decide) HX9.out)
  clear ho hb hk
  clear e0 e1 e2 e3 e4 e5 e6 e7 e8 e9
  obtain ⟨e0, e1, e2, e3, e4, e5, e6, e7, e8, e9⟩ := sec_box (x := (⟨sname, typ, flags, addr, align, size, link, info, ent, data⟩, dv)) HX10.out
  go_wp2_with fail
  refine (ref4Put_any _ ent 8 v10 w10 base (by have h1 := HL.out; simp only [List.length_append, length_fixed]; omega) HFS.out.2.2.2.2.2.2.2 (by decide) HV10.out (Nat.le_trans hbase HB10.out.size)).mono ?_
  rintro r w11 ⟨v11, rfl, ho, hb, hk⟩
  have HV11 := Lib.hid ho
  have HB11 := Lib.hid (HB10.out.trans hb)
  have HK11 := Lib.hid (HK10.out.trans hk)
  have HX11 := Lib.hid (hk _ _ _ _ (by decide) HX10.out)
  clear ho hb hk
  go_wp2
  go_ret
  refine ⟨_, rfl, ?_, HB11.out, HK11.out⟩
  have := HV11.out
  unfold hdrBy putL
  simp only [List.append_assoc, List.flatMap_cons, List.flatMap_nil, List.append_nil] at this ⊢
  exact this
end Go.Proofs.YtimnbnomaajmmaaGreat
namespace Go.Proofs.YtimnbnomaajmmaaGreat
open Go.RowKit Go.Fd
def secB2 (s : SecM) : Bool := secB s && mayS s.name
theorem names_ok {e : ElfM} (hl : e.secs.length ≤ 250) : (buildR (namesOf e.secs)).2.2 = 0 ↔ (e.secs.all fun s => mayS s.name) = true := by
  have hall : (namesOf e.secs).all mayS = e.secs.all fun s => mayS s.name := by
    unfold namesOf
    rw [List.all_append, List.all_map]
    have : [tabName].all mayS = true := by decide
    rw [this, Bool.and_true]
    rfl
  constructor
  · intro h
    rw [← hall]
    exact (build_ok h).1
  · intro h
    rw [← hall] at h
    have hb := buildT_len (namesOf e.secs) (fun x hx => mayS_len (List.all_eq_true.1 h x hx))
    rw [namesOf_len] at hb
    unfold buildR
    rw [if_pos h, if_neg (by omega)]
theorem mayE_4 {e : ElfM} (h : e.secs.all secB2 = false) : mayE e = false := by
  rw [Bool.eq_false_iff]
  intro hm
  unfold mayE at hm
  simp only [Bool.and_eq_true] at hm
  obtain ⟨⟨h1, h2⟩, h3⟩ := hm
  have hl : e.secs.length ≤ 250 := by
    unfold may1 at h1
    simp only [Bool.and_eq_true, decide_eq_true_eq] at h1
    exact h1.1.2
  unfold may3 at h3
  simp only [Bool.and_eq_true, decide_eq_true_eq] at h3
  have h4 := (names_ok hl).1 h3.1
  unfold may2 at h2
  simp only [Bool.and_eq_true] at h2
  rw [Bool.eq_false_iff] at h
  apply h
  rw [List.all_eq_true]
  intro s hs
  have h5 := List.all_eq_true.1 h2.1 s hs
  have h6 := List.all_eq_true.1 h4 s hs
  unfold secB2 secB
  rw [h6]
  simpa using h5
set_option maxHeartbeats 4000000 in
set_option maxRecDepth 100000 in
theorem ref4May_any (e : ElfM) (L : List (SecM × Value)) (sv gv : Value) (w : World) (h : ElfAt w e L sv gv) (ho : ElfOk e) :
    Calls Tryz.prog 69 #[elfV e sv gv] w fun r w' => r = .returned (.bool (mayE e)) ∧ Below w.heap.size w w' := by
  obtain ⟨a, ca, rfl, hca, -, hc⟩ := h.rd.open (fun _ => rfl)
  obtain ⟨ga, gc, rfl, hgc, -, hcg⟩ := h.segs.open (fun _ => rfl)
  have HC := Lib.hid hc
  have HCG := Lib.hid hcg
  have HAT := Lib.hid h
  have HOK := Lib.hid ho
  have HD := Lib.hid h.data
  have HSE := Lib.hid (fun k x (hk : L[k]? = some x) => sec_of h.secs hk)
  have HEL := Lib.hid (show e.secs.length = L.length by rw [h.secs, List.length_map])
  obtain ⟨nl, hnl⟩ : ∃ n, n = L.length := ⟨_, rfl⟩
  obtain ⟨gn, hgn⟩ : ∃ n, n = e.segs.length := ⟨_, rfl⟩
  rw [← hnl] at hca HAT ⊢
  rw [← hgn] at hgc HAT ⊢
  have HL := Lib.hid hnl
  have HGN := Lib.hid hgn
  have hnl9 : nl ≤ 1000000000 := by have := HOK.out.secs; have := HEL.out; omega
  have hgn9 : gn ≤ 1000000000 := by have := HOK.out.segs; omega
  clear hc hcg h hnl hgn ho
  have HM1 : Hid (may1 e = ((decide (e.typ = 1) || decide (e.typ = 2)) && !decide (mach e.target = 0) && decide (nl ≤ 250) && decide (gn ≤ 16))) := by
    unfold may1
    rw [HEL.out, ← HL.out, ← HGN.out]
    exact rfl
  have HMC := Lib.hid (fun w => ref4Machine_any e.target w)
  have hmc := mach_le e.target
  generalize mach e.target = mt at *
  by_cases h1 : may1 e = true
  · have hm1 := h1
    rw [HM1.out] at hm1
    simp only [Bool.and_eq_true, Bool.or_eq_true, Bool.not_eq_true', decide_eq_true_eq, decide_eq_false_iff_not] at hm1
    obtain ⟨⟨⟨hty, hmt⟩, hn250⟩, hg16⟩ := hm1
    have ht : (e.typ != 1) = false ∨ ((e.typ != 1) = true ∧ (e.typ != 2) = false) := by
      rcases hty with h | h
      · exact .inl (by rw [h]; rfl)
      · exact .inr (by rw [h]; exact ⟨rfl, rfl⟩)
    have hmt0 : ((mt : Int) == 0) = false := by rw [beq_eq_false_iff_ne]; omega
    have HM2 := Lib.hid h1
    have HX9 := Lib.hid hmt
    clear h1 hty hmt HM1
    rcases ht with ht1 | ⟨ht1, ht2⟩
    all_goals
      go_enter Tryz.func69, Tryz.ntmps69
      go_wp2_with (first
        | ((with_reducible show wpList _ _ _ (⟨_, .box _ _, _, _, _, _⟩ :: _) _ _); go_must (refine wpList_box rfl ?_; intro w1 hx1 hb1 hs1; obtain ⟨c0, c1, c2, c3, c4, c5⟩ := elf_box hx1))
        | (go_at_call 36; refine (HMC.out _).mono ?_; rintro r w2 ⟨rfl, rfl⟩))
      have HX1 := Lib.hid hx1
      have HB1 := Lib.hid hb1
      clear c0 c1 c2 c3 c4 c5 hx1 hb1
      go_loopw [3] (fun i wr => ∃ k : Nat, i = .int .i64 k ∧ k ≤ nl ∧ Hid ((e.secs.take k).all secB2 = true) ∧ Hid (Below w1.heap.size w1 wr)) (fun i _ => nl - (intOf i).toNat)
      case atStart => exact ⟨0, rfl, Nat.zero_le _, rfl, Below.refl _ _⟩
      case round =>
        obtain ⟨k, rfl, hk, HT, HB⟩ := hrel
        have hbs := HB.out.size
        have HBW := Lib.hid (HB1.out.trans (HB.out.mono HB1.out.size))
        obtain ⟨d0, d1, d2, d3, d4, d5⟩ := elf_box (heap_below HB.out HX1.out)
        clear d0 d1 d2 d3
        by_cases hlt : k < nl
        · clear d5
          have X1 := Lib.hid (show L[k]? = some (L[k]'(by have := HL.out; omega)) from List.getElem?_eq_getElem _)
          generalize L[k]'(by have := HL.out; omega) = x at *
          obtain ⟨s, dv⟩ := x
          obtain ⟨dm, da, dc, hdm, rfl, _, _⟩ := (HD.out _ (List.mem_of_getElem? X1.out)).shape
          have X2 := Lib.hid (HSE.out _ _ X1.out)
          have hdl : dm ≤ 2147483648 := by
            have h1 := dsum_mem (List.mem_of_getElem? X2.out)
            have h2 := HOK.out.data
            have h3 := hdm.out
            dsimp only at h1 h3
            omega
          have HMA := Lib.hid (fun w => ref3May_any s.name w (HOK.out.names _ (List.mem_of_getElem? X2.out)))
          have HPO := Lib.hid (fun w => ref4Power_any s.align w (HOK.out.fits.secs _ (List.mem_of_getElem? X2.out)).2.2.2.1)
          obtain ⟨b1, o1, ha, c10, c11, c12, c13, c14, c15, c16, c17, c18, c19, -⟩ := sec_cells HC.out HBW.out X1.out
          subst ha
          have HSB : Hid (secB2 s = ((!decide (s.typ = 0) && powB s.align && !decide (s.name = []) && (if s.typ = 8 then decide (dm = 0) && decide (s.size ≤ 1073741824) else decide (s.size = dm))) && decide (dm ≤ 4194304) && mayS s.name)) := by unfold secB2 secB fineB; rw [hdm.out]; exact rfl
          have HGO := Lib.hid (fun hb : secB2 s = true => all_step (f := secB2) X2.out HT.out hb)
          have HNO := Lib.hid (fun hb : secB2 s = false => mayE_4 (e := e) (all_no (f := secB2) X2.out hb))
          obtain ⟨name, typ, flags, addr, align, size, link, info, ent, data⟩ := s
          dsimp only at *
          generalize powB align = pb at *
          generalize mayS name = ms at *
          generalize secB2 ⟨name, typ, flags, addr, align, size, link, info, ent, data⟩ = sb at *
          by_cases hn : name = []
          · have hne : name.isEmpty = true := by simp [hn]
            have HR := Lib.hid (HNO.out (by rw [HSB.out]; simp [hn]))
            have HX := Lib.hid hn
            clear HNO HGO HSB hn
            go_wp2_with (first
              | ((with_reducible show wpList _ _ _ (⟨none, .store _ _ _, _, _, _, _⟩ :: _) _ _); go_must (refine wpList_storeNew rfl rfl (by kernel_rfl) rfl (by simp [Value.oneCell']) ?_; intro w2 hh2 hb2; obtain ⟨e0, e1, e2, e3, e4, e5, e6, e7, e8, e9⟩ := sec_box (x := (⟨name, typ, flags, addr, align, size, link, info, ent, data⟩, .slice da dm dc)) hh2; have HB2 := Lib.hid (HB.out.trans (hb2.mono HB.out.size))))
              | (go_at_call 99; refine (HMA.out _).mono ?_; rintro r w4 ⟨rfl, rfl⟩)
              | (go_at_call 100; refine (HPO.out _).mono ?_; rintro r w5 ⟨rfl, rfl⟩))
            go_ret
            exact ⟨by rw [HR.out]; rfl, HB1.out.trans (HB2.out.mono HB1.out.size)⟩
          have hne : name.isEmpty = false := by simpa using hn
          have HXn := Lib.hid hn
          cases ms with
          | false =>
            have HR := Lib.hid (HNO.out (by rw [HSB.out]; simp))
            clear HNO HGO HSB hn
            go_wp2_with (first
              | ((with_reducible show wpList _ _ _ (⟨none, .store _ _ _, _, _, _, _⟩ :: _) _ _); go_must (refine wpList_storeNew rfl rfl (by kernel_rfl) rfl (by simp [Value.oneCell']) ?_; intro w2 hh2 hb2; obtain ⟨e0, e1, e2, e3, e4, e5, e6, e7, e8, e9⟩ := sec_box (x := (⟨name, typ, flags, addr, align, size, link, info, ent, data⟩, .slice da dm dc)) hh2; have HB2 := Lib.hid (HB.out.trans (hb2.mono HB.out.size))))
              | (go_at_call 99; refine (HMA.out _).mono ?_; rintro r w4 ⟨rfl, rfl⟩)
              | (go_at_call 100; refine (HPO.out _).mono ?_; rintro r w5 ⟨rfl, rfl⟩))
            go_ret
            exact ⟨by rw [HR.out]; rfl, HB1.out.trans (HB2.out.mono HB1.out.size)⟩
          | true =>
          cases pb with
          | false =>
            have HR := Lib.hid (HNO.out (by rw [HSB.out]; simp))
            clear HNO HGO HSB hn
            go_wp2_with (first
              | ((with_reducible show wpList _ _ _ (⟨none, .store _ _ _, _, _, _, _⟩ :: _) _ _); go_must (refine wpList_storeNew rfl rfl (by kernel_rfl) rfl (by simp [Value.oneCell']) ?_; intro w2 hh2 hb2; obtain ⟨e0, e1, e2, e3, e4, e5, e6, e7, e8, e9⟩ := sec_box (x := (⟨name, typ, flags, addr, align, size, link, info, ent, data⟩, .slice da dm dc)) hh2; have HB2 := Lib.hid (HB.out.trans (hb2.mono HB.out.size))))
              | (go_at_call 99; refine (HMA.out _).mono ?_; rintro r w4 ⟨rfl, rfl⟩)
              | (go_at_call 100; refine (HPO.out _).mono ?_; rintro r w5 ⟨rfl, rfl⟩))
            go_ret
            exact ⟨by rw [HR.out]; rfl, HB1.out.trans (HB2.out.mono HB1.out.size)⟩
          | true =>
          by_cases h0 : typ = 0
          · have h0' : ((typ : Int) == 0) = true := by rw [beq_iff_eq]; omega
            have HR := Lib.hid (HNO.out (by rw [HSB.out]; simp [h0]))
            have HX := Lib.hid h0
            clear HNO HGO HSB hn h0
            go_wp2_with (first
              | ((with_reducible show wpList _ _ _ (⟨none, .store _ _ _, _, _, _, _⟩ :: _) _ _); go_must (refine wpList_storeNew rfl rfl (by kernel_rfl) rfl (by simp [Value.oneCell']) ?_; intro w2 hh2 hb2; obtain ⟨e0, e1, e2, e3, e4, e5, e6, e7, e8, e9⟩ := sec_box (x := (⟨name, typ, flags, addr, align, size, link, info, ent, data⟩, .slice da dm dc)) hh2; have HB2 := Lib.hid (HB.out.trans (hb2.mono HB.out.size))))
              | (go_at_call 99; refine (HMA.out _).mono ?_; rintro r w4 ⟨rfl, rfl⟩)
              | (go_at_call 100; refine (HPO.out _).mono ?_; rintro r w5 ⟨rfl, rfl⟩))
            go_ret
            exact ⟨by rw [HR.out]; rfl, HB1.out.trans (HB2.out.mono HB1.out.size)⟩
          have h0' : ((typ : Int) == 0) = false := by rw [beq_eq_false_iff_ne]; omega
          have HSB1 : Hid (sb = ((if typ = 8 then decide (dm = 0) && decide (size ≤ 1073741824) else decide (size = dm)) && decide (dm ≤ 4194304))) := by rw [HSB.out, decide_eq_false h0, decide_eq_false hn]; simp [Hid]
          have HX0 := Lib.hid h0
          clear HSB h0 hn
          have hcase : (((typ : Int) == 8) = true ∧ ((typ : Int) != 8) = false ∧ ((dm : Int) != 0) = false ∧ ¬ (1073741824 : Int) < (size : Int) ∧ Hid (sb = decide (dm ≤ 4194304))) ∨ (((typ : Int) == 8) = false ∧ ((typ : Int) != 8) = true ∧ ((size : Int) != (dm : Int)) = false ∧ Hid (sb = decide (dm ≤ 4194304))) ∨
              (((typ : Int) == 8) = true ∧ ((typ : Int) != 8) = false ∧ ((dm : Int) != 0) = true ∧ Hid (sb = false)) ∨ (((typ : Int) == 8) = true ∧ ((typ : Int) != 8) = false ∧ ((dm : Int) != 0) = false ∧ (1073741824 : Int) < (size : Int) ∧ Hid (sb = false)) ∨ (((typ : Int) == 8) = false ∧ ((typ : Int) != 8) = true ∧ ((size : Int) != (dm : Int)) = true ∧ Hid (sb = false)) := by
            rw [beq_iff_eq, beq_eq_false_iff_ne, bne_iff_ne, bne_eq_false_iff_eq, bne_iff_ne, bne_eq_false_iff_eq, bne_iff_ne, bne_eq_false_iff_eq, HSB1.out]
            by_cases h8 : typ = 8
            · rw [if_pos h8]
              by_cases hm : dm = 0
              · by_cases hs : size ≤ 1073741824
                · exact .inl ⟨by omega, by omega, by omega, by omega, by rw [decide_eq_true hm, decide_eq_true hs]; exact rfl⟩
                · exact .inr (.inr (.inr (.inl ⟨by omega, by omega, by omega, by omega, by rw [decide_eq_false hs]; simp [Hid]⟩)))
              · exact .inr (.inr (.inl ⟨by omega, by omega, by omega, by rw [decide_eq_false hm]; simp [Hid]⟩))
            · rw [if_neg h8]
              by_cases hs : size = dm
              · exact .inr (.inl ⟨by omega, by omega, by omega, by rw [decide_eq_true hs]; exact rfl⟩)
              · exact .inr (.inr (.inr (.inr ⟨by omega, by omega, by omega, by rw [decide_eq_false hs]; exact rfl⟩)))
          clear HSB1
          rcases hcase with ⟨h8, h8', hm, hs, HSB⟩ | ⟨h8, h8', hm, HSB⟩ | ⟨h8, h8', hm, HSB⟩ | ⟨h8, h8', hm, hs, HSB⟩ | ⟨h8, h8', hm, HSB⟩
          case inr.inr.inl | inr.inr.inr.inl | inr.inr.inr.inr =>
            have HR := Lib.hid (HNO.out HSB.out)
            clear HNO HGO HSB
            go_wp2_with (first
              | ((with_reducible show wpList _ _ _ (⟨none, .store _ _ _, _, _, _, _⟩ :: _) _ _); go_must (refine wpList_storeNew rfl rfl (by kernel_rfl) rfl (by simp [Value.oneCell']) ?_; intro w2 hh2 hb2; obtain ⟨e0, e1, e2, e3, e4, e5, e6, e7, e8, e9⟩ := sec_box (x := (⟨name, typ, flags, addr, align, size, link, info, ent, data⟩, .slice da dm dc)) hh2; have HB2 := Lib.hid (HB.out.trans (hb2.mono HB.out.size))))
              | (go_at_call 99; refine (HMA.out _).mono ?_; rintro r w4 ⟨rfl, rfl⟩)
              | (go_at_call 100; refine (HPO.out _).mono ?_; rintro r w5 ⟨rfl, rfl⟩))
            go_ret
            exact ⟨by rw [HR.out]; rfl, HB1.out.trans (HB2.out.mono HB1.out.size)⟩
          all_goals
            by_cases hd4 : dm ≤ 4194304
            · have HT1 := Lib.hid (HGO.out (by rw [HSB.out, decide_eq_true hd4]))
              clear HNO HGO HSB
              go_wp2_with (first
                | ((with_reducible show wpList _ _ _ (⟨none, .store _ _ _, _, _, _, _⟩ :: _) _ _); go_must (refine wpList_storeNew rfl rfl (by kernel_rfl) rfl (by simp [Value.oneCell']) ?_; intro w2 hh2 hb2; obtain ⟨e0, e1, e2, e3, e4, e5, e6, e7, e8, e9⟩ := sec_box (x := (⟨name, typ, flags, addr, align, size, link, info, ent, data⟩, .slice da dm dc)) hh2; have HB2 := Lib.hid (HB.out.trans (hb2.mono HB.out.size))))
                | (go_at_call 99; refine (HMA.out _).mono ?_; rintro r w4 ⟨rfl, rfl⟩)
                | (go_at_call 100; refine (HPO.out _).mono ?_; rintro r w5 ⟨rfl, rfl⟩))
              go_roundw
              case rel =>
                first
                  | exact ⟨k + 1, by go_num, by omega, HT1.out, HB2.out⟩
                  | ((repeat apply Exists.intro); exact ⟨⟨k + 1, by go_num, by omega, HT1.out, HB2.out⟩, rfl⟩)
              case measure => simp [intOf] <;> omega
            · have HR := Lib.hid (HNO.out (by rw [HSB.out, decide_eq_false hd4]))
              clear HNO HGO HSB
              go_wp2_with (first
                | ((with_reducible show wpList _ _ _ (⟨none, .store _ _ _, _, _, _, _⟩ :: _) _ _); go_must (refine wpList_storeNew rfl rfl (by kernel_rfl) rfl (by simp [Value.oneCell']) ?_; intro w2 hh2 hb2; obtain ⟨e0, e1, e2, e3, e4, e5, e6, e7, e8, e9⟩ := sec_box (x := (⟨name, typ, flags, addr, align, size, link, info, ent, data⟩, .slice da dm dc)) hh2; have HB2 := Lib.hid (HB.out.trans (hb2.mono HB.out.size))))
                | (go_at_call 99; refine (HMA.out _).mono ?_; rintro r w4 ⟨rfl, rfl⟩)
                | (go_at_call 100; refine (HPO.out _).mono ?_; rintro r w5 ⟨rfl, rfl⟩))
              go_ret
              exact ⟨by rw [HR.out]; rfl, HB1.out.trans (HB2.out.mono HB1.out.size)⟩
        ·
          have hkn : e.secs.take k = e.secs := List.take_of_length_le (by have := HL.out; have := HEL.out; omega)
          have HALL : Hid (e.secs.all secB2 = true) := by
            have := HT.out
            rw [hkn] at this
            exact this
          have HBF := Lib.hid HB.out
          clear HT hkn
          go_wp2
          go_loopw [5] (fun i wx => ∃ k : Nat, i = .int .i64 k ∧ k ≤ gn ∧ Hid ((e.segs.take k).all (fun s => powB s.align) = true) ∧ Hid (Below w1.heap.size w1 wx)) (fun i _ => gn - (intOf i).toNat)
          case atStart => exact ⟨0, rfl, Nat.zero_le _, rfl, HBF.out⟩
          case round =>
            clear d4 d5
            obtain ⟨k, rfl, hk, HT, HB⟩ := hrel
            have hbs := HB.out.size
            have HBW := Lib.hid (HB1.out.trans (HB.out.mono HB1.out.size))
            obtain ⟨d0, d1, d2, d3, d4, d5⟩ := elf_box (heap_below HB.out HX1.out)
            by_cases hlt : k < gn
            · clear d0 d1 d2 d3 d4
              have X1 := Lib.hid (show e.segs[k]? = some (e.segs[k]'(by have := HGN.out; omega)) from List.getElem?_eq_getElem _)
              generalize e.segs[k]'(by have := HGN.out; omega) = x at *
              have HPO := Lib.hid (fun w => ref4Power_any x.align w (HOK.out.fits.segs _ (List.mem_of_getElem? X1.out)).2.2.2.2.2.2)
              have HGO := Lib.hid (fun hb : powB x.align = true => all_step (f := fun s : SegM => powB s.align) X1.out HT.out hb)
              have HNO := Lib.hid (fun hb : powB x.align = false => mayE_3 (all_no (f := fun s : SegM => powB s.align) X1.out hb))
              obtain ⟨b1, o1, ha, c10, c11, c12, c13, c14, c15, c16, -⟩ := seg_cells HCG.out HBW.out X1.out
              subst ha
              obtain ⟨typ, flags, off, vaddr, filesz, memsz, align⟩ := x
              dsimp only at *
              generalize powB align = pb at *
              cases pb with
              | false =>
                have HR := Lib.hid (HNO.out rfl)
                clear HNO HGO
                go_wp2_with (go_at_call 100; refine (HPO.out _).mono ?_; rintro r w4 ⟨rfl, rfl⟩)
                go_ret
                exact ⟨by rw [HR.out]; rfl, HBW.out⟩
              | true =>
                have HT1 := Lib.hid (HGO.out rfl)
                clear HNO HGO
                go_wp2_with (go_at_call 100; refine (HPO.out _).mono ?_; rintro r w4 ⟨rfl, rfl⟩)
                go_roundw
                case rel =>
                  first
                    | exact ⟨k + 1, by go_num, by omega, HT1.out, HB.out⟩
                    | ((repeat apply Exists.intro); exact ⟨⟨k + 1, by go_num, by omega, HT1.out, HB.out⟩, rfl⟩)
                case measure => simp [intOf] <;> omega
            · have hkn : e.segs.take k = e.segs := List.take_of_length_le (by have := HGN.out; omega)
              have HALG : Hid ((e.segs.all fun s => powB s.align) = true) := by
                have := HT.out
                rw [hkn] at this
                exact this
              have HAS : Hid (e.secs.all secB = true) := by
                refine List.all_eq_true.2 fun s hs => ?_
                have := List.all_eq_true.1 HALL.out s hs
                unfold secB2 at this
                simp only [Bool.and_eq_true] at this
                exact this.1
              have HM3 := Lib.hid (mayE_all HM2.out HAS.out HALG.out)
              have hz : (buildR (namesOf e.secs)).2.2 = 0 := (names_ok (by have := HEL.out; have := HL.out; omega)).2 (List.all_eq_true.2 fun s hs => by
                have := List.all_eq_true.1 HALL.out s hs
                unfold secB2 at this
                simp only [Bool.and_eq_true] at this
                exact this.2)
              have HPW : Hid (∀ s ∈ e.secs, powB s.align = true) := fun s hs => fineB_pow (by
                have := List.all_eq_true.1 HAS.out s hs
                unfold secB at this
                simp only [Bool.and_eq_true] at this
                exact this.1)
              have HPL := Lib.hid (ref4Places_any e L _ _ _ (HAT.out.mono HBW.out) (by have := HL.out; omega) (by have := HGN.out; omega) HPW.out HOK.out.fits.secs HOK.out.data)
              clear HT hkn
              go_wp2_with fail
              clear d0 d1 d2 d3 d4 d5
              refine HPL.out.mono ?_
              rintro r w2 ⟨v1, rfl, -, hb2⟩
              have HB2 := Lib.hid (HB.out.trans (hb2.mono HB.out.size))
              have HBW2 := Lib.hid (HB1.out.trans (HB2.out.mono HB1.out.size))
              clear hb2 HPL
              have HNA := Lib.hid (ref4Names_any e L _ _ _ (HAT.out.mono HBW2.out) (by have := HL.out; omega))
              obtain ⟨d0, d1, d2, d3, d4, d5⟩ := elf_box (heap_below HB2.out HX1.out)
              go_wp2_with fail
              clear d0 d1 d2 d3 d4 d5
              refine HNA.out.mono ?_
              rintro r w3 ⟨v2, rfl, ow2, hb3⟩
              have HB3 := Lib.hid (HB2.out.trans (hb3.mono HB2.out.size))
              have HBW3 := Lib.hid (HB1.out.trans (HB3.out.mono HB1.out.size))
              have HBU := Lib.hid (ref3Build_any (namesOf e.secs) v2 w3 (by rw [namesOf_len]; have h1 := HEL.out; have h2 := HL.out; omega) (fun s hs => by
                unfold namesOf at hs
                rw [List.mem_append, List.mem_map, List.mem_singleton] at hs
                rcases hs with ⟨x, hx, rfl⟩ | rfl
                · exact HOK.out.names _ hx
                · decide) ow2.rd)
              clear ow2 hb3 HNA
              go_wp2_with fail
              have HTL := Lib.hid (tabOf_len e)
              have HTD : Hid (tabOf e = (buildR (namesOf e.secs)).1) := rfl
              refine HBU.out.mono ?_
              rintro r w4 ⟨v3, v4, rfl, ob3, -, hb4⟩
              have HB4 := Lib.hid (HB3.out.trans (hb4.mono HB3.out.size))
              have HBW4 := Lib.hid (HB1.out.trans (HB4.out.mono HB1.out.size))
              obtain ⟨tn, ta, tc, htn, rfl, _, _⟩ := ob3.bs.shape
              rw [← HTD.out] at htn
              have htl : tn ≤ 40000 := by have h1 := HTL.out; have h2 := htn.out; have h3 := HEL.out; have h4 := HL.out; omega
              clear ob3 hb4 HBU
              have HM4 := Lib.hid (may3_yes hz htn.out)
              have hhl := headsOf_le (t := tn) HPW.out (by have := HEL.out; have := HL.out; omega) (by have := HGN.out; omega) HOK.out.data (by omega)
              have HFIN : Hid (mayE e = decide ((headsOf e tn : Int) + 64 * ((nl : Int) + 2) ≤ 4194304)) := by
                have h1 := HEL.out; have h2 := HL.out; rw [HM3.out, HM4.out, Bool.eq_iff_iff, decide_eq_true_iff, decide_eq_true_iff]
                constructor <;> intro h <;> omega
              have HU := Lib.hid (fun w => ref4Up_any ((placesOf e).2 + tn) 8 w (by omega) (by decide) (by decide))
              have HUD : Hid (upN ((placesOf e).2 + tn) 8 = headsOf e tn) := rfl
              rw [HUD.out] at HU
              rw [hz]
              have HXZ := Lib.hid hz
              clear hz HM3 HM4 HUD
              generalize headsOf e tn = hh at *
              generalize (placesOf e).2 = pe at *
              obtain ⟨hpe, hhl⟩ := hhl
              obtain ⟨d0, d1, d2, d3, d4, d5⟩ := elf_box (heap_below HB4.out HX1.out)
              have hAB := fun (x : Above w4) (b k : Nat) (h : b < w4.heap.size) => Above.cell x b k h
              have hblt : w.heap.size < w4.heap.size := block_lt d4
              go_wp2
              refine wp_region_walk 13 [(4, .is (.int .i64 (hh : Nat)))] (by kernel_rfl) (by kernel_rfl) ?_
              simp only [List.take_succ_cons, List.take_zero, List.drop_succ_cons, List.drop_zero]
              repeat (first
                | (refine walk_quiet rfl rfl rfl ?_; intro K hK; go_big_quiet_op; go_big_quiet_on)
                | (refine walk_is rfl rfl (fun wx hwx _ => WpYld.callIs (run_callL (vals := [.int .i64 ((pe : Int) + tn), .int .i64 8]) Tryz.func73 (by kernel_rfl) rfl rfl) (HU.out wx)) ?_; go_frame))
              refine walk_nil ?_
              intro wz hbz hF
              have HBZ := Lib.hid (HBW4.out.trans (hbz.mono HBW4.out.size))
              clear hF hbz
              go_wp2
              go_ret
              exact ⟨by rw [HFIN.out]; rfl, HBZ.out⟩
  · have HR := Lib.hid (mayE_1 (by simpa using h1))
    have hm1 : ((decide (e.typ = 1) || decide (e.typ = 2)) && !decide (mt = 0) && decide (nl ≤ 250) && decide (gn ≤ 16)) = false := by rw [← HM1.out]; simpa using h1
    have ht : ((e.typ != 1) = true ∧ (e.typ != 2) = true) ∨ ((e.typ != 1) = false ∨ ((e.typ != 1) = true ∧ (e.typ != 2) = false)) ∧ (((mt : Int) == 0) = true ∨ ((mt : Int) == 0) = false ∧ (250 < nl ∨ nl ≤ 250 ∧ 16 < gn)) := by
      by_cases t1 : e.typ = 1
      · refine .inr ⟨.inl (by rw [t1]; rfl), ?_⟩
        simp only [t1, decide_true, Bool.true_or, Bool.true_and, Bool.and_eq_false_iff, Bool.not_eq_false', decide_eq_true_eq, decide_eq_false_iff_not] at hm1
        rw [beq_iff_eq, beq_eq_false_iff_ne]
        omega
      · by_cases t2 : e.typ = 2
        · refine .inr ⟨.inr (by rw [t2]; exact ⟨rfl, rfl⟩), ?_⟩
          simp only [t2, decide_true, Bool.or_true, Bool.true_and, Bool.and_eq_false_iff, Bool.not_eq_false', decide_eq_true_eq, decide_eq_false_iff_not] at hm1
          rw [beq_iff_eq, beq_eq_false_iff_ne]
          omega
        · exact .inl ⟨by simpa using t1, by simpa using t2⟩
    have HX8 := Lib.hid h1
    clear h1 hm1 HM1
    rcases ht with ⟨ht1, ht2⟩ | ⟨ht1 | ⟨ht1, ht2⟩, hmt | ⟨hmt, hn | ⟨hn, hg⟩⟩⟩
    all_goals
      go_enter Tryz.func69, Tryz.ntmps69
      go_wp2_with (first
        | ((with_reducible show wpList _ _ _ (⟨_, .box _ _, _, _, _, _⟩ :: _) _ _); go_must (refine wpList_box rfl ?_; intro w1 hx1 hb1 hs1; obtain ⟨c0, c1, c2, c3, c4, c5⟩ := elf_box hx1))
        | (go_at_call 36; refine (HMC.out _).mono ?_; rintro r w2 ⟨rfl, rfl⟩))
      go_ret
      exact ⟨by rw [HR.out]; rfl, hb1⟩
end Go.Proofs.YtimnbnomaajmmaaGreat
