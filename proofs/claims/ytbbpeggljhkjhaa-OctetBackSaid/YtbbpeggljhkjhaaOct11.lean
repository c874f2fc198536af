/-
  Byte slices laid behind each other: slices.Grow, slices.Concat.
-/
import Derived.Test.YtbbpeggljhkjhaaByt
namespace Go.Proofs.Ytbbpeggljhkjhaa
open Go.RowKit Go.Fd

theorem run_append_zeros (w : World) (n : Nat) (h0 : 0 < n) (h48 : n ≤ 140737488355328) (ty : TypeId) :
    ∃ C w', n ≤ C ∧ (Builtin.append_ #[22, 3] ty #[.slice none 0 0, .int .i64 n]).run Try.prog w = .ok (.slice (some ⟨w.heap.size, 0, none⟩) n C) w' ∧ OB w' w.heap.size (.slice (some ⟨w.heap.size, 0, none⟩) 0 C) [] ∧ Below w.heap.size w w' := by
  obtain ⟨i, z, h1, h2, h3, h4, h5⟩ := TB.info
  have hu : Try.prog.underlying 3 = some (.int .i64) := by kernel_rfl
  have hn : n ≠ 0 := by omega
  have h63' : ¬ (9223372036854775807 < (n : Int)) := by omega
  have hbig : ¬ (281474976710656 < (n : Int)) := by omega
  have hw : IntKind.i64.wrap (n : Int) = n := by rw [wrapEq, IntWalk.wrap64_in]; omega
  refine ⟨grownCap w n 0 5, w.drew.alloc (.cells (#[] ++ Builtin.zeroCells z.cells n ++ Builtin.zeroCells z.cells (grownCap w n 0 5 - n)) 5), grownCap_ge _ _ _ _, ?_, ?_, ?_⟩
  · simp [Builtin.append_, run_underlying TB.ht, run_underlying hu, sizeOf, typeInfo, zeroValue, h1, h2, asInt, asIntOf, hw, hn, hbig, h63', h3, h4, Question.forced, run_firstCells_none, newRow, grownCap]
    rw [if_neg (by omega), if_neg (by rw [nextslicecap_zero h0]; omega)]
  · exact World.ownsRow_made (e := 5) (size := 1) w.drew _ _ (Nat.le_refl _) (grownCap_le_maxLen _ _ _ _ (by unfold maxLen; omega)) (by have := grownCap_ge w n 0 5; simp [size_zeroCells, h5]; omega)
  · exact ((Below.refl _ _).drew).alloc (Nat.le_refl _) _

theorem exec_append {P : Program} {a : Act} {w w' : World} {d : Option Tmp} {ty : TypeId} {pos : String} {aft : Array Edge} {g : Option (Nat × Bool)} {s x : Operand} {v u r : Value} {t1 t2 : TypeId}
    (hr : (Builtin.append_ #[t1, t2] ty #[v, u]).run P w = .ok r w') (hs : a.eval s = v) (hx : a.eval x = u) :
    (execOp a.eval ⟨d, .call { callee := .builtin .append, args := #[s, x], argTypes := #[t1, t2] }, ty, pos, aft, g⟩).run P w = .ok (.value r) w' := by
  simp [execOp, resolve, invoke, builtin, hs, hx, hr]

set_option maxRecDepth 100000 in
theorem grow_any (n : Int) (w : World) (h0 : 0 ≤ n) (h1 : n ≤ 1000000000000) :
    Calls Try.prog 47 #[.slice none 0 0, .int .i64 n] w fun e w' => ∃ v, e = .returned v ∧ OB w' w.heap.size v [] ∧ Below w.heap.size w w' := by
  obtain ⟨n, rfl⟩ := Int.eq_ofNat_of_zero_le h0
  by_cases hn : 0 < n
  · obtain ⟨C, w', hC, hr, hob, hb⟩ := run_append_zeros w n hn (by omega) 22
    have HR := Lib.hid hr
    have hsl : ∀ wx, (Instr.sliceAt 22 (.slice (some ⟨w.heap.size, 0, none⟩) n C) none (some (.int .i64 0)) none).run Try.prog wx = .ok (.slice (some ⟨w.heap.size, 0, none⟩) 0 C) wx := by
      intro wx
      obtain ⟨i, z, h1, h2, h3, h4, h5⟩ := TB.info
      have r1 : (Instr.sliceBound (.int .i64 0) C .sliceAcap).run Try.prog wx = .ok 0 wx := run_sliceBound' _ _ _ _ (by omega) (by omega)
      simp [Instr.sliceAt, Instr.slice, run_underlying TB.ht, Instr.sliceBounds, r1, sizeOf, typeInfo, h1, Addr.add]
    have HS := Lib.hid hsl
    clear hr hsl
    go_enter Try.func47, Try.ntmps47
    go_wp2_with (first
      | (with_reducible show wpList _ _ _ (⟨some 22, _, _, _, _, _⟩ :: _) _ _; go_must (refine wpList_val rfl (exec_append HR.out rfl rfl) ?_))
      | (with_reducible show wpList _ _ _ (⟨some 25, _, _, _, _, _⟩ :: _) _ _; go_must (refine wpList_val rfl (exec_sliceTo HS.out rfl rfl) ?_)))
    go_ret
    exact ⟨_, rfl, hob, hb⟩
  · obtain rfl : n = 0 := by omega
    go_enter Try.func47, Try.ntmps47
    go_wp2
    go_ret
    exact ⟨_, rfl, OB.nil _ _, Below.refl _ _⟩

/-- A slice of byte slices. -/
def BsL (w : World) (v : Value) (ls : List (List UInt8)) : Prop := ∃ vs, Reads w 1 v ls.length vs ∧ ∀ i, i < ls.length → ∃ u, vs[i]? = some u ∧ Bs w u (ls[i]?.getD [])

theorem BsL.mono {w w' : World} {v : Value} {ls : List (List UInt8)} (h : BsL w v ls) (hb : Below w.heap.size w w') : BsL w' v ls := by
  obtain ⟨vs, h1, h2⟩ := h
  exact ⟨vs, h1.mono hb, fun i hi => by obtain ⟨u, e1, e2⟩ := h2 i hi; exact ⟨u, e1, e2.mono hb⟩⟩

theorem flatten_take_snoc (ls : List (List UInt8)) (k : Nat) (h : k < ls.length) : (ls.take (k + 1)).flatten = (ls.take k).flatten ++ ls[k]?.getD [] := by
  rw [List.take_succ_eq_append_getElem h, List.flatten_append, List.getElem?_eq_getElem h]; simp
theorem flatten_take_le (ls : List (List UInt8)) (k : Nat) : (ls.take k).flatten.length ≤ ls.flatten.length := by
  conv => rhs; rw [← List.take_append_drop k ls, List.flatten_append, List.length_append]
  omega

set_option maxRecDepth 100000 in
theorem concat_any (ls : List (List UInt8)) (v : Value) (w : World) (hl : ls.flatten.length ≤ 100000000000) (hl2 : ls.length ≤ 100000000000) (hv : BsL w v ls) :
    Calls Try.prog 33 #[v] w fun e w' => ∃ v', e = .returned v' ∧ OB w' w.heap.size v' ls.flatten ∧ Below w.heap.size w w' := by
  obtain ⟨vs, hr, hbs⟩ := id hv
  obtain ⟨_, a, cap, rfl, hcap, _, hc⟩ := hr.open1
  have HC := Lib.hid hc
  have HB := Lib.hid hbs
  clear hc hbs
  go_enter Try.func33, Try.ntmps33
  go_wp2
  go_loop [3, 11] (fun s i => ∃ k m : Nat, k ≤ ls.length ∧ i = .int .i64 k ∧ s = .int .i64 m ∧ Hid (m = (ls.take k).flatten.length)) (fun _ i => ls.length - (intOf i).toNat)
  case atStart => exact ⟨0, 0, Nat.zero_le _, rfl, rfl, rfl⟩
  case round =>
    obtain ⟨k, m, hk, rfl, rfl, HM⟩ := hrel
    have hm := Nat.le_trans (Nat.le_of_eq HM.out) (flatten_take_le ls k)
    by_cases hlt : k < ls.length
    · obtain ⟨b, off, x, rfl, hx, hcell⟩ := HC.out k hlt
      obtain ⟨u, hu, hbu⟩ := HB.out k hlt
      obtain rfl : x = u := by rw [hx] at hu; exact Option.some.inj hu
      have HF := Lib.hid (congrArg List.length (flatten_take_snoc ls k hlt))
      have HF2 := Lib.hid (flatten_take_le ls (k + 1))
      obtain ⟨n, a2, cap2, hn, rfl, hn2, _⟩ := hbu.shape
      have hmn : m + n ≤ 100000000000 := by have e1 := HF.out; have e2 := HF2.out; have e3 := HM.out; have e4 := hn.out; rw [List.length_append] at e1; omega
      clear hx hu
      go_wp2
      go_round
      case rel => exact ⟨k + 1, m + n, by omega, by go_num, by go_num, by show _ = _; rw [HF.out, List.length_append, ← HM.out, hn.out]⟩
      case measure => simp [intOf] <;> omega
    · obtain rfl : k = ls.length := by omega
      go_wp2_with (go_at_call 47; go_must (refine (grow_any _ _ (by omega) (by omega)).mono ?_; rintro e w1 ⟨v1, rfl, hv1, hb1⟩))
      go_loopw [6, 27] (fun s i wr => ∃ k : Nat, k ≤ ls.length ∧ i = .int .i64 k ∧ OB wr w.heap.size s (ls.take k).flatten ∧ Below w.heap.size w wr) (fun _ i _ => ls.length - (intOf i).toNat)
      case atStart => exact ⟨0, Nat.zero_le _, rfl, by simpa using hv1, hb1⟩
      case round =>
        obtain ⟨k, hk, rfl, hown, hb⟩ := hrel
        by_cases hlt : k < ls.length
        · obtain ⟨b, off, x, rfl, hx, hcell⟩ := HC.out k hlt
          obtain ⟨u, hu, hbu⟩ := HB.out k hlt
          obtain rfl : x = u := by rw [hx] at hu; exact Option.some.inj hu
          have HF := Lib.hid (flatten_take_snoc ls k hlt)
          have HF2 := Lib.hid (flatten_take_le ls (k + 1))
          have hcell' := (hb.cell (p := ⟨b, off + k, none⟩) (block_lt hcell)).trans hcell
          clear hx hu hcell
          go_wp2_with (with_reducible show wpList _ _ _ (⟨some 33, _, _, _, _, _⟩ :: _) _ _; go_must (refine wpList_catB hown (hbu.mono hb) rfl rfl (by rw [← List.length_append, ← HF.out]; exact Nat.le_trans HF2.out (by omega)) hb.size ?_; intro v2 w2 hv2 _ hb2))
          go_roundw
          case rel => exact ⟨k + 1, by omega, by go_num, by rw [HF.out]; exact hv2, hb.trans hb2⟩
          case measure => simp [intOf] <;> omega
        · obtain rfl : k = ls.length := by omega
          have HE := Lib.hid (show (ls.take ls.length).flatten = ls.flatten by rw [List.take_length])
          go_wp2
          go_ret
          exact ⟨_, rfl, by rw [← HE.out]; exact hown, hb⟩
end Go.Proofs.Ytbbpeggljhkjhaa
