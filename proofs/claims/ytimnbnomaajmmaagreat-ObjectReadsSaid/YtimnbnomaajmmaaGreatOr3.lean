/-
  Part 3 of 8: laws and walks for objectReads_holds; no condition of its own.
-/
import Derived.Test.YtimnbnomaajmmaaGreatOr2
import Derived.Laws.Bits64b
import Derived.Deep.RegionLaw
import Derived.Defers
import Derived.Recover
import Derived.Laws.ResultCell
import Derived.Laws.OwnMore
import Derived.WalkSpells
import Derived.Lib.SliceRun
namespace Go.Fd
open Go.RowKit
section
variable {P : Program} {ops : Array Oper} {rest : List Oper} {Q : Exit → Act → World → Prop} {a : Act} {w : World}
/-- A struct into a block of its own. -/
theorem wpList_box {d : Option Tmp} {ty t : TypeId} {pos : String} {aft : Array Edge} {x : Operand} {c : Array Value} (hx : a.eval x = .agg c)
    (h : ∀ w1, w1.heap[w.heap.size]? = some (.cells c t (0, 0)) → Below w.heap.size w w1 → w.heap.size < w1.heap.size → wpList P ops Q rest (a.put d (.pointer (some ⟨w.heap.size, 0, none⟩))) w1) :
    wpList P ops Q (⟨d, .box t x, ty, pos, aft, none⟩ :: rest) a w := by
  refine wpList_val (w' := w.alloc (.cells c t)) (v := .pointer (some ⟨w.heap.size, 0, none⟩)) rfl ?_ (h (w.alloc (.cells c t)) (heap_alloc_last w _) (below_alloc w _) (by rw [World.size_alloc]; omega))
  simp only [execOp, hx]
  rfl
/-- A block that was there stays. -/
theorem heap_below {w w' : World} {b : Nat} {o : Obj} (h : Below w.heap.size w w') (hb : w.heap[b]? = some o) : w'.heap[b]? = some o := by
  rw [h.block b (Array.getElem?_eq_some_iff.1 hb).1]; exact hb
end
end Go.Fd
namespace Go.Proofs.YtimnbnomaajmmaaGreat
open Go.RowKit Go.Fd
set_option maxRecDepth 100000 in
theorem machine_any (t : Int) (w : World) : Calls Tryz.prog 28 #[.int .i64 t] w fun e w' => e = .returned (.int .u64 (mach t)) ∧ w = w' := by
  by_cases h1 : t = 1
  · subst h1
    go_enter Tryz.func28, Tryz.ntmps28
    go_wp2
    go_ret
    exact ⟨rfl, rfl⟩
  by_cases h2 : t = 2
  · subst h2
    go_enter Tryz.func28, Tryz.ntmps28
    go_wp2
    go_ret
    exact ⟨rfl, rfl⟩
  by_cases h3 : t = 3
  · subst h3
    go_enter Tryz.func28, Tryz.ntmps28
    go_wp2
    go_ret
    exact ⟨rfl, rfl⟩
  · have HR := Lib.hid (show mach t = 0 by unfold mach; rw [if_neg h1, if_neg h2, if_neg h3])
    have e1 : (t == 1) = false := by simpa using h1
    have e2 : (t == 2) = false := by simpa using h2
    have e3 : (t == 3) = false := by simpa using h3
    clear h1 h2 h3
    go_enter Tryz.func28, Tryz.ntmps28
    go_wp2
    go_ret
    exact ⟨by rw [HR.out]; rfl, rfl⟩
set_option maxRecDepth 100000 in
theorem ref4Machine_any (t : Int) (w : World) : Calls Tryz.prog 36 #[.int .i64 t] w fun e w' => e = .returned (.int .u64 (mach t)) ∧ w = w' := by
  by_cases h1 : t = 1
  · subst h1
    go_enter Tryz.func36, Tryz.ntmps36
    go_wp2
    go_ret
    exact ⟨rfl, rfl⟩
  by_cases h2 : t = 2
  · subst h2
    go_enter Tryz.func36, Tryz.ntmps36
    go_wp2
    go_ret
    exact ⟨rfl, rfl⟩
  by_cases h3 : t = 3
  · subst h3
    go_enter Tryz.func36, Tryz.ntmps36
    go_wp2
    go_ret
    exact ⟨rfl, rfl⟩
  · have HR := Lib.hid (show mach t = 0 by unfold mach; rw [if_neg h1, if_neg h2, if_neg h3])
    have e1 : (t == 1) = false := by simpa using h1
    have e2 : (t == 2) = false := by simpa using h2
    have e3 : (t == 3) = false := by simpa using h3
    clear h1 h2 h3
    go_enter Tryz.func36, Tryz.ntmps36
    go_wp2
    go_ret
    exact ⟨by rw [HR.out]; rfl, rfl⟩
theorem and_self1 {n : Nat} (h : 1 ≤ n) (h2 : n ≤ 65536) : (bits .and .u64 (n : Int) ((n : Int) - 1) == 0) = powB n := by
  have e : (n : Int) - 1 = ((n - 1 : Nat) : Int) := by omega
  rw [e, bits_and_u64_nat n (n - 1) (by omega) (by omega)]
  unfold powB
  rw [Bool.eq_iff_iff]
  simp only [beq_iff_eq, Bool.and_eq_true, decide_eq_true_eq]
  omega
set_option maxRecDepth 100000 in
theorem power_any (n : Nat) (w : World) (hn : n < 18446744073709551616) : Calls Tryz.prog 88 #[.int .u64 n] w fun e w' => e = .returned (.bool (powB n)) ∧ w = w' := by
  by_cases h1 : 1 ≤ n ∧ n ≤ 65536
  · obtain ⟨h1, h2⟩ := h1
    have HR := Lib.hid (and_self1 h1 h2)
    go_enter Tryz.func88, Tryz.ntmps88
    go_wp2
    go_ret
    exact ⟨by rw [HR.out]; rfl, rfl⟩
  · have HR := Lib.hid (show powB n = false by
      rw [Bool.eq_false_iff]
      intro h
      have := powB_le h
      omega)
    rcases Nat.eq_zero_or_pos n with rfl | hp
    · go_enter Tryz.func88, Tryz.ntmps88
      go_wp2
      go_ret
      exact ⟨by rw [HR.out]; rfl, rfl⟩
    · have h3 : 1 ≤ n := hp
      have h4 : ¬ n ≤ 65536 := by omega
      have HX := Lib.hid hn
      clear h1 hn hp
      go_enter Tryz.func88, Tryz.ntmps88
      go_wp2
      go_ret
      exact ⟨by rw [HR.out]; rfl, rfl⟩
set_option maxRecDepth 100000 in
theorem ref4Power_any (n : Nat) (w : World) (hn : n < 18446744073709551616) : Calls Tryz.prog 100 #[.int .u64 n] w fun e w' => e = .returned (.bool (powB n)) ∧ w = w' := by
  have HX := Lib.hid hn
  clear hn
  go_enter Tryz.func100, Tryz.ntmps100
  go_wp2
  go_loopw [3] (fun i wr => ∃ p k : Nat, i = .int .u64 p ∧ p ≤ 131072 ∧ 1 ≤ p ∧ Hid (p = 2 ^ k) ∧ Hid (∀ j, j < k → n ≠ 2 ^ j) ∧ Hid (w = wr)) (fun i _ => 131073 - (intOf i).toNat)
  case atStart => exact ⟨1, 0, rfl, by omega, by omega, rfl, (fun j hj => by omega), rfl⟩
  case round =>
    obtain ⟨p, k, rfl, hp, hp1, HP, HN, HW⟩ := hrel
    have hw := HW.out
    subst hw
    by_cases hlt : p ≤ 65536
    · by_cases hq : n = p
      · have hq2 : ((n : Int) == (p : Int)) = true := by rw [beq_iff_eq, hq]
        have HR := Lib.hid (show powB n = true by
          refine powB_iff.2 ⟨k, ?_, hq.trans HP.out⟩
          rcases Nat.lt_or_ge 16 k with h | h
          · exfalso
            have h1 : 2 ^ 17 ≤ 2 ^ k := Nat.pow_le_pow_right (by omega) h
            have h2 := HP.out
            omega
          · exact h)
        clear hq
        go_wp2
        go_ret
        exact ⟨by rw [HR.out]; rfl, rfl⟩
      · have hq2 : ((n : Int) == (p : Int)) = false := by simpa using fun e => hq (by omega)
        have HP2 := Lib.hid (show 2 * p = 2 ^ (k + 1) by rw [Nat.pow_succ, ← HP.out]; omega)
        have HN2 : Hid (∀ j, j < k + 1 → n ≠ 2 ^ j) := fun j hj => by
          rcases Nat.lt_or_ge j k with h | h
          · exact HN.out j h
          · obtain rfl : j = k := by omega
            rw [← HP.out]; exact hq
        clear hq
        go_wp2
        go_roundw
        case rel => exact ⟨2 * p, k + 1, by go_num, by omega, by omega, HP2.out, HN2.out, trivial⟩
        case measure => simp [intOf] <;> omega
    · have HR := Lib.hid (show powB n = false by
        rw [Bool.eq_false_iff]
        intro h
        obtain ⟨j, hj, he⟩ := powB_iff.1 h
        rcases Nat.lt_or_ge j k with h1 | h1
        · exact HN.out j h1 he
        · have h2 : 2 ^ k ≤ 2 ^ 16 := Nat.pow_le_pow_right (by omega) (by omega)
          have h3 := HP.out
          omega)
      go_wp2
      go_ret
      exact ⟨by rw [HR.out]; rfl, rfl⟩
theorem up_cast {n a : Nat} (hn : n ≤ 1000000000000) (h : 1 ≤ a) (h2 : a ≤ 65536) : wrap64 (((n : Int) + a - 1) / a * a) = ((upN n a : Nat) : Int) := by
  have e : (n : Int) + a - 1 = ((n + a - 1 : Nat) : Int) := by omega
  have hl := upN_le (n := n) h
  rw [e, ← Int.natCast_ediv, ← Int.natCast_mul]
  show wrap64 ((upN n a : Nat) : Int) = _
  generalize upN n a = u at *
  unfold wrap64
  omega
set_option maxRecDepth 100000 in
theorem up_any (n a : Nat) (w : World) (hn : n ≤ 1000000000000) (ha : 1 ≤ a) (ha2 : a ≤ 65536) : Calls Tryz.prog 89 #[.int .i64 n, .int .u64 a] w fun e w' => e = .returned (.int .i64 (upN n a)) ∧ w = w' := by
  have HU := Lib.hid (up_cast hn ha ha2)
  go_enter Tryz.func89, Tryz.ntmps89
  go_wp2
  go_ret
  exact ⟨by rw [← HU.out]; rfl, rfl⟩
set_option maxRecDepth 100000 in
theorem ref4Up_any (n a : Nat) (w : World) (hn : n ≤ 1000000000000) (ha : 1 ≤ a) (ha2 : a ≤ 65536) : Calls Tryz.prog 73 #[.int .i64 n, .int .i64 a] w fun e w' => e = .returned (.int .i64 (upN n a)) ∧ w = w' := by
  have HU := Lib.hid (up_cast hn ha ha2)
  go_enter Tryz.func73, Tryz.ntmps73
  go_wp2
  go_ret
  exact ⟨by rw [← HU.out]; rfl, rfl⟩
end Go.Proofs.YtimnbnomaajmmaaGreat
namespace Go.Fd
open Go.RowKit
/-- A file by value: its numbers, its sections' and its segments' slices. -/
abbrev elfV (e : ElfM) (sv gv : Value) : Value := .agg #[.int .i64 e.typ, .int .i64 e.target, .int .u32 (e.flags : Int), .int .u64 (e.entry : Int), sv, gv]
abbrev secV (p : SecM × Value) : Value := .agg #[.string ⟨p.1.name.toArray⟩, .int .u32 (p.1.typ : Int), .int .u64 (p.1.flags : Int), .int .u64 (p.1.addr : Int), .int .u64 (p.1.align : Int), .int .u64 (p.1.size : Int), .int .u32 (p.1.link : Int), .int .u32 (p.1.info : Int), .int .u64 (p.1.ent : Int), p.2]
theorem sec_cells {w wr : World} {a : Option Addr} {L : List (SecM × Value)} {x : SecM × Value} {k : Nat}
    (hc : ∀ i x, L[i]? = some x → 0 < 10 → ∃ b off, a = some ⟨b, off, none⟩ ∧ ∀ c, c < 10 → w.cell? ⟨b, off + (i * 10 + c), none⟩ = (encSec x)[c]?) (hb : Below w.heap.size w wr) (hk : L[k]? = some x) :
    ∃ b o, a = some ⟨b, o, none⟩ ∧ wr.cell? ⟨b, o + k * 10, none⟩ = some (.string ⟨x.1.name.toArray⟩) ∧ wr.cell? ⟨b, o + k * 10 + 1, none⟩ = some (.int .u32 (x.1.typ : Int)) ∧ wr.cell? ⟨b, o + k * 10 + 2, none⟩ = some (.int .u64 (x.1.flags : Int)) ∧ wr.cell? ⟨b, o + k * 10 + 3, none⟩ = some (.int .u64 (x.1.addr : Int)) ∧ wr.cell? ⟨b, o + k * 10 + 4, none⟩ = some (.int .u64 (x.1.align : Int)) ∧ wr.cell? ⟨b, o + k * 10 + 5, none⟩ = some (.int .u64 (x.1.size : Int)) ∧ wr.cell? ⟨b, o + k * 10 + 6, none⟩ = some (.int .u32 (x.1.link : Int)) ∧ wr.cell? ⟨b, o + k * 10 + 7, none⟩ = some (.int .u32 (x.1.info : Int)) ∧ wr.cell? ⟨b, o + k * 10 + 8, none⟩ = some (.int .u64 (x.1.ent : Int)) ∧ wr.cell? ⟨b, o + k * 10 + 9, none⟩ = some x.2 ∧ b < w.heap.size := by
  obtain ⟨b, o, ha, hcc⟩ := hc k x hk (by decide)
  have hd : ∀ c v, (encSec x)[c]? = some v → wr.cell? ⟨b, o + k * 10 + c, none⟩ = some v := fun c v h => by
    have h10 : c < 10 := (List.getElem?_eq_some_iff.1 h).1
    have := (hcc c h10).trans h
    rw [← Nat.add_assoc] at this
    exact (hb.cell (block_lt this)).trans this
  have h0 : b < w.heap.size := block_lt ((hcc 0 (by decide)).trans rfl)
  exact ⟨b, o, ha, hd 0 _ rfl, hd 1 _ rfl, hd 2 _ rfl, hd 3 _ rfl, hd 4 _ rfl, hd 5 _ rfl, hd 6 _ rfl, hd 7 _ rfl, hd 8 _ rfl, hd 9 _ rfl, h0⟩
theorem seg_cells {w wr : World} {a : Option Addr} {L : List SegM} {x : SegM} {k : Nat}
    (hc : ∀ i x, L[i]? = some x → 0 < 7 → ∃ b off, a = some ⟨b, off, none⟩ ∧ ∀ c, c < 7 → w.cell? ⟨b, off + (i * 7 + c), none⟩ = (encSeg x)[c]?) (hb : Below w.heap.size w wr) (hk : L[k]? = some x) :
    ∃ b o, a = some ⟨b, o, none⟩ ∧ wr.cell? ⟨b, o + k * 7, none⟩ = some (.int .u32 (x.typ : Int)) ∧ wr.cell? ⟨b, o + k * 7 + 1, none⟩ = some (.int .u32 (x.flags : Int)) ∧ wr.cell? ⟨b, o + k * 7 + 2, none⟩ = some (.int .u64 (x.off : Int)) ∧ wr.cell? ⟨b, o + k * 7 + 3, none⟩ = some (.int .u64 (x.vaddr : Int)) ∧ wr.cell? ⟨b, o + k * 7 + 4, none⟩ = some (.int .u64 (x.filesz : Int)) ∧ wr.cell? ⟨b, o + k * 7 + 5, none⟩ = some (.int .u64 (x.memsz : Int)) ∧ wr.cell? ⟨b, o + k * 7 + 6, none⟩ = some (.int .u64 (x.align : Int)) ∧ b < w.heap.size := by
  obtain ⟨b, o, ha, hcc⟩ := hc k x hk (by decide)
  have hd : ∀ c v, (encSeg x)[c]? = some v → wr.cell? ⟨b, o + k * 7 + c, none⟩ = some v := fun c v h => by
    have h10 : c < 7 := (List.getElem?_eq_some_iff.1 h).1
    have := (hcc c h10).trans h
    rw [← Nat.add_assoc] at this
    exact (hb.cell (block_lt this)).trans this
  have h0 : b < w.heap.size := block_lt ((hcc 0 (by decide)).trans rfl)
  exact ⟨b, o, ha, hd 0 _ rfl, hd 1 _ rfl, hd 2 _ rfl, hd 3 _ rfl, hd 4 _ rfl, hd 5 _ rfl, hd 6 _ rfl, h0⟩
/-- A file's cells in a block of its own. -/
theorem elf_box {w : World} {g : Nat} {e : ElfM} {sv gv : Value} {t : TypeId} {fr : Nat × Nat} (h : w.heap[g]? = some (.cells #[.int .i64 e.typ, .int .i64 e.target, .int .u32 (e.flags : Int), .int .u64 (e.entry : Int), sv, gv] t fr)) :
    w.cell? ⟨g, 0, none⟩ = some (.int .i64 e.typ) ∧ w.cell? ⟨g, 1, none⟩ = some (.int .i64 e.target) ∧ w.cell? ⟨g, 2, none⟩ = some (.int .u32 (e.flags : Int)) ∧ w.cell? ⟨g, 3, none⟩ = some (.int .u64 (e.entry : Int)) ∧ w.cell? ⟨g, 4, none⟩ = some sv ∧ w.cell? ⟨g, 5, none⟩ = some gv :=
  ⟨cell_rec h 0, cell_rec h 1, cell_rec h 2, cell_rec h 3, cell_rec h 4, cell_rec h 5⟩
theorem sec_box {w : World} {g : Nat} {x : SecM × Value} {t : TypeId} {fr : Nat × Nat} (h : w.heap[g]? = some (.cells #[.string ⟨x.1.name.toArray⟩, .int .u32 (x.1.typ : Int), .int .u64 (x.1.flags : Int), .int .u64 (x.1.addr : Int), .int .u64 (x.1.align : Int), .int .u64 (x.1.size : Int), .int .u32 (x.1.link : Int), .int .u32 (x.1.info : Int), .int .u64 (x.1.ent : Int), x.2] t fr)) :
    w.cell? ⟨g, 0, none⟩ = some (.string ⟨x.1.name.toArray⟩) ∧ w.cell? ⟨g, 1, none⟩ = some (.int .u32 (x.1.typ : Int)) ∧ w.cell? ⟨g, 2, none⟩ = some (.int .u64 (x.1.flags : Int)) ∧ w.cell? ⟨g, 3, none⟩ = some (.int .u64 (x.1.addr : Int)) ∧ w.cell? ⟨g, 4, none⟩ = some (.int .u64 (x.1.align : Int)) ∧ w.cell? ⟨g, 5, none⟩ = some (.int .u64 (x.1.size : Int)) ∧ w.cell? ⟨g, 6, none⟩ = some (.int .u32 (x.1.link : Int)) ∧ w.cell? ⟨g, 7, none⟩ = some (.int .u32 (x.1.info : Int)) ∧ w.cell? ⟨g, 8, none⟩ = some (.int .u64 (x.1.ent : Int)) ∧ w.cell? ⟨g, 9, none⟩ = some x.2 :=
  ⟨cell_rec h 0, cell_rec h 1, cell_rec h 2, cell_rec h 3, cell_rec h 4, cell_rec h 5, cell_rec h 6, cell_rec h 7, cell_rec h 8, cell_rec h 9⟩
end Go.Fd
namespace Go.Proofs.YtimnbnomaajmmaaGreat
open Go.RowKit Go.Fd
/-- What memory holds of a file. -/
structure ElfAt (w : World) (e : ElfM) (L : List (SecM × Value)) (sv gv : Value) : Prop where
  secs : e.secs = L.map (·.1)
  rd : RdR 10 encSec w sv L
  data : ∀ p ∈ L, Bs w p.2 p.1.data
  segs : RdR 7 encSeg w gv e.segs
theorem ElfAt.mono {w w' : World} {e : ElfM} {L : List (SecM × Value)} {sv gv : Value} (h : ElfAt w e L sv gv) (hb : Below w.heap.size w w') : ElfAt w' e L sv gv :=
  ⟨h.secs, h.rd.mono hb, fun p hp => (h.data p hp).mono hb, h.segs.mono hb⟩
set_option maxRecDepth 100000 in
theorem fine_any (s : SecM) (dv : Value) (w : World) (hd : Bs w dv s.data) (hf : s.fits) (hcm : s.data.length ≤ 9223372036854775807) :
    Calls Tryz.prog 87 #[secV (s, dv)] w fun e w' => e = .returned (.bool (fineB s)) ∧ Below w.heap.size w w' := by
  have HF := Lib.hid hf
  obtain ⟨m, a, cap, hm, rfl, hmc, _⟩ := hd.shape
  have HP := Lib.hid (fun w => power_any s.align w hf.2.2.2.1)
  obtain ⟨name, typ, flags, addr, align, size, link, info, ent, data⟩ := s
  dsimp only at *
  clear hd hf
  rw [← hm.out] at hcm
  have HB : Hid (fineB ⟨name, typ, flags, addr, align, size, link, info, ent, data⟩ = (!decide (typ = 0) && powB align && !decide (name = []) && (if typ = 8 then decide (m = 0) && decide (size ≤ 1073741824) else decide (size = m)))) := by
    have := hm.out
    unfold fineB
    dsimp only
    rw [← this]
    rfl
  generalize fineB ⟨name, typ, flags, addr, align, size, link, info, ent, data⟩ = q at *
  generalize powB align = pb at *
  by_cases h0 : typ = 0
  · have h0' : ((typ : Int) == 0) = true := by simpa using h0
    have HR := Lib.hid (show q = false by rw [HB.out]; simp [h0])
    clear h0 HB
    go_enter Tryz.func87, Tryz.ntmps87
    go_wp2_with (first
      | ((with_reducible show wpList _ _ _ (⟨_, .box _ _, _, _, _, _⟩ :: _) _ _); go_must (refine wpList_box rfl ?_; intro w1 hx1 hb1 hs1; obtain ⟨c0, c1, c2, c3, c4, c5, c6, c7, c8, c9⟩ := sec_box (x := (⟨name, typ, flags, addr, align, size, link, info, ent, data⟩, .slice a m cap)) hx1)))
    go_ret
    exact ⟨by rw [HR.out]; rfl, hb1⟩
  have h0' : ((typ : Int) == 0) = false := by simpa using h0
  cases pb with
  | false =>
    have HR := Lib.hid (show q = false by rw [HB.out]; simp)
    have HX := Lib.hid h0
    clear h0 HB
    go_enter Tryz.func87, Tryz.ntmps87
    go_wp2_with (first
      | ((with_reducible show wpList _ _ _ (⟨_, .box _ _, _, _, _, _⟩ :: _) _ _); go_must (refine wpList_box rfl ?_; intro w1 hx1 hb1 hs1; obtain ⟨c0, c1, c2, c3, c4, c5, c6, c7, c8, c9⟩ := sec_box (x := (⟨name, typ, flags, addr, align, size, link, info, ent, data⟩, .slice a m cap)) hx1))
      | (go_at_call 88; refine (HP.out _).mono ?_; rintro e w2 ⟨rfl, rfl⟩))
    go_ret
    exact ⟨by rw [HR.out]; rfl, hb1⟩
  | true =>
    by_cases hn : name = []
    · have HR := Lib.hid (show q = false by rw [HB.out]; simp [hn])
      have hne : name.isEmpty = true := by simp [hn]
      have HX := Lib.hid h0
      have HX2 := Lib.hid hn
      clear h0 HB hn
      go_enter Tryz.func87, Tryz.ntmps87
      go_wp2_with (first
        | ((with_reducible show wpList _ _ _ (⟨_, .box _ _, _, _, _, _⟩ :: _) _ _); go_must (refine wpList_box rfl ?_; intro w1 hx1 hb1 hs1; obtain ⟨c0, c1, c2, c3, c4, c5, c6, c7, c8, c9⟩ := sec_box (x := (⟨name, typ, flags, addr, align, size, link, info, ent, data⟩, .slice a m cap)) hx1))
        | (go_at_call 88; refine (HP.out _).mono ?_; rintro e w2 ⟨rfl, rfl⟩))
      go_ret
      exact ⟨by rw [HR.out]; rfl, hb1⟩
    have hne : name.isEmpty = false := by simpa using hn
    have HQ : Hid (q = if typ = 8 then decide (m = 0) && decide (size ≤ 1073741824) else decide (size = m)) := by rw [HB.out, decide_eq_false h0, decide_eq_false hn]; rfl
    have HX := Lib.hid h0
    have HX2 := Lib.hid hn
    have hm0 : m ≤ 9223372036854775807 := hcm
    clear h0 HB hn
    by_cases h8 : typ = 8
    · have h8' : ((typ : Int) == 8) = true := by rw [beq_iff_eq]; omega
      by_cases hm0 : m = 0
      · have hm1 : ((m : Int) == 0) = true := by simpa using hm0
        have HR := Lib.hid (show q = decide ((size : Int) ≤ 1073741824) by rw [HQ.out]; simp [h8, hm0]; omega)
        have HX8 := Lib.hid h8
        have HXm := Lib.hid hm0
        clear h8 hm0 HQ
        go_enter Tryz.func87, Tryz.ntmps87
        go_wp2_with (first
          | ((with_reducible show wpList _ _ _ (⟨_, .box _ _, _, _, _, _⟩ :: _) _ _); go_must (refine wpList_box rfl ?_; intro w1 hx1 hb1 hs1; obtain ⟨c0, c1, c2, c3, c4, c5, c6, c7, c8, c9⟩ := sec_box (x := (⟨name, typ, flags, addr, align, size, link, info, ent, data⟩, .slice a m cap)) hx1))
          | (go_at_call 88; refine (HP.out _).mono ?_; rintro e w2 ⟨rfl, rfl⟩))
        go_ret
        exact ⟨by rw [HR.out]; rfl, hb1⟩
      · have hm1 : ((m : Int) == 0) = false := by simpa using hm0
        have HR := Lib.hid (show q = false by rw [HQ.out]; simp [h8, hm0])
        have HX8 := Lib.hid h8
        have HXm := Lib.hid hm0
        clear h8 hm0 HQ
        go_enter Tryz.func87, Tryz.ntmps87
        go_wp2_with (first
          | ((with_reducible show wpList _ _ _ (⟨_, .box _ _, _, _, _, _⟩ :: _) _ _); go_must (refine wpList_box rfl ?_; intro w1 hx1 hb1 hs1; obtain ⟨c0, c1, c2, c3, c4, c5, c6, c7, c8, c9⟩ := sec_box (x := (⟨name, typ, flags, addr, align, size, link, info, ent, data⟩, .slice a m cap)) hx1))
          | (go_at_call 88; refine (HP.out _).mono ?_; rintro e w2 ⟨rfl, rfl⟩))
        go_ret
        exact ⟨by rw [HR.out]; rfl, hb1⟩
    · have h8' : ((typ : Int) == 8) = false := by rw [beq_eq_false_iff_ne]; omega
      have HR := Lib.hid (show q = ((size : Int) == (m : Int)) by rw [HQ.out, if_neg h8, Bool.eq_iff_iff, beq_iff_eq, decide_eq_true_iff]; omega)
      have HX8 := Lib.hid h8
      clear h8 HQ
      go_enter Tryz.func87, Tryz.ntmps87
      go_wp2_with (first
        | ((with_reducible show wpList _ _ _ (⟨_, .box _ _, _, _, _, _⟩ :: _) _ _); go_must (refine wpList_box rfl ?_; intro w1 hx1 hb1 hs1; obtain ⟨c0, c1, c2, c3, c4, c5, c6, c7, c8, c9⟩ := sec_box (x := (⟨name, typ, flags, addr, align, size, link, info, ent, data⟩, .slice a m cap)) hx1))
        | (go_at_call 88; refine (HP.out _).mono ?_; rintro e w2 ⟨rfl, rfl⟩))
      go_ret
      exact ⟨by rw [HR.out]; rfl, hb1⟩
end Go.Proofs.YtimnbnomaajmmaaGreat
namespace Go.Proofs.YtimnbnomaajmmaaGreat
open Go.RowKit Go.Fd
theorem nm_step {L : List (SecM × Value)} {k : Nat} {x : SecM × Value} (h : L[k]? = some x) : (L.take (k + 1)).map (·.1.name) = (L.take k).map (·.1.name) ++ [x.1.name] := by rw [List.take_add_one, h]; simp
theorem nm_all {e : ElfM} {L : List (SecM × Value)} (h : e.secs = L.map (·.1)) : namesOf e.secs = L.map (·.1.name) ++ [tabName] := by unfold namesOf; rw [h, List.map_map]; rfl
set_option maxHeartbeats 1000000 in
set_option maxRecDepth 100000 in
theorem names_any (e : ElfM) (L : List (SecM × Value)) (sv gv : Value) (w : World) (h : ElfAt w e L sv gv) (hl : L.length ≤ 1000) :
    Calls Tryz.prog 51 #[elfV e sv gv] w fun r w' => ∃ v1 v2, r = .returned (.tuple #[v1, v2, .int .i64 (buildR (namesOf e.secs)).2.2]) ∧ OB w' w.heap.size v1 (buildR (namesOf e.secs)).1 ∧ Ow I64 3 w' w.heap.size v2 (buildR (namesOf e.secs)).2.1 ∧ Below w.heap.size w w' := by
  obtain ⟨a, ca, rfl, hca, -, hc⟩ := h.rd.open (fun _ => rfl)
  have HC := Lib.hid hc
  have HN := Lib.hid (nm_all h.secs)
  have HD := Lib.hid h.data
  obtain ⟨nl, hnl⟩ : ∃ n, n = L.length := ⟨_, rfl⟩
  rw [← hnl] at hl hca ⊢
  have HL := Lib.hid hnl
  clear hc h hnl
  go_enter Tryz.func51, Tryz.ntmps51
  go_wp2_with ((with_reducible show wpList _ _ _ (⟨_, .box _ _, _, _, _, _⟩ :: _) _ _); go_must (refine wpList_box rfl ?_; intro w1 hx1 hb1 hs1; obtain ⟨c0, c1, c2, c3, c4, c5⟩ := elf_box hx1))
  clear c0 c1 c2 c3 c4 c5 hx1
  go_loopw [5, 11] (fun tx i wr => ∃ k : Nat, i = .int .i64 k ∧ k ≤ nl ∧ Hid (Ow S 9 wr w.heap.size tx ((L.take k).map (·.1.name))) ∧ Hid (Below w.heap.size w wr)) (fun _ i _ => nl - (intOf i).toNat)
  case atStart => exact ⟨0, rfl, Nat.zero_le _, Ow.nil _ _ _ _, hb1⟩
  case round =>
    obtain ⟨k, rfl, hk, HO, HB⟩ := hrel
    by_cases hlt : k < nl
    · have X1 := Lib.hid (show L[k]? = some (L[k]'(by have := HL.out; omega)) from List.getElem?_eq_getElem _)
      generalize L[k]'(by have := HL.out; omega) = x at *
      obtain ⟨s, dv⟩ := x
      obtain ⟨dm, da, dc, hdm, rfl, _, _⟩ := (HD.out _ (List.mem_of_getElem? X1.out)).shape
      obtain ⟨b1, o1, ha, c10, c11, c12, c13, c14, c15, c16, c17, c18, c19, -⟩ := sec_cells HC.out HB.out X1.out
      subst ha
      have HNS := Lib.hid (nm_step X1.out)
      have HTL := Lib.hid (show ((L.take k).map (·.1.name)).length ≤ 1000 by rw [List.length_map, List.length_take]; omega)
      have hbs := HB.out.size
      go_wp2_with (first
        | ((with_reducible show wpList _ _ _ (⟨none, .store _ _ _, _, _, _, _⟩ :: _) _ _); go_must (refine wpList_storeNew rfl rfl (by kernel_rfl) rfl (by simp [Value.oneCell']) ?_; intro w2 hh2 hb2; obtain ⟨e0, e1, e2, e3, e4, e5, e6, e7, e8, e9⟩ := sec_box (x := (s, .slice da dm dc)) hh2; have HO2 := Lib.hid (HO.out.mono hb2); have HB2 := Lib.hid (HB.out.trans (hb2.mono HB.out.size))))
        | ((with_reducible show wpList _ _ _ (⟨some 19, _, _, _, _, _⟩ :: _) _ _); go_must (refine wpList_pushE TTexts HO2.out rfl rfl s.name rfl rfl (by have := HTL.out; omega) (by omega) HB2.out.size ?_; intro v3 w3 hv3 _ hb3; have HO3 := Lib.hid (show Ow S 9 w3 w.heap.size v3 ((L.take (k + 1)).map (·.1.name)) by rw [HNS.out]; exact hv3); have HB3 := Lib.hid (HB2.out.trans hb3); clear hv3 hb3)))
      clear hh2 e0 e1 e2 e3 e4 e5 e6 e7 e8 e9
      go_roundw
      case rel =>
        first
          | exact ⟨k + 1, by go_num, by omega, HO3.out, HB3.out⟩
          | ((repeat apply Exists.intro); exact ⟨⟨k + 1, by go_num, by omega, HO3.out, HB3.out⟩, rfl⟩)
      case measure => simp [intOf] <;> omega
    · have hkn : L.length ≤ k := by have := HL.out; omega
      have HO1 : Hid (Ow S 9 wr w.heap.size u5 (L.map (·.1.name))) := by
        have := HO.out
        rw [List.take_of_length_le hkn] at this
        exact this
      have HTL := Lib.hid (show (L.map (·.1.name)).length ≤ 1000 by rw [List.length_map]; have := HL.out; omega)
      clear HO hkn
      go_wp2_with (first
        | ((with_reducible show wpList _ _ _ (⟨some 23, _, _, _, _, _⟩ :: _) _ _); go_must (refine wpList_pushE TTexts HO1.out rfl rfl tabName rfl rfl (by have := HTL.out; omega) (by omega) HB.out.size ?_; intro v3 w3 hv3 _ hb3; have HO3 := Lib.hid (show Ow S 9 w3 w.heap.size v3 (namesOf e.secs) by rw [HN.out]; exact hv3); have HB3 := Lib.hid (HB.out.trans hb3); clear hv3 hb3))
        | (go_at_call 49; refine (build_any _ _ _ (by rw [HN.out, List.length_append, List.length_singleton]; have := HTL.out; omega) HO3.out.rd).mono ?_; rintro r w4 ⟨v1, v2, rfl, ob1, ow2, hb4⟩))
      have HB4 := Lib.hid (HB3.out.trans (hb4.mono HB3.out.size))
      have H1 := Lib.hid (ob1.base HB3.out.size)
      have H2 := Lib.hid (owns_base ow2 HB3.out.size)
      clear ob1 ow2 hb4
      go_ret3
      exact ⟨_, _, rfl, H1.out, H2.out, HB4.out⟩
set_option maxHeartbeats 1000000 in
set_option maxRecDepth 100000 in
theorem ref4Names_any (e : ElfM) (L : List (SecM × Value)) (sv gv : Value) (w : World) (h : ElfAt w e L sv gv) (hl : L.length ≤ 1000) :
    Calls Tryz.prog 72 #[elfV e sv gv] w fun r w' => ∃ v1, r = .returned v1 ∧ Ow S 9 w' w.heap.size v1 (namesOf e.secs) ∧ Below w.heap.size w w' := by
  obtain ⟨a, ca, rfl, hca, -, hc⟩ := h.rd.open (fun _ => rfl)
  have HC := Lib.hid hc
  have HN := Lib.hid (nm_all h.secs)
  have HD := Lib.hid h.data
  obtain ⟨nl, hnl⟩ : ∃ n, n = L.length := ⟨_, rfl⟩
  rw [← hnl] at hl hca ⊢
  have HL := Lib.hid hnl
  clear hc h hnl
  go_enter Tryz.func72, Tryz.ntmps72
  go_wp2_with ((with_reducible show wpList _ _ _ (⟨_, .box _ _, _, _, _, _⟩ :: _) _ _); go_must (refine wpList_box rfl ?_; intro w1 hx1 hb1 hs1; obtain ⟨c0, c1, c2, c3, c4, c5⟩ := elf_box hx1))
  have HX1 := Lib.hid hx1
  have HB1 := Lib.hid hb1
  clear c0 c1 c2 c3 c4 c5 hx1 hb1
  go_loopw [3, 4] (fun tx i wr => ∃ k : Nat, i = .int .i64 k ∧ k ≤ nl ∧ Hid (Ow S 9 wr w1.heap.size tx ((L.take k).map (·.1.name))) ∧ Hid (Below w1.heap.size w1 wr)) (fun _ i _ => nl - (intOf i).toNat)
  case atStart => exact ⟨0, rfl, Nat.zero_le _, Ow.nil _ _ _ _, Below.refl _ _⟩
  case round =>
    obtain ⟨k, rfl, hk, HO, HB⟩ := hrel
    have hbs := HB.out.size
    have HBW := Lib.hid (HB1.out.trans (HB.out.mono HB1.out.size))
    obtain ⟨d0, d1, d2, d3, d4, d5⟩ := elf_box (heap_below HB.out HX1.out)
    clear d0 d1 d2 d3 d5
    by_cases hlt : k < nl
    · have X1 := Lib.hid (show L[k]? = some (L[k]'(by have := HL.out; omega)) from List.getElem?_eq_getElem _)
      generalize L[k]'(by have := HL.out; omega) = x at *
      obtain ⟨s, dv⟩ := x
      obtain ⟨dm, da, dc, hdm, rfl, _, _⟩ := (HD.out _ (List.mem_of_getElem? X1.out)).shape
      obtain ⟨b1, o1, ha, c10, c11, c12, c13, c14, c15, c16, c17, c18, c19, -⟩ := sec_cells HC.out HBW.out X1.out
      subst ha
      clear c11 c12 c13 c14 c15 c16 c17 c18 c19
      have HNS := Lib.hid (nm_step X1.out)
      have HTL := Lib.hid (show ((L.take k).map (·.1.name)).length ≤ 1000 by rw [List.length_map, List.length_take]; omega)
      go_wp2_with (((with_reducible show wpList _ _ _ (⟨some 20, _, _, _, _, _⟩ :: _) _ _); go_must (refine wpList_pushE TTexts HO.out rfl rfl s.name rfl rfl (by have := HTL.out; omega) (by omega) HB.out.size ?_; intro v3 w3 hv3 _ hb3; have HO3 := Lib.hid (show Ow S 9 w3 w1.heap.size v3 ((L.take (k + 1)).map (·.1.name)) by rw [HNS.out]; exact hv3); have HB3 := Lib.hid (HB.out.trans hb3); clear hv3 hb3)))
      go_roundw
      case rel =>
        first
          | exact ⟨k + 1, by go_num, by omega, HO3.out, HB3.out⟩
          | ((repeat apply Exists.intro); exact ⟨⟨k + 1, by go_num, by omega, HO3.out, HB3.out⟩, rfl⟩)
      case measure => simp [intOf] <;> omega
    · have hkn : L.length ≤ k := by have := HL.out; omega
      have HO1 : Hid (Ow S 9 wr w1.heap.size u3 (L.map (·.1.name))) := by
        have := HO.out
        rw [List.take_of_length_le hkn] at this
        exact this
      have HTL := Lib.hid (show (L.map (·.1.name)).length ≤ 1000 by rw [List.length_map]; have := HL.out; omega)
      clear HO hkn
      go_wp2_with ((with_reducible show wpList _ _ _ (⟨some 23, _, _, _, _, _⟩ :: _) _ _); go_must (refine wpList_pushE TTexts HO1.out rfl rfl tabName rfl rfl (by have := HTL.out; omega) (by omega) HB.out.size ?_; intro v3 w3 hv3 _ hb3; have HO3 := Lib.hid (show Ow S 9 w3 w1.heap.size v3 (namesOf e.secs) by rw [HN.out]; exact hv3); have HB3 := Lib.hid (HB.out.trans hb3); clear hv3 hb3))
      have HB4 := Lib.hid (HB1.out.trans (HB3.out.mono HB1.out.size))
      have H1 := Lib.hid (owns_base HO3.out HB1.out.size)
      go_ret
      exact ⟨_, rfl, H1.out, HB4.out⟩
end Go.Proofs.YtimnbnomaajmmaaGreat
namespace Go.Proofs.YtimnbnomaajmmaaGreat
open Go.RowKit Go.Fd
theorem sec_of {e : ElfM} {L : List (SecM × Value)} {k : Nat} {x : SecM × Value} (h : e.secs = L.map (·.1)) (hk : L[k]? = some x) : e.secs[k]? = some x.1 := by rw [h, List.getElem?_map, hk]; rfl
theorem flag_run {f : Nat} (hf : f < 18446744073709551616) : (bits .and .u64 (f : Int) 2 != 0) = decide (f &&& 2 ≠ 0) := by
  have := bits_and_u64_nat f 2 hf (by omega)
  rw [show ((2 : Nat) : Int) = 2 from rfl] at this
  rw [this, Bool.eq_iff_iff]
  simp only [bne_iff_ne, decide_eq_true_eq, ne_eq]
  omega
theorem pls_bd {e : ElfM} {k : Nat} (hp : ∀ s ∈ e.secs, powB s.align = true) (hl : e.secs.length ≤ 1000) (hg : e.segs.length ≤ 1000) (hd : dsum e.secs ≤ 2147483648) : (plF (segsB e) (front e) (e.secs.take k)).2 ≤ 3000000000 := by
  have h1 := (plF_le (g := segsB e) (n := front e) (l := e.secs.take k) (fun s hs => hp s (List.mem_of_mem_take hs))).2.1
  have h2 := dsum_take e.secs k
  have h3 : (e.secs.take k).length ≤ 1000 := by rw [List.length_take]; omega
  unfold front at h1
  unfold front
  omega
theorem pad_eq {q addr : Nat} (hq : q ≤ 3000000000) (ha : addr < 18446744073709551616) : wrap64 ((q : Int) + wrap64 ((IntKind.u64.wrap ((addr : Int) - q)).tmod 4096)) = ((q + (addr + 18446744073709551616 - q) % 18446744073709551616 % 4096 : Nat) : Int) := by
  have h1 : IntKind.u64.wrap ((addr : Int) - q) = (((addr + 18446744073709551616 - q) % 18446744073709551616 : Nat) : Int) := by
    simp [IntKind.wrap, IntKind.bits, IntKind.signed]
    omega
  rw [h1]
  generalize (addr + 18446744073709551616 - q) % 18446744073709551616 = z
  rw [Int.tmod_eq_emod_of_nonneg (by omega)]
  unfold wrap64
  omega
set_option maxHeartbeats 1000000 in
set_option maxRecDepth 100000 in
theorem places_any (e : ElfM) (L : List (SecM × Value)) (sv gv : Value) (t : Nat) (w : World) (h : ElfAt w e L sv gv) (hl : L.length ≤ 1000) (hg : e.segs.length ≤ 1000) (hp : ∀ s ∈ e.secs, powB s.align = true) (hf : ∀ s ∈ e.secs, s.fits) (hd : dsum e.secs ≤ 2147483648) (ht : t ≤ 2147483648) :
    Calls Tryz.prog 52 #[elfV e sv gv, .int .i64 t] w fun r w' => ∃ v1, r = .returned (.tuple #[v1, .int .i64 ((placesOf e).2 : Nat), .int .i64 (headsOf e t : Nat)]) ∧ Ow I64 3 w' w.heap.size v1 (placesOf e).1 ∧ Below w.heap.size w w' := by
  obtain ⟨a, ca, rfl, hca, -, hc⟩ := h.rd.open (fun _ => rfl)
  obtain ⟨gn, ga, gc, hgn, rfl, hgc, _⟩ := h.segs.shape
  have HC := Lib.hid hc
  have HD := Lib.hid h.data
  have HSE := Lib.hid (fun k x (hk : L[k]? = some x) => sec_of h.secs hk)
  have HPB := Lib.hid (fun k => pls_bd (k := k) hp (by rw [h.secs, List.length_map]; exact hl) hg hd)
  have HPW := Lib.hid hp
  have HFT := Lib.hid hf
  have HPL : Hid (placesOf e = plF (segsB e) (front e) e.secs) := rfl
  have HH : Hid (headsOf e t = upN ((placesOf e).2 + t) 8) := rfl
  have HEL := Lib.hid (show e.secs.length = L.length by rw [h.secs, List.length_map])
  obtain ⟨nl, hnl⟩ : ∃ n, n = L.length := ⟨_, rfl⟩
  rw [← hnl] at hl hca ⊢
  have HL := Lib.hid hnl
  have HGN := Lib.hid (show segsB e = decide (0 < gn) by unfold segsB; rw [← hgn.out])
  have HFR := Lib.hid (show front e = 64 + 56 * gn by unfold front; rw [← hgn.out])
  rw [← hgn.out] at hg
  clear hc h hnl hp hf
  go_enter Tryz.func52, Tryz.ntmps52
  go_wp2_with ((with_reducible show wpList _ _ _ (⟨_, .box _ _, _, _, _, _⟩ :: _) _ _); go_must (refine wpList_box rfl ?_; intro w1 hx1 hb1 hs1; obtain ⟨c0, c1, c2, c3, c4, c5⟩ := elf_box hx1))
  have HX1 := Lib.hid hx1
  have HB1 := Lib.hid hb1
  clear c0 c1 c2 c3 c4 c5 hx1 hb1
  go_loopw [4, 7, 18] (fun tx p i wr => ∃ k q : Nat, i = .int .i64 k ∧ k ≤ nl ∧ p = .int .i64 q ∧ q ≤ 3000000000 ∧ Hid (q = (plF (segsB e) (front e) (e.secs.take k)).2) ∧ Hid (Ow I64 3 wr w1.heap.size tx (plF (segsB e) (front e) (e.secs.take k)).1) ∧ Hid (Below w1.heap.size w1 wr)) (fun _ _ i _ => nl - (intOf i).toNat)
  case atStart => exact ⟨0, 64 + 56 * gn, rfl, Nat.zero_le _, by go_num, by omega, by rw [HFR.out]; rfl, Ow.nil _ _ _ _, Below.refl _ _⟩
  case round =>
    obtain ⟨k, q, rfl, hk, rfl, hq, HQ, HO, HB⟩ := hrel
    have hbs := HB.out.size
    have HBW := Lib.hid (HB1.out.trans (HB.out.mono HB1.out.size))
    by_cases hlt : k < nl
    · have X1 := Lib.hid (show L[k]? = some (L[k]'(by have := HL.out; omega)) from List.getElem?_eq_getElem _)
      generalize L[k]'(by have := HL.out; omega) = x at *
      obtain ⟨s, dv⟩ := x
      obtain ⟨dm, da, dc, hdm, rfl, _, _⟩ := (HD.out _ (List.mem_of_getElem? X1.out)).shape
      have X2 := Lib.hid (HSE.out _ _ X1.out)
      have HST := Lib.hid (plF_step (g := segsB e) (n := front e) X2.out)
      have HP1 := Lib.hid (HPB.out (k + 1))
      have HFS := Lib.hid (HFT.out _ (List.mem_of_getElem? X2.out))
      have HPS := Lib.hid (powB_le (HPW.out _ (List.mem_of_getElem? X2.out)))
      have HLK := Lib.hid (show ((plF (segsB e) (front e) (e.secs.take k)).1).length ≤ 1000 by rw [plF_len, List.length_take]; omega)
      rw [HST.out] at HP1
      obtain ⟨b1, o1, ha, c10, c11, c12, c13, c14, c15, c16, c17, c18, c19, -⟩ := sec_cells HC.out HBW.out X1.out
      subst ha
      have HQS : Hid ((plStep (segsB e) (plF (segsB e) (front e) (e.secs.take k)) s).2 = placeS (decide (0 < gn)) q s + dm ∧ (plStep (segsB e) (plF (segsB e) (front e) (e.secs.take k)) s).1 = (plF (segsB e) (front e) (e.secs.take k)).1 ++ [placeS (decide (0 < gn)) q s]) := by
        unfold plStep
        rw [HGN.out] at HQ ⊢
        rw [← HQ.out, ← hdm.out]
        exact ⟨rfl, rfl⟩
      obtain ⟨name, typ, flags, addr, align, size, link, info, ent, data⟩ := s
      dsimp only at *
      have hfl := flag_run HFS.out.2.1
      dsimp only at hfl
      have HPX : Hid (∀ p, placeS (decide (0 < gn)) q ⟨name, typ, flags, addr, align, size, link, info, ent, data⟩ = p → q ≤ p ∧ p ≤ q + 65536 ∧ p + dm ≤ 3000000000) := fun p hp => by
        have h1 := placeS_le (g := decide (0 < gn)) (p := q) (s := ⟨name, typ, flags, addr, align, size, link, info, ent, data⟩) (HPW.out _ (List.mem_of_getElem? X2.out))
        have h2 := HP1.out
        rw [HQS.out.1] at h2
        rw [hp] at h1 h2
        exact ⟨h1.1, h1.2, h2⟩
      clear HP1 HPW HPB HFT HSE
      by_cases h8 : typ = 8
      · have h8' : ((typ : Int) == 8) = true := by rw [beq_iff_eq]; omega
        obtain ⟨p, hp⟩ : ∃ p, p = q := ⟨_, rfl⟩
        have HPp := Lib.hid (show placeS (decide (0 < gn)) q ⟨name, typ, flags, addr, align, size, link, info, ent, data⟩ = p by unfold placeS; rw [if_pos h8, hp])
        obtain ⟨hp1, hp2, hp3⟩ := HPX.out p HPp.out
        have HX8 := Lib.hid h8
        subst hp
        clear h8 hfl
        go_wp2_with (first
          | ((with_reducible show wpList _ _ _ (⟨none, .store _ _ _, _, _, _, _⟩ :: _) _ _); go_must (refine wpList_storeNew rfl rfl (by kernel_rfl) rfl (by simp [Value.oneCell']) ?_; intro w2 hh2 hb2; obtain ⟨e0, e1, e2, e3, e4, e5, e6, e7, e8, e9⟩ := sec_box (x := (⟨name, typ, flags, addr, align, size, link, info, ent, data⟩, .slice da dm dc)) hh2; have HO2 := Lib.hid (HO.out.mono hb2); have HB2 := Lib.hid (HB.out.trans (hb2.mono HB.out.size)); obtain ⟨d0, d1, d2, d3, d4, d5⟩ := elf_box (heap_below HB2.out HX1.out); have HH2 := Lib.hid hh2))
          | ((with_reducible show wpList _ _ _ (⟨some 53, _, _, _, _, _⟩ :: _) _ _); go_must (refine wpList_pushE TI HO2.out rfl rfl p rfl rfl (by have := HLK.out; omega) (by omega) HB2.out.size ?_; intro v3 w3 hv3 hg3 hb3; have HO3 := Lib.hid hv3; have HB3 := Lib.hid (HB2.out.trans hb3); obtain ⟨f0, f1, f2, f3, f4, f5, f6, f7, f8, f9⟩ := sec_box (x := (⟨name, typ, flags, addr, align, size, link, info, ent, data⟩, .slice da dm dc)) (keeps_own HO2.out hg3 _ _ _ _ (by decide) HH2.out); clear hv3 hb3 hg3)))
        have HQ2 := Lib.hid (show p + dm = (plF (segsB e) (front e) (e.secs.take (k + 1))).2 by rw [HST.out, HQS.out.1, HPp.out])
        have HO4 := Lib.hid (show Ow I64 3 w3 w1.heap.size v3 (plF (segsB e) (front e) (e.secs.take (k + 1))).1 by rw [HST.out, HQS.out.2, HPp.out]; exact HO3.out)
        go_roundw
        case rel =>
          first
            | exact ⟨k + 1, p + dm, by go_num, by omega, by go_num, by omega, HQ2.out, HO4.out, HB3.out⟩
            | ((repeat apply Exists.intro); exact ⟨⟨k + 1, p + dm, by go_num, by omega, by go_num, by omega, HQ2.out, HO4.out, HB3.out⟩, rfl⟩)
        case measure => simp [intOf] <;> omega
      · have h8' : ((typ : Int) == 8) = false := by rw [beq_eq_false_iff_ne]; omega
        have HX8 := Lib.hid h8
        by_cases hg2 : 0 < gn ∧ flags &&& 2 ≠ 0
        · obtain ⟨hg1, hg2⟩ := hg2
          rw [decide_eq_true hg2] at hfl
          have hpad := pad_eq hq HFS.out.2.2.1
          have HPp := Lib.hid (show placeS (decide (0 < gn)) q ⟨name, typ, flags, addr, align, size, link, info, ent, data⟩ = q + (addr + 18446744073709551616 - q) % 18446744073709551616 % 4096 by unfold placeS; rw [if_neg h8, decide_eq_true hg1, decide_eq_true hg2]; rfl)
          dsimp only at hpad
          generalize q + (addr + 18446744073709551616 - q) % 18446744073709551616 % 4096 = p at *
          obtain ⟨hp1, hp2, hp3⟩ := HPX.out p HPp.out
          have HX2 := Lib.hid hg2
          clear h8 hg2
          go_wp2_with (first
            | ((with_reducible show wpList _ _ _ (⟨none, .store _ _ _, _, _, _, _⟩ :: _) _ _); go_must (refine wpList_storeNew rfl rfl (by kernel_rfl) rfl (by simp [Value.oneCell']) ?_; intro w2 hh2 hb2; obtain ⟨e0, e1, e2, e3, e4, e5, e6, e7, e8, e9⟩ := sec_box (x := (⟨name, typ, flags, addr, align, size, link, info, ent, data⟩, .slice da dm dc)) hh2; have HO2 := Lib.hid (HO.out.mono hb2); have HB2 := Lib.hid (HB.out.trans (hb2.mono HB.out.size)); obtain ⟨d0, d1, d2, d3, d4, d5⟩ := elf_box (heap_below HB2.out HX1.out); have HH2 := Lib.hid hh2))
            | ((with_reducible show wpList _ _ _ (⟨some 53, _, _, _, _, _⟩ :: _) _ _); go_must (refine wpList_pushE TI HO2.out rfl rfl p rfl rfl (by have := HLK.out; omega) (by omega) HB2.out.size ?_; intro v3 w3 hv3 hg3 hb3; have HO3 := Lib.hid hv3; have HB3 := Lib.hid (HB2.out.trans hb3); obtain ⟨f0, f1, f2, f3, f4, f5, f6, f7, f8, f9⟩ := sec_box (x := (⟨name, typ, flags, addr, align, size, link, info, ent, data⟩, .slice da dm dc)) (keeps_own HO2.out hg3 _ _ _ _ (by decide) HH2.out); clear hv3 hb3 hg3)))
          have HQ2 := Lib.hid (show p + dm = (plF (segsB e) (front e) (e.secs.take (k + 1))).2 by rw [HST.out, HQS.out.1, HPp.out])
          have HO4 := Lib.hid (show Ow I64 3 w3 w1.heap.size v3 (plF (segsB e) (front e) (e.secs.take (k + 1))).1 by rw [HST.out, HQS.out.2, HPp.out]; exact HO3.out)
          go_roundw
          case rel =>
            first
              | exact ⟨k + 1, p + dm, by go_num, by omega, by go_num, by omega, HQ2.out, HO4.out, HB3.out⟩
              | ((repeat apply Exists.intro); exact ⟨⟨k + 1, p + dm, by go_num, by omega, by go_num, by omega, HQ2.out, HO4.out, HB3.out⟩, rfl⟩)
          case measure => simp [intOf] <;> omega
        · have HPp := Lib.hid (show placeS (decide (0 < gn)) q ⟨name, typ, flags, addr, align, size, link, info, ent, data⟩ = upN q align by
            unfold placeS
            rw [if_neg h8, if_neg]
            simp only [Bool.and_eq_true, decide_eq_true_eq]
            exact hg2)
          have HU := Lib.hid (fun w => up_any q align w (by omega) HPS.out.1 HPS.out.2)
          generalize upN q align = p at *
          obtain ⟨hp1, hp2, hp3⟩ := HPX.out p HPp.out
          clear h8
          by_cases hg1 : 0 < gn
          · rw [decide_eq_false (fun h => hg2 ⟨hg1, h⟩)] at hfl
            have HX2 := Lib.hid hg2
            clear hg2
            go_wp2_with (first
              | ((with_reducible show wpList _ _ _ (⟨none, .store _ _ _, _, _, _, _⟩ :: _) _ _); go_must (refine wpList_storeNew rfl rfl (by kernel_rfl) rfl (by simp [Value.oneCell']) ?_; intro w2 hh2 hb2; obtain ⟨e0, e1, e2, e3, e4, e5, e6, e7, e8, e9⟩ := sec_box (x := (⟨name, typ, flags, addr, align, size, link, info, ent, data⟩, .slice da dm dc)) hh2; have HO2 := Lib.hid (HO.out.mono hb2); have HB2 := Lib.hid (HB.out.trans (hb2.mono HB.out.size)); obtain ⟨d0, d1, d2, d3, d4, d5⟩ := elf_box (heap_below HB2.out HX1.out); have HH2 := Lib.hid hh2))
              | ((with_reducible show wpList _ _ _ (⟨some 53, _, _, _, _, _⟩ :: _) _ _); go_must (refine wpList_pushE TI HO2.out rfl rfl p rfl rfl (by have := HLK.out; omega) (by omega) HB2.out.size ?_; intro v3 w3 hv3 hg3 hb3; have HO3 := Lib.hid hv3; have HB3 := Lib.hid (HB2.out.trans hb3); obtain ⟨f0, f1, f2, f3, f4, f5, f6, f7, f8, f9⟩ := sec_box (x := (⟨name, typ, flags, addr, align, size, link, info, ent, data⟩, .slice da dm dc)) (keeps_own HO2.out hg3 _ _ _ _ (by decide) HH2.out); clear hv3 hb3 hg3))
              | (go_at_call 89; refine (HU.out _).mono ?_; rintro r w4 ⟨rfl, rfl⟩))
            have HQ2 := Lib.hid (show p + dm = (plF (segsB e) (front e) (e.secs.take (k + 1))).2 by rw [HST.out, HQS.out.1, HPp.out])
            have HO4 := Lib.hid (show Ow I64 3 w3 w1.heap.size v3 (plF (segsB e) (front e) (e.secs.take (k + 1))).1 by rw [HST.out, HQS.out.2, HPp.out]; exact HO3.out)
            go_roundw
            case rel =>
              first
                | exact ⟨k + 1, p + dm, by go_num, by omega, by go_num, by omega, HQ2.out, HO4.out, HB3.out⟩
                | ((repeat apply Exists.intro); exact ⟨⟨k + 1, p + dm, by go_num, by omega, by go_num, by omega, HQ2.out, HO4.out, HB3.out⟩, rfl⟩)
            case measure => simp [intOf] <;> omega
          · have HX2 := Lib.hid hg2
            clear hg2 hfl
            go_wp2_with (first
              | ((with_reducible show wpList _ _ _ (⟨none, .store _ _ _, _, _, _, _⟩ :: _) _ _); go_must (refine wpList_storeNew rfl rfl (by kernel_rfl) rfl (by simp [Value.oneCell']) ?_; intro w2 hh2 hb2; obtain ⟨e0, e1, e2, e3, e4, e5, e6, e7, e8, e9⟩ := sec_box (x := (⟨name, typ, flags, addr, align, size, link, info, ent, data⟩, .slice da dm dc)) hh2; have HO2 := Lib.hid (HO.out.mono hb2); have HB2 := Lib.hid (HB.out.trans (hb2.mono HB.out.size)); obtain ⟨d0, d1, d2, d3, d4, d5⟩ := elf_box (heap_below HB2.out HX1.out); have HH2 := Lib.hid hh2))
              | ((with_reducible show wpList _ _ _ (⟨some 53, _, _, _, _, _⟩ :: _) _ _); go_must (refine wpList_pushE TI HO2.out rfl rfl p rfl rfl (by have := HLK.out; omega) (by omega) HB2.out.size ?_; intro v3 w3 hv3 hg3 hb3; have HO3 := Lib.hid hv3; have HB3 := Lib.hid (HB2.out.trans hb3); obtain ⟨f0, f1, f2, f3, f4, f5, f6, f7, f8, f9⟩ := sec_box (x := (⟨name, typ, flags, addr, align, size, link, info, ent, data⟩, .slice da dm dc)) (keeps_own HO2.out hg3 _ _ _ _ (by decide) HH2.out); clear hv3 hb3 hg3))
              | (go_at_call 89; refine (HU.out _).mono ?_; rintro r w4 ⟨rfl, rfl⟩))
            have HQ2 := Lib.hid (show p + dm = (plF (segsB e) (front e) (e.secs.take (k + 1))).2 by rw [HST.out, HQS.out.1, HPp.out])
            have HO4 := Lib.hid (show Ow I64 3 w3 w1.heap.size v3 (plF (segsB e) (front e) (e.secs.take (k + 1))).1 by rw [HST.out, HQS.out.2, HPp.out]; exact HO3.out)
            go_roundw
            case rel =>
              first
                | exact ⟨k + 1, p + dm, by go_num, by omega, by go_num, by omega, HQ2.out, HO4.out, HB3.out⟩
                | exact ⟨_, _, _, _, ⟨k + 1, rfl, by omega, p + dm, rfl, by omega, HQ2.out, HO4.out⟩, rfl, by go_num, rfl, by go_num⟩
                | ((repeat apply Exists.intro); exact ⟨⟨k + 1, p + dm, by go_num, by omega, by go_num, by omega, HQ2.out, HO4.out, HB3.out⟩, rfl⟩)
            case measure => simp [intOf] <;> omega
    · have hkn : e.secs.take k = e.secs := List.take_of_length_le (by have := HL.out; have := HEL.out; omega)
      have HO1 : Hid (Ow I64 3 wr w1.heap.size u4 (placesOf e).1) := by
        have := HO.out
        rw [hkn] at this
        exact this
      have HQ1 : Hid (q = (placesOf e).2) := by
        have := HQ.out
        rw [hkn] at this
        exact this
      have HHQ : Hid (headsOf e t = upN (q + t) 8) := by rw [HH.out, HQ1.out]; exact rfl
      have HU := Lib.hid (fun w => up_any (q + t) 8 w (by omega) (by decide) (by decide))
      clear HO hkn
      generalize upN (q + t) 8 = p at *
      go_wp2_with (go_at_call 89; refine (HU.out _).mono ?_; rintro r w4 ⟨rfl, rfl⟩)
      go_ret3
      exact ⟨_, by rw [← HQ1.out, HHQ.out]; rfl, owns_base HO1.out HB1.out.size, HBW.out⟩
end Go.Proofs.YtimnbnomaajmmaaGreat
namespace Go.Proofs.YtimnbnomaajmmaaGreat
open Go.RowKit Go.Fd
set_option maxHeartbeats 1000000 in
set_option maxRecDepth 100000 in
theorem ref4Places_any (e : ElfM) (L : List (SecM × Value)) (sv gv : Value) (w : World) (h : ElfAt w e L sv gv) (hl : L.length ≤ 1000) (hg : e.segs.length ≤ 1000) (hp : ∀ s ∈ e.secs, powB s.align = true) (hf : ∀ s ∈ e.secs, s.fits) (hd : dsum e.secs ≤ 2147483648) :
    Calls Tryz.prog 70 #[elfV e sv gv] w fun r w' => ∃ v1, r = .returned (.tuple #[v1, .int .i64 ((placesOf e).2 : Nat)]) ∧ Ow I64 3 w' w.heap.size v1 (placesOf e).1 ∧ Below w.heap.size w w' := by
  obtain ⟨a, ca, rfl, hca, -, hc⟩ := h.rd.open (fun _ => rfl)
  obtain ⟨gn, ga, gc, hgn, rfl, hgc, _⟩ := h.segs.shape
  have HC := Lib.hid hc
  have HD := Lib.hid h.data
  have HSE := Lib.hid (fun k x (hk : L[k]? = some x) => sec_of h.secs hk)
  have HPB := Lib.hid (fun k => pls_bd (k := k) hp (by rw [h.secs, List.length_map]; exact hl) hg hd)
  have HPW := Lib.hid hp
  have HFT := Lib.hid hf
  have HPL : Hid (placesOf e = plF (segsB e) (front e) e.secs) := rfl
  have HEL := Lib.hid (show e.secs.length = L.length by rw [h.secs, List.length_map])
  obtain ⟨nl, hnl⟩ : ∃ n, n = L.length := ⟨_, rfl⟩
  rw [← hnl] at hl hca ⊢
  have HL := Lib.hid hnl
  have HGN := Lib.hid (show segsB e = decide (0 < gn) by unfold segsB; rw [← hgn.out])
  have HFR := Lib.hid (show front e = 64 + 56 * gn by unfold front; rw [← hgn.out])
  rw [← hgn.out] at hg
  clear hc h hnl hp hf
  go_enter Tryz.func70, Tryz.ntmps70
  go_wp2_with ((with_reducible show wpList _ _ _ (⟨_, .box _ _, _, _, _, _⟩ :: _) _ _); go_must (refine wpList_box rfl ?_; intro w1 hx1 hb1 hs1; obtain ⟨c0, c1, c2, c3, c4, c5⟩ := elf_box hx1))
  have HX1 := Lib.hid hx1
  have HB1 := Lib.hid hb1
  clear c0 c1 c2 c3 c4 c5 hx1 hb1
  go_loopw [4, 5, 6] (fun p tx i wr => ∃ k q : Nat, i = .int .i64 k ∧ k ≤ nl ∧ p = .int .i64 q ∧ q ≤ 3000000000 ∧ Hid (q = (plF (segsB e) (front e) (e.secs.take k)).2) ∧ Hid (Ow I64 3 wr w1.heap.size tx (plF (segsB e) (front e) (e.secs.take k)).1) ∧ Hid (Below w1.heap.size w1 wr)) (fun _ _ i _ => nl - (intOf i).toNat)
  case atStart => exact ⟨0, 64 + 56 * gn, rfl, Nat.zero_le _, by go_num, by omega, by rw [HFR.out]; rfl, Ow.nil _ _ _ _, Below.refl _ _⟩
  case round =>
    obtain ⟨k, q, rfl, hk, rfl, hq, HQ, HO, HB⟩ := hrel
    have hbs := HB.out.size
    have HBW := Lib.hid (HB1.out.trans (HB.out.mono HB1.out.size))
    obtain ⟨d0, d1, d2, d3, d4, d5⟩ := elf_box (heap_below HB.out HX1.out)
    clear d0 d1 d2 d3
    by_cases hlt : k < nl
    · have X1 := Lib.hid (show L[k]? = some (L[k]'(by have := HL.out; omega)) from List.getElem?_eq_getElem _)
      generalize L[k]'(by have := HL.out; omega) = x at *
      obtain ⟨s, dv⟩ := x
      obtain ⟨dm, da, dc, hdm, rfl, _, _⟩ := (HD.out _ (List.mem_of_getElem? X1.out)).shape
      have X2 := Lib.hid (HSE.out _ _ X1.out)
      have HST := Lib.hid (plF_step (g := segsB e) (n := front e) X2.out)
      have HP1 := Lib.hid (HPB.out (k + 1))
      have HFS := Lib.hid (HFT.out _ (List.mem_of_getElem? X2.out))
      have HPS := Lib.hid (powB_le (HPW.out _ (List.mem_of_getElem? X2.out)))
      have HLK := Lib.hid (show ((plF (segsB e) (front e) (e.secs.take k)).1).length ≤ 1000 by rw [plF_len, List.length_take]; omega)
      rw [HST.out] at HP1
      obtain ⟨b1, o1, ha, c10, c11, c12, c13, c14, c15, c16, c17, c18, c19, -⟩ := sec_cells HC.out HBW.out X1.out
      subst ha
      have HQS : Hid ((plStep (segsB e) (plF (segsB e) (front e) (e.secs.take k)) s).2 = placeS (decide (0 < gn)) q s + dm ∧ (plStep (segsB e) (plF (segsB e) (front e) (e.secs.take k)) s).1 = (plF (segsB e) (front e) (e.secs.take k)).1 ++ [placeS (decide (0 < gn)) q s]) := by
        unfold plStep
        rw [HGN.out] at HQ ⊢
        rw [← HQ.out, ← hdm.out]
        exact ⟨rfl, rfl⟩
      obtain ⟨name, typ, flags, addr, align, size, link, info, ent, data⟩ := s
      dsimp only at *
      have hfl := flag_run HFS.out.2.1
      dsimp only at hfl
      have HPX : Hid (∀ p, placeS (decide (0 < gn)) q ⟨name, typ, flags, addr, align, size, link, info, ent, data⟩ = p → q ≤ p ∧ p ≤ q + 65536 ∧ p + dm ≤ 3000000000) := fun p hp => by
        have h1 := placeS_le (g := decide (0 < gn)) (p := q) (s := ⟨name, typ, flags, addr, align, size, link, info, ent, data⟩) (HPW.out _ (List.mem_of_getElem? X2.out))
        have h2 := HP1.out
        rw [HQS.out.1] at h2
        rw [hp] at h1 h2
        exact ⟨h1.1, h1.2, h2⟩
      clear HP1 HPW HPB HFT HSE
      by_cases h8 : typ = 8
      · have h8' : ((typ : Int) != 8) = false := by rw [bne_eq_false_iff_eq]; omega
        obtain ⟨p, hp⟩ : ∃ p, p = q := ⟨_, rfl⟩
        have HPp := Lib.hid (show placeS (decide (0 < gn)) q ⟨name, typ, flags, addr, align, size, link, info, ent, data⟩ = p by unfold placeS; rw [if_pos h8, hp])
        obtain ⟨hp1, hp2, hp3⟩ := HPX.out p HPp.out
        have HX8 := Lib.hid h8
        subst hp
        clear h8 hfl
        go_wp2_with (first
          | ((with_reducible show wpList _ _ _ (⟨none, .store _ _ _, _, _, _, _⟩ :: _) _ _); go_must (refine wpList_storeNew rfl rfl (by kernel_rfl) rfl (by simp [Value.oneCell']) ?_; intro w2 hh2 hb2; obtain ⟨e0, e1, e2, e3, e4, e5, e6, e7, e8, e9⟩ := sec_box (x := (⟨name, typ, flags, addr, align, size, link, info, ent, data⟩, .slice da dm dc)) hh2; have HO2 := Lib.hid (HO.out.mono hb2); have HB2 := Lib.hid (HB.out.trans (hb2.mono HB.out.size)); obtain ⟨d0, d1, d2, d3, d4, d5⟩ := elf_box (heap_below HB2.out HX1.out); have HH2 := Lib.hid hh2))
          | ((with_reducible show wpList _ _ _ (⟨some 55, _, _, _, _, _⟩ :: _) _ _); go_must (refine wpList_pushE TI HO2.out rfl rfl p rfl rfl (by have := HLK.out; omega) (by omega) HB2.out.size ?_; intro v3 w3 hv3 hg3 hb3; have HO3 := Lib.hid hv3; have HB3 := Lib.hid (HB2.out.trans hb3); obtain ⟨f0, f1, f2, f3, f4, f5, f6, f7, f8, f9⟩ := sec_box (x := (⟨name, typ, flags, addr, align, size, link, info, ent, data⟩, .slice da dm dc)) (keeps_own HO2.out hg3 _ _ _ _ (by decide) HH2.out); clear hv3 hb3 hg3)))
        have HQ2 := Lib.hid (show p + dm = (plF (segsB e) (front e) (e.secs.take (k + 1))).2 by rw [HST.out, HQS.out.1, HPp.out])
        have HO4 := Lib.hid (show Ow I64 3 w3 w1.heap.size v3 (plF (segsB e) (front e) (e.secs.take (k + 1))).1 by rw [HST.out, HQS.out.2, HPp.out]; exact HO3.out)
        go_roundw
        case rel =>
          first
            | exact ⟨k + 1, p + dm, by go_num, by omega, by go_num, by omega, HQ2.out, HO4.out, HB3.out⟩
            | ((repeat apply Exists.intro); exact ⟨⟨k + 1, p + dm, by go_num, by omega, by go_num, by omega, HQ2.out, HO4.out, HB3.out⟩, rfl⟩)
        case measure => simp [intOf] <;> omega
      · have h8' : ((typ : Int) != 8) = true := by rw [bne_iff_ne]; omega
        have HX8 := Lib.hid h8
        by_cases hg2 : 0 < gn ∧ flags &&& 2 ≠ 0
        · obtain ⟨hg1, hg2⟩ := hg2
          rw [decide_eq_true hg2] at hfl
          have hpad := pad_eq hq HFS.out.2.2.1
          have HPp := Lib.hid (show placeS (decide (0 < gn)) q ⟨name, typ, flags, addr, align, size, link, info, ent, data⟩ = q + (addr + 18446744073709551616 - q) % 18446744073709551616 % 4096 by unfold placeS; rw [if_neg h8, decide_eq_true hg1, decide_eq_true hg2]; rfl)
          dsimp only at hpad
          generalize q + (addr + 18446744073709551616 - q) % 18446744073709551616 % 4096 = p at *
          obtain ⟨hp1, hp2, hp3⟩ := HPX.out p HPp.out
          have HX2 := Lib.hid hg2
          clear h8 hg2
          go_wp2_with (first
            | ((with_reducible show wpList _ _ _ (⟨none, .store _ _ _, _, _, _, _⟩ :: _) _ _); go_must (refine wpList_storeNew rfl rfl (by kernel_rfl) rfl (by simp [Value.oneCell']) ?_; intro w2 hh2 hb2; obtain ⟨e0, e1, e2, e3, e4, e5, e6, e7, e8, e9⟩ := sec_box (x := (⟨name, typ, flags, addr, align, size, link, info, ent, data⟩, .slice da dm dc)) hh2; have HO2 := Lib.hid (HO.out.mono hb2); have HB2 := Lib.hid (HB.out.trans (hb2.mono HB.out.size)); obtain ⟨d0, d1, d2, d3, d4, d5⟩ := elf_box (heap_below HB2.out HX1.out); have HH2 := Lib.hid hh2))
            | ((with_reducible show wpList _ _ _ (⟨some 55, _, _, _, _, _⟩ :: _) _ _); go_must (refine wpList_pushE TI HO2.out rfl rfl p rfl rfl (by have := HLK.out; omega) (by omega) HB2.out.size ?_; intro v3 w3 hv3 hg3 hb3; have HO3 := Lib.hid hv3; have HB3 := Lib.hid (HB2.out.trans hb3); obtain ⟨f0, f1, f2, f3, f4, f5, f6, f7, f8, f9⟩ := sec_box (x := (⟨name, typ, flags, addr, align, size, link, info, ent, data⟩, .slice da dm dc)) (keeps_own HO2.out hg3 _ _ _ _ (by decide) HH2.out); clear hv3 hb3 hg3)))
          have HQ2 := Lib.hid (show p + dm = (plF (segsB e) (front e) (e.secs.take (k + 1))).2 by rw [HST.out, HQS.out.1, HPp.out])
          have HO4 := Lib.hid (show Ow I64 3 w3 w1.heap.size v3 (plF (segsB e) (front e) (e.secs.take (k + 1))).1 by rw [HST.out, HQS.out.2, HPp.out]; exact HO3.out)
          go_roundw
          case rel =>
            first
              | exact ⟨k + 1, p + dm, by go_num, by omega, by go_num, by omega, HQ2.out, HO4.out, HB3.out⟩
              | ((repeat apply Exists.intro); exact ⟨⟨k + 1, p + dm, by go_num, by omega, by go_num, by omega, HQ2.out, HO4.out, HB3.out⟩, rfl⟩)
          case measure => simp [intOf] <;> omega
        · have HPp := Lib.hid (show placeS (decide (0 < gn)) q ⟨name, typ, flags, addr, align, size, link, info, ent, data⟩ = upN q align by
            unfold placeS
            rw [if_neg h8, if_neg]
            simp only [Bool.and_eq_true, decide_eq_true_eq]
            exact hg2)
          have HU := Lib.hid (fun w => ref4Up_any q align w (by omega) HPS.out.1 HPS.out.2)
          have hal : align ≤ 65536 := HPS.out.2
          generalize upN q align = p at *
          obtain ⟨hp1, hp2, hp3⟩ := HPX.out p HPp.out
          clear h8
          by_cases hg1 : 0 < gn
          · rw [decide_eq_false (fun h => hg2 ⟨hg1, h⟩)] at hfl
            have HX2 := Lib.hid hg2
            clear hg2
            go_wp2_with (first
              | ((with_reducible show wpList _ _ _ (⟨none, .store _ _ _, _, _, _, _⟩ :: _) _ _); go_must (refine wpList_storeNew rfl rfl (by kernel_rfl) rfl (by simp [Value.oneCell']) ?_; intro w2 hh2 hb2; obtain ⟨e0, e1, e2, e3, e4, e5, e6, e7, e8, e9⟩ := sec_box (x := (⟨name, typ, flags, addr, align, size, link, info, ent, data⟩, .slice da dm dc)) hh2; have HO2 := Lib.hid (HO.out.mono hb2); have HB2 := Lib.hid (HB.out.trans (hb2.mono HB.out.size)); obtain ⟨d0, d1, d2, d3, d4, d5⟩ := elf_box (heap_below HB2.out HX1.out); have HH2 := Lib.hid hh2))
              | ((with_reducible show wpList _ _ _ (⟨some 55, _, _, _, _, _⟩ :: _) _ _); go_must (refine wpList_pushE TI HO2.out rfl rfl p rfl rfl (by have := HLK.out; omega) (by omega) HB2.out.size ?_; intro v3 w3 hv3 hg3 hb3; have HO3 := Lib.hid hv3; have HB3 := Lib.hid (HB2.out.trans hb3); obtain ⟨f0, f1, f2, f3, f4, f5, f6, f7, f8, f9⟩ := sec_box (x := (⟨name, typ, flags, addr, align, size, link, info, ent, data⟩, .slice da dm dc)) (keeps_own HO2.out hg3 _ _ _ _ (by decide) HH2.out); clear hv3 hb3 hg3))
              | (go_at_call 73; refine (HU.out _).mono ?_; rintro r w4 ⟨rfl, rfl⟩))
            have HQ2 := Lib.hid (show p + dm = (plF (segsB e) (front e) (e.secs.take (k + 1))).2 by rw [HST.out, HQS.out.1, HPp.out])
            have HO4 := Lib.hid (show Ow I64 3 w3 w1.heap.size v3 (plF (segsB e) (front e) (e.secs.take (k + 1))).1 by rw [HST.out, HQS.out.2, HPp.out]; exact HO3.out)
            go_roundw
            case rel =>
              first
                | exact ⟨k + 1, p + dm, by go_num, by omega, by go_num, by omega, HQ2.out, HO4.out, HB3.out⟩
                | ((repeat apply Exists.intro); exact ⟨⟨k + 1, p + dm, by go_num, by omega, by go_num, by omega, HQ2.out, HO4.out, HB3.out⟩, rfl⟩)
            case measure => simp [intOf] <;> omega
          · have HX2 := Lib.hid hg2
            clear hg2 hfl
            go_wp2_with (first
              | ((with_reducible show wpList _ _ _ (⟨none, .store _ _ _, _, _, _, _⟩ :: _) _ _); go_must (refine wpList_storeNew rfl rfl (by kernel_rfl) rfl (by simp [Value.oneCell']) ?_; intro w2 hh2 hb2; obtain ⟨e0, e1, e2, e3, e4, e5, e6, e7, e8, e9⟩ := sec_box (x := (⟨name, typ, flags, addr, align, size, link, info, ent, data⟩, .slice da dm dc)) hh2; have HO2 := Lib.hid (HO.out.mono hb2); have HB2 := Lib.hid (HB.out.trans (hb2.mono HB.out.size)); obtain ⟨d0, d1, d2, d3, d4, d5⟩ := elf_box (heap_below HB2.out HX1.out); have HH2 := Lib.hid hh2))
              | ((with_reducible show wpList _ _ _ (⟨some 55, _, _, _, _, _⟩ :: _) _ _); go_must (refine wpList_pushE TI HO2.out rfl rfl p rfl rfl (by have := HLK.out; omega) (by omega) HB2.out.size ?_; intro v3 w3 hv3 hg3 hb3; have HO3 := Lib.hid hv3; have HB3 := Lib.hid (HB2.out.trans hb3); obtain ⟨f0, f1, f2, f3, f4, f5, f6, f7, f8, f9⟩ := sec_box (x := (⟨name, typ, flags, addr, align, size, link, info, ent, data⟩, .slice da dm dc)) (keeps_own HO2.out hg3 _ _ _ _ (by decide) HH2.out); clear hv3 hb3 hg3))
              | (go_at_call 73; refine (HU.out _).mono ?_; rintro r w4 ⟨rfl, rfl⟩))
            have HQ2 := Lib.hid (show p + dm = (plF (segsB e) (front e) (e.secs.take (k + 1))).2 by rw [HST.out, HQS.out.1, HPp.out])
            have HO4 := Lib.hid (show Ow I64 3 w3 w1.heap.size v3 (plF (segsB e) (front e) (e.secs.take (k + 1))).1 by rw [HST.out, HQS.out.2, HPp.out]; exact HO3.out)
            go_roundw
            case rel =>
              first
                | exact ⟨k + 1, p + dm, by go_num, by omega, by go_num, by omega, HQ2.out, HO4.out, HB3.out⟩
                | exact ⟨_, _, _, _, ⟨k + 1, rfl, by omega, p + dm, rfl, by omega, HQ2.out, HO4.out⟩, rfl, by go_num, rfl, by go_num⟩
                | ((repeat apply Exists.intro); exact ⟨⟨k + 1, p + dm, by go_num, by omega, by go_num, by omega, HQ2.out, HO4.out, HB3.out⟩, rfl⟩)
            case measure => simp [intOf] <;> omega
    · have hkn : e.secs.take k = e.secs := List.take_of_length_le (by have := HL.out; have := HEL.out; omega)
      have HO1 : Hid (Ow I64 3 wr w1.heap.size u5 (placesOf e).1) := by
        have := HO.out
        rw [hkn] at this
        exact this
      have HQ1 : Hid (q = (placesOf e).2) := by
        have := HQ.out
        rw [hkn] at this
        exact this
      clear HO hkn
      go_wp2
      go_ret2
      exact ⟨_, by rw [← HQ1.out]; rfl, owns_base HO1.out HB1.out.size, HBW.out⟩
end Go.Proofs.YtimnbnomaajmmaaGreat
namespace Go.Fd
theorem seg_box {w : World} {g : Nat} {x : SegM} {t : TypeId} {fr : Nat × Nat} (h : w.heap[g]? = some (.cells #[.int .u32 (x.typ : Int), .int .u32 (x.flags : Int), .int .u64 (x.off : Int), .int .u64 (x.vaddr : Int), .int .u64 (x.filesz : Int), .int .u64 (x.memsz : Int), .int .u64 (x.align : Int)] t fr)) :
    w.cell? ⟨g, 0, none⟩ = some (.int .u32 (x.typ : Int)) ∧ w.cell? ⟨g, 1, none⟩ = some (.int .u32 (x.flags : Int)) ∧ w.cell? ⟨g, 2, none⟩ = some (.int .u64 (x.off : Int)) ∧ w.cell? ⟨g, 3, none⟩ = some (.int .u64 (x.vaddr : Int)) ∧ w.cell? ⟨g, 4, none⟩ = some (.int .u64 (x.filesz : Int)) ∧ w.cell? ⟨g, 5, none⟩ = some (.int .u64 (x.memsz : Int)) ∧ w.cell? ⟨g, 6, none⟩ = some (.int .u64 (x.align : Int)) :=
  ⟨cell_rec h 0, cell_rec h 1, cell_rec h 2, cell_rec h 3, cell_rec h 4, cell_rec h 5, cell_rec h 6⟩
/-- What is asked of a file, so that no number in a walk is too great. -/
structure ElfOk (e : ElfM) : Prop where
  fits : e.fits
  data : dsum e.secs ≤ 2147483648
  names : ∀ s ∈ e.secs, s.name.length ≤ 9223372036854775807
  secs : e.secs.length ≤ 1000000000
  segs : e.segs.length ≤ 1000000000
def secB (s : SecM) : Bool := fineB s && decide (s.data.length ≤ 4194304)
theorem all_step {α : Type} {f : α → Bool} {l : List α} {k : Nat} {x : α} (h : l[k]? = some x) (h0 : (l.take k).all f = true) (hb : f x = true) : (l.take (k + 1)).all f = true := by
  rw [List.take_add_one, h, List.all_append, h0]
  simp [hb]
theorem all_no {α : Type} {f : α → Bool} {l : List α} {k : Nat} {x : α} (h : l[k]? = some x) (hb : f x = false) : l.all f = false := by
  rw [Bool.eq_false_iff]
  intro h'
  rw [List.all_eq_true.1 h' x (List.mem_of_getElem? h)] at hb
  cases hb
theorem fineB_pow {s : SecM} (h : fineB s = true) : powB s.align = true := by
  unfold fineB at h
  simp only [Bool.and_eq_true] at h
  exact h.1.1.2
end Go.Fd
namespace Go.Proofs.YtimnbnomaajmmaaGreat
open Go.RowKit Go.Fd
theorem mayE_1 {e : ElfM} (h : may1 e = false) : mayE e = false := by unfold mayE; rw [h]; rfl
theorem mayE_2 {e : ElfM} (h : e.secs.all secB = false) : mayE e = false := by
  unfold mayE may2
  rw [show (e.secs.all fun s => fineB s && decide (s.data.length ≤ 4194304)) = e.secs.all secB from rfl, h]
  simp
theorem mayE_3 {e : ElfM} (h : (e.segs.all fun s => powB s.align) = false) : mayE e = false := by
  unfold mayE may2
  rw [h]
  simp
theorem mayE_all {e : ElfM} (h1 : may1 e = true) (h2 : e.secs.all secB = true) (h3 : (e.segs.all fun s => powB s.align) = true) : mayE e = may3 e := by
  unfold mayE may2
  rw [h1, show (e.secs.all fun s => fineB s && decide (s.data.length ≤ 4194304)) = e.secs.all secB from rfl, h2, h3]
  simp
theorem may3_no {e : ElfM} (h : (buildR (namesOf e.secs)).2.2 ≠ 0) : may3 e = false := by unfold may3; rw [decide_eq_false h]; rfl
theorem may3_yes {e : ElfM} {t : Nat} (h : (buildR (namesOf e.secs)).2.2 = 0) (ht : t = (tabOf e).length) : may3 e = decide (headsOf e t + 64 * (e.secs.length + 2) ≤ 4194304) := by unfold may3; rw [decide_eq_true h, ht]; rfl
theorem namesOf_len (l : List SecM) : (namesOf l).length = l.length + 1 := by unfold namesOf; simp
theorem tabOf_len (e : ElfM) : (tabOf e).length ≤ 1 + 129 * (e.secs.length + 1) := by
  have := (buildR_len (namesOf e.secs)).1
  rw [namesOf_len] at this
  exact this
theorem headsOf_le {e : ElfM} {t : Nat} (hp : ∀ s ∈ e.secs, powB s.align = true) (hl : e.secs.length ≤ 1000) (hg : e.segs.length ≤ 1000) (hd : dsum e.secs ≤ 2147483648) (ht : t ≤ 2147483648) : (placesOf e).2 ≤ 3000000000 ∧ headsOf e t ≤ 6000000000 := by
  have h := pls_bd (k := e.secs.length) hp hl hg hd
  rw [List.take_length] at h
  have h1 : (placesOf e).2 ≤ 3000000000 := h
  have h2 := upN_le (n := (placesOf e).2 + t) (a := 8) (by omega)
  unfold headsOf
  omega
set_option maxHeartbeats 4000000 in
set_option maxRecDepth 100000 in
theorem may_any (e : ElfM) (L : List (SecM × Value)) (sv gv : Value) (w : World) (h : ElfAt w e L sv gv) (ho : ElfOk e) :
    Calls Tryz.prog 50 #[elfV e sv gv] w fun r w' => r = .returned (.bool (mayE e)) ∧ Below w.heap.size w w' := by
  obtain ⟨a, ca, rfl, hca, -, hc⟩ := h.rd.open (fun _ => rfl)
  obtain ⟨ga, gc, rfl, hgc, -, hcg⟩ := h.segs.open (fun _ => rfl)
  have HC := Lib.hid hc
  have HCG := Lib.hid hcg
  have HAT := Lib.hid h
  have HOK := Lib.hid ho
  have HD := Lib.hid h.data
  have HSE := Lib.hid (fun k x (hk : L[k]? = some x) => sec_of h.secs hk)
  have HEL := Lib.hid (show e.secs.length = L.length by rw [h.secs, List.length_map])
  obtain ⟨nl, hnl⟩ : ∃ n, n = L.length := ⟨_, rfl⟩
  obtain ⟨gn, hgn⟩ : ∃ n, n = e.segs.length := ⟨_, rfl⟩
  rw [← hnl] at hca HAT ⊢
  rw [← hgn] at hgc HAT ⊢
  have HL := Lib.hid hnl
  have HGN := Lib.hid hgn
  have hnl9 : nl ≤ 1000000000 := by have := HOK.out.secs; have := HEL.out; omega
  have hgn9 : gn ≤ 1000000000 := by have := HOK.out.segs; omega
  clear hc hcg h hnl hgn ho
  have HM1 : Hid (may1 e = ((decide (e.typ = 1) || decide (e.typ = 2)) && !decide (mach e.target = 0) && decide (nl ≤ 250) && decide (gn ≤ 16))) := by
    unfold may1
    rw [HEL.out, ← HL.out, ← HGN.out]
    exact rfl
  have HMC := Lib.hid (fun w => machine_any e.target w)
  have hmc := mach_le e.target
  generalize mach e.target = mt at *
  by_cases h1 : may1 e = true
  · have hm1 := h1
    rw [HM1.out] at hm1
    simp only [Bool.and_eq_true, Bool.or_eq_true, Bool.not_eq_true', decide_eq_true_eq, decide_eq_false_iff_not] at hm1
    obtain ⟨⟨⟨hty, hmt⟩, hn250⟩, hg16⟩ := hm1
    have ht : (e.typ != 1) = false ∨ ((e.typ != 1) = true ∧ (e.typ != 2) = false) := by
      rcases hty with h | h
      · exact .inl (by rw [h]; rfl)
      · exact .inr (by rw [h]; exact ⟨rfl, rfl⟩)
    have hmt0 : ((mt : Int) == 0) = false := by rw [beq_eq_false_iff_ne]; omega
    have HM2 := Lib.hid h1
    have HX9 := Lib.hid hmt
    clear h1 hty hmt HM1
    rcases ht with ht1 | ⟨ht1, ht2⟩
    all_goals
      go_enter Tryz.func50, Tryz.ntmps50
      go_wp2_with (first
        | ((with_reducible show wpList _ _ _ (⟨_, .box _ _, _, _, _, _⟩ :: _) _ _); go_must (refine wpList_box rfl ?_; intro w1 hx1 hb1 hs1; obtain ⟨c0, c1, c2, c3, c4, c5⟩ := elf_box hx1))
        | (go_at_call 28; refine (HMC.out _).mono ?_; rintro r w2 ⟨rfl, rfl⟩))
      have HX1 := Lib.hid hx1
      have HB1 := Lib.hid hb1
      clear c0 c1 c2 c3 c4 c5 hx1 hb1
      go_loopw [42] (fun i wr => ∃ k : Nat, i = .int .i64 k ∧ k ≤ nl ∧ Hid ((e.secs.take k).all secB = true) ∧ Hid (Below w1.heap.size w1 wr)) (fun i _ => nl - (intOf i).toNat)
      case atStart => exact ⟨0, rfl, Nat.zero_le _, rfl, Below.refl _ _⟩
      case round =>
        obtain ⟨k, rfl, hk, HT, HB⟩ := hrel
        have hbs := HB.out.size
        have HBW := Lib.hid (HB1.out.trans (HB.out.mono HB1.out.size))
        by_cases hlt : k < nl
        · have X1 := Lib.hid (show L[k]? = some (L[k]'(by have := HL.out; omega)) from List.getElem?_eq_getElem _)
          generalize L[k]'(by have := HL.out; omega) = x at *
          obtain ⟨s, dv⟩ := x
          have hbs0 := HD.out _ (List.mem_of_getElem? X1.out)
          obtain ⟨dm, da, dc, hdm, rfl, _, _⟩ := hbs0.shape
          have X2 := Lib.hid (HSE.out _ _ X1.out)
          have hdl : dm ≤ 2147483648 := by
            have h1 := dsum_mem (List.mem_of_getElem? X2.out)
            have h2 := HOK.out.data
            have h3 := hdm.out
            dsimp only at h1 h3
            omega
          have HFI := Lib.hid (fun w' (hb : Below w.heap.size w w') => fine_any s (.slice da dm dc) w' (hbs0.mono hb) (HOK.out.fits.secs _ (List.mem_of_getElem? X2.out)) (by have := hdm.out; dsimp only at this; omega))
          obtain ⟨b1, o1, ha, c10, c11, c12, c13, c14, c15, c16, c17, c18, c19, -⟩ := sec_cells HC.out HBW.out X1.out
          subst ha
          clear hbs0
          have HSB : Hid (secB s = (fineB s && decide (dm ≤ 4194304))) := by unfold secB; rw [hdm.out]; exact rfl
          have HGO := Lib.hid (fun hb : secB s = true => all_step (f := secB) X2.out HT.out hb)
          have HNO := Lib.hid (fun hb : secB s = false => mayE_2 (all_no (f := secB) X2.out hb))
          obtain ⟨name, typ, flags, addr, align, size, link, info, ent, data⟩ := s
          dsimp only at *
          generalize fineB ⟨name, typ, flags, addr, align, size, link, info, ent, data⟩ = fb at *
          generalize secB ⟨name, typ, flags, addr, align, size, link, info, ent, data⟩ = sb at *
          cases fb with
          | false =>
            have HR := Lib.hid (HNO.out (by rw [HSB.out]; rfl))
            clear HNO HGO HSB
            go_wp2_with (first
              | ((with_reducible show wpList _ _ _ (⟨none, .store _ _ _, _, _, _, _⟩ :: _) _ _); go_must (refine wpList_storeNew rfl rfl (by kernel_rfl) rfl (by simp [Value.oneCell']) ?_; intro w2 hh2 hb2; obtain ⟨e0, e1, e2, e3, e4, e5, e6, e7, e8, e9⟩ := sec_box (x := (⟨name, typ, flags, addr, align, size, link, info, ent, data⟩, .slice da dm dc)) hh2; have HB2 := Lib.hid (HB.out.trans (hb2.mono HB.out.size)); have HH2 := Lib.hid hh2))
              | (go_at_call 87; refine (HFI.out _ (HB1.out.trans (HB2.out.mono HB1.out.size))).mono ?_; rintro r w4 ⟨rfl, hb4⟩; obtain ⟨f0, f1, f2, f3, f4, f5, f6, f7, f8, f9⟩ := sec_box (x := (⟨name, typ, flags, addr, align, size, link, info, ent, data⟩, .slice da dm dc)) (heap_below hb4 HH2.out); have HB4 := Lib.hid (HB2.out.trans (hb4.mono HB2.out.size))))
            go_ret
            exact ⟨by rw [HR.out]; rfl, HB1.out.trans (HB4.out.mono HB1.out.size)⟩
          | true =>
            by_cases hd4 : dm ≤ 4194304
            · have HT1 := Lib.hid (HGO.out (by rw [HSB.out, decide_eq_true hd4]; rfl))
              clear HNO HGO HSB
              go_wp2_with (first
                | ((with_reducible show wpList _ _ _ (⟨none, .store _ _ _, _, _, _, _⟩ :: _) _ _); go_must (refine wpList_storeNew rfl rfl (by kernel_rfl) rfl (by simp [Value.oneCell']) ?_; intro w2 hh2 hb2; obtain ⟨e0, e1, e2, e3, e4, e5, e6, e7, e8, e9⟩ := sec_box (x := (⟨name, typ, flags, addr, align, size, link, info, ent, data⟩, .slice da dm dc)) hh2; have HB2 := Lib.hid (HB.out.trans (hb2.mono HB.out.size)); have HH2 := Lib.hid hh2))
                | (go_at_call 87; refine (HFI.out _ (HB1.out.trans (HB2.out.mono HB1.out.size))).mono ?_; rintro r w4 ⟨rfl, hb4⟩; obtain ⟨f0, f1, f2, f3, f4, f5, f6, f7, f8, f9⟩ := sec_box (x := (⟨name, typ, flags, addr, align, size, link, info, ent, data⟩, .slice da dm dc)) (heap_below hb4 HH2.out); have HB4 := Lib.hid (HB2.out.trans (hb4.mono HB2.out.size))))
              go_roundw
              case rel =>
                first
                  | exact ⟨k + 1, by go_num, by omega, HT1.out, HB4.out⟩
                  | ((repeat apply Exists.intro); exact ⟨⟨k + 1, by go_num, by omega, HT1.out, HB4.out⟩, rfl⟩)
              case measure => simp [intOf] <;> omega
            · have HR := Lib.hid (HNO.out (by rw [HSB.out, decide_eq_false hd4]; rfl))
              clear HNO HGO HSB
              go_wp2_with (first
                | ((with_reducible show wpList _ _ _ (⟨none, .store _ _ _, _, _, _, _⟩ :: _) _ _); go_must (refine wpList_storeNew rfl rfl (by kernel_rfl) rfl (by simp [Value.oneCell']) ?_; intro w2 hh2 hb2; obtain ⟨e0, e1, e2, e3, e4, e5, e6, e7, e8, e9⟩ := sec_box (x := (⟨name, typ, flags, addr, align, size, link, info, ent, data⟩, .slice da dm dc)) hh2; have HB2 := Lib.hid (HB.out.trans (hb2.mono HB.out.size)); have HH2 := Lib.hid hh2))
                | (go_at_call 87; refine (HFI.out _ (HB1.out.trans (HB2.out.mono HB1.out.size))).mono ?_; rintro r w4 ⟨rfl, hb4⟩; obtain ⟨f0, f1, f2, f3, f4, f5, f6, f7, f8, f9⟩ := sec_box (x := (⟨name, typ, flags, addr, align, size, link, info, ent, data⟩, .slice da dm dc)) (heap_below hb4 HH2.out); have HB4 := Lib.hid (HB2.out.trans (hb4.mono HB2.out.size))))
              go_ret
              exact ⟨by rw [HR.out]; rfl, HB1.out.trans (HB4.out.mono HB1.out.size)⟩
        ·
          have hkn : e.secs.take k = e.secs := List.take_of_length_le (by have := HL.out; have := HEL.out; omega)
          have HALL : Hid (e.secs.all secB = true) := by
            have := HT.out
            rw [hkn] at this
            exact this
          have HBF := Lib.hid HB.out
          obtain ⟨d0, d1, d2, d3, d4, d5⟩ := elf_box (heap_below HB.out HX1.out)
          clear HT hkn d0 d1 d2 d3 d4
          go_wp2
          go_loopw [59] (fun i wx => ∃ k : Nat, i = .int .i64 k ∧ k ≤ gn ∧ Hid ((e.segs.take k).all (fun s => powB s.align) = true) ∧ Hid (Below w1.heap.size w1 wx)) (fun i _ => gn - (intOf i).toNat)
          case atStart => exact ⟨0, rfl, Nat.zero_le _, rfl, HBF.out⟩
          case round =>
            obtain ⟨k, rfl, hk, HT, HB⟩ := hrel
            have hbs := HB.out.size
            have HBW := Lib.hid (HB1.out.trans (HB.out.mono HB1.out.size))
            by_cases hlt : k < gn
            · have X1 := Lib.hid (show e.segs[k]? = some (e.segs[k]'(by have := HGN.out; omega)) from List.getElem?_eq_getElem _)
              generalize e.segs[k]'(by have := HGN.out; omega) = x at *
              have HPO := Lib.hid (fun w => power_any x.align w (HOK.out.fits.segs _ (List.mem_of_getElem? X1.out)).2.2.2.2.2.2)
              have HGO := Lib.hid (fun hb : powB x.align = true => all_step (f := fun s : SegM => powB s.align) X1.out HT.out hb)
              have HNO := Lib.hid (fun hb : powB x.align = false => mayE_3 (all_no (f := fun s : SegM => powB s.align) X1.out hb))
              obtain ⟨b1, o1, ha, c10, c11, c12, c13, c14, c15, c16, -⟩ := seg_cells HCG.out HBW.out X1.out
              subst ha
              obtain ⟨typ, flags, off, vaddr, filesz, memsz, align⟩ := x
              dsimp only at *
              generalize powB align = pb at *
              cases pb with
              | false =>
                have HR := Lib.hid (HNO.out rfl)
                clear HNO HGO
                go_wp2_with (first
                  | ((with_reducible show wpList _ _ _ (⟨none, .store _ _ _, _, _, _, _⟩ :: _) _ _); go_must (refine wpList_storeNew rfl rfl (by kernel_rfl) rfl (by simp [Value.oneCell']) ?_; intro w2 hh2 hb2; obtain ⟨e0, e1, e2, e3, e4, e5, e6⟩ := seg_box (x := ⟨typ, flags, off, vaddr, filesz, memsz, align⟩) hh2; have HB2 := Lib.hid (HB.out.trans (hb2.mono HB.out.size))))
                  | (go_at_call 88; refine (HPO.out _).mono ?_; rintro r w4 ⟨rfl, rfl⟩))
                go_ret
                exact ⟨by rw [HR.out]; rfl, HB1.out.trans (HB2.out.mono HB1.out.size)⟩
              | true =>
                have HT1 := Lib.hid (HGO.out rfl)
                clear HNO HGO
                go_wp2_with (first
                  | ((with_reducible show wpList _ _ _ (⟨none, .store _ _ _, _, _, _, _⟩ :: _) _ _); go_must (refine wpList_storeNew rfl rfl (by kernel_rfl) rfl (by simp [Value.oneCell']) ?_; intro w2 hh2 hb2; obtain ⟨e0, e1, e2, e3, e4, e5, e6⟩ := seg_box (x := ⟨typ, flags, off, vaddr, filesz, memsz, align⟩) hh2; have HB2 := Lib.hid (HB.out.trans (hb2.mono HB.out.size))))
                  | (go_at_call 88; refine (HPO.out _).mono ?_; rintro r w4 ⟨rfl, rfl⟩))
                go_roundw
                case rel =>
                  first
                    | exact ⟨k + 1, by go_num, by omega, HT1.out, HB2.out⟩
                    | ((repeat apply Exists.intro); exact ⟨⟨k + 1, by go_num, by omega, HT1.out, HB2.out⟩, rfl⟩)
                case measure => simp [intOf] <;> omega
            · have hkn : e.segs.take k = e.segs := List.take_of_length_le (by have := HGN.out; omega)
              have HALG : Hid ((e.segs.all fun s => powB s.align) = true) := by
                have := HT.out
                rw [hkn] at this
                exact this
              have HM3 := Lib.hid (mayE_all HM2.out HALL.out HALG.out)
              have HNA := Lib.hid (names_any e L _ _ _ (HAT.out.mono HBW.out) (by have := HL.out; omega))
              have HPW : Hid (∀ s ∈ e.secs, powB s.align = true) := fun s hs => fineB_pow (by
                have := List.all_eq_true.1 HALL.out s hs
                unfold secB at this
                simp only [Bool.and_eq_true] at this
                exact this.1)
              obtain ⟨d0, d1, d2, d3, d4, d5⟩ := elf_box (heap_below HB.out HX1.out)
              clear HT hkn
              go_wp2_with fail
              clear d0 d1 d2 d3 d4 d5
              have HTL := Lib.hid (tabOf_len e)
              have HTD : Hid (tabOf e = (buildR (namesOf e.secs)).1) := rfl
              refine HNA.out.mono ?_
              rintro r w2 ⟨v1, v2, rfl, ob1, -, hb2⟩
              have HB2 := Lib.hid (HB.out.trans (hb2.mono HB.out.size))
              have HBW2 := Lib.hid (HB1.out.trans (HB2.out.mono HB1.out.size))
              obtain ⟨tn, ta, tc, htn, rfl, _, _⟩ := ob1.bs.shape
              rw [← HTD.out] at htn
              have htl : tn ≤ 40000 := by have h1 := HTL.out; have h2 := htn.out; have h3 := HEL.out; have h4 := HL.out; omega
              clear ob1 hb2 HNA
              by_cases hz : (buildR (namesOf e.secs)).2.2 = 0
              · have HM4 := Lib.hid (may3_yes hz htn.out)
                have HPL := Lib.hid (places_any e L _ _ tn w2 (HAT.out.mono HBW2.out) (by have := HL.out; omega) (by have := HGN.out; omega) HPW.out HOK.out.fits.secs HOK.out.data (by omega))
                have hhl := (headsOf_le (t := tn) HPW.out (by have := HEL.out; have := HL.out; omega) (by have := HGN.out; omega) HOK.out.data (by omega)).2
                have HFIN : Hid (mayE e = decide ((headsOf e tn : Int) + 64 * ((nl : Int) + 2) ≤ 4194304)) := by
                  have h1 := HEL.out; have h2 := HL.out; rw [HM3.out, HM4.out, Bool.eq_iff_iff, decide_eq_true_iff, decide_eq_true_iff]
                  constructor <;> intro h <;> omega
                rw [hz]
                have HXZ := Lib.hid hz
                clear hz HM3 HM4
                generalize headsOf e tn = hh at *
                generalize (placesOf e).2 = pe at *
                obtain ⟨d0, d1, d2, d3, d4, d5⟩ := elf_box (heap_below HB2.out HX1.out)
                go_wp2_with fail
                clear d0 d1 d2 d3 d4 d5
                refine HPL.out.mono ?_
                rintro r w3 ⟨v3, rfl, -, hb3⟩
                obtain ⟨d0, d1, d2, d3, d4, d5⟩ := elf_box (heap_below (HB2.out.trans (hb3.mono HB2.out.size)) HX1.out)
                have HB3 := Lib.hid (HBW2.out.trans (hb3.mono HBW2.out.size))
                clear hb3 d0 d1 d2 d3 d5
                go_wp2
                go_ret
                exact ⟨by rw [HFIN.out]; rfl, HB3.out⟩
              · have HR := Lib.hid (HM3.out.trans (may3_no hz))
                generalize (buildR (namesOf e.secs)).2.2 = z at *
                have hz2 : (z != 0) = true := by simpa using hz
                have HXZ := Lib.hid hz
                clear hz
                go_wp2
                go_ret
                exact ⟨by rw [HR.out]; rfl, HBW2.out⟩
  · have HR := Lib.hid (mayE_1 (by simpa using h1))
    have hm1 : ((decide (e.typ = 1) || decide (e.typ = 2)) && !decide (mt = 0) && decide (nl ≤ 250) && decide (gn ≤ 16)) = false := by rw [← HM1.out]; simpa using h1
    have ht : ((e.typ != 1) = true ∧ (e.typ != 2) = true) ∨ ((e.typ != 1) = false ∨ ((e.typ != 1) = true ∧ (e.typ != 2) = false)) ∧ (((mt : Int) == 0) = true ∨ ((mt : Int) == 0) = false ∧ (250 < nl ∨ nl ≤ 250 ∧ 16 < gn)) := by
      by_cases t1 : e.typ = 1
      · refine .inr ⟨.inl (by rw [t1]; rfl), ?_⟩
        simp only [t1, decide_true, Bool.true_or, Bool.true_and, Bool.and_eq_false_iff, Bool.not_eq_false', decide_eq_true_eq, decide_eq_false_iff_not] at hm1
        rw [beq_iff_eq, beq_eq_false_iff_ne]
        omega
      · by_cases t2 : e.typ = 2
        · refine .inr ⟨.inr (by rw [t2]; exact ⟨rfl, rfl⟩), ?_⟩
          simp only [t2, decide_true, Bool.or_true, Bool.true_and, Bool.and_eq_false_iff, Bool.not_eq_false', decide_eq_true_eq, decide_eq_false_iff_not] at hm1
          rw [beq_iff_eq, beq_eq_false_iff_ne]
          omega
        · exact .inl ⟨by simpa using t1, by simpa using t2⟩
    have HX8 := Lib.hid h1
    clear h1 hm1 HM1
    rcases ht with ⟨ht1, ht2⟩ | ⟨ht1 | ⟨ht1, ht2⟩, hmt | ⟨hmt, hn | ⟨hn, hg⟩⟩⟩
    all_goals
      go_enter Tryz.func50, Tryz.ntmps50
      go_wp2_with (first
        | ((with_reducible show wpList _ _ _ (⟨_, .box _ _, _, _, _, _⟩ :: _) _ _); go_must (refine wpList_box rfl ?_; intro w1 hx1 hb1 hs1; obtain ⟨c0, c1, c2, c3, c4, c5⟩ := elf_box hx1))
        | (go_at_call 28; refine (HMC.out _).mono ?_; rintro r w2 ⟨rfl, rfl⟩))
      go_ret
      exact ⟨by rw [HR.out]; rfl, hb1⟩
end Go.Proofs.YtimnbnomaajmmaaGreat
namespace Go.Fd
open Go.RowKit
abbrev U64 (n : Nat) : Value := .int .u64 (n : Int)
/-- A row of values in a block of its own, made in a region. -/
def Yld.lit (B : Nat) (t : TypeId) (cs : Array Value) : Yld := ⟨Nat, 0, fun g => .slice (some ⟨g, 0, none⟩) cs.size cs.size, fun g w => B ≤ g ∧ w.heap[g]? = some (.cells cs t (0, 0)),
  fun g w w' ⟨h1, h2⟩ hb => ⟨h1, by rw [hb.block g (Array.getElem?_eq_some_iff.1 h2).1]; exact h2⟩⟩
theorem walk_lit {P : Program} {Up : Exit → Prop} {L r : List Oper} {M : List (Nat × Yld)} {a : Act} {w0 : World} {E : Act → Prop} {i : Nat} {o : Oper} {B : Nat} {t : TypeId} {cs : Array Value} (hw : Region.wanted o (yielded L.toArray a.tmps) = true) (hM : madeAt M i = some (Yld.lit B t cs)) (h : ∀ w, Below w0.heap.size w0 w → Deps L M a o w → WpYld P Up o a (Yld.lit B t cs) w) (hn : ∀ g : Nat, walk P Up L M w0 E (i + 1) r (a.put o.dst (.slice (some ⟨g, 0, none⟩) cs.size cs.size))) : walk P Up L M w0 E i (o :: r) a :=
  walk_made hw hM h hn
theorem Yld.lit_got {B g : Nat} {t : TypeId} {cs : Array Value} {w : World} (h : (Yld.lit B t cs).R (.slice (some ⟨g, 0, none⟩) cs.size cs.size) w) : B ≤ g ∧ w.heap[g]? = some (.cells cs t (0, 0)) := by
  obtain ⟨x, e, hr⟩ := h
  have : g = x := by
    have e' : (Value.slice (some ⟨g, 0, none⟩) cs.size cs.size) = .slice (some ⟨x, 0, none⟩) cs.size cs.size := e
    injection e' with e'; injection e' with e'; injection e'
  subst this
  exact hr
theorem Yld.lit_mk {w0 w : World} {t : TypeId} (cs : Array Value) (h : Below w0.heap.size w0 w) : (Yld.lit w0.heap.size t cs).R (.slice (some ⟨w.heap.size, 0, none⟩) cs.size cs.size) (w.alloc (.cells cs t)) ∧ Below w.heap.size w (w.alloc (.cells cs t)) :=
  ⟨⟨w.heap.size, rfl, h.size, heap_alloc_last w _⟩, below_alloc w _⟩
end Go.Fd
namespace Go.Proofs.YtimnbnomaajmmaaGreat
open Go.RowKit Go.Fd
theorem TF : SliceT Tryz.prog 102 5 1 1 := SliceT.mk' (z := .int .u8 0) (by kernel_rfl) (by kernel_rfl) rfl (by omega)
/-- A file's bytes behind a pointer. -/
def FileAt (w : World) (base g : Nat) (l : List UInt8) : Prop := ∃ v, w.heap[g]? = some (.cells #[v] 102 (0, 0)) ∧ base ≤ g ∧ OB w base v l
/-- Blocks of other elements' types, but for one block, stay as they are. -/
def KeepF (g : Nat) (w w' : World) : Prop := ∀ (b : Nat) cs e fr, b ≠ g → e ≠ 5 → w.heap[b]? = some (.cells cs e fr) → w'.heap[b]? = some (.cells cs e fr)
theorem KeepF.refl (g : Nat) (w : World) : KeepF g w w := fun _ _ _ _ _ _ h => h
theorem KeepF.trans {g : Nat} {w w' w'' : World} (h : KeepF g w w') (k : KeepF g w' w'') : KeepF g w w'' := fun b cs e fr hb he hh => k b cs e fr hb he (h b cs e fr hb he hh)
theorem KeepF.of {g : Nat} {w w' : World} (h : Keeps 5 w w') : KeepF g w w' := fun b cs e fr _ he hh => h b cs e fr he hh
theorem KeepF.below {g : Nat} {w w' : World} (h : Below w.heap.size w w') : KeepF g w w' := KeepF.of (keeps_below h)
theorem FileAt.mono {w w' : World} {base g : Nat} {l : List UInt8} (h : FileAt w base g l) (hb : Below w.heap.size w w') : FileAt w' base g l := by
  obtain ⟨v, h1, h2, h3⟩ := h
  exact ⟨v, heap_below hb h1, h2, h3.mono hb⟩
theorem ob_apart {w : World} {base g : Nat} {v : Value} {l : List UInt8} {cs : Array Value} {e : TypeId} {fr : Nat × Nat} (ho : OB w base v l) (hg : w.heap[g]? = some (.cells cs e fr)) (he : e ≠ 5) : ∀ k, v.ownBlock = some k → k ≠ g := by
  intro k hk hkg
  subst hkg
  rcases ho.2 with ⟨rfl, -⟩ | ⟨g', cap, cur, rfl, -, hh, -⟩
  · cases hk
  · simp only [Value.ownBlock, Option.some.injEq] at hk
    subst hk
    rw [hg] at hh
    cases hh
    exact he rfl
theorem free_rec' {w : World} {g : Nat} {cs : Array Value} {t : TypeId} (h : w.heap[g]? = some (.cells cs t (0, 0))) (c : Nat) : w.frozen? ⟨g, c, none⟩ = false := by simp [World.frozen?, h]
/-- The store of a file's bytes. -/
theorem wpList_storeF {ops : Array Oper} {rest : List Oper} {Q : Exit → Act → World → Prop} {a : Act} {w : World} {d : Option Tmp} {ty : TypeId} {pos : String} {aft : Array Edge} {p x : Operand} {g base : Nat} {v u : Value} {l : List UInt8} (hg : w.heap[g]? = some (.cells #[u] 102 (0, 0))) (hb : base ≤ g) (ho : OB w base v l) (hp : a.eval p = .pointer (some ⟨g, 0, none⟩)) (hx : a.eval x = v) (hbw : base ≤ w.heap.size)
    (h : ∀ w1, FileAt w1 base g l → Below base w w1 → KeepF g w w1 → wpList Tryz.prog ops Q rest (a.put d undef) w1) :
    wpList Tryz.prog ops Q (⟨d, .store 102 p x, ty, pos, aft, none⟩ :: rest) a w := by
  have hc : w.cell? ⟨g, 0, none⟩ = some u := cell_rec hg 0
  have hfz := free_rec' hg 0
  have hst : Stirs (fun k => k = g) w (w.setCell ⟨g, 0, none⟩ v) := stirs_setCell (S := fun k => k = g) _ g 0 _ rfl
  obtain ⟨m, ad, cap, hm, rfl, _, _⟩ := ho.shape
  refine wpList_did (w' := w.setCell ⟨g, 0, none⟩ (.slice ad m cap)) rfl ?_ (h _ ⟨.slice ad m cap, ?_, hb, ?_⟩ ?_ ?_)
  · simp only [execOp, hp, hx]
    simp [go_sem, hc, hfz]
  · simp [World.setCell, Array.getElem?_modify, hg]
  · exact owns_stirs ho hst (ob_apart ho hg (by decide))
  · exact hst.below hbw (fun k hk => by rw [hk]; exact hb)
  · intro b cs e fr hbg he hh
    simp [World.setCell, Array.getElem?_modify, Ne.symm hbg, hh]
/-- Bytes in a block of their own. -/
theorem bs_heap {w : World} {g : Nat} {l : List UInt8} {cs : Array Value} {t : TypeId} {fr : Nat × Nat} {n : Nat} (h : w.heap[g]? = some (.cells cs t fr)) (hc : cs = (l.map B).toArray) (hn : n = l.length) : Bs w (.slice (some ⟨g, 0, none⟩) n n) l := by
  subst hc hn
  refine ⟨by simp, _, _, rfl, Nat.le_refl _, (fun h => by cases h), fun j hj => ⟨g, 0, rfl, ?_⟩⟩
  rw [Nat.zero_add, cell_rec h j]
  simp
theorem wpList_catF {ops : Array Oper} {rest : List Oper} {Q : Exit → Act → World → Prop} {a : Act} {w : World} {d : Option Tmp} {ty : TypeId} {pos : String} {aft : Array Edge} {s x : Operand} {v u : Value} {base : Nat} {l m : List UInt8} (hown : OB w base v l) (hy : Bs w u m)
    (hs : a.eval s = v) (hx : a.eval x = u) (hn : l.length + m.length ≤ 140737488355328) (hb : base ≤ w.heap.size)
    (h : ∀ v' w', OB w' base v' (l ++ m) → w.grownBy w' v.ownBlock → Below base w w' → wpList Tryz.prog ops Q rest (a.put d v') w') {t2 : TypeId} (ht2 : t2 = 102) :
    wpList Tryz.prog ops Q (⟨d, .call { callee := .builtin .append, args := #[s, x], argTypes := #[102, t2] }, ty, pos, aft, none⟩ :: rest) a w := by
  subst ht2
  refine wpList_cat TF hown hy hs hx (allB _) (by omega) hn hb fun v' w' h1 h2 h3 => h v' w' ?_ h2 h3
  unfold OB
  rw [List.length_append, List.map_append]
  exact h1
/-- append in a region that draws: bytes of a file, and a row of bytes of its own. -/
theorem step_catF {P : Program} {ops : Array Oper} {o : Oper} {a : Act} {w : World} {K : Act → World → Prop} {Q : Exit → Act → World → Prop} {E : Prop}
    (hg : o.guard = none) (s x : Operand) (t : TypeId) (e : TypeId) (T : SliceT P t e 1 1) (hop : o.op = Op.call { callee := Callee.builtin Builtin.append, args := #[s, x], argTypes := #[t, t] })
    {base : Nat} {v : Value} {l m : List UInt8} {ad : Addr} {n c : Nat} (hown : w.ownsRow base e 1 v l.length (l.map B)) (hs : a.eval s = v) (hx : a.eval x = .slice (some ad) n c) (hm : n = m.length)
    (hc : ∀ j u, (m.map B)[j]? = some u → w.cell? (ad.add j) = some u) (hn : l.length + m.length ≤ 140737488355328) (hb : base ≤ w.heap.size)
    (hK : ∀ v' w', w'.ownsRow base e 1 v' (l ++ m).length ((l ++ m).map B) → w.grownBy w' v.ownBlock → K (a.put o.dst v') w') :
    if Region.wanted o (yielded ops a.tmps) = true then Oper.wp P o a w K Q else E := by
  have hw : Region.wanted o (yielded ops a.tmps) = true := by simp [Region.wanted, hg]
  rw [if_pos hw]
  obtain ⟨i, z, h1, h2, h3, h4, h5⟩ := T.info
  subst hm
  obtain ⟨v', w', hrun, h6, h7, -⟩ := run_append_own (w := w) base t o.type e i z 1 1 T.ht h1 h2 h3 h4 h5 T.pos v l.length (l.map B) hown ad m.length c (m.map B) (by simp) hc (fun u hu => List.all_eq_true.1 (allB m) u hu) (maxLen_of (by omega)) (by omega) hb
  unfold Oper.wp
  simp [execOp, hop, resolve, invoke, builtin, hs, hx, hrun, Result.andThen]
  refine hK v' w' ?_ h7
  rw [List.length_append, List.map_append]
  exact h6
theorem fileAt_set {w : World} {g base : Nat} {v u : Value} {l : List UInt8} (hg : w.heap[g]? = some (.cells #[u] 102 (0, 0))) (hb : base ≤ g) (ho : OB w base v l) (hbw : base ≤ w.heap.size) :
    FileAt (w.setCell ⟨g, 0, none⟩ v) base g l ∧ Below base w (w.setCell ⟨g, 0, none⟩ v) ∧ KeepF g w (w.setCell ⟨g, 0, none⟩ v) := by
  have hst : Stirs (fun k => k = g) w (w.setCell ⟨g, 0, none⟩ v) := stirs_setCell (S := fun k => k = g) _ g 0 _ rfl
  refine ⟨⟨v, ?_, hb, ?_⟩, ?_, ?_⟩
  · simp [World.setCell, Array.getElem?_modify, hg]
  · exact owns_stirs ho hst (ob_apart ho hg (by decide))
  · exact hst.below hbw (fun k hk => by rw [hk]; exact hb)
  · intro b cs e fr hbg he hh
    simp [World.setCell, Array.getElem?_modify, Ne.symm hbg, hh]
theorem flatf_step {ns : List Nat} {k size n : Nat} (h : ns[k]? = some n) : (ns.take (k + 1)).flatMap (fixed · size) = (ns.take k).flatMap (fixed · size) ++ fixed n size := by
  rw [List.take_add_one, h, List.flatMap_append]
  simp
set_option maxHeartbeats 1000000 in
set_option maxRecDepth 100000 in
theorem putF_any (ns : List Nat) (size b g base : Nat) (l : List UInt8) (w : World) (hf : FileAt w base g l) (hv : w.heap[b]? = some (.cells (ns.map U64).toArray 39 (0, 0))) (hbg : b ≠ g) (hs : size ≤ 8) (hl : l.length ≤ 1000000000) (hns : ns.length ≤ 10) (hn : ∀ n ∈ ns, n < 18446744073709551616) (hbase : base ≤ w.heap.size) (cap : Nat) (_hcap : ns.length ≤ cap) :
    Calls Tryz.prog 54 #[.pointer (some ⟨g, 0, none⟩), .int .i64 size, .slice (some ⟨b, 0, none⟩) ns.length cap] w fun r w' => r = .returned (.tuple #[]) ∧ FileAt w' base g (l ++ ns.flatMap (fixed · size)) ∧ Below base w w' ∧ KeepF g w w' := by
  have HF := Lib.hid hf
  have HV := Lib.hid hv
  have HN := Lib.hid hn
  obtain ⟨m, hm⟩ : ∃ m, m = ns.length := ⟨_, rfl⟩
  rw [← hm] at hns _hcap ⊢
  have HM := Lib.hid hm
  have HBG := Lib.hid hbg
  clear hf hv hn hm hbg
  go_enter Tryz.func54, Tryz.ntmps54
  go_wp2
  go_loopw [11] (fun i wr => ∃ k : Nat, i = .int .i64 k ∧ k ≤ m ∧ Hid (FileAt wr base g (l ++ (ns.take k).flatMap (fixed · size))) ∧ Hid (Below base w wr) ∧ Hid (KeepF g w wr)) (fun i _ => m - (intOf i).toNat)
  case atStart => exact ⟨0, rfl, Nat.zero_le _, by simpa [Hid] using HF.out, Below.refl _ _, KeepF.refl _ _⟩
  case round =>
    obtain ⟨k, rfl, hk, HO, HB, HK⟩ := hrel
    by_cases hlt : k < m
    · have X1 := Lib.hid (show ns[k]? = some (ns[k]'(by have := HM.out; omega)) from List.getElem?_eq_getElem _)
      generalize ns[k]'(by have := HM.out; omega) = n at *
      have hc := cell_rec (HK.out _ _ _ _ HBG.out (by decide) HV.out) k
      rw [List.getElem?_toArray, List.getElem?_map, X1.out] at hc
      simp only [Option.map_some] at hc
      have HST := Lib.hid (flatf_step (size := size) X1.out)
      have HLN := Lib.hid (show (l ++ (ns.take k).flatMap (fixed · size)).length ≤ 1000000100 by
        rw [List.length_append, flat_len' (fun n => length_fixed n size), List.length_take]
        have := Nat.mul_le_mul (Nat.min_le_left k ns.length) hs
        have := Nat.mul_le_mul_right 8 hk
        omega)
      have hnn := HN.out n (List.mem_of_getElem? X1.out)
      generalize hT : l ++ (ns.take k).flatMap (fixed · size) = T at *
      have HT := Lib.hid hT
      have HBR := Lib.hid HB.out
      clear hT
      go_wp2
      go_loopw [16] (fun j wx => ∃ i : Nat, j = .int .i64 i ∧ i ≤ size ∧ Hid (FileAt wx base g (T ++ fixed n i)) ∧ Hid (Below base w wx) ∧ Hid (KeepF g w wx)) (fun j _ => size - (intOf j).toNat)
      case atStart => exact ⟨0, rfl, Nat.zero_le _, by simpa [Hid, fixed] using HO.out, HBR.out, HK.out⟩
      case round =>
        obtain ⟨i, rfl, hi, HO2, HB2, HK2⟩ := hrel
        by_cases hlt2 : i < size
        · obtain ⟨v, hg, hbg, hov⟩ := HO2.out
          have HG := Lib.hid hg
          have c0 := cell_rec hg 0
          simp only [List.getElem?_toArray, List.getElem?_cons_zero] at c0
          have hAB := fun (x : Above wr) (b k : Nat) (h : b < wr.heap.size) => Above.cell x b k h
          have hblt : g < wr.heap.size := block_lt c0
          have HSH := Lib.hid (shr_byte n i)
          go_wp2
          have hlast := HG.out
          have hw8 : IntKind.i64.wrap (8 * (i : Int)) = 8 * (i : Int) := by
            have := i64_small (n := 8 * i) (by omega)
            simpa using this
          have HOV := Lib.hid (fun o => (show OB (wr.drew.alloc o) base v (T ++ fixed n i) from hov.mono (((Below.refl _ _).drew).alloc (Nat.le_refl _) o)))
          have HLC : Hid (∀ j u, ([UInt8.ofNat (n / 256 ^ i)].map B)[j]? = some u → (wr.drew.alloc (.cells #[.int .u8 ((n : Int) / 2 ^ (8 * i) % 256)] 5)).cell? ((⟨wr.heap.size, 0, none⟩ : Addr).add j) = some u) := by
            intro j u hj
            obtain rfl : j = 0 := by
              have := (List.getElem?_eq_some_iff.1 hj).1
              simp at this
              exact this
            rw [HSH.out]
            have := heap_alloc_last wr.drew (.cells #[.int .u8 ((UInt8.ofNat (n / 256 ^ i)).toNat : Int)] 5)
            exact (cell_rec this 0).trans hj
          have HLL := Lib.hid (show (T ++ fixed n i).length + [UInt8.ofNat (n / 256 ^ i)].length ≤ 140737488355328 by rw [List.length_append, length_fixed]; have h1 := HLN.out; simp; omega)
          have HBL := Lib.hid (fun o => (show base ≤ (wr.drew.alloc o).heap.size by rw [World.size_alloc]; have := HB2.out.size; simp; omega))
          have HGA := Lib.hid (fun o => heap_below (show Below wr.heap.size wr (wr.drew.alloc o) from ((Below.refl _ _).drew).alloc (Nat.le_refl _) o) HG.out)
          have HBA := Lib.hid (fun o => (show Below wr.heap.size wr (wr.drew.alloc o) from ((Below.refl _ _).drew).alloc (Nat.le_refl _) o))
          go_region_law (refine step_catF rfl (.tmp 22) (.tmp 28) 102 5 TF rfl (m := [UInt8.ofNat (n / 256 ^ i)]) (HOV.out _) rfl rfl rfl HLC.out HLL.out (HBL.out _) ?_; intro v3 w3 hv3 hg3; obtain ⟨m3, ad3, cap3, hm3, rfl, _, _⟩ := (show OB w3 base v3 (T ++ fixed n i ++ [UInt8.ofNat (n / 256 ^ i)]) from hv3).shape; have hg33 := keeps_own (HOV.out _) hg3 _ _ _ _ (by decide) (HGA.out _); have c3 := cell_rec hg33 0; have z3 := free_rec' hg33 0; simp only [List.getElem?_toArray, List.getElem?_cons_zero] at c3; have HG33 := Lib.hid hg33; have HV3 := Lib.hid hv3; have HGR3 := Lib.hid hg3; clear hg33 hv3 hg3)
          all_goals
            have HBX := Lib.hid (HB2.out.trans ((HBA.out (.cells #[.int .u8 ((n : Int) / 2 ^ (8 * i) % 256)] 5)).mono (Nat.le_trans hbase HB2.out.size)))
            have HB3 := Lib.hid (HBX.out.trans (below_of_grown HGR3.out (Nat.le_trans hbase HBX.out.size) fun k hk => (World.ownsRow.lt (HOV.out (.cells #[] 0)) k hk).1))
            have HK3 := Lib.hid ((HK2.out.trans (KeepF.below (g := g) (HBA.out (.cells #[.int .u8 ((n : Int) / 2 ^ (8 * i) % 256)] 5)))).trans (KeepF.of (keeps_own (HOV.out _) HGR3.out)))
            obtain ⟨hf4, hb4, hk4⟩ := fileAt_set HG33.out hbg (show OB w3 base (.slice ad3 m3 cap3) (T ++ fixed n i ++ [UInt8.ofNat (n / 256 ^ i)]) from HV3.out) (Nat.le_trans hbase HB3.out.size)
            have HF4 := Lib.hid (show FileAt (w3.setCell ⟨g, 0, none⟩ (.slice ad3 m3 cap3)) base g (T ++ fixed n (i + 1)) by rw [fixed_snoc, ← List.append_assoc]; exact hf4)
            have HB4 := Lib.hid (HB3.out.trans hb4)
            have HK4 := Lib.hid (HK3.out.trans hk4)
            clear hf4 hb4 hk4 c3 z3 c0 hov hg hAB hw8
            go_wp2
            go_roundw
            case rel =>
              first
                | exact ⟨i + 1, by go_num, by omega, HF4.out, HB4.out, HK4.out⟩
                | ((repeat apply Exists.intro); exact ⟨⟨i + 1, by go_num, by omega, HF4.out, HB4.out, HK4.out⟩, rfl⟩)
            case measure => simp [intOf] <;> omega
        · obtain rfl : i = size := by omega
          have HF4 := Lib.hid (show FileAt wr base g (l ++ (ns.take (k + 1)).flatMap (fixed · i)) by rw [HST.out, ← List.append_assoc, HT.out]; exact HO2.out)
          go_wp2
          go_roundw
          case rel =>
            first
              | exact ⟨k + 1, by go_num, by omega, HF4.out, HB2.out, HK2.out⟩
              | ((repeat apply Exists.intro); exact ⟨⟨k + 1, by go_num, by omega, HF4.out, HB2.out, HK2.out⟩, rfl⟩)
          case measure => simp [intOf] <;> omega
    · have hkn : ns.take k = ns := List.take_of_length_le (by have := HM.out; omega)
      rw [hkn] at HO
      go_wp2
      go_end0
      exact ⟨rfl, HO.out, HB.out, HK.out⟩
end Go.Proofs.YtimnbnomaajmmaaGreat
namespace Go.Fd
open Go.RowKit
section
variable {P : Program} (w : World)
theorem zeroCells_one {z : Value} (hz : z.cells = #[z]) (n : Nat) : Builtin.zeroCells z.cells n = (List.replicate n z).toArray := by
  rw [hz]
  unfold Builtin.zeroCells
  apply Array.ext
  · simp
  · intro j h1 h2
    simp [Nat.mod_one]
theorem run_asIntOf' (k : IntKind) (m : Int) : (asIntOf (.int k m)).run P w = .ok (k, m) w := rfl
theorem run_storeCells_nil' (a : Addr) : (storeCells a []).run P w = .ok () w := rfl
theorem run_append_zeros (base : Nat) (t u ty e : TypeId) (i : TypeInfo) (z : Value) (ku k : IntKind) (ht : P.underlying t = some (.slice e)) (hu : P.underlying u = some (.int ku)) (hi : P.info? e = some i) (hz : i.zero = some z)
    (hsize : i.size = 1) (hby : i.bytes = 1) (hzc : z.cells = #[z]) (h1 : z.oneCell' = true)
    (v : Value) (n : Nat) (xs : List Value) (hown : w.ownsRow base e 1 v n xs) (m : Nat) (hle : n + m ≤ 70368744177664) (hbase : base ≤ w.heap.size) :
    ∃ v' w', (Builtin.append_ #[t, u] ty #[v, .int k (m : Int)]).run P w = .ok v' w' ∧ w'.ownsRow base e 1 v' (n + m) (xs ++ List.replicate m z) ∧ w.grownBy w' v.ownBlock := by
  have hw : IntKind.i64.wrap (m : Int) = m := by simp [IntKind.wrap, IntKind.bits, IntKind.signed]; omega
  have hneg : ¬ ((m : Int) < 0) := by omega
  have hbig : ¬ (281474976710656 < (m : Int)) := by omega
  have hzn := zeroCells_one hzc
  have hlen : (xs ++ List.replicate m z).length = n + m := by rw [List.length_append, hown.1, List.length_replicate]; omega
  have grown : ∀ (old : Nat), old < n + m → ∀ (row : Option Nat),
      (w.drew.alloc (.cells (xs.toArray ++ (List.replicate m z).toArray ++ Builtin.zeroCells z.cells (grownCap w (n + m) old e - (n + m))) e)).ownsRow base e 1
        (.slice (some ⟨w.heap.size, 0, none⟩) (n + m) (grownCap w (n + m) old e)) (n + m) (xs ++ List.replicate m z) ∧
      w.grownBy (w.drew.alloc (.cells (xs.toArray ++ (List.replicate m z).toArray ++ Builtin.zeroCells z.cells (grownCap w (n + m) old e - (n + m))) e)) row := by
    intro old ho row
    have hge := grownCap_ge w (n + m) old e
    have hcm : grownCap w (n + m) old e ≤ maxLen := grownCap_le_maxLen w (n + m) old e (maxLen_of (by omega))
    refine ⟨⟨by rw [hlen, Nat.mul_one], .inr ⟨w.heap.size, _, _, rfl, hbase, heap_alloc_new w.drew _, hge, hcm, ?_, ?_⟩⟩, ⟨rfl, rfl, rfl, by simp, fun k hk _ => Below.heap_alloc w.drew _ k (by simpa using hk)⟩⟩
    · rw [hzn]
      have h3 := hown.1
      simp only [Array.size_append, List.size_toArray, List.length_replicate]
      omega
    · simp only [Array.toList_append, List.append_assoc, Nat.mul_one]
      rw [← List.append_assoc, ← hlen]
      exact List.take_left
  rcases hown.2 with ⟨rfl, rfl⟩ | ⟨g, cap, cur, rfl, hbg, hg, hnc, hcm, hcs, htake⟩
  · have hx : xs = [] := List.eq_nil_of_length_eq_zero (by simpa using hown.1)
    subst hx
    by_cases hm : m = 0
    · subst hm
      refine ⟨.slice none 0 0, w, ?_, World.ownsRow_nil w base e 1, ⟨rfl, rfl, rfl, Nat.le_refl _, fun _ _ _ => rfl⟩⟩
      simp [Builtin.append_, run_underlying ht, run_underlying hu, sizeOf, typeInfo, hi, hby, asInt, run_asIntOf', show IntKind.i64.wrap 0 = 0 from rfl]
    · have hgr := grown 0 (by omega) (Value.ownBlock (.slice none 0 0))
      have h48 : ¬ (281474976710656 < Builtin.nextslicecap m 0) := by rw [nextslicecap_zero (by omega)]; omega
      refine ⟨.slice (some ⟨w.heap.size, 0, none⟩) m (grownCap w m 0 e), w.drew.alloc (.cells ((List.replicate m z).toArray ++ Builtin.zeroCells z.cells (grownCap w m 0 e - m)) e), ?_, ?_, ?_⟩
      · simp [Builtin.append_, run_underlying ht, run_underlying hu, sizeOf, typeInfo, zeroValue, hi, hz, hsize, hby, asInt, run_asIntOf', hw, hm, hneg, hbig, h48, Question.forced, run_firstCells_none, newRow, grownCap, hzn]
        intro h
        omega
      · simpa using hgr.1
      · simpa using hgr.2
  · by_cases hroom : n + m ≤ cap
    · have hl : (List.replicate m z).length = m := List.length_replicate
      have hfit : n * 1 + (List.replicate m z).length ≤ cur.size := by rw [hl, hcs]; omega
      have hst := run_storeCells_at P g (n * 1) e (List.replicate m z) 0 cur w hg (by simpa using hfit) (fun u hu => by rw [(List.mem_replicate.1 hu).2]; exact h1)
      simp only [Nat.add_zero, Nat.mul_one] at hst
      by_cases hm : m = 0
      · subst hm
        refine ⟨.slice (some ⟨g, 0, none⟩) n cap, w, ?_, ?_, ⟨rfl, rfl, rfl, Nat.le_refl _, fun _ _ _ => rfl⟩⟩
        · simp [Builtin.append_, run_underlying ht, run_underlying hu, sizeOf, typeInfo, zeroValue, hi, hz, hby, asInt, run_asIntOf', show IntKind.i64.wrap 0 = 0 from rfl, Addr.add_lit, run_storeCells_nil', hnc]
        · rw [List.replicate_zero, List.append_nil, Nat.add_zero]
          exact hown
      refine ⟨.slice (some ⟨g, 0, none⟩) (n + m) cap, w.setRow g (cur.toList.take n ++ List.replicate m z ++ cur.toList.drop (n + m)).toArray, ?_, ?_, ?_⟩
      · simp [Builtin.append_, run_underlying ht, run_underlying hu, sizeOf, typeInfo, zeroValue, hi, hz, hsize, hby, asInt, run_asIntOf', hw, hm, hneg, hbig, hroom, hzn, Addr.add_lit, hst]
      · refine ⟨by rw [hlen, Nat.mul_one], .inr ⟨g, cap, _, rfl, hbg, setRow_heap w g cur _ e _ hg, hroom, hcm, ?_, ?_⟩⟩
        · simp only [List.size_toArray, List.length_append, List.length_take, List.length_drop, Array.length_toList, List.length_replicate]
          omega
        · rw [Nat.mul_one] at htake
          rw [htake, ← hlen, Nat.mul_one]
          exact List.take_left
      · exact ⟨rfl, rfl, rfl, by simp, fun k _ hk => setRow_other w g k _ (fun e => hk (by simp [Value.ownBlock, e]))⟩
    · have hgr := grown cap (by omega) (Value.ownBlock (.slice (some ⟨g, 0, none⟩) n cap))
      have hm : m ≠ 0 := by omega
      have holds : ∀ j u, xs[j]? = some u → w.cell? ((⟨g, 0, none⟩ : Addr).add j) = some u := hown.cells (g := g) rfl
      have hfo := run_firstCells_some (P := P) w.drew 1 n ⟨g, 0, none⟩ n cap xs hown.1 (by simpa using holds)
      have h48 : ¬ (281474976710656 < Builtin.nextslicecap (n + m) cap) := by
        have := growslice_fits (need := n + m) (old := cap) (bytes := 1) (by omega) (by omega)
        omega
      have h63 : ¬ (9223372036854775807 < ((n : Int) + (m : Int))) := by omega
      refine ⟨_, _, ?_, hgr.1, hgr.2⟩
      simp [Builtin.append_, run_underlying ht, run_underlying hu, sizeOf, typeInfo, zeroValue, hi, hz, hsize, hby, asInt, run_asIntOf', hw, hm, hneg, hbig, h48, h63, hroom, hfo, Question.forced, newRow, grownCap, hzn]
end
end Go.Fd
namespace Go.Proofs.YtimnbnomaajmmaaGreat
open Go.RowKit Go.Fd
/-- append of a made slice in a region that draws. -/
theorem step_zerosF {ops : Array Oper} {o : Oper} {a : Act} {w : World} {K : Act → World → Prop} {Q : Exit → Act → World → Prop} {E : Prop}
    (hg : o.guard = none) (s x : Operand) (hop : o.op = Op.call { callee := Callee.builtin Builtin.append, args := #[s, x], argTypes := #[102, 3] })
    {base : Nat} {v : Value} {l : List UInt8} (d : Nat) {k : IntKind} {z : Int} (hown : OB w base v l) (hs : a.eval s = v) (hx : a.eval x = .int k z) (hz : z = (d : Int)) (hn : l.length + d ≤ 70368744177664) (hb : base ≤ w.heap.size)
    (hK : ∀ v' w', OB w' base v' (l ++ List.replicate d 0) → w.grownBy w' v.ownBlock → K (a.put o.dst v') w') :
    if Region.wanted o (yielded ops a.tmps) = true then Oper.wp Tryz.prog o a w K Q else E := by
  have hw : Region.wanted o (yielded ops a.tmps) = true := by simp [Region.wanted, hg]
  rw [if_pos hw]
  subst hz
  have hinfo := info_parts (P := Tryz.prog) (e := 5) (z := .int .u8 0) (size := 1) (bytes := 1) (by kernel_rfl)
  obtain ⟨i, h2, h3, h4, h5⟩ := hinfo
  obtain ⟨v', w', hrun, h6, h7⟩ := run_append_zeros (P := Tryz.prog) w base 102 3 o.type 5 i (.int .u8 0) .i64 k TF.ht (by kernel_rfl) h2 h3 h4 h5 rfl rfl v l.length (l.map B) hown d hn hb
  unfold Oper.wp
  simp [execOp, hop, resolve, invoke, builtin, hs, hx, hrun, Result.andThen]
  refine hK v' w' ?_ h7
  unfold OB
  rw [List.length_append, List.map_append, List.length_replicate, List.map_replicate]
  exact h6
set_option maxHeartbeats 1000000 in
set_option maxRecDepth 100000 in
theorem fillF_any (d g base : Nat) (z : Int) (l : List UInt8) (w : World) (hf : FileAt w base g l) (hz : z = ((l.length + d : Nat) : Int)) (hl : l.length + d ≤ 10000000000) (hbase : base ≤ w.heap.size) :
    Calls Tryz.prog 55 #[.pointer (some ⟨g, 0, none⟩), .int .i64 z] w fun r w' => r = .returned (.tuple #[]) ∧ FileAt w' base g (l ++ List.replicate d 0) ∧ Below base w w' ∧ KeepF g w w' := by
  obtain ⟨v, hg, hbg, hov⟩ := hf
  have HG := Lib.hid hg
  have HOV0 := Lib.hid hov
  obtain ⟨m, ad, cap, hm, rfl, _, _⟩ := hov.shape
  have c0 := cell_rec hg 0
  simp only [List.getElem?_toArray, List.getElem?_cons_zero] at c0
  have hw8 : IntKind.i64.wrap (z - (m : Int)) = (d : Int) := by
    have h1 := hm.out
    rw [hz, ← h1]
    simp [IntKind.wrap, IntKind.bits, IntKind.signed]
    omega
  have HOV := Lib.hid (show OB w.drew base (.slice ad m cap) l from hov.mono ((Below.refl _ _).drew))
  have HBD := Lib.hid (show Below w.heap.size w w.drew from (Below.refl _ _).drew)
  have HGA := Lib.hid (heap_below HBD.out HG.out)
  have HLL := Lib.hid (show l.length + d ≤ 70368744177664 by omega)
  have HX := Lib.hid hz
  clear hov hg hz
  go_enter Tryz.func55, Tryz.ntmps55
  go_wp2
  go_region_law (refine step_zerosF rfl (.tmp 7) (.tmp 13) rfl d HOV.out rfl rfl rfl HLL.out ?_ ?_; exact hbase; intro v3 w3 hv3 hg3; obtain ⟨m3, ad3, cap3, hm3, rfl, _, _⟩ := hv3.shape; have hg33 := keeps_own HOV.out hg3 _ _ _ _ (by decide) HGA.out; have c3 := cell_rec hg33 0; have z3 := free_rec' hg33 0; simp only [List.getElem?_toArray, List.getElem?_cons_zero] at c3; have HG33 := Lib.hid hg33; have HV3 := Lib.hid hv3; have HGR3 := Lib.hid hg3; clear hg33 hv3 hg3)
  all_goals
    have HB3 := Lib.hid ((HBD.out.mono hbase).trans (below_of_grown HGR3.out (Nat.le_trans hbase HBD.out.size) fun k hk => (World.ownsRow.lt HOV.out k hk).1))
    have HK3 := Lib.hid ((KeepF.below (g := g) HBD.out).trans (KeepF.of (keeps_own HOV.out HGR3.out)))
    obtain ⟨hf4, hb4, hk4⟩ := fileAt_set HG33.out hbg HV3.out (Nat.le_trans hbase HB3.out.size)
    have HF4 := Lib.hid hf4
    have HB4 := Lib.hid (HB3.out.trans hb4)
    have HK4 := Lib.hid (HK3.out.trans hk4)
    clear hf4 hb4 hk4 c3 z3 c0 hbg hw8
    go_wp2
    go_end0
    exact ⟨rfl, HF4.out, HB4.out, HK4.out⟩
end Go.Proofs.YtimnbnomaajmmaaGreat
namespace Go.Proofs.YtimnbnomaajmmaaGreat
open Go.RowKit Go.Fd
def putL (size : Nat) (ns : List Nat) : List UInt8 := ns.flatMap (fixed · size)
theorem putL_len (size : Nat) (ns : List Nat) : (putL size ns).length = ns.length * size := flat_len' (fun n => length_fixed n size) ns
def headB (e : ElfM) (heads : Nat) : List UInt8 :=
  [127, 69, 76, 70, 2, 1, 1] ++ List.replicate 9 0 ++ putL 2 [u64of e.typ, mach e.target] ++ putL 4 [1] ++ putL 8 [e.entry, if segsB e = true then 64 else 0, heads] ++ putL 4 [e.flags] ++ putL 2 [64, 56, e.segs.length, 64, e.secs.length + 2, e.secs.length + 1]
theorem headB_len (e : ElfM) (heads : Nat) : (headB e heads).length = 64 := by
  unfold headB
  simp only [List.length_append, putL_len, List.length_replicate]
  rfl
theorem lit64_2 (x y : Int) (w : World) : (Instr.buildSlice 87 2 #[(0, .int .u64 x), (1, .int .u64 y)]).run Tryz.prog w = .ok (.slice (some ⟨w.heap.size, 0, none⟩) 2 2) (w.alloc (.cells #[.int .u64 x, .int .u64 y] 39)) := by kernel_rfl
theorem lit64_4 (x y z u : Int) (w : World) : (Instr.buildSlice 87 4 #[(0, .int .u64 x), (1, .int .u64 y), (2, .int .u64 z), (3, .int .u64 u)]).run Tryz.prog w = .ok (.slice (some ⟨w.heap.size, 0, none⟩) 4 4) (w.alloc (.cells #[.int .u64 x, .int .u64 y, .int .u64 z, .int .u64 u] 39)) := by kernel_rfl
theorem run_l2 {x y : Operand} {m n : Int} {a : Act} {w : World} {d : Option Tmp} {ty : TypeId} {pos : String} {aft : Array Edge} {g : Option (Nat × Bool)} (hx : a.eval x = .int .u64 m) (hy : a.eval y = .int .u64 n) :
    (execOp a.eval ⟨d, .buildSlice 87 2 #[(0, x), (1, y)], ty, pos, aft, g⟩).run Tryz.prog w = .ok (.value (.slice (some ⟨w.heap.size, 0, none⟩) 2 2)) (w.alloc (.cells #[.int .u64 m, .int .u64 n] 39)) := by
  simp only [execOp, List.map_toArray, List.map_cons, List.map_nil, hx, hy, Sem.run_bind, lit64_2, Result.andThen_ok]
  rfl
theorem run_l4 {x y z u : Operand} {m n p q : Int} {a : Act} {w : World} {d : Option Tmp} {ty : TypeId} {pos : String} {aft : Array Edge} {g : Option (Nat × Bool)} (hx : a.eval x = .int .u64 m) (hy : a.eval y = .int .u64 n) (hz : a.eval z = .int .u64 p) (hu : a.eval u = .int .u64 q) :
    (execOp a.eval ⟨d, .buildSlice 87 4 #[(0, x), (1, y), (2, z), (3, u)], ty, pos, aft, g⟩).run Tryz.prog w = .ok (.value (.slice (some ⟨w.heap.size, 0, none⟩) 4 4)) (w.alloc (.cells #[.int .u64 m, .int .u64 n, .int .u64 p, .int .u64 q] 39)) := by
  simp only [execOp, List.map_toArray, List.map_cons, List.map_nil, hx, hy, hz, hu, Sem.run_bind, lit64_4, Result.andThen_ok]
  rfl
set_option maxHeartbeats 4000000 in
set_option maxRecDepth 100000 in
theorem headF_any (e : ElfM) (nl gn : Nat) (a ga : Option Addr) (ca gc heads g base : Nat) (w : World) (hf : FileAt w base g []) (hnl : nl = e.secs.length) (hgn : gn = e.segs.length) (hfit : e.fits) (ht : e.typ = 1 ∨ e.typ = 2) (hn : nl ≤ 1000) (hg : gn ≤ 1000) (hh : heads ≤ 1000000000000) (hbase : base ≤ w.heap.size) :
    Calls Tryz.prog 53 #[.pointer (some ⟨g, 0, none⟩), elfV e (.slice a nl ca) (.slice ga gn gc), .int .i64 heads] w fun r w' => r = .returned (.tuple #[]) ∧ FileAt w' base g (headB e heads) ∧ Below base w w' ∧ KeepF g w w' := by
  have HF := Lib.hid hf
  have HFIT := Lib.hid hfit
  have hglt : g < w.heap.size := by obtain ⟨v, h1, -⟩ := hf; exact (Array.getElem?_eq_some_iff.1 h1).1
  obtain ⟨ty, hty, hty2⟩ : ∃ ty : Nat, e.typ = (ty : Int) ∧ ty ≤ 2 := by
    rcases ht with h | h
    · exact ⟨1, h, by omega⟩
    · exact ⟨2, h, by omega⟩
  have HTY := Lib.hid (show u64of e.typ = ty by rw [hty]; unfold u64of; omega)
  have HMC := Lib.hid (fun w => machine_any e.target w)
  have hml := mach_le e.target
  have HHB : Hid (headB e heads = [127, 69, 76, 70, 2, 1, 1] ++ List.replicate 9 0 ++ putL 2 [ty, mach e.target] ++ putL 4 [1] ++ putL 8 [e.entry, if decide (0 < gn) = true then 64 else 0, heads] ++ putL 4 [e.flags] ++ putL 2 [64, 56, gn, 64, nl + 2, nl + 1]) := by
    unfold headB segsB
    rw [HTY.out, hnl, hgn]
    exact rfl
  have HEN := Lib.hid hfit.entry
  have HFL := Lib.hid hfit.flags
  have hfl := hfit.flags
  generalize mach e.target = mt at *
  generalize headB e heads = HBY at *
  have HHT := Lib.hid ht
  clear hf hfit ht hnl hgn HTY
  obtain ⟨etyp, etarget, eflags, eentry, esecs, esegs⟩ := e
  dsimp only at *
  subst hty
  clear HFIT HHT
  go_enter Tryz.func53, Tryz.ntmps53
  go_wp2_with (first
    | ((with_reducible show wpList _ _ _ (⟨_, .box _ _, _, _, _, _⟩ :: _) _ _); go_must (refine wpList_box rfl ?_; intro w1 hx1 hb1 hs1; obtain ⟨c0, c1, c2, c3, c4, c5⟩ := elf_box (e := ⟨ty, etarget, eflags, eentry, esecs, esegs⟩) hx1; obtain ⟨v, hg1, hbg, hov⟩ := HF.out; have HG1 := Lib.hid (heap_below hb1 hg1); have HOV1 := Lib.hid (hov.mono hb1); have HB1 := Lib.hid (hb1.mono hbase); obtain ⟨m0, ad0, cap0, hm0, rfl, _, _⟩ := hov.shape; have z0 := cell_rec HG1.out 0; simp only [List.getElem?_toArray, List.getElem?_cons_zero] at z0; clear hg1 hov))
    | ((with_reducible show wpList _ _ _ (⟨some 12, _, _, _, _, _⟩ :: _) _ _); go_must (refine wpList_catF (HOV1.out.mono (below_alloc _ _)) (bs_heap (l := [127, 69, 76, 70, 2, 1, 1]) (n := 7) (heap_alloc_last _ _) rfl rfl) rfl rfl (by simp) (Nat.le_trans hbase (by rw [World.size_alloc]; have := HB1.out.size; omega)) (fun v3 w3 hv3 hg3 hb3 => ?_) rfl; have HG3 := Lib.hid (keeps_own (HOV1.out.mono (below_alloc _ _)) hg3 _ _ _ _ (by decide) (heap_below (below_alloc _ _) HG1.out)); have HX3 := Lib.hid (keeps_own (HOV1.out.mono (below_alloc _ _)) hg3 _ _ _ _ (by decide) (heap_below (below_alloc _ _) hx1)); have HV3 := Lib.hid hv3; have HB3 := Lib.hid ((HB1.out.trans ((below_alloc w1 _).mono (Nat.le_trans hbase HB1.out.size))).trans hb3); have HK3 := Lib.hid (((KeepF.below (g := g) hb1).trans (KeepF.below (below_alloc w1 _))).trans (KeepF.of (keeps_own (HOV1.out.mono (below_alloc _ _)) hg3))); clear hv3 hg3 hb3))
    | ((with_reducible show wpList _ _ _ (⟨none, .store _ _ _, _, _, _, _⟩ :: _) _ _); go_must (refine wpList_storeF HG3.out hbg HV3.out rfl rfl (Nat.le_trans hbase HB3.out.size) ?_; intro w4 hf4 hb4 hk4)))
  have HF4 := Lib.hid hf4
  have HX4 := Lib.hid (hk4 _ _ _ _ (by omega) (by decide) HX3.out)
  have HB4 := Lib.hid (HB3.out.trans hb4)
  have HK4 := Lib.hid (HK3.out.trans hk4)
  clear hf4 hb4 hk4 c0 c1 c2 c3 c4 c5 hx1 z0
  refine (fillF_any 9 g base 16 _ w4 HF4.out rfl (by decide) (Nat.le_trans hbase HB4.out.size)).mono ?_
  rintro r w5 ⟨rfl, hf, hb, hk⟩
  have HF5 := Lib.hid hf
  have HX5 := Lib.hid (hk _ _ _ _ (by omega) (by decide) HX4.out)
  have HB5 := Lib.hid (HB4.out.trans hb)
  have HK5 := Lib.hid (HK4.out.trans hk)
  clear hf hb hk
  obtain ⟨c0, c1, c2, c3, c4, c5⟩ := elf_box (e := ⟨ty, etarget, eflags, eentry, esecs, esegs⟩) HX5.out
  by_cases hgs : 0 < gn
  · have hdec := decide_eq_true hgs
    go_wp2
    have hAB := fun (x : Above w5) (b k : Nat) (h : b < w5.heap.size) => Above.cell x b k h
    have hblt : w.heap.size < w5.heap.size := block_lt c0
    refine wp_region_walk 8 [(6, .is (.int .u64 (mt : Int))), (7, .lit w5.heap.size 39 #[.int .u64 (ty : Int), .int .u64 (mt : Int)])] (by kernel_rfl) (by kernel_rfl) ?_
    simp only [List.take_succ_cons, List.take_zero, List.drop_succ_cons, List.drop_zero]
    repeat (first
      | (refine walk_quiet rfl rfl rfl ?_; intro K hK; go_big_quiet_op; go_big_quiet_on)
      | (refine walk_is rfl rfl (fun wx hwx _ => WpYld.callIs (run_callL (vals := [.int .i64 etarget]) Tryz.func28 (by kernel_rfl) rfl rfl) (HMC.out wx)) ?_; go_frame)
      | (refine walk_lit rfl rfl (fun wx hwx _ => WpYld.val (run_l2 rfl rfl) (Yld.lit_mk _ hwx).1 (Yld.lit_mk _ hwx).2) (fun gb => ?_); go_frame))
    refine walk_nil ?_
    intro wz hbz hF
    obtain ⟨hgB, hgl⟩ := Yld.lit_got (hF 7 _ 27 _ rfl rfl rfl rfl)
    have HL6 := Lib.hid hgl
    have HF6 := Lib.hid (HF5.out.mono hbz)
    have HX6 := Lib.hid (heap_below hbz HX5.out)
    have HB6 := Lib.hid (HB5.out.trans (hbz.mono (Nat.le_trans hbase HB5.out.size)))
    have HK6 := Lib.hid (HK5.out.trans (KeepF.below (g := g) hbz))
    have hgbg : gb ≠ g := fun h => by have := HB5.out.size; omega
    clear hF hbz hgl hAB hblt c0 c1 c2 c3 c4 c5
    go_wp2_with fail
    refine (putF_any [ty, mt] 2 _ g base _ _ HF6.out HL6.out hgbg (by decide) (by simp only [List.length_append, List.length_replicate, List.length_cons, List.length_nil]; omega) (Nat.le_of_ble_eq_true rfl) (by intro n hn; have h1 := HEN.out; have h2 := HFL.out; simp only [List.mem_cons, List.not_mem_nil, or_false] at hn; omega) (Nat.le_trans hbase HB6.out.size) 2 (Nat.le_refl _)).mono ?_
    rintro r w7 ⟨rfl, hf, hb, hk⟩
    have HF7 := Lib.hid hf
    have HX7 := Lib.hid (hk _ _ _ _ (by omega) (by decide) HX6.out)
    have HB7 := Lib.hid (HB6.out.trans hb)
    have HK7 := Lib.hid (HK6.out.trans hk)
    clear hf hb hk
    obtain ⟨c0, c1, c2, c3, c4, c5⟩ := elf_box (e := ⟨ty, etarget, eflags, eentry, esecs, esegs⟩) HX7.out
    go_wp2_with fail
    clear c0 c1 c2 c3 c4 c5
    refine (putF_any [1] 4 _ g base _ _ (HF7.out.mono (below_alloc _ _)) (heap_alloc_last _ _) (fun h => by have := HB7.out.size; omega) (by decide) (by simp only [List.length_append, flat_len' (fun n => length_fixed n _), List.length_replicate, List.length_cons, List.length_nil]; omega) (Nat.le_of_ble_eq_true rfl) (by intro n hn; have h1 := HEN.out; have h2 := HFL.out; simp only [List.mem_cons, List.not_mem_nil, or_false] at hn; omega) (Nat.le_trans hbase (by rw [World.size_alloc]; have := HB7.out.size; omega)) 1 (Nat.le_refl _)).mono ?_
    rintro r w8 ⟨rfl, hf, hb, hk⟩
    have HF8 := Lib.hid hf
    have HX8 := Lib.hid (hk _ _ _ _ (by omega) (by decide) (heap_below (below_alloc _ _) HX7.out))
    have HB8 := Lib.hid ((HB7.out.trans ((below_alloc w7 _).mono (Nat.le_trans hbase HB7.out.size))).trans hb)
    have HK8 := Lib.hid ((HK7.out.trans (KeepF.below (below_alloc w7 _))).trans hk)
    clear hf hb hk
    obtain ⟨c0, c1, c2, c3, c4, c5⟩ := elf_box (e := ⟨ty, etarget, eflags, eentry, esecs, esegs⟩) HX8.out
    go_wp2_with fail
    clear c0 c1 c2 c3 c4 c5
    refine (putF_any [eentry, 64, heads] 8 _ g base _ _ (HF8.out.mono (below_alloc _ _)) (heap_alloc_last _ _) (fun h => by have := HB8.out.size; omega) (by decide) (by simp only [List.length_append, flat_len' (fun n => length_fixed n _), List.length_replicate, List.length_cons, List.length_nil]; omega) (Nat.le_of_ble_eq_true rfl) (by intro n hn; have h1 := HEN.out; have h2 := HFL.out; simp only [List.mem_cons, List.not_mem_nil, or_false] at hn; omega) (Nat.le_trans hbase (by rw [World.size_alloc]; have := HB8.out.size; omega)) 3 (Nat.le_refl _)).mono ?_
    rintro r w9 ⟨rfl, hf, hb, hk⟩
    have HF9 := Lib.hid hf
    have HX9 := Lib.hid (hk _ _ _ _ (by omega) (by decide) (heap_below (below_alloc _ _) HX8.out))
    have HB9 := Lib.hid ((HB8.out.trans ((below_alloc w8 _).mono (Nat.le_trans hbase HB8.out.size))).trans hb)
    have HK9 := Lib.hid ((HK8.out.trans (KeepF.below (below_alloc w8 _))).trans hk)
    clear hf hb hk
    obtain ⟨c0, c1, c2, c3, c4, c5⟩ := elf_box (e := ⟨ty, etarget, eflags, eentry, esecs, esegs⟩) HX9.out
    go_wp2_with fail
    clear c0 c1 c2 c3 c4 c5
    refine (putF_any [eflags] 4 _ g base _ _ (HF9.out.mono (below_alloc _ _)) (heap_alloc_last _ _) (fun h => by have := HB9.out.size; omega) (by decide) (by simp only [List.length_append, flat_len' (fun n => length_fixed n _), List.length_replicate, List.length_cons, List.length_nil]; omega) (Nat.le_of_ble_eq_true rfl) (by intro n hn; have h1 := HEN.out; have h2 := HFL.out; simp only [List.mem_cons, List.not_mem_nil, or_false] at hn; omega) (Nat.le_trans hbase (by rw [World.size_alloc]; have := HB9.out.size; omega)) 1 (Nat.le_refl _)).mono ?_
    rintro r w10 ⟨rfl, hf, hb, hk⟩
    have HF10 := Lib.hid hf
    have HX10 := Lib.hid (hk _ _ _ _ (by omega) (by decide) (heap_below (below_alloc _ _) HX9.out))
    have HB10 := Lib.hid ((HB9.out.trans ((below_alloc w9 _).mono (Nat.le_trans hbase HB9.out.size))).trans hb)
    have HK10 := Lib.hid ((HK9.out.trans (KeepF.below (below_alloc w9 _))).trans hk)
    clear hf hb hk
    obtain ⟨c0, c1, c2, c3, c4, c5⟩ := elf_box (e := ⟨ty, etarget, eflags, eentry, esecs, esegs⟩) HX10.out
    go_wp2_with fail
    clear c0 c1 c2 c3 c4 c5
    refine (putF_any [64, 56, gn, 64, nl + 2, nl + 1] 2 _ g base _ _ (HF10.out.mono (below_alloc _ _)) (heap_alloc_last _ _) (fun h => by have := HB10.out.size; omega) (by decide) (by simp only [List.length_append, flat_len' (fun n => length_fixed n _), List.length_replicate, List.length_cons, List.length_nil]; omega) (Nat.le_of_ble_eq_true rfl) (by intro n hn; have h1 := HEN.out; have h2 := HFL.out; simp only [List.mem_cons, List.not_mem_nil, or_false] at hn; omega) (Nat.le_trans hbase (by rw [World.size_alloc]; have := HB10.out.size; omega)) 6 (Nat.le_refl _)).mono ?_
    rintro r w11 ⟨rfl, hf, hb, hk⟩
    have HF11 := Lib.hid hf
    have HX11 := Lib.hid (hk _ _ _ _ (by omega) (by decide) (heap_below (below_alloc _ _) HX10.out))
    have HB11 := Lib.hid ((HB10.out.trans ((below_alloc w10 _).mono (Nat.le_trans hbase HB10.out.size))).trans hb)
    have HK11 := Lib.hid ((HK10.out.trans (KeepF.below (below_alloc w10 _))).trans hk)
    clear hf hb hk
    go_wp2
    go_end0
    refine ⟨rfl, ?_, HB11.out, HK11.out⟩
    rw [HHB.out]
    rw [hdec]
    exact HF11.out
  · have hdec := decide_eq_false hgs
    go_wp2
    have hAB := fun (x : Above w5) (b k : Nat) (h : b < w5.heap.size) => Above.cell x b k h
    have hblt : w.heap.size < w5.heap.size := block_lt c0
    refine wp_region_walk 8 [(6, .is (.int .u64 (mt : Int))), (7, .lit w5.heap.size 39 #[.int .u64 (ty : Int), .int .u64 (mt : Int)])] (by kernel_rfl) (by kernel_rfl) ?_
    simp only [List.take_succ_cons, List.take_zero, List.drop_succ_cons, List.drop_zero]
    repeat (first
      | (refine walk_quiet rfl rfl rfl ?_; intro K hK; go_big_quiet_op; go_big_quiet_on)
      | (refine walk_is rfl rfl (fun wx hwx _ => WpYld.callIs (run_callL (vals := [.int .i64 etarget]) Tryz.func28 (by kernel_rfl) rfl rfl) (HMC.out wx)) ?_; go_frame)
      | (refine walk_lit rfl rfl (fun wx hwx _ => WpYld.val (run_l2 rfl rfl) (Yld.lit_mk _ hwx).1 (Yld.lit_mk _ hwx).2) (fun gb => ?_); go_frame))
    refine walk_nil ?_
    intro wz hbz hF
    obtain ⟨hgB, hgl⟩ := Yld.lit_got (hF 7 _ 27 _ rfl rfl rfl rfl)
    have HL6 := Lib.hid hgl
    have HF6 := Lib.hid (HF5.out.mono hbz)
    have HX6 := Lib.hid (heap_below hbz HX5.out)
    have HB6 := Lib.hid (HB5.out.trans (hbz.mono (Nat.le_trans hbase HB5.out.size)))
    have HK6 := Lib.hid (HK5.out.trans (KeepF.below (g := g) hbz))
    have hgbg : gb ≠ g := fun h => by have := HB5.out.size; omega
    clear hF hbz hgl hAB hblt c0 c1 c2 c3 c4 c5
    go_wp2_with fail
    refine (putF_any [ty, mt] 2 _ g base _ _ HF6.out HL6.out hgbg (by decide) (by simp only [List.length_append, List.length_replicate, List.length_cons, List.length_nil]; omega) (Nat.le_of_ble_eq_true rfl) (by intro n hn; have h1 := HEN.out; have h2 := HFL.out; simp only [List.mem_cons, List.not_mem_nil, or_false] at hn; omega) (Nat.le_trans hbase HB6.out.size) 2 (Nat.le_refl _)).mono ?_
    rintro r w7 ⟨rfl, hf, hb, hk⟩
    have HF7 := Lib.hid hf
    have HX7 := Lib.hid (hk _ _ _ _ (by omega) (by decide) HX6.out)
    have HB7 := Lib.hid (HB6.out.trans hb)
    have HK7 := Lib.hid (HK6.out.trans hk)
    clear hf hb hk
    obtain ⟨c0, c1, c2, c3, c4, c5⟩ := elf_box (e := ⟨ty, etarget, eflags, eentry, esecs, esegs⟩) HX7.out
    go_wp2_with fail
    clear c0 c1 c2 c3 c4 c5
    refine (putF_any [1] 4 _ g base _ _ (HF7.out.mono (below_alloc _ _)) (heap_alloc_last _ _) (fun h => by have := HB7.out.size; omega) (by decide) (by simp only [List.length_append, flat_len' (fun n => length_fixed n _), List.length_replicate, List.length_cons, List.length_nil]; omega) (Nat.le_of_ble_eq_true rfl) (by intro n hn; have h1 := HEN.out; have h2 := HFL.out; simp only [List.mem_cons, List.not_mem_nil, or_false] at hn; omega) (Nat.le_trans hbase (by rw [World.size_alloc]; have := HB7.out.size; omega)) 1 (Nat.le_refl _)).mono ?_
    rintro r w8 ⟨rfl, hf, hb, hk⟩
    have HF8 := Lib.hid hf
    have HX8 := Lib.hid (hk _ _ _ _ (by omega) (by decide) (heap_below (below_alloc _ _) HX7.out))
    have HB8 := Lib.hid ((HB7.out.trans ((below_alloc w7 _).mono (Nat.le_trans hbase HB7.out.size))).trans hb)
    have HK8 := Lib.hid ((HK7.out.trans (KeepF.below (below_alloc w7 _))).trans hk)
    clear hf hb hk
    obtain ⟨c0, c1, c2, c3, c4, c5⟩ := elf_box (e := ⟨ty, etarget, eflags, eentry, esecs, esegs⟩) HX8.out
    go_wp2_with fail
    clear c0 c1 c2 c3 c4 c5
    refine (putF_any [eentry, 0, heads] 8 _ g base _ _ (HF8.out.mono (below_alloc _ _)) (heap_alloc_last _ _) (fun h => by have := HB8.out.size; omega) (by decide) (by simp only [List.length_append, flat_len' (fun n => length_fixed n _), List.length_replicate, List.length_cons, List.length_nil]; omega) (Nat.le_of_ble_eq_true rfl) (by intro n hn; have h1 := HEN.out; have h2 := HFL.out; simp only [List.mem_cons, List.not_mem_nil, or_false] at hn; omega) (Nat.le_trans hbase (by rw [World.size_alloc]; have := HB8.out.size; omega)) 3 (Nat.le_refl _)).mono ?_
    rintro r w9 ⟨rfl, hf, hb, hk⟩
    have HF9 := Lib.hid hf
    have HX9 := Lib.hid (hk _ _ _ _ (by omega) (by decide) (heap_below (below_alloc _ _) HX8.out))
    have HB9 := Lib.hid ((HB8.out.trans ((below_alloc w8 _).mono (Nat.le_trans hbase HB8.out.size))).trans hb)
    have HK9 := Lib.hid ((HK8.out.trans (KeepF.below (below_alloc w8 _))).trans hk)
    clear hf hb hk
    obtain ⟨c0, c1, c2, c3, c4, c5⟩ := elf_box (e := ⟨ty, etarget, eflags, eentry, esecs, esegs⟩) HX9.out
    go_wp2_with fail
    clear c0 c1 c2 c3 c4 c5
    refine (putF_any [eflags] 4 _ g base _ _ (HF9.out.mono (below_alloc _ _)) (heap_alloc_last _ _) (fun h => by have := HB9.out.size; omega) (by decide) (by simp only [List.length_append, flat_len' (fun n => length_fixed n _), List.length_replicate, List.length_cons, List.length_nil]; omega) (Nat.le_of_ble_eq_true rfl) (by intro n hn; have h1 := HEN.out; have h2 := HFL.out; simp only [List.mem_cons, List.not_mem_nil, or_false] at hn; omega) (Nat.le_trans hbase (by rw [World.size_alloc]; have := HB9.out.size; omega)) 1 (Nat.le_refl _)).mono ?_
    rintro r w10 ⟨rfl, hf, hb, hk⟩
    have HF10 := Lib.hid hf
    have HX10 := Lib.hid (hk _ _ _ _ (by omega) (by decide) (heap_below (below_alloc _ _) HX9.out))
    have HB10 := Lib.hid ((HB9.out.trans ((below_alloc w9 _).mono (Nat.le_trans hbase HB9.out.size))).trans hb)
    have HK10 := Lib.hid ((HK9.out.trans (KeepF.below (below_alloc w9 _))).trans hk)
    clear hf hb hk
    obtain ⟨c0, c1, c2, c3, c4, c5⟩ := elf_box (e := ⟨ty, etarget, eflags, eentry, esecs, esegs⟩) HX10.out
    go_wp2_with fail
    clear c0 c1 c2 c3 c4 c5
    refine (putF_any [64, 56, gn, 64, nl + 2, nl + 1] 2 _ g base _ _ (HF10.out.mono (below_alloc _ _)) (heap_alloc_last _ _) (fun h => by have := HB10.out.size; omega) (by decide) (by simp only [List.length_append, flat_len' (fun n => length_fixed n _), List.length_replicate, List.length_cons, List.length_nil]; omega) (Nat.le_of_ble_eq_true rfl) (by intro n hn; have h1 := HEN.out; have h2 := HFL.out; simp only [List.mem_cons, List.not_mem_nil, or_false] at hn; omega) (Nat.le_trans hbase (by rw [World.size_alloc]; have := HB10.out.size; omega)) 6 (Nat.le_refl _)).mono ?_
    rintro r w11 ⟨rfl, hf, hb, hk⟩
    have HF11 := Lib.hid hf
    have HX11 := Lib.hid (hk _ _ _ _ (by omega) (by decide) (heap_below (below_alloc _ _) HX10.out))
    have HB11 := Lib.hid ((HB10.out.trans ((below_alloc w10 _).mono (Nat.le_trans hbase HB10.out.size))).trans hb)
    have HK11 := Lib.hid ((HK10.out.trans (KeepF.below (below_alloc w10 _))).trans hk)
    clear hf hb hk
    go_wp2
    go_end0
    refine ⟨rfl, ?_, HB11.out, HK11.out⟩
    rw [HHB.out]
    rw [hdec]
    exact HF11.out
end Go.Proofs.YtimnbnomaajmmaaGreat
namespace Go.Fd
theorem plF_pre {g : Bool} {n : Nat} {l : List SecM} {k : Nat} : ∀ j, k ≤ j → j ≤ l.length → (plF g n (l.take j)).1.take k = (plF g n (l.take k)).1 := by
  intro j
  induction j with
  | zero => intro h1 _; obtain rfl : k = 0 := by omega
            rfl
  | succ j ih =>
    intro h1 h2
    rcases Nat.lt_or_ge j k with h3 | h3
    · obtain rfl : k = j + 1 := by omega
      rw [List.take_of_length_le]
      rw [plF_len, List.length_take]
      omega
    · have hx : l[j]? = some l[j] := List.getElem?_eq_getElem (by omega)
      rw [plF_step hx]
      show ((plF g n (l.take j)).1 ++ [_]).take k = _
      rw [List.take_append_of_le_length (by rw [plF_len, List.length_take]; omega), ih h3 (by omega)]
theorem plF_get {g : Bool} {n : Nat} {l : List SecM} {k : Nat} {x : SecM} (h : l[k]? = some x) : (plF g n l).1[k]? = some (placeS g (plF g n (l.take k)).2 x) := by
  have hk := (List.getElem?_eq_some_iff.1 h).1
  have h1 := plF_pre (g := g) (n := n) (l := l) (k := k + 1) l.length (by omega) (Nat.le_refl _)
  rw [List.take_length, plF_step h] at h1
  have h2 : ((plF g n l).1.take (k + 1))[k]? = (plF g n l).1[k]? := by rw [List.getElem?_take, if_pos (by omega)]
  rw [← h2, h1]
  show ((plF g n (l.take k)).1 ++ [_])[k]? = _
  have h3 : (plF g n (l.take k)).1.length = k := by rw [plF_len, List.length_take]; omega
  rw [List.getElem?_append_right (by omega), h3, Nat.sub_self]
  rfl
/-- Sections' bytes behind others, each at its place. -/
def bodyF (acc : List UInt8) (l : List (SecM × Nat)) : List UInt8 := l.foldl (fun acc p => acc ++ List.replicate (p.2 - acc.length) 0 ++ p.1.data) acc
theorem bodyF_step {acc : List UInt8} {l : List (SecM × Nat)} {k : Nat} {x : SecM × Nat} (h : l[k]? = some x) : bodyF acc (l.take (k + 1)) = bodyF acc (l.take k) ++ List.replicate (x.2 - (bodyF acc (l.take k)).length) 0 ++ x.1.data := by
  rw [List.take_add_one, h]
  unfold bodyF
  rw [List.foldl_append]
  rfl
theorem zipP {g : Bool} {n : Nat} {l : List SecM} {k : Nat} {x : SecM} (h : l[k]? = some x) : (l.zip (plF g n l).1)[k]? = some (x, placeS g (plF g n (l.take k)).2 x) := by
  rw [List.getElem?_zip_eq_some]
  exact ⟨h, plF_get h⟩
theorem body_len {g : Bool} {n : Nat} {l : List SecM} {acc : List UInt8} (ha : acc.length = n) (hp : ∀ s ∈ l, powB s.align = true) : ∀ k, k ≤ l.length → (bodyF acc ((l.zip (plF g n l).1).take k)).length = (plF g n (l.take k)).2 := by
  intro k
  induction k with
  | zero => intro _; exact ha
  | succ k ih =>
    intro hk
    have hx : l[k]? = some l[k] := List.getElem?_eq_getElem (by omega)
    have h1 := ih (by omega)
    have h2 := placeS_le (g := g) (p := (plF g n (l.take k)).2) (hp _ (List.mem_of_getElem? hx))
    rw [bodyF_step (zipP hx), plF_step hx, List.length_append, List.length_append, List.length_replicate, h1]
    show _ + _ + _ = placeS _ _ _ + _
    dsimp only
    omega
end Go.Fd
namespace Go.Proofs.YtimnbnomaajmmaaGreat
open Go.RowKit Go.Fd
def segBy (s : SegM) : List UInt8 := putL 4 [s.typ, s.flags] ++ putL 8 [s.off, s.vaddr, s.vaddr, s.filesz, s.memsz, s.align]
def hdrBy (name : Nat) (s : SecM) (p : Nat) : List UInt8 := putL 4 [name, s.typ] ++ putL 8 [s.flags, s.addr, p, s.size] ++ putL 4 [s.link, s.info] ++ putL 8 [s.align, s.ent]
theorem segBy_len (s : SegM) : (segBy s).length = 56 := by unfold segBy; simp only [List.length_append, putL_len]; rfl
theorem hdrBy_len (name : Nat) (s : SecM) (p : Nat) : (hdrBy name s p).length = 64 := by unfold hdrBy; simp only [List.length_append, putL_len]; rfl
/-- The names' places in the table. -/
def atsOf (e : ElfM) : List Nat := (buildR (namesOf e.secs)).2.1
/-- The header's and the segments' bytes. -/
def frontB (e : ElfM) : List UInt8 := headB e (headsOf e (tabOf e).length) ++ e.segs.flatMap segBy
theorem frontB_len (e : ElfM) : (frontB e).length = front e := by
  unfold frontB front
  rw [List.length_append, headB_len, flat_len' segBy_len]
  omega
def bodyB (e : ElfM) : List UInt8 := bodyF (frontB e) (e.secs.zip (placesOf e).1)
theorem bodyB_len {e : ElfM} (hp : ∀ s ∈ e.secs, powB s.align = true) : (bodyB e).length = (placesOf e).2 := by
  have := body_len (g := segsB e) (frontB_len e) hp e.secs.length (Nat.le_refl _)
  rw [List.take_of_length_le (by rw [List.length_zip, plF_len]; omega), List.take_length] at this
  exact this
/-- All ahead of the sections' headers. -/
def midB (e : ElfM) : List UInt8 := bodyB e ++ tabOf e ++ List.replicate (headsOf e (tabOf e).length + 64 - ((placesOf e).2 + (tabOf e).length)) 0
def hdrsB (e : ElfM) : List UInt8 := (e.secs.zip ((atsOf e).zip (placesOf e).1)).flatMap fun p => hdrBy p.2.1 p.1 p.2.2
def tabSec (n : Nat) : SecM := ⟨[], 3, 0, 0, 1, n, 0, 0, 0, []⟩
/-- A file's bytes. -/
def fileB (e : ElfM) : List UInt8 := midB e ++ hdrsB e ++ hdrBy ((atsOf e)[e.secs.length]?.getD 0) (tabSec (tabOf e).length) (placesOf e).2
def fileW (e : ElfM) : List UInt8 × Int := if mayE e = true then (fileB e, 0) else ([], 1)
theorem fileW_no {e : ElfM} (h : mayE e = false) : fileW e = ([], 1) := by unfold fileW; rw [if_neg (by simp [h])]
theorem fileW_ok {e : ElfM} (h : mayE e = true) : fileW e = (fileB e, 0) := by unfold fileW; rw [if_pos h]
/-- What is known of a file that may be. -/
structure MayK (e : ElfM) : Prop where
  typ : e.typ = 1 ∨ e.typ = 2
  mach : mach e.target ≠ 0
  secs : e.secs.length ≤ 250
  segs : e.segs.length ≤ 16
  fine : ∀ s ∈ e.secs, fineB s = true
  pow : ∀ s ∈ e.secs, powB s.align = true
  segp : ∀ s ∈ e.segs, powB s.align = true
  ok : (buildR (namesOf e.secs)).2.2 = 0
  names : ∀ s ∈ e.secs, mayS s.name = true
  len : headsOf e (tabOf e).length + 64 * (e.secs.length + 2) ≤ 4194304
theorem mayK {e : ElfM} (h : mayE e = true) : MayK e := by
  unfold mayE at h
  simp only [Bool.and_eq_true] at h
  obtain ⟨⟨h1, h2⟩, h3⟩ := h
  unfold may1 at h1
  simp only [Bool.and_eq_true, Bool.or_eq_true, Bool.not_eq_true', decide_eq_true_eq, decide_eq_false_iff_not] at h1
  unfold may2 at h2
  simp only [Bool.and_eq_true, List.all_eq_true, decide_eq_true_eq] at h2
  unfold may3 at h3
  simp only [Bool.and_eq_true, decide_eq_true_eq] at h3
  have hn := h3.1
  refine ⟨h1.1.1.1, h1.1.1.2, h1.1.2, h1.2, fun s hs => (h2.1 s hs).1, fun s hs => fineB_pow (h2.1 s hs).1, h2.2, hn, fun s hs => ?_, h3.2⟩
  have := (build_ok hn).1
  unfold namesOf at this
  rw [List.all_append, Bool.and_eq_true, List.all_map] at this
  exact List.all_eq_true.1 this.1 s hs
theorem heads_ge {e : ElfM} : (placesOf e).2 + (tabOf e).length ≤ headsOf e (tabOf e).length ∧ headsOf e (tabOf e).length < (placesOf e).2 + (tabOf e).length + 8 := by
  have := upN_le (n := (placesOf e).2 + (tabOf e).length) (a := 8) (by omega)
  exact this
theorem atsOf_len {e : ElfM} (h : MayK e) : (atsOf e).length = e.secs.length + 1 ∧ ∀ p ∈ atsOf e, p ≤ 130000 := by
  have := ats_ok h.ok (by rw [namesOf_len]; have := h.secs; omega)
  rw [namesOf_len] at this
  exact this
theorem midB_len {e : ElfM} (h : MayK e) : (midB e).length = headsOf e (tabOf e).length + 64 := by
  unfold midB
  rw [List.length_append, List.length_append, List.length_replicate, bodyB_len h.pow]
  have := heads_ge (e := e)
  omega
theorem place_bd {e : ElfM} (h : MayK e) (k : Nat) : (plF (segsB e) (front e) (e.secs.take k)).2 ≤ (placesOf e).2 := by
  have : ∀ j, k ≤ j → (plF (segsB e) (front e) (e.secs.take k)).2 ≤ (plF (segsB e) (front e) (e.secs.take j)).2 := by
    intro j
    induction j with
    | zero => intro hj; obtain rfl : k = 0 := by omega
              exact Nat.le_refl _
    | succ j ih =>
      intro hj
      rcases Nat.lt_or_ge j k with h3 | h3
      · obtain rfl : k = j + 1 := by omega
        exact Nat.le_refl _
      · refine Nat.le_trans (ih h3) ?_
        rcases Nat.lt_or_ge j e.secs.length with hl | hl
        · have hx : e.secs[j]? = some e.secs[j] := List.getElem?_eq_getElem hl
          rw [plF_step hx]
          have := placeS_le (g := segsB e) (p := (plF (segsB e) (front e) (e.secs.take j)).2) (h.pow _ (List.mem_of_getElem? hx))
          show _ ≤ placeS _ _ _ + _
          omega
        · rw [List.take_of_length_le hl, List.take_of_length_le (by omega)]
          exact Nat.le_refl _
  rcases Nat.lt_or_ge k e.secs.length with hk | hk
  · have := this e.secs.length (by omega)
    rw [List.take_length] at this
    exact this
  · rw [List.take_of_length_le hk]
    exact Nat.le_refl _
end Go.Proofs.YtimnbnomaajmmaaGreat
namespace Go.Proofs.YtimnbnomaajmmaaGreat
open Go.RowKit Go.Fd
/-- What goes up. -/
abbrev upF : List PanicEntry := [{ v := .iface 70 (.agg #[]), recovered := false }]
set_option maxRecDepth 100000 in
theorem must_ok (w : World) : Calls Tryz.prog 31 #[.bool true] w fun r w' => r = .returned (.tuple #[]) ∧ w = w' := by
  go_enter Tryz.func31, Tryz.ntmps31
  go_wp2
  go_end0
  exact ⟨rfl, rfl⟩
set_option maxRecDepth 100000 in
theorem must_no (w : World) : Calls Tryz.prog 31 #[.bool false] w fun r w' => r = .panicked upF ∧ w = w' := by
  go_enter Tryz.func31, Tryz.ntmps31
  go_wp2
  exact ⟨rfl, rfl, rfl⟩
set_option maxRecDepth 100000 in
/-- A number at a place, or nothing. -/
theorem ru_any (l : List UInt8) (at_ size : Int) (v : Value) (w : World) (hl : l.length ≤ 1000000000) (hv : Bs w v l) :
    Calls Tryz.prog 29 #[v, .int .i64 at_, .int .i64 size] w fun r w' => w = w' ∧ ((getR l at_ size false).2 = 0 ∧ r = .returned (.int .u64 (getR l at_ size false).1) ∨ (getR l at_ size false).2 ≠ 0 ∧ r = .panicked upF) := by
  have HU := Lib.hid (octU_any l at_ size v w hl hv)
  generalize getR l at_ size false = q at *
  obtain ⟨n, z⟩ := q
  by_cases hz : z = 0
  · subst hz
    go_enter Tryz.func29, Tryz.ntmps29
    go_wp2_with (first
      | (go_at_call 59; refine HU.out.mono ?_; rintro e w1 ⟨rfl, rfl⟩)
      | (go_at_call 31; refine (must_ok _).mono ?_; rintro e w2 ⟨rfl, rfl⟩))
    go_ret
    exact ⟨rfl, .inl ⟨trivial, rfl⟩⟩
  · have hz1 : (z == (0 : Int)) = false := by simpa using hz
    have HX := Lib.hid hz
    clear hz
    go_enter Tryz.func29, Tryz.ntmps29
    go_wp2_with (first
      | (go_at_call 59; refine HU.out.mono ?_; rintro e w1 ⟨rfl, rfl⟩)
      | (go_at_call 31; refine (must_no _).mono ?_; rintro e w2 ⟨rfl, rfl⟩))
    exact ⟨rfl, rfl, .inr ⟨HX.out, rfl⟩⟩
/-- Is a stretch in the bytes? -/
def inB (l : List UInt8) (at_ size : Nat) : Bool := decide (at_ ≤ l.length) && decide (size ≤ l.length - at_)
theorem TR : SliceT Tryz.prog 72 5 1 1 := SliceT.mk' (z := .int .u8 0) (by kernel_rfl) (by kernel_rfl) rfl (by omega)
theorem slice_cutR {w : World} {v : Value} {l : List UInt8} (hv : Bs w v l) (a s : Nat) {z y : Int} (hz : z = (a : Int)) (hy : y = (a : Int) + s) (hin : a + s ≤ l.length) :
    ∃ v', (∀ w', (Instr.sliceAt 72 v (some (.int .u64 z)) (some (.int .u64 y)) none).run Tryz.prog w' = .ok v' w') ∧ ∀ w2, Bs w2 v l → Bs w2 v' ((l.drop a).take s) := by
  subst hz hy
  have key : ∀ w2, Bs w2 v l → ∃ v', (∀ w', (Instr.sliceAt 72 v (some (.int .u64 (a : Int))) (some (.int .u64 ((a : Int) + s))) none).run Tryz.prog w' = .ok v' w') ∧ Bs w2 v' ((l.drop a).take s) := by
    intro w2 hv2
    obtain ⟨v', h, hr⟩ := run_sliceAt TR hv2 (i := (a : Int)) (j := (a : Int) + s) (k := .u64) (k' := .u64) (by omega) (by omega) (by omega)
    refine ⟨v', h, ?_⟩
    rw [show ((a : Int) + s - a).toNat = s by omega] at hr
    unfold Bs
    rw [List.length_take, List.length_drop, List.map_take, List.map_drop, show min s (l.length - a) = s by omega]
    simpa using hr
  obtain ⟨v', h, -⟩ := key w hv
  refine ⟨v', h, fun w2 hv2 => ?_⟩
  obtain ⟨v2, h2, hb⟩ := key w2 hv2
  have e := h w
  rw [h2 w] at e
  injection e with e _
  exact e ▸ hb
set_option maxRecDepth 100000 in
theorem cut_any (l : List UInt8) (a s : Nat) (v : Value) (w : World) (hl : l.length ≤ 1000000000) (hv : Bs w v l) (ha : a < 18446744073709551616) (hs : s < 18446744073709551616) :
    Calls Tryz.prog 61 #[v, .int .u64 a, .int .u64 s] w fun r w' => w = w' ∧ (inB l a s = true ∧ (∃ v', r = .returned v' ∧ ∀ w2, Bs w2 v l → Bs w2 v' ((l.drop a).take s)) ∨ inB l a s = false ∧ r = .panicked upF) := by
  have HV := Lib.hid hv
  obtain ⟨m, ad, cap, hm, rfl, hmc, _⟩ := hv.shape
  have hm9 : m ≤ 1000000000 := by have := hm.out; omega
  clear hv
  by_cases h1 : a ≤ m
  · by_cases h2 : s ≤ m - a
    · have HR : Hid (inB l a s = true) := by unfold inB; rw [← hm.out, decide_eq_true h1, decide_eq_true h2]; exact rfl
      obtain ⟨v', hr, hb⟩ := slice_cutR HV.out a s (z := (a : Int)) (y := (a : Int) + s) rfl rfl (by have := hm.out; omega)
      have HB := Lib.hid hb
      have h3 : ((s : Int) ≤ (m : Int) - (a : Int)) := by omega
      have HX := Lib.hid ha
      clear ha hs hb
      go_enter Tryz.func61, Tryz.ntmps61
      go_wp2_with (go_at_call 31; refine (must_ok _).mono ?_; rintro e w2 ⟨rfl, rfl⟩)
      go_ret
      exact ⟨rfl, .inl ⟨HR.out, _, rfl, HB.out⟩⟩
    · have HR : Hid (inB l a s = false) := by unfold inB; rw [← hm.out, decide_eq_true h1, decide_eq_false h2]; exact rfl
      have h3 : ¬ ((s : Int) ≤ (m : Int) - (a : Int)) := by omega
      go_enter Tryz.func61, Tryz.ntmps61
      go_wp2_with (go_at_call 31; refine (must_no _).mono ?_; rintro e w2 ⟨rfl, rfl⟩)
      exact ⟨rfl, rfl, .inr ⟨HR.out, rfl⟩⟩
  · have HR : Hid (inB l a s = false) := by unfold inB; rw [← hm.out, decide_eq_false h1]; exact rfl
    have HX := Lib.hid ha
    clear ha hs
    go_enter Tryz.func61, Tryz.ntmps61
    go_wp2_with (go_at_call 31; refine (must_no _).mono ?_; rintro e w2 ⟨rfl, rfl⟩)
    exact ⟨rfl, rfl, .inr ⟨HR.out, rfl⟩⟩
end Go.Proofs.YtimnbnomaajmmaaGreat
namespace Go.Proofs.YtimnbnomaajmmaaGreat
open Go.RowKit Go.Fd
/-- A number at a place, and whether it is there. -/
def gN (l : List UInt8) (a s : Nat) : Nat := (getR l a s false).1
def okB (l : List UInt8) (a s : Nat) : Bool := decide ((getR l a s false).2 = 0)
theorem gN_lt (l : List UInt8) (a s : Nat) : gN l a s < 256 ^ s := by
  unfold gN getR
  split
  · split
    · exact Nat.pow_pos (by omega)
    · split
      · exact Nat.pow_pos (by omega)
      · have h := numLE_lt ((l.drop (a : Int).toNat).take (s : Int).toNat)
        refine Nat.lt_of_lt_of_le h (Nat.pow_le_pow_right (by omega) ?_)
        rw [List.length_take]
        omega
  · exact Nat.pow_pos (by omega)
theorem gN2 (l : List UInt8) (a : Nat) : gN l a 2 < 65536 := gN_lt l a 2
theorem gN4 (l : List UInt8) (a : Nat) : gN l a 4 < 4294967296 := gN_lt l a 4
theorem gN8 (l : List UInt8) (a : Nat) : gN l a 8 < 18446744073709551616 := gN_lt l a 8
theorem okB_iff {l : List UInt8} {a s : Nat} (hs : Sized s) : okB l a s = decide (a + s ≤ l.length) := by
  unfold okB getR
  rw [if_pos hs]
  by_cases h : a + s ≤ l.length
  · rw [if_neg (by omega), if_neg (by omega), decide_eq_true h]; rfl
  · rw [decide_eq_false h]
    split
    · rfl
    · rw [if_pos (by omega)]; rfl
theorem gN_in {l : List UInt8} {a s : Nat} (hs : Sized s) (h : a + s ≤ l.length) : gN l a s = numLE ((l.drop a).take s) := by
  unfold gN getR
  rw [if_pos hs, if_neg (by omega), if_neg (by omega)]
  simp
theorem sz2 : Sized 2 := by unfold Sized; omega
theorem sz4 : Sized 4 := by unfold Sized; omega
theorem sz8 : Sized 8 := by unfold Sized; omega
end Go.Proofs.YtimnbnomaajmmaaGreat
namespace Go.Proofs.YtimnbnomaajmmaaGreat
open Go.RowKit Go.Fd
/-- A segment's header, as it is read; whether it is there. -/
def segP (l : List UInt8) (a : Nat) : SegM := ⟨gN l a 4, gN l (a + 4) 4, gN l (a + 8) 8, gN l (a + 16) 8, gN l (a + 32) 8, gN l (a + 40) 8, gN l (a + 48) 8⟩
def segOk (l : List UInt8) (a : Nat) : Bool := okB l a 4 && okB l (a + 4) 4 && okB l (a + 8) 8 && okB l (a + 16) 8 && okB l (a + 32) 8 && okB l (a + 40) 8 && okB l (a + 48) 8
theorem segOk_iff {l : List UInt8} {a : Nat} : segOk l a = decide (a + 56 ≤ l.length) := by
  unfold segOk
  rw [show okB l a 4 = _ from okB_iff sz4, show okB l (a + 4) 4 = _ from okB_iff sz4, show okB l (a + 8) 8 = _ from okB_iff sz8, show okB l (a + 16) 8 = _ from okB_iff sz8, show okB l (a + 32) 8 = _ from okB_iff sz8, show okB l (a + 40) 8 = _ from okB_iff sz8, show okB l (a + 48) 8 = _ from okB_iff sz8, Bool.eq_iff_iff]
  simp only [Bool.and_eq_true, decide_eq_true_eq]
  omega
theorem segP_fits (l : List UInt8) (a : Nat) : (segP l a).fits := ⟨gN4 _ _, gN4 _ _, gN8 _ _, gN8 _ _, gN8 _ _, gN8 _ _, gN8 _ _⟩
end Go.Proofs.YtimnbnomaajmmaaGreat
namespace Go.Fd
open Go.RowKit
/-- One value, if something holds. -/
def Yld.ok (c : Value) (q : Prop) : Yld := ⟨Unit, (), fun _ => c, fun _ _ => q, fun _ _ _ h _ => h⟩
theorem Yld.ok_got {c v : Value} {p : Prop} {w : World} (h : (Yld.ok c p).R v w) : p := by obtain ⟨_, _, h⟩ := h; exact h
section
variable {P : Program} {Up : Exit → Prop} {L r : List Oper} {M : List (Nat × Yld)} {a : Act} {w0 : World} {E : Act → Prop} {i : Nat} {o : Oper}
theorem walk_ok {c : Value} {p : Prop} (hw : Region.wanted o (yielded L.toArray a.tmps) = true) (hM : madeAt M i = some (Yld.ok c p)) (h : ∀ w, Below w0.heap.size w0 w → Deps L M a o w → WpYld P Up o a (Yld.ok c p) w) (hn : walk P Up L M w0 E (i + 1) r (a.put o.dst c)) : walk P Up L M w0 E i (o :: r) a :=
  walk_made hw hM h fun _ => hn
/-- A call that comes to a value, if something holds, or goes up. -/
theorem WpYld.callOk {c : Value} {f : FuncId} {args : Array Value} {w : World} {b : Bool} {q : Prop} {ch : List PanicEntry} (hr : (execOp a.eval o).run P w = .ok (.enter f args) w) (hq : b = false → q) (h : Calls P f args w fun e w' => w = w' ∧ (b = true ∧ e = .returned c ∨ b = false ∧ e = .panicked ch)) : WpYld P (fun x => x = .panic ch ∧ q) o a (Yld.ok c (b = true)) w :=
  WpYld.callUp hr (h.mono fun e w' ⟨hw, he⟩ => by
    subst hw
    rcases he with ⟨h1, h2⟩ | ⟨h1, h2⟩
    · exact .inl ⟨c, h2, ⟨(), rfl, h1⟩, Below.refl _ _⟩
    · exact .inr ⟨ch, h2, ⟨rfl, hq h1⟩, Below.refl _ _⟩)
end
/-- The call of a closure. -/
theorem run_callF {P : Program} {a : Act} {w : World} {d : Option Tmp} {ty : TypeId} {pos : String} {aft : Array Edge} {g : Option (Nat × Bool)} {f : FuncId} {fn : Func} {x : Operand} {caps : Array Value} {xs : List Operand} {ts : Array TypeId} {vals : List Value} (hf : P.funcs[f]? = some fn) (hn : (fn.name == "runtime.NumGoroutine") = false) {c : Code} (hb : fn.body = some c) (he : a.eval x = .func (.func f) #[] caps) (hx : xs.map a.eval = vals) :
    (execOp a.eval ⟨d, .call { callee := .value x, args := xs.toArray, argTypes := ts }, ty, pos, aft, g⟩).run P w = .ok (.enter f (vals.toArray ++ caps)) w := by
  have h1 : fn.name ≠ "runtime.NumGoroutine" := by simpa using hn
  have hc : (callFunc f (vals.toArray ++ caps)).run P w = .ok (.enter f (vals.toArray ++ caps)) w := by
    simp [callFunc, hf, h1, hb]
  have hx' : Array.map a.eval xs.toArray = vals.toArray := by rw [List.map_toArray, hx]
  simp only [execOp, resolve, hx']
  show Sem.run P (do let d ← Deferred.ofValue (a.eval x) vals.toArray; invoke d.target d.args) w = _
  rw [he]
  simp [Deferred.ofValue, invoke, hc]
/-- A value into a block of its own. -/
theorem wpList_boxS {P : Program} {ops : Array Oper} {rest : List Oper} {Q : Exit → Act → World → Prop} {a : Act} {w : World} {d : Option Tmp} {ty t : TypeId} {pos : String} {aft : Array Edge} {x : Operand} {ad : Option Addr} {m c : Nat} (hx : a.eval x = .slice ad m c)
    (h : ∀ w1, w1.heap[w.heap.size]? = some (.cells #[.slice ad m c] t (0, 0)) → Below w.heap.size w w1 → w.heap.size < w1.heap.size → wpList P ops Q rest (a.put d (.pointer (some ⟨w.heap.size, 0, none⟩))) w1) :
    wpList P ops Q (⟨d, .box t x, ty, pos, aft, none⟩ :: rest) a w := by
  refine wpList_val (w' := w.alloc (.cells #[.slice ad m c] t)) (v := .pointer (some ⟨w.heap.size, 0, none⟩)) rfl ?_ (h (w.alloc (.cells #[.slice ad m c] t)) (heap_alloc_last w _) (below_alloc w _) (by rw [World.size_alloc]; omega))
  simp only [execOp, hx]
  rfl
theorem wpList_boxI {P : Program} {ops : Array Oper} {rest : List Oper} {Q : Exit → Act → World → Prop} {a : Act} {w : World} {d : Option Tmp} {ty t : TypeId} {pos : String} {aft : Array Edge} {x : Operand} {k : IntKind} {n : Int} (hx : a.eval x = .int k n)
    (h : ∀ w1, w1.heap[w.heap.size]? = some (.cells #[.int k n] t (0, 0)) → Below w.heap.size w w1 → w.heap.size < w1.heap.size → wpList P ops Q rest (a.put d (.pointer (some ⟨w.heap.size, 0, none⟩))) w1) :
    wpList P ops Q (⟨d, .box t x, ty, pos, aft, none⟩ :: rest) a w := by
  refine wpList_val (w' := w.alloc (.cells #[.int k n] t)) (v := .pointer (some ⟨w.heap.size, 0, none⟩)) rfl ?_ (h (w.alloc (.cells #[.int k n] t)) (heap_alloc_last w _) (below_alloc w _) (by rw [World.size_alloc]; omega))
  simp only [execOp, hx]
  rfl
end Go.Fd
namespace Go.Proofs.YtimnbnomaajmmaaGreat
open Go.RowKit Go.Fd
/-- A call comes to a value, or goes up. -/
def ResU (b : Bool) (c : Value) (r : Ending) : Prop := b = true ∧ r = .returned c ∨ b = false ∧ r = .panicked upF
theorem ResU.yes (c : Value) : ResU true c (.returned c) := .inl ⟨rfl, rfl⟩
theorem ResU.no (c : Value) : ResU false c (.panicked upF) := .inr ⟨rfl, rfl⟩
theorem ruN (l : List UInt8) (a s : Nat) (v : Value) (w : World) (hl : l.length ≤ 1000000000) (hv : Bs w v l) :
    Calls Tryz.prog 29 #[v, .int .i64 a, .int .i64 s] w fun r w' => w = w' ∧ ResU (okB l a s) (.int .u64 (gN l a s : Nat)) r :=
  (ru_any l a s v w hl hv).mono fun r w' ⟨h1, h2⟩ => ⟨h1, h2.imp (fun ⟨h, e⟩ => ⟨by unfold okB; exact decide_eq_true h, e⟩) (fun ⟨h, e⟩ => ⟨by unfold okB; exact decide_eq_false h, e⟩)⟩
set_option maxRecDepth 100000 in
theorem seg1_any (l : List UInt8) (b1 b2 a i : Nat) (v : Value) (w : World) (hl : l.length ≤ 1000000000) (hv : Bs w v l) (h1 : w.heap[b1]? = some (.cells #[v] 72 (0, 0))) (h2 : w.heap[b2]? = some (.cells #[.int .i64 a] 3 (0, 0))) (ha : a ≤ 1000000000) (hi : i ≤ 100) :
    Calls Tryz.prog 93 #[.int .i64 i, .pointer (some ⟨b1, 0, none⟩), .pointer (some ⟨b2, 0, none⟩)] w fun r w' => w = w' ∧ ResU (okB l (a + i) 8) (.int .u64 (gN l (a + i) 8 : Nat)) r := by
  have HU := Lib.hid (ruN l (a + i) 8 v w hl hv)
  obtain ⟨m, ad, cap, -, rfl, _, _⟩ := hv.shape
  have c1 := cell_rec h1 0
  have c2 := cell_rec h2 0
  simp only [List.getElem?_toArray, List.getElem?_cons_zero] at c1 c2
  generalize okB l (a + i) 8 = ob at *
  generalize gN l (a + i) 8 = n at *
  clear h1 h2 hv
  go_enter Tryz.func93, Tryz.ntmps93
  go_wp2_with (go_at_call 29; refine HU.out.mono ?_; rintro e w1 ⟨rfl, ⟨rfl, rfl⟩ | ⟨rfl, rfl⟩⟩)
  · go_ret
    exact ⟨rfl, ResU.yes _⟩
  · exact ⟨rfl, rfl, ResU.no _⟩
end Go.Proofs.YtimnbnomaajmmaaGreat
namespace Go.Proofs.YtimnbnomaajmmaaGreat
open Go.RowKit Go.Fd
abbrev segZ : Array Value := #[.int .u32 0, .int .u32 0, .int .u64 0, .int .u64 0, .int .u64 0, .int .u64 0, .int .u64 0]
theorem wpList_allocSeg {ops : Array Oper} {rest : List Oper} {Q : Exit → Act → World → Prop} {a : Act} {w : World} {d : Option Tmp} {ty : TypeId} {pos : String} {aft : Array Edge}
    (h : ∀ w1, w1.heap[w.heap.size]? = some (.cells segZ 105 (0, 0)) → Below w.heap.size w w1 → w.heap.size < w1.heap.size → wpList Tryz.prog ops Q rest (a.put d (.pointer (some ⟨w.heap.size, 0, none⟩))) w1) :
    wpList Tryz.prog ops Q (⟨d, .alloc 105, ty, pos, aft, none⟩ :: rest) a w :=
  wpList_val rfl (by kernel_rfl) (h (w.alloc (.cells segZ 105)) (heap_alloc_last w _) (below_alloc w _) (by rw [World.size_alloc]; omega))
/-- A number at a place, in a region. -/
abbrev YN (l : List UInt8) (a s : Nat) : Yld := Yld.ok (.int .u64 (gN l a s : Nat)) (okB l a s = true)
theorem segOk_no {l : List UInt8} {a k s : Nat} (hs : Sized s) (hk : k + s ≤ 56) (h : okB l (a + k) s = false) : segOk l a = false := by
  rw [okB_iff hs] at h
  rw [segOk_iff]
  simp only [decide_eq_false_iff_not] at *
  omega
theorem segOk_yes {l : List UInt8} {a : Nat} (h : okB l (a + 48) 8 = true) : segOk l a = true := by
  rw [okB_iff sz8] at h
  rw [segOk_iff]
  simp only [decide_eq_true_eq] at *
  omega
attribute [local irreducible] gN okB
set_option maxHeartbeats 1000000 in
set_option maxRecDepth 100000 in
theorem seg_any (l : List UInt8) (a : Nat) (v : Value) (w : World) (hl : l.length ≤ 1000000000) (hv : Bs w v l) (ha : a ≤ 100000000) :
    Calls Tryz.prog 60 #[v, .int .i64 a] w fun r w' => ResU (segOk l a) (.agg (encSeg (segP l a)).toArray) r ∧ Below w.heap.size w w' := by
  have HV := Lib.hid hv
  obtain ⟨m, ad, cap, -, rfl, _, _⟩ := hv.shape
  have HNO := Lib.hid (fun (k s : Nat) (hs : Sized (s : Int)) (hk : k + s ≤ 56) => segOk_no (l := l) (a := a) hs hk)
  have HYES := Lib.hid (segOk_yes (l := l) (a := a))
  have HSG : Hid (encSeg (segP l a) = [.int .u32 (gN l a 4 : Nat), .int .u32 (gN l (a + 4) 4 : Nat), .int .u64 (gN l (a + 8) 8 : Nat), .int .u64 (gN l (a + 16) 8 : Nat), .int .u64 (gN l (a + 32) 8 : Nat), .int .u64 (gN l (a + 40) 8 : Nat), .int .u64 (gN l (a + 48) 8 : Nat)]) := rfl
  have hb0 := gN4 l a
  have hb1 := gN4 l (a + 4)
  clear hv
  go_enter Tryz.func60, Tryz.ntmps60
  go_wp2_with (first
    | ((with_reducible show wpList _ _ _ (⟨some 2, .box _ _, _, _, _, _⟩ :: _) _ _); go_must (refine wpList_boxS rfl ?_; intro w1 hx1 hb1 hs1; have HX1 := Lib.hid hx1; have HB1 := Lib.hid hb1; clear hx1 hb1))
    | ((with_reducible show wpList _ _ _ (⟨some 3, .box _ _, _, _, _, _⟩ :: _) _ _); go_must (refine wpList_boxI rfl ?_; intro w2 hx2 hb2 hs2; have HX2 := Lib.hid hx2; have HX12 := Lib.hid (heap_below hb2 HX1.out); have HB2 := Lib.hid (HB1.out.trans (hb2.mono HB1.out.size)); clear hx2 hb2))
    | ((with_reducible show wpList _ _ _ (⟨some 4, .alloc _, _, _, _, _⟩ :: _) _ _); go_must (refine wpList_allocSeg ?_; intro w3 hx3 hb3 hs3; have HX3 := Lib.hid hx3; have HX13 := Lib.hid (heap_below hb3 HX12.out); have HX23 := Lib.hid (heap_below hb3 HX2.out); have HB3 := Lib.hid (HB2.out.trans (hb3.mono HB2.out.size)); clear hx3 hb3)))
  have c1 := cell_rec HX13.out 0
  have c2 := cell_rec HX23.out 0
  simp only [List.getElem?_toArray, List.getElem?_cons_zero] at c1 c2
  have hAB := fun (x : Above w3) (b k : Nat) (h : b < w3.heap.size) => Above.cell x b k h
  have l1 := block_lt c1
  have l2 := block_lt c2
  have HU0 := Lib.hid (fun wx (hwx : Below w3.heap.size w3 wx) => (ruN l a 4 _ wx hl (HV.out.mono (HB3.out.trans (hwx.mono HB3.out.size)))))
  have HU1 : Hid (∀ wx (_ : Below w3.heap.size w3 wx), Calls Tryz.prog 29 #[.slice ad m cap, .int .i64 ((a : Int) + 4), .int .i64 4] wx fun r w' => wx = w' ∧ ResU (okB l (a + 4) 4) (.int .u64 (gN l (a + 4) 4 : Nat)) r) := Lib.hid (fun wx hwx => ruN l (a + 4) 4 _ wx hl (HV.out.mono (HB3.out.trans (hwx.mono HB3.out.size))))
  have HU8 : Hid (∀ wx (_ : Below w3.heap.size w3 wx), Calls Tryz.prog 93 #[.int .i64 8, .pointer (some ⟨w.heap.size, 0, none⟩), .pointer (some ⟨w1.heap.size, 0, none⟩)] wx fun r w' => wx = w' ∧ ResU (okB l (a + 8) 8) (.int .u64 (gN l (a + 8) 8 : Nat)) r) := Lib.hid (fun wx hwx => seg1_any l w.heap.size w1.heap.size a 8 _ wx hl (HV.out.mono (HB3.out.trans (hwx.mono HB3.out.size))) (heap_below hwx HX13.out) (heap_below hwx HX23.out) (by omega) (by omega))
  have HU16 : Hid (∀ wx (_ : Below w3.heap.size w3 wx), Calls Tryz.prog 93 #[.int .i64 16, .pointer (some ⟨w.heap.size, 0, none⟩), .pointer (some ⟨w1.heap.size, 0, none⟩)] wx fun r w' => wx = w' ∧ ResU (okB l (a + 16) 8) (.int .u64 (gN l (a + 16) 8 : Nat)) r) := Lib.hid (fun wx hwx => seg1_any l w.heap.size w1.heap.size a 16 _ wx hl (HV.out.mono (HB3.out.trans (hwx.mono HB3.out.size))) (heap_below hwx HX13.out) (heap_below hwx HX23.out) (by omega) (by omega))
  have HU32 : Hid (∀ wx (_ : Below w3.heap.size w3 wx), Calls Tryz.prog 93 #[.int .i64 32, .pointer (some ⟨w.heap.size, 0, none⟩), .pointer (some ⟨w1.heap.size, 0, none⟩)] wx fun r w' => wx = w' ∧ ResU (okB l (a + 32) 8) (.int .u64 (gN l (a + 32) 8 : Nat)) r) := Lib.hid (fun wx hwx => seg1_any l w.heap.size w1.heap.size a 32 _ wx hl (HV.out.mono (HB3.out.trans (hwx.mono HB3.out.size))) (heap_below hwx HX13.out) (heap_below hwx HX23.out) (by omega) (by omega))
  have HU40 : Hid (∀ wx (_ : Below w3.heap.size w3 wx), Calls Tryz.prog 93 #[.int .i64 40, .pointer (some ⟨w.heap.size, 0, none⟩), .pointer (some ⟨w1.heap.size, 0, none⟩)] wx fun r w' => wx = w' ∧ ResU (okB l (a + 40) 8) (.int .u64 (gN l (a + 40) 8 : Nat)) r) := Lib.hid (fun wx hwx => seg1_any l w.heap.size w1.heap.size a 40 _ wx hl (HV.out.mono (HB3.out.trans (hwx.mono HB3.out.size))) (heap_below hwx HX13.out) (heap_below hwx HX23.out) (by omega) (by omega))
  have HU48 : Hid (∀ wx (_ : Below w3.heap.size w3 wx), Calls Tryz.prog 93 #[.int .i64 48, .pointer (some ⟨w.heap.size, 0, none⟩), .pointer (some ⟨w1.heap.size, 0, none⟩)] wx fun r w' => wx = w' ∧ ResU (okB l (a + 48) 8) (.int .u64 (gN l (a + 48) 8 : Nat)) r) := Lib.hid (fun wx hwx => seg1_any l w.heap.size w1.heap.size a 48 _ wx hl (HV.out.mono (HB3.out.trans (hwx.mono HB3.out.size))) (heap_below hwx HX13.out) (heap_below hwx HX23.out) (by omega) (by omega))
  have HN0 : Hid (okB l a 4 = false → segOk l a = false) := Lib.hid (HNO.out 0 4 sz4 (by omega))
  have HN1 : Hid (okB l (a + 4) 4 = false → segOk l a = false) := Lib.hid (HNO.out 4 4 sz4 (by omega))
  have HN8 : Hid (okB l (a + 8) 8 = false → segOk l a = false) := Lib.hid (HNO.out 8 8 sz8 (by omega))
  have HN16 : Hid (okB l (a + 16) 8 = false → segOk l a = false) := Lib.hid (HNO.out 16 8 sz8 (by omega))
  have HN32 : Hid (okB l (a + 32) 8 = false → segOk l a = false) := Lib.hid (HNO.out 32 8 sz8 (by omega))
  have HN40 : Hid (okB l (a + 40) 8 = false → segOk l a = false) := Lib.hid (HNO.out 40 8 sz8 (by omega))
  have HN48 : Hid (okB l (a + 48) 8 = false → segOk l a = false) := Lib.hid (HNO.out 48 8 sz8 (by omega))
  clear HNO
  refine wp_region_walkU (Up := fun x => x = .panic upF ∧ segOk l a = false) 20 [(2, YN l a 4), (7, YN l (a + 4) 4), (10, YN l (a + 8) 8), (12, YN l (a + 16) 8), (14, YN l (a + 32) 8), (16, YN l (a + 40) 8), (18, YN l (a + 48) 8)] (by kernel_rfl) (by kernel_rfl) ?_ ?_
  · rintro x a' w' ⟨⟨rfl, hso⟩, hd, hb⟩
    refine ⟨hd, ?_, HB3.out.trans (hb.mono HB3.out.size)⟩
    rw [hso]
    exact ResU.no _
  simp only [List.take_succ_cons, List.take_zero, List.drop_succ_cons, List.drop_zero]
  repeat (refine walk_quiet rfl rfl rfl ?_; intro K hK; go_big_quiet_op; go_big_quiet_on)
  refine walk_ok (c := .int .u64 (gN l a 4 : Nat)) (p := okB l a 4 = true) rfl rfl (fun wx hwx _ => WpYld.callOk (run_callL (vals := [_, _, _]) Tryz.func29 (by kernel_rfl) rfl rfl) HN0.out (HU0.out wx hwx)) ?_
  go_frame
  repeat (refine walk_quiet rfl rfl rfl ?_; intro K hK; go_big_quiet_op; go_big_quiet_on)
  refine walk_ok (c := .int .u64 (gN l (a + 4) 4 : Nat)) (p := okB l (a + 4) 4 = true) rfl rfl (fun wx hwx _ => WpYld.callOk (run_callL (vals := [_, _, _]) Tryz.func29 (by kernel_rfl) rfl rfl) HN1.out (HU1.out wx hwx)) ?_
  go_frame
  repeat (refine walk_quiet rfl rfl rfl ?_; intro K hK; go_big_quiet_op; go_big_quiet_on)
  refine walk_ok (c := .int .u64 (gN l (a + 8) 8 : Nat)) (p := okB l (a + 8) 8 = true) rfl rfl (fun wx hwx _ => WpYld.callOk (run_callF (vals := [_]) Tryz.func93 (by kernel_rfl) rfl rfl rfl) HN8.out (HU8.out wx hwx)) ?_
  go_frame
  repeat (refine walk_quiet rfl rfl rfl ?_; intro K hK; go_big_quiet_op; go_big_quiet_on)
  refine walk_ok (c := .int .u64 (gN l (a + 16) 8 : Nat)) (p := okB l (a + 16) 8 = true) rfl rfl (fun wx hwx _ => WpYld.callOk (run_callF (vals := [_]) Tryz.func93 (by kernel_rfl) rfl rfl rfl) HN16.out (HU16.out wx hwx)) ?_
  go_frame
  repeat (refine walk_quiet rfl rfl rfl ?_; intro K hK; go_big_quiet_op; go_big_quiet_on)
  refine walk_ok (c := .int .u64 (gN l (a + 32) 8 : Nat)) (p := okB l (a + 32) 8 = true) rfl rfl (fun wx hwx _ => WpYld.callOk (run_callF (vals := [_]) Tryz.func93 (by kernel_rfl) rfl rfl rfl) HN32.out (HU32.out wx hwx)) ?_
  go_frame
  repeat (refine walk_quiet rfl rfl rfl ?_; intro K hK; go_big_quiet_op; go_big_quiet_on)
  refine walk_ok (c := .int .u64 (gN l (a + 40) 8 : Nat)) (p := okB l (a + 40) 8 = true) rfl rfl (fun wx hwx _ => WpYld.callOk (run_callF (vals := [_]) Tryz.func93 (by kernel_rfl) rfl rfl rfl) HN40.out (HU40.out wx hwx)) ?_
  go_frame
  repeat (refine walk_quiet rfl rfl rfl ?_; intro K hK; go_big_quiet_op; go_big_quiet_on)
  refine walk_ok (c := .int .u64 (gN l (a + 48) 8 : Nat)) (p := okB l (a + 48) 8 = true) rfl rfl (fun wx hwx _ => WpYld.callOk (run_callF (vals := [_]) Tryz.func93 (by kernel_rfl) rfl rfl rfl) HN48.out (HU48.out wx hwx)) ?_
  go_frame
  repeat (refine walk_quiet rfl rfl rfl ?_; intro K hK; go_big_quiet_op; go_big_quiet_on)
  refine walk_nil ?_
  intro wz hbz hF
  have HLAST : Hid (segOk l a = true) := Lib.hid (HYES.out (Yld.ok_got (hF 18 _ 25 _ rfl rfl rfl rfl)))
  clear hF hAB c1 c2
  have HX3z := Lib.hid (heap_below hbz HX3.out)
  refine wpList_storeMade HX3z.out rfl rfl (by kernel_rfl) rfl (by simp [Value.oneCell']) (Nat.le_trans HB1.out.size (Nat.le_of_lt hs2)) (Nat.le_trans HB3.out.size hbz.size) ?_
  intro wn hhn hbn
  have HBN := Lib.hid (HB3.out.trans ((hbz.mono HB3.out.size).trans hbn))
  have HHN := Lib.hid hhn
  clear hhn hbn hbz HX3z HX3 HX13 HX23 HX12 HX1 HX2
  go_wp2
  refine bodyPost_ret (results_cell_row rfl _ _ w2.heap.size _ _ _ _ rfl HHN.out rfl rfl (by kernel_rfl)) rfl ⟨?_, HBN.out⟩
  rw [HLAST.out, HSG.out]
  exact ResU.yes _
end Go.Proofs.YtimnbnomaajmmaaGreat
namespace Go.Proofs.YtimnbnomaajmmaaGreat
open Go.RowKit Go.Fd
theorem run_litB0 {a : Act} {w : World} {d : Option Tmp} {ty : TypeId} {pos : String} {aft : Array Edge} {g : Option (Nat × Bool)} :
    (execOp a.eval ⟨d, .buildSlice 22 0 #[], ty, pos, aft, g⟩).run Tryz.prog w = .ok (.value (.slice (some ⟨w.heap.size, 0, none⟩) 0 0)) (w.alloc (.cells #[] 5)) := by
  kernel_rfl
set_option maxRecDepth 100000 in
theorem clone_any (l : List UInt8) (v : Value) (w : World) (hl : l.length ≤ 1000000000) (hv : Bs w v l) :
    Calls Tryz.prog 95 #[v] w fun r w' => (∃ u, r = .returned u ∧ OB w' w.heap.size u l) ∧ Below w.heap.size w w' := by
  have HV := Lib.hid hv
  obtain ⟨m, ad, cap, hm, rfl, hmc, hnil⟩ := hv.shape
  have HM := Lib.hid hm.out
  clear hv
  cases ad with
  | none =>
    have h0 := hnil rfl
    have hl0 : l = [] := List.eq_nil_of_length_eq_zero (by have := HM.out; omega)
    have hm0 : m = 0 := by omega
    subst hl0 hm0 h0
    have hq := fun (w : World) (a : Option Addr) (n c : Nat) => Lib.run_eql_slice_nil (P := Tryz.prog) w 22 5 a n c 0 0 (by kernel_rfl)
    go_enter Tryz.func95, Tryz.ntmps95
    go_wp2
    go_ret
    exact ⟨⟨_, rfl, OB.nil _ _⟩, Below.refl _ _⟩
  | some a =>
    have HO := Lib.hid (show OB (w.alloc (.cells #[] 5)) w.heap.size (.slice (some ⟨w.heap.size, 0, none⟩) 0 0) [] from World.ownsRow_lit (base := w.heap.size) (size := 1) w #[] 0 (Nat.le_refl _) (by unfold maxLen; omega) rfl)
    have HB := Lib.hid (below_alloc w (.cells #[] 5))
    have HS : w.heap.size < (w.alloc (.cells #[] 5)).heap.size := by rw [World.size_alloc]; omega
    obtain ⟨w1, hw1⟩ : ∃ w1, w1 = w.alloc (.cells #[] 5) := ⟨_, rfl⟩
    rw [← hw1] at HO HB HS
    have HW := Lib.hid hw1
    clear hw1 hnil
    have hq := fun (w : World) (a : Option Addr) (n c : Nat) => Lib.run_eql_slice_nil (P := Tryz.prog) w 22 5 a n c 0 0 (by kernel_rfl)
    go_enter Tryz.func95, Tryz.ntmps95
    go_wp2_with (first
      | ((with_reducible show wpList _ _ _ (⟨some 5, _, _, _, _, _⟩ :: _) _ _); go_must (refine wpList_val rfl run_litB0 ?_; rw [← HW.out]))
      | ((with_reducible show wpList _ _ _ (⟨some 7, _, _, _, _, _⟩ :: _) _ _); go_must (refine wpList_catB HO.out (HV.out.mono HB.out) rfl rfl (by simp; omega) (Nat.le_of_lt HS) ?_; intro v2 w2 hv2 _ hb2; have HV2 := Lib.hid hv2; have HB2 := Lib.hid (HB.out.trans hb2); clear hv2 hb2)))
    go_ret
    exact ⟨⟨_, rfl, by have := HV2.out; rwa [List.nil_append] at this⟩, HB2.out⟩
end Go.Proofs.YtimnbnomaajmmaaGreat
namespace Go.Proofs.YtimnbnomaajmmaaGreat
open Go.RowKit Go.Fd
theorem append_types {P : Program} {w : World} {t u ty e e' : TypeId} {b : Option Addr} {n c : Nat} {x : Value} (ht : P.underlying t = some (.slice e)) (hu : P.underlying u = some (.slice e')) : (Builtin.append_ #[t, u] ty #[.slice b n c, x]).run P w = (Builtin.append_ #[t, t] ty #[.slice b n c, x]).run P w := by
  simp [Builtin.append_, run_underlying ht, run_underlying hu]
theorem run_cat {P : Program} {w : World} {t ty e : TypeId} (T : SliceT P t e 1 1) {v u : Value} {base : Nat} {l m : List UInt8} (hown : w.ownsRow base e 1 v l.length (l.map B)) (hy : Bs w u m) (hn : l.length + m.length ≤ 140737488355328) (hb : base ≤ w.heap.size) :
    ∃ v' w', (Builtin.append_ #[t, t] ty #[v, u]).run P w = .ok v' w' ∧ w'.ownsRow base e 1 v' (l ++ m).length ((l ++ m).map B) ∧ w.grownBy w' v.ownBlock := by
  obtain ⟨i, z, h1', h2, h3, h4, h5⟩ := T.info
  obtain ⟨hl, au, cap, rfl, hcap, h00, hc⟩ := hy
  rcases au with _ | ad
  · have hm0 : m = [] := by
      cases m with
      | nil => rfl
      | cons c m => obtain ⟨b, off, h', _⟩ := hc 0 (by simp); cases h'
    subst hm0
    obtain rfl := h00 rfl
    refine ⟨v, w, run_append_owned_none (w := w) base t ty e i 1 T.ht h1' v l.length (l.map B) hown, ?_, World.grownBy.refl _ _⟩
    rw [List.append_nil]
    exact hown
  · obtain ⟨v', w', hrun, h6, h7, -⟩ := run_append_own (w := w) base t ty e i z 1 1 T.ht h1' h2 h3 h4 h5 T.pos v l.length (l.map B) hown ad m.length cap (m.map B) (by simp) (fun j y hj => by
      have hlt : j < (m.map B).length := (List.getElem?_eq_some_iff.1 hj).1
      obtain ⟨b, off, e1, e2⟩ := hc j hlt
      cases e1
      have e3 : (⟨b, off, none⟩ : Addr).add j = ⟨b, off + j, none⟩ := by unfold Addr.add; split <;> simp_all
      rw [e3, e2, hj]) (fun u hu => List.all_eq_true.1 (allB m) u hu) (maxLen_of (by omega)) (by omega) hb
    refine ⟨v', w', hrun, ?_, h7⟩
    rw [List.length_append, List.map_append]
    exact h6
theorem wpList_catU {ops : Array Oper} {rest : List Oper} {Q : Exit → Act → World → Prop} {a : Act} {w : World} {d : Option Tmp} {ty : TypeId} {pos : String} {aft : Array Edge} {s x : Operand} {v u : Value} {base : Nat} {l m : List UInt8} (hown : OB w base v l) (hy : Bs w u m)
    (hs : a.eval s = v) (hx : a.eval x = u) (hn : l.length + m.length ≤ 140737488355328) (hb : base ≤ w.heap.size)
    (h : ∀ v' w', OB w' base v' (l ++ m) → w.grownBy w' v.ownBlock → wpList Tryz.prog ops Q rest (a.put d v') w') :
    wpList Tryz.prog ops Q (⟨d, .call { callee := .builtin .append, args := #[s, x], argTypes := #[102, 22] }, ty, pos, aft, none⟩ :: rest) a w := by
  obtain ⟨v', w', hrun, h6, h7⟩ := run_cat (ty := ty) TF hown hy hn hb
  obtain ⟨m0, ad, cap, hm, rfl, _, _⟩ := hown.shape
  refine wpList_val (v := v') (w' := w') rfl ?_ (h v' w' h6 h7)
  have hr2 := (append_types (P := Tryz.prog) (w := w) (ty := ty) (b := ad) (n := m0) (c := cap) (x := u) TF.ht TB.ht).trans hrun
  simp [execOp, resolve, invoke, builtin, hs, hx, hr2, Result.andThen]
end Go.Proofs.YtimnbnomaajmmaaGreat
