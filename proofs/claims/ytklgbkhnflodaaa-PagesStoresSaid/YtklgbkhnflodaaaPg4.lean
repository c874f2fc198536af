/-
  Memory of pages: pages are mapped.
-/
import Derived.Test.YtklgbkhnflodaaaPg3
namespace Go.Proofs.Ytklgbkhnflodaaa
open Go.RowKit Go.Fd

def zs : List UInt8 := List.replicate 4096 0
theorem zs_len : zs.length = 4096 := List.length_replicate

theorem build_page (w : World) : (Instr.build 66 #[]).run Try.prog w = .ok (.agg (pgCells 0 zs)) w := by kernel_rfl
theorem box_page (r : Nat) (c : List UInt8) (w : World) : (Instr.box 66 (.agg (pgCells r c))).run Try.prog w = .ok (.pointer (some ⟨w.heap.size, 0, none⟩)) (w.alloc (.cells (pgCells r c) 66)) := by
  rfl

/-- What is told of pages: number, rights, bytes. -/
def vw (L : List Ent) : List (Nat × Nat × List UInt8) := L.map fun e => (e.n, e.r, e.c)
/-- One page gets rights. -/
def addP (V : List (Nat × Nat × List UInt8)) (k r : Nat) : List (Nat × Nat × List UInt8) :=
  if k ∈ V.map (·.1) then V.map (fun x => if x.1 = k then (x.1, x.2.1 ||| r, x.2.2) else x) else V ++ [(k, r, zs)]
/-- So many pages from k on get rights. -/
def mapV (r : Nat) : List (Nat × Nat × List UInt8) → Nat → Nat → List (Nat × Nat × List UInt8)
  | V, _, 0 => V
  | V, k, n + 1 => mapV r (addP V k r) (k + 1) n

theorem vw_key (L : List Ent) : (vw L).map (·.1) = L.map (·.n) := by simp [vw, List.map_map, Function.comp_def]

theorem findE_none {L : List Ent} {k : Nat} (h : findE L k = none) : k ∉ L.map (·.n) := by
  intro hm
  obtain ⟨e, he, rfl⟩ := List.mem_map.1 hm
  have := List.find?_eq_none.1 h e he
  simp at this

theorem vw_set {L : List Ent} {e0 : Ent} (hn : (L.map (·.n)).Nodup) (he : e0 ∈ L) (r : Nat) : vw (setE L e0.n (e0.r ||| r) e0.c) = addP (vw L) e0.n r := by
  rw [addP, if_pos (by rw [vw_key]; exact List.mem_map.2 ⟨e0, he, rfl⟩)]
  unfold vw setE
  rw [List.map_map, List.map_map]
  refine List.map_congr_left fun e hm => ?_
  simp only [Function.comp_apply]
  by_cases h : e.n = e0.n
  · obtain rfl := nodup_inj hn hm he h
    simp
  · simp [h]
theorem vw_new {L : List Ent} {k b r : Nat} (hk : k ∉ L.map (·.n)) : vw (setE (L ++ [⟨k, b, 0, zs⟩]) k r zs) = addP (vw L) k r := by
  rw [addP, if_neg (by rw [vw_key]; exact hk)]
  unfold vw setE
  rw [List.map_append, List.map_append]
  congr 1
  · rw [List.map_map]
    refine List.map_congr_left fun e hm => ?_
    have : e.n ≠ k := fun h => hk (List.mem_map.2 ⟨e, hm, h⟩)
    simp [this]
  · simp

theorem foot_set (bp bm : Nat) (L : List Ent) (n r : Nat) (c : List UInt8) (k : Nat) : foot bp bm (setE L n r c) k ↔ foot bp bm L k := by unfold foot; rw [setE_blk]
theorem len_set (L : List Ent) (n r : Nat) (c : List UInt8) : (setE L n r c).length = L.length := List.length_map _

/-- A new page is put into the map. -/
theorem PagesIs.new {w w1 w2 : World} {base bp bm : Nat} {L : List Ent} (h : PagesIs w base bp bm L) (hw1 : w1 = w.alloc (.cells (pgCells 0 zs) 66)) (hbase : base ≤ w.heap.size) {k : Nat} (hk : k < 18446744073709551616) (hn : k ∉ L.map (·.n))
    (hm : MapIs Try.prog 22 K64 w2 bm (putE (L.map keyE) k (ptr w.heap.size))) (hg : w1.grownBy w2 (some bm)) : PagesIs w2 base bp bm (L ++ [⟨k, w.heap.size, 0, zs⟩]) := by
  subst hw1
  have hne : bp ≠ bm := by
    intro e
    obtain ⟨es, clock, h2, _⟩ := h.hm
    have := h.hp
    rw [e, h2] at this
    cases this
  have hlt : ∀ {b : Nat} {o : Obj}, w.heap[b]? = some o → b ≠ bm → w2.heap[b]? = some o := by
    intro b o hb hbm
    have hl := (Array.getElem?_eq_some_iff.1 hb).1
    rw [hg.block b (by simp; omega) (by simpa using hbm), Below.heap_alloc _ _ _ hl]
    exact hb
  refine ⟨hlt h.hp hne, ?_, h.bp, h.bm, fun e he => ?_, ?_⟩
  · have : putE (L.map keyE) k (ptr w.heap.size) = (L ++ [(⟨k, w.heap.size, 0, zs⟩ : Ent)]).map keyE := by
      rw [putE, if_neg (by rw [List.map_map]; exact hn), List.map_append]
      rfl
    rw [← this]
    exact hm
  · rcases List.mem_append.1 he with he | he
    · obtain ⟨h1, h2⟩ := h.pg e he
      exact ⟨hlt h1 (h.ne he).2, h2⟩
    · obtain rfl := List.mem_singleton.1 he
      refine ⟨?_, zs_len, hbase, hk, (by decide : (0 : Nat) < 8)⟩
      rw [hg.block _ (by simp) (by have := h.hm.lt; simp; omega)]
      exact heap_alloc_new w _
  · rw [List.map_append]
    refine List.nodup_append.2 ⟨h.nd, by simp, fun x hx y hy => ?_⟩
    simp at hy
    subst hy
    obtain ⟨e, he, rfl⟩ := List.mem_map.1 hx
    have := (Array.getElem?_eq_some_iff.1 (h.pg e he).1).1
    omega

set_option maxRecDepth 100000 in
theorem map_arg (v : Value) (w : World) (a n : Nat) (r : Int) (ha : a < 18446744073709551616) (hn : n < 18446744073709551616) (h : r < 1 ∨ 7 < r ∨ n = 0 ∨ 18446744073709551616 < a + n) :
    Calls Try.prog 10 #[v, .int .u64 a, .int .u64 n, .int .i64 r] w fun e w' => e = .returned (.int .i64 1) ∧ w = w' := by
  by_cases hn0 : n = 0
  · subst hn0
    clear h
    have hz : (((0 : Nat) : Int) == 0) = true := rfl
    by_cases h1 : r < 1
    · go_enter Try.func10, Try.ntmps10
      go_wp2_with (go_at_call 20; go_must (refine (last_zero a _ ha).mono ?_; rintro e w1 ⟨⟨x, b, rfl⟩, rfl⟩; cases b))
      all_goals (go_ret; exact ⟨rfl, rfl⟩)
    · by_cases h2 : 7 < r
      all_goals
        go_enter Try.func10, Try.ntmps10
        go_wp2_with (go_at_call 20; go_must (refine (last_zero a _ ha).mono ?_; rintro e w1 ⟨⟨x, b, rfl⟩, rfl⟩; cases b))
        all_goals (go_ret; exact ⟨rfl, rfl⟩)
  · have hz : (((n : Nat) : Int) == 0) = false := by simp; omega
    by_cases ho : 18446744073709551616 < a + n
    · by_cases h1 : r < 1
      · go_enter Try.func10, Try.ntmps10
        go_wp2_with (go_at_call 20; go_must (refine (last_out a n _ ha hn (by omega) ho).mono ?_; rintro e w1 ⟨⟨x, rfl⟩, rfl⟩))
        all_goals (go_ret; exact ⟨rfl, rfl⟩)
      · by_cases h2 : 7 < r
        all_goals
          go_enter Try.func10, Try.ntmps10
          go_wp2_with (go_at_call 20; go_must (refine (last_out a n _ ha hn (by omega) ho).mono ?_; rintro e w1 ⟨⟨x, rfl⟩, rfl⟩))
          all_goals (go_ret; exact ⟨rfl, rfl⟩)
    · by_cases h1 : r < 1
      · go_enter Try.func10, Try.ntmps10
        go_wp2_with (go_at_call 20; go_must (refine (last_in a n _ (by omega) (by omega)).mono ?_; rintro e w1 ⟨rfl, rfl⟩))
        all_goals (go_ret; exact ⟨rfl, rfl⟩)
      · have h2 : 7 < r := by omega
        go_enter Try.func10, Try.ntmps10
        go_wp2_with (go_at_call 20; go_must (refine (last_in a n _ (by omega) (by omega)).mono ?_; rintro e w1 ⟨rfl, rfl⟩))
        all_goals (go_ret; exact ⟨rfl, rfl⟩)

theorem map_nil (w : World) (a n r : Nat) (h : 1 ≤ r) (h7 : r ≤ 7) (hn : 1 ≤ n) (ho : a + n ≤ 18446744073709551616) :
    Calls Try.prog 10 #[.pointer none, .int .u64 a, .int .u64 n, .int .i64 r] w fun e w' => e = .returned (.int .i64 21) ∧ w = w' := by
  have hz : (((n : Nat) : Int) == 0) = false := by simp; omega
  go_enter Try.func10, Try.ntmps10
  go_wp2_with (first
    | (go_at_call 20; go_must (refine (last_in a n _ (by omega) (by omega)).mono ?_; rintro e w1 ⟨rfl, rfl⟩))
    | (go_at_call 21; go_must (refine (none_nil _).mono ?_; rintro e w1 ⟨rfl, rfl⟩)))
  go_ret
  exact ⟨rfl, rfl⟩
set_option maxRecDepth 100000 in
theorem map_clash {base bp bm : Nat} {L : List Ent} (w : World) (hp : PagesIs w base bp bm L) (a n r : Nat) (h : 1 ≤ r) (h7 : r ≤ 7) (hn : 1 ≤ n) (ho : a + n ≤ 18446744073709551616) (hc : clashB L (a / 4096) ((a + n - 1) / 4096) r = true) :
    Calls Try.prog 10 #[ptr bp, .int .u64 a, .int .u64 n, .int .i64 r] w fun e w' => e = .returned (.int .i64 21) ∧ Below w.heap.size w w' := by
  have hz : (((n : Nat) : Int) == 0) = false := by simp; omega
  have HT := Lib.hid (there_is w hp (a / 4096) ((a + n - 1) / 4096) r (by omega) (by omega) (by omega))
  rw [hc, Int.natCast_ediv, Int.natCast_ediv] at HT
  clear hc
  go_enter Try.func10, Try.ntmps10
  go_wp2_with (first
    | (go_at_call 20; go_must (refine (last_in a n _ (by omega) (by omega)).mono ?_; rintro e w1 ⟨rfl, rfl⟩))
    | (go_at_call 21; go_must (refine (none_is _ hp).mono ?_; rintro e w1 ⟨rfl, rfl⟩))
    | (go_at_call 22; go_must (refine HT.out.mono ?_; rintro e w1 ⟨rfl, hb1⟩)))
  go_ret
  exact ⟨rfl, hb1⟩

/-- Would there be too many? -/
def longB (L : List Ent) (f l : Nat) : Bool := decide (4096 ≤ l - f) || decide (4096 < L.length - thereN L f l + (l - f + 1))

theorem thereN_le (L : List Ent) (f l : Nat) : thereN L f l ≤ L.length := List.countP_le_length

set_option maxRecDepth 100000 in
theorem map_long {base bp bm : Nat} {L : List Ent} (w : World) (hp : PagesIs w base bp bm L) (hL : L.length ≤ 1000000) (a n r : Nat) (h : 1 ≤ r) (h7 : r ≤ 7) (hn : 1 ≤ n) (ho : a + n ≤ 18446744073709551616)
    (hc : clashB L (a / 4096) ((a + n - 1) / 4096) r = false) (hg : longB L (a / 4096) ((a + n - 1) / 4096) = true) :
    Calls Try.prog 10 #[ptr bp, .int .u64 a, .int .u64 n, .int .i64 r] w fun e w' => e = .returned (.int .i64 6) ∧ Below w.heap.size w w' := by
  have hz : (((n : Nat) : Int) == 0) = false := by simp; omega
  have HT := Lib.hid (there_is w hp (a / 4096) ((a + n - 1) / 4096) r (by omega) (by omega) (by omega))
  rw [hc, Int.natCast_ediv, Int.natCast_ediv] at HT
  have hle := thereN_le L (a / 4096) ((a + n - 1) / 4096)
  have hg' : 4096 ≤ (a + n - 1) / 4096 - a / 4096 ∨ (a + n - 1) / 4096 - a / 4096 < 4096 ∧ 4096 < L.length - thereN L (a / 4096) ((a + n - 1) / 4096) + ((a + n - 1) / 4096 - a / 4096 + 1) := by
    unfold longB at hg; simp at hg; omega
  have hfl : a / 4096 ≤ (a + n - 1) / 4096 := Nat.div_le_div_right (by omega)
  clear hc hg
  generalize thereN L (a / 4096) ((a + n - 1) / 4096) = q at *
  have HP := Lib.hid hp
  clear hp
  rcases hg' with hg | ⟨hg1, hg2⟩
  · go_enter Try.func10, Try.ntmps10
    go_wp2_with (first
      | (go_at_call 20; go_must (refine (last_in a n _ (by omega) (by omega)).mono ?_; rintro e w1 ⟨rfl, rfl⟩))
      | (go_at_call 21; go_must (refine (none_is _ HP.out).mono ?_; rintro e w1 ⟨rfl, rfl⟩))
      | (go_at_call 22; go_must (refine HT.out.mono ?_; rintro e w1 ⟨rfl, hb1⟩)))
    go_ret
    exact ⟨rfl, hb1⟩
  · go_enter Try.func10, Try.ntmps10
    go_wp2_with (first
      | (go_at_call 20; go_must (refine (last_in a n _ (by omega) (by omega)).mono ?_; rintro e w1 ⟨rfl, rfl⟩))
      | (go_at_call 21; go_must (refine (none_is _ HP.out).mono ?_; rintro e w1 ⟨rfl, rfl⟩))
      | (go_at_call 22; go_must (refine HT.out.mono ?_; rintro e w1 ⟨rfl, hb1⟩; obtain ⟨c0, c1⟩ := (HP.out.mono hb1).cells; have hlen := (HP.out.mono hb1).hm.len (t := 56) (e := 63) TM.ht 3; rw [List.length_map] at hlen)))
    go_ret
    exact ⟨rfl, hb1⟩
end Go.Proofs.Ytklgbkhnflodaaa
