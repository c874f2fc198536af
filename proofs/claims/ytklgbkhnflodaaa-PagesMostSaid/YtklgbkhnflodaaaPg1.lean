/-
  Memory of pages: how it is held, and its small functions.
-/
import Derived.Test.YtklgbkhnflodaaaByt
import Derived.Test.YtklgbkhnflodaaaMap
import Derived.Test.YtklgbkhnflodaaaTouch
namespace Go.Proofs.Ytklgbkhnflodaaa
open Go.RowKit Go.Fd

/-- A page: its number, the block that holds it, its rights, its bytes. -/
structure Ent where
  n : Nat
  blk : Nat
  r : Nat
  c : List UInt8

def pgCells (r : Nat) (c : List UInt8) : Array Value := (Value.int .i64 (r : Int) :: c.map B).toArray
abbrev K64 (n : Nat) : Value := .int .u64 (n : Int)
abbrev ptr (b : Nat) : Value := .pointer (some ⟨b, 0, none⟩)
def keyE (e : Ent) : Nat × Value := (e.n, ptr e.blk)

/-- The memory behind a pointer to block bp. -/
structure PagesIs (w : World) (base bp bm : Nat) (L : List Ent) : Prop where
  hp : w.heap[bp]? = some (.cells #[.bool true, .map (some bm)] 58)
  hm : MapIs Try.prog 22 K64 w bm (L.map keyE)
  bp : base ≤ bp
  bm : base ≤ bm
  pg : ∀ e ∈ L, w.heap[e.blk]? = some (.cells (pgCells e.r e.c) 66) ∧ e.c.length = 4096 ∧ base ≤ e.blk ∧ e.n < 18446744073709551616 ∧ e.r < 8
  nd : (L.map (·.blk)).Nodup

theorem TM : KeyT Try.prog 56 22 63 K64 := ⟨by kernel_rfl, Maps.int_keyed (q := .u64) (by kernel_rfl), fun a b h => by simp [K64] at h; omega⟩
theorem zeroP (w : World) : (zeroValue 63).run Try.prog w = .ok (.pointer none) w := by kernel_rfl
theorem key64 (n : Nat) (h : n < 18446744073709551616) : keyOf Try.prog 22 (K64 n) = some (.int .u64 n) := Maps.keyOf_int_mk (by kernel_rfl) (by simp [Lit.wf, IntKind.min, IntKind.max, IntKind.signed, IntKind.bits]; omega)

theorem block_cell {w : World} {b : Nat} {cs : Array Value} {T : TypeId} (h : w.heap[b]? = some (.cells cs T)) (i : Nat) : w.cell? ⟨b, i, none⟩ = cs[i]? := by simp [World.cell?, h]
theorem block_free {w : World} {b : Nat} {cs : Array Value} {T : TypeId} (h : w.heap[b]? = some (.cells cs T)) (i : Nat) : w.frozen? ⟨b, i, none⟩ = false := by simp [World.frozen?, h]
theorem block_set {w : World} {b : Nat} {cs : Array Value} {T : TypeId} (h : w.heap[b]? = some (.cells cs T)) (i : Nat) (v : Value) : (w.setCell ⟨b, i, none⟩ v).heap[b]? = some (.cells (cs.setIfInBounds i v) T) := by
  have hb := (Array.getElem?_eq_some_iff.1 h).1
  have h2 := (Array.getElem?_eq_some_iff.1 h).2
  simp [World.setCell, Array.getElem?_modify, h]
theorem block_set_other {w : World} {b b' : Nat} (hne : b' ≠ b) (i : Nat) (v : Value) : (w.setCell ⟨b, i, none⟩ v).heap[b']? = w.heap[b']? := by
  simp [World.setCell, Array.getElem?_modify, Ne.symm hne]

/-- The page of a number. -/
def findE (L : List Ent) (k : Nat) : Option Ent := L.find? (·.n == k)

theorem lookup_keyE (L : List Ent) (k : Nat) : (L.map keyE).lookup k = (findE L k).map fun e => ptr e.blk := by
  induction L with
  | nil => rfl
  | cons e L ih =>
    rw [List.map_cons, keyE, List.lookup_cons, findE, List.find?_cons]
    by_cases h : k = e.n
    · subst h; simp
    · rw [show (k == e.n) = false by simpa using h, show (e.n == k) = false by simpa using Ne.symm h]
      exact ih
theorem findE_mem {L : List Ent} {k : Nat} {e : Ent} (h : findE L k = some e) : e ∈ L ∧ e.n = k := ⟨List.mem_of_find?_eq_some h, by have := List.find?_some h; simpa using this⟩

def ptrOf : Option Ent → Value
  | some e => ptr e.blk
  | none => .pointer none

section
variable {w : World} {base bp bm : Nat} {L : List Ent}

/-- 'p.pages[k]'. -/
theorem PagesIs.look (h : PagesIs w base bp bm L) (k : Nat) (hk : k < 18446744073709551616) : (Instr.lookup 56 (.map (some bm)) (.int .u64 (k : Int)) false).run Try.prog w = .ok (ptrOf (findE L k)) w := by
  have := h.hm.look false TM (zeroP w) (x := k) (key64 k hk)
  rw [lookup_keyE] at this
  rw [show (Value.int .u64 (k : Int)) = K64 k from rfl, this]
  cases findE L k <;> rfl

theorem PagesIs.lookSome (h : PagesIs w base bp bm L) (a : Nat) (ha : a < 18446744073709551616) {e : Ent} (he : findE L (a / 4096) = some e) : (Instr.lookup 56 (.map (some bm)) (.int .u64 ((a : Int) / 4096)) false).run Try.prog w = .ok (.pointer (some ⟨e.blk, 0, none⟩)) w := by
  have := h.look (a / 4096) (by omega)
  rw [Int.natCast_ediv, he] at this
  exact this
theorem PagesIs.lookNone (h : PagesIs w base bp bm L) (a : Nat) (ha : a < 18446744073709551616) (he : findE L (a / 4096) = none) : (Instr.lookup 56 (.map (some bm)) (.int .u64 ((a : Int) / 4096)) false).run Try.prog w = .ok (.pointer none) w := by
  have := h.look (a / 4096) (by omega)
  rw [Int.natCast_ediv, he] at this
  exact this

theorem PagesIs.cells (h : PagesIs w base bp bm L) : w.cell? ⟨bp, 0, none⟩ = some (.bool true) ∧ w.cell? ⟨bp, 1, none⟩ = some (.map (some bm)) := ⟨by rw [block_cell h.hp]; rfl, by rw [block_cell h.hp]; rfl⟩

theorem PagesIs.page (h : PagesIs w base bp bm L) {e : Ent} (he : e ∈ L) : w.cell? ⟨e.blk, 0, none⟩ = some (.int .i64 e.r) ∧ ∀ i, i < 4096 → w.cell? ⟨e.blk, 1 + i, none⟩ = some (.int .u8 (e.c[i]?.getD 0).toNat) := by
  obtain ⟨h1, h2, _⟩ := h.pg e he
  refine ⟨by rw [block_cell h1]; rfl, fun i hi => ?_⟩
  rw [block_cell h1, pgCells, Nat.add_comm 1 i]
  simp [List.getElem?_eq_getElem (show i < e.c.length by omega)]

theorem PagesIs.mono {w' : World} (h : PagesIs w base bp bm L) (hb : Below w.heap.size w w') : PagesIs w' base bp bm L := by
  refine ⟨(hb.block _ (Array.getElem?_eq_some_iff.1 h.hp).1).trans h.hp, h.hm.mono hb, h.bp, h.bm, fun e he => ?_, h.nd⟩
  obtain ⟨h1, h2⟩ := h.pg e he
  exact ⟨(hb.block _ (Array.getElem?_eq_some_iff.1 h1).1).trans h1, h2⟩
end

theorem none_nil (w : World) : Calls Try.prog 21 #[.pointer none] w fun e w' => e = .returned (.bool true) ∧ w = w' := by
  go_enter Try.func21, Try.ntmps21
  go_wp2
  go_ret
  exact ⟨rfl, rfl⟩
theorem none_is {base bp bm : Nat} {L : List Ent} (w : World) (h : PagesIs w base bp bm L) : Calls Try.prog 21 #[ptr bp] w fun e w' => e = .returned (.bool false) ∧ w = w' := by
  obtain ⟨h0, h1⟩ := h.cells
  go_enter Try.func21, Try.ntmps21
  go_wp2
  go_ret
  exact ⟨rfl, rfl⟩
def bothB (r : Nat) : Bool := r &&& 3 == 3
theorem both_fin : ∀ r : Fin 8, (bits .and .i64 ((r : Nat) : Int) 3 == 3) = bothB r := by decide +kernel
theorem and_fin : ∀ r q : Fin 8, bits .and .i64 ((r : Nat) : Int) ((q : Nat) : Int) = (((r : Nat) &&& (q : Nat) : Nat) : Int) := by decide +kernel
theorem or_fin : ∀ r q : Fin 8, bits .or .i64 ((r : Nat) : Int) ((q : Nat) : Int) = (((r : Nat) ||| (q : Nat) : Nat) : Int) := by decide +kernel
theorem or_lt8 {r q : Nat} (hr : r < 8) (hq : q < 8) : r ||| q < 8 := Nat.or_lt_two_pow (n := 3) hr hq
theorem and_i8 {r q : Nat} (hr : r < 8) (hq : q < 8) : bits .and .i64 (r : Int) (q : Int) = ((r &&& q : Nat) : Int) := and_fin ⟨r, hr⟩ ⟨q, hq⟩
theorem or_i8 {r q : Nat} (hr : r < 8) (hq : q < 8) : bits .or .i64 (r : Int) (q : Int) = ((r ||| q : Nat) : Int) := or_fin ⟨r, hr⟩ ⟨q, hq⟩

theorem both_any (r : Nat) (w : World) (hr : r < 8) : Calls Try.prog 37 #[.int .i64 r] w fun e w' => e = .returned (.bool (bothB r)) ∧ w = w' := by
  have hb := both_fin ⟨r, hr⟩
  simp only at hb
  go_enter Try.func37, Try.ntmps37
  go_wp2
  go_ret
  exact ⟨rfl, rfl⟩
def szB (n : Int) : Bool := decide (n = 1 ∨ n = 2 ∨ n = 4 ∨ n = 8)
theorem sized_any (n : Int) (w : World) : Calls Try.prog 25 #[.int .i64 n] w fun e w' => e = .returned (.bool (szB n)) ∧ w = w' := by
  by_cases h : n = 1 ∨ n = 2 ∨ n = 4 ∨ n = 8
  · have HR := Lib.hid (show szB n = true from decide_eq_true h)
    rcases h with rfl | rfl | rfl | rfl
    all_goals
      go_enter Try.func25, Try.ntmps25
      go_wp2
      go_ret
      exact ⟨by rw [HR.out]; rfl, rfl⟩
  · have HR := Lib.hid (show szB n = false from decide_eq_false h)
    obtain ⟨h1, h2, h4, h8⟩ : (n == 1) = false ∧ (n == 2) = false ∧ (n == 4) = false ∧ (n == 8) = false := by simp; omega
    clear h
    go_enter Try.func25, Try.ntmps25
    go_wp2
    go_ret
    exact ⟨by rw [HR.out]; rfl, rfl⟩
theorem last_in (a n : Nat) (w : World) (hn : 1 ≤ n) (h : a + n ≤ 18446744073709551616) : Calls Try.prog 20 #[.int .u64 a, .int .u64 n] w fun e w' =>
    e = .returned (.tuple #[.int .u64 ((a + n - 1 : Nat) : Int), .bool true]) ∧ w = w' := by
  have H1 := Lib.hid (show IntKind.u64.wrap (IntKind.u64.wrap ((a : Int) + n) - 1) = ((a + n - 1 : Nat) : Int) by simp only [IntKind.wrap_u64]; omega)
  have H2 := Lib.hid (show decide ((a : Int) ≤ ((a + n - 1 : Nat) : Int)) = true by simp; omega)
  go_enter Try.func20, Try.ntmps20
  go_wp2
  go_ret2
  refine ⟨?_, rfl⟩
  show Ending.returned (.tuple #[.int .u64 (IntKind.u64.wrap (IntKind.u64.wrap ((a : Int) + n) - 1)), .bool (decide ((a : Int) ≤ IntKind.u64.wrap (IntKind.u64.wrap ((a : Int) + n) - 1)))]) = _
  rw [H1.out, H2.out]
/-- The stretch passes the end of all addresses, or is empty at their beginning. -/
theorem last_out (a n : Nat) (w : World) (ha : a < 18446744073709551616) (hn : n < 18446744073709551616) (hn1 : 1 ≤ n) (h : 18446744073709551616 < a + n) : Calls Try.prog 20 #[.int .u64 a, .int .u64 n] w fun e w' =>
    (∃ x : Int, e = .returned (.tuple #[.int .u64 x, .bool false])) ∧ w = w' := by
  have H2 := Lib.hid (show decide ((a : Int) ≤ IntKind.u64.wrap (IntKind.u64.wrap ((a : Int) + n) - 1)) = false by simp only [IntKind.wrap_u64]; simp; omega)
  go_enter Try.func20, Try.ntmps20
  go_wp2
  go_ret2
  refine ⟨⟨IntKind.u64.wrap (IntKind.u64.wrap ((a : Int) + n) - 1), ?_⟩, rfl⟩
  show Ending.returned (.tuple #[.int .u64 (IntKind.u64.wrap (IntKind.u64.wrap ((a : Int) + n) - 1)), .bool (decide ((a : Int) ≤ IntKind.u64.wrap (IntKind.u64.wrap ((a : Int) + n) - 1)))]) = _
  rw [H2.out]
theorem last_zero (a : Nat) (w : World) (ha : a < 18446744073709551616) : Calls Try.prog 20 #[.int .u64 a, .int .u64 0] w fun e w' =>
    (∃ x b, e = .returned (.tuple #[.int .u64 x, .bool b])) ∧ w = w' := by
  go_enter Try.func20, Try.ntmps20
  go_wp2
  go_ret2
  exact ⟨⟨_, _, rfl⟩, rfl⟩
theorem get_is {base bp bm : Nat} {L : List Ent} (w : World) (h : PagesIs w base bp bm L) (a : Nat) (ha : a < 18446744073709551616) (e0 : Ent) (he : findE L (a / 4096) = some e0) :
    Calls Try.prog 26 #[ptr bp, .int .u64 a] w fun e w' => e = .returned (.int .u8 (e0.c[a % 4096]?.getD 0).toNat) ∧ w = w' := by
  obtain ⟨h0, h1⟩ := h.cells
  have hl := h.lookSome a ha he
  obtain ⟨hm, _⟩ := findE_mem he
  obtain ⟨_, hc⟩ := h.page hm
  have hcell := hc (a % 4096) (by omega)
  go_enter Try.func26, Try.ntmps26
  go_wp2
  go_ret
  exact ⟨rfl, rfl⟩
end Go.Proofs.Ytklgbkhnflodaaa
