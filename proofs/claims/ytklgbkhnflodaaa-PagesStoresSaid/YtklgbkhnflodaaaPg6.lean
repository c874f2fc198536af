/-
  Memory of pages, told by what it holds: mapping, rights, how many.
-/
import Derived.Test.YtklgbkhnflodaaaPg5
namespace Go.Proofs.Ytklgbkhnflodaaa
open Go.RowKit Go.Fd

/-- Pages as they are told: number, rights, bytes. -/
abbrev Vw := List (Nat × Nat × List UInt8)

def findV (V : Vw) (k : Nat) : Option (Nat × Nat × List UInt8) := V.find? (·.1 == k)
theorem findV_vw (L : List Ent) (k : Nat) : findV (vw L) k = (findE L k).map fun e => (e.n, e.r, e.c) := by
  unfold findV findE vw
  rw [List.find?_map]
  rfl

/-- The memory at block bp, in blocks F, all from base on. -/
def Mem (w : World) (base bp : Nat) (F : Nat → Prop) (V : Vw) : Prop := ∃ bm L, PagesIs w base bp bm L ∧ vw L = V ∧ (∀ k, foot bp bm L k → F k)

/-- What a call may add to the blocks. -/
def more (F : Nat → Prop) (w : World) (k : Nat) : Prop := F k ∨ w.heap.size ≤ k

theorem Mem.stirs {w w' : World} {base bp : Nat} {F S : Nat → Prop} {V : Vw} (h : Mem w base bp F V) (ht : Stirs S w w') (hs : ∀ k, F k → ¬ S k) : Mem w' base bp F V := by
  obtain ⟨bm, L, h1, h2, h3⟩ := h
  exact ⟨bm, L, h1.stirs ht fun k hk => hs k (h3 k hk), h2, h3⟩
theorem Mem.mono {w w' : World} {base bp : Nat} {F : Nat → Prop} {V : Vw} (h : Mem w base bp F V) (hb : Below w.heap.size w w') : Mem w' base bp F V := by
  obtain ⟨bm, L, h1, h2, h3⟩ := h
  exact ⟨bm, L, h1.mono hb, h2, h3⟩
theorem Mem.weak {w : World} {base bp : Nat} {F F' : Nat → Prop} {V : Vw} (h : Mem w base bp F V) (hf : ∀ k, F k → F' k) : Mem w base bp F' V := by
  obtain ⟨bm, L, h1, h2, h3⟩ := h
  exact ⟨bm, L, h1, h2, fun k hk => hf k (h3 k hk)⟩

theorem foot_base {w : World} {base bp bm : Nat} {L : List Ent} (h : PagesIs w base bp bm L) (k : Nat) (hk : foot bp bm L k) : base ≤ k ∧ k < w.heap.size := by
  rcases hk with rfl | rfl | hk
  · exact ⟨h.bp, (Array.getElem?_eq_some_iff.1 h.hp).1⟩
  · exact ⟨h.bm, h.hm.lt⟩
  · obtain ⟨e, he, rfl⟩ := List.mem_map.1 hk
    exact ⟨(h.pg e he).2.2.1, (Array.getElem?_eq_some_iff.1 (h.pg e he).1).1⟩

/-- Well formed: what every memory's telling is. -/
structure OkV (V : Vw) : Prop where
  nd : (V.map (·.1)).Nodup
  pg : ∀ x ∈ V, x.1 < 18446744073709551616 ∧ x.2.1 < 8 ∧ x.2.2.length = 4096
theorem Mem.ok {w : World} {base bp : Nat} {F : Nat → Prop} {V : Vw} (h : Mem w base bp F V) : OkV V := by
  obtain ⟨bm, L, h1, rfl, h3⟩ := h
  refine ⟨by rw [vw_key]; exact h1.nodup, fun x hx => ?_⟩
  obtain ⟨e, he, rfl⟩ := List.mem_map.1 hx
  obtain ⟨_, g1, _, g2, g3⟩ := h1.pg e he
  exact ⟨g2, g3, g1⟩

def inV (f l : Nat) (x : Nat × Nat × List UInt8) : Bool := decide (f ≤ x.1) && decide (x.1 ≤ l)
def thereV (V : Vw) (f l : Nat) : Nat := V.countP (inV f l)
def clashV (V : Vw) (f l r : Nat) : Bool := bothB r || V.any fun x => inV f l x && bothB (x.2.1 ||| r)
def longV (V : Vw) (f l : Nat) : Bool := decide (4096 ≤ l - f) || decide (4096 < V.length - thereV V f l + (l - f + 1))
theorem there_vw (L : List Ent) (f l : Nat) : thereN L f l = thereV (vw L) f l := by
  unfold thereN thereV vw
  rw [List.countP_map]
  rfl
theorem clash_vw (L : List Ent) (f l r : Nat) : clashB L f l r = clashV (vw L) f l r := by
  unfold clashB clashV vw
  rw [List.any_map]
  rfl
theorem long_vw (L : List Ent) (f l : Nat) : longB L f l = longV (vw L) f l := by
  unfold longB longV
  rw [there_vw, show (vw L).length = L.length from List.length_map _]

/-- Map: what there is behind it, and its error. -/
def mapR (V : Vw) (a n : Nat) (r : Int) : Vw × Int :=
  if r < 1 ∨ 7 < r ∨ n = 0 ∨ 18446744073709551616 < a + n then (V, 1)
  else if clashV V (a / 4096) ((a + n - 1) / 4096) r.toNat = true then (V, 21)
  else if longV V (a / 4096) ((a + n - 1) / 4096) = true then (V, 6)
  else (mapV r.toNat V (a / 4096) ((a + n - 1) / 4096 + 1 - a / 4096), 0)

theorem map_mem {base bp : Nat} {F : Nat → Prop} {V : Vw} (w : World) (h : Mem w base bp F V) (hbase : base ≤ w.heap.size) (hL : V.length ≤ 1000000) (a n : Nat) (r : Int) (ha : a < 18446744073709551616) (hn : n < 18446744073709551616) :
    Calls Try.prog 10 #[ptr bp, .int .u64 a, .int .u64 n, .int .i64 r] w fun e w' => e = .returned (.int .i64 (mapR V a n r).2) ∧ Mem w' base bp (more F w) (mapR V a n r).1 ∧ Stirs F w w' := by
  have h0 := h
  obtain ⟨bm, L, h1, hV, h3⟩ := h
  have hlen : V.length = L.length := by rw [← hV]; exact List.length_map _
  by_cases c1 : r < 1 ∨ 7 < r ∨ n = 0 ∨ 18446744073709551616 < a + n
  · have hr : mapR V a n r = (V, 1) := by unfold mapR; rw [if_pos c1]
    rw [hr]
    exact (map_arg (ptr bp) w a n r ha hn c1).mono fun e w' ⟨he, hw⟩ => ⟨he, hw ▸ h0.weak fun k hk => .inl hk, hw ▸ Stirs.refl _ _⟩
  obtain ⟨r, rfl⟩ := Int.eq_ofNat_of_zero_le (by omega : 0 ≤ r)
  by_cases c2 : clashV V (a / 4096) ((a + n - 1) / 4096) r = true
  · have hr : mapR V a n r = (V, 21) := by unfold mapR; rw [if_neg c1, Int.toNat_natCast, if_pos c2]
    rw [hr]
    exact (map_clash w h1 a n r (by omega) (by omega) (by omega) (by omega) (by rw [clash_vw, hV]; exact c2)).mono fun e w' ⟨he, hb⟩ => ⟨he, (h0.mono hb).weak fun k hk => .inl hk, Stirs.of_below hb⟩
  have c2' : clashB L (a / 4096) ((a + n - 1) / 4096) r = false := by rw [clash_vw, hV]; simpa using c2
  by_cases c3 : longV V (a / 4096) ((a + n - 1) / 4096) = true
  · have hr : mapR V a n r = (V, 6) := by unfold mapR; rw [if_neg c1, Int.toNat_natCast, if_neg c2, if_pos c3]
    rw [hr]
    exact (map_long w h1 (by omega) a n r (by omega) (by omega) (by omega) (by omega) c2' (by rw [long_vw, hV]; exact c3)).mono fun e w' ⟨he, hb⟩ => ⟨he, (h0.mono hb).weak fun k hk => .inl hk, Stirs.of_below hb⟩
  have hr : mapR V a n r = (mapV r V (a / 4096) ((a + n - 1) / 4096 + 1 - a / 4096), 0) := by unfold mapR; rw [if_neg c1, Int.toNat_natCast, if_neg c2, if_neg c3]
  rw [hr]
  refine (map_ok w h1 hbase (by omega) a n r (by omega) (by omega) (by omega) (by omega) c2' (by rw [long_vw, hV]; simpa using c3)).mono ?_
  rintro e w' ⟨he, L', hv, hm⟩
  refine ⟨he, ⟨bm, L', hm.is, by rw [hv, hV], fun k hk => ?_⟩, hm.st.sub fun k _ hk => h3 k hk⟩
  rcases hm.ft k hk with h | h
  · exact .inl (h3 k h)
  · exact .inr h

def rightsV (V : Vw) (k : Nat) : Nat := match findV V k with
  | some x => x.2.1
  | none => 0
theorem rights_mem {base bp : Nat} {F : Nat → Prop} {V : Vw} (w : World) (h : Mem w base bp F V) (a : Nat) (ha : a < 18446744073709551616) :
    Calls Try.prog 12 #[ptr bp, .int .u64 a] w fun e w' => e = .returned (.int .i64 (rightsV V (a / 4096))) ∧ w = w' := by
  obtain ⟨bm, L, h1, rfl, h3⟩ := h
  have : rightsV (vw L) (a / 4096) = rightsE (findE L (a / 4096)) := by
    unfold rightsV
    rw [findV_vw]
    cases findE L (a / 4096) <;> rfl
  rw [this]
  exact rights_is w h1 a ha
theorem count_mem {base bp : Nat} {F : Nat → Prop} {V : Vw} (w : World) (h : Mem w base bp F V) : Calls Try.prog 11 #[ptr bp] w fun e w' => e = .returned (.int .i64 V.length) ∧ w = w' := by
  obtain ⟨bm, L, h1, rfl, h3⟩ := h
  rw [show (vw L).length = L.length from List.length_map _]
  exact count_is w h1
theorem new_mem (w : World) : Calls Try.prog 9 #[] w fun e w' => ∃ bp, e = .returned (ptr bp) ∧ Mem w' w.heap.size bp (fun k => w.heap.size ≤ k) [] ∧ Below w.heap.size w w' := by
  refine (new_any w).mono ?_
  rintro e w' ⟨bp, bm, he, hp, hb⟩
  exact ⟨bp, he, ⟨bm, [], hp, rfl, fun k hk => (foot_base hp k hk).1⟩, hb⟩
end Go.Proofs.Ytklgbkhnflodaaa
