/-
  Memory of pages: what reads and writes one page.
-/
import Derived.Test.YtklgbkhnflodaaaPg1
namespace Go.Proofs.Ytklgbkhnflodaaa
open Go.RowKit Go.Fd

/-- The page of number n made another one. -/
def setE (L : List Ent) (n r : Nat) (c : List UInt8) : List Ent := L.map fun e => if e.n = n then { e with r := r, c := c } else e

theorem setE_key (L : List Ent) (n r : Nat) (c : List UInt8) : (setE L n r c).map keyE = L.map keyE := by
  unfold setE
  rw [List.map_map]
  refine List.map_congr_left fun e _ => ?_
  simp only [Function.comp_apply]
  split <;> rfl
theorem setE_blk (L : List Ent) (n r : Nat) (c : List UInt8) : (setE L n r c).map (·.blk) = L.map (·.blk) := by
  unfold setE
  rw [List.map_map]
  refine List.map_congr_left fun e _ => ?_
  simp only [Function.comp_apply]
  split <;> rfl

/-- The blocks that hold a memory. -/
def foot (bp bm : Nat) (L : List Ent) (k : Nat) : Prop := k = bp ∨ k = bm ∨ k ∈ L.map (·.blk)

theorem nodup_inj {α β : Type} {f : α → β} {l : List α} (h : (l.map f).Nodup) {a b : α} (ha : a ∈ l) (hb : b ∈ l) (e : f a = f b) : a = b := by
  induction l with
  | nil => cases ha
  | cons x l ih =>
    simp only [List.map_cons, List.nodup_cons] at h
    rcases List.mem_cons.1 ha with e1 | ha
    · subst e1
      rcases List.mem_cons.1 hb with e2 | hb
      · exact e2.symm
      · exact absurd (List.mem_map.2 ⟨b, hb, e.symm⟩) h.1
    · rcases List.mem_cons.1 hb with e1 | hb
      · rw [e1] at e; exact absurd (List.mem_map.2 ⟨a, ha, e⟩) h.1
      · exact ih h.2 ha hb

section
variable {w : World} {base bp bm : Nat} {L : List Ent}

theorem PagesIs.nodup (h : PagesIs w base bp bm L) : (L.map (·.n)).Nodup := by
  have := h.hm.nodup
  rwa [List.map_map] at this

theorem PagesIs.ne (h : PagesIs w base bp bm L) {e : Ent} (he : e ∈ L) : e.blk ≠ bp ∧ e.blk ≠ bm := by
  obtain ⟨h1, _⟩ := h.pg e he
  constructor
  · intro e1
    rw [e1, h.hp] at h1
    simp at h1
  · intro e1
    obtain ⟨es, clock, h2, _⟩ := h.hm
    rw [e1, h2] at h1
    cases h1

theorem PagesIs.stirs {w' : World} {S : Nat → Prop} (h : PagesIs w base bp bm L) (ht : Stirs S w w') (hs : ∀ k, foot bp bm L k → ¬ S k) : PagesIs w' base bp bm L := by
  refine ⟨ht.kept h.hp (hs _ (.inl rfl)), h.hm.block (ht.block _ h.hm.lt (hs _ (.inr (.inl rfl)))), h.bp, h.bm, fun e he => ?_, h.nd⟩
  obtain ⟨h1, h2⟩ := h.pg e he
  exact ⟨ht.kept h1 (hs _ (.inr (.inr (List.mem_map.2 ⟨e, he, rfl⟩)))), h2⟩

/-- One page is written. -/
theorem PagesIs.upd {w' : World} (h : PagesIs w base bp bm L) {e0 : Ent} (he : e0 ∈ L) (ht : Stirs (· = e0.blk) w w') {r : Nat} {c : List UInt8} (hr : r < 8) (hc : c.length = 4096)
    (hb : w'.heap[e0.blk]? = some (.cells (pgCells r c) 66)) : PagesIs w' base bp bm (setE L e0.n r c) := by
  obtain ⟨n1, n2⟩ := h.ne he
  refine ⟨ht.kept h.hp (Ne.symm n1), ?_, h.bp, h.bm, fun e hm => ?_, by rw [setE_blk]; exact h.nd⟩
  · rw [setE_key]
    exact h.hm.block (ht.block _ h.hm.lt (Ne.symm n2))
  · obtain ⟨x, hx, rfl⟩ := List.mem_map.1 hm
    obtain ⟨h1, h2, h3, h4, h5⟩ := h.pg x hx
    by_cases hn : x.n = e0.n
    · obtain rfl := nodup_inj h.nodup hx he hn
      rw [if_pos rfl]
      exact ⟨hb, hc, h3, h4, hr⟩
    · rw [if_neg hn]
      refine ⟨ht.kept h1 fun e1 => hn ?_, h2, h3, h4, h5⟩
      rw [nodup_inj h.nd hx he e1]
end

theorem pgCells_set (r : Nat) (c : List UInt8) (i : Nat) (x : UInt8) : (pgCells r c).setIfInBounds (1 + i) (.int .u8 x.toNat) = pgCells r (c.set i x) := by
  unfold pgCells
  rw [Nat.add_comm 1 i]
  simp
theorem pgCells_rights (r r' : Nat) (c : List UInt8) : (pgCells r c).setIfInBounds 0 (.int .i64 r') = pgCells r' c := by
  unfold pgCells
  simp

theorem put_is {base bp bm : Nat} {L : List Ent} (w : World) (h : PagesIs w base bp bm L) (a : Nat) (ha : a < 18446744073709551616) (x : UInt8) (e0 : Ent) (he : findE L (a / 4096) = some e0) :
    Calls Try.prog 24 #[ptr bp, .int .u64 a, .int .u8 x.toNat] w fun e w' => e = .returned (.tuple #[]) ∧ PagesIs w' base bp bm (setE L e0.n e0.r (e0.c.set (a % 4096) x)) ∧ Stirs (· = e0.blk) w w' ∧ w'.heap.size = w.heap.size := by
  obtain ⟨h0, h1⟩ := h.cells
  have hl := h.lookSome a ha he
  obtain ⟨hm, _⟩ := findE_mem he
  obtain ⟨hb, hlen, _, _, hr⟩ := h.pg e0 hm
  have hcell := (h.page hm).2 (a % 4096) (by omega)
  have hfree := block_free hb (1 + a % 4096)
  have HB := Lib.hid hb
  have HLEN := Lib.hid hlen
  clear hb hlen
  go_enter Try.func24, Try.ntmps24
  go_wp2
  go_end0
  have ht : Stirs (· = e0.blk) w (w.setCell ⟨e0.blk, 1 + a % 4096, none⟩ (.int .u8 x.toNat)) := stirs_setCell _ _ _ _ rfl
  refine ⟨rfl, h.upd hm ht hr (by rw [List.length_set]; exact HLEN.out) ?_, ht, by simp⟩
  rw [block_set HB.out, pgCells_set]

/-- May the page be used so? -/
def okE (r : Nat) : Option Ent → Bool
  | some e => e.r &&& r == r
  | none => false
/-- May so many pages from k on? -/
def mayFrom (L : List Ent) (r : Nat) : Nat → Nat → Bool
  | _, 0 => true
  | k, n + 1 => okE r (findE L k) && mayFrom L r (k + 1) n
/-- May the bytes be used so? -/
def mayB (L : List Ent) (a n r : Nat) : Bool :=
  if n = 0 then true else if 18446744073709551616 < a + n then false else mayFrom L r (a / 4096) ((a + n - 1) / 4096 + 1 - a / 4096)

theorem PagesIs.lookK_some {w : World} {base bp bm : Nat} {L : List Ent} (h : PagesIs w base bp bm L) (k : Nat) (hk : k < 18446744073709551616) {e : Ent} (he : findE L k = some e) : (Instr.lookup 56 (.map (some bm)) (.int .u64 (k : Int)) false).run Try.prog w = .ok (.pointer (some ⟨e.blk, 0, none⟩)) w := by
  have := h.look k hk
  rw [he] at this
  exact this
theorem PagesIs.lookK_none {w : World} {base bp bm : Nat} {L : List Ent} (h : PagesIs w base bp bm L) (k : Nat) (hk : k < 18446744073709551616) (he : findE L k = none) : (Instr.lookup 56 (.map (some bm)) (.int .u64 (k : Int)) false).run Try.prog w = .ok (.pointer none) w := by
  have := h.look k hk
  rw [he] at this
  exact this

set_option maxRecDepth 100000 in
theorem may_is {base bp bm : Nat} {L : List Ent} (w : World) (h : PagesIs w base bp bm L) (a n r : Nat) (ha : a < 18446744073709551616) (hn : n ≤ 1000000000) (hr : r < 8) :
    Calls Try.prog 23 #[ptr bp, .int .u64 a, .int .i64 n, .int .i64 r] w fun e w' => e = .returned (.bool (mayB L a n r)) ∧ w = w' := by
  by_cases h0 : n = 0
  · subst h0
    have HR := Lib.hid (show mayB L a 0 r = true from rfl)
    go_enter Try.func23, Try.ntmps23
    go_wp2
    go_ret
    exact ⟨by rw [HR.out]; rfl, rfl⟩
  have hn0 : ((n : Int) == 0) = false := by simp; omega
  by_cases h1 : 18446744073709551616 < a + n
  · have HR := Lib.hid (show mayB L a n r = false by rw [mayB, if_neg h0, if_pos h1])
    go_enter Try.func23, Try.ntmps23
    go_wp2_with (go_at_call 20; go_must (refine (last_out a n _ ha (by omega) (by omega) h1).mono ?_; rintro e w1 ⟨⟨x, rfl⟩, rfl⟩))
    go_ret
    exact ⟨by rw [HR.out]; rfl, rfl⟩
  have HR := Lib.hid (show mayB L a n r = mayFrom L r (a / 4096) ((a + n - 1) / 4096 + 1 - a / 4096) by rw [mayB, if_neg h0, if_neg h1])
  obtain ⟨c0, c1⟩ := h.cells
  go_enter Try.func23, Try.ntmps23
  go_wp2_with (first
    | (go_at_call 20; go_must (refine (last_in a n _ (by omega) (by omega)).mono ?_; rintro e w1 ⟨rfl, rfl⟩))
    | (go_at_call 21; go_must (refine (none_is _ h).mono ?_; rintro e w1 ⟨rfl, rfl⟩)))
  go_loop [11, 12] (fun kv _ => ∃ k : Nat, kv = .int .u64 k ∧ k ≤ (a + n - 1) / 4096 + 1 ∧ Hid (mayB L a n r = mayFrom L r k ((a + n - 1) / 4096 + 1 - k))) (fun kv _ => ((a + n - 1) / 4096 + 1) - (intOf kv).toNat)
  case atStart => exact ⟨a / 4096, by rw [Int.natCast_ediv]; rfl, by omega, HR.out⟩
  case round =>
    obtain ⟨k, rfl, hk, HK⟩ := hrel
    by_cases hlt : k ≤ (a + n - 1) / 4096
    · have hs : mayFrom L r k ((a + n - 1) / 4096 + 1 - k) = (okE r (findE L k) && mayFrom L r (k + 1) ((a + n - 1) / 4096 + 1 - (k + 1))) := by
        rw [show (a + n - 1) / 4096 + 1 - k = ((a + n - 1) / 4096 + 1 - (k + 1)) + 1 by omega, mayFrom]
      have HS := Lib.hid (HK.out.trans hs)
      clear hs
      cases hf : findE L k with
      | none =>
        have hl := h.lookK_none k (by omega) hf
        have HF := Lib.hid (show mayB L a n r = false by rw [HS.out, hf]; rfl)
        clear hf
        go_wp2
        go_ret
        exact ⟨by rw [HF.out]; rfl, rfl⟩
      | some e0 =>
        have hl := h.lookK_some k (by omega) hf
        have hm := (findE_mem hf).1
        have hcell := (h.page hm).1
        have hr0 := (h.pg e0 hm).2.2.2.2
        have ha8 := and_i8 hr0 hr
        have HF := Lib.hid (show mayB L a n r = (decide (e0.r &&& r = r) && mayFrom L r (k + 1) ((a + n - 1) / 4096 + 1 - (k + 1))) by rw [HS.out, hf]; rfl)
        clear hf
        generalize e0.r &&& r = q at *
        by_cases hok : q = r
        · subst hok
          have HF2 := Lib.hid (show mayB L a n q = mayFrom L q (k + 1) ((a + n - 1) / 4096 + 1 - (k + 1)) by rw [HF.out]; simp)
          go_wp2
          go_round
          case rel => exact ⟨k + 1, by go_num, by omega, HF2.out⟩
          case measure => simp [intOf] <;> omega
        · have HF2 := Lib.hid (show mayB L a n r = false by rw [HF.out]; simp [hok])
          have hne : ((q : Int) != (r : Int)) = true := by simp; omega
          clear hok
          go_wp2
          go_ret
          exact ⟨by rw [HF2.out]; rfl, rfl⟩
    · have hk2 : k = (a + n - 1) / 4096 + 1 := by omega
      have HF := Lib.hid (show mayB L a n r = true by rw [HK.out, hk2, Nat.sub_self]; rfl)
      clear hk2
      go_wp2
      go_ret
      exact ⟨by rw [HF.out]; rfl, rfl⟩
end Go.Proofs.Ytklgbkhnflodaaa
