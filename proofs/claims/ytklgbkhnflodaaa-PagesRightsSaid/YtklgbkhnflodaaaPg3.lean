/-
  Memory of pages: how many are there, of what rights; a new memory.
-/
import Derived.Test.YtklgbkhnflodaaaPg2
namespace Go.Proofs.Ytklgbkhnflodaaa
open Go.RowKit Go.Fd

def inB (f l : Nat) (e : Ent) : Bool := decide (f ≤ e.n) && decide (e.n ≤ l)
def badB (f l r : Nat) (e : Ent) : Bool := inB f l e && bothB (e.r ||| r)
/-- How many of some pages are there. -/
def thereN (L : List Ent) (f l : Nat) : Nat := L.countP (inB f l)
/-- Would one be writable and executable? -/
def clashB (L : List Ent) (f l r : Nat) : Bool := bothB r || L.any (badB f l r)

theorem count_split {L : List Ent} (p : Ent → Bool) (hn : (L.map (·.n)).Nodup) {e : Ent} (he : e ∈ L) : L.countP p = (L.filter (fun x => x.n ≠ e.n)).countP p + if p e then 1 else 0 := by
  induction L with
  | nil => cases he
  | cons x L ih =>
    simp only [List.map_cons, List.nodup_cons] at hn
    rcases List.mem_cons.1 he with e1 | he'
    · subst e1
      have : (e :: L).filter (fun x => x.n ≠ e.n) = L := by
        rw [List.filter_cons, if_neg (by simp)]
        refine List.filter_eq_self.2 fun y hy => ?_
        have : y.n ≠ e.n := fun h => hn.1 (List.mem_map.2 ⟨y, hy, h⟩)
        simp [this]
      rw [this, List.countP_cons]
    · have hne : x.n ≠ e.n := fun h => hn.1 (List.mem_map.2 ⟨e, he', h.symm⟩)
      rw [List.filter_cons, if_pos (by simp [hne]), List.countP_cons, List.countP_cons, ih hn.2 he']
      omega
theorem any_split {L : List Ent} (p : Ent → Bool) (hn : (L.map (·.n)).Nodup) {e : Ent} (he : e ∈ L) : L.any p = (p e || (L.filter (fun x => x.n ≠ e.n)).any p) := by
  rw [Bool.eq_iff_iff]
  simp only [List.any_eq_true, Bool.or_eq_true, List.mem_filter]
  constructor
  · rintro ⟨x, hx, hp⟩
    by_cases h : x.n = e.n
    · obtain rfl := nodup_inj hn hx he h
      exact .inl hp
    · exact .inr ⟨x, ⟨hx, by simp [h]⟩, hp⟩
  · rintro (hp | ⟨x, ⟨hx, _⟩, hp⟩)
    · exact ⟨e, he, hp⟩
    · exact ⟨x, hx, hp⟩
theorem filter_keyE (left : List Ent) (n : Nat) : (left.map keyE).filter (fun q => q.1 ≠ n) = (left.filter (fun x => x.n ≠ n)).map keyE := by
  rw [List.filter_map]
  rfl

theorem rights_nil (a : Nat) (w : World) : Calls Try.prog 12 #[.pointer none, .int .u64 a] w fun e w' => e = .returned (.int .i64 0) ∧ w = w' := by
  go_enter Try.func12, Try.ntmps12
  go_wp2_with (go_at_call 21; go_must (refine (none_nil _).mono ?_; rintro e w1 ⟨rfl, rfl⟩))
  go_ret
  exact ⟨rfl, rfl⟩
def rightsE : Option Ent → Nat
  | some e => e.r
  | none => 0
theorem rights_is {base bp bm : Nat} {L : List Ent} (w : World) (h : PagesIs w base bp bm L) (a : Nat) (ha : a < 18446744073709551616) :
    Calls Try.prog 12 #[ptr bp, .int .u64 a] w fun e w' => e = .returned (.int .i64 (rightsE (findE L (a / 4096)))) ∧ w = w' := by
  obtain ⟨h0, h1⟩ := h.cells
  cases hf : findE L (a / 4096) with
  | none =>
    have hl := h.lookNone a ha hf
    clear hf
    go_enter Try.func12, Try.ntmps12
    go_wp2_with (go_at_call 21; go_must (refine (none_is _ h).mono ?_; rintro e w1 ⟨rfl, rfl⟩))
    go_ret
    exact ⟨rfl, rfl⟩
  | some e0 =>
    have hl := h.lookSome a ha hf
    have hc := (h.page (findE_mem hf).1).1
    clear hf
    go_enter Try.func12, Try.ntmps12
    go_wp2_with (go_at_call 21; go_must (refine (none_is _ h).mono ?_; rintro e w1 ⟨rfl, rfl⟩))
    go_ret
    exact ⟨rfl, rfl⟩
theorem count_nil (w : World) : Calls Try.prog 11 #[.pointer none] w fun e w' => e = .returned (.int .i64 0) ∧ w = w' := by
  go_enter Try.func11, Try.ntmps11
  go_wp2_with (go_at_call 21; go_must (refine (none_nil _).mono ?_; rintro e w1 ⟨rfl, rfl⟩))
  go_ret
  exact ⟨rfl, rfl⟩
theorem count_is {base bp bm : Nat} {L : List Ent} (w : World) (h : PagesIs w base bp bm L) : Calls Try.prog 11 #[ptr bp] w fun e w' => e = .returned (.int .i64 L.length) ∧ w = w' := by
  obtain ⟨h0, h1⟩ := h.cells
  have hlen := h.hm.len (t := 56) (e := 63) TM.ht 3
  rw [List.length_map] at hlen
  go_enter Try.func11, Try.ntmps11
  go_wp2_with (go_at_call 21; go_must (refine (none_is _ h).mono ?_; rintro e w1 ⟨rfl, rfl⟩))
  go_ret
  exact ⟨rfl, rfl⟩

theorem new_any (w : World) : Calls Try.prog 9 #[] w fun e w' => ∃ bp bm, e = .returned (ptr bp) ∧ PagesIs w' w.heap.size bp bm [] ∧ Below w.heap.size w w' := by
  have hmm := @run_makeMap Try.prog
  go_enter Try.func9, Try.ntmps9
  go_wp2
  go_ret
  refine ⟨w.heap.size + 1, w.heap.size, rfl, ⟨?_, ?_, by omega, by omega, by simp, by simp⟩, ((Below.refl _ _).alloc (Nat.le_refl _) _).alloc (by simp) _⟩
  · have := heap_alloc_new (w.alloc (.map #[] 0)) (.cells #[.bool true, .map (some w.heap.size)] 58)
    rw [World.size_alloc] at this
    exact this
  · exact (MapIs.made w).mono (by rw [World.size_alloc]; exact (Below.refl _ _).alloc (by simp) _)

theorem filter_shorter {left : List Ent} {e : Ent} (he : e ∈ left) : (left.filter (fun x => x.n ≠ e.n)).length < left.length :=
  List.length_filter_lt_length_iff_exists.2 ⟨e, he, by simp⟩
theorem there_in {left : List Ent} {e : Ent} (hn : (left.map (·.n)).Nodup) (he : e ∈ left) {f l r m N q : Nat} {b C : Bool} (h1 : f ≤ e.n) (h2 : e.n ≤ l) (hq : q = e.r ||| r) (hM : m + left.countP (inB f l) = N) (hB : (b || left.any (badB f l r)) = C) :
    m + 1 + (left.filter (fun x => x.n ≠ e.n)).countP (inB f l) = N ∧ (((b || bothB q) || (left.filter (fun x => x.n ≠ e.n)).any (badB f l r)) = C) := by
  have hin : inB f l e = true := by simp [inB, h1, h2]
  subst hq
  rw [count_split (inB f l) hn he, if_pos hin] at hM
  rw [any_split (badB f l r) hn he, badB, hin, Bool.true_and] at hB
  exact ⟨by omega, by rw [← hB, Bool.or_assoc]⟩
theorem there_out {left : List Ent} {e : Ent} (hn : (left.map (·.n)).Nodup) (he : e ∈ left) {f l r m N : Nat} {b C : Bool} (h1 : e.n < f ∨ l < e.n) (hM : m + left.countP (inB f l) = N) (hB : (b || left.any (badB f l r)) = C) :
    m + (left.filter (fun x => x.n ≠ e.n)).countP (inB f l) = N ∧ ((b || (left.filter (fun x => x.n ≠ e.n)).any (badB f l r)) = C) := by
  have hin : inB f l e = false := by simp [inB]; omega
  rw [count_split (inB f l) hn he, if_neg (by simp [hin])] at hM
  rw [any_split (badB f l r) hn he, badB, hin, Bool.false_and, Bool.false_or] at hB
  exact ⟨hM, hB⟩

set_option maxRecDepth 100000 in
theorem there_is {base bp bm : Nat} {L : List Ent} (w : World) (h : PagesIs w base bp bm L) (f l r : Nat) (hf : f < 18446744073709551616) (hl : l < 18446744073709551616) (hr : r < 8) :
    Calls Try.prog 22 #[ptr bp, .int .u64 f, .int .u64 l, .int .i64 r] w fun e w' => e = .returned (.tuple #[.int .i64 (thereN L f l), .bool (clashB L f l r)]) ∧ Below w.heap.size w w' := by
  obtain ⟨h0, h1⟩ := h.cells
  go_enter Try.func22, Try.ntmps22
  go_wp2_with (first
    | (go_at_call 37; go_must (refine (both_any r _ hr).mono ?_; rintro e w1 ⟨rfl, rfl⟩))
    | (with_reducible show wpList _ _ _ (⟨some 18, _, _, _, _, _⟩ :: _) _ _; go_must (refine wpList_rangeM TM.ht h.hm rfl ?_; intro w0 hr0 hg0 hs0)))
  go_frame
  have hp0 := h.mono (below_grown hg0)
  have hb0 := below_grown hg0
  have hlen : L.length ≤ 9223372036854775807 := by have := h.hm.size_le; unfold maxLen at this; simp at this; omega
  have hcn : thereN L f l ≤ L.length := List.countP_le_length
  have HRG := Lib.hid hr0
  have HIS := Lib.hid h
  clear hr0 hg0 hp0 h h0 h1
  go_loopw [8, 9] (fun n c wr => ∃ (left : List Ent) (m : Nat) (b : Bool), n = .int .i64 m ∧ c = .bool b ∧ RangeIs Try.prog 22 K64 wr bm w.heap.size (L.map keyE) (left.map keyE) ∧ (∀ e ∈ left, e ∈ L) ∧ (left.map (·.n)).Nodup ∧ Hid (m + left.countP (inB f l) = thereN L f l) ∧ Hid ((b || left.any (badB f l r)) = clashB L f l r) ∧ Below w.heap.size w wr)
    (fun _ _ wr => wr.rangeLeft bm w.heap.size)
  case atStart => exact ⟨L, 0, bothB r, rfl, rfl, HRG.out, fun _ h => h, HIS.out.nodup, Nat.zero_add _, rfl, hb0⟩
  case round =>
    obtain ⟨left, m, b, rfl, rfl, hrg, hsub, hnd, HM, HB, hb⟩ := hrel
    have HRG2 := Lib.hid hrg
    have HSUB := Lib.hid hsub
    have HND := Lib.hid hnd
    clear hrg hsub hnd
    have HC : ∀ e ∈ left, ∀ wx, Below w.heap.size w wx → wx.cell? ⟨e.blk, 0, none⟩ = some (.int .i64 e.r) := fun e he wx hbx => ((HIS.out.mono hbx).page (HSUB.out e he)).1
    have HHC := Lib.hid HC
    clear HC
    have HR8 := Lib.hid (fun e he => (HIS.out.pg e (HSUB.out e he)).2.2.2.2)
    go_wp2_with (first
      | (at_next; go_must (refine wpList_nextM TM HRG2.out rfl ?_ ?_); intro hl0; rotate_left; intro p w1 hp hr1 hg1 hs1 hen; obtain ⟨e, he, rfl⟩ := List.mem_map.1 hp; rw [filter_keyE] at hr1; simp only [keyE] at hen hr1 ⊢; have hb1 := hb.trans (below_of_grown hg1 hb.size (fun k hk => by cases hk; exact Nat.le_refl _)); have hc := HHC.out e he w1 hb1; clear hp; have HR1 := Lib.hid hr1; clear hr1; obtain ⟨q, hq, hq8, hor⟩ : ∃ q, Hid (q = e.r ||| r) ∧ q < 8 ∧ bits .or .i64 (e.r : Int) (r : Int) = (q : Int) := ⟨_, rfl, or_lt8 (HR8.out e he) hr, or_i8 (HR8.out e he) hr⟩; rcases (by omega : e.n < f ∨ l < e.n ∨ (f ≤ e.n ∧ e.n ≤ l)) with hin | hin | hin; all_goals cases b; all_goals rotate_right)
      | (go_at_call 37; go_must (refine (both_any q _ hq8).mono ?_; rintro e1 w2 ⟨rfl, rfl⟩)))
    all_goals first
      | (go_roundw
         case rel => exact ⟨left.filter (fun x => x.n ≠ e.n), m, _, rfl, rfl, HR1.out, fun x hx => HSUB.out x (List.mem_filter.1 hx).1, (List.filter_sublist.map _).nodup HND.out, (there_out HND.out he (by omega) HM.out HB.out).1, (there_out HND.out he (by omega) HM.out HB.out).2, hb1⟩
         case measure => rw [HR1.out.left_eq, HRG2.out.left_eq, List.length_map, List.length_map]; exact filter_shorter he)
      | (have ht := there_in HND.out he hin.1 hin.2 hq.out HM.out HB.out
         have hm1 : m + 1 ≤ 9223372036854775807 := by omega
         have hw : wrap64 ((m : Int) + 1) = ((m + 1 : Nat) : Int) := by rw [wrap64]; omega
         rw [hw]
         go_roundw
         case rel => exact ⟨left.filter (fun x => x.n ≠ e.n), m + 1, _, rfl, rfl, HR1.out, fun x hx => HSUB.out x (List.mem_filter.1 hx).1, (List.filter_sublist.map _).nodup HND.out, ht.1, by simpa [Hid] using ht.2, hb1⟩
         case measure => rw [HR1.out.left_eq, HRG2.out.left_eq, List.length_map, List.length_map]; exact filter_shorter he)
      | (go_ret2
         obtain rfl : left = [] := List.map_eq_nil_iff.1 hl0
         have e1 := HM.out
         have e2 := HB.out
         simp at e1 e2
         exact ⟨ret2 (nat_eq e1) (bool_eq (by first | exact e2 | exact e2.symm)), hb⟩)
end Go.Proofs.Ytklgbkhnflodaaa
