/-
  Part 4 of 5: laws and walks for loadZerosUpto_holds; no condition of its own.
-/
import Derived.Test.YtmpelmjhimalpaaLz3
namespace Go.Proofs.Ytmpelmjhimalpaa
open Go.RowKit Go.Fd
/-- x stands in l at p. -/
def Has (l : List UInt8) (p : Nat) (x : List UInt8) : Prop := ∃ a b, l = a ++ (x ++ b) ∧ a.length = p
theorem Has.left {l x : List UInt8} {p : Nat} (h : Has l p x) (a : List UInt8) {q : Nat} (hq : q = a.length + p) : Has (a ++ l) q x := by
  obtain ⟨c, d, rfl, rfl⟩ := h
  exact ⟨a ++ c, d, by simp, by simp [hq]⟩
theorem Has.right {l x : List UInt8} {p : Nat} (h : Has l p x) (b : List UInt8) : Has (l ++ b) p x := by
  obtain ⟨c, d, rfl, rfl⟩ := h
  exact ⟨c, d ++ b, by simp, rfl⟩
theorem Has.all (x : List UInt8) : Has x 0 x := ⟨[], [], by simp, rfl⟩
theorem Has.sub {l x y : List UInt8} {p q r : Nat} (h : Has l p x) (k : Has x q y) (hr : r = p + q) : Has l r y := by
  obtain ⟨a, b, rfl, rfl⟩ := h
  obtain ⟨c, d, rfl, rfl⟩ := k
  exact ⟨a ++ c, d ++ b, by simp, by simp [hr]⟩
theorem Has.len {l x : List UInt8} {p : Nat} (h : Has l p x) : p + x.length ≤ l.length := by
  obtain ⟨a, b, rfl, rfl⟩ := h
  simp only [List.length_append]; omega
theorem Has.cut {l x : List UInt8} {p : Nat} (h : Has l p x) : (l.drop p).take x.length = x := by
  obtain ⟨a, b, rfl, rfl⟩ := h
  simp
theorem Has.num {l : List UInt8} {p n s : Nat} (h : Has l p (fixed n s)) (hs : Sized s) (hn : n < 256 ^ s) : gN l p s = n := by
  have h1 := h.len
  have h2 := h.cut
  rw [length_fixed] at h1 h2
  rw [gN_in hs h1, h2, fixed_get, Nat.mod_eq_of_lt hn]
theorem Has.flat {α : Type} {k : Nat} {f : α → List UInt8} (hk : ∀ x, (f x).length = k) {l : List α} {i : Nat} {x : α} (h : l[i]? = some x) : Has (l.flatMap f) (k * i) (f x) := by
  obtain ⟨r, hr⟩ := flat_head hk h
  refine ⟨(l.flatMap f).take (k * i), r, by rw [← hr, List.take_append_drop], ?_⟩
  have hi := (List.getElem?_eq_some_iff.1 h).1
  rw [List.length_take, flat_len' hk, Nat.min_eq_left]
  rw [Nat.mul_comm]
  exact Nat.mul_le_mul_right k (Nat.le_of_lt hi)
theorem putL_cons (s n : Nat) (ns : List Nat) : putL s (n :: ns) = fixed n s ++ putL s ns := rfl
theorem putL_nil (s : Nat) : putL s [] = [] := rfl
/-- A part of bytes that are put together of parts. -/
theorem has_part {ps : List (List UInt8)} {i p : Nat} {x : List UInt8} (h : ps[i]? = some x) (hp : p = ((ps.take i).map List.length).sum) : Has ps.flatten p x := by
  obtain ⟨hi, he⟩ := List.getElem?_eq_some_iff.1 h
  refine ⟨(ps.take i).flatten, (ps.drop (i + 1)).flatten, ?_, by rw [List.length_flatten, hp]⟩
  rw [← he, ← List.flatten_cons, ← List.flatten_append, List.getElem_cons_drop, List.take_append_drop]
theorem segBy_parts (s : SegM) : segBy s = [fixed s.typ 4, fixed s.flags 4, fixed s.off 8, fixed s.vaddr 8, fixed s.vaddr 8, fixed s.filesz 8, fixed s.memsz 8, fixed s.align 8].flatten := by
  unfold segBy
  simp [putL_cons, putL_nil]
theorem segBy_has (s : SegM) {i p : Nat} {x : List UInt8} (h : [fixed s.typ 4, fixed s.flags 4, fixed s.off 8, fixed s.vaddr 8, fixed s.vaddr 8, fixed s.filesz 8, fixed s.memsz 8, fixed s.align 8][i]? = some x) (hp : p = (([fixed s.typ 4, fixed s.flags 4, fixed s.off 8, fixed s.vaddr 8, fixed s.vaddr 8, fixed s.filesz 8, fixed s.memsz 8, fixed s.align 8].take i).map List.length).sum) : Has (segBy s) p x := by
  rw [segBy_parts]; exact has_part h hp
theorem hdrBy_parts (nm : Nat) (s : SecM) (p : Nat) : hdrBy nm s p = [fixed nm 4, fixed s.typ 4, fixed s.flags 8, fixed s.addr 8, fixed p 8, fixed s.size 8, fixed s.link 4, fixed s.info 4, fixed s.align 8, fixed s.ent 8].flatten := by
  unfold hdrBy
  simp [putL_cons, putL_nil]
theorem hdrBy_has (nm : Nat) (s : SecM) (p : Nat) {i q : Nat} {x : List UInt8} (h : [fixed nm 4, fixed s.typ 4, fixed s.flags 8, fixed s.addr 8, fixed p 8, fixed s.size 8, fixed s.link 4, fixed s.info 4, fixed s.align 8, fixed s.ent 8][i]? = some x) (hp : q = (([fixed nm 4, fixed s.typ 4, fixed s.flags 8, fixed s.addr 8, fixed p 8, fixed s.size 8, fixed s.link 4, fixed s.info 4, fixed s.align 8, fixed s.ent 8].take i).map List.length).sum) : Has (hdrBy nm s p) q x := by
  rw [hdrBy_parts]; exact has_part h hp
theorem headB_parts (e : ElfM) (h : Nat) : headB e h = [magicE, List.replicate 9 0, fixed (u64of e.typ) 2, fixed (Go.Fd.mach e.target) 2, fixed 1 4, fixed e.entry 8, fixed (if segsB e = true then 64 else 0) 8, fixed h 8, fixed e.flags 4, fixed 64 2, fixed 56 2, fixed e.segs.length 2, fixed 64 2, fixed (e.secs.length + 2) 2, fixed (e.secs.length + 1) 2].flatten := by
  unfold headB magicE
  simp [putL_cons, putL_nil]
theorem headB_has (e : ElfM) (h : Nat) {i q : Nat} {x : List UInt8} (hx : [magicE, List.replicate 9 0, fixed (u64of e.typ) 2, fixed (Go.Fd.mach e.target) 2, fixed 1 4, fixed e.entry 8, fixed (if segsB e = true then 64 else 0) 8, fixed h 8, fixed e.flags 4, fixed 64 2, fixed 56 2, fixed e.segs.length 2, fixed 64 2, fixed (e.secs.length + 2) 2, fixed (e.secs.length + 1) 2][i]? = some x) (hp : q = (([magicE, List.replicate 9 0, fixed (u64of e.typ) 2, fixed (Go.Fd.mach e.target) 2, fixed 1 4, fixed e.entry 8, fixed (if segsB e = true then 64 else 0) 8, fixed h 8, fixed e.flags 4, fixed 64 2, fixed 56 2, fixed e.segs.length 2, fixed 64 2, fixed (e.secs.length + 2) 2, fixed (e.secs.length + 1) 2].take i).map List.length).sum) : Has (headB e h) q x := by
  rw [headB_parts]; exact has_part hx hp
/-- What was ahead stays ahead. -/
theorem bodyF_pre : ∀ (l : List (SecM × Nat)) (acc : List UInt8), ∃ r, bodyF acc l = acc ++ r := by
  intro l
  induction l with
  | nil => exact fun acc => ⟨[], by simp [bodyF]⟩
  | cons x l ih =>
    intro acc
    obtain ⟨r, hr⟩ := ih (acc ++ List.replicate (x.2 - acc.length) 0 ++ x.1.data)
    exact ⟨List.replicate (x.2 - acc.length) 0 ++ x.1.data ++ r, by
      show bodyF (acc ++ List.replicate (x.2 - acc.length) 0 ++ x.1.data) l = _
      rw [hr]; simp⟩
theorem bodyF_cut (acc : List UInt8) (l : List (SecM × Nat)) (k : Nat) : bodyF acc l = bodyF (bodyF acc (l.take k)) (l.drop k) := by
  unfold bodyF
  rw [← List.foldl_append, List.take_append_drop]
section
variable {e : ElfM}
theorem atsB_ok (h : MayK e) {i : Nat} {x : List UInt8} (hi : (namesOf e.secs)[i]? = some x) : ∃ p, (atsOf e)[i]? = some p ∧ atR (tabOf e) p = (x, 0) ∧ p < (tabOf e).length := by
  obtain ⟨h1, h2⟩ := build_ok h.ok
  obtain ⟨p, e1, _, e2, e3⟩ := build_at h1 hi
  have ht : tabOf e = (buildT (namesOf e.secs)).tab := by unfold tabOf; rw [h2]
  refine ⟨p, by unfold atsOf; rw [h2]; exact e1, by rw [ht]; exact at_place e2 e3, ?_⟩
  rw [ht]
  have := e2.lt
  omega
theorem ats_len (h : MayK e) : (atsOf e).length = e.secs.length + 1 := by
  obtain ⟨h1, h2⟩ := build_ok h.ok
  unfold atsOf
  rw [h2, (build_places _).1]
  simp [namesOf]
theorem places_len (e : ElfM) : (placesOf e).1.length = e.secs.length := plF_len _
theorem hdrs_get (h : MayK e) {i : Nat} {s : SecM} (hi : e.secs[i]? = some s) : ∃ n p, (atsOf e)[i]? = some n ∧ (placesOf e).1[i]? = some p ∧ (e.secs.zip ((atsOf e).zip (placesOf e).1))[i]? = some (s, n, p) := by
  have hlt := (List.getElem?_eq_some_iff.1 hi).1
  have h1 : (atsOf e)[i]? = some ((atsOf e)[i]'(by rw [ats_len h]; omega)) := List.getElem?_eq_getElem _
  have h2 : (placesOf e).1[i]? = some ((placesOf e).1[i]'(by rw [places_len]; omega)) := List.getElem?_eq_getElem _
  refine ⟨_, _, h1, h2, ?_⟩
  rw [List.getElem?_zip_eq_some]
  exact ⟨hi, by rw [List.getElem?_zip_eq_some]; exact ⟨h1, h2⟩⟩
theorem hdrsB_len (h : MayK e) : (hdrsB e).length = 64 * e.secs.length := by
  unfold hdrsB
  rw [flat_len' fun p => hdrBy_len _ _ _, List.length_zip, List.length_zip, ats_len h, places_len]
  omega
theorem fileB_len (h : MayK e) : (fileB e).length = headsOf e (tabOf e).length + 64 * (e.secs.length + 2) := by
  unfold fileB
  rw [List.length_append, List.length_append, midB_len h, hdrsB_len h, hdrBy_len]
  omega
theorem has_mid {p : Nat} {x : List UInt8} (h : Has (bodyB e) p x) : Has (fileB e) p x := by
  unfold fileB midB
  exact (((h.right _).right _).right _).right _
theorem has_front {p : Nat} {x : List UInt8} (h : Has (frontB e) p x) : Has (fileB e) p x := by
  obtain ⟨r, hr⟩ := bodyF_pre (e.secs.zip (placesOf e).1) (frontB e)
  refine has_mid ?_
  unfold bodyB
  rw [hr]
  exact h.right _
theorem has_head {p : Nat} {x : List UInt8} (h : Has (headB e (headsOf e (tabOf e).length)) p x) : Has (fileB e) p x := by
  refine has_front ?_
  unfold frontB
  exact h.right _
theorem has_seg {i : Nat} {s : SegM} (hi : e.segs[i]? = some s) : Has (fileB e) (64 + 56 * i) (segBy s) := by
  refine has_front ?_
  unfold frontB
  exact (Has.flat segBy_len hi).left _ (by rw [headB_len])
theorem has_data (h : MayK e) {i : Nat} {s : SecM} {p : Nat} (hi : e.secs[i]? = some s) (hp : (placesOf e).1[i]? = some p) : Has (fileB e) p s.data := by
  refine has_mid ?_
  have hz : (e.secs.zip (placesOf e).1)[i]? = some (s, p) := by rw [List.getElem?_zip_eq_some]; exact ⟨hi, hp⟩
  have hlt := (List.getElem?_eq_some_iff.1 hi).1
  have hl := body_len (g := segsB e) (frontB_len e) h.pow i (Nat.le_of_lt hlt)
  have hpl : p = placeS (segsB e) (plF (segsB e) (front e) (e.secs.take i)).2 s := by
    have := plF_get (g := segsB e) (n := front e) hi
    unfold placesOf at hp
    rw [this] at hp
    exact (Option.some.inj hp).symm
  have hge := placeS_le (g := segsB e) (p := (plF (segsB e) (front e) (e.secs.take i)).2) (h.pow s (List.mem_of_getElem? hi))
  obtain ⟨r, hr⟩ := bodyF_pre ((e.secs.zip (placesOf e).1).drop (i + 1)) (bodyF (frontB e) ((e.secs.zip (placesOf e).1).take (i + 1)))
  unfold bodyB
  rw [bodyF_cut _ _ (i + 1), hr, bodyF_step hz]
  refine Has.right ?_ _
  have := (Has.all s.data).left (bodyF (frontB e) ((e.secs.zip (placesOf e).1).take i) ++ List.replicate (p - (bodyF (frontB e) ((e.secs.zip (placesOf e).1).take i)).length) 0) (q := p) (by
    rw [List.length_append, List.length_replicate]
    unfold placesOf
    rw [hl, hpl]
    omega)
  exact this
theorem has_tab (h : MayK e) : Has (fileB e) (placesOf e).2 (tabOf e) := by
  unfold fileB midB
  refine Has.right (Has.right (Has.right ?_ _) _) _
  exact (Has.all _).left _ (by rw [bodyB_len h.pow]; rfl)
theorem has_hdr (h : MayK e) {i : Nat} {s : SecM} {n p : Nat} (hz : (e.secs.zip ((atsOf e).zip (placesOf e).1))[i]? = some (s, n, p)) : Has (fileB e) (headsOf e (tabOf e).length + 64 * (i + 1)) (hdrBy n s p) := by
  unfold fileB
  refine Has.right ?_ _
  have := Has.flat (f := fun p : SecM × Nat × Nat => hdrBy p.2.1 p.1 p.2.2) (fun p => hdrBy_len _ _ _) hz
  exact this.left _ (by rw [midB_len h]; omega)
theorem has_last (h : MayK e) : ∃ n, Has (fileB e) (headsOf e (tabOf e).length + 64 * (e.secs.length + 1)) (hdrBy n (tabSec (tabOf e).length) (placesOf e).2) := by
  refine ⟨(atsOf e)[e.secs.length]?.getD 0, ?_⟩
  unfold fileB
  exact (Has.all _).left _ (by rw [List.length_append, midB_len h, hdrsB_len h]; omega)
end
theorem Has.ok {l x : List UInt8} {p q s : Nat} (h : Has l p x) (hs : Sized s) (hq : q + s ≤ x.length) : okB l (p + q) s = true := by
  rw [okB_iff hs]
  have := h.len
  simp only [decide_eq_true_eq]
  omega
theorem seg_back {l : List UInt8} {a : Nat} {s : SegM} (h : Has l a (segBy s)) (hf : s.fits) : segP l a = s ∧ segOk l a = true := by
  obtain ⟨f1, f2, f3, f4, f5, f6, f7⟩ := hf
  have hl := h.len
  rw [segBy_len] at hl
  refine ⟨?_, by rw [segOk_iff]; simpa using hl⟩
  unfold segP
  rw [(h.sub (segBy_has s (i := 0) rfl rfl) rfl : Has l a (fixed s.typ 4)).num sz4 f1, (h.sub (segBy_has s (i := 1) rfl rfl) (r := a + 4) (by simp [length_fixed]) : Has l (a + 4) (fixed s.flags 4)).num sz4 f2,
    (h.sub (segBy_has s (i := 2) rfl rfl) (r := a + 8) (by simp [length_fixed]) : Has l (a + 8) (fixed s.off 8)).num sz8 f3,
    (h.sub (segBy_has s (i := 3) rfl rfl) (r := a + 16) (by simp [length_fixed]) : Has l (a + 16) (fixed s.vaddr 8)).num sz8 f4,
    (h.sub (segBy_has s (i := 5) rfl rfl) (r := a + 32) (by simp [length_fixed]) : Has l (a + 32) (fixed s.filesz 8)).num sz8 f5,
    (h.sub (segBy_has s (i := 6) rfl rfl) (r := a + 40) (by simp [length_fixed]) : Has l (a + 40) (fixed s.memsz 8)).num sz8 f6,
    (h.sub (segBy_has s (i := 7) rfl rfl) (r := a + 48) (by simp [length_fixed]) : Has l (a + 48) (fixed s.align 8)).num sz8 f7]
theorem sec_back {l tab : List UInt8} {a n p : Nat} {s : SecM} (h : Has l a (hdrBy n s p)) (hf : s.fits) (hn : n < 4294967296) (hp : p < 18446744073709551616) (ht : atR tab n = (s.name, 0)) (hfine : fineB s = true) (hd : Has l p s.data) : secP l tab a = s ∧ secOk l tab a = true := by
  obtain ⟨f1, f2, f3, f4, f5, f6, f7, f8⟩ := hf
  have hl := h.len
  rw [hdrBy_len] at hl
  have g0 := (h.sub (hdrBy_has n s p (i := 0) rfl rfl) (r := a) (by simp) : Has l a (fixed n 4)).num sz4 hn
  have g1 := (h.sub (hdrBy_has n s p (i := 1) rfl rfl) (r := a + 4) (by simp [length_fixed]) : Has l (a + 4) (fixed s.typ 4)).num sz4 f1
  have g2 := (h.sub (hdrBy_has n s p (i := 2) rfl rfl) (r := a + 8) (by simp [length_fixed]) : Has l (a + 8) (fixed s.flags 8)).num sz8 f2
  have g3 := (h.sub (hdrBy_has n s p (i := 3) rfl rfl) (r := a + 16) (by simp [length_fixed]) : Has l (a + 16) (fixed s.addr 8)).num sz8 f3
  have g4 := (h.sub (hdrBy_has n s p (i := 4) rfl rfl) (r := a + 24) (by simp [length_fixed]) : Has l (a + 24) (fixed p 8)).num sz8 hp
  have g5 := (h.sub (hdrBy_has n s p (i := 5) rfl rfl) (r := a + 32) (by simp [length_fixed]) : Has l (a + 32) (fixed s.size 8)).num sz8 f5
  have g6 := (h.sub (hdrBy_has n s p (i := 6) rfl rfl) (r := a + 40) (by simp [length_fixed]) : Has l (a + 40) (fixed s.link 4)).num sz4 f6
  have g7 := (h.sub (hdrBy_has n s p (i := 7) rfl rfl) (r := a + 44) (by simp [length_fixed]) : Has l (a + 44) (fixed s.info 4)).num sz4 f7
  have g8 := (h.sub (hdrBy_has n s p (i := 8) rfl rfl) (r := a + 48) (by simp [length_fixed]) : Has l (a + 48) (fixed s.align 8)).num sz8 f4
  have g9 := (h.sub (hdrBy_has n s p (i := 9) rfl rfl) (r := a + 56) (by simp [length_fixed]) : Has l (a + 56) (fixed s.ent 8)).num sz8 f8
  unfold fineB at hfine
  simp only [Bool.and_eq_true, Bool.not_eq_true', decide_eq_false_iff_not] at hfine
  obtain ⟨⟨⟨_, _⟩, _⟩, hfd⟩ := hfine
  have hdl := hd.len
  have hdc := hd.cut
  constructor
  · unfold secP
    rw [g0, g1, g2, g3, g4, g5, g6, g7, g8, g9, ht]
    by_cases h8 : s.typ = 8
    · rw [if_pos h8] at hfd ⊢
      simp only [Bool.and_eq_true, decide_eq_true_eq] at hfd
      have : s.data = [] := List.eq_nil_of_length_eq_zero hfd.1
      cases s
      simp_all
    · rw [if_neg h8] at hfd ⊢
      have hsz : s.size = s.data.length := of_decide_eq_true hfd
      rw [hsz, hdc, ← hsz]
  · unfold secOk
    rw [g0, g1, g4, g5, ht]
    simp only [Bool.and_eq_true, Bool.or_eq_true, decide_eq_true_eq]
    refine ⟨⟨hl, trivial⟩, ?_⟩
    by_cases h8 : s.typ = 8
    · exact .inl h8
    · right
      rw [if_neg h8] at hfd
      have hsz : s.size = s.data.length := of_decide_eq_true hfd
      unfold inB
      simp only [Bool.and_eq_true, decide_eq_true_eq]
      omega
theorem tgt_mach {t : Int} (h : mach t ≠ 0) : tgt (mach t) 3 = t := by
  unfold mach at h ⊢
  split
  · next h1 => subst h1; decide
  · split
    · next h1 => subst h1; decide
    · split
      · next h1 => subst h1; decide
      · next h1 h2 h3 => simp [h1, h2, h3] at h
theorem target_in {t : Int} (h : mach t ≠ 0) : t = 1 ∨ t = 2 ∨ t = 3 := by
  unfold mach at h
  split at h
  · omega
  · split at h
    · omega
    · split at h
      · omega
      · exact absurd rfl h
/-- What is read of a file's bytes is the file. -/
theorem file_back {e : ElfM} (hm : mayE e = true) (hf : e.fits) : codeR (fileB e) = 0 ∧ targetR (fileB e) = e.target ∧ OkP (fileB e) ∧ parseE (fileB e) (targetR (fileB e)) = e := by
  have h := mayK hm
  have hlen := fileB_len h
  have hge := heads_ge (e := e)
  have hle := h.len
  have hsl := h.secs
  have hgl := h.segs
  have hfr : front e ≤ (placesOf e).2 := (plF_le (g := segsB e) (n := front e) h.pow).1
  have hfr2 : 64 ≤ front e := by unfold front; omega
  have hH : headsOf e (tabOf e).length < 4194304 := by omega
  have t0 := has_head (headB_has e (headsOf e (tabOf e).length) (i := 0) rfl rfl)
  have t1 := (has_head (headB_has e (headsOf e (tabOf e).length) (i := 2) (q := 16) rfl (by simp; rfl))).num sz2 (by rcases h.typ with h1 | h1 <;> rw [h1] <;> decide)
  have t2 := (has_head (headB_has e (headsOf e (tabOf e).length) (i := 3) (q := 18) rfl (by simp [length_fixed]; rfl))).num sz2 (by have := mach_le e.target; omega)
  have t3 := (has_head (headB_has e (headsOf e (tabOf e).length) (i := 5) (q := 24) rfl (by simp [length_fixed]; rfl))).num sz8 hf.entry
  have t4 := (has_head (headB_has e (headsOf e (tabOf e).length) (i := 7) (q := 40) rfl (by simp [length_fixed]; rfl))).num sz8 (by omega)
  have t5 := (has_head (headB_has e (headsOf e (tabOf e).length) (i := 8) (q := 48) rfl (by simp [length_fixed]; rfl))).num sz4 hf.flags
  have t6 := (has_head (headB_has e (headsOf e (tabOf e).length) (i := 11) (q := 56) rfl (by simp [length_fixed]; rfl))).num sz2 (by omega)
  have t7 := (has_head (headB_has e (headsOf e (tabOf e).length) (i := 13) (q := 60) rfl (by simp [length_fixed]; rfl))).num sz2 (by omega)
  have htg : targetR (fileB e) = e.target := by unfold targetR; rw [t2]; exact tgt_mach h.mach
  have hns : nsecsP (fileB e) = e.secs.length := by unfold nsecsP; rw [t7]; omega
  have hng : nsegsP (fileB e) = e.segs.length := t6
  have hla : lastP (fileB e) = headsOf e (tabOf e).length + 64 * (e.secs.length + 1) := by unfold lastP; rw [t4, hns]
  obtain ⟨nl, hlast⟩ := has_last h
  have l1 := (hlast.sub (hdrBy_has nl (tabSec (tabOf e).length) (placesOf e).2 (i := 4) rfl rfl) (r := lastP (fileB e) + 24) (by simp [length_fixed, hla]) : Has (fileB e) (lastP (fileB e) + 24) (fixed (placesOf e).2 8))
  have l2 := (hlast.sub (hdrBy_has nl (tabSec (tabOf e).length) (placesOf e).2 (i := 5) rfl rfl) (r := lastP (fileB e) + 32) (by simp [length_fixed, hla]) : Has (fileB e) (lastP (fileB e) + 32) (fixed (tabOf e).length 8))
  have n1 := l1.num sz8 (by omega)
  have n2 := l2.num sz8 (by omega)
  have htab : tabP (fileB e) = tabOf e := by
    unfold tabP
    rw [n1, n2]
    exact (has_tab h).cut
  have hseg : ∀ i s, e.segs[i]? = some s → segP (fileB e) (64 + 56 * i) = s ∧ segOk (fileB e) (64 + 56 * i) = true := fun i s hi => seg_back (has_seg hi) (hf.segs s (List.mem_of_getElem? hi))
  have hsec : ∀ i s, e.secs[i]? = some s → secP (fileB e) (tabP (fileB e)) (gN (fileB e) 40 8 + 64 * (i + 1)) = s ∧ secOk (fileB e) (tabP (fileB e)) (gN (fileB e) 40 8 + 64 * (i + 1)) = true := fun i s hi => by
    obtain ⟨n, p, a1, a2, a3⟩ := hdrs_get h hi
    have hnm : (namesOf e.secs)[i]? = some s.name := by
      unfold namesOf
      rw [List.getElem?_append_left (by rw [List.length_map]; exact (List.getElem?_eq_some_iff.1 hi).1), List.getElem?_map, hi]
      rfl
    obtain ⟨n', b1, b2, b3⟩ := atsB_ok h hnm
    rw [a1] at b1
    cases b1
    have hdt := has_data h hi a2
    rw [t4, htab]
    exact sec_back (has_hdr h a3) (hf.secs s (List.mem_of_getElem? hi)) (by omega) (by have := hdt.len; omega) b2 (h.fine s (List.mem_of_getElem? hi)) hdt
  have lsec : secsP (fileB e) e.secs.length = e.secs := by
    apply List.ext_getElem?
    intro i
    rcases Nat.lt_or_ge i e.secs.length with hi | hi
    · have hx : e.secs[i]? = some e.secs[i] := List.getElem?_eq_getElem hi
      unfold secsP
      rw [List.getElem?_map, List.getElem?_range hi, hx, Option.map_some, (hsec i _ hx).1]
    · rw [List.getElem?_eq_none (by rw [secsP_len]; exact hi), List.getElem?_eq_none hi]
  have lseg : segsP (fileB e) e.segs.length = e.segs := by
    apply List.ext_getElem?
    intro i
    rcases Nat.lt_or_ge i e.segs.length with hi | hi
    · have hx : e.segs[i]? = some e.segs[i] := List.getElem?_eq_getElem hi
      unfold segsP
      rw [List.getElem?_map, List.getElem?_range hi, hx, Option.map_some, (hseg i _ hx).1]
    · rw [List.getElem?_eq_none (by rw [segsP_len]; exact hi), List.getElem?_eq_none hi]
  refine ⟨?_, htg, ⟨by rw [t6]; exact hgl, by rw [t7]; omega, by rw [t7]; omega, fun i hi => ?_, by rw [t4]; omega, ?_, ?_, ?_, fun i hi => ?_⟩, ?_⟩
  · unfold codeR
    rw [if_neg (by omega), if_neg (by omega)]
    have : (fileB e).take 7 = magicE := by have := t0.cut; simpa [magicE] using this
    rw [if_neg (fun hh => hh this), htg, if_neg]
    rcases target_in h.mach with h1 | h1 | h1 <;> omega
  · rw [hng] at hi
    exact (hseg i _ (List.getElem?_eq_getElem hi)).2
  · have := l1.ok (q := 0) sz8 (by simp [length_fixed]); simpa using this
  · have := l2.ok (q := 0) sz8 (by simp [length_fixed]); simpa using this
  · rw [n1, n2]
    unfold inB
    simp only [Bool.and_eq_true, decide_eq_true_eq]
    omega
  · rw [hns] at hi
    exact (hsec i _ (List.getElem?_eq_getElem hi)).2
  · unfold parseE
    rw [hns, hng, lsec, lseg, htg, t1, t3, t5]
    have : ((u64of e.typ : Nat) : Int) = e.typ := by rcases h.typ with h1 | h1 <;> rw [h1] <;> decide
    rw [this]
theorem read_back {e : ElfM} (hm : mayE e = true) (hf : e.fits) : readE (fileB e) = (e, 0) := by
  obtain ⟨h1, h2, h3, h4⟩ := file_back hm hf
  unfold readE
  rw [if_neg (fun h => h h1), h4, if_pos ⟨h3, hm, rfl⟩]
end Go.Proofs.Ytmpelmjhimalpaa
namespace Go.Proofs.Ytmpelmjhimalpaa
open Go.RowKit Go.Fd
theorem getV_add (V : Vw) (k r j : Nat) : getV (addP V k r) j = getV V j := by
  unfold getV
  rw [findV_add]
  split
  · next x hx =>
    split at hx
    · next hk =>
      cases hf : findV V k with
      | none =>
        rw [hf] at hx
        cases hx
        rw [hk, hf]
        show zs[j % 4096]?.getD 0 = 0
        unfold zs
        rw [List.getElem?_replicate]
        split <;> rfl
      | some y =>
        rw [hf] at hx
        cases hx
        rw [hk, hf]
    · rw [hx]
  · next hx =>
    split at hx
    · split at hx <;> cases hx
    · rw [hx]
theorem getV_map (r : Nat) : ∀ (n : Nat) (V : Vw) (k j : Nat), getV (mapV r V k n) j = getV V j
  | 0, _, _, _ => rfl
  | n + 1, V, k, j => by rw [mapV, getV_map r n, getV_add]
theorem okV_rights {q : Nat} (hq : q ≠ 0) (V : Vw) (j : Nat) : okV q (findV V j) = (rightsV V j &&& q == q) := by
  unfold rightsV okV
  cases findV V j with
  | none => simp; omega
  | some x => rfl
theorem okV_zero (V : Vw) (j : Nat) : okV 0 (findV V j) = (findV V j).isSome := by
  unfold okV
  cases findV V j with
  | none => rfl
  | some x => simp
theorem rights_setB (V : Vw) (a : Nat) (x : UInt8) (j : Nat) : rightsV (setBV V a x) j = rightsV V j := by
  unfold rightsV
  rw [findV_set]
  cases findV V j with
  | none => rfl
  | some y => dsimp only [Option.map_some]; split <;> rfl
theorem rights_setV : ∀ (l : List UInt8) (V : Vw) (a j : Nat), rightsV (setV V a l) j = rightsV V j
  | [], _, _, _ => rfl
  | x :: l, V, a, j => by rw [setV, rights_setV l, rights_setB]
theorem some_map {r : Nat} {n : Nat} {V : Vw} {k j : Nat} : (findV (mapV r V k n) j).isSome = true ↔ (findV V j).isSome = true ∨ (k ≤ j ∧ j < k + n) := by
  have h1 : ∀ (W : Vw) (i : Nat), (findV W i).isSome = true ↔ i ∈ W.map (·.1) := fun W i => by
    cases h : findV W i with
    | none => simp only [Option.isSome_none, Bool.false_eq_true, false_iff]; exact findV_none.1 h
    | some x =>
      obtain ⟨h1, h2⟩ := findV_key h
      simp only [Option.isSome_some, true_iff]
      exact List.mem_map.2 ⟨x, h1, h2⟩
  rw [h1, h1, key_map]
/-- Behind what went well. -/
def bindR (x : Vw × Int) (f : Vw → Vw × Int) : Vw × Int := if x.2 = 0 then f x.1 else x
theorem bindR_ok {x : Vw × Int} {f : Vw → Vw × Int} {V : Vw} (h : bindR x f = (V, 0)) : x.2 = 0 ∧ f x.1 = (V, 0) := by
  unfold bindR at h
  split at h
  · next h0 => exact ⟨h0, h⟩
  · next h0 => rw [h] at h0; exact absurd rfl h0
/-- A segment laid. -/
def segR (V : Vw) (b : List UInt8) (s : SegM) : Vw × Int :=
  if b.length < s.off ∨ b.length - s.off < s.filesz ∨ s.memsz < s.filesz ∨ 274877906944 < s.vaddr ∨ 274877906944 - s.vaddr < s.memsz then (V, 5)
  else if s.memsz = 0 then (V, 0) else bindR (mapR V s.vaddr s.memsz ((s.flags &&& 7 : Nat) : Int)) fun V1 => setR V1 s.vaddr ((b.drop s.off).take s.filesz)
/-- All that are loaded, one behind the other. -/
def segsR (b : List UInt8) : Vw → List SegM → Vw × Int
  | V, [] => (V, 0)
  | V, s :: l => if s.typ = 1 then bindR (segR V b s) fun V1 => segsR b V1 l else segsR b V l
theorem mapR_ok {V W : Vw} {a n : Nat} {r : Int} (h : mapR V a n r = (W, 0)) : 1 ≤ r ∧ r ≤ 7 ∧ n ≠ 0 ∧ a + n ≤ 18446744073709551616 ∧ W = mapV r.toNat V (a / 4096) ((a + n - 1) / 4096 + 1 - a / 4096) := by
  unfold mapR at h
  split at h
  · exact absurd (congrArg Prod.snd h) (by simp)
  · split at h
    · exact absurd (congrArg Prod.snd h) (by simp)
    · split at h
      · exact absurd (congrArg Prod.snd h) (by simp)
      · refine ⟨by omega, by omega, by omega, by omega, ?_⟩
        exact (congrArg Prod.fst h).symm
theorem setR_ok {V W : Vw} {a : Nat} {l : List UInt8} (h : setR V a l = (W, 0)) : mayV V a l.length 0 = true ∧ W = setV V a l := by
  unfold setR at h
  split at h
  · next hm => exact ⟨hm, (congrArg Prod.fst h).symm⟩
  · exact absurd (congrArg Prod.snd h) (by simp)
/-- What a laid segment leaves as it was, and what it makes. -/
theorem segR_ok {V W : Vw} {b : List UInt8} {s : SegM} (h : segR V b s = (W, 0)) :
    s.off + s.filesz ≤ b.length ∧ s.filesz ≤ s.memsz ∧ s.vaddr + s.memsz ≤ 274877906944 ∧
    (s.memsz = 0 ∧ W = V ∨ 0 < s.memsz ∧ 1 ≤ s.flags &&& 7 ∧ mayV (mapV (s.flags &&& 7) V (s.vaddr / 4096) ((s.vaddr + s.memsz - 1) / 4096 + 1 - s.vaddr / 4096)) s.vaddr ((b.drop s.off).take s.filesz).length 0 = true ∧ W = setV (mapV (s.flags &&& 7) V (s.vaddr / 4096) ((s.vaddr + s.memsz - 1) / 4096 + 1 - s.vaddr / 4096)) s.vaddr ((b.drop s.off).take s.filesz)) := by
  unfold segR at h
  split at h
  · exact absurd (congrArg Prod.snd h) (by simp)
  · next hc =>
    refine ⟨by omega, by omega, by omega, ?_⟩
    split at h
    · next h0 => exact .inl ⟨h0, (congrArg Prod.fst h).symm⟩
    · next h0 =>
      obtain ⟨h1, h2⟩ := bindR_ok h
      obtain ⟨m1, m2, m3, m4, m5⟩ := mapR_ok (W := (mapR V s.vaddr s.memsz ((s.flags &&& 7 : Nat) : Int)).1) (Prod.ext rfl h1)
      rw [Int.toNat_natCast] at m5
      obtain ⟨k1, k2⟩ := setR_ok h2
      rw [m5] at k1 k2
      exact .inr ⟨by omega, by omega, k1, k2⟩
theorem ok_add {V : Vw} (h : OkV V) {k r : Nat} (hk : k < 18446744073709551616) (hr : r < 8) : OkV (addP V k r) := by
  unfold addP
  split
  · next hm =>
    refine ⟨?_, fun x hx => ?_⟩
    · rw [List.map_map, show (fun x : Nat × Nat × List UInt8 => x.1) ∘ (fun x => if x.1 = k then (x.1, x.2.1 ||| r, x.2.2) else x) = (fun x => x.1) from funext fun x => by dsimp only [Function.comp]; split <;> rfl]
      exact h.nd
    · obtain ⟨y, hy, rfl⟩ := List.mem_map.1 hx
      have := h.pg y hy
      split
      · exact ⟨this.1, or_lt8 this.2.1 hr, this.2.2⟩
      · exact this
  · next hm =>
    refine ⟨?_, fun x hx => ?_⟩
    · rw [List.map_append]
      refine List.nodup_append.2 ⟨h.nd, by simp, fun a ha b hb => ?_⟩
      simp only [List.map_cons, List.map_nil, List.mem_singleton] at hb
      subst hb
      rintro rfl
      exact hm ha
    · rcases List.mem_append.1 hx with hx | hx
      · exact h.pg x hx
      · rw [List.mem_singleton] at hx
        subst hx
        exact ⟨hk, hr, zs_len⟩
theorem ok_map {r : Nat} (hr : r < 8) : ∀ (n : Nat) {V : Vw} (_ : OkV V) (k : Nat), k + n ≤ 18446744073709551616 → OkV (mapV r V k n)
  | 0, _, h, _, _ => h
  | n + 1, V, h, k, hk => by rw [mapV]; exact ok_map hr n (ok_add h (by omega) hr) (k + 1) (by omega)
theorem and7 (f : Nat) : f &&& 7 < 8 := Nat.lt_of_le_of_lt Nat.and_le_right (by decide)
theorem getV_none {V : Vw} {j : Nat} (h : findV V (j / 4096) = none) : getV V j = 0 := by unfold getV; rw [h]
theorem isSome_rights {V : Vw} {k : Nat} (h : findV V k = none) : rightsV V k = 0 := by unfold rightsV; rw [h]
/-- The pages of a stretch. -/
def pgs (a n k : Nat) : Prop := a / 4096 ≤ k ∧ k ≤ (a + n - 1) / 4096
/-- Nothing changes at some pages. -/
def Same (P : Nat → Prop) (V W : Vw) : Prop := (∀ k, P k → rightsV W k = rightsV V k ∧ (findV W k).isSome = (findV V k).isSome) ∧ ∀ j, P (j / 4096) → getV W j = getV V j
theorem Same.refl (P : Nat → Prop) (V : Vw) : Same P V V := ⟨fun _ _ => ⟨rfl, rfl⟩, fun _ _ => rfl⟩
theorem Same.trans {P : Nat → Prop} {V W X : Vw} (h : Same P V W) (k : Same P W X) : Same P V X := ⟨fun i hi => ⟨(k.1 i hi).1.trans (h.1 i hi).1, (k.1 i hi).2.trans (h.1 i hi).2⟩, fun j hj => (k.2 j hj).trans (h.2 j hj)⟩
theorem same_map {P : Nat → Prop} {V : Vw} {r a n : Nat} (hn : 0 < n) (h : ∀ k, P k → ¬ pgs a n k) : Same P V (mapV r V (a / 4096) ((a + n - 1) / 4096 + 1 - a / 4096)) := by
  have hle : a / 4096 ≤ (a + n - 1) / 4096 := Nat.div_le_div_right (by omega)
  refine ⟨fun k hk => ⟨?_, ?_⟩, fun j _ => getV_map _ _ _ _ _⟩
  · rw [rights_map, if_neg]
    intro hh
    exact h k hk ⟨hh.1, by omega⟩
  · rw [Bool.eq_iff_iff, some_map]
    constructor
    · rintro (h1 | h1)
      · exact h1
      · exact absurd ⟨h1.1, by omega⟩ (h k hk)
    · exact .inl
theorem same_set {P : Nat → Prop} {V : Vw} {l : List UInt8} {a : Nat} (ho : OkV V) (hm : mayV V a l.length 0 = true) (h : ∀ j, P (j / 4096) → ¬ (a ≤ j ∧ j < a + l.length)) : Same P V (setV V a l) := by
  refine ⟨fun k hk => ⟨rights_setV _ _ _ _, findV_setV_some _ _ _ _⟩, fun j hj => ?_⟩
  rw [getV_setV l ho a (fun i hi => (may_some hm hi).2), if_neg (h j hj)]
theorem pgs_of {a n j : Nat} (h1 : a ≤ j) (h2 : j < a + n) : pgs a n (j / 4096) := ⟨Nat.div_le_div_right h1, Nat.div_le_div_right (by omega)⟩
/-- A segment apart leaves some pages as they were. -/
theorem seg_off {P : Nat → Prop} {V W : Vw} {b : List UInt8} {s : SegM} (h : segR V b s = (W, 0)) (ho : OkV V) (hp : 0 < s.memsz → ∀ k, P k → ¬ pgs s.vaddr s.memsz k) : Same P V W ∧ OkV W := by
  obtain ⟨h1, h2, h3, ⟨_, rfl⟩ | ⟨h4, h5, h6, rfl⟩⟩ := segR_ok h
  · exact ⟨Same.refl _ _, ho⟩
  · have hom := ok_map (r := s.flags &&& 7) (and7 _) ((s.vaddr + s.memsz - 1) / 4096 + 1 - s.vaddr / 4096) ho (s.vaddr / 4096) (by omega)
    refine ⟨(same_map h4 (hp h4)).trans (same_set hom h6 fun j hj hh => hp h4 _ hj (pgs_of hh.1 ?_)), ok_setV _ hom _⟩
    have : ((b.drop s.off).take s.filesz).length ≤ s.filesz := List.length_take_le _ _
    omega
/-- A segment laid on pages that are not there. -/
theorem seg_on {V W : Vw} {b : List UInt8} {s : SegM} (h : segR V b s = (W, 0)) (ho : OkV V) (h0 : 0 < s.memsz) (hp : ∀ k, pgs s.vaddr s.memsz k → findV V k = none) :
    OkV W ∧ (∀ k, pgs s.vaddr s.memsz k → rightsV W k = s.flags &&& 7 ∧ (findV W k).isSome = true) ∧ ∀ i, i < s.memsz → getV W (s.vaddr + i) = if i < s.filesz then b[s.off + i]?.getD 0 else 0 := by
  obtain ⟨h1, h2, h3, ⟨h4, _⟩ | ⟨h4, h5, h6, rfl⟩⟩ := segR_ok h
  · omega
  · have hle : s.vaddr / 4096 ≤ (s.vaddr + s.memsz - 1) / 4096 := Nat.div_le_div_right (by omega)
    have hom := ok_map (r := s.flags &&& 7) (and7 _) ((s.vaddr + s.memsz - 1) / 4096 + 1 - s.vaddr / 4096) ho (s.vaddr / 4096) (by omega)
    have hl : ((b.drop s.off).take s.filesz).length = s.filesz := by rw [List.length_take, List.length_drop]; omega
    refine ⟨ok_setV _ hom _, fun k hk => ⟨?_, ?_⟩, fun i hi => ?_⟩
    · rw [rights_setV, rights_map, if_pos ⟨hk.1, by have := hk.2; omega⟩, isSome_rights (hp k hk), Nat.zero_or]
    · rw [findV_setV_some, some_map]
      exact .inr ⟨hk.1, by have := hk.2; omega⟩
    · rw [getV_setV _ hom _ (fun i hi => (may_some h6 hi).2), hl, getV_map, getV_none (hp _ (pgs_of (by omega) (by omega)))]
      by_cases hf : i < s.filesz
      · rw [if_pos ⟨by omega, by omega⟩, if_pos hf, Nat.add_sub_cancel_left, List.getElem?_take, if_pos hf, List.getElem?_drop]
      · rw [if_neg (by omega), if_neg hf]
/-- Segments apart leave some pages as they were. -/
theorem segs_off {P : Nat → Prop} {b : List UInt8} : ∀ (l : List SegM) {V W : Vw} (_ : segsR b V l = (W, 0)) (_ : OkV V) (_ : ∀ o ∈ l, o.typ = 1 → 0 < o.memsz → ∀ k, P k → ¬ pgs o.vaddr o.memsz k), Same P V W ∧ OkV W
  | [], V, W, h, ho, _ => by
    have : V = W := congrArg Prod.fst h
    subst this
    exact ⟨Same.refl _ _, ho⟩
  | s :: l, V, W, h, ho, hp => by
    rw [segsR] at h
    split at h
    · next ht =>
      obtain ⟨h1, h2⟩ := bindR_ok h
      obtain ⟨s1, o1⟩ := seg_off (W := (segR V b s).1) (Prod.ext rfl h1) ho (hp s (by simp) ht)
      obtain ⟨s2, o2⟩ := segs_off l h2 o1 (fun o hm => hp o (by simp [hm]))
      exact ⟨s1.trans s2, o2⟩
    · exact segs_off l h ho (fun o hm => hp o (by simp [hm]))
theorem segsR_append {b : List UInt8} : ∀ (l m : List SegM) {V W : Vw}, segsR b V (l ++ m) = (W, 0) → ∃ U, segsR b V l = (U, 0) ∧ segsR b U m = (W, 0)
  | [], m, V, W, h => ⟨V, rfl, h⟩
  | s :: l, m, V, W, h => by
    rw [List.cons_append, segsR] at h
    split at h
    · next ht =>
      obtain ⟨h1, h2⟩ := bindR_ok h
      obtain ⟨U, h3, h4⟩ := segsR_append l m h2
      exact ⟨U, by rw [segsR, if_pos ht]; unfold bindR; rw [if_pos h1]; exact h3, h4⟩
    · next ht =>
      obtain ⟨U, h3, h4⟩ := segsR_append l m h
      exact ⟨U, by rw [segsR, if_neg ht]; exact h3, h4⟩
/-- What is known of one segment that shares no page with others, behind all. -/
theorem segs_one {b : List UInt8} {l m : List SegM} {s : SegM} {W : Vw} (h : segsR b [] (l ++ s :: m) = (W, 0)) (ht : s.typ = 1) (h0 : 0 < s.memsz)
    (hp : ∀ o ∈ l ++ m, o.typ = 1 → 0 < o.memsz → ∀ k, pgs s.vaddr s.memsz k → ¬ pgs o.vaddr o.memsz k) :
    OkV W ∧ (∀ k, pgs s.vaddr s.memsz k → rightsV W k = s.flags &&& 7 ∧ (findV W k).isSome = true) ∧ (∀ i, i < s.memsz → getV W (s.vaddr + i) = if i < s.filesz then b[s.off + i]?.getD 0 else 0) ∧ s.vaddr + s.memsz ≤ 274877906944 ∧ s.off + s.filesz ≤ b.length ∧ s.filesz ≤ s.memsz := by
  obtain ⟨U, h1, h2⟩ := segsR_append l (s :: m) h
  have ho0 : OkV [] := ⟨by simp, fun x hx => by cases hx⟩
  obtain ⟨s1, o1⟩ := segs_off (P := pgs s.vaddr s.memsz) l h1 ho0 (fun o hm => hp o (by simp [hm]))
  rw [segsR, if_pos ht] at h2
  obtain ⟨h3, h4⟩ := bindR_ok h2
  have hs : segR U b s = ((segR U b s).1, 0) := Prod.ext rfl h3
  obtain ⟨o2, r2, g2⟩ := seg_on hs o1 h0 (fun k hk => by
    have := (s1.1 k hk).2
    cases hf : findV U k with
    | none => rfl
    | some x => rw [hf] at this; cases this)
  obtain ⟨s3, o3⟩ := segs_off (P := pgs s.vaddr s.memsz) m h4 o2 (fun o hm => hp o (by simp [hm]))
  obtain ⟨k1, k2, k3, _⟩ := segR_ok hs
  refine ⟨o3, fun k hk => ⟨(s3.1 k hk).1.trans (r2 k hk).1, (s3.1 k hk).2.trans (r2 k hk).2⟩, fun i hi => (s3.2 _ (pgs_of (by omega) (by omega))).trans (g2 i hi), k3, k1, k2⟩
end Go.Proofs.Ytmpelmjhimalpaa
namespace Go.Proofs.Ytmpelmjhimalpaa
open Go.RowKit Go.Fd
def seg0 : SegM := ⟨0, 0, 0, 0, 0, 0, 0⟩
def seg1 : SegM := ⟨0, 0, 0, 0, 0, 0, 1⟩
/-- The thread's segment. -/
def thR (size : Nat) : List SegM → Nat → SegM → SegM × Int
  | [], _, o => (o, 0)
  | s :: l, n, o => if s.typ = 7 then (if 1 ≤ n ∨ 1048576 < s.memsz then (seg0, 4) else if size < s.off ∨ size - s.off < s.filesz ∨ s.memsz < s.filesz then (seg0, 5) else thR size l (n + 1) s) else thR size l n o
/-- Where the block and the pointer are. -/
def blkR (t : Int) (size al : Nat) : Nat × Nat :=
  if t = 1 then (549755813888, 549755813888 + upN size al) else if t = 2 then (549755813888 + upN 16 al, 549755813888) else (549755813888, 549755813888)
def ptR (t : Int) (s : SegM) : Nat := if s.memsz = 0 then 549755813888 else (blkR t s.memsz (max s.align 1)).2
def blockR (V : Vw) (a : Nat) (b : List UInt8) (s : SegM) : Vw × Int :=
  if s.memsz = 0 then (V, 0) else bindR (mapR V a s.memsz 6) fun V1 => setR V1 a ((b.drop s.off).take s.filesz)
def pointR (V : Vw) (t : Int) (p : Nat) : Vw × Int :=
  bindR (mapR V p 8 6) fun V2 => if t = 1 then storeR V2 p 8 p else (V2, 0)
/-- The thread's block laid. -/
def layR (V : Vw) (t : Int) (b : List UInt8) (s : SegM) : Vw × Int :=
  bindR (blockR V (blkR t s.memsz (max s.align 1)).1 b s) fun V1 => pointR V1 t (ptR t s)
/-- All of a program laid. -/
def allR (t : Int) (b : List UInt8) (l : List SegM) : Vw × Int :=
  bindR (segsR b [] l) fun V1 => if (thR b.length l 0 seg1).2 = 0 then bindR (mapR V1 1099511562240 65536 6) fun V2 => layR V2 t b (thR b.length l 0 seg1).1 else (V1, (thR b.length l 0 seg1).2)
/-- A program read and laid: its error. -/
noncomputable def progR (b : List UInt8) : Vw × Int :=
  if (readE b).2 ≠ 0 then ([], (readE b).2) else if (readE b).1.typ ≠ 2 then ([], 4) else allR (readE b).1.target b (readE b).1.segs
/-- Behind a page's number all is far. -/
def low (k : Nat) : Prop := k < 134217728
theorem far_pgs {a n k : Nat} (ha : 549755813888 ≤ a) (h : low k) : ¬ pgs a n k := fun hp => by
  unfold pgs at hp
  unfold low at h
  have := hp.1
  omega
theorem mapR_low {V W : Vw} {a n : Nat} (h : mapR V a n 6 = (W, 0)) (ho : OkV V) (ha : 549755813888 ≤ a) : Same low V W ∧ OkV W := by
  obtain ⟨_, _, h3, h4, rfl⟩ := mapR_ok h
  exact ⟨same_map (by omega) fun k hk => far_pgs ha hk, ok_map (by decide) _ ho _ (by omega)⟩
theorem setV_low {V : Vw} {a : Nat} {l : List UInt8} (ho : OkV V) (hm : mayV V a l.length 0 = true) (ha : 549755813888 ≤ a) : Same low V (setV V a l) ∧ OkV (setV V a l) :=
  ⟨same_set ho hm fun j hj hh => by unfold low at hj; omega, ok_setV _ ho _⟩
theorem setR_low {V W : Vw} {a : Nat} {l : List UInt8} (h : setR V a l = (W, 0)) (ho : OkV V) (ha : 549755813888 ≤ a) : Same low V W ∧ OkV W := by
  obtain ⟨h1, rfl⟩ := setR_ok h
  exact setV_low ho h1 ha
theorem mayV_weak {V : Vw} {a n r : Nat} (h : mayV V a n r = true) : mayV V a n 0 = true := by
  rw [mayV_iff] at h ⊢
  rcases h with h | ⟨h1, h2⟩
  · exact .inl h
  · refine .inr ⟨h1, fun i hi => ?_⟩
    have := h2 i hi
    rw [okV_zero]
    unfold okV at this
    cases hf : findV V ((a + i) / 4096) with
    | none => rw [hf] at this; cases this
    | some x => rfl
theorem storeR_low {V W : Vw} {a : Nat} {n : Int} {x : Nat} (h : storeR V a n x = (W, 0)) (ho : OkV V) (ha : 549755813888 ≤ a) : Same low V W ∧ OkV W := by
  unfold storeR at h
  split at h
  · split at h
    · next h1 =>
      obtain rfl : setV V a (fixed x n.toNat) = W := congrArg Prod.fst h
      exact setV_low ho (by rw [length_fixed]; exact mayV_weak h1) ha
    · exact absurd (congrArg Prod.snd h) (by simp)
  · exact absurd (congrArg Prod.snd h) (by simp)
theorem blkR_ge (t : Int) (size al : Nat) : 549755813888 ≤ (blkR t size al).1 ∧ 549755813888 ≤ (blkR t size al).2 := by
  unfold blkR
  split
  · exact ⟨by simp, by simp⟩
  · split
    · exact ⟨by simp, by simp⟩
    · exact ⟨by simp, by simp⟩
theorem ptR_ge (t : Int) (s : SegM) : 549755813888 ≤ ptR t s := by
  unfold ptR
  split
  · exact Nat.le_refl _
  · exact (blkR_ge _ _ _).2
theorem layR_low {V W : Vw} {t : Int} {b : List UInt8} {s : SegM} (h : layR V t b s = (W, 0)) (ho : OkV V) : Same low V W ∧ OkV W := by
  obtain ⟨h1, h2⟩ := bindR_ok h
  have ha := (blkR_ge t s.memsz (max s.align 1)).1
  have hp := ptR_ge t s
  generalize (blkR t s.memsz (max s.align 1)).1 = a at h1 h2 ha
  generalize ptR t s = p at h2 hp
  have hb : Same low V (blockR V a b s).1 ∧ OkV (blockR V a b s).1 := by
    have hx : blockR V a b s = ((blockR V a b s).1, 0) := Prod.ext rfl h1
    generalize (blockR V a b s).1 = X at hx
    unfold blockR at hx
    split at hx
    · obtain rfl : V = X := congrArg Prod.fst hx
      exact ⟨Same.refl _ _, ho⟩
    · obtain ⟨k1, k2⟩ := bindR_ok hx
      obtain ⟨s1, o1⟩ := mapR_low (W := (mapR V a s.memsz 6).1) (Prod.ext rfl k1) ho ha
      obtain ⟨s2, o2⟩ := setR_low k2 o1 ha
      exact ⟨s1.trans s2, o2⟩
  obtain ⟨s1, o1⟩ := hb
  generalize (blockR V a b s).1 = X at h2 s1 o1
  obtain ⟨k1, k2⟩ := bindR_ok h2
  obtain ⟨s2, o2⟩ := mapR_low (W := (mapR X p 8 6).1) (Prod.ext rfl k1) o1 hp
  generalize (mapR X p 8 6).1 = Y at k2 s2 o2
  split at k2
  · obtain ⟨s3, o3⟩ := storeR_low k2 o2 hp
    exact ⟨s1.trans (s2.trans s3), o3⟩
  · obtain rfl : Y = W := congrArg Prod.fst k2
    exact ⟨s1.trans s2, o2⟩
/-- All that is laid behind the segments lies far. -/
theorem allR_low {t : Int} {b : List UInt8} {l : List SegM} {W : Vw} (h : allR t b l = (W, 0)) : ∃ U, segsR b [] l = (U, 0) ∧ (OkV U → Same low U W ∧ OkV W) := by
  obtain ⟨h1, h2⟩ := bindR_ok h
  refine ⟨(segsR b [] l).1, Prod.ext rfl h1, ?_⟩
  generalize (segsR b [] l).1 = U at h2
  intro ho
  split at h2
  · obtain ⟨k1, k2⟩ := bindR_ok h2
    obtain ⟨s1, o1⟩ := mapR_low (W := (mapR U 1099511562240 65536 6).1) (Prod.ext rfl k1) ho (by decide)
    obtain ⟨s2, o2⟩ := layR_low k2 o1
    exact ⟨s1.trans s2, o2⟩
  · next hn => exact absurd (congrArg Prod.snd h2) hn
/-- What stands at a segment that shares no page with others. -/
structure Laid (W : Vw) (b : List UInt8) (s : SegM) : Prop where
  ok : OkV W
  right : ∀ i, i < s.memsz → rightsV W ((s.vaddr + i) / 4096) = s.flags &&& 7
  get : ∀ i, i < s.memsz → getV W (s.vaddr + i) = if i < s.filesz then b[s.off + i]?.getD 0 else 0
  top : s.vaddr + s.memsz ≤ 274877906944
  len : s.off + s.filesz ≤ b.length
  le : s.filesz ≤ s.memsz
theorem all_one {t : Int} {b : List UInt8} {l m : List SegM} {s : SegM} {W : Vw} (h : allR t b (l ++ s :: m) = (W, 0)) (ht : s.typ = 1) (h0 : 0 < s.memsz)
    (hp : ∀ o ∈ l ++ m, o.typ = 1 → 0 < o.memsz → ∀ k, pgs s.vaddr s.memsz k → ¬ pgs o.vaddr o.memsz k) : Laid W b s := by
  obtain ⟨U, h1, h2⟩ := allR_low h
  obtain ⟨k1, k2, k3, k4, k5, k6⟩ := segs_one h1 ht h0 hp
  obtain ⟨s1, o1⟩ := h2 k1
  have hlow : ∀ i, i < s.memsz → low ((s.vaddr + i) / 4096) := fun i hi => by unfold low; omega
  exact ⟨o1, fun i hi => ((s1.1 _ (hlow i hi)).1).trans (k2 _ (pgs_of (by omega) (by omega))).1, fun i hi => (s1.2 _ (hlow i hi)).trans (k3 i hi), k4, k5, k6⟩
theorem may_flag {W : Vw} {b : List UInt8} {s : SegM} (h : Laid W b s) (q n : Nat) (hq : q ≠ 0) (h7 : q &&& 7 = q) (hn : 0 < n) (hle : n ≤ s.memsz) : mayV W s.vaddr n q = (s.flags &&& q == q) := by
  have e1 : ∀ i, i < n → okV q (findV W ((s.vaddr + i) / 4096)) = (s.flags &&& q == q) := fun i hi => by
    rw [okV_rights hq, h.right i (by omega), Nat.and_assoc, Nat.and_comm 7 q, h7]
  rw [Bool.eq_iff_iff, mayV_iff]
  constructor
  · rintro (h1 | ⟨_, h1⟩)
    · omega
    · rw [← e1 0 hn]; exact h1 0 hn
  · intro h1
    have := h.top
    exact .inr ⟨by omega, fun i hi => by rw [e1 i hi]; exact h1⟩
end Go.Proofs.Ytmpelmjhimalpaa
namespace Go.Proofs.Ytmpelmjhimalpaa
open Go.RowKit Go.Fd
section
variable {t : Int} {d : List UInt8} {size al : Nat}
theorem bytesV_ext {V : Vw} {a n : Nat} {l : List UInt8} (hl : l.length = n) (h : ∀ i, i < n → getV V (a + i) = l[i]?.getD 0) : bytesV V a n = l := by
  apply List.ext_getElem?
  intro i
  rcases Nat.lt_or_ge i n with hi | hi
  · have h1 := h i hi
    unfold bytesV
    rw [List.getElem?_map, List.getElem?_range hi, Option.map_some, h1, List.getElem?_eq_getElem (by omega)]
    rfl
  · rw [List.getElem?_eq_none (by rw [bytesV_len]; exact hi), List.getElem?_eq_none (by omega)]
end
end Go.Proofs.Ytmpelmjhimalpaa
namespace Go.Proofs.Ytmpelmjhimalpaa
open Go.RowKit Go.Fd
theorem length_addP (V : Vw) (k r : Nat) : (addP V k r).length ≤ V.length + 1 := by
  unfold addP
  split
  · rw [List.length_map]; omega
  · rw [List.length_append, List.length_singleton]; omega
theorem length_mapV (r : Nat) : ∀ (n : Nat) (V : Vw) (k : Nat), (mapV r V k n).length ≤ V.length + n
  | 0, _, _ => Nat.le_refl _
  | n + 1, V, k => by
    rw [mapV]
    have h1 := length_mapV r n (addP V k r) (k + 1)
    have h2 := length_addP V k r
    omega
theorem length_mapR (V : Vw) (a n : Nat) (r : Int) : (mapR V a n r).1.length ≤ V.length + 4097 := by
  unfold mapR
  split
  · dsimp only; omega
  · split
    · dsimp only; omega
    · split
      · dsimp only; omega
      · next h =>
        unfold longV at h
        simp only [Bool.or_eq_true, decide_eq_true_eq] at h
        dsimp only
        have := length_mapV r.toNat ((a + n - 1) / 4096 + 1 - a / 4096) V (a / 4096)
        omega
theorem length_setV : ∀ (l : List UInt8) (V : Vw) (a : Nat), (setV V a l).length = V.length
  | [], _, _ => rfl
  | x :: l, V, a => by rw [setV, length_setV l]; unfold setBV; exact List.length_map _
theorem length_setR (V : Vw) (a : Nat) (l : List UInt8) : (setR V a l).1.length = V.length := by
  unfold setR
  split
  · exact length_setV _ _ _
  · rfl
theorem length_bind {x : Vw × Int} {f : Vw → Vw × Int} {m n : Nat} (hx : x.1.length ≤ m) (hf : ∀ V : Vw, V.length ≤ m → (f V).1.length ≤ n) (hmn : m ≤ n) : (bindR x f).1.length ≤ n := by
  unfold bindR
  split
  · exact hf _ hx
  · exact Nat.le_trans hx hmn
theorem length_segR (V : Vw) (b : List UInt8) (s : SegM) : (segR V b s).1.length ≤ V.length + 4097 := by
  unfold segR
  split
  · dsimp only; omega
  · split
    · dsimp only; omega
    · exact length_bind (length_mapR _ _ _ _) (fun W hW => by rw [length_setR]; exact hW) (Nat.le_refl _)
theorem has_bits (f q : Nat) (hq : q = 2 ∨ q = 4) : f &&& q = q ↔ f &&& q ≠ 0 := by
  rcases hq with rfl | rfl
  · have : f &&& 2 = f / 2 % 2 * 2 := by
      apply Nat.eq_of_testBit_eq
      intro i
      rw [Nat.testBit_and, show (2 : Nat) = 2 ^ 1 from rfl, Nat.testBit_two_pow]
      rcases Nat.lt_trichotomy i 1 with h | h | h
      · obtain rfl : i = 0 := by omega
        simp [Nat.testBit_zero]
      · subst h
        simp [Nat.testBit, Nat.shiftRight_eq_div_pow]
      · have h1 : ¬ 1 = i := by omega
        simp only [h1, decide_false, Bool.and_false]
        symm
        apply Nat.testBit_lt_two_pow
        calc f / 2 ^ 1 % 2 ^ 1 * 2 ^ 1 < 4 := by omega
          _ ≤ 2 ^ i := by rw [show (4 : Nat) = 2 ^ 2 from rfl]; exact Nat.pow_le_pow_right (by decide) (by omega)
    omega
  · have : f &&& 4 = f / 4 % 2 * 4 := by
      apply Nat.eq_of_testBit_eq
      intro i
      rw [Nat.testBit_and, show (4 : Nat) = 2 ^ 2 from rfl, Nat.testBit_two_pow]
      rw [Nat.testBit_mul_two_pow]
      rcases Nat.lt_trichotomy i 2 with h | h | h
      · have h1 : ¬ 2 = i := by omega
        have h2 : ¬ 2 ≤ i := by omega
        simp [h1, h2]
      · subst h
        simp [Nat.testBit, Nat.shiftRight_eq_div_pow]
      · have h1 : ¬ 2 = i := by omega
        simp only [h1, decide_false, Bool.and_false]
        symm
        rw [Bool.and_eq_false_iff]
        right
        apply Nat.testBit_lt_two_pow
        calc f / 2 ^ 2 % 2 < 2 ^ 1 := by omega
          _ ≤ 2 ^ (i - 2) := Nat.pow_le_pow_right (by decide) (by omega)
    omega
/-- The byte that the law stores. -/
def firstB (b : List UInt8) (s : SegM) : UInt8 := if s.filesz = 0 then 0 else b[s.off]?.getD 0
theorem fixed_one (x : UInt8) : fixed x.toNat 1 = [x] := by
  simp [fixed]
theorem laid_store {W : Vw} {b : List UInt8} {s : SegM} (h : Laid W b s) (h0 : 0 < s.memsz) :
    (storeR W s.vaddr 1 (firstB b s).toNat).2 = (if s.flags &&& 2 = 0 then 21 else 0) ∧ Laid (storeR W s.vaddr 1 (firstB b s).toNat).1 b s := by
  have hm := may_flag h 2 1 (by decide) (by decide) (by decide) (by omega)
  unfold storeR
  rw [if_pos (by decide)]
  show ((if mayV W s.vaddr 1 2 = true then (setV W s.vaddr (fixed (firstB b s).toNat 1), 0) else (W, 21) : Vw × Int)).2 = _ ∧ Laid ((if mayV W s.vaddr 1 2 = true then (setV W s.vaddr (fixed (firstB b s).toNat 1), 0) else (W, 21) : Vw × Int)).1 b s
  rw [fixed_one]
  by_cases hf : s.flags &&& 2 = 0
  · rw [hm, hf, if_neg (by decide), if_pos rfl]
    exact ⟨rfl, h⟩
  · have h2 := (has_bits s.flags 2 (.inl rfl)).2 hf
    have hm' : mayV W s.vaddr 1 2 = true := by rw [hm, h2]; rfl
    rw [if_pos hm', if_neg hf]
    refine ⟨rfl, ok_setV _ h.ok _, fun i hi => by rw [rights_setV]; exact h.right i hi, fun i hi => ?_, h.top, h.len, h.le⟩
    dsimp only
    rw [getV_setV _ h.ok _ (fun i hi => (may_some (mayV_weak hm') hi).2)]
    split
    · next hh =>
      obtain rfl : i = 0 := by rw [List.length_singleton] at hh; omega
      rw [Nat.add_zero, Nat.sub_self, Nat.add_zero]
      show firstB b s = _
      unfold firstB
      split
      · next h3 => rw [if_neg (by omega)]
      · next h3 => rw [if_pos (by omega)]
    · exact h.get i hi
theorem laid_bytes {W : Vw} {b : List UInt8} {s : SegM} (h : Laid W b s) (h0 : 0 < s.memsz) (hle : s.memsz ≤ 8192) :
    (s.flags &&& 4 = 0 → bytesR W s.vaddr s.memsz = ([], 21)) ∧ (s.flags &&& 4 ≠ 0 → bytesR W s.vaddr s.memsz = ((List.range s.memsz).map (fun i => if i < s.filesz then b[s.off + i]?.getD 0 else 0), 0)) := by
  have hm := may_flag h 4 s.memsz (by decide) (by decide) h0 (Nat.le_refl _)
  unfold bytesR
  rw [if_neg (by omega), Int.toNat_natCast, hm]
  refine ⟨fun hf => by rw [hf]; rfl, fun hf => ?_⟩
  rw [(has_bits s.flags 4 (.inr rfl)).2 hf, if_pos (by decide)]
  refine congrArg (fun z => (z, (0 : Int))) (bytesV_ext (by simp) fun i hi => ?_)
  rw [h.get i hi, List.getElem?_map, List.getElem?_range hi]
  rfl
end Go.Proofs.Ytmpelmjhimalpaa
namespace Go.Proofs.Ytmpelmjhimalpaa
open Go.RowKit Go.Fd
theorem Mem.near {w : World} {base bp : Nat} {F : Nat → Prop} {V : Vw} (h : Mem w base bp F V) : Mem w base bp (fun k => F k ∧ base ≤ k ∧ k < w.heap.size) V := by
  obtain ⟨bm, L, h1, h2, h3⟩ := h
  exact ⟨bm, L, h1, h2, fun k hk => ⟨h3 k hk, foot_base h1 k hk⟩⟩
/-- A slice's part lies in the same block. -/
theorem run_sliceBK {w : World} {v : Value} {l : List UInt8} (hv : Bs w v l) {i j : Int} {k k' : IntKind} (h0 : 0 ≤ i) (h1 : i ≤ j) (h2 : j ≤ l.length) :
    ∃ v', (∀ w', (Instr.sliceAt 22 v (some (.int k i)) (some (.int k' j)) none).run Try.prog w' = .ok v' w') ∧ Bs w v' ((l.drop i.toNat).take (j - i).toNat) ∧ ∀ b, v'.ownBlock = some b → v.ownBlock = some b := by
  obtain ⟨v', hr, hb⟩ := run_sliceB hv (k := k) (k' := k') h0 h1 h2
  refine ⟨v', hr, hb, ?_⟩
  obtain ⟨hl, a, cap, rfl, hcap, h00, hc⟩ := hv
  obtain ⟨ti, z, e1, e2, e3, e4, e5⟩ := TB.info
  have hn : (l.map B).length = l.length := List.length_map _
  have r1 : (Instr.sliceBound (.int k' j) cap .sliceAcap).run Try.prog w = .ok j.toNat w := run_sliceBound' _ _ _ _ (by omega) (by omega)
  have r2 : (Instr.sliceBound (.int k i) j.toNat .sliceB).run Try.prog w = .ok i.toNat w := run_sliceBound' _ _ _ _ (by omega) (by omega)
  have h := hr w
  simp [Instr.sliceAt, Instr.slice, run_underlying TB.ht, Instr.sliceBounds, r1, r2, sizeOf, typeInfo, e1, e3] at h
  subst h
  intro b hb
  cases a with
  | none => simp [Value.ownBlock] at hb
  | some x =>
    split at hb
    · exact hb
    · simp [Value.ownBlock, Addr.add] at hb ⊢
      split at hb <;> exact hb
theorem and7_run {f : Nat} (hf : f < 4294967296) : wrap64 (bits .and .u32 (f : Int) 7) = ((f &&& 7 : Nat) : Int) := by
  have h1 : bits .and .u32 (f : Int) 7 = ((f &&& 7 : Nat) : Int) := by
    have hx : f &&& 7 < 4294967296 := Nat.lt_of_lt_of_le (and7 f) (by decide)
    have h1 : (BitVec.ofInt 32 (f : Int)).toNat = f := by
      rw [BitVec.ofInt_natCast, BitVec.toNat_ofNat]; exact Nat.mod_eq_of_lt (by omega)
    have h2 : (BitVec.ofInt 32 ((7 : Nat) : Int)).toNat = 7 := rfl
    show IntKind.u32.wrap ((BitVec.ofInt 32 (f : Int) &&& BitVec.ofInt 32 ((7 : Nat) : Int)).toNat : Int) = _
    rw [BitVec.toNat_and, h1, h2]
    simp [IntKind.wrap, IntKind.bits, IntKind.signed]
    omega
  have := and7 f
  rw [h1]
  unfold wrap64
  omega
theorem seg_more {w w1 : World} {base : Nat} {F : Nat → Prop} (hb : Below w.heap.size w w1) : ∀ k, more (fun k => F k ∧ base ≤ k ∧ k < w.heap.size) w1 k → more F w k := fun k hk => by
  rcases hk with hk | hk
  · exact .inl hk.1
  · exact .inr (Nat.le_trans hb.size hk)
theorem seg_stirs {w w1 w2 : World} {base : Nat} {F : Nat → Prop} (hb : Below w.heap.size w w1) (hs : Stirs (fun k => F k ∧ base ≤ k ∧ k < w.heap.size) w1 w2) : Stirs F w w2 :=
  (Stirs.of_below hb).trans hs fun _ _ h => h.1
theorem seg_apart {w w1 : World} {base k : Nat} {F : Nat → Prop} (hb : Below w.heap.size w w1) (hk : k < w.heap.size) (hF : ¬ F k) : ¬ more (fun k => F k ∧ base ≤ k ∧ k < w.heap.size) w1 k := fun h =>
  (seg_more hb k h).elim hF fun h => absurd hk (Nat.not_lt.2 h)
set_option maxRecDepth 100000 in
theorem ldUp_any (n t : Nat) (w : World) (hn : n ≤ 1048576) (ht : 1 ≤ t) (ht2 : t ≤ 65536) :
    Calls Try.prog 83 #[.int .u64 n, .int .u64 t] w fun e w' => e = .returned (.int .u64 (upN n t)) ∧ w = w' := by
  have HU : Hid (IntKind.u64.wrap (((n : Int) + t - 1) / t * t) = ((upN n t : Nat) : Int)) := by
    have e : (n : Int) + t - 1 = ((n + t - 1 : Nat) : Int) := by omega
    have hl := upN_le (n := n) ht
    show _ = _
    rw [e, ← Int.natCast_ediv, ← Int.natCast_mul]
    show IntKind.u64.wrap ((upN n t : Nat) : Int) = _
    generalize upN n t = u at *
    rw [IntKind.wrap_u64]
    omega
  go_enter Try.func83, Try.ntmps83
  go_wp2
  go_ret
  exact ⟨by rw [← HU.out]; rfl, rfl⟩
set_option maxRecDepth 100000 in
theorem ldBlock_any (t : Int) (n a : Nat) (w : World) (hn : n ≤ 1048576) (ha : 1 ≤ a) (ha2 : a ≤ 65536) :
    Calls Try.prog 74 #[.int .i64 t, .int .u64 n, .int .u64 a] w fun e w' => e = .returned (.tuple #[.int .u64 ((blkR t n a).1 : Nat), .int .u64 ((blkR t n a).2 : Nat)]) ∧ w = w' := by
  have hl1 := upN_le (n := n) ha
  have hl2 := upN_le (n := 16) ha
  have HU := Lib.hid (fun wx => ldUp_any n a wx hn ha ha2)
  have HU2 := Lib.hid (fun wx => ldUp_any 16 a wx (by decide) ha ha2)
  by_cases h1 : t = 1
  · have HR : Hid (blkR t n a = (549755813888, 549755813888 + upN n a)) := by unfold blkR; rw [Hid, if_pos h1]
    subst h1
    generalize upN n a = u at *
    go_enter Try.func74, Try.ntmps74
    go_wp2_with (go_at_call 83; go_must (refine (HU.out _).mono ?_; rintro e w1 ⟨rfl, rfl⟩))
    go_ret2
    exact ⟨by rw [HR.out]; simp, rfl⟩
  · have b1 : (t == 1) = false := by simpa using h1
    by_cases h2 : t = 2
    · have HR : Hid (blkR t n a = (549755813888 + upN 16 a, 549755813888)) := by unfold blkR; rw [Hid, if_neg h1, if_pos h2]
      subst h2
      generalize upN 16 a = u at *
      go_enter Try.func74, Try.ntmps74
      go_wp2_with (go_at_call 83; go_must (refine (HU2.out _).mono ?_; rintro e w1 ⟨rfl, rfl⟩))
      go_ret2
      exact ⟨by rw [HR.out]; simp, rfl⟩
    · have b2 : (t == 2) = false := by simpa using h2
      have HR : Hid (blkR t n a = (549755813888, 549755813888)) := by unfold blkR; rw [Hid, if_neg h1, if_neg h2]
      go_enter Try.func74, Try.ntmps74
      go_wp2
      go_ret2
      exact ⟨by rw [HR.out]; simp, rfl⟩
set_option maxHeartbeats 1000000 in
set_option maxRecDepth 100000 in
theorem ldSegment_any {base bp : Nat} {F : Nat → Prop} {V : Vw} (w : World) (h : Mem w base bp F V) (hbase : base ≤ w.heap.size) (hL : V.length ≤ 900000) (v : Value) (l : List UInt8) (hv : Bs w v l) (hl : l.length ≤ 1000000000) (hF : ∀ k, v.ownBlock = some k → ¬ F k) (hvb : ∀ k, v.ownBlock = some k → k < w.heap.size) (s : SegM) (hs : s.fits) :
    Calls Try.prog 56 #[ptr bp, v, .agg (encSeg s).toArray] w fun e w' => e = .returned (.int .i64 (segR V l s).2) ∧ Mem w' base bp (more F w) (segR V l s).1 ∧ Stirs F w w' := by
  have HV := Lib.hid hv
  obtain ⟨m, ad, cap, hm, rfl, hmc, _⟩ := hv.shape
  have hm9 : m ≤ 1000000000 := by have := hm.out; omega
  have HM := Lib.hid h.near
  obtain ⟨f1, f2, f3, f4, f5, f6, f7⟩ := hs
  clear hv h
  by_cases b1 : m < s.off
  · have HR : Hid (segR V l s = (V, 5)) := by
      have := hm.out
      unfold segR
      rw [Hid, if_pos (by omega)]
    go_enter Try.func56, Try.ntmps56
    go_wp2_with ((with_reducible show wpList _ _ _ (⟨_, .box _ _, _, _, _, _⟩ :: _) _ _); go_must (refine wpList_box rfl ?_; intro w1 hx1 hb1 hs1; obtain ⟨c0, c1, c2, c3, c4, c5, c6⟩ := seg_box (x := s) hx1))
    go_ret
    exact ⟨by rw [HR.out]; rfl, by rw [HR.out]; exact (HM.out.mono hb1).weak fun k hk => .inl hk.1, Stirs.of_below hb1⟩
  · skip
    by_cases b2 : (m : Int) - s.off < s.filesz
    · have HR : Hid (segR V l s = (V, 5)) := by
        have := hm.out
        unfold segR
        rw [Hid, if_pos (by omega)]
      go_enter Try.func56, Try.ntmps56
      go_wp2_with ((with_reducible show wpList _ _ _ (⟨_, .box _ _, _, _, _, _⟩ :: _) _ _); go_must (refine wpList_box rfl ?_; intro w1 hx1 hb1 hs1; obtain ⟨c0, c1, c2, c3, c4, c5, c6⟩ := seg_box (x := s) hx1))
      go_ret
      exact ⟨by rw [HR.out]; rfl, by rw [HR.out]; exact (HM.out.mono hb1).weak fun k hk => .inl hk.1, Stirs.of_below hb1⟩
    · skip
      by_cases b3 : s.memsz < s.filesz
      · have HR : Hid (segR V l s = (V, 5)) := by
          have := hm.out
          unfold segR
          rw [Hid, if_pos (by omega)]
        go_enter Try.func56, Try.ntmps56
        go_wp2_with ((with_reducible show wpList _ _ _ (⟨_, .box _ _, _, _, _, _⟩ :: _) _ _); go_must (refine wpList_box rfl ?_; intro w1 hx1 hb1 hs1; obtain ⟨c0, c1, c2, c3, c4, c5, c6⟩ := seg_box (x := s) hx1))
        go_ret
        exact ⟨by rw [HR.out]; rfl, by rw [HR.out]; exact (HM.out.mono hb1).weak fun k hk => .inl hk.1, Stirs.of_below hb1⟩
      · skip
        by_cases b4 : 274877906944 < s.vaddr
        · have HR : Hid (segR V l s = (V, 5)) := by
            have := hm.out
            unfold segR
            rw [Hid, if_pos (by omega)]
          go_enter Try.func56, Try.ntmps56
          go_wp2_with ((with_reducible show wpList _ _ _ (⟨_, .box _ _, _, _, _, _⟩ :: _) _ _); go_must (refine wpList_box rfl ?_; intro w1 hx1 hb1 hs1; obtain ⟨c0, c1, c2, c3, c4, c5, c6⟩ := seg_box (x := s) hx1))
          go_ret
          exact ⟨by rw [HR.out]; rfl, by rw [HR.out]; exact (HM.out.mono hb1).weak fun k hk => .inl hk.1, Stirs.of_below hb1⟩
        · skip
          by_cases b5 : (274877906944 : Int) - s.vaddr < s.memsz
          · have HR : Hid (segR V l s = (V, 5)) := by
              have := hm.out
              unfold segR
              rw [Hid, if_pos (by omega)]
            go_enter Try.func56, Try.ntmps56
            go_wp2_with ((with_reducible show wpList _ _ _ (⟨_, .box _ _, _, _, _, _⟩ :: _) _ _); go_must (refine wpList_box rfl ?_; intro w1 hx1 hb1 hs1; obtain ⟨c0, c1, c2, c3, c4, c5, c6⟩ := seg_box (x := s) hx1))
            go_ret
            exact ⟨by rw [HR.out]; rfl, by rw [HR.out]; exact (HM.out.mono hb1).weak fun k hk => .inl hk.1, Stirs.of_below hb1⟩
          · skip
            by_cases h0 : s.memsz = 0
            · have HR : Hid (segR V l s = (V, 0)) := by
                have := hm.out
                unfold segR
                rw [Hid, if_neg (by omega), if_pos h0]
              go_enter Try.func56, Try.ntmps56
              go_wp2_with ((with_reducible show wpList _ _ _ (⟨_, .box _ _, _, _, _, _⟩ :: _) _ _); go_must (refine wpList_box rfl ?_; intro w1 hx1 hb1 hs1; obtain ⟨c0, c1, c2, c3, c4, c5, c6⟩ := seg_box (x := s) hx1))
              go_ret
              exact ⟨by rw [HR.out]; rfl, by rw [HR.out]; exact (HM.out.mono hb1).weak fun k hk => .inl hk.1, Stirs.of_below hb1⟩
            · have HR : Hid (segR V l s = bindR (mapR V s.vaddr s.memsz ((s.flags &&& 7 : Nat) : Int)) fun V1 => setR V1 s.vaddr ((l.drop s.off).take s.filesz)) := by
                have := hm.out
                unfold segR
                rw [Hid, if_neg (by omega), if_neg h0]
              have hfl := and7 s.flags
              have HAND : Hid (wrap64 (bits .and .u32 (s.flags : Int) 7) = ((s.flags &&& 7 : Nat) : Int)) := and7_run f2
              have HR1 : Hid ((mapR V s.vaddr s.memsz ((s.flags &&& 7 : Nat) : Int)).2 ≠ 0 → segR V l s = mapR V s.vaddr s.memsz ((s.flags &&& 7 : Nat) : Int)) := fun h => by rw [HR.out]; unfold bindR; rw [if_neg h]
              have HR2 : Hid ((mapR V s.vaddr s.memsz ((s.flags &&& 7 : Nat) : Int)).2 = 0 → segR V l s = setR (mapR V s.vaddr s.memsz ((s.flags &&& 7 : Nat) : Int)).1 s.vaddr ((l.drop s.off).take s.filesz)) := fun h => by rw [HR.out]; unfold bindR; rw [if_pos h]
              have HMAP := Lib.hid (fun (wx : World) (hb : Below w.heap.size w wx) => map_mem wx (HM.out.mono hb) (Nat.le_trans hbase hb.size) (by omega) s.vaddr s.memsz ((s.flags &&& 7 : Nat) : Int) f4 f6)
              generalize mapR V s.vaddr s.memsz ((s.flags &&& 7 : Nat) : Int) = mr at *
              obtain ⟨V1, r1⟩ := mr
              by_cases hr1 : r1 = 0
              · subst hr1
                have HR3 := Lib.hid (HR2.out rfl)
                obtain ⟨v', hrun, hbs, hown⟩ := run_sliceBK HV.out (i := (s.off : Int)) (j := (s.off : Int) + s.filesz) (k := .u64) (k' := .u64) (by omega) (by omega) (by have := hm.out; omega)
                rw [show ((s.off : Int) + s.filesz - s.off).toNat = s.filesz by omega, Int.toNat_natCast] at hbs
                have HRUN := Lib.hid hrun
                have HBS := Lib.hid hbs
                have HOWN := Lib.hid hown
                have HLN := Lib.hid (show ((l.drop s.off).take s.filesz).length ≤ 1000000000 by rw [List.length_take, List.length_drop]; omega)
                clear hrun hbs hown HR1 HR2 HR
                generalize (l.drop s.off).take s.filesz = d at *
                go_enter Try.func56, Try.ntmps56
                go_wp2_with (first
                  | ((with_reducible show wpList _ _ _ (⟨_, .box _ _, _, _, _, _⟩ :: _) _ _); go_must (refine wpList_box rfl ?_; intro w1 hx1 hb1 hs1; obtain ⟨c0, c1, c2, c3, c4, c5, c6⟩ := seg_box (x := s) hx1; have HB1 := Lib.hid hb1; have HX1 := Lib.hid hx1; clear hx1 hb1))
                  | (go_at_call 32; rw [HAND.out]; go_must (refine (HMAP.out _ HB1.out).mono ?_; rintro e w2 ⟨rfl, hm2, hs2⟩; have HM2 := Lib.hid hm2; have HS2 := Lib.hid hs2; have hk2 := hs2.kept HX1.out (fun h => absurd h.2.2 (Nat.lt_irrefl _)); obtain ⟨d0, d1, d2, d3, d4, d5, d6⟩ := seg_box (x := s) hk2; clear hm2 hs2 hk2 c0 c1 c2 c3 c4 c5 c6)))
                refine wp_region_walk 12 [(11, .is v')] (by kernel_rfl) (by kernel_rfl) ?_
                simp only [List.take_succ_cons, List.take_zero, List.drop_succ_cons, List.drop_zero]
                try go_frame
                have l0 := block_lt d0
                have hAB := fun (x : Above w2) (b k : Nat) (h : b < w2.heap.size) => Above.cell x b k h
                repeat (first
                  | (refine walk_quiet rfl rfl rfl ?_; intro K hK; go_big_quiet_op; go_big_quiet_on)
                  | (refine walk_skip rfl ?_; go_frame)
                  | (refine walk_is rfl rfl (fun wx hwx _ => WpYld.val (exec_slice2 HRUN.out rfl rfl rfl) ⟨(), rfl, trivial⟩ (Below.refl _ _)) ?_; go_frame))
                refine walk_nil ?_
                intro wz hbz hF'
                clear hF' hAB l0 d0 d1 d2 d3 d4 d5 d6
                have HZ := Lib.hid hbz
                have HBS2 := Lib.hid (Reads.stirs (HBS.out.mono HB1.out) HS2.out (fun k hk h => hF k (HOWN.out k hk) h.1))
                clear hbz
                have HSET := Lib.hid (set_mem wz (HM2.out.mono HZ.out) v' d (HBS2.out.mono HZ.out) HLN.out (fun k hk h => seg_apart HB1.out (hvb k (HOWN.out k hk)) (hF k (HOWN.out k hk)) h) s.vaddr f4)
                go_wp2_with (go_at_call 35; go_must (refine HSET.out.mono ?_; rintro e w3 ⟨rfl, hm3, hs3⟩; have HM3 := Lib.hid hm3; have HS3 := Lib.hid hs3; clear hm3 hs3))
                go_ret
                exact ⟨by rw [HR3.out]; rfl, by rw [HR3.out]; exact HM3.out.weak (seg_more HB1.out), (seg_stirs HB1.out HS2.out).trans ((Stirs.of_below HZ.out).trans HS3.out fun _ _ h => h) fun i hi h => (seg_more HB1.out i h).elim id fun h => absurd hi (Nat.not_lt.2 h)⟩
              · have HR3 := Lib.hid (HR1.out hr1)
                have hb1' : (r1 != 0) = true := by simpa using hr1
                go_enter Try.func56, Try.ntmps56
                go_wp2_with (first
                  | ((with_reducible show wpList _ _ _ (⟨_, .box _ _, _, _, _, _⟩ :: _) _ _); go_must (refine wpList_box rfl ?_; intro w1 hx1 hb1 hs1; obtain ⟨c0, c1, c2, c3, c4, c5, c6⟩ := seg_box (x := s) hx1; have HB1 := Lib.hid hb1; have HX1 := Lib.hid hx1; clear hx1 hb1))
                  | (go_at_call 32; rw [HAND.out]; go_must (refine (HMAP.out _ HB1.out).mono ?_; rintro e w2 ⟨rfl, hm2, hs2⟩; have HM2 := Lib.hid hm2; have HS2 := Lib.hid hs2; clear hm2 hs2 c0 c1 c2 c3 c4 c5 c6)))
                go_ret
                exact ⟨by rw [HR3.out]; rfl, by rw [HR3.out]; exact HM2.out.weak (seg_more HB1.out), seg_stirs HB1.out HS2.out⟩
end Go.Proofs.Ytmpelmjhimalpaa
namespace Go.Proofs.Ytmpelmjhimalpaa
open Go.RowKit Go.Fd
theorem more_step {F FA : Nat → Prop} {w wA : World} (hFA : ∀ k, FA k → more F w k) (hs : w.heap.size ≤ wA.heap.size) : ∀ k, more FA wA k → more F w k := fun k hk => hk.elim (hFA k) fun h => .inr (Nat.le_trans hs h)
theorem stirs_step {F FA : Nat → Prop} {w wA wB : World} (h : Stirs F w wA) (k : Stirs FA wA wB) (hFA : ∀ k, FA k → more F w k) : Stirs F w wB :=
  h.trans k fun i hi h => (hFA i h).elim id fun h => absurd hi (Nat.not_lt.2 h)
theorem lay_ok {V V1 : Vw} {t : Int} {b : List UInt8} {s : SegM} (h : blockR V (blkR t s.memsz (max s.align 1)).1 b s = (V1, 0)) : layR V t b s = pointR V1 t (ptR t s) := by
  unfold layR
  rw [h]
  rfl
theorem lay_no {V V1 : Vw} {r : Int} {t : Int} {b : List UInt8} {s : SegM} (hr : r ≠ 0) (h : blockR V (blkR t s.memsz (max s.align 1)).1 b s = (V1, r)) : layR V t b s = (V1, r) := by
  unfold layR
  rw [h]
  unfold bindR
  rw [if_neg hr]
theorem point_no {V V1 : Vw} {r : Int} {t : Int} {p : Nat} (hr : r ≠ 0) (h : mapR V p 8 6 = (V1, r)) : pointR V t p = (V1, r) := by
  unfold pointR
  rw [h]
  unfold bindR
  rw [if_neg hr]
theorem point_1 {V V1 : Vw} {p : Nat} (h : mapR V p 8 6 = (V1, 0)) : pointR V 1 p = storeR V1 p 8 p := by
  unfold pointR
  rw [h]
  rfl
theorem point_2 {V V1 : Vw} {t : Int} {p : Nat} (ht : t ≠ 1) (h : mapR V p 8 6 = (V1, 0)) : pointR V t p = (V1, 0) := by
  unfold pointR
  rw [h]
  unfold bindR
  rw [if_pos rfl]
  dsimp only
  rw [if_neg ht]
set_option maxHeartbeats 2000000 in
set_option maxRecDepth 100000 in
theorem ldLay_any {base bp : Nat} {F : Nat → Prop} {V : Vw} (t : Int) (w : World) (h : Mem w base bp F V) (hbase : base ≤ w.heap.size) (hL : V.length ≤ 800000) (v : Value) (l : List UInt8) (hv : Bs w v l) (hl : l.length ≤ 1000000000) (hF : ∀ k, v.ownBlock = some k → ¬ F k) (hvb : ∀ k, v.ownBlock = some k → k < w.heap.size) (s : SegM) (hs : s.fits)
    (hal1 : 1 ≤ s.align) (hal : s.align ≤ 65536) (hms : s.memsz ≤ 1048576) (hfl : s.filesz ≤ s.memsz) (hlen : s.off + s.filesz ≤ l.length) :
    Calls Try.prog 58 #[ptr bp, .int .i64 t, v, .agg (encSeg s).toArray] w fun e w' => (∃ p : Nat, e = .returned (.tuple #[.int .u64 p, .int .i64 (layR V t l s).2]) ∧ ((layR V t l s).2 = 0 → p = ptR t s)) ∧ Mem w' base bp (more F w) (layR V t l s).1 ∧ Stirs F w w' := by
  have HV := Lib.hid hv
  obtain ⟨m, ad, cap, hm, rfl, hmc, _⟩ := hv.shape
  have hm9 : m ≤ 1000000000 := by have := hm.out; omega
  have HM := Lib.hid h.near
  obtain ⟨f1, f2, f3, f4, f5, f6, f7⟩ := hs
  have hmax : max s.align 1 = s.align := Nat.max_eq_left hal1
  have HMX : Hid (max (s.align : Int) 1 = (s.align : Int)) := Int.max_eq_left (by omega)
  have HBK := Lib.hid (fun (wx : World) => ldBlock_any t s.memsz s.align wx hms hal1 hal)
  clear hv h
  by_cases h0 : s.memsz = 0
  · have e0 : ((s.memsz : Int) == 0) = true := by rw [h0]; rfl
    have HP : Hid (ptR t s = 549755813888) := by unfold ptR; rw [Hid, if_pos h0]
    have HLY : Hid (layR V t l s = pointR V t 549755813888) := by
      rw [Hid, lay_ok (V1 := V) (by unfold blockR; rw [if_pos h0]), HP.out]
    clear h0
    have HMAP := Lib.hid (fun (wx : World) (hb : Below w.heap.size w wx) => map_mem wx (HM.out.mono hb) (Nat.le_trans hbase hb.size) (by omega) 549755813888 8 6 (by decide) (by decide))
    generalize hmr : mapR V 549755813888 8 6 = mr at *
    have HMR := Lib.hid hmr
    clear hmr
    obtain ⟨V3, r3⟩ := mr
    by_cases hr3 : r3 = 0
    · subst hr3
      by_cases ht : t = 1
      · subst ht
        have HLZ := Lib.hid (HLY.out.trans (point_1 HMR.out))
        go_enter Try.func58, Try.ntmps58
        go_wp2_with (first
          | ((with_reducible show wpList _ _ _ (⟨_, .box _ _, _, _, _, _⟩ :: _) _ _); go_must (refine wpList_box rfl ?_; intro w1 hx1 hb1 hs1; have HX1 := Lib.hid hx1; have HB1 := Lib.hid hb1; obtain ⟨c0, c1, c2, c3, c4, c5, c6⟩ := seg_box (x := s) hx1; clear hx1 hb1))
          | (go_at_call 74; rw [HMX.out]; go_must (refine (HBK.out _).mono ?_; rintro e w9 ⟨rfl, rfl⟩))
          | (go_at_call 32; go_must (refine (HMAP.out _ HB1.out).mono ?_; rintro e w2 ⟨rfl, hm2, hs2⟩; have HM2 := Lib.hid hm2; have HS2 := Lib.hid hs2; clear hm2 hs2 c0 c1 c2 c3 c4 c5 c6))
          | (go_at_call 11; go_must (refine (store_mem _ HM2.out 549755813888 (by decide) 8 549755813888).mono ?_; rintro e w3 ⟨rfl, hm3, hs3⟩; have HM3 := Lib.hid hm3; have HS3 := Lib.hid hs3; clear hm3 hs3)))
        go_ret2
        exact ⟨⟨549755813888, by rw [HLZ.out]; rfl, fun _ => HP.out.symm⟩, by rw [HLZ.out]; exact HM3.out.weak (seg_more HB1.out), stirs_step (seg_stirs HB1.out HS2.out) HS3.out (seg_more HB1.out)⟩
      · have HLZ := Lib.hid (HLY.out.trans (point_2 ht HMR.out))
        have et : (t != 1) = true := by simpa using ht
        go_enter Try.func58, Try.ntmps58
        go_wp2_with (first
          | ((with_reducible show wpList _ _ _ (⟨_, .box _ _, _, _, _, _⟩ :: _) _ _); go_must (refine wpList_box rfl ?_; intro w1 hx1 hb1 hs1; have HX1 := Lib.hid hx1; have HB1 := Lib.hid hb1; obtain ⟨c0, c1, c2, c3, c4, c5, c6⟩ := seg_box (x := s) hx1; clear hx1 hb1))
          | (go_at_call 74; rw [HMX.out]; go_must (refine (HBK.out _).mono ?_; rintro e w9 ⟨rfl, rfl⟩))
          | (go_at_call 32; go_must (refine (HMAP.out _ HB1.out).mono ?_; rintro e w2 ⟨rfl, hm2, hs2⟩; have HM2 := Lib.hid hm2; have HS2 := Lib.hid hs2; clear hm2 hs2 c0 c1 c2 c3 c4 c5 c6)))
        go_ret2
        exact ⟨⟨549755813888, by rw [HLZ.out]; rfl, fun _ => HP.out.symm⟩, by rw [HLZ.out]; exact HM2.out.weak (seg_more HB1.out), seg_stirs HB1.out HS2.out⟩
    · have HLZ := Lib.hid (HLY.out.trans (point_no hr3 HMR.out))
      have e3 : (r3 != 0) = true := by simpa using hr3
      go_enter Try.func58, Try.ntmps58
      go_wp2_with (first
        | ((with_reducible show wpList _ _ _ (⟨_, .box _ _, _, _, _, _⟩ :: _) _ _); go_must (refine wpList_box rfl ?_; intro w1 hx1 hb1 hs1; have HX1 := Lib.hid hx1; have HB1 := Lib.hid hb1; obtain ⟨c0, c1, c2, c3, c4, c5, c6⟩ := seg_box (x := s) hx1; clear hx1 hb1))
        | (go_at_call 74; rw [HMX.out]; go_must (refine (HBK.out _).mono ?_; rintro e w9 ⟨rfl, rfl⟩))
        | (go_at_call 32; go_must (refine (HMAP.out _ HB1.out).mono ?_; rintro e w2 ⟨rfl, hm2, hs2⟩; have HM2 := Lib.hid hm2; have HS2 := Lib.hid hs2; clear hm2 hs2 c0 c1 c2 c3 c4 c5 c6)))
      go_ret2
      exact ⟨⟨0, by rw [HLZ.out]; rfl, fun h => absurd (by rw [HLZ.out] at h; exact h) hr3⟩, by rw [HLZ.out]; exact HM2.out.weak (seg_more HB1.out), seg_stirs HB1.out HS2.out⟩
  · have e0 : ((s.memsz : Int) == 0) = false := by simpa using h0
    have hab : (blkR t s.memsz s.align).1 < 18446744073709551616 ∧ (blkR t s.memsz s.align).2 + 8 < 18446744073709551616 := by
      have hu1 := upN_le (n := s.memsz) hal1
      have hu2 := upN_le (n := 16) hal1
      unfold blkR
      split
      · dsimp only; omega
      · split
        · dsimp only; omega
        · dsimp only; omega
    have HP : Hid (ptR t s = (blkR t s.memsz s.align).2) := by unfold ptR; rw [Hid, if_neg h0, hmax]
    have HBL : Hid (blockR V (blkR t s.memsz (max s.align 1)).1 l s = bindR (mapR V (blkR t s.memsz s.align).1 s.memsz 6) fun V1 => setR V1 (blkR t s.memsz s.align).1 ((l.drop s.off).take s.filesz)) := by
      unfold blockR
      rw [Hid, if_neg h0, hmax]
    have HLO := Lib.hid (fun V1 => lay_ok (V := V) (V1 := V1) (t := t) (b := l) (s := s))
    have HLN := Lib.hid (fun V1 r => lay_no (V := V) (V1 := V1) (r := r) (t := t) (b := l) (s := s))
    rw [HP.out] at HLO
    rw [HBL.out] at HLO HLN
    have HMS := Lib.hid (Nat.pos_of_ne_zero h0)
    clear h0 HBL
    generalize blkR t s.memsz s.align = bk at *
    obtain ⟨a, p⟩ := bk
    dsimp only at hab HP HLO HLN HBK
    have ha := hab.1
    have hp := hab.2
    have HMAP := Lib.hid (fun (wx : World) (hb : Below w.heap.size w wx) => map_mem wx (HM.out.mono hb) (Nat.le_trans hbase hb.size) (by omega) a s.memsz 6 ha f6)
    have hL1 := length_mapR V a s.memsz 6
    generalize mapR V a s.memsz 6 = m1 at *
    obtain ⟨V1, r1⟩ := m1
    dsimp only at hL1
    by_cases hr1 : r1 = 0
    · subst hr1
      have HLO1 : Hid (∀ V2, setR V1 a ((l.drop s.off).take s.filesz) = (V2, 0) → layR V t l s = pointR V2 t p) := fun V2 h2 => HLO.out V2 (by unfold bindR; rw [if_pos rfl]; exact h2)
      have HLN1 : Hid (∀ V2 r, r ≠ 0 → setR V1 a ((l.drop s.off).take s.filesz) = (V2, r) → layR V t l s = (V2, r)) := fun V2 r hr h2 => HLN.out V2 r hr (by unfold bindR; rw [if_pos rfl]; exact h2)
      clear HLO HLN
      obtain ⟨v', hrun, hbs, hown⟩ := run_sliceBK HV.out (i := (s.off : Int)) (j := (s.off : Int) + s.filesz) (k := .u64) (k' := .u64) (by omega) (by omega) (by omega)
      rw [show ((s.off : Int) + s.filesz - s.off).toNat = s.filesz by omega, Int.toNat_natCast] at hbs
      have HRUN := Lib.hid hrun
      have HBS := Lib.hid hbs
      have HOWN := Lib.hid hown
      have HDN := Lib.hid (show ((l.drop s.off).take s.filesz).length ≤ 1000000000 by rw [List.length_take, List.length_drop]; omega)
      clear hrun hbs hown
      have hml : s.off + s.filesz ≤ m := by have := hm.out; omega
      generalize (l.drop s.off).take s.filesz = d at *
      have hL2 := length_setR V1 a d
      have HSE := Lib.hid (fun (wx : World) (FX : Nat → Prop) (hx : Mem wx base bp FX V1) (hbx : Bs wx v' d) (hfx : ∀ k, v'.ownBlock = some k → ¬ FX k) => set_mem wx hx v' d hbx HDN.out hfx a ha)
      generalize setR V1 a d = m2 at *
      obtain ⟨V2, r2⟩ := m2
      dsimp only at hL2
      by_cases hr2 : r2 = 0
      · subst hr2
        have HLY := Lib.hid (HLO1.out V2 rfl)
        have HMP := Lib.hid (fun (wx : World) (FX : Nat → Prop) (hx : Mem wx base bp FX V2) (hbx : base ≤ wx.heap.size) => map_mem wx hx hbx (by omega) p 8 6 (by omega) (by decide))
        clear HLO1 HLN1
        generalize hmr : mapR V2 p 8 6 = mr at *
        have HMR := Lib.hid hmr
        clear hmr
        obtain ⟨V3, r3⟩ := mr
        by_cases hr3 : r3 = 0
        · subst hr3
          by_cases ht : t = 1
          · subst ht
            have HLZ := Lib.hid (HLY.out.trans (point_1 HMR.out))
            go_enter Try.func58, Try.ntmps58
            go_wp2_with (first
              | ((with_reducible show wpList _ _ _ (⟨_, .box _ _, _, _, _, _⟩ :: _) _ _); go_must (refine wpList_box rfl ?_; intro w1 hx1 hb1 hs1; have HX1 := Lib.hid hx1; have HB1 := Lib.hid hb1; obtain ⟨c0, c1, c2, c3, c4, c5, c6⟩ := seg_box (x := s) hx1; clear hx1 hb1))
              | (go_at_call 74; rw [HMX.out]; go_must (refine (HBK.out _).mono ?_; rintro e w9 ⟨rfl, rfl⟩))
              | (first | (go_at_call 32; have hq := HM3; clear hq; go_must (refine (HMP.out _ _ HM3.out (Nat.le_trans hbase HSA.out.size)).mono ?_; rintro e w4 ⟨rfl, hm4, hs4⟩; have HM4 := Lib.hid hm4; have HS4 := Lib.hid (stirs_step HSA.out hs4 (seg_more HB1.out)); clear hm4 hs4)) | (go_at_call 32; go_must (refine (HMAP.out _ HB1.out).mono ?_; rintro e w2 ⟨rfl, hm2, hs2⟩; have HM2 := Lib.hid hm2; have HS2 := Lib.hid hs2; have hk2 := hs2.kept HX1.out (fun h => absurd h.2.2 (Nat.lt_irrefl _)); clear c0 c1 c2 c3 c4 c5 c6; obtain ⟨c0, c1, c2, c3, c4, c5, c6⟩ := seg_box (x := s) hk2; clear hm2 hs2 hk2)))
              | ((with_reducible show wpList _ _ _ (⟨some 46, _, _, _, _, _⟩ :: _) _ _); go_must (refine wpList_val rfl (exec_slice2 HRUN.out rfl rfl rfl) ?_))
              | (go_at_call 35; go_must (refine (HSE.out _ _ HM2.out (Reads.stirs (HBS.out.mono HB1.out) HS2.out (fun k hk h => hF k (HOWN.out k hk) h.1)) (fun k hk h => seg_apart HB1.out (hvb k (HOWN.out k hk)) (hF k (HOWN.out k hk)) h)).mono ?_; rintro e w3 ⟨rfl, hm3, hs3⟩; have HM3 := Lib.hid hm3; have HSA := Lib.hid (stirs_step (seg_stirs HB1.out HS2.out) hs3 (seg_more HB1.out)); clear hm3 hs3 c0 c1 c2 c3 c4 c5 c6))
              | (go_at_call 11; go_must (refine (store_mem _ HM4.out p (by omega) 8 p).mono ?_; rintro e w5 ⟨rfl, hm5, hs5⟩; have HM5 := Lib.hid hm5; have HS5 := Lib.hid (stirs_step HS4.out hs5 (more_step (seg_more HB1.out) HSA.out.size)); clear hm5 hs5)))
            go_ret2
            exact ⟨⟨p, by rw [HLZ.out]; rfl, fun _ => HP.out.symm⟩, by rw [HLZ.out]; exact HM5.out.weak (more_step (seg_more HB1.out) HSA.out.size), HS5.out⟩
          · have HLZ := Lib.hid (HLY.out.trans (point_2 ht HMR.out))
            have et : (t != 1) = true := by simpa using ht
            go_enter Try.func58, Try.ntmps58
            go_wp2_with (first
              | ((with_reducible show wpList _ _ _ (⟨_, .box _ _, _, _, _, _⟩ :: _) _ _); go_must (refine wpList_box rfl ?_; intro w1 hx1 hb1 hs1; have HX1 := Lib.hid hx1; have HB1 := Lib.hid hb1; obtain ⟨c0, c1, c2, c3, c4, c5, c6⟩ := seg_box (x := s) hx1; clear hx1 hb1))
              | (go_at_call 74; rw [HMX.out]; go_must (refine (HBK.out _).mono ?_; rintro e w9 ⟨rfl, rfl⟩))
              | (first | (go_at_call 32; have hq := HM3; clear hq; go_must (refine (HMP.out _ _ HM3.out (Nat.le_trans hbase HSA.out.size)).mono ?_; rintro e w4 ⟨rfl, hm4, hs4⟩; have HM4 := Lib.hid hm4; have HS4 := Lib.hid (stirs_step HSA.out hs4 (seg_more HB1.out)); clear hm4 hs4)) | (go_at_call 32; go_must (refine (HMAP.out _ HB1.out).mono ?_; rintro e w2 ⟨rfl, hm2, hs2⟩; have HM2 := Lib.hid hm2; have HS2 := Lib.hid hs2; have hk2 := hs2.kept HX1.out (fun h => absurd h.2.2 (Nat.lt_irrefl _)); clear c0 c1 c2 c3 c4 c5 c6; obtain ⟨c0, c1, c2, c3, c4, c5, c6⟩ := seg_box (x := s) hk2; clear hm2 hs2 hk2)))
              | ((with_reducible show wpList _ _ _ (⟨some 46, _, _, _, _, _⟩ :: _) _ _); go_must (refine wpList_val rfl (exec_slice2 HRUN.out rfl rfl rfl) ?_))
              | (go_at_call 35; go_must (refine (HSE.out _ _ HM2.out (Reads.stirs (HBS.out.mono HB1.out) HS2.out (fun k hk h => hF k (HOWN.out k hk) h.1)) (fun k hk h => seg_apart HB1.out (hvb k (HOWN.out k hk)) (hF k (HOWN.out k hk)) h)).mono ?_; rintro e w3 ⟨rfl, hm3, hs3⟩; have HM3 := Lib.hid hm3; have HSA := Lib.hid (stirs_step (seg_stirs HB1.out HS2.out) hs3 (seg_more HB1.out)); clear hm3 hs3 c0 c1 c2 c3 c4 c5 c6)))
            go_ret2
            exact ⟨⟨p, by rw [HLZ.out]; rfl, fun _ => HP.out.symm⟩, by rw [HLZ.out]; exact HM4.out.weak (more_step (seg_more HB1.out) HSA.out.size), HS4.out⟩
        · have HLZ := Lib.hid (HLY.out.trans (point_no hr3 HMR.out))
          have e3 : (r3 != 0) = true := by simpa using hr3
          go_enter Try.func58, Try.ntmps58
          go_wp2_with (first
            | ((with_reducible show wpList _ _ _ (⟨_, .box _ _, _, _, _, _⟩ :: _) _ _); go_must (refine wpList_box rfl ?_; intro w1 hx1 hb1 hs1; have HX1 := Lib.hid hx1; have HB1 := Lib.hid hb1; obtain ⟨c0, c1, c2, c3, c4, c5, c6⟩ := seg_box (x := s) hx1; clear hx1 hb1))
            | (go_at_call 74; rw [HMX.out]; go_must (refine (HBK.out _).mono ?_; rintro e w9 ⟨rfl, rfl⟩))
            | (first | (go_at_call 32; have hq := HM3; clear hq; go_must (refine (HMP.out _ _ HM3.out (Nat.le_trans hbase HSA.out.size)).mono ?_; rintro e w4 ⟨rfl, hm4, hs4⟩; have HM4 := Lib.hid hm4; have HS4 := Lib.hid (stirs_step HSA.out hs4 (seg_more HB1.out)); clear hm4 hs4)) | (go_at_call 32; go_must (refine (HMAP.out _ HB1.out).mono ?_; rintro e w2 ⟨rfl, hm2, hs2⟩; have HM2 := Lib.hid hm2; have HS2 := Lib.hid hs2; have hk2 := hs2.kept HX1.out (fun h => absurd h.2.2 (Nat.lt_irrefl _)); clear c0 c1 c2 c3 c4 c5 c6; obtain ⟨c0, c1, c2, c3, c4, c5, c6⟩ := seg_box (x := s) hk2; clear hm2 hs2 hk2)))
            | ((with_reducible show wpList _ _ _ (⟨some 46, _, _, _, _, _⟩ :: _) _ _); go_must (refine wpList_val rfl (exec_slice2 HRUN.out rfl rfl rfl) ?_))
            | (go_at_call 35; go_must (refine (HSE.out _ _ HM2.out (Reads.stirs (HBS.out.mono HB1.out) HS2.out (fun k hk h => hF k (HOWN.out k hk) h.1)) (fun k hk h => seg_apart HB1.out (hvb k (HOWN.out k hk)) (hF k (HOWN.out k hk)) h)).mono ?_; rintro e w3 ⟨rfl, hm3, hs3⟩; have HM3 := Lib.hid hm3; have HSA := Lib.hid (stirs_step (seg_stirs HB1.out HS2.out) hs3 (seg_more HB1.out)); clear hm3 hs3 c0 c1 c2 c3 c4 c5 c6)))
          go_ret2
          exact ⟨⟨0, by rw [HLZ.out]; rfl, fun h => absurd (by rw [HLZ.out] at h; exact h) hr3⟩, by rw [HLZ.out]; exact HM4.out.weak (more_step (seg_more HB1.out) HSA.out.size), HS4.out⟩
      · have HLZ := Lib.hid (HLN1.out V2 r2 hr2 rfl)
        have e2 : (r2 != 0) = true := by simpa using hr2
        go_enter Try.func58, Try.ntmps58
        go_wp2_with (first
          | ((with_reducible show wpList _ _ _ (⟨_, .box _ _, _, _, _, _⟩ :: _) _ _); go_must (refine wpList_box rfl ?_; intro w1 hx1 hb1 hs1; have HX1 := Lib.hid hx1; have HB1 := Lib.hid hb1; obtain ⟨c0, c1, c2, c3, c4, c5, c6⟩ := seg_box (x := s) hx1; clear hx1 hb1))
          | (go_at_call 74; rw [HMX.out]; go_must (refine (HBK.out _).mono ?_; rintro e w9 ⟨rfl, rfl⟩))
          | (go_at_call 32; go_must (refine (HMAP.out _ HB1.out).mono ?_; rintro e w2 ⟨rfl, hm2, hs2⟩; have HM2 := Lib.hid hm2; have HS2 := Lib.hid hs2; have hk2 := hs2.kept HX1.out (fun h => absurd h.2.2 (Nat.lt_irrefl _)); clear c0 c1 c2 c3 c4 c5 c6; obtain ⟨c0, c1, c2, c3, c4, c5, c6⟩ := seg_box (x := s) hk2; clear hm2 hs2 hk2))
          | ((with_reducible show wpList _ _ _ (⟨some 46, _, _, _, _, _⟩ :: _) _ _); go_must (refine wpList_val rfl (exec_slice2 HRUN.out rfl rfl rfl) ?_))
          | (go_at_call 35; go_must (refine (HSE.out _ _ HM2.out (Reads.stirs (HBS.out.mono HB1.out) HS2.out (fun k hk h => hF k (HOWN.out k hk) h.1)) (fun k hk h => seg_apart HB1.out (hvb k (HOWN.out k hk)) (hF k (HOWN.out k hk)) h)).mono ?_; rintro e w3 ⟨rfl, hm3, hs3⟩; have HM3 := Lib.hid hm3; have HSA := Lib.hid (stirs_step (seg_stirs HB1.out HS2.out) hs3 (seg_more HB1.out)); clear hm3 hs3 c0 c1 c2 c3 c4 c5 c6)))
        go_ret2
        exact ⟨⟨0, by rw [HLZ.out]; rfl, fun h => absurd (by rw [HLZ.out] at h; exact h) hr2⟩, by rw [HLZ.out]; exact HM3.out.weak (seg_more HB1.out), HSA.out⟩
    · have HLZ := Lib.hid (HLN.out V1 r1 hr1 (by unfold bindR; rw [if_neg hr1]))
      have e1 : (r1 != 0) = true := by simpa using hr1
      go_enter Try.func58, Try.ntmps58
      go_wp2_with (first
        | ((with_reducible show wpList _ _ _ (⟨_, .box _ _, _, _, _, _⟩ :: _) _ _); go_must (refine wpList_box rfl ?_; intro w1 hx1 hb1 hs1; have HX1 := Lib.hid hx1; have HB1 := Lib.hid hb1; obtain ⟨c0, c1, c2, c3, c4, c5, c6⟩ := seg_box (x := s) hx1; clear hx1 hb1))
        | (go_at_call 74; rw [HMX.out]; go_must (refine (HBK.out _).mono ?_; rintro e w9 ⟨rfl, rfl⟩))
        | (go_at_call 32; go_must (refine (HMAP.out _ HB1.out).mono ?_; rintro e w2 ⟨rfl, hm2, hs2⟩; have HM2 := Lib.hid hm2; have HS2 := Lib.hid hs2; have hk2 := hs2.kept HX1.out (fun h => absurd h.2.2 (Nat.lt_irrefl _)); clear c0 c1 c2 c3 c4 c5 c6; obtain ⟨c0, c1, c2, c3, c4, c5, c6⟩ := seg_box (x := s) hk2; clear hm2 hs2 hk2)))
      go_ret2
      exact ⟨⟨0, by rw [HLZ.out]; rfl, fun h => absurd (by rw [HLZ.out] at h; exact h) hr1⟩, by rw [HLZ.out]; exact HM2.out.weak (seg_more HB1.out), seg_stirs HB1.out HS2.out⟩
end Go.Proofs.Ytmpelmjhimalpaa
namespace Go.Proofs.Ytmpelmjhimalpaa
open Go.RowKit Go.Fd
theorem results_row2 {P : Program} {fn : Func} {p u : Tmp} {ty : TypeId} (h : fn.results = #[.cell p ty, .tmp u]) (tmps : Array Value) (w : World) (g : Nat) (t : TypeId) (cs : Array Value) (fr : Nat × Nat) (d : TypeDesc)
    (hp : tmps.getD p undef = .pointer (some ⟨g, 0, none⟩)) (hg : w.heap[g]? = some (.cells cs t fr))
    (hu : P.underlying ty = some d) (hd : (match d with | .struct _ | .array _ _ => true | _ => false) = true) (hi : (P.info? ty).map (·.size) = some cs.size) :
    (results fn tmps).run P w = .ok (.tuple #[.agg cs, tmps.getD u undef]) w := by
  rw [results_cell_tmp h, hp]
  simp [asAddr, Result.andThen, run_loadVar_row w g t ty cs fr d hg hu hd hi]
theorem th_step {size : Nat} {G : List SegM} {k n : Nat} {o x : SegM} (hk : G[k]? = some x) : thR size (G.drop k) n o = if x.typ = 7 then (if 1 ≤ n ∨ 1048576 < x.memsz then (seg0, 4) else if size < x.off ∨ size - x.off < x.filesz ∨ x.memsz < x.filesz then (seg0, 5) else thR size (G.drop (k + 1)) (n + 1) x) else thR size (G.drop (k + 1)) n o := by
  obtain ⟨h1, h2⟩ := List.getElem?_eq_some_iff.1 hk
  rw [List.drop_eq_getElem_cons h1, h2, thR]
set_option maxHeartbeats 2000000 in
set_option maxRecDepth 100000 in
theorem ldThreads_any (G : List SegM) (gv : Value) (size : Nat) (w : World) (hv : RdR 7 encSeg w gv G) (hfit : ∀ s ∈ G, s.fits) (hG : G.length ≤ 1000) (hsz : size ≤ 1000000000) :
    Calls Try.prog 57 #[gv, .int .i64 size] w fun r w' => r = .returned (.tuple #[.agg (encSeg (thR size G 0 seg1).1).toArray, .int .i64 (thR size G 0 seg1).2]) ∧ Below w.heap.size w w' := by
  obtain ⟨a, ca, rfl, hca, -, hc⟩ := hv.open (fun _ => rfl)
  have HC := Lib.hid hc
  have HFT := Lib.hid hfit
  obtain ⟨gm, hgm⟩ : ∃ n, n = G.length := ⟨_, rfl⟩
  rw [← hgm] at hca hG ⊢
  have HGM := Lib.hid hgm
  clear hc hv hgm hfit
  go_enter Try.func57, Try.ntmps57
  go_wp2_with (first
    | ((with_reducible show wpList _ _ _ (⟨some 4, .alloc _, _, _, _, _⟩ :: _) _ _); go_must (refine wpList_allocSeg ?_; intro w1 hx1 hb1 hs1; have HX1 := Lib.hid hx1; have HB1 := Lib.hid hb1; clear hx1 hb1))
    | ((with_reducible show wpList _ _ _ (⟨none, .store _ _ _, _, _, _, _⟩ :: _) _ _); go_must (refine wpList_storeNew rfl rfl (by kernel_rfl) rfl (by simp [Value.oneCell']) ?_; intro w2 hh2 hb2; have HH2 := Lib.hid hh2; have HX2 := Lib.hid (heap_below hb2 HX1.out); have HB2 := Lib.hid (HB1.out.trans (hb2.mono HB1.out.size)); clear hh2 hb2)))
  have hw01 : w.heap.size < w1.heap.size := hs1
  go_loopw [7, 9, 13] (fun nv _ i wr => ∃ (k n : Nat) (o : SegM), nv = .int .i64 n ∧ n ≤ k ∧ i = .int .i64 k ∧ k ≤ gm ∧ Hid (thR size (G.drop k) n o = thR size G 0 seg1) ∧ Hid (wr.heap[w.heap.size]? = some (.cells segZ 30 (0, 0))) ∧ Hid (wr.heap[w1.heap.size]? = some (.cells (encSeg o).toArray 30 (0, 0))) ∧ Hid (Below w.heap.size w wr)) (fun _ _ i _ => gm - (intOf i).toNat)
  case atStart => exact ⟨0, 0, seg1, rfl, Nat.le_refl _, rfl, Nat.zero_le _, rfl, HX2.out, HH2.out, HB2.out⟩
  case round =>
    obtain ⟨k, n, o, rfl, hn, rfl, hk, HT, HXR, HHR, HB⟩ := hrel
    by_cases hlt : k < gm
    · have X1 := Lib.hid (show G[k]? = some (G[k]'(by have := HGM.out; omega)) from List.getElem?_eq_getElem _)
      generalize G[k]'(by have := HGM.out; omega) = x at *
      have hft := HFT.out x (List.mem_of_getElem? X1.out)
      have HST := Lib.hid (th_step (size := size) (n := n) (o := o) X1.out)
      obtain ⟨b1, o1, ha, c10, c11, c12, c13, c14, c15, c16, -⟩ := seg_cells HC.out HB.out X1.out
      subst ha
      by_cases ht : x.typ = 7
      · have e7 : ((x.typ : Int) != 7) = false := by simp; omega
        have HTY := Lib.hid ht
        clear ht
        by_cases b1 : 1 ≤ n
        · have hn1 : (1 : Int) < (n : Int) + 1 := by omega
          have HE := Lib.hid (show thR size G 0 seg1 = (seg0, 4) by rw [← HT.out, HST.out, if_pos HTY.out, if_pos (Or.inl b1)])
          go_wp2_with (first | ((with_reducible show wpList _ _ _ (⟨none, .store _ _ _, _, _, _, _⟩ :: _) _ _); have hq := HX3; clear hq; go_must (refine wpList_storeRowS HX3.out rfl rfl rfl (by kernel_rfl) (by simp [Value.oneCell']) ?_; intro w4 hh4 hs4; have HH4 := Lib.hid hh4; have HB4 := Lib.hid (HB3.out.trans (hs4.below HB3.out.size (fun k h => Nat.le_of_eq h.symm))); clear hh4 hs4)) | ((with_reducible show wpList _ _ _ (⟨none, .store _ _ _, _, _, _, _⟩ :: _) _ _); go_must (refine wpList_storeNew rfl rfl (by kernel_rfl) rfl (by simp [Value.oneCell']) ?_; intro w3 hh3 hb3; obtain ⟨d0, d1, d2, d3, d4, d5, d6⟩ := seg_box (x := x) hh3; have HB3 := Lib.hid (HB.out.trans (hb3.mono HB.out.size)); have HX3 := Lib.hid (heap_below hb3 HXR.out); have HH3 := Lib.hid (heap_below hb3 HHR.out); clear hh3 hb3 c10 c11 c12 c13 c14 c15 c16)))
          refine bodyPost_ret (results_row2 rfl _ _ w.heap.size _ _ _ _ rfl HH4.out rfl rfl (by kernel_rfl)) rfl ⟨?_, HB4.out⟩
          rw [HE.out]
          rfl
        · obtain rfl : n = 0 := by omega
          by_cases b2 : 1048576 < x.memsz
          · have HE := Lib.hid (show thR size G 0 seg1 = (seg0, 4) by rw [← HT.out, HST.out, if_pos HTY.out, if_pos (Or.inr b2)])
            go_wp2_with (first | ((with_reducible show wpList _ _ _ (⟨none, .store _ _ _, _, _, _, _⟩ :: _) _ _); have hq := HX3; clear hq; go_must (refine wpList_storeRowS HX3.out rfl rfl rfl (by kernel_rfl) (by simp [Value.oneCell']) ?_; intro w4 hh4 hs4; have HH4 := Lib.hid hh4; have HB4 := Lib.hid (HB3.out.trans (hs4.below HB3.out.size (fun k h => Nat.le_of_eq h.symm))); clear hh4 hs4)) | ((with_reducible show wpList _ _ _ (⟨none, .store _ _ _, _, _, _, _⟩ :: _) _ _); go_must (refine wpList_storeNew rfl rfl (by kernel_rfl) rfl (by simp [Value.oneCell']) ?_; intro w3 hh3 hb3; obtain ⟨d0, d1, d2, d3, d4, d5, d6⟩ := seg_box (x := x) hh3; have HB3 := Lib.hid (HB.out.trans (hb3.mono HB.out.size)); have HX3 := Lib.hid (heap_below hb3 HXR.out); have HH3 := Lib.hid (heap_below hb3 HHR.out); clear hh3 hb3 c10 c11 c12 c13 c14 c15 c16)))
            refine bodyPost_ret (results_row2 rfl _ _ w.heap.size _ _ _ _ rfl HH4.out rfl rfl (by kernel_rfl)) rfl ⟨?_, HB4.out⟩
            rw [HE.out]
            rfl
          · have hg : ¬ (1 ≤ 0 ∨ 1048576 < x.memsz) := by omega
            by_cases b3 : size < x.off
            · have HE := Lib.hid (show thR size G 0 seg1 = (seg0, 5) by rw [← HT.out, HST.out, if_pos HTY.out, if_neg hg, if_pos (Or.inl b3)])
              go_wp2_with (first | ((with_reducible show wpList _ _ _ (⟨none, .store _ _ _, _, _, _, _⟩ :: _) _ _); have hq := HX3; clear hq; go_must (refine wpList_storeRowS HX3.out rfl rfl rfl (by kernel_rfl) (by simp [Value.oneCell']) ?_; intro w4 hh4 hs4; have HH4 := Lib.hid hh4; have HB4 := Lib.hid (HB3.out.trans (hs4.below HB3.out.size (fun k h => Nat.le_of_eq h.symm))); clear hh4 hs4)) | ((with_reducible show wpList _ _ _ (⟨none, .store _ _ _, _, _, _, _⟩ :: _) _ _); go_must (refine wpList_storeNew rfl rfl (by kernel_rfl) rfl (by simp [Value.oneCell']) ?_; intro w3 hh3 hb3; obtain ⟨d0, d1, d2, d3, d4, d5, d6⟩ := seg_box (x := x) hh3; have HB3 := Lib.hid (HB.out.trans (hb3.mono HB.out.size)); have HX3 := Lib.hid (heap_below hb3 HXR.out); have HH3 := Lib.hid (heap_below hb3 HHR.out); clear hh3 hb3 c10 c11 c12 c13 c14 c15 c16)))
              refine bodyPost_ret (results_row2 rfl _ _ w.heap.size _ _ _ _ rfl HH4.out rfl rfl (by kernel_rfl)) rfl ⟨?_, HB4.out⟩
              rw [HE.out]
              rfl
            · by_cases b4 : (size : Int) - x.off < x.filesz
              · have HE := Lib.hid (show thR size G 0 seg1 = (seg0, 5) by rw [← HT.out, HST.out, if_pos HTY.out, if_neg hg, if_pos (by omega)])
                go_wp2_with (first | ((with_reducible show wpList _ _ _ (⟨none, .store _ _ _, _, _, _, _⟩ :: _) _ _); have hq := HX3; clear hq; go_must (refine wpList_storeRowS HX3.out rfl rfl rfl (by kernel_rfl) (by simp [Value.oneCell']) ?_; intro w4 hh4 hs4; have HH4 := Lib.hid hh4; have HB4 := Lib.hid (HB3.out.trans (hs4.below HB3.out.size (fun k h => Nat.le_of_eq h.symm))); clear hh4 hs4)) | ((with_reducible show wpList _ _ _ (⟨none, .store _ _ _, _, _, _, _⟩ :: _) _ _); go_must (refine wpList_storeNew rfl rfl (by kernel_rfl) rfl (by simp [Value.oneCell']) ?_; intro w3 hh3 hb3; obtain ⟨d0, d1, d2, d3, d4, d5, d6⟩ := seg_box (x := x) hh3; have HB3 := Lib.hid (HB.out.trans (hb3.mono HB.out.size)); have HX3 := Lib.hid (heap_below hb3 HXR.out); have HH3 := Lib.hid (heap_below hb3 HHR.out); clear hh3 hb3 c10 c11 c12 c13 c14 c15 c16)))
                refine bodyPost_ret (results_row2 rfl _ _ w.heap.size _ _ _ _ rfl HH4.out rfl rfl (by kernel_rfl)) rfl ⟨?_, HB4.out⟩
                rw [HE.out]
                rfl
              · by_cases b5 : x.memsz < x.filesz
                · have HE := Lib.hid (show thR size G 0 seg1 = (seg0, 5) by rw [← HT.out, HST.out, if_pos HTY.out, if_neg hg, if_pos (by omega)])
                  go_wp2_with (first | ((with_reducible show wpList _ _ _ (⟨none, .store _ _ _, _, _, _, _⟩ :: _) _ _); have hq := HX3; clear hq; go_must (refine wpList_storeRowS HX3.out rfl rfl rfl (by kernel_rfl) (by simp [Value.oneCell']) ?_; intro w4 hh4 hs4; have HH4 := Lib.hid hh4; have HB4 := Lib.hid (HB3.out.trans (hs4.below HB3.out.size (fun k h => Nat.le_of_eq h.symm))); clear hh4 hs4)) | ((with_reducible show wpList _ _ _ (⟨none, .store _ _ _, _, _, _, _⟩ :: _) _ _); go_must (refine wpList_storeNew rfl rfl (by kernel_rfl) rfl (by simp [Value.oneCell']) ?_; intro w3 hh3 hb3; obtain ⟨d0, d1, d2, d3, d4, d5, d6⟩ := seg_box (x := x) hh3; have HB3 := Lib.hid (HB.out.trans (hb3.mono HB.out.size)); have HX3 := Lib.hid (heap_below hb3 HXR.out); have HH3 := Lib.hid (heap_below hb3 HHR.out); clear hh3 hb3 c10 c11 c12 c13 c14 c15 c16)))
                  refine bodyPost_ret (results_row2 rfl _ _ w.heap.size _ _ _ _ rfl HH4.out rfl rfl (by kernel_rfl)) rfl ⟨?_, HB4.out⟩
                  rw [HE.out]
                  rfl
                · have HT2 := Lib.hid (show thR size (G.drop (k + 1)) (0 + 1) x = thR size G 0 seg1 by rw [← HT.out, HST.out, if_pos HTY.out, if_neg hg, if_neg (by omega)])
                  go_wp2_with (first | ((with_reducible show wpList _ _ _ (⟨none, .store _ _ _, _, _, _, _⟩ :: _) _ _); have hq := HX3; clear hq; go_must (refine wpList_storeRowS HH3.out rfl rfl rfl (by kernel_rfl) (by simp [Value.oneCell']) ?_; intro w4 hh4 hs4; have HH4 := Lib.hid hh4; have HX4 := Lib.hid (hs4.kept HX3.out (fun h => absurd h (Nat.ne_of_lt hw01))); have HB4 := Lib.hid (HB3.out.trans (hs4.below HB3.out.size (fun k h => by omega))); clear hh4 hs4)) | ((with_reducible show wpList _ _ _ (⟨none, .store _ _ _, _, _, _, _⟩ :: _) _ _); go_must (refine wpList_storeNew rfl rfl (by kernel_rfl) rfl (by simp [Value.oneCell']) ?_; intro w3 hh3 hb3; obtain ⟨d0, d1, d2, d3, d4, d5, d6⟩ := seg_box (x := x) hh3; have HB3 := Lib.hid (HB.out.trans (hb3.mono HB.out.size)); have HX3 := Lib.hid (heap_below hb3 HXR.out); have HH3 := Lib.hid (heap_below hb3 HHR.out); clear hh3 hb3 c10 c11 c12 c13 c14 c15 c16)))
                  go_round
                  case rel => exact ⟨k + 1, 0 + 1, x, rfl, by omega, by go_num, by omega, HT2.out, HX4.out, HH4.out, HB4.out⟩
                  case measure => simp [intOf] <;> omega
      · have e7 : ((x.typ : Int) != 7) = true := by simp; omega
        have HT2 := Lib.hid (show thR size (G.drop (k + 1)) n o = thR size G 0 seg1 by rw [← HT.out, HST.out, if_neg ht])
        go_wp2_with ((with_reducible show wpList _ _ _ (⟨none, .store _ _ _, _, _, _, _⟩ :: _) _ _); go_must (refine wpList_storeNew rfl rfl (by kernel_rfl) rfl (by simp [Value.oneCell']) ?_; intro w3 hh3 hb3; obtain ⟨d0, d1, d2, d3, d4, d5, d6⟩ := seg_box (x := x) hh3; have HB3 := Lib.hid hb3; clear hh3 hb3 c10 c11 c12 c13 c14 c15 c16))
        go_round
        case rel => exact ⟨k + 1, n, o, rfl, by omega, by go_num, by omega, HT2.out, heap_below HB3.out HXR.out, heap_below HB3.out HHR.out, HB.out.trans (HB3.out.mono HB.out.size)⟩
        case measure => simp [intOf] <;> omega
    · obtain rfl : k = gm := by omega
      have HE := Lib.hid (show thR size G 0 seg1 = (o, 0) by rw [← HT.out, List.drop_of_length_le (by have := HGM.out; omega)]; rfl)
      obtain ⟨d0, d1, d2, d3, d4, d5, d6⟩ := seg_box (x := o) HHR.out
      go_wp2_with ((with_reducible show wpList _ _ _ (⟨none, .store _ _ _, _, _, _, _⟩ :: _) _ _); go_must (refine wpList_storeRowS HXR.out rfl rfl rfl (by kernel_rfl) (by simp [Value.oneCell']) ?_; intro w4 hh4 hs4; have HH4 := Lib.hid hh4; have HB4 := Lib.hid (HB.out.trans (hs4.below HB.out.size (fun k h => Nat.le_of_eq h.symm))); clear hh4 hs4))
      refine bodyPost_ret (results_row2 rfl _ _ w.heap.size _ _ _ _ rfl HH4.out rfl rfl (by kernel_rfl)) rfl ⟨?_, HB4.out⟩
      rw [HE.out]
      rfl
end Go.Proofs.Ytmpelmjhimalpaa
namespace Go.Proofs.Ytmpelmjhimalpaa
open Go.RowKit Go.Fd
theorem segs_step {b : List UInt8} {V : Vw} {G : List SegM} {k : Nat} {x : SegM} (hk : G[k]? = some x) : segsR b V (G.drop k) = if x.typ = 1 then bindR (segR V b x) fun V1 => segsR b V1 (G.drop (k + 1)) else segsR b V (G.drop (k + 1)) := by
  obtain ⟨h1, h2⟩ := List.getElem?_eq_some_iff.1 hk
  rw [List.drop_eq_getElem_cons h1, h2, segsR]
theorem thR_align {size : Nat} : ∀ (G : List SegM) (n : Nat) (o : SegM) (_ : ∀ s ∈ G, s.fits ∧ 1 ≤ s.align ∧ s.align ≤ 65536) (_ : o.fits ∧ 1 ≤ o.align ∧ o.align ≤ 65536 ∧ o.memsz ≤ 1048576 ∧ o.filesz ≤ o.memsz ∧ o.off + o.filesz ≤ size), (thR size G n o).2 = 0 →
    (thR size G n o).1.fits ∧ 1 ≤ (thR size G n o).1.align ∧ (thR size G n o).1.align ≤ 65536 ∧ (thR size G n o).1.memsz ≤ 1048576 ∧ (thR size G n o).1.filesz ≤ (thR size G n o).1.memsz ∧ (thR size G n o).1.off + (thR size G n o).1.filesz ≤ size
  | [], _, _, _, ho, _ => ho
  | s :: G, n, o, hG, ho, h => by
    have hs := hG s (by simp)
    have hG' : ∀ x ∈ G, x.fits ∧ 1 ≤ x.align ∧ x.align ≤ 65536 := fun x hx => hG x (by simp [hx])
    rw [thR] at h ⊢
    split at h
    · next h7 =>
      rw [if_pos h7]
      split at h
      · cases h
      · next h1 =>
        rw [if_neg h1]
        split at h
        · cases h
        · next h2 =>
          rw [if_neg h2]
          exact thR_align G (n + 1) s hG' ⟨hs.1, hs.2.1, hs.2.2, by omega, by omega, by omega⟩ h
    · next h7 =>
      rw [if_neg h7]
      exact thR_align G n o hG' ho h
abbrev imgZ : Array Value := #[.int .i64 0, .int .u64 0, .int .u64 0, .int .u64 0]
theorem wpList_allocImg {ops : Array Oper} {rest : List Oper} {Q : Exit → Act → World → Prop} {a : Act} {w : World} {d : Option Tmp} {ty : TypeId} {pos : String} {aft : Array Edge}
    (h : ∀ w1, w1.heap[w.heap.size]? = some (.cells imgZ 38 (0, 0)) → Below w.heap.size w w1 → w.heap.size < w1.heap.size → wpList Try.prog ops Q rest (a.put d (.pointer (some ⟨w.heap.size, 0, none⟩))) w1) :
    wpList Try.prog ops Q (⟨d, .alloc 38, ty, pos, aft, none⟩ :: rest) a w :=
  wpList_val rfl (by kernel_rfl) (h (w.alloc (.cells imgZ 38)) (heap_alloc_last w _) (below_alloc w _) (by rw [World.size_alloc]; omega))
def fx (F : Nat → Prop) (a b : Nat) (k : Nat) : Prop := (F k ∧ k < a) ∨ b ≤ k
theorem fx_not {F : Nat → Prop} {a b k : Nat} (h1 : a ≤ k) (h2 : k < b) : ¬ fx F a b k := fun h => h.elim (fun h => absurd h.2 (Nat.not_lt.2 h1)) (fun h => absurd h2 (Nat.not_lt.2 h))
theorem fx_v {F : Nat → Prop} {a b k : Nat} (h1 : ¬ F k) (h2 : k < b) : ¬ fx F a b k := fun h => h.elim (fun h => h1 h.1) (fun h => absurd h2 (Nat.not_lt.2 h))
theorem fx_more {F : Nat → Prop} {a b : Nat} {wr : World} (h : b ≤ wr.heap.size) : ∀ k, more (fx F a b) wr k → fx F a b k := fun k hk => hk.elim id fun h2 => .inr (Nat.le_trans h h2)
theorem fx_out {F : Nat → Prop} {w : World} {b : Nat} (h : w.heap.size ≤ b) : ∀ k, fx F w.heap.size b k → more F w k := fun k hk => hk.elim (fun h => .inl h.1) fun h2 => .inr (Nat.le_trans h h2)
theorem all_seg {t : Int} {b : List UInt8} {l : List SegM} {x : Vw × Int} (h : segsR b [] l = x) (hx : x.2 ≠ 0) : allR t b l = x := by
  unfold allR
  rw [h]
  unfold bindR
  rw [if_neg hx]
theorem all_th {t : Int} {b : List UInt8} {l : List SegM} {V : Vw} (h : segsR b [] l = (V, 0)) (hx : (thR b.length l 0 seg1).2 ≠ 0) : allR t b l = (V, (thR b.length l 0 seg1).2) := by
  unfold allR
  rw [h]
  unfold bindR
  rw [if_pos rfl]
  dsimp only
  rw [if_neg hx]
theorem all_lay {t : Int} {b : List UInt8} {l : List SegM} {V : Vw} (h : segsR b [] l = (V, 0)) (hx : (thR b.length l 0 seg1).2 = 0) : allR t b l = bindR (mapR V 1099511562240 65536 6) fun V2 => layR V2 t b (thR b.length l 0 seg1).1 := by
  unfold allR
  rw [h]
  show bindR (V, 0) _ = _
  unfold bindR
  rw [if_pos rfl]
  dsimp only
  rw [if_pos hx]
set_option maxHeartbeats 2000000 in
set_option maxRecDepth 100000 in
theorem ldAll_any {base bp : Nat} {F : Nat → Prop} (e : ElfM) (L : List (SecM × Value)) (sv gv v : Value) (l : List UInt8) (w : World) (hx : ElfAt w e L sv gv) (h : Mem w base bp F []) (hbase : base ≤ w.heap.size) (hv : Bs w v l) (hl : l.length ≤ 1000000000)
    (hF : ∀ k, v.ownBlock = some k → ¬ F k) (hvb : ∀ k, v.ownBlock = some k → k < w.heap.size) (hFg : ∀ k, gv.ownBlock = some k → ¬ F k)
    (hG : e.segs.length ≤ 16) (hal : ∀ s ∈ e.segs, s.fits ∧ 1 ≤ s.align ∧ s.align ≤ 65536) :
    Calls Try.prog 26 #[ptr bp, elfV e sv gv, v] w fun r w' => (∃ img : Array Value, r = .returned (.tuple #[.agg img, .int .i64 (allR e.target l e.segs).2]) ∧ ((allR e.target l e.segs).2 = 0 → img = #[.int .i64 e.target, .int .u64 e.entry, .int .u64 1099511627712, .int .u64 (ptR e.target (thR l.length e.segs 0 seg1).1 : Nat)]) ∧ ((allR e.target l e.segs).2 ≠ 0 → img = imgZ)) ∧ Mem w' base bp (more F w) (allR e.target l e.segs).1 ∧ Stirs F w w' := by
  have HV := Lib.hid hv
  have HM := Lib.hid h.near
  have HGV := Lib.hid hx.segs
  obtain ⟨gm, ga, gc, hgm, rfl, -, -⟩ := hx.segs.shape
  obtain ⟨m, ad, cap, hm, rfl, hmc, _⟩ := hv.shape
  clear hv h hx
  go_enter Try.func26, Try.ntmps26
  go_wp2_with (first
    | ((with_reducible show wpList _ _ _ (⟨_, .box _ _, _, _, _, _⟩ :: _) _ _); go_must (refine wpList_box rfl ?_; intro w1 hx1 hb1 hs1; have HX1 := Lib.hid hx1; have HB1 := Lib.hid hb1; have hw01 : w.heap.size < w1.heap.size := hs1; obtain ⟨c0, c1, c2, c3, c4, c5⟩ := elf_box hx1; clear hx1 hb1 hs1))
    | ((with_reducible show wpList _ _ _ (⟨some 6, .alloc _, _, _, _, _⟩ :: _) _ _); go_must (refine wpList_allocImg ?_; intro w2 hx2 hb2 hs2; have HX2 := Lib.hid hx2; have HX1 := Lib.hid (heap_below hb2 HX1.out); have HB2 := Lib.hid (HB1.out.trans (hb2.mono HB1.out.size)); have hw12 : w1.heap.size < w2.heap.size := hs2; clear c0 c1 c2 c3 c4 c5; obtain ⟨c0, c1, c2, c3, c4, c5⟩ := elf_box HX1.out; clear hx2 hb2 hs2)))
  have HSEG := Lib.hid (fun (wr : World) (V : Vw) (hmr : Mem wr base bp (fx F w.heap.size w2.heap.size) V) (hb : base ≤ wr.heap.size) (hL : V.length ≤ 900000) (hvr : Bs wr (.slice ad m cap) l) (h2 : w2.heap.size ≤ wr.heap.size) (x : SegM) (hx : x.fits) => ldSegment_any wr hmr hb hL (.slice ad m cap) l hvr hl (fun k hk => fx_v (hF k hk) (Nat.lt_of_lt_of_le (hvb k hk) HB2.out.size)) (fun k hk => by have := hvb k hk; have := HB2.out.size; omega) x hx)
  have HGM := Lib.hid hgm.out
  have HAL := Lib.hid hal
  have hw02 := HB2.out.size
  have hw02' : w.heap.size < w2.heap.size := Nat.lt_trans hw01 hw12
  have hgm16 : gm ≤ 16 := by have := HGM.out; omega
  go_loopw [9, 10, 18] (fun _ _ i wr => ∃ (k : Nat) (V : Vw), i = .int .i64 k ∧ k ≤ gm ∧ V.length ≤ 4097 * k ∧ Hid (segsR l [] e.segs = segsR l V (e.segs.drop k)) ∧ Hid (Mem wr base bp (fx F w.heap.size w2.heap.size) V) ∧ Hid (Stirs F w wr) ∧ w2.heap.size ≤ wr.heap.size ∧ Hid (wr.heap[w.heap.size]? = w2.heap[w.heap.size]?) ∧ Hid (wr.heap[w1.heap.size]? = w2.heap[w1.heap.size]?)) (fun _ _ i _ => gm - (intOf i).toNat)
  case atStart => exact ⟨0, [], rfl, Nat.zero_le _, Nat.zero_le _, rfl, (HM.out.mono HB2.out).weak (fun k h => .inl ⟨h.1, h.2.2⟩), Stirs.of_below HB2.out, Nat.le_refl _, rfl, rfl⟩
  case round =>
    obtain ⟨k, V, rfl, hk, hVl, HS, HMR, HST, hwr, HK0, HK1⟩ := hrel
    by_cases hlt : k < gm
    · have X1 := Lib.hid (show e.segs[k]? = some (e.segs[k]'(by have := HGM.out; omega)) from List.getElem?_eq_getElem _)
      generalize e.segs[k]'(by have := HGM.out; omega) = x at *
      have HGR := Lib.hid (show RdR 7 encSeg wr (.slice ga gm gc) e.segs from Reads.stirs HGV.out HST.out (fun k hk => hFg k hk))
      obtain ⟨a', c', he', -, -, hc⟩ := HGR.out.open (fun _ => rfl)
      simp only [Value.slice.injEq] at he'
      obtain ⟨rfl, -, rfl⟩ := he'
      obtain ⟨b1, o1, ha, c10, c11, c12, c13, c14, c15, c16, -⟩ := seg_cells hc (Below.refl _ _) X1.out
      subst ha
      have hft := (HAL.out x (List.mem_of_getElem? X1.out)).1
      have HSS := Lib.hid (segs_step (b := l) (V := V) X1.out)
      by_cases ht : x.typ = 1
      · have e7 : ((x.typ : Int) == 1) = true := by simp; omega
        rw [if_pos ht] at HSS
        clear ht
        have HVR : Hid (Bs wr (.slice ad m cap) l) := Lib.hid (Reads.stirs HV.out HST.out (fun k hk => hF k hk))
        have hsl := length_segR V l x
        have HSG := Lib.hid (rfl : segR V l x = segR V l x)
        generalize hsr : segR V l x = sr at *
        have HSR := Lib.hid hsr
        clear hsr
        obtain ⟨W, r⟩ := sr
        dsimp only at hsl
        by_cases hr : r = 0
        · subst hr
          have HT2 := Lib.hid (show segsR l [] e.segs = segsR l W (e.segs.drop (k + 1)) by rw [HS.out, HSS.out]; unfold bindR; rw [if_pos rfl])
          go_wp2_with (first
            | ((with_reducible show wpList _ _ _ (⟨none, .store _ _ _, _, _, _, _⟩ :: _) _ _); go_must (refine wpList_storeNew rfl rfl (by kernel_rfl) rfl (by simp [Value.oneCell']) ?_; intro w3 hh3 hb3; obtain ⟨d0, d1, d2, d3, d4, d5, d6⟩ := seg_box (x := x) hh3; have HB3 := Lib.hid hb3; have HH3 := Lib.hid hh3; clear hh3 hb3 c10 c11 c12 c13 c14 c15 c16))
            | (go_at_call 56; go_must (refine (HSEG.out _ V (HMR.out.mono HB3.out) (by have := HB3.out.size; omega) (by omega) (HVR.out.mono HB3.out) (by have := HB3.out.size; omega) x hft).mono ?_; rw [HSR.out]; rintro r w4 ⟨rfl, hm4, hs4⟩; have HM4 := Lib.hid hm4; have HS4 := Lib.hid hs4; have HI4 := Lib.hid (hs4.kept (heap_below HB3.out (HK1.out.trans HX2.out)) (fx_not (Nat.le_of_lt hw01) hw12)); have HJ4 := Lib.hid (hs4.kept (heap_below HB3.out (HK0.out.trans HX1.out)) (fx_not (Nat.le_refl _) hw02')); clear hm4 hs4 d0 d1 d2 d3 d4 d5 d6)))
          go_round
          case rel => exact ⟨k + 1, W, by go_num, by omega, by omega, HT2.out, HM4.out.weak (fx_more (Nat.le_trans hwr HB3.out.size)), stirs_step (HST.out.thenBelow HB3.out) HS4.out (fx_out hw02), Nat.le_trans hwr (Nat.le_trans HB3.out.size HS4.out.size), HJ4.out.trans HX1.out.symm, HI4.out.trans HX2.out.symm⟩
          case measure => simp [intOf] <;> omega
        · have er : (r != 0) = true := by simpa using hr
          have HA : Hid (allR e.target l e.segs = (W, r)) := all_seg (by rw [HS.out, HSS.out]; unfold bindR; rw [if_neg hr]) hr
          go_wp2_with (first
            | ((with_reducible show wpList _ _ _ (⟨none, .store _ _ _, _, _, _, _⟩ :: _) _ _); have hq := HI4; clear hq; go_must (refine wpList_storeRowS HI4.out rfl rfl rfl (by kernel_rfl) (by simp [Value.oneCell']) ?_; intro w5 hh5 hs5; have HH5 := Lib.hid hh5; have HS5 := Lib.hid hs5; clear hh5 hs5))
            | ((with_reducible show wpList _ _ _ (⟨none, .store _ _ _, _, _, _, _⟩ :: _) _ _); go_must (refine wpList_storeNew rfl rfl (by kernel_rfl) rfl (by simp [Value.oneCell']) ?_; intro w3 hh3 hb3; obtain ⟨d0, d1, d2, d3, d4, d5, d6⟩ := seg_box (x := x) hh3; have HB3 := Lib.hid hb3; have HH3 := Lib.hid hh3; clear hh3 hb3 c10 c11 c12 c13 c14 c15 c16))
            | (go_at_call 56; go_must (refine (HSEG.out _ V (HMR.out.mono HB3.out) (by have := HB3.out.size; omega) (by omega) (HVR.out.mono HB3.out) (by have := HB3.out.size; omega) x hft).mono ?_; rw [HSR.out]; rintro r w4 ⟨rfl, hm4, hs4⟩; have HM4 := Lib.hid hm4; have HS4 := Lib.hid hs4; have HI4 := Lib.hid (hs4.kept (heap_below HB3.out (HK1.out.trans HX2.out)) (fx_not (Nat.le_of_lt hw01) hw12)); have HJ4 := Lib.hid (hs4.kept (heap_below HB3.out (HK0.out.trans HX1.out)) (fx_not (Nat.le_refl _) hw02')); clear hm4 hs4 d0 d1 d2 d3 d4 d5 d6)))
          refine bodyPost_ret (results_row2 rfl _ _ w1.heap.size _ _ _ _ rfl HH5.out rfl rfl (by kernel_rfl)) rfl ⟨⟨_, by rw [HA.out]; rfl, fun h => absurd (by rw [HA.out] at h; exact h) hr, fun _ => rfl⟩, ?_, ?_⟩
          · rw [HA.out]
            exact (HM4.out.stirs HS5.out (fun k hk e => fx_not (Nat.le_of_lt hw01) hw12 (e ▸ fx_more (Nat.le_trans hwr HB3.out.size) k hk))).weak (fun k hk => fx_out hw02 k (fx_more (Nat.le_trans hwr HB3.out.size) k hk))
          · exact stirs_step (stirs_step (HST.out.thenBelow HB3.out) HS4.out (fx_out hw02)) HS5.out (fun k hk => .inr (by omega))
      · have e7 : ((x.typ : Int) == 1) = false := by simp; omega
        have HT2 := Lib.hid (show segsR l [] e.segs = segsR l V (e.segs.drop (k + 1)) by rw [HS.out, HSS.out, if_neg ht])
        clear ht
        go_wp2_with ((with_reducible show wpList _ _ _ (⟨none, .store _ _ _, _, _, _, _⟩ :: _) _ _); go_must (refine wpList_storeNew rfl rfl (by kernel_rfl) rfl (by simp [Value.oneCell']) ?_; intro w3 hh3 hb3; obtain ⟨d0, d1, d2, d3, d4, d5, d6⟩ := seg_box (x := x) hh3; have HB3 := Lib.hid hb3; have HH3 := Lib.hid hh3; clear hh3 hb3 c10 c11 c12 c13 c14 c15 c16))
        go_round
        case rel => exact ⟨k + 1, V, by go_num, by omega, by omega, HT2.out, HMR.out.mono HB3.out, HST.out.thenBelow HB3.out, Nat.le_trans hwr HB3.out.size, (HB3.out.block _ (by omega)).trans HK0.out, (HB3.out.block _ (by omega)).trans HK1.out⟩
        case measure => simp [intOf] <;> omega
    · obtain rfl : k = gm := by omega
      have HSV : Hid (segsR l [] e.segs = (V, 0)) := by rw [Hid, HS.out, List.drop_of_length_le (by have := HGM.out; omega), segsR]
      have HGR := Lib.hid (show RdR 7 encSeg wr (.slice ga k gc) e.segs from Reads.stirs HGV.out HST.out (fun k hk => hFg k hk))
      have HMN := Lib.hid HMR.out.near
      have HM2 := Lib.hid hm.out
      have HVO := Lib.hid (show ∀ k, (Value.slice ad m cap).ownBlock = some k → ¬ fx F w.heap.size w2.heap.size k from fun k hk => fx_v (hF k hk) (Nat.lt_of_lt_of_le (hvb k hk) hw02))
      have hm9 : m ≤ 1000000000 := by have := HM2.out; omega
      have HTHC := Lib.hid (fun (wx : World) (hb : Below wr.heap.size wr wx) => ldThreads_any e.segs (.slice ga k gc) m wx (Reads.mono HGR.out hb) (fun s hs => (HAL.out s hs).1) (by omega) hm9)
      have HTA := Lib.hid (thR_align (size := l.length) e.segs 0 seg1 HAL.out ⟨⟨by decide, by decide, by decide, by decide, by decide, by decide, by decide⟩, by decide, by decide, by decide, by decide, by show 0 + 0 ≤ _; omega⟩)
      have HA1 := Lib.hid (fun h => all_th (t := e.target) HSV.out h)
      have HA2 := Lib.hid (fun h => all_lay (t := e.target) HSV.out h)
      have hmm : l.length = m := HM2.out.symm
      have HTT := Lib.hid (show thR l.length e.segs 0 seg1 = thR m e.segs 0 seg1 by rw [hmm])
      rw [hmm] at HTA HA1 HA2
      clear hmm
      generalize thR m e.segs 0 seg1 = th at *
      obtain ⟨s, r1⟩ := th
      obtain ⟨c0, c1, c2, c3, c4, c5⟩ := elf_box (HK0.out.trans HX1.out)
      by_cases hr1 : r1 = 0
      · subst hr1
        have HTB := Lib.hid (HTA.out rfl)
        have HA3 := Lib.hid (HA2.out rfl)
        have HMAP := Lib.hid (fun (wx : World) (hb : Below wr.heap.size wr wx) => map_mem wx (HMN.out.mono hb) (Nat.le_trans (by omega) hb.size) (by omega) 1099511562240 65536 6 (by decide) (by decide))
        have hml := length_mapR V 1099511562240 65536 6
        generalize hmr : mapR V 1099511562240 65536 6 = mr at *
        clear hmr
        obtain ⟨V2, r2⟩ := mr
        dsimp only at hml
        by_cases hr2 : r2 = 0
        · subst hr2
          have HA4 := Lib.hid (show allR e.target l e.segs = layR V2 e.target l s by rw [HA3.out]; unfold bindR; rw [if_pos rfl])
          have HLAY := Lib.hid (fun (wx : World) (FX : Nat → Prop) (hmx : Mem wx base bp FX V2) (hbx : base ≤ wx.heap.size) (hvx : Bs wx (.slice ad m cap) l) (h1 : ∀ k, (Value.slice ad m cap).ownBlock = some k → ¬ FX k) (h2 : ∀ k, (Value.slice ad m cap).ownBlock = some k → k < wx.heap.size) => ldLay_any e.target wx hmx hbx (by omega) (.slice ad m cap) l hvx hl h1 h2 s HTB.out.1 HTB.out.2.1 HTB.out.2.2.1 HTB.out.2.2.2.1 HTB.out.2.2.2.2.1 (by rw [← HM2.out]; exact HTB.out.2.2.2.2.2))
          generalize hly : layR V2 e.target l s = ly at *
          clear hly
          obtain ⟨V3, r3⟩ := ly
          by_cases hr3 : r3 = 0
          · subst hr3
            go_wp2_with (first
              | ((with_reducible show wpList _ _ _ (⟨none, .store _ _ _, _, _, _, _⟩ :: _) _ _); have hq := HI7; clear hq; go_must (refine wpList_storeRowS HI7.out rfl rfl rfl (by kernel_rfl) (by simp [Value.oneCell']) ?_; intro w8 hh8 hs8; have HH8 := Lib.hid hh8; have HS8 := Lib.hid hs8; clear hh8 hs8))
              | ((with_reducible show wpList _ _ _ (⟨none, .store _ _ _, _, _, _, _⟩ :: _) _ _); go_must (refine wpList_storeNew rfl rfl (by kernel_rfl) rfl (by simp [Value.oneCell']) ?_; intro w5 hh5 hb5; have HH5 := Lib.hid hh5; have HB5 := Lib.hid (HB4.out.trans (hb5.mono HB4.out.size)); have HI5 := Lib.hid (heap_below HB5.out (HK1.out.trans HX2.out)); have HJ5 := Lib.hid (heap_below HB5.out (HK0.out.trans HX1.out)); clear hh5 hb5; clear c0 c1 c2 c3 c4 c5; obtain ⟨c0, c1, c2, c3, c4, c5⟩ := elf_box HJ5.out; obtain ⟨d0, d1, d2, d3, d4, d5, d6⟩ := seg_box (x := s) HH5.out))
              | (go_at_call 57; go_must (refine (HTHC.out _ (Below.refl _ _)).mono ?_; rintro r w4 ⟨rfl, hb4⟩; have HB4 := Lib.hid hb4; clear hb4))
              | (go_at_call 32; go_must (refine (HMAP.out _ HB5.out).mono ?_; rintro r w6 ⟨rfl, hm6, hs6⟩; have HM6 := Lib.hid hm6; have HS6 := Lib.hid hs6; have HI6 := Lib.hid (hs6.kept HI5.out (fun h => fx_not (Nat.le_of_lt hw01) hw12 h.1)); have HJ6 := Lib.hid (hs6.kept HJ5.out (fun h => fx_not (Nat.le_refl _) hw02' h.1)); have HH6 := Lib.hid (hs6.kept HH5.out (fun h => by have := h.2.2; have := HB4.out.size; omega)); clear hm6 hs6; clear c0 c1 c2 c3 c4 c5 d0 d1 d2 d3 d4 d5 d6; obtain ⟨c0, c1, c2, c3, c4, c5⟩ := elf_box HJ6.out; obtain ⟨d0, d1, d2, d3, d4, d5, d6⟩ := seg_box (x := s) HH6.out))
              | (go_at_call 58; go_must (refine (HLAY.out _ _ HM6.out (by have := HB5.out.size; have := HS6.out.size; omega) (Reads.stirs (Reads.mono (Reads.stirs HV.out HST.out (fun k hk => hF k hk)) HB5.out) HS6.out (fun k hk h => HVO.out k hk h.1)) (fun k hk h => h.elim (fun h => HVO.out k hk h.1) (fun h => by have := hvb k hk; have := HB5.out.size; omega)) (fun k hk => by have := hvb k hk; have := HB5.out.size; have := HS6.out.size; omega)).mono ?_; rintro r w7 ⟨⟨p, rfl, hp⟩, hm7, hs7⟩; have HM7 := Lib.hid hm7; have HS7 := Lib.hid hs7; have HP := Lib.hid hp; have HI7 := Lib.hid (hs7.kept HI6.out (fun h => h.elim (fun h => fx_not (Nat.le_of_lt hw01) hw12 h.1) (fun h => by have := HB5.out.size; omega))); have HJ7 := Lib.hid (hs7.kept HJ6.out (fun h => h.elim (fun h => fx_not (Nat.le_refl _) hw02' h.1) (fun h => by have := HB5.out.size; omega))); clear hm7 hs7 hp; clear c0 c1 c2 c3 c4 c5 d0 d1 d2 d3 d4 d5 d6; obtain ⟨c0, c1, c2, c3, c4, c5⟩ := elf_box HJ7.out)))
            refine bodyPost_ret (results_row2 rfl _ _ w1.heap.size _ _ _ _ rfl HH8.out rfl rfl (by kernel_rfl)) rfl ⟨⟨_, by rw [HA4.out]; rfl, fun _ => by rw [HTT.out, ← HP.out (by first | trivial | rfl)], fun h => absurd (by rw [HA4.out]) h⟩, ?_, ?_⟩
            · rw [HA4.out]
              exact (HM7.out.stirs HS8.out (fun k hk e => hk.elim (fun h => h.elim (fun h => fx_not (Nat.le_of_lt hw01) hw12 (e ▸ h.1)) (fun h => by have := HB5.out.size; subst e; omega)) (fun h => by have := HB5.out.size; have := HS6.out.size; subst e; omega))).weak (fun k hk => hk.elim (fun h => h.elim (fun h => fx_out hw02 k h.1) (fun h => .inr (by have := HB5.out.size; omega))) (fun h => .inr (by have := HB5.out.size; have := HS6.out.size; omega)))
            · exact stirs_step (stirs_step (stirs_step (HST.out.thenBelow HB5.out) HS6.out (fun k hk => fx_out hw02 k hk.1)) HS7.out (fun k hk => hk.elim (fun h => fx_out hw02 k h.1) (fun h => .inr (by have := HB5.out.size; omega)))) HS8.out (fun k hk => .inr (Nat.le_trans (Nat.le_of_lt hw01) (Nat.le_of_eq (Eq.symm hk))))
          · have e3 : (r3 != 0) = true := by simpa using hr3
            have HA := HA4
            go_wp2_with (first
              | ((with_reducible show wpList _ _ _ (⟨none, .store _ _ _, _, _, _, _⟩ :: _) _ _); have hq := HI7; clear hq; go_must (refine wpList_storeRowS HI7.out rfl rfl rfl (by kernel_rfl) (by simp [Value.oneCell']) ?_; intro w8 hh8 hs8; have HH8 := Lib.hid hh8; have HS8 := Lib.hid hs8; clear hh8 hs8))
              | ((with_reducible show wpList _ _ _ (⟨none, .store _ _ _, _, _, _, _⟩ :: _) _ _); go_must (refine wpList_storeNew rfl rfl (by kernel_rfl) rfl (by simp [Value.oneCell']) ?_; intro w5 hh5 hb5; have HH5 := Lib.hid hh5; have HB5 := Lib.hid (HB4.out.trans (hb5.mono HB4.out.size)); have HI5 := Lib.hid (heap_below HB5.out (HK1.out.trans HX2.out)); have HJ5 := Lib.hid (heap_below HB5.out (HK0.out.trans HX1.out)); clear hh5 hb5; clear c0 c1 c2 c3 c4 c5; obtain ⟨c0, c1, c2, c3, c4, c5⟩ := elf_box HJ5.out; obtain ⟨d0, d1, d2, d3, d4, d5, d6⟩ := seg_box (x := s) HH5.out))
              | (go_at_call 57; go_must (refine (HTHC.out _ (Below.refl _ _)).mono ?_; rintro r w4 ⟨rfl, hb4⟩; have HB4 := Lib.hid hb4; clear hb4))
              | (go_at_call 32; go_must (refine (HMAP.out _ HB5.out).mono ?_; rintro r w6 ⟨rfl, hm6, hs6⟩; have HM6 := Lib.hid hm6; have HS6 := Lib.hid hs6; have HI6 := Lib.hid (hs6.kept HI5.out (fun h => fx_not (Nat.le_of_lt hw01) hw12 h.1)); have HJ6 := Lib.hid (hs6.kept HJ5.out (fun h => fx_not (Nat.le_refl _) hw02' h.1)); have HH6 := Lib.hid (hs6.kept HH5.out (fun h => by have := h.2.2; have := HB4.out.size; omega)); clear hm6 hs6; clear c0 c1 c2 c3 c4 c5 d0 d1 d2 d3 d4 d5 d6; obtain ⟨c0, c1, c2, c3, c4, c5⟩ := elf_box HJ6.out; obtain ⟨d0, d1, d2, d3, d4, d5, d6⟩ := seg_box (x := s) HH6.out))
              | (go_at_call 58; go_must (refine (HLAY.out _ _ HM6.out (by have := HB5.out.size; have := HS6.out.size; omega) (Reads.stirs (Reads.mono (Reads.stirs HV.out HST.out (fun k hk => hF k hk)) HB5.out) HS6.out (fun k hk h => HVO.out k hk h.1)) (fun k hk h => h.elim (fun h => HVO.out k hk h.1) (fun h => by have := hvb k hk; have := HB5.out.size; omega)) (fun k hk => by have := hvb k hk; have := HB5.out.size; have := HS6.out.size; omega)).mono ?_; rintro r w7 ⟨⟨p, rfl, hp⟩, hm7, hs7⟩; have HM7 := Lib.hid hm7; have HS7 := Lib.hid hs7; have HP := Lib.hid hp; have HI7 := Lib.hid (hs7.kept HI6.out (fun h => h.elim (fun h => fx_not (Nat.le_of_lt hw01) hw12 h.1) (fun h => by have := HB5.out.size; omega))); have HJ7 := Lib.hid (hs7.kept HJ6.out (fun h => h.elim (fun h => fx_not (Nat.le_refl _) hw02' h.1) (fun h => by have := HB5.out.size; omega))); clear hm7 hs7 hp; clear c0 c1 c2 c3 c4 c5 d0 d1 d2 d3 d4 d5 d6; obtain ⟨c0, c1, c2, c3, c4, c5⟩ := elf_box HJ7.out)))
            refine bodyPost_ret (results_row2 rfl _ _ w1.heap.size _ _ _ _ rfl HH8.out rfl rfl (by kernel_rfl)) rfl ⟨⟨_, by rw [HA.out]; rfl, fun h => absurd (by rw [HA.out] at h; exact h) hr3, fun _ => rfl⟩, ?_, ?_⟩
            · rw [HA4.out]
              exact (HM7.out.stirs HS8.out (fun k hk e => hk.elim (fun h => h.elim (fun h => fx_not (Nat.le_of_lt hw01) hw12 (e ▸ h.1)) (fun h => by have := HB5.out.size; subst e; omega)) (fun h => by have := HB5.out.size; have := HS6.out.size; subst e; omega))).weak (fun k hk => hk.elim (fun h => h.elim (fun h => fx_out hw02 k h.1) (fun h => .inr (by have := HB5.out.size; omega))) (fun h => .inr (by have := HB5.out.size; have := HS6.out.size; omega)))
            · exact stirs_step (stirs_step (stirs_step (HST.out.thenBelow HB5.out) HS6.out (fun k hk => fx_out hw02 k hk.1)) HS7.out (fun k hk => hk.elim (fun h => fx_out hw02 k h.1) (fun h => .inr (by have := HB5.out.size; omega)))) HS8.out (fun k hk => .inr (Nat.le_trans (Nat.le_of_lt hw01) (Nat.le_of_eq (Eq.symm hk))))
        · have e2 : (r2 != 0) = true := by simpa using hr2
          have HA := Lib.hid (show allR e.target l e.segs = (V2, r2) by rw [HA3.out]; unfold bindR; rw [if_neg hr2])
          go_wp2_with (first
            | ((with_reducible show wpList _ _ _ (⟨none, .store _ _ _, _, _, _, _⟩ :: _) _ _); have hq := HI6; clear hq; go_must (refine wpList_storeRowS HI6.out rfl rfl rfl (by kernel_rfl) (by simp [Value.oneCell']) ?_; intro w7 hh7 hs7; have HH7 := Lib.hid hh7; have HS7 := Lib.hid hs7; clear hh7 hs7))
            | ((with_reducible show wpList _ _ _ (⟨none, .store _ _ _, _, _, _, _⟩ :: _) _ _); go_must (refine wpList_storeNew rfl rfl (by kernel_rfl) rfl (by simp [Value.oneCell']) ?_; intro w5 hh5 hb5; have HH5 := Lib.hid hh5; have HB5 := Lib.hid (HB4.out.trans (hb5.mono HB4.out.size)); have HI5 := Lib.hid (heap_below HB5.out (HK1.out.trans HX2.out)); have HJ5 := Lib.hid (heap_below HB5.out (HK0.out.trans HX1.out)); clear hh5 hb5; clear c0 c1 c2 c3 c4 c5; obtain ⟨c0, c1, c2, c3, c4, c5⟩ := elf_box HJ5.out; obtain ⟨d0, d1, d2, d3, d4, d5, d6⟩ := seg_box (x := s) HH5.out))
            | (go_at_call 57; go_must (refine (HTHC.out _ (Below.refl _ _)).mono ?_; rintro r w4 ⟨rfl, hb4⟩; have HB4 := Lib.hid hb4; clear hb4))
            | (go_at_call 32; go_must (refine (HMAP.out _ HB5.out).mono ?_; rintro r w6 ⟨rfl, hm6, hs6⟩; have HM6 := Lib.hid hm6; have HS6 := Lib.hid hs6; have HI6 := Lib.hid (hs6.kept HI5.out (fun h => fx_not (Nat.le_of_lt hw01) hw12 h.1)); have HJ6 := Lib.hid (hs6.kept HJ5.out (fun h => fx_not (Nat.le_refl _) hw02' h.1)); have HH6 := Lib.hid (hs6.kept HH5.out (fun h => by have := h.2.2; have := HB4.out.size; omega)); clear hm6 hs6; clear c0 c1 c2 c3 c4 c5 d0 d1 d2 d3 d4 d5 d6; obtain ⟨c0, c1, c2, c3, c4, c5⟩ := elf_box HJ6.out; obtain ⟨d0, d1, d2, d3, d4, d5, d6⟩ := seg_box (x := s) HH6.out)))
          refine bodyPost_ret (results_row2 rfl _ _ w1.heap.size _ _ _ _ rfl HH7.out rfl rfl (by kernel_rfl)) rfl ⟨⟨_, by rw [HA.out]; rfl, fun h => absurd (by rw [HA.out] at h; exact h) hr2, fun _ => rfl⟩, ?_, ?_⟩
          · rw [HA.out]
            exact (HM6.out.stirs HS7.out (fun k hk e => hk.elim (fun h => fx_not (Nat.le_of_lt hw01) hw12 (e ▸ h.1)) (fun h => by have := HB5.out.size; subst e; omega))).weak (fun k hk => hk.elim (fun h => fx_out hw02 k h.1) (fun h => .inr (by have := HB5.out.size; omega)))
          · exact stirs_step (stirs_step (HST.out.thenBelow HB5.out) HS6.out (fun k hk => fx_out hw02 k hk.1)) HS7.out (fun k hk => .inr (Nat.le_trans (Nat.le_of_lt hw01) (Nat.le_of_eq (Eq.symm hk))))
      · have e1 : (r1 != 0) = true := by simpa using hr1
        have HA := Lib.hid (HA1.out hr1)
        go_wp2_with (first
          | ((with_reducible show wpList _ _ _ (⟨none, .store _ _ _, _, _, _, _⟩ :: _) _ _); have hq := HI5; clear hq; go_must (refine wpList_storeRowS HI5.out rfl rfl rfl (by kernel_rfl) (by simp [Value.oneCell']) ?_; intro w6 hh6 hs6; have HH6 := Lib.hid hh6; have HS6 := Lib.hid hs6; clear hh6 hs6))
          | ((with_reducible show wpList _ _ _ (⟨none, .store _ _ _, _, _, _, _⟩ :: _) _ _); go_must (refine wpList_storeNew rfl rfl (by kernel_rfl) rfl (by simp [Value.oneCell']) ?_; intro w5 hh5 hb5; have HH5 := Lib.hid hh5; have HB5 := Lib.hid (HB4.out.trans (hb5.mono HB4.out.size)); have HI5 := Lib.hid (heap_below HB5.out (HK1.out.trans HX2.out)); have HJ5 := Lib.hid (heap_below HB5.out (HK0.out.trans HX1.out)); clear hh5 hb5; clear c0 c1 c2 c3 c4 c5; obtain ⟨c0, c1, c2, c3, c4, c5⟩ := elf_box HJ5.out; obtain ⟨d0, d1, d2, d3, d4, d5, d6⟩ := seg_box (x := s) HH5.out))
          | (go_at_call 57; go_must (refine (HTHC.out _ (Below.refl _ _)).mono ?_; rintro r w4 ⟨rfl, hb4⟩; have HB4 := Lib.hid hb4; clear hb4)))
        refine bodyPost_ret (results_row2 rfl _ _ w1.heap.size _ _ _ _ rfl HH6.out rfl rfl (by kernel_rfl)) rfl ⟨⟨_, by rw [HA.out]; rfl, fun h => absurd (by rw [HA.out] at h; exact h) hr1, fun _ => rfl⟩, ?_, ?_⟩
        · rw [HA.out]
          exact ((HMN.out.mono HB5.out).stirs HS6.out (fun k hk e => fx_not (Nat.le_of_lt hw01) hw12 (e ▸ hk.1))).weak (fun k hk => fx_out hw02 k hk.1)
        · exact stirs_step (HST.out.thenBelow HB5.out) HS6.out (fun k hk => .inr (Nat.le_trans (Nat.le_of_lt hw01) (Nat.le_of_eq (Eq.symm hk))))
end Go.Proofs.Ytmpelmjhimalpaa
namespace Go.Proofs.Ytmpelmjhimalpaa
open Go.RowKit Go.Fd
theorem results_row3 {P : Program} {fn : Func} {p u v : Tmp} {ty : TypeId} (h : fn.results = #[.cell p ty, .tmp u, .tmp v]) (tmps : Array Value) (w : World) (g : Nat) (t : TypeId) (cs : Array Value) (fr : Nat × Nat) (d : TypeDesc)
    (hp : tmps.getD p undef = .pointer (some ⟨g, 0, none⟩)) (hg : w.heap[g]? = some (.cells cs t fr))
    (hu : P.underlying ty = some d) (hd : (match d with | .struct _ | .array _ _ => true | _ => false) = true) (hi : (P.info? ty).map (·.size) = some cs.size) :
    (results fn tmps).run P w = .ok (.tuple #[.agg cs, tmps.getD u undef, tmps.getD v undef]) w := by
  have h1 := run_loadVar_row w g t ty cs fr d hg hu hd hi
  simp at hp
  simp only [results, h]
  simp [hp, asAddr, Sem.run_bind, Result.andThen, h1]
/-- A program comes, or none. -/
def ProgRes (l : List UInt8) (B : Nat) (r : Ending) (w : World) : Prop :=
  ((progR l).2 ≠ 0 ∧ r = .returned (.tuple #[.agg imgZ, .pointer none, .int .i64 (progR l).2])) ∨
  ((progR l).2 = 0 ∧ ∃ base bp, r = .returned (.tuple #[.agg #[.int .i64 (readE l).1.target, .int .u64 (readE l).1.entry, .int .u64 1099511627712, .int .u64 (ptR (readE l).1.target (thR l.length (readE l).1.segs 0 seg1).1 : Nat)], ptr bp, .int .i64 0]) ∧ B ≤ base ∧ base ≤ w.heap.size ∧ Mem w base bp (fun k => B ≤ k) (progR l).1)
theorem own_lt {w : World} {B n : Nat} {f : SegM → List Value} {t : TypeId} {v : Value} {G : List SegM} (h : OwR n f t w B v G) {k : Nat} (hk : v.ownBlock = some k) : k < w.heap.size := by
  have h' : w.ownsRow B t n v G.length (G.flatMap f) := h
  rcases h'.2 with h2 | ⟨g, cap, cur, hv, hg, hh, r⟩
  · rw [h2.1] at hk
    cases hk
  · rw [hv] at hk
    injection hk with hk
    subst hk
    exact (Array.getElem?_eq_some_iff.1 hh).1
theorem read_segs {l : List UInt8} (h : (readE l).2 = 0) : (readE l).1.segs.length ≤ 16 ∧ ∀ s ∈ (readE l).1.segs, s.fits ∧ 1 ≤ s.align ∧ s.align ≤ 65536 := by
  unfold readE at h ⊢
  split at h
  · next hc => exact absurd h hc
  · next hc =>
    rw [if_neg hc]
    split at h
    · next hm =>
      rw [if_pos hm]
      have h2 := hm.2.1
      unfold mayE may1 may2 at h2
      simp only [Bool.and_eq_true, decide_eq_true_eq, List.all_eq_true] at h2
      refine ⟨h2.1.1.2, fun s hs => ⟨?_, powB_le (h2.1.2.2 s hs)⟩⟩
      have hs' : s ∈ segsP l (nsegsP l) := hs
      unfold segsP at hs'
      obtain ⟨i, -, rfl⟩ := List.mem_map.1 hs'
      exact segP_fits _ _
    · cases h
theorem prog_c {l : List UInt8} (h : (readE l).2 ≠ 0) : progR l = ([], (readE l).2) := by unfold progR; rw [if_pos h]
theorem prog_t {l : List UInt8} (h : (readE l).2 = 0) (ht : (readE l).1.typ ≠ 2) : progR l = ([], 4) := by unfold progR; rw [if_neg (fun h' => h' h), if_pos ht]
theorem prog_a {l : List UInt8} (h : (readE l).2 = 0) (ht : (readE l).1.typ = 2) : progR l = allR (readE l).1.target l (readE l).1.segs := by unfold progR; rw [if_neg (fun h' => h' h), if_neg (fun h' => h' ht)]
attribute [local irreducible] progR readE allR thR ptR
set_option maxHeartbeats 2000000 in
set_option maxRecDepth 100000 in
theorem program_any (l : List UInt8) (v : Value) (w : World) (hl : l.length ≤ 1000000000) (hv : Bs w v l) (hvb : ∀ k, v.ownBlock = some k → k < w.heap.size) :
    Calls Try.prog 8 #[v] w fun r w' => ProgRes l w.heap.size r w' ∧ Below w.heap.size w w' := by
  have HV := Lib.hid hv
  have HVB := Lib.hid hvb
  clear hv hvb
  obtain ⟨e, c, hre⟩ : ∃ e c, readE l = (e, c) := ⟨_, _, rfl⟩
  have HRD := Lib.hid (show ∀ wx, Below w.heap.size w wx → Calls Try.prog 25 #[v] wx (fun r w' => (∃ L sv gv, r = .returned (.tuple #[elfV e sv gv, .int .i64 c]) ∧ ElfOwn w' wx.heap.size e L sv gv) ∧ Below wx.heap.size wx w') from fun wx hb => (readE_any l v wx hl (HV.out.mono hb)).mono (by rintro r w' ⟨⟨L, sv, gv, h1, h2⟩, h3⟩; rw [hre] at h1 h2; exact ⟨⟨L, sv, gv, h1, h2⟩, h3⟩))
  have HS0 := Lib.hid (fun h => read_segs (l := l) h)
  have HPC := Lib.hid (fun h => prog_c (l := l) h)
  have HPT := Lib.hid (fun h h2 => prog_t (l := l) h h2)
  have HPA := Lib.hid (fun h h2 => prog_a (l := l) h h2)
  rw [hre] at HS0 HPC HPT HPA
  have HRE := Lib.hid hre
  clear hre
  by_cases hc : c = 0
  · subst hc
    have HSG := Lib.hid (HS0.out rfl)
    by_cases ht : e.typ = 2
    · have HP := Lib.hid (HPA.out rfl ht)
      have et : (e.typ != 2) = false := by simpa using ht
      have HTY := Lib.hid ht
      clear ht
      generalize hal : allR e.target l e.segs = al at *
      have HAL := Lib.hid hal
      obtain ⟨V, r⟩ := al
      clear hal
      by_cases hr : r = 0
      · subst hr
        have HALL := Lib.hid (show ∀ (wx : World) (B bp : Nat) (L : List (SecM × Value)) (sv gv : Value), ElfAt wx e L sv gv → Mem wx B bp (fun k => B ≤ k) [] → B ≤ wx.heap.size → Bs wx v l → w.heap.size ≤ B → (∀ k, gv.ownBlock = some k → k < B) →
            Calls Try.prog 26 #[ptr bp, elfV e sv gv, v] wx (fun r' w' => r' = .returned (.tuple #[.agg #[.int .i64 e.target, .int .u64 e.entry, .int .u64 1099511627712, .int .u64 (ptR e.target (thR l.length e.segs 0 seg1).1 : Nat)], .int .i64 0]) ∧ Mem w' B bp (more (fun k => B ≤ k) wx) V ∧ Stirs (fun k => B ≤ k) wx w') from fun wx B bp L sv gv h1 h2 h3 h4 h5 h6 => by
            exact (ldAll_any e L sv gv v l wx h1 h2 h3 h4 hl (fun k hk h => absurd (HVB.out k hk) (Nat.not_lt.2 (Nat.le_trans h5 h))) (fun k hk => Nat.lt_of_lt_of_le (HVB.out k hk) (Nat.le_trans h5 h3)) (fun k hk h => absurd (h6 k hk) (Nat.not_lt.2 h)) HSG.out.1 HSG.out.2).mono (by
              rw [HAL.out]
              rintro r' w' ⟨⟨img, rfl, himg⟩, hm5, hs5⟩
              obtain rfl := himg.1 rfl
              exact ⟨rfl, hm5, hs5⟩))
        go_enter Try.func8, Try.ntmps8
        go_wp2_with (first
          | ((with_reducible show wpList _ _ _ (⟨some 2, .alloc _, _, _, _, _⟩ :: _) _ _); go_must (refine wpList_allocImg ?_; intro w1 hx1 hb1 hs1; have HX1 := Lib.hid hx1; have HB1 := Lib.hid hb1; have hw01 : w.heap.size < w1.heap.size := hs1; clear hx1 hb1 hs1))
          | (go_at_call 25; go_must (refine (HRD.out _ HB1.out).mono ?_; rintro r w2 ⟨⟨L, sv, gv, rfl, hown⟩, hb2⟩; obtain ⟨sn, sa, sc, -, rfl, _, _⟩ := hown.so.shape; obtain ⟨gn, ga, gc, -, rfl, _, _⟩ := hown.go.shape; have HOW := Lib.hid hown; have HX2 := Lib.hid (heap_below hb2 HX1.out); have HB2 := Lib.hid (HB1.out.trans (hb2.mono HB1.out.size)); have hw12 := hb2.size; clear hb2 hown))
          | ((with_reducible show wpList _ _ _ (⟨none, .store _ _ _, _, _, _, _⟩ :: _) _ _); have hq := HX6; clear hq; go_must (refine wpList_storeRowS HX6.out rfl rfl rfl (by kernel_rfl) (by simp [Value.oneCell']) ?_; intro w7 hh7 hs7; have HH7 := Lib.hid hh7; have HS7 := Lib.hid hs7; clear hh7 hs7))
          | ((with_reducible show wpList _ _ _ (⟨none, .store _ _ _, _, _, _, _⟩ :: _) _ _); have hq := HX5; clear hq; go_must (refine wpList_storeNew rfl rfl (by kernel_rfl) rfl (by simp [Value.oneCell']) ?_; intro w6 hh6 hb6; have i0 := cell_rec hh6 0; have i1 := cell_rec hh6 1; have i2 := cell_rec hh6 2; have i3 := cell_rec hh6 3; have HX6 := Lib.hid (heap_below hb6 HX5.out); have HB6 := Lib.hid hb6; clear hh6 hb6))
          | ((with_reducible show wpList _ _ _ (⟨none, .store _ _ _, _, _, _, _⟩ :: _) _ _); have hq := HX2; clear hq; go_must (refine wpList_storeNew rfl rfl (by kernel_rfl) rfl (by simp [Value.oneCell']) ?_; intro w3 hh3 hb3; obtain ⟨c0, c1, c2, c3, c4, c5⟩ := elf_box (e := e) hh3; have HX3 := Lib.hid (heap_below hb3 HX2.out); have HH3 := Lib.hid hh3; have HB3 := Lib.hid (HB2.out.trans (hb3.mono HB2.out.size)); have HOW3 := Lib.hid (HOW.out.at.mono hb3); have hw23 := hb3.size; clear hh3 hb3))
          | (go_at_call 16; go_must (refine (new_mem w3).mono ?_; rintro r w4 ⟨bp, rfl, hm4, hb4⟩; have HM4 := Lib.hid hm4; have HX4 := Lib.hid (heap_below hb4 HX3.out); have HH4 := Lib.hid (heap_below hb4 HH3.out); have HB4 := Lib.hid (HB3.out.trans (hb4.mono HB3.out.size)); have HOW4 := Lib.hid (HOW3.out.mono hb4); have hw34 := hb4.size; clear hm4 hb4; clear c0 c1 c2 c3 c4 c5; obtain ⟨c0, c1, c2, c3, c4, c5⟩ := elf_box (e := e) HH4.out))
          | (go_at_call 26; go_must (refine (HALL.out _ _ _ _ _ _ HOW4.out HM4.out hw34 (HV.out.mono HB4.out) (Nat.le_trans (Nat.le_of_lt hw01) (Nat.le_trans hw12 hw23)) (fun k hk => Nat.lt_of_lt_of_le (own_lt HOW.out.go hk) hw23)).mono ?_; rintro r w5 ⟨rfl, hm5, hs5⟩; have HM5 := Lib.hid hm5; have HX5 := Lib.hid (hs5.kept HX4.out (fun h => by have h' : w3.heap.size ≤ w.heap.size := h; omega)); have HB5 := Lib.hid (HB4.out.trans ((hs5.below (B := w3.heap.size) hw34 (fun k h => h)).mono HB3.out.size)); have hw35 := Nat.le_trans hw34 hs5.size; clear hm5 hs5)))
        refine bodyPost_ret (results_row3 rfl _ _ w.heap.size _ _ _ _ rfl HH7.out rfl rfl (by kernel_rfl)) rfl ⟨.inr ⟨by rw [HP.out], w3.heap.size, bp, ?_, HB3.out.size, ?_, ?_⟩, ?_⟩
        · rw [HRE.out]
          rfl
        · exact Nat.le_trans hw35 (Nat.le_trans HB6.out.size HS7.out.size)
        · rw [HP.out]
          exact ((HM5.out.mono HB6.out).stirs HS7.out (fun k hk e => hk.elim (fun h => by have h' : w3.heap.size ≤ k := h; have e' : k = w.heap.size := e; omega) (fun h => by have e' : k = w.heap.size := e; omega))).weak (fun k hk => hk.elim (fun h => Nat.le_trans (by omega) h) (fun h => Nat.le_trans (by omega) h))
        · exact (HB5.out.trans (HB6.out.mono HB5.out.size)).trans (HS7.out.below (Nat.le_trans HB5.out.size HB6.out.size) (fun k h => Nat.le_of_eq (Eq.symm h)))
      · have er : (r != 0) = true := by simpa using hr
        have HALL := Lib.hid (show ∀ (wx : World) (B bp : Nat) (L : List (SecM × Value)) (sv gv : Value), ElfAt wx e L sv gv → Mem wx B bp (fun k => B ≤ k) [] → B ≤ wx.heap.size → Bs wx v l → w.heap.size ≤ B → (∀ k, gv.ownBlock = some k → k < B) →
            Calls Try.prog 26 #[ptr bp, elfV e sv gv, v] wx (fun r' w' => r' = .returned (.tuple #[.agg imgZ, .int .i64 r]) ∧ Mem w' B bp (more (fun k => B ≤ k) wx) V ∧ Stirs (fun k => B ≤ k) wx w') from fun wx B bp L sv gv h1 h2 h3 h4 h5 h6 => by
            exact (ldAll_any e L sv gv v l wx h1 h2 h3 h4 hl (fun k hk h => absurd (HVB.out k hk) (Nat.not_lt.2 (Nat.le_trans h5 h))) (fun k hk => Nat.lt_of_lt_of_le (HVB.out k hk) (Nat.le_trans h5 h3)) (fun k hk h => absurd (h6 k hk) (Nat.not_lt.2 h)) HSG.out.1 HSG.out.2).mono (by
              rw [HAL.out]
              rintro r' w' ⟨⟨img, rfl, himg⟩, hm5, hs5⟩
              obtain rfl := himg.2 hr
              exact ⟨rfl, hm5, hs5⟩))
        go_enter Try.func8, Try.ntmps8
        go_wp2_with (first
          | ((with_reducible show wpList _ _ _ (⟨some 2, .alloc _, _, _, _, _⟩ :: _) _ _); go_must (refine wpList_allocImg ?_; intro w1 hx1 hb1 hs1; have HX1 := Lib.hid hx1; have HB1 := Lib.hid hb1; have hw01 : w.heap.size < w1.heap.size := hs1; clear hx1 hb1 hs1))
          | (go_at_call 25; go_must (refine (HRD.out _ HB1.out).mono ?_; rintro r w2 ⟨⟨L, sv, gv, rfl, hown⟩, hb2⟩; obtain ⟨sn, sa, sc, -, rfl, _, _⟩ := hown.so.shape; obtain ⟨gn, ga, gc, -, rfl, _, _⟩ := hown.go.shape; have HOW := Lib.hid hown; have HX2 := Lib.hid (heap_below hb2 HX1.out); have HB2 := Lib.hid (HB1.out.trans (hb2.mono HB1.out.size)); have hw12 := hb2.size; clear hb2 hown))
          | ((with_reducible show wpList _ _ _ (⟨none, .store _ _ _, _, _, _, _⟩ :: _) _ _); have hq := HX6; clear hq; go_must (refine wpList_storeRowS HX6.out rfl rfl rfl (by kernel_rfl) (by simp [Value.oneCell']) ?_; intro w7 hh7 hs7; have HH7 := Lib.hid hh7; have HS7 := Lib.hid hs7; clear hh7 hs7))
          | ((with_reducible show wpList _ _ _ (⟨none, .store _ _ _, _, _, _, _⟩ :: _) _ _); have hq := HX5; clear hq; go_must (refine wpList_storeNew rfl rfl (by kernel_rfl) rfl (by simp [Value.oneCell']) ?_; intro w6 hh6 hb6; have i0 := cell_rec hh6 0; have i1 := cell_rec hh6 1; have i2 := cell_rec hh6 2; have i3 := cell_rec hh6 3; have HX6 := Lib.hid (heap_below hb6 HX5.out); have HB6 := Lib.hid hb6; clear hh6 hb6))
          | ((with_reducible show wpList _ _ _ (⟨none, .store _ _ _, _, _, _, _⟩ :: _) _ _); have hq := HX2; clear hq; go_must (refine wpList_storeNew rfl rfl (by kernel_rfl) rfl (by simp [Value.oneCell']) ?_; intro w3 hh3 hb3; obtain ⟨c0, c1, c2, c3, c4, c5⟩ := elf_box (e := e) hh3; have HX3 := Lib.hid (heap_below hb3 HX2.out); have HH3 := Lib.hid hh3; have HB3 := Lib.hid (HB2.out.trans (hb3.mono HB2.out.size)); have HOW3 := Lib.hid (HOW.out.at.mono hb3); have hw23 := hb3.size; clear hh3 hb3))
          | (go_at_call 16; go_must (refine (new_mem w3).mono ?_; rintro r w4 ⟨bp, rfl, hm4, hb4⟩; have HM4 := Lib.hid hm4; have HX4 := Lib.hid (heap_below hb4 HX3.out); have HH4 := Lib.hid (heap_below hb4 HH3.out); have HB4 := Lib.hid (HB3.out.trans (hb4.mono HB3.out.size)); have HOW4 := Lib.hid (HOW3.out.mono hb4); have hw34 := hb4.size; clear hm4 hb4; clear c0 c1 c2 c3 c4 c5; obtain ⟨c0, c1, c2, c3, c4, c5⟩ := elf_box (e := e) HH4.out))
          | (go_at_call 26; go_must (refine (HALL.out _ _ _ _ _ _ HOW4.out HM4.out hw34 (HV.out.mono HB4.out) (Nat.le_trans (Nat.le_of_lt hw01) (Nat.le_trans hw12 hw23)) (fun k hk => Nat.lt_of_lt_of_le (own_lt HOW.out.go hk) hw23)).mono ?_; rintro r w5 ⟨rfl, hm5, hs5⟩; have HM5 := Lib.hid hm5; have HX5 := Lib.hid (hs5.kept HX4.out (fun h => by have h' : w3.heap.size ≤ w.heap.size := h; omega)); have HB5 := Lib.hid (HB4.out.trans ((hs5.below (B := w3.heap.size) hw34 (fun k h => h)).mono HB3.out.size)); have hw35 := Nat.le_trans hw34 hs5.size; clear hm5 hs5)))
        refine bodyPost_ret (results_row3 rfl _ _ w.heap.size _ _ _ _ rfl HH7.out rfl rfl (by kernel_rfl)) rfl ⟨.inl ⟨by rw [HP.out]; exact hr, by rw [HP.out]; rfl⟩, ?_⟩
        exact (HB5.out.trans (HB6.out.mono HB5.out.size)).trans (HS7.out.below (Nat.le_trans HB5.out.size HB6.out.size) (fun k h => Nat.le_of_eq (Eq.symm h)))
    · have HP := Lib.hid (HPT.out rfl ht)
      have et : (e.typ != 2) = true := by simpa using ht
      go_enter Try.func8, Try.ntmps8
      go_wp2_with (first
        | ((with_reducible show wpList _ _ _ (⟨some 2, .alloc _, _, _, _, _⟩ :: _) _ _); go_must (refine wpList_allocImg ?_; intro w1 hx1 hb1 hs1; have HX1 := Lib.hid hx1; have HB1 := Lib.hid hb1; have hw01 : w.heap.size < w1.heap.size := hs1; clear hx1 hb1 hs1))
        | (go_at_call 25; go_must (refine (HRD.out _ HB1.out).mono ?_; rintro r w2 ⟨⟨L, sv, gv, rfl, hown⟩, hb2⟩; obtain ⟨sn, sa, sc, -, rfl, _, _⟩ := hown.so.shape; obtain ⟨gn, ga, gc, -, rfl, _, _⟩ := hown.go.shape; have HOW := Lib.hid hown; have HX2 := Lib.hid (heap_below hb2 HX1.out); have HB2 := Lib.hid (HB1.out.trans (hb2.mono HB1.out.size)); have hw12 := hb2.size; clear hb2 hown))
        | ((with_reducible show wpList _ _ _ (⟨none, .store _ _ _, _, _, _, _⟩ :: _) _ _); have hq := HX3; clear hq; go_must (refine wpList_storeRowS HX3.out rfl rfl rfl (by kernel_rfl) (by simp [Value.oneCell']) ?_; intro w4 hh4 hs4; have HH4 := Lib.hid hh4; have HS4 := Lib.hid hs4; clear hh4 hs4))
        | ((with_reducible show wpList _ _ _ (⟨none, .store _ _ _, _, _, _, _⟩ :: _) _ _); have hq := HX2; clear hq; go_must (refine wpList_storeNew rfl rfl (by kernel_rfl) rfl (by simp [Value.oneCell']) ?_; intro w3 hh3 hb3; obtain ⟨c0, c1, c2, c3, c4, c5⟩ := elf_box (e := e) hh3; have HX3 := Lib.hid (heap_below hb3 HX2.out); have HH3 := Lib.hid hh3; have HB3 := Lib.hid (HB2.out.trans (hb3.mono HB2.out.size)); have HOW3 := Lib.hid (HOW.out.at.mono hb3); have hw23 := hb3.size; clear hh3 hb3)))
      refine bodyPost_ret (results_row3 rfl _ _ w.heap.size _ _ _ _ rfl HH4.out rfl rfl (by kernel_rfl)) rfl ⟨.inl ⟨by rw [HP.out]; exact (by decide : (4 : Int) ≠ 0), by rw [HP.out]; rfl⟩, ?_⟩
      exact HB3.out.trans (HS4.out.below HB3.out.size (fun k h => Nat.le_of_eq (Eq.symm h)))
  · have HP := Lib.hid (HPC.out hc)
    have ec : (c != 0) = true := by simpa using hc
    go_enter Try.func8, Try.ntmps8
    go_wp2_with (first
      | ((with_reducible show wpList _ _ _ (⟨some 2, .alloc _, _, _, _, _⟩ :: _) _ _); go_must (refine wpList_allocImg ?_; intro w1 hx1 hb1 hs1; have HX1 := Lib.hid hx1; have HB1 := Lib.hid hb1; have hw01 : w.heap.size < w1.heap.size := hs1; clear hx1 hb1 hs1))
      | (go_at_call 25; go_must (refine (HRD.out _ HB1.out).mono ?_; rintro r w2 ⟨⟨L, sv, gv, rfl, hown⟩, hb2⟩; obtain ⟨sn, sa, sc, -, rfl, _, _⟩ := hown.so.shape; obtain ⟨gn, ga, gc, -, rfl, _, _⟩ := hown.go.shape; have HOW := Lib.hid hown; have HX2 := Lib.hid (heap_below hb2 HX1.out); have HB2 := Lib.hid (HB1.out.trans (hb2.mono HB1.out.size)); have hw12 := hb2.size; clear hb2 hown))
      | ((with_reducible show wpList _ _ _ (⟨none, .store _ _ _, _, _, _, _⟩ :: _) _ _); have hq := HX3; clear hq; go_must (refine wpList_storeRowS HX3.out rfl rfl rfl (by kernel_rfl) (by simp [Value.oneCell']) ?_; intro w4 hh4 hs4; have HH4 := Lib.hid hh4; have HS4 := Lib.hid hs4; clear hh4 hs4))
      | ((with_reducible show wpList _ _ _ (⟨none, .store _ _ _, _, _, _, _⟩ :: _) _ _); have hq := HX2; clear hq; go_must (refine wpList_storeNew rfl rfl (by kernel_rfl) rfl (by simp [Value.oneCell']) ?_; intro w3 hh3 hb3; obtain ⟨c0, c1, c2, c3, c4, c5⟩ := elf_box (e := e) hh3; have HX3 := Lib.hid (heap_below hb3 HX2.out); have HH3 := Lib.hid hh3; have HB3 := Lib.hid (HB2.out.trans (hb3.mono HB2.out.size)); have HOW3 := Lib.hid (HOW.out.at.mono hb3); have hw23 := hb3.size; clear hh3 hb3)))
    refine bodyPost_ret (results_row3 rfl _ _ w.heap.size _ _ _ _ rfl HH4.out rfl rfl (by kernel_rfl)) rfl ⟨.inl ⟨by rw [HP.out]; exact hc, by rw [HP.out]; rfl⟩, ?_⟩
    exact HB3.out.trans (HS4.out.below HB3.out.size (fun k h => Nat.le_of_eq (Eq.symm h)))
end Go.Proofs.Ytmpelmjhimalpaa
namespace Go.Proofs.Ytmpelmjhimalpaa
open Go.RowKit Go.Fd
abbrev segL : SegM := ⟨1, 5, 0, 65536, 4, 8, 4096⟩
abbrev elfL : ElfM := ⟨2, 3, 0, 65536, [], [segL]⟩
set_option maxRecDepth 100000 in
theorem elfL_may : mayE elfL = true ∧ (fileB elfL).length = 264 := by decide +kernel
theorem elfL_ok : ElfOk elfL := ⟨⟨by decide, by decide, by decide, by decide, (fun s hs => by cases hs), (fun s hs => by rw [List.mem_singleton] at hs; subst hs; exact ⟨by decide, by decide, by decide, by decide, by decide, by decide, by decide⟩)⟩, by decide, (fun s hs => by cases hs), by decide, by decide⟩
set_option maxRecDepth 100000 in
theorem elfL_all : (allR 3 (fileB elfL) [segL]).2 = 0 ∧ loadR (allR 3 (fileB elfL) [segL]).1 65536 4 = (1179403647, 0) := by decide +kernel
theorem prog_nil : progR [] = ([], 2) := by
  have h : readE [] = (elf0, 2) := by
    unfold readE
    rw [if_pos (by decide +kernel)]
    exact congrArg (fun x => (elf0, x)) (by decide +kernel)
  unfold progR
  rw [h, if_pos (by decide)]
theorem ob_lt {w : World} {B : Nat} {v : Value} {l : List UInt8} (h : OB w B v l) {k : Nat} (hk : v.ownBlock = some k) : k < w.heap.size := by
  rcases h.2 with h2 | ⟨g, cap, cur, hv, hg, hh, r⟩
  · rw [h2.1] at hk
    cases hk
  · rw [hv] at hk
    injection hk with hk
    subst hk
    exact (Array.getElem?_eq_some_iff.1 hh).1
theorem wpList_oneSeg {ops : Array Oper} {rest : List Oper} {Q : Exit → Act → World → Prop} {x : Operand} {s : SegM} {a : Act} {w : World} {d : Option Tmp} {ty : TypeId} {pos : String} {aft : Array Edge} (hx : a.eval x = .agg (encSeg s).toArray)
    (h : ∀ w1, w1.heap[w.heap.size]? = some (.cells (encSeg s).toArray 30 (0, 0)) → Below w.heap.size w w1 → w.heap.size < w1.heap.size → wpList Try.prog ops Q rest (a.put d (.slice (some ⟨w.heap.size, 0, none⟩) 1 1)) w1) :
    wpList Try.prog ops Q (⟨d, .buildSlice 31 1 #[(0, x)], ty, pos, aft, none⟩ :: rest) a w :=
  wpList_val rfl (run_oneSeg hx) (h _ (heap_alloc_last w _) (below_alloc w _) (by rw [World.size_alloc]; omega))
theorem progL : (progR (fileB elfL)).2 = 0 ∧ loadR (progR (fileB elfL)).1 65536 4 = (1179403647, 0) := by
  have h : readE (fileB elfL) = (elfL, 0) := read_back elfL_may.1 elfL_ok.fits
  have h2 : progR (fileB elfL) = allR 3 (fileB elfL) [segL] := by
    rw [prog_a (by rw [h]) (by rw [h]), h]
  rw [h2]
  exact elfL_all
set_option maxHeartbeats 4000000 in
set_option maxRecDepth 100000 in
theorem begun26_any (w : World) : Calls Try.prog 6 #[] w fun e w' => e = .returned (.bool true) ∧ Below w.heap.size w w' := by
  have HW := Lib.hid (fun (wx : World) (g : Nat) (h : wx.heap[g]? = some (.cells (encSeg segL).toArray 30 (0, 0))) => writeE_any elfL [] (.slice none 0 0) (.slice (some ⟨g, 0, none⟩) 1 1) wx ⟨rfl, RdR.nil _ _ _, (fun p hp => by cases hp), rd_one rfl h rfl⟩ elfL_ok)
  rw [fileW_ok elfL_may.1] at HW
  have HLB := Lib.hid elfL_may.2
  have HRB := Lib.hid (read_back elfL_may.1 elfL_ok.fits)
  have HPL := Lib.hid progL
  generalize fileB elfL = B at *
  have HPR := Lib.hid (fun (wx : World) (v : Value) (hv : Bs wx v B) (hvb : ∀ k, v.ownBlock = some k → k < wx.heap.size) => program_any B v wx (by have := HLB.out; omega) hv hvb)
  have HPN := Lib.hid (fun (wx : World) => program_any [] (.slice none 0 0) wx (by decide) (Bs.nil wx) (fun k h => by cases h))
  go_enter Try.func6, Try.ntmps6
  go_wp2_with (first
    | ((with_reducible show wpList _ _ _ (⟨some 13, _, _, _, _, _⟩ :: _) _ _); go_must (refine wpList_oneSeg (s := segL) rfl ?_; intro w1 hx1 hb1 hs1; have HX1 := Lib.hid hx1; have HB1 := Lib.hid hb1; clear hx1 hb1))
    | ((with_reducible show wpList _ _ _ (⟨some 1, .alloc _, _, _, _, _⟩ :: _) _ _); go_must (refine wpList_allocElf ?_; intro w2 hx2 hb2 hs2; have HX2 := Lib.hid hx2; have HX12 := Lib.hid (heap_below hb2 HX1.out); have HB2 := Lib.hid (HB1.out.trans (hb2.mono HB1.out.size)); clear hx2 hb2))
    | ((with_reducible show wpList _ _ _ (⟨none, .store _ (.tmp 1) _, _, _, _, _⟩ :: _) _ _); go_must (refine wpList_storeElfS HX2.out rfl rfl rfl rfl (by simp [Value.oneCell']) ?_; intro w3 hh3 hs3; have HH3 := Lib.hid hh3; have HX3 := Lib.hid (hs3.kept HX12.out (fun h => by omega)); have HB3 := Lib.hid (HB2.out.trans (hs3.below HB2.out.size (fun j hj => by omega))); obtain ⟨c0, c1, c2, c3, c4, c5⟩ := elf_box (e := elfL) (sv := .slice none 0 0) (gv := .slice (some ⟨w.heap.size, 0, none⟩) 1 1) HH3.out; clear hh3 hs3)))
  refine (HW.out _ _ HX3.out).mono ?_
  rintro e w4 ⟨v1, rfl, hv1, hb4⟩
  have HV1 := Lib.hid hv1.bs
  have HVL := Lib.hid (fun k hk => ob_lt hv1 (k := k) hk)
  have HB4 := Lib.hid (HB3.out.trans (hb4.mono HB3.out.size))
  obtain ⟨m1, a1, q1, hm1, rfl, _, _⟩ := hv1.shape
  clear hv1 hb4 c0 c1 c2 c3 c4 c5
  go_wp2_with fail
  refine (HPR.out _ _ HV1.out HVL.out).mono ?_
  rintro e w5 ⟨hpr, hb5⟩
  rcases hpr with ⟨h0, -⟩ | ⟨-, base, bp, rfl, hbase, hbw, hm⟩
  · exact absurd HPL.out.1 h0
  have HM := Lib.hid hm
  have HB5 := Lib.hid (HB4.out.trans (hb5.mono HB4.out.size))
  clear hm hb5
  rw [HRB.out]
  generalize ptR elfL.target (thR B.length elfL.segs 0 seg1).1 = pt at *
  go_wp2_with ((with_reducible show wpList _ _ _ (⟨none, .store _ _ _, _, _, _, _⟩ :: _) _ _); go_must (refine wpList_storeNew rfl rfl (by kernel_rfl) rfl (by simp [Value.oneCell']) ?_; intro w6 hh6 hb6; have HX6 := Lib.hid hh6; have HB6 := Lib.hid (HB5.out.trans (hb6.mono HB5.out.size)); have HM6 := Lib.hid (HM.out.mono hb6); clear hh6 hb6))
  have HLD := Lib.hid (load_mem _ HM6.out 65536 (by decide) 4)
  rw [HPL.out.2] at HLD
  have i0 := cell_rec HX6.out 0
  have i1 := cell_rec HX6.out 1
  go_wp2_with fail
  refine HLD.out.mono ?_
  rintro e w7 ⟨rfl, rfl⟩
  go_wp2_with fail
  refine (HPN.out _).mono ?_
  rintro e w8 ⟨hpn, hb8⟩
  rcases hpn with ⟨-, rfl⟩ | ⟨h0, -⟩
  rotate_left
  · rw [prog_nil] at h0
    exact absurd h0 (by decide)
  rw [prog_nil]
  have HX8 := Lib.hid (heap_below hb8 HX6.out)
  have HB8 := Lib.hid (HB6.out.trans (hb8.mono HB6.out.size))
  clear hb8 i0 i1
  go_wp2_with ((with_reducible show wpList _ _ _ (⟨none, .store _ _ _, _, _, _, _⟩ :: _) _ _); go_must (refine wpList_storeNew rfl rfl (by kernel_rfl) rfl (by simp [Value.oneCell']) ?_; intro w9 hh9 hb9; have HX9 := Lib.hid (heap_below hb9 HX8.out); have HB9 := Lib.hid (HB8.out.trans (hb9.mono HB8.out.size)); have i0 := cell_rec HX9.out 0; have i1 := cell_rec HX9.out 1; clear hh9 hb9))
  go_ret
  exact ⟨rfl, HB9.out⟩
end Go.Proofs.Ytmpelmjhimalpaa
namespace Go.Proofs.Ytmpelmjhimalpaa
open Go.RowKit Go.Fd
theorem at26_any (l : List UInt8) (v : Value) (off size : Nat) (w : World) (hv : Bs w v l) (h : size ≠ 0 → off < l.length) (hl : l.length ≤ 1000000000) :
    Calls Try.prog 14 #[v, .int .u64 off, .int .u64 size] w fun r w' => r = .returned (.int .u8 ((if size = 0 then 0 else l[off]?.getD 0 : UInt8).toNat : Int)) ∧ w = w' := by
  obtain ⟨ad, cap, rfl, hcap, h00, hc⟩ := hv.open
  by_cases h0 : size = 0
  · subst h0
    clear hc hv
    go_enter Try.func14, Try.ntmps14
    go_wp2
    go_ret
    exact ⟨rfl, rfl⟩
  · have hs : ((size : Int) == 0) = false := by simpa using h0
    obtain ⟨b, o, rfl, cc⟩ := hc off (h h0)
    have hlt := h h0
    rw [if_neg h0]
    clear hc hv h h0
    generalize hm : l.length = m at *
    have HM := Lib.hid hm
    clear hm
    generalize l[off]?.getD 0 = x at *
    go_enter Try.func14, Try.ntmps14
    go_wp2
    go_ret
    exact ⟨rfl, rfl⟩
/-- Two segments share no page. -/
def Apart (s o : SegM) : Prop := ∀ k, pgs s.vaddr s.memsz k → ¬ pgs o.vaddr o.memsz k
theorem apart_of {s o : SegM} (h : ¬ (o.vaddr / 4096 ≤ (s.vaddr + s.memsz - 1) / 4096 ∧ s.vaddr / 4096 ≤ (o.vaddr + o.memsz - 1) / 4096)) : Apart s o := by
  intro k h1 h2
  unfold pgs at h1 h2
  exact h ⟨by omega, by omega⟩
theorem laid_at {t : Int} {b : List UInt8} {l : List SegM} {s : SegM} {W : Vw} {k : Nat} (h : allR t b l = (W, 0)) (hk : l[k]? = some s) (ht : s.typ = 1) (h0 : 0 < s.memsz)
    (hp : ∀ j o, l[j]? = some o → j ≠ k → o.typ = 1 → 0 < o.memsz → Apart s o) : Laid W b s := by
  obtain ⟨hlt, he⟩ := List.getElem?_eq_some_iff.1 hk
  have hsp : l = l.take k ++ s :: l.drop (k + 1) := by
    rw [← he, ← List.drop_eq_getElem_cons hlt, List.take_append_drop]
  rw [hsp] at h
  refine all_one h ht h0 fun o ho h1 h2 => ?_
  rcases List.mem_append.1 ho with hm | hm
  · obtain ⟨j, hj⟩ := List.mem_iff_getElem?.1 hm
    have hjk : j < k := by
      have := (List.getElem?_eq_some_iff.1 hj).1
      rw [List.length_take] at this
      omega
    rw [List.getElem?_take, if_pos hjk] at hj
    exact hp j o hj (by omega) h1 h2
  · obtain ⟨j, hj⟩ := List.mem_iff_getElem?.1 hm
    rw [List.getElem?_drop] at hj
    exact hp _ o hj (by omega) h1 h2
/-- Every segment that was loaded ends below 2^38. -/
theorem loaded_top {b : List UInt8} : ∀ (l : List SegM) {V W : Vw}, segsR b V l = (W, 0) → ∀ o ∈ l, o.typ = 1 → o.vaddr + o.memsz ≤ 274877906944
  | [], _, _, _, o, ho, _ => by cases ho
  | s :: l, V, W, h, o, ho, h1 => by
    rw [segsR] at h
    split at h
    · next ht =>
      obtain ⟨h2, h3⟩ := bindR_ok h
      rcases List.mem_cons.1 ho with rfl | hm
      · exact (segR_ok (W := (segR V b o).1) (Prod.ext rfl h2)).2.2.1
      · exact loaded_top l h3 o hm h1
    · next ht =>
      rcases List.mem_cons.1 ho with rfl | hm
      · exact absurd h1 ht
      · exact loaded_top l h o hm h1
theorem all_top {t : Int} {b : List UInt8} {l : List SegM} {W : Vw} (h : allR t b l = (W, 0)) : ∀ o ∈ l, o.typ = 1 → o.vaddr + o.memsz ≤ 274877906944 := by
  obtain ⟨U, h1, -⟩ := allR_low h
  exact loaded_top l h1
end Go.Proofs.Ytmpelmjhimalpaa
namespace Go.Fd
open Go.RowKit
/-- What is known of the worlds of a region: I t w when t of the writing operations C are done; T: what each step keeps; Up: what may go up. -/
structure Ph where
  I : Nat → World → Prop
  T : World → World → Prop
  C : List Nat
  Up : Exit → World → Prop
structure Ph.Ok (F : Ph) : Prop where
  iB : ∀ t w w', F.I t w → Below w.heap.size w w' → F.I t w'
  tB : ∀ w w', Below w.heap.size w w' → F.T w w'
structure YldT (F : Ph) where
  X : Type
  inh : X
  shape : X → Value
  rel : X → World → Prop
  st : ∀ x w w', rel x w → F.T w w' → rel x w'
def YldT.R {F : Ph} (S : YldT F) (v : Value) (w : World) : Prop := ∃ x, v = S.shape x ∧ S.rel x w
def YldT.is (F : Ph) (c : Value) : YldT F := ⟨Unit, (), fun _ => c, fun _ _ => True, fun _ _ _ _ _ => trivial⟩
def madeT {F : Ph} (M : List (Nat × YldT F)) (i : Nat) : Option (YldT F) := (M.find? (fun p => p.1 == i)).map (·.2)
def DepsT {F : Ph} (L : List Oper) (M : List (Nat × YldT F)) (a : Act) (o : Oper) (w : World) : Prop :=
  ∀ j oj d S, L[j]? = some oj → oj.dst = some d → depB o j = true → madeT M j = some S → Region.wanted oj (yielded L.toArray a.tmps) = true → S.R (a.eval (.tmp d)) w
def UpsT (F : Ph) (d : List Deferred) (x : Exit) (a : Act) (w' : World) : Prop := F.Up x w' ∧ a.defers = d
def WpT (P : Program) (F : Ph) (t' : Nat) (o : Oper) (a : Act) (S : YldT F) (w : World) : Prop :=
  o.wp P a w (fun a' w' => ∃ v, a' = a.put o.dst v ∧ S.R v w' ∧ F.T w w' ∧ F.I t' w') (UpsT F a.defers)
/-- May operation i be run when t are done? How many are done then? -/
def phI (C : List Nat) (i t : Nat) : Prop := i ∈ C → C[t]? = some i
def nxI (C : List Nat) (i t : Nat) : Nat := if i ∈ C then t + 1 else t
def walkT (P : Program) (F : Ph) (L : List Oper) (M : List (Nat × YldT F)) (E : Act → Prop) : Nat → List Oper → Act → Prop
  | _, [], a => E a
  | i, o :: r, a =>
    if Region.wanted o (yielded L.toArray a.tmps) = true then
      match madeT M i with
      | some S => (∀ t w, phI F.C i t → F.I t w → DepsT L M a o w → WpT P F (nxI F.C i t) o a S w) ∧ ∀ x, walkT P F L M E (i + 1) r (a.put o.dst (S.shape x))
      | none => i ∉ F.C ∧ ∃ v, (∀ t w, F.I t w → DepsT L M a o w → (execOp a.eval o).run P w = .ok (.value v) w) ∧ walkT P F L M E (i + 1) r (a.put o.dst v)
    else i ∉ F.C ∧ walkT P F L M E (i + 1) r (a.put o.dst undef)
/-- The writing operations lie in the head, each waits for the one ahead. -/
def chainB (L : List Oper) (n : Nat) : List Nat → Bool
  | [] => true
  | [c] => decide (c < n)
  | c :: d :: r => decide (c < d) && (match L[d]? with | some o => depB o c | none => false) && decide (c < n) && chainB L n (d :: r)
/-- How many are done. -/
def cntI (C : List Nat) (listed : Array Bool) : Nat := (C.filter fun c => listed.getD c true).length
theorem chain_spec {L : List Oper} {n : Nat} : ∀ {C : List Nat}, chainB L n C = true → (∀ (t c d : Nat), C[t]? = some c → C[t + 1]? = some d → c < d ∧ ∃ o, L[d]? = some o ∧ depB o c = true) ∧ ∀ (t c : Nat), C[t]? = some c → c < n
  | [], _ => ⟨(fun t c d h => by simp at h), (fun t c h => by simp at h)⟩
  | [c], h => ⟨(fun t x d h1 h2 => by simp at h2), (fun t x h1 => by
      have hc : c < n := by simpa [chainB] using h
      cases t with
      | zero => simp at h1; subst h1; exact hc
      | succ t => simp at h1)⟩
  | c :: d :: r, h => by
    rw [chainB] at h
    simp only [Bool.and_eq_true, decide_eq_true_eq] at h
    obtain ⟨⟨⟨h1, h2⟩, h3⟩, h4⟩ := h
    obtain ⟨i1, i2⟩ := chain_spec h4
    refine ⟨fun t x y hx hy => ?_, fun t x hx => ?_⟩
    · cases t with
      | zero =>
        simp at hx hy
        subst hx hy
        refine ⟨h1, ?_⟩
        cases hl : L[d]? with
        | none => rw [hl] at h2; cases h2
        | some o => rw [hl] at h2; exact ⟨o, rfl, h2⟩
      | succ t => exact i1 t x y (by simpa using hx) (by simpa using hy)
    · cases t with
      | zero => simp at hx; subst hx; exact h3
      | succ t => exact i2 t x (by simpa using hx)
theorem chain_lt {L : List Oper} {n : Nat} {C : List Nat} (h : chainB L n C = true) : ∀ (k s : Nat) {c d : Nat}, C[s]? = some c → C[s + k + 1]? = some d → c < d
  | 0, s, c, d, hc, hd => ((chain_spec h).1 s c d hc hd).1
  | k + 1, s, c, d, hc, hd => by
    have hlt : s + k + 1 + 1 < C.length := (List.getElem?_eq_some_iff.1 hd).1
    have he : C[s + k + 1]? = some (C[s + k + 1]'(by omega)) := List.getElem?_eq_getElem _
    exact Nat.lt_trans (chain_lt h k s hc he) (((chain_spec h).1 (s + k + 1) _ d he hd).1)
section
variable {P : Program} {F : Ph} {L H : List Oper} {M : List (Nat × YldT F)} {a0 : Act} {E : Act → Prop}
/-- What is listed is shut under what is waited for. -/
def ShutL (H : List Oper) (listed : Array Bool) : Prop := ∀ i o, H[i]? = some o → listed.getD i true = true → ∀ j, depB o j = true → listed.getD j true = true
theorem chain_down {C : List Nat} {listed : Array Bool} (hc : chainB H H.length C = true) (hs : ShutL H listed) : ∀ (k s : Nat) {c d : Nat}, C[s]? = some c → C[s + k]? = some d → listed.getD d true = true → listed.getD c true = true
  | 0, s, c, d, h1, h2, h => by
    rw [Nat.add_zero, h1] at h2
    cases h2
    exact h
  | k + 1, s, c, d, h1, h2, h => by
    have hlt : s + (k + 1) < C.length := (List.getElem?_eq_some_iff.1 h2).1
    have he : C[s + k]? = some (C[s + k]'(by omega)) := List.getElem?_eq_getElem _
    obtain ⟨_, o, ho, hd⟩ := (chain_spec hc).1 (s + k) _ d he (by rw [Nat.add_assoc]; exact h2)
    exact chain_down hc hs k s h1 he (hs d o ho h _ hd)
theorem cnt_at {C : List Nat} {listed : Array Bool} (hc : chainB H H.length C = true) (hs : ShutL H listed) {t i : Nat} {o : Oper} (ht : C[t]? = some i) (ho : H[i]? = some o) (hl : listed.getD i true = false) (hd : ∀ j, depB o j = true → listed.getD j true = true) :
    cntI C listed = t ∧ (∀ (s c : Nat), s < t → C[s]? = some c → listed.getD c true = true) ∧ ∀ (s c : Nat), t ≤ s → C[s]? = some c → listed.getD c true = false := by
  have h1 : ∀ (s c : Nat), s < t → C[s]? = some c → listed.getD c true = true := fun s c hst hsc => by
    obtain ⟨k, rfl⟩ : ∃ k, t = s + k + 1 := ⟨t - s - 1, by omega⟩
    have hlt : s + k + 1 < C.length := (List.getElem?_eq_some_iff.1 ht).1
    have he : C[s + k]? = some (C[s + k]'(by omega)) := List.getElem?_eq_getElem _
    obtain ⟨_, o', ho', hd'⟩ := (chain_spec hc).1 (s + k) _ i he ht
    rw [ho] at ho'
    cases ho'
    exact chain_down hc hs k s hsc he (hd _ hd')
  have h2 : ∀ (s c : Nat), t ≤ s → C[s]? = some c → listed.getD c true = false := fun s c hts hsc => by
    cases hlc : listed.getD c true with
    | false => rfl
    | true =>
      obtain ⟨k, rfl⟩ : ∃ k, s = t + k := ⟨s - t, by omega⟩
      rw [chain_down hc hs k t ht hsc hlc] at hl
      cases hl
  refine ⟨?_, h1, h2⟩
  have htl : t ≤ C.length := Nat.le_of_lt (List.getElem?_eq_some_iff.1 ht).1
  unfold cntI
  rw [← List.take_append_drop t C, List.filter_append, List.filter_eq_self.2 (fun x hx => ?_), List.filter_eq_nil_iff.2 (fun x hx => ?_), List.append_nil, List.length_take]
  · omega
  · obtain ⟨s, hs'⟩ := List.mem_iff_getElem?.1 hx
    rw [List.getElem?_drop] at hs'
    rw [h2 (t + s) x (by omega) hs']
    decide
  · obtain ⟨s, hs'⟩ := List.mem_iff_getElem?.1 hx
    rw [List.getElem?_take] at hs'
    split at hs'
    · next hst => exact h1 s x hst hs'
    · cases hs'
theorem cnt_next {C : List Nat} {listed : Array Bool} (hc : chainB H H.length C = true) (hs : ShutL H listed) {i : Nat} {o : Oper} (ho : H[i]? = some o) (hi : i < listed.size) (hl : listed.getD i true = false) (hd : ∀ j, depB o j = true → listed.getD j true = true) :
    phI C i (cntI C listed) ∧ cntI C (listed.setIfInBounds i true) = nxI C i (cntI C listed) := by
  by_cases hm : i ∈ C
  · obtain ⟨t, ht⟩ := List.mem_iff_getElem?.1 hm
    obtain ⟨e, h1, h2⟩ := cnt_at hc hs ht ho hl hd
    refine ⟨fun _ => by rw [e]; exact ht, ?_⟩
    unfold nxI
    rw [if_pos hm, e]
    have htl : t < C.length := (List.getElem?_eq_some_iff.1 ht).1
    unfold cntI
    rw [← List.take_append_drop (t + 1) C, List.filter_append, List.filter_eq_self.2 (fun x hx => ?_), List.filter_eq_nil_iff.2 (fun x hx => ?_), List.append_nil, List.length_take]
    · omega
    · obtain ⟨s, hs'⟩ := List.mem_iff_getElem?.1 hx
      rw [List.getElem?_drop] at hs'
      have hne : i ≠ x := fun h => by
        have := chain_lt hc s t ht (by rw [show t + s + 1 = t + 1 + s by omega]; exact hs')
        omega
      rw [getD_set_ne _ hne, h2 (t + 1 + s) x (by omega) hs']
      decide
    · obtain ⟨s, hs'⟩ := List.mem_iff_getElem?.1 hx
      rw [List.getElem?_take] at hs'
      split at hs'
      · next hst =>
        by_cases hsx : s = t
        · subst hsx
          rw [ht] at hs'
          cases hs'
          exact getD_set_self _ hi
        · exact getD_set_true' (h1 s x (by omega) hs')
      · cases hs'
  · refine ⟨fun h => absurd h hm, ?_⟩
    unfold nxI cntI
    rw [if_neg hm]
    congr 1
    refine List.filter_congr fun x hx => ?_
    rw [getD_set_ne _ (by intro h; exact hm (by rw [h]; exact hx))]
structure PathT (P : Program) (F : Ph) (L H : List Oper) (M : List (Nat × YldT F)) (a0 : Act) (E : Act → Prop) (p : (i : Nat) → (S : YldT F) → S.X) (u : Nat → Value) : Prop where
  step : ∀ i o, H[i]? = some o →
    if Region.wanted o (yielded L.toArray (fr u H a0 i).tmps) = true then
      match madeT M i with
      | some S => (∀ t w, phI F.C i t → F.I t w → DepsT L M (fr u H a0 i) o w → WpT P F (nxI F.C i t) o (fr u H a0 i) S w) ∧ u i = S.shape (p i S)
      | none => i ∉ F.C ∧ ∀ t w, F.I t w → DepsT L M (fr u H a0 i) o w → (execOp (fr u H a0 i).eval o).run P w = .ok (.value (u i)) w
    else i ∉ F.C ∧ u i = undef
  fin : E (fr u H a0 H.length)
theorem pathT_aux (p : (i : Nat) → (S : YldT F) → S.X) : ∀ (r : List Oper) (k : Nat) (u0 : Nat → Value), H.drop k = r → k ≤ H.length → walkT P F L M E k r (fr u0 H a0 k) →
    ∃ u, (∀ j, j < k → u j = u0 j) ∧ (∀ i o, k ≤ i → H[i]? = some o →
      if Region.wanted o (yielded L.toArray (fr u H a0 i).tmps) = true then
        match madeT M i with
        | some S => (∀ t w, phI F.C i t → F.I t w → DepsT L M (fr u H a0 i) o w → WpT P F (nxI F.C i t) o (fr u H a0 i) S w) ∧ u i = S.shape (p i S)
        | none => i ∉ F.C ∧ ∀ t w, F.I t w → DepsT L M (fr u H a0 i) o w → (execOp (fr u H a0 i).eval o).run P w = .ok (.value (u i)) w
      else i ∉ F.C ∧ u i = undef) ∧ E (fr u H a0 H.length)
  | [], k, u0, hr, hk, h => by
    have : H.length ≤ k := by simpa using hr
    obtain rfl : k = H.length := by omega
    exact ⟨u0, fun _ _ => rfl, fun i o hi ho => by have := (List.getElem?_eq_some_iff.1 ho).1; omega, h⟩
  | o :: r, k, u0, hr, hk, h => by
    have ho : H[k]? = some o := by
      have : (H.drop k)[0]? = some o := by rw [hr]; rfl
      simpa using this
    have hr' : H.drop (k + 1) = r := by
      rw [← List.drop_drop, hr]; rfl
    have hk' : k + 1 ≤ H.length := (List.getElem?_eq_some_iff.1 ho).1
    have key : ∀ v, walkT P F L M E (k + 1) r ((fr u0 H a0 k).put o.dst v) → ∃ u, (∀ j, j < k → u j = u0 j) ∧ u k = v ∧ (∀ i o, k + 1 ≤ i → H[i]? = some o →
      if Region.wanted o (yielded L.toArray (fr u H a0 i).tmps) = true then
        match madeT M i with
        | some S => (∀ t w, phI F.C i t → F.I t w → DepsT L M (fr u H a0 i) o w → WpT P F (nxI F.C i t) o (fr u H a0 i) S w) ∧ u i = S.shape (p i S)
        | none => i ∉ F.C ∧ ∀ t w, F.I t w → DepsT L M (fr u H a0 i) o w → (execOp (fr u H a0 i).eval o).run P w = .ok (.value (u i)) w
      else i ∉ F.C ∧ u i = undef) ∧ E (fr u H a0 H.length) := by
      intro v hv
      have e1 : fr (fun j => if j = k then v else u0 j) H a0 k = fr u0 H a0 k := fr_congr fun j hj => by
        show (if j = k then v else u0 j) = u0 j
        rw [if_neg (by omega)]
      have e2 : fr (fun j => if j = k then v else u0 j) H a0 (k + 1) = (fr u0 H a0 k).put o.dst v := by
        rw [fr_succ ho, e1]
        simp
      obtain ⟨u, h1, h2, h3⟩ := pathT_aux p r (k + 1) (fun j => if j = k then v else u0 j) hr' hk' (by rw [e2]; exact hv)
      refine ⟨u, fun j hj => ?_, ?_, h2, h3⟩
      · rw [h1 j (by omega), if_neg (by omega)]
      · rw [h1 k (by omega), if_pos rfl]
    have fin : ∀ v, (∃ u, (∀ j, j < k → u j = u0 j) ∧ u k = v ∧ (∀ i o, k + 1 ≤ i → H[i]? = some o →
      if Region.wanted o (yielded L.toArray (fr u H a0 i).tmps) = true then
        match madeT M i with
        | some S => (∀ t w, phI F.C i t → F.I t w → DepsT L M (fr u H a0 i) o w → WpT P F (nxI F.C i t) o (fr u H a0 i) S w) ∧ u i = S.shape (p i S)
        | none => i ∉ F.C ∧ ∀ t w, F.I t w → DepsT L M (fr u H a0 i) o w → (execOp (fr u H a0 i).eval o).run P w = .ok (.value (u i)) w
      else i ∉ F.C ∧ u i = undef) ∧ E (fr u H a0 H.length)) → (if Region.wanted o (yielded L.toArray (fr u0 H a0 k).tmps) = true then
        match madeT M k with
        | some S => (∀ t w, phI F.C k t → F.I t w → DepsT L M (fr u0 H a0 k) o w → WpT P F (nxI F.C k t) o (fr u0 H a0 k) S w) ∧ v = S.shape (p k S)
        | none => k ∉ F.C ∧ ∀ t w, F.I t w → DepsT L M (fr u0 H a0 k) o w → (execOp (fr u0 H a0 k).eval o).run P w = .ok (.value v) w
      else k ∉ F.C ∧ v = undef) → ∃ u, (∀ j, j < k → u j = u0 j) ∧ (∀ i o, k ≤ i → H[i]? = some o →
      if Region.wanted o (yielded L.toArray (fr u H a0 i).tmps) = true then
        match madeT M i with
        | some S => (∀ t w, phI F.C i t → F.I t w → DepsT L M (fr u H a0 i) o w → WpT P F (nxI F.C i t) o (fr u H a0 i) S w) ∧ u i = S.shape (p i S)
        | none => i ∉ F.C ∧ ∀ t w, F.I t w → DepsT L M (fr u H a0 i) o w → (execOp (fr u H a0 i).eval o).run P w = .ok (.value (u i)) w
      else i ∉ F.C ∧ u i = undef) ∧ E (fr u H a0 H.length) := by
      rintro v ⟨u, h1, h2, h3, h4⟩ hstep
      refine ⟨u, h1, fun i o' hi ho' => ?_, h4⟩
      by_cases hik : i = k
      · subst hik
        rw [ho] at ho'
        cases ho'
        rw [fr_congr (u' := u0) h1, h2]
        exact hstep
      · exact h3 i o' (by omega) ho'
    rw [walkT] at h
    by_cases hw : Region.wanted o (yielded L.toArray (fr u0 H a0 k).tmps) = true
    · rw [if_pos hw] at h
      cases hM : madeT M k with
      | some S =>
        simp only [hM] at h
        refine fin (S.shape (p k S)) (key _ (h.2 (p k S))) ?_
        rw [if_pos hw, hM]
        exact ⟨h.1, rfl⟩
      | none =>
        simp only [hM] at h
        obtain ⟨hc, v, h1, h2⟩ := h
        refine fin v (key _ h2) ?_
        rw [if_pos hw, hM]
        exact ⟨hc, h1⟩
    · rw [if_neg hw] at h
      refine fin undef (key _ h.2) ?_
      rw [if_neg hw]
      exact ⟨h.1, rfl⟩
theorem pathT_exists (p : (i : Nat) → (S : YldT F) → S.X) (h : walkT P F L M E 0 H a0) : ∃ u, PathT P F L H M a0 E p u := by
  obtain ⟨u, _, h2, h3⟩ := pathT_aux (a0 := a0) p H 0 (fun _ => undef) rfl (Nat.zero_le _) (by unfold fr; rw [List.take_zero]; exact h)
  exact ⟨u, fun i o ho => h2 i o (Nat.zero_le _) ho, h3⟩
/-- What is known of the operations that have been carried out. -/
def KnownT {F : Ph} (L H : List Oper) (M : List (Nat × YldT F)) (a0 : Act) (u : Nat → Value) (D : Nat → Prop) (w : World) : Prop :=
  ∀ j oj S, D j → H[j]? = some oj → madeT M j = some S → Region.wanted oj (yielded L.toArray (fr u H a0 j).tmps) = true → S.R (u j) w
theorem depsT_of (hP : persB H a0.tmps.size = true) (hR : readsB L H = true) (hL : ∀ (i : Nat) (o : Oper), H[i]? = some o → L[i]? = some o) {u : Nat → Value} {D : Nat → Prop} {w : World} (hK : KnownT L H M a0 u D w) {i : Nat} {o : Oper} (ho : H[i]? = some o)
    (hD : ∀ j, depB o j = true → D j) : DepsT L M (fr u H a0 i) o w := by
  intro j oj d S hj hd hdep hM hw
  have hlt := dep_lt hP ho hdep
  have hjl : j < H.length := by have := (List.getElem?_eq_some_iff.1 ho).1; omega
  have hj' : H[j]? = some oj := by
    have := hL j _ (List.getElem?_eq_getElem hjl)
    rw [hj] at this
    cases this
    exact List.getElem?_eq_getElem hjl
  rw [fr_new hP hj' hd hlt]
  exact hK j oj S (hD j hdep) hj' hM (by rw [← wanted_later hP hR hL hj' (Nat.le_of_lt hlt)]; exact hw)
/-- Two paths agree on what has been carried out. -/
theorem agreeT (hP : persB H a0.tmps.size = true) (hR : readsB L H = true) (hL : ∀ (i : Nat) (o : Oper), H[i]? = some o → L[i]? = some o) {p p' : (i : Nat) → (S : YldT F) → S.X} {u u' : Nat → Value}
    (h : PathT P F L H M a0 E p u) (h' : PathT P F L H M a0 E p' u') {D : Nat → Prop} {w : World} {ph : Nat} (hw : F.I ph w) (hcl : ∀ i o, D i → H[i]? = some o → ∀ j, depB o j = true → D j)
    (hp : ∀ i S, D i → p i S = p' i S) (hK : KnownT L H M a0 u D w) : ∀ i o, D i → H[i]? = some o → u i = u' i ∧ Region.wanted o (yielded L.toArray (fr u H a0 i).tmps) = Region.wanted o (yielded L.toArray (fr u' H a0 i).tmps) := by
  intro i
  induction i using Nat.strongRecOn with
  | ind i ih =>
    intro o hi ho
    have hlooks : ∀ t ∈ o.looksAt L.toArray, (fr u H a0 i).eval (.tmp t) = (fr u' H a0 i).eval (.tmp t) := fun t ht => by
      rcases looks_fr hP hR ho ht with ⟨_, he⟩ | ⟨j, oj, hj, hd, hdep, hlt, he⟩
      · rw [he u, he u']
      · rw [he u, he u']
        exact (ih j hlt oj (hcl i o hi ho j hdep) hj).1
    obtain ⟨e1, e2⟩ := same_of_looks (L := L) (readsB_spec hR ho).1 (by rw [fr_size, fr_size]) hlooks
    refine ⟨?_, e2⟩
    have s1 := h.step i o ho
    have s2 := h'.step i o ho
    rw [← e2] at s2
    by_cases hwt : Region.wanted o (yielded L.toArray (fr u H a0 i).tmps) = true
    · rw [if_pos hwt] at s1 s2
      cases hM : madeT M i with
      | some S =>
        simp only [hM] at s1 s2
        rw [s1.2, s2.2, hp i S hi]
      | none =>
        simp only [hM] at s1 s2
        have hd1 := depsT_of hP hR hL hK ho fun j hj => hcl i o hi ho j hj
        have hd2 : DepsT L M (fr u' H a0 i) o w := by
          intro j oj d S hj hd hdep hMj hwj
          have hlt := dep_lt hP ho hdep
          have hjl : j < H.length := by have := (List.getElem?_eq_some_iff.1 ho).1; omega
          have hj' : H[j]? = some oj := by
            have := hL j _ (List.getElem?_eq_getElem hjl)
            rw [hj] at this
            cases this
            exact List.getElem?_eq_getElem hjl
          have hDj := hcl i o hi ho j hdep
          obtain ⟨f1, f2⟩ := ih j hlt oj hDj hj'
          rw [fr_new hP hj' hd hlt, ← f1]
          refine hK j oj S hDj hj' hMj ?_
          rw [f2, ← wanted_later hP hR hL hj' (Nat.le_of_lt hlt)]
          exact hwj
        have r1 := s1.2 ph w hw hd1
        have r2 := s2.2 ph w hw hd2
        rw [e1, r2] at r1
        injection r1 with h1 _
        injection h1 with h2
        exact h2.symm
    · rw [if_neg hwt] at s1 s2
      rw [s1.2, s2.2]
/-- What holds while the head is run. -/
structure InvT (P : Program) (F : Ph) (L H : List Oper) (M : List (Nat × YldT F)) (a0 : Act) (E : Act → Prop) (listed : Array Bool) (a : Act) (w : World) : Prop where
  lsize : listed.size = L.length
  tail : ∀ t, H.length ≤ t → t < L.length → listed.getD t true = false
  inv : F.I (cntI F.C listed) w
  size : a.tmps.size = a0.tmps.size
  defers : a.defers = a0.defers
  old : ∀ t, (∀ i o, H[i]? = some o → listed.getD i true = true → o.dst ≠ some t) → a.eval (.tmp t) = a0.eval (.tmp t)
  closed : ∀ i o, H[i]? = some o → listed.getD i true = true → ∀ j, depB o j = true → listed.getD j true = true
  path : ∃ p u, PathT P F L H M a0 E p u ∧ (∀ i o d, H[i]? = some o → listed.getD i true = true → o.dst = some d → a.eval (.tmp d) = u i) ∧ KnownT L H M a0 u (fun i => i < H.length ∧ listed.getD i true = true) w
theorem KnownT.mono {u : Nat → Value} {D : Nat → Prop} {w w' : World} (h : KnownT L H M a0 u D w) (hb : F.T w w') : KnownT L H M a0 u D w' := fun j oj S hD hj hM hw => by
  obtain ⟨x, e, hr⟩ := h j oj S hD hj hM hw
  exact ⟨x, e, S.st x w w' hr hb⟩
theorem InvT.looks (hP : persB H a0.tmps.size = true) (hR : readsB L H = true) {listed : Array Bool} {a : Act} {w : World} (h : InvT P F L H M a0 E listed a w) {u : Nat → Value} (hu : ∀ i o d, H[i]? = some o → listed.getD i true = true → o.dst = some d → a.eval (.tmp d) = u i)
    {i : Nat} {o : Oper} (ho : H[i]? = some o) (hl : listed.getD i true = false) (hd : ∀ j, depB o j = true → listed.getD j true = true) : ∀ t ∈ o.looksAt L.toArray, a.eval (.tmp t) = (fr u H a0 i).eval (.tmp t) := by
  intro t ht
  rcases looks_fr hP hR ho ht with ⟨hold, he⟩ | ⟨j, oj, hj, hdj, hdep, hlt, he⟩
  · rw [he u]
    refine h.old t fun k ok hk hlk e => ?_
    unfold oldB at hold
    rw [List.all_eq_true] at hold
    have := hold (ok, k) (by rw [List.mem_zipIdx_iff_getElem?]; exact hk)
    simp only [Bool.or_eq_true, bne_iff_ne, ne_eq, beq_iff_eq] at this
    rcases this with (h' | h') | h'
    · exact h' e
    · subst h'; rw [hl] at hlk; cases hlk
    · have := h.closed k ok hk hlk i h'
      rw [hl] at this; cases this
  · rw [he u]
    exact hu j oj t hj (hd j hdep) hdj
open Classical in
/-- One operation of the head. -/
theorem InvT.step (hF : F.Ok) (hC : chainB H H.length F.C = true) (hP : persB H a0.tmps.size = true) (hR : readsB L H = true) (hL : ∀ (i : Nat) (o : Oper), H[i]? = some o → L[i]? = some o) (hW : walkT P F L M E 0 H a0) {listed : Array Bool} {a : Act} {w : World} (h : InvT P F L H M a0 E listed a w)
    {i : Nat} {o : Oper} (ho : H[i]? = some o) (hl : listed.getD i true = false) (hd : ∀ j, depB o j = true → listed.getD j true = true) {K : Act → World → Prop}
    (hK : ∀ v w', InvT P F L H M a0 E (listed.setIfInBounds i true) (a.put o.dst v) w' → K (a.put o.dst v) w') :
    if Region.wanted o (yielded L.toArray a.tmps) = true then o.wp P a w K (UpsT F a0.defers) else K (a.put o.dst undef) w := by
  obtain ⟨⟨d, hod, hdn⟩, _, hun⟩ := persB_spec hP ho
  obtain ⟨p, u, hp, hu, hk⟩ := h.path
  have hil : i < H.length := (List.getElem?_eq_some_iff.1 ho).1
  have hiL : i < L.length := (List.getElem?_eq_some_iff.1 (hL i o ho)).1
  have hi : i < listed.size := by rw [h.lsize]; exact hiL
  obtain ⟨e1, e2⟩ := same_of_looks (L := L) (readsB_spec hR ho).1 (by rw [fr_size, h.size]) (h.looks hP hR hu ho hl hd)
  have hdeps : DepsT L M (fr u H a0 i) o w := depsT_of hP hR hL hk ho fun j hj => ⟨by have := dep_lt hP ho hj; omega, hd j hj⟩
  have hs := hp.step i o ho
  obtain ⟨hph, hnx⟩ := cnt_next hC h.closed ho hi hl hd
  -- the new invariant, given a path whose value here is v
  have next : ∀ v w', F.I (cntI F.C (listed.setIfInBounds i true)) w' → (∃ p' u', PathT P F L H M a0 E p' u' ∧ u' i = v ∧ (∀ j oj, j < H.length → listed.getD j true = true → H[j]? = some oj → u' j = u j) ∧ KnownT L H M a0 u' (fun j => j < H.length ∧ (listed.setIfInBounds i true).getD j true = true) w') →
      InvT P F L H M a0 E (listed.setIfInBounds i true) (a.put o.dst v) w' := by
    rintro v w' hb ⟨p', u', hp', hv, hag, hk'⟩
    refine ⟨by simpa using h.lsize, fun t h1 h2 => by rw [getD_set_ne _ (by omega)]; exact h.tail t h1 h2, hb, by rw [put_size]; exact h.size, by rw [put_defers]; exact h.defers, ?_, ?_, p', u', hp', ?_, hk'⟩
    · intro t ht
      rw [put_get_ne _ _ _ _ (ht i o ho (getD_set_self _ hi))]
      exact h.old t fun j oj hj hlj => ht j oj hj (getD_set_true' hlj)
    · intro j oj hj hlj k hdep
      by_cases hij : i = j
      · subst hij
        rw [ho] at hj
        cases hj
        exact getD_set_true' (hd k hdep)
      · rw [getD_set_ne _ hij] at hlj
        exact getD_set_true' (h.closed j oj hj hlj k hdep)
    · intro j oj dj hj hlj hdj
      by_cases hij : i = j
      · subst hij
        rw [ho] at hj
        cases hj
        rw [hod] at hdj
        cases hdj
        rw [hod, put_get_eq _ _ _ (by rw [h.size]; exact hdn), hv]
      · rw [getD_set_ne _ hij] at hlj
        rw [put_get_ne _ _ _ _ (fun e => hun j oj hj (Ne.symm hij) (hdj.trans e.symm)), hag j oj (List.getElem?_eq_some_iff.1 hj).1 hlj hj]
        exact hu j oj dj hj hlj hdj
  -- the path stays
  have stay : ∀ w', F.T w w' → F.I (cntI F.C (listed.setIfInBounds i true)) w' → (∀ S, madeT M i = some S → Region.wanted o (yielded L.toArray (fr u H a0 i).tmps) = true → S.R (u i) w') → InvT P F L H M a0 E (listed.setIfInBounds i true) (a.put o.dst (u i)) w' := by
    intro w' hb hin hmade
    refine next _ _ hin ⟨p, u, hp, rfl, fun _ _ _ _ _ => rfl, fun j oj S hj hoj hM hw => ?_⟩
    by_cases hij : i = j
    · subst hij
      rw [ho] at hoj
      cases hoj
      exact hmade S hM hw
    · obtain ⟨hj1, hj2⟩ := hj
      rw [getD_set_ne _ hij] at hj2
      exact hk.mono hb j oj S ⟨hj1, hj2⟩ hoj hM hw
  by_cases hw : Region.wanted o (yielded L.toArray (fr u H a0 i).tmps) = true
  · rw [if_pos hw] at hs
    rw [if_pos (e2.trans hw)]
    cases hM : madeT M i with
    | none =>
      simp only [hM] at hs
      have hr := hs.2 _ w h.inv hdeps
      unfold Oper.wp Oper.upon
      rw [e1, hr]
      exact hK _ _ (stay w (hF.tB _ _ (Below.refl _ _)) (by rw [hnx]; unfold nxI; rw [if_neg hs.1]; exact h.inv) fun S hS => by rw [hM] at hS; cases hS)
    | some S =>
      simp only [hM] at hs
      have hwp := hs.1 _ w hph h.inv hdeps
      rw [← hnx] at hwp
      have hups : ∀ x a1 w1, UpsT F (fr u H a0 i).defers x a1 w1 → UpsT F a0.defers x a1 w1 := fun x a1 w1 hq => ⟨hq.1, hq.2.trans (fr_defers _ _ _ _)⟩
      have hwp' : o.wp P a w (fun a' w' => ∃ v, a' = a.put o.dst v ∧ S.R v w' ∧ F.T w w' ∧ F.I (cntI F.C (listed.setIfInBounds i true)) w') (UpsT F a0.defers) := by
        have hput : ∀ v, ∃ v', (fr u H a0 i).put o.dst v = (fr u H a0 i).put o.dst v' := fun v => ⟨v, rfl⟩
        unfold WpT Oper.wp at hwp
        unfold Oper.wp
        rw [e1]
        generalize (execOp (fr u H a0 i).eval o).run P w = r at hwp ⊢
        have inj : ∀ {v v' : Value}, (fr u H a0 i).put o.dst v = (fr u H a0 i).put o.dst v' → v = v' := fun {v v'} e => by
          have h1 := put_get_eq (fr u H a0 i) d v (by rw [fr_size]; exact hdn)
          have h2 := put_get_eq (fr u H a0 i) d v' (by rw [fr_size]; exact hdn)
          rw [hod] at e
          rw [← h1, e, h2]
        have conv : ∀ (v : Value) (w' : World), (∃ v', (fr u H a0 i).put o.dst v = (fr u H a0 i).put o.dst v' ∧ S.R v' w' ∧ F.T w w' ∧ F.I (cntI F.C (listed.setIfInBounds i true)) w') → ∃ v', a.put o.dst v = a.put o.dst v' ∧ S.R v' w' ∧ F.T w w' ∧ F.I (cntI F.C (listed.setIfInBounds i true)) w' := by
          rintro v w' ⟨v', e, hR, hb⟩
          rw [inj e]
          exact ⟨v', rfl, hR, hb⟩
        cases r with
        | halt x w' =>
          cases x <;> simp only [Oper.upon] at hwp ⊢
          case panic v => exact ⟨(hwp : UpsT _ _ _ _ _).1, h.defers⟩
        | ok n w' =>
          cases n <;> simp only [Oper.upon] at hwp ⊢
          case value v => exact conv v w' hwp
          case skip => exact conv undef w' hwp
          case enter f args =>
            refine Calls.mono hwp fun e w'' he => ?_
            cases e with
            | returned v => exact conv v w'' he
            | panicked c => exact ⟨(he : UpsT _ _ _ _ _).1, h.defers⟩
            | outgrown => obtain ⟨a1, w1, h0⟩ := (he : LetsOut _); exact ⟨a1, w1, hups _ _ _ h0⟩
          case row rw args =>
            exact hwp.mono fun v w'' he => conv v w'' he
          case defer dd =>
            obtain ⟨v', e, _⟩ := hwp
            have := congrArg Act.defers e
            rw [put_defers, put_defers] at this
            have := congrArg List.length this
            simp at this
      refine Oper.wp_mono (fun a' w' hq => ?_) hwp'
      obtain ⟨v, rfl, hRv, hb, hin⟩ := hq
      obtain ⟨x, hx, hrel⟩ := hRv
      refine hK _ _ (next v w' hin ?_)
      obtain ⟨u', hp'⟩ := pathT_exists (a0 := a0) (fun k (S' : YldT F) => if hh : k = i ∧ S' = S then hh.2 ▸ x else p k S') hW
      have hag := agreeT hP hR hL hp hp' (D := fun j => j < H.length ∧ listed.getD j true = true) (w := w) h.inv (fun j oj hj hoj k hdep => ⟨by have := dep_lt hP hoj hdep; omega, h.closed j oj hoj hj.2 k hdep⟩)
        (fun j S' hj => by
          have hne : ¬ (j = i ∧ S' = S) := fun hh => by
            have := hj.2
            rw [hh.1, hl] at this
            cases this
          simp only [dif_neg hne]) hk
      have hlooks' : ∀ t ∈ o.looksAt L.toArray, (fr u H a0 i).eval (.tmp t) = (fr u' H a0 i).eval (.tmp t) := fun t ht => by
        rcases looks_fr hP hR ho ht with ⟨_, he⟩ | ⟨j, oj, hj, hdj, hdep, hlt, he⟩
        · rw [he u, he u']
        · rw [he u, he u']
          exact (hag j oj ⟨by omega, hd j hdep⟩ hj).1
      obtain ⟨-, e4⟩ := same_of_looks (L := L) (readsB_spec hR ho).1 (by rw [fr_size, fr_size]) hlooks'
      have hui : u' i = v := by
        have s := hp'.step i o ho
        rw [← e4, if_pos hw, hM] at s
        have := s.2
        rw [this, hx]
        simp
      refine ⟨_, u', hp', hui, fun j oj hj hlj hoj => ((hag j oj ⟨hj, hlj⟩ hoj).1).symm, fun j oj S' hj hoj hMj hwj => ?_⟩
      by_cases hij : i = j
      · subst hij
        rw [ho] at hoj
        cases hoj
        rw [hM] at hMj
        cases hMj
        rw [hui]
        exact ⟨x, hx, hrel⟩
      · obtain ⟨hj1, hj2⟩ := hj
        rw [getD_set_ne _ hij] at hj2
        obtain ⟨f1, f2⟩ := hag j oj ⟨hj1, hj2⟩ hoj
        rw [← f1]
        exact hk.mono hb j oj S' ⟨hj1, hj2⟩ hoj hMj (by rw [f2]; exact hwj)
  · rw [if_neg hw] at hs
    rw [if_neg (by rw [e2]; exact hw), ← hs.2]
    exact hK _ _ (stay w (hF.tB _ _ (Below.refl _ _)) (by rw [hnx]; unfold nxI; rw [if_neg hs.1]; exact h.inv) fun S _ hw' => absurd hw' hw)
/-- What is known when the head is done. -/
def FactsT {F : Ph} (L H : List Oper) (M : List (Nat × YldT F)) (a : Act) (w : World) : Prop :=
  ∀ i o d S, H[i]? = some o → o.dst = some d → madeT M i = some S → Region.wanted o (yielded L.toArray a.tmps) = true → S.R (a.eval (.tmp d)) w
theorem InvT.done (hP : persB H a0.tmps.size = true) (hR : readsB L H = true) (hL : ∀ (i : Nat) (o : Oper), H[i]? = some o → L[i]? = some o) {listed : Array Bool} {a : Act} {w : World} (h : InvT P F L H M a0 E listed a w)
    (hall : ∀ i, i < H.length → listed.getD i true = true) : E a ∧ FactsT L H M a w := by
  obtain ⟨p, u, hp, hu, hk⟩ := h.path
  have he : fr u H a0 H.length = a := by
    refine act_ext (by rw [fr_size, h.size]) (by rw [fr_defers, h.defers]) fun t => ?_
    by_cases ht : ∃ (i : Nat) (o : Oper), H[i]? = some o ∧ o.dst = some t
    · obtain ⟨i, o, ho, hod⟩ := ht
      have hi := (List.getElem?_eq_some_iff.1 ho).1
      rw [fr_new hP ho hod hi]
      exact (hu i o t ho (hall i hi) hod).symm
    · rw [fr_old fun j o _ ho e => ht ⟨j, o, ho, e⟩]
      exact (h.old t fun i o ho _ e => ht ⟨i, o, ho, e⟩).symm
  refine ⟨he ▸ hp.fin, fun i o d S ho hd hM hw => ?_⟩
  have hi := (List.getElem?_eq_some_iff.1 ho).1
  rw [hu i o d ho (hall i hi) hd]
  refine hk i o S ⟨hi, hall i hi⟩ ho hM ?_
  rw [← wanted_later hP hR hL ho (Nat.le_of_lt hi), he]
  exact hw
theorem wpAny_walkT (hF : F.Ok) {Q : Exit → Act → World → Prop} {n : Nat} (hH : H = L.take n) (hC : chainB H H.length F.C = true) (hn : n ≤ L.length) (hP : persB H a0.tmps.size = true) (hR : readsB L H = true) (hT : n = L.length ∨ tailB L n = true) (hW : walkT P F L M E 0 H a0)
    (hup : ∀ x a w, UpsT F a0.defers x a w → Q x a w) (hend : ∀ a w, E a → F.I F.C.length w → FactsT L H M a w → wpList P L.toArray Q (L.drop n) a w) :
    ∀ (fuel : Nat) (U : List Nat) (listed : Array Bool) (a : Act) (w : World), U.Nodup → (∀ i, i ∈ U ↔ i < n ∧ listed.getD i true = false) → fuel = U.length + (L.length - n) → InvT P F L H M a0 E listed a w → wpAny P .any L.toArray Q fuel listed a w := by
  have hHl : H.length = n := by rw [hH]; simp; omega
  have hL : ∀ (i : Nat) (o : Oper), H[i]? = some o → L[i]? = some o := fun i o h => by
    rw [hH, List.getElem?_take] at h
    split at h
    · exact h
    · cases h
  have hLH : ∀ (i : Nat) (o : Oper), i < n → L[i]? = some o → H[i]? = some o := fun i o hi h => by
    rw [hH, List.getElem?_take, if_pos hi]; exact h
  have hcnt : ∀ {listed : Array Bool} {w : World}, (∀ i, i < n → listed.getD i true = true) → F.I (cntI F.C listed) w → F.I F.C.length w := fun {listed w} hall hi => by
    have : cntI F.C listed = F.C.length := by
      unfold cntI
      rw [List.filter_eq_self.2 (fun x hx => ?_)]
      obtain ⟨s, hs⟩ := List.mem_iff_getElem?.1 hx
      have := (chain_spec hC).2 s x hs
      exact hall x (by omega)
    rwa [this] at hi
  intro fuel
  induction fuel with
  | zero =>
    intro U listed a w _ hU hf h
    have hU0 : U = [] := List.eq_nil_of_length_eq_zero (by omega)
    have hnl : n = L.length := by omega
    have hall : ∀ i, i < n → listed.getD i true = true := fun i hi => by
      cases hl : listed.getD i true with
      | true => rfl
      | false => have := (hU i).2 ⟨hi, hl⟩; rw [hU0] at this; cases this
    obtain ⟨hE, hF'⟩ := h.done hP hR hL (fun i hi => hall i (by omega))
    have hq := hend a w hE (hcnt hall h.inv) hF'
    rw [hnl, List.drop_length] at hq
    exact ⟨ready_none fun i hi => hall i (by omega), hq⟩
  | succ fuel ih =>
    intro U listed a w hnd hU hf h
    by_cases hU0 : U = []
    · have hall : ∀ i, i < n → listed.getD i true = true := fun i hi => by
        cases hl : listed.getD i true with
        | true => rfl
        | false => have := (hU i).2 ⟨hi, hl⟩; rw [hU0] at this; cases this
      obtain ⟨hE, hF'⟩ := h.done hP hR hL (fun i hi => hall i (by omega))
      have hq := hend a w hE (hcnt hall h.inv) hF'
      rw [hU0] at hf
      simp only [List.length_nil, Nat.zero_add] at hf
      have hT' : tailB L n = true := hT.resolve_left (by omega)
      unfold tailB at hT'
      simp only [Bool.and_eq_true] at hT'
      have hlist := seq_listed (L := L) hn h.lsize hall (fun t h1 h2 => h.tail t (by omega) h2)
      have := wpAny_of_seq (P := P) (md := .any) (ops := L.toArray) (Q' := Q) (L.drop n) n listed a w (fun j => by simp [List.getElem?_drop]) (by rw [List.length_drop, hlist]; exact hT'.2) hq
      rw [List.length_drop, ← hf] at this
      exact this
    · have hnotall : ¬ ∀ i, i < n → listed.getD i true = true := fun hall => by
        obtain ⟨x, hx⟩ := List.exists_mem_of_ne_nil _ hU0
        have := (hU x).1 hx
        rw [hall x this.1] at this
        exact absurd this.2 (by decide)
      refine ⟨fun hr => ?_, fun i hi => ?_⟩
      · exfalso
        refine hnotall fun i => ?_
        induction i using Nat.strongRecOn with
        | ind i ihi =>
          intro hi
          cases hl : listed.getD i true with
          | true => rfl
          | false =>
            have ho : H[i]? = some (H[i]'(by omega)) := List.getElem?_eq_getElem _
            obtain ⟨_, h2, _⟩ := persB_spec hP ho
            have : i ∈ Region.ready .any L.toArray listed := by
              rw [mem_ready]
              refine ⟨hl, _, by simpa using hL i _ ho, fun e he hb => ?_⟩
              have hlt := h2 e he hb
              rw [← getD_lt (by rw [h.lsize]; omega)]
              exact ihi e.on hlt (by omega)
            rw [hr] at this
            cases this
      rw [mem_ready] at hi
      obtain ⟨hl, o, ho, hdeps⟩ := hi
      have hoL : L[i]? = some o := by simpa using ho
      have hiL : i < L.length := (List.getElem?_eq_some_iff.1 hoL).1
      have hd : ∀ j, depB o j = true → listed.getD j true = true := fun j hj => by
        obtain ⟨e, he, hon, hb⟩ := depB_of hj
        have := hdeps e he hb
        rw [hon] at this
        exact getD_tf this
      by_cases hin : i < n
      · have ho' := hLH i o hin hoL
        have hs := h.step hF hC hP hR hL hW ho' hl hd (K := wpAny P .any L.toArray Q fuel (listed.setIfInBounds i true)) (fun v w' hinv => by
          refine ih (U.erase i) _ _ _ (hnd.erase i) (fun j => ?_) ?_ hinv
          · rw [hnd.mem_erase_iff, hU j]
            constructor
            · rintro ⟨h1, h2, h3⟩
              exact ⟨h2, by rw [getD_set_ne _ (Ne.symm h1)]; exact h3⟩
            · rintro ⟨h1, h2⟩
              have hne : j ≠ i := by
                rintro rfl
                rw [getD_set_self _ (by rw [h.lsize]; exact hiL)] at h2; cases h2
              rw [getD_set_ne _ (Ne.symm hne)] at h2
              exact ⟨hne, h1, h2⟩
          · have hm := (hU i).2 ⟨hin, hl⟩
            have := List.length_pos_of_mem hm
            rw [List.length_erase_of_mem hm]
            omega)
        unfold wpOp
        rw [ho]
        simp only
        split at hs
        · next hw => rw [if_pos hw]; exact .inl (oper_wp_to hup hs)
        · next hw => rw [if_neg hw]; exact hs
      · exfalso
        have hT' : tailB L n = true := hT.resolve_left (by omega)
        unfold tailB at hT'
        simp only [Bool.and_eq_true] at hT'
        obtain ⟨⟨hT1, hT2⟩, _⟩ := hT'
        by_cases hni : i = n
        · subst hni
          refine hnotall ?_
          have key : ∀ m k, i - k = m → k < i → listed.getD k true = true := by
            intro m
            induction m using Nat.strongRecOn with
            | ind m ihm =>
              intro k hm hk
              have := List.all_eq_true.1 hT1 k (List.mem_range.2 hk)
              rw [Bool.or_eq_true, hoL] at this
              rcases this with h1 | h1
              · exact hd k h1
              · obtain ⟨⟨o', k'⟩, hm', h2⟩ := List.any_eq_true.1 h1
                simp only [Bool.and_eq_true, decide_eq_true_eq] at h2
                rw [List.mem_zipIdx_iff_getElem?, ← hH] at hm'
                have hk' := (List.getElem?_eq_some_iff.1 hm').1
                exact h.closed k' o' hm' (ihm (i - k') (by omega) k' rfl (by omega)) k h2.2
          exact fun k hk => key _ k rfl hk
        · have := List.all_eq_true.1 hT2 (o, i) (by rw [List.mem_zipIdx_iff_getElem?]; exact hoL)
          simp only [Bool.or_eq_true, decide_eq_true_eq] at this
          rcases this with h1 | h1
          · omega
          · have h2 := hd _ h1
            rw [h.tail (i - 1) (by omega) (by omega)] at h2
            cases h2
/-- THE LAW: as in XWalk, with operations that write. -/
theorem wp_region_walkT {id : Nat} {w0 : World} {Q : Exit → Act → World → Prop} (F : Ph) (hF : F.Ok) (n : Nat) (M : List (Nat × YldT F)) (hm : P.follows .mixedOrders = true) (hB : walkB L n a0.tmps.size = true) (hC : chainB (L.take n) (L.take n).length F.C = true) (h0 : F.I 0 w0) (hup : ∀ x a w, F.Up x w → a.defers = a0.defers → Q x a w)
    (h : walkT P F L M (fun a => ∀ w, F.I F.C.length w → FactsT L (L.take n) M a w → wpList P L.toArray Q (L.drop n) a w) 0 (L.take n) a0) : (Code.region id L.toArray true).wp P Q a0 w0 := by
  unfold walkB at hB
  simp only [Bool.and_eq_true, Bool.or_eq_true, decide_eq_true_eq] at hB
  obtain ⟨⟨⟨hn, hP⟩, hR⟩, hT⟩ := hB
  refine wp_region_any hm ?_
  have hf : ∀ i, i < L.length → (Array.replicate L.toArray.size false).getD i true = false := fun i hi => by
    rw [Array.getD_eq_getD_getElem?, Array.getElem?_eq_getElem (by simpa using hi)]
    simp
  have hHl : (L.take n).length = n := by simp; omega
  have hz : cntI F.C (Array.replicate L.toArray.size false) = 0 := by
    unfold cntI
    rw [List.filter_eq_nil_iff.2 (fun x hx => ?_)]
    · rfl
    · obtain ⟨s, hs⟩ := List.mem_iff_getElem?.1 hx
      have := (chain_spec hC).2 s x hs
      rw [hf x (by omega)]
      decide
  obtain ⟨u, hu⟩ := pathT_exists (a0 := a0) (fun _ S => S.inh) h
  refine wpAny_walkT hF rfl hC hn hP hR hT h (fun x a w hq => hup x a w hq.1 hq.2) (fun a w hE hb hF => hE w hb hF) _ (List.range n) _ _ _ List.nodup_range (fun i => ?_) (by simp; omega) ?_
  · rw [List.mem_range]
    exact ⟨fun hi => ⟨hi, hf i (by omega)⟩, fun hi => hi.1⟩
  · refine ⟨by simp, fun t _ ht => hf t ht, by rw [hz]; exact hF.iB _ _ _ h0 ⟨rfl, rfl, rfl, Nat.le_refl _, fun _ _ => rfl⟩, rfl, rfl, fun t _ => rfl, fun i o ho hl => ?_, _, u, hu, fun i o d ho hl => ?_, fun j oj S hj => ?_⟩
    · have := (List.getElem?_eq_some_iff.1 ho).1
      rw [hf i (by omega)] at hl; cases hl
    · have := (List.getElem?_eq_some_iff.1 ho).1
      rw [hf i (by omega)] at hl; cases hl
    · have := hj.2
      rw [hf j (by omega)] at this; cases this
end
section
variable {P : Program} {F : Ph} {L r : List Oper} {M : List (Nat × YldT F)} {a : Act} {E : Act → Prop} {i : Nat} {o : Oper}
/-- A world of the region. -/
structure In (F : Ph) where
  w : World
  t : Nat
  h : F.I t w
theorem walkT_val {v : Value} (hw : Region.wanted o (yielded L.toArray a.tmps) = true) (hM : madeT M i = none) (hc : i ∉ F.C) (h : ∀ t w, F.I t w → DepsT L M a o w → (execOp a.eval o).run P w = .ok (.value v) w) (hn : walkT P F L M E (i + 1) r (a.put o.dst v)) : walkT P F L M E i (o :: r) a := by
  rw [walkT, if_pos hw, hM]
  exact ⟨hc, v, h, hn⟩
theorem walkT_made {S : YldT F} (hw : Region.wanted o (yielded L.toArray a.tmps) = true) (hM : madeT M i = some S) (h : ∀ t w, phI F.C i t → F.I t w → DepsT L M a o w → WpT P F (nxI F.C i t) o a S w) (hn : ∀ x, walkT P F L M E (i + 1) r (a.put o.dst (S.shape x))) : walkT P F L M E i (o :: r) a := by
  rw [walkT, if_pos hw, hM]
  exact ⟨h, hn⟩
theorem walkT_quiet (hw : Region.wanted o (yielded L.toArray a.tmps) = true) (hM : madeT M i = none) (hc : F.C.contains i = false) (hv : valB o = true) (h : ∀ K : Act → Prop, (∀ a, walkT P F L M E (i + 1) r a → K a) → o.quiet P a (fun w => ∃ x : In F, w = x.w) K) : walkT P F L M E i (o :: r) a := by
  obtain ⟨v, h1, h2⟩ := h (walkT P F L M E (i + 1) r) (fun _ h => h)
  refine walkT_val hw hM (by intro hm; rw [List.contains_iff_mem.2 hm] at hc; cases hc) (fun t w hb _ => ?_) h2
  have := h1 w ⟨⟨w, t, hb⟩, rfl⟩
  unfold Oper.quietAt at this
  generalize hr : (execOp a.eval o).run P w = res at this
  cases res with
  | halt x w' => exact this.elim
  | ok n w' =>
    obtain ⟨u, rfl⟩ := valB_spec hv hr
    obtain ⟨rfl, rfl⟩ := (this : w' = w ∧ u = v)
    rfl
theorem walkT_nil (h : E a) : walkT P F L M E i [] a := h
theorem walkT_is {c : Value} (hw : Region.wanted o (yielded L.toArray a.tmps) = true) (hM : madeT M i = some (YldT.is F c)) (h : ∀ t w, phI F.C i t → F.I t w → DepsT L M a o w → WpT P F (nxI F.C i t) o a (YldT.is F c) w) (hn : walkT P F L M E (i + 1) r (a.put o.dst c)) : walkT P F L M E i (o :: r) a :=
  walkT_made hw hM h fun _ => hn
theorem YldT.is_mk {c : Value} {w : World} : (YldT.is F c).R c w := ⟨(), rfl, trivial⟩
theorem WpT.val {S : YldT F} {t' : Nat} {v : Value} {w w' : World} (hr : (execOp a.eval o).run P w = .ok (.value v) w') (hR : S.R v w') (hT : F.T w w') (hI : F.I t' w') : WpT P F t' o a S w := by
  unfold WpT Oper.wp Oper.upon
  rw [hr]
  exact ⟨v, rfl, hR, hT, hI⟩
theorem WpT.call {S : YldT F} {t' : Nat} {f : FuncId} {args : Array Value} {w : World} (hr : (execOp a.eval o).run P w = .ok (.enter f args) w) (h : Calls P f args w fun e w' => (∃ v, e = .returned v ∧ S.R v w' ∧ F.T w w' ∧ F.I t' w') ∨ (∃ c, e = .panicked c ∧ F.Up (.panic c) w')) : WpT P F t' o a S w := by
  unfold WpT Oper.wp Oper.upon
  rw [hr]
  refine h.mono fun e w' he => ?_
  rcases he with ⟨v, he, hv, hT, hI⟩ | ⟨c, he, hv⟩
  · subst he
    exact ⟨v, rfl, hv, hT, hI⟩
  · subst he
    exact ⟨hv, rfl⟩
/-- A call that leaves the world. -/
theorem WpT.same {t' : Nat} {f : FuncId} {args : Array Value} {c : Value} {w : World} (hF : F.Ok) (hr : (execOp a.eval o).run P w = .ok (.enter f args) w) (hi : F.I t' w) (h : Calls P f args w fun e w' => e = .returned c ∧ w = w') : WpT P F t' o a (YldT.is F c) w :=
  WpT.call hr (h.mono fun _ _ ⟨he, hw⟩ => .inl ⟨c, he, YldT.is_mk, hF.tB _ _ (hw ▸ Below.refl _ _), hw ▸ hi⟩)
end
end Go.Fd
namespace Go.Fd
open Go.RowKit
section
variable {P : Program} {w : World} {t : TypeId} {x y : Operand} {k : IntKind} {a b : Int} {c : Bool}
theorem eql_run (h : (a == b) = c) : (do eqGuard .eql t x y (.int k a) (.int k b); binOp .eql t (.int k a) (.int k b) : Sem Value).run P w = .ok (.bool c) w := by
  subst h
  simp [eqGuard, binOp, Op.intCmp]
theorem neq_run (h : (a != b) = c) : (do eqGuard .neq t x y (.int k a) (.int k b); binOp .neq t (.int k a) (.int k b) : Sem Value).run P w = .ok (.bool c) w := by
  subst h
  simp [eqGuard, binOp, Op.intCmp]
end
end Go.Fd
namespace Go.Proofs.Ytmpelmjhimalpaa
open Go.RowKit Go.Fd
theorem convU32I (n : Nat) (w : World) (h : n < 4294967296) : (convert 25 3 (.int .u32 n)).run Try.prog w = .ok (.int .i64 n) w := by
  have h1 : Try.prog.underlying 25 = some (.int .u32) := by kernel_rfl
  have h2 : Try.prog.underlying 3 = some (.int .i64) := by kernel_rfl
  have h3 : IntKind.i64.wrap (n : Int) = (n : Int) := by rw [IntKind.wrap_i64]; omega
  simp [convert, run_underlying h1, run_underlying h2, Conv.intToInt, h3]
theorem neqB_run {w : World} {x y : Operand} {p q c : Bool} (h : (p != q) = c) : (do eqGuard .neq 4 x y (.bool p) (.bool q); binOp .neq 4 (.bool p) (.bool q) : Sem Value).run Try.prog w = .ok (.bool c) w := by
  subst h
  cases p <;> cases q <;> kernel_rfl
end Go.Proofs.Ytmpelmjhimalpaa
