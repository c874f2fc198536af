/-
  LoadThread holds: where the thread's block and pointer stand on each target. No condition.
-/
import Derived.Test.YtmpelmjhimalpaaLt3
import Derived.Deep.DeepCutAuto
import Derived.Test.YtmpelmjhimalpaaRows
import Derived.ProofKit
import Derived.SizedLaws
import Derived.OpenShut
import Derived.Lib.SmallJoins
import Derived.Deep.Fields
namespace Go.Proofs.Ytmpelmjhimalpaa
open Go.RowKit Go.Fd
/-- x stands in l at p. -/
def Has (l : List UInt8) (p : Nat) (x : List UInt8) : Prop := ∃ a b, l = a ++ (x ++ b) ∧ a.length = p
theorem Has.left {l x : List UInt8} {p : Nat} (h : Has l p x) (a : List UInt8) {q : Nat} (hq : q = a.length + p) : Has (a ++ l) q x := by
  obtain ⟨c, d, rfl, rfl⟩ := h
  exact ⟨a ++ c, d, by simp, by simp [hq]⟩
theorem Has.right {l x : List UInt8} {p : Nat} (h : Has l p x) (b : List UInt8) : Has (l ++ b) p x := by
  obtain ⟨c, d, rfl, rfl⟩ := h
  exact ⟨c, d ++ b, by simp, rfl⟩
theorem Has.all (x : List UInt8) : Has x 0 x := ⟨[], [], by simp, rfl⟩
theorem Has.sub {l x y : List UInt8} {p q r : Nat} (h : Has l p x) (k : Has x q y) (hr : r = p + q) : Has l r y := by
  obtain ⟨a, b, rfl, rfl⟩ := h
  obtain ⟨c, d, rfl, rfl⟩ := k
  exact ⟨a ++ c, d ++ b, by simp, by simp [hr]⟩
theorem Has.len {l x : List UInt8} {p : Nat} (h : Has l p x) : p + x.length ≤ l.length := by
  obtain ⟨a, b, rfl, rfl⟩ := h
  simp only [List.length_append]; omega
theorem Has.cut {l x : List UInt8} {p : Nat} (h : Has l p x) : (l.drop p).take x.length = x := by
  obtain ⟨a, b, rfl, rfl⟩ := h
  simp
theorem Has.num {l : List UInt8} {p n s : Nat} (h : Has l p (fixed n s)) (hs : Sized s) (hn : n < 256 ^ s) : gN l p s = n := by
  have h1 := h.len
  have h2 := h.cut
  rw [length_fixed] at h1 h2
  rw [gN_in hs h1, h2, fixed_get, Nat.mod_eq_of_lt hn]
theorem Has.flat {α : Type} {k : Nat} {f : α → List UInt8} (hk : ∀ x, (f x).length = k) {l : List α} {i : Nat} {x : α} (h : l[i]? = some x) : Has (l.flatMap f) (k * i) (f x) := by
  obtain ⟨r, hr⟩ := flat_head hk h
  refine ⟨(l.flatMap f).take (k * i), r, by rw [← hr, List.take_append_drop], ?_⟩
  have hi := (List.getElem?_eq_some_iff.1 h).1
  rw [List.length_take, flat_len' hk, Nat.min_eq_left]
  rw [Nat.mul_comm]
  exact Nat.mul_le_mul_right k (Nat.le_of_lt hi)
theorem putL_cons (s n : Nat) (ns : List Nat) : putL s (n :: ns) = fixed n s ++ putL s ns := rfl
theorem putL_nil (s : Nat) : putL s [] = [] := rfl
/-- A part of bytes that are put together of parts. -/
theorem has_part {ps : List (List UInt8)} {i p : Nat} {x : List UInt8} (h : ps[i]? = some x) (hp : p = ((ps.take i).map List.length).sum) : Has ps.flatten p x := by
  obtain ⟨hi, he⟩ := List.getElem?_eq_some_iff.1 h
  refine ⟨(ps.take i).flatten, (ps.drop (i + 1)).flatten, ?_, by rw [List.length_flatten, hp]⟩
  rw [← he, ← List.flatten_cons, ← List.flatten_append, List.getElem_cons_drop, List.take_append_drop]
theorem segBy_parts (s : SegM) : segBy s = [fixed s.typ 4, fixed s.flags 4, fixed s.off 8, fixed s.vaddr 8, fixed s.vaddr 8, fixed s.filesz 8, fixed s.memsz 8, fixed s.align 8].flatten := by
  unfold segBy
  simp [putL_cons, putL_nil]
theorem segBy_has (s : SegM) {i p : Nat} {x : List UInt8} (h : [fixed s.typ 4, fixed s.flags 4, fixed s.off 8, fixed s.vaddr 8, fixed s.vaddr 8, fixed s.filesz 8, fixed s.memsz 8, fixed s.align 8][i]? = some x) (hp : p = (([fixed s.typ 4, fixed s.flags 4, fixed s.off 8, fixed s.vaddr 8, fixed s.vaddr 8, fixed s.filesz 8, fixed s.memsz 8, fixed s.align 8].take i).map List.length).sum) : Has (segBy s) p x := by
  rw [segBy_parts]; exact has_part h hp
theorem hdrBy_parts (nm : Nat) (s : SecM) (p : Nat) : hdrBy nm s p = [fixed nm 4, fixed s.typ 4, fixed s.flags 8, fixed s.addr 8, fixed p 8, fixed s.size 8, fixed s.link 4, fixed s.info 4, fixed s.align 8, fixed s.ent 8].flatten := by
  unfold hdrBy
  simp [putL_cons, putL_nil]
theorem hdrBy_has (nm : Nat) (s : SecM) (p : Nat) {i q : Nat} {x : List UInt8} (h : [fixed nm 4, fixed s.typ 4, fixed s.flags 8, fixed s.addr 8, fixed p 8, fixed s.size 8, fixed s.link 4, fixed s.info 4, fixed s.align 8, fixed s.ent 8][i]? = some x) (hp : q = (([fixed nm 4, fixed s.typ 4, fixed s.flags 8, fixed s.addr 8, fixed p 8, fixed s.size 8, fixed s.link 4, fixed s.info 4, fixed s.align 8, fixed s.ent 8].take i).map List.length).sum) : Has (hdrBy nm s p) q x := by
  rw [hdrBy_parts]; exact has_part h hp
theorem headB_parts (e : ElfM) (h : Nat) : headB e h = [magicE, List.replicate 9 0, fixed (u64of e.typ) 2, fixed (Go.Fd.mach e.target) 2, fixed 1 4, fixed e.entry 8, fixed (if segsB e = true then 64 else 0) 8, fixed h 8, fixed e.flags 4, fixed 64 2, fixed 56 2, fixed e.segs.length 2, fixed 64 2, fixed (e.secs.length + 2) 2, fixed (e.secs.length + 1) 2].flatten := by
  unfold headB magicE
  simp [putL_cons, putL_nil]
theorem headB_has (e : ElfM) (h : Nat) {i q : Nat} {x : List UInt8} (hx : [magicE, List.replicate 9 0, fixed (u64of e.typ) 2, fixed (Go.Fd.mach e.target) 2, fixed 1 4, fixed e.entry 8, fixed (if segsB e = true then 64 else 0) 8, fixed h 8, fixed e.flags 4, fixed 64 2, fixed 56 2, fixed e.segs.length 2, fixed 64 2, fixed (e.secs.length + 2) 2, fixed (e.secs.length + 1) 2][i]? = some x) (hp : q = (([magicE, List.replicate 9 0, fixed (u64of e.typ) 2, fixed (Go.Fd.mach e.target) 2, fixed 1 4, fixed e.entry 8, fixed (if segsB e = true then 64 else 0) 8, fixed h 8, fixed e.flags 4, fixed 64 2, fixed 56 2, fixed e.segs.length 2, fixed 64 2, fixed (e.secs.length + 2) 2, fixed (e.secs.length + 1) 2].take i).map List.length).sum) : Has (headB e h) q x := by
  rw [headB_parts]; exact has_part hx hp
/-- What was ahead stays ahead. -/
theorem bodyF_pre : ∀ (l : List (SecM × Nat)) (acc : List UInt8), ∃ r, bodyF acc l = acc ++ r := by
  intro l
  induction l with
  | nil => exact fun acc => ⟨[], by simp [bodyF]⟩
  | cons x l ih =>
    intro acc
    obtain ⟨r, hr⟩ := ih (acc ++ List.replicate (x.2 - acc.length) 0 ++ x.1.data)
    exact ⟨List.replicate (x.2 - acc.length) 0 ++ x.1.data ++ r, by
      show bodyF (acc ++ List.replicate (x.2 - acc.length) 0 ++ x.1.data) l = _
      rw [hr]; simp⟩
theorem bodyF_cut (acc : List UInt8) (l : List (SecM × Nat)) (k : Nat) : bodyF acc l = bodyF (bodyF acc (l.take k)) (l.drop k) := by
  unfold bodyF
  rw [← List.foldl_append, List.take_append_drop]
section
variable {e : ElfM}
theorem atsB_ok (h : MayK e) {i : Nat} {x : List UInt8} (hi : (namesOf e.secs)[i]? = some x) : ∃ p, (atsOf e)[i]? = some p ∧ atR (tabOf e) p = (x, 0) ∧ p < (tabOf e).length := by
  obtain ⟨h1, h2⟩ := build_ok h.ok
  obtain ⟨p, e1, _, e2, e3⟩ := build_at h1 hi
  have ht : tabOf e = (buildT (namesOf e.secs)).tab := by unfold tabOf; rw [h2]
  refine ⟨p, by unfold atsOf; rw [h2]; exact e1, by rw [ht]; exact at_place e2 e3, ?_⟩
  rw [ht]
  have := e2.lt
  omega
theorem ats_len (h : MayK e) : (atsOf e).length = e.secs.length + 1 := by
  obtain ⟨h1, h2⟩ := build_ok h.ok
  unfold atsOf
  rw [h2, (build_places _).1]
  simp [namesOf]
theorem places_len (e : ElfM) : (placesOf e).1.length = e.secs.length := plF_len _
theorem hdrs_get (h : MayK e) {i : Nat} {s : SecM} (hi : e.secs[i]? = some s) : ∃ n p, (atsOf e)[i]? = some n ∧ (placesOf e).1[i]? = some p ∧ (e.secs.zip ((atsOf e).zip (placesOf e).1))[i]? = some (s, n, p) := by
  have hlt := (List.getElem?_eq_some_iff.1 hi).1
  have h1 : (atsOf e)[i]? = some ((atsOf e)[i]'(by rw [ats_len h]; omega)) := List.getElem?_eq_getElem _
  have h2 : (placesOf e).1[i]? = some ((placesOf e).1[i]'(by rw [places_len]; omega)) := List.getElem?_eq_getElem _
  refine ⟨_, _, h1, h2, ?_⟩
  rw [List.getElem?_zip_eq_some]
  exact ⟨hi, by rw [List.getElem?_zip_eq_some]; exact ⟨h1, h2⟩⟩
theorem hdrsB_len (h : MayK e) : (hdrsB e).length = 64 * e.secs.length := by
  unfold hdrsB
  rw [flat_len' fun p => hdrBy_len _ _ _, List.length_zip, List.length_zip, ats_len h, places_len]
  omega
theorem fileB_len (h : MayK e) : (fileB e).length = headsOf e (tabOf e).length + 64 * (e.secs.length + 2) := by
  unfold fileB
  rw [List.length_append, List.length_append, midB_len h, hdrsB_len h, hdrBy_len]
  omega
theorem has_mid {p : Nat} {x : List UInt8} (h : Has (bodyB e) p x) : Has (fileB e) p x := by
  unfold fileB midB
  exact (((h.right _).right _).right _).right _
theorem has_front {p : Nat} {x : List UInt8} (h : Has (frontB e) p x) : Has (fileB e) p x := by
  obtain ⟨r, hr⟩ := bodyF_pre (e.secs.zip (placesOf e).1) (frontB e)
  refine has_mid ?_
  unfold bodyB
  rw [hr]
  exact h.right _
theorem has_head {p : Nat} {x : List UInt8} (h : Has (headB e (headsOf e (tabOf e).length)) p x) : Has (fileB e) p x := by
  refine has_front ?_
  unfold frontB
  exact h.right _
theorem has_seg {i : Nat} {s : SegM} (hi : e.segs[i]? = some s) : Has (fileB e) (64 + 56 * i) (segBy s) := by
  refine has_front ?_
  unfold frontB
  exact (Has.flat segBy_len hi).left _ (by rw [headB_len])
theorem has_data (h : MayK e) {i : Nat} {s : SecM} {p : Nat} (hi : e.secs[i]? = some s) (hp : (placesOf e).1[i]? = some p) : Has (fileB e) p s.data := by
  refine has_mid ?_
  have hz : (e.secs.zip (placesOf e).1)[i]? = some (s, p) := by rw [List.getElem?_zip_eq_some]; exact ⟨hi, hp⟩
  have hlt := (List.getElem?_eq_some_iff.1 hi).1
  have hl := body_len (g := segsB e) (frontB_len e) h.pow i (Nat.le_of_lt hlt)
  have hpl : p = placeS (segsB e) (plF (segsB e) (front e) (e.secs.take i)).2 s := by
    have := plF_get (g := segsB e) (n := front e) hi
    unfold placesOf at hp
    rw [this] at hp
    exact (Option.some.inj hp).symm
  have hge := placeS_le (g := segsB e) (p := (plF (segsB e) (front e) (e.secs.take i)).2) (h.pow s (List.mem_of_getElem? hi))
  obtain ⟨r, hr⟩ := bodyF_pre ((e.secs.zip (placesOf e).1).drop (i + 1)) (bodyF (frontB e) ((e.secs.zip (placesOf e).1).take (i + 1)))
  unfold bodyB
  rw [bodyF_cut _ _ (i + 1), hr, bodyF_step hz]
  refine Has.right ?_ _
  have := (Has.all s.data).left (bodyF (frontB e) ((e.secs.zip (placesOf e).1).take i) ++ List.replicate (p - (bodyF (frontB e) ((e.secs.zip (placesOf e).1).take i)).length) 0) (q := p) (by
    rw [List.length_append, List.length_replicate]
    unfold placesOf
    rw [hl, hpl]
    omega)
  exact this
theorem has_tab (h : MayK e) : Has (fileB e) (placesOf e).2 (tabOf e) := by
  unfold fileB midB
  refine Has.right (Has.right (Has.right ?_ _) _) _
  exact (Has.all _).left _ (by rw [bodyB_len h.pow]; rfl)
theorem has_hdr (h : MayK e) {i : Nat} {s : SecM} {n p : Nat} (hz : (e.secs.zip ((atsOf e).zip (placesOf e).1))[i]? = some (s, n, p)) : Has (fileB e) (headsOf e (tabOf e).length + 64 * (i + 1)) (hdrBy n s p) := by
  unfold fileB
  refine Has.right ?_ _
  have := Has.flat (f := fun p : SecM × Nat × Nat => hdrBy p.2.1 p.1 p.2.2) (fun p => hdrBy_len _ _ _) hz
  exact this.left _ (by rw [midB_len h]; omega)
theorem has_last (h : MayK e) : ∃ n, Has (fileB e) (headsOf e (tabOf e).length + 64 * (e.secs.length + 1)) (hdrBy n (tabSec (tabOf e).length) (placesOf e).2) := by
  refine ⟨(atsOf e)[e.secs.length]?.getD 0, ?_⟩
  unfold fileB
  exact (Has.all _).left _ (by rw [List.length_append, midB_len h, hdrsB_len h]; omega)
end
theorem Has.ok {l x : List UInt8} {p q s : Nat} (h : Has l p x) (hs : Sized s) (hq : q + s ≤ x.length) : okB l (p + q) s = true := by
  rw [okB_iff hs]
  have := h.len
  simp only [decide_eq_true_eq]
  omega
theorem seg_back {l : List UInt8} {a : Nat} {s : SegM} (h : Has l a (segBy s)) (hf : s.fits) : segP l a = s ∧ segOk l a = true := by
  obtain ⟨f1, f2, f3, f4, f5, f6, f7⟩ := hf
  have hl := h.len
  rw [segBy_len] at hl
  refine ⟨?_, by rw [segOk_iff]; simpa using hl⟩
  unfold segP
  rw [(h.sub (segBy_has s (i := 0) rfl rfl) rfl : Has l a (fixed s.typ 4)).num sz4 f1, (h.sub (segBy_has s (i := 1) rfl rfl) (r := a + 4) (by simp [length_fixed]) : Has l (a + 4) (fixed s.flags 4)).num sz4 f2,
    (h.sub (segBy_has s (i := 2) rfl rfl) (r := a + 8) (by simp [length_fixed]) : Has l (a + 8) (fixed s.off 8)).num sz8 f3,
    (h.sub (segBy_has s (i := 3) rfl rfl) (r := a + 16) (by simp [length_fixed]) : Has l (a + 16) (fixed s.vaddr 8)).num sz8 f4,
    (h.sub (segBy_has s (i := 5) rfl rfl) (r := a + 32) (by simp [length_fixed]) : Has l (a + 32) (fixed s.filesz 8)).num sz8 f5,
    (h.sub (segBy_has s (i := 6) rfl rfl) (r := a + 40) (by simp [length_fixed]) : Has l (a + 40) (fixed s.memsz 8)).num sz8 f6,
    (h.sub (segBy_has s (i := 7) rfl rfl) (r := a + 48) (by simp [length_fixed]) : Has l (a + 48) (fixed s.align 8)).num sz8 f7]
theorem sec_back {l tab : List UInt8} {a n p : Nat} {s : SecM} (h : Has l a (hdrBy n s p)) (hf : s.fits) (hn : n < 4294967296) (hp : p < 18446744073709551616) (ht : atR tab n = (s.name, 0)) (hfine : fineB s = true) (hd : Has l p s.data) : secP l tab a = s ∧ secOk l tab a = true := by
  obtain ⟨f1, f2, f3, f4, f5, f6, f7, f8⟩ := hf
  have hl := h.len
  rw [hdrBy_len] at hl
  have g0 := (h.sub (hdrBy_has n s p (i := 0) rfl rfl) (r := a) (by simp) : Has l a (fixed n 4)).num sz4 hn
  have g1 := (h.sub (hdrBy_has n s p (i := 1) rfl rfl) (r := a + 4) (by simp [length_fixed]) : Has l (a + 4) (fixed s.typ 4)).num sz4 f1
  have g2 := (h.sub (hdrBy_has n s p (i := 2) rfl rfl) (r := a + 8) (by simp [length_fixed]) : Has l (a + 8) (fixed s.flags 8)).num sz8 f2
  have g3 := (h.sub (hdrBy_has n s p (i := 3) rfl rfl) (r := a + 16) (by simp [length_fixed]) : Has l (a + 16) (fixed s.addr 8)).num sz8 f3
  have g4 := (h.sub (hdrBy_has n s p (i := 4) rfl rfl) (r := a + 24) (by simp [length_fixed]) : Has l (a + 24) (fixed p 8)).num sz8 hp
  have g5 := (h.sub (hdrBy_has n s p (i := 5) rfl rfl) (r := a + 32) (by simp [length_fixed]) : Has l (a + 32) (fixed s.size 8)).num sz8 f5
  have g6 := (h.sub (hdrBy_has n s p (i := 6) rfl rfl) (r := a + 40) (by simp [length_fixed]) : Has l (a + 40) (fixed s.link 4)).num sz4 f6
  have g7 := (h.sub (hdrBy_has n s p (i := 7) rfl rfl) (r := a + 44) (by simp [length_fixed]) : Has l (a + 44) (fixed s.info 4)).num sz4 f7
  have g8 := (h.sub (hdrBy_has n s p (i := 8) rfl rfl) (r := a + 48) (by simp [length_fixed]) : Has l (a + 48) (fixed s.align 8)).num sz8 f4
  have g9 := (h.sub (hdrBy_has n s p (i := 9) rfl rfl) (r := a + 56) (by simp [length_fixed]) : Has l (a + 56) (fixed s.ent 8)).num sz8 f8
  unfold fineB at hfine
  simp only [Bool.and_eq_true, Bool.not_eq_true', decide_eq_false_iff_not] at hfine
  obtain ⟨⟨⟨_, _⟩, _⟩, hfd⟩ := hfine
  have hdl := hd.len
  have hdc := hd.cut
  constructor
  · unfold secP
    rw [g0, g1, g2, g3, g4, g5, g6, g7, g8, g9, ht]
    by_cases h8 : s.typ = 8
    · rw [if_pos h8] at hfd ⊢
      simp only [Bool.and_eq_true, decide_eq_true_eq] at hfd
      have : s.data = [] := List.eq_nil_of_length_eq_zero hfd.1
      cases s
      simp_all
    · rw [if_neg h8] at hfd ⊢
      have hsz : s.size = s.data.length := of_decide_eq_true hfd
      rw [hsz, hdc, ← hsz]
  · unfold secOk
    rw [g0, g1, g4, g5, ht]
    simp only [Bool.and_eq_true, Bool.or_eq_true, decide_eq_true_eq]
    refine ⟨⟨hl, trivial⟩, ?_⟩
    by_cases h8 : s.typ = 8
    · exact .inl h8
    · right
      rw [if_neg h8] at hfd
      have hsz : s.size = s.data.length := of_decide_eq_true hfd
      unfold inB
      simp only [Bool.and_eq_true, decide_eq_true_eq]
      omega
theorem tgt_mach {t : Int} (h : mach t ≠ 0) : tgt (mach t) 3 = t := by
  unfold mach at h ⊢
  split
  · next h1 => subst h1; decide
  · split
    · next h1 => subst h1; decide
    · split
      · next h1 => subst h1; decide
      · next h1 h2 h3 => simp [h1, h2, h3] at h
theorem target_in {t : Int} (h : mach t ≠ 0) : t = 1 ∨ t = 2 ∨ t = 3 := by
  unfold mach at h
  split at h
  · omega
  · split at h
    · omega
    · split at h
      · omega
      · exact absurd rfl h
/-- What is read of a file's bytes is the file. -/
theorem file_back {e : ElfM} (hm : mayE e = true) (hf : e.fits) : codeR (fileB e) = 0 ∧ targetR (fileB e) = e.target ∧ OkP (fileB e) ∧ parseE (fileB e) (targetR (fileB e)) = e := by
  have h := mayK hm
  have hlen := fileB_len h
  have hge := heads_ge (e := e)
  have hle := h.len
  have hsl := h.secs
  have hgl := h.segs
  have hfr : front e ≤ (placesOf e).2 := (plF_le (g := segsB e) (n := front e) h.pow).1
  have hfr2 : 64 ≤ front e := by unfold front; omega
  have hH : headsOf e (tabOf e).length < 4194304 := by omega
  have t0 := has_head (headB_has e (headsOf e (tabOf e).length) (i := 0) rfl rfl)
  have t1 := (has_head (headB_has e (headsOf e (tabOf e).length) (i := 2) (q := 16) rfl (by simp; rfl))).num sz2 (by rcases h.typ with h1 | h1 <;> rw [h1] <;> decide)
  have t2 := (has_head (headB_has e (headsOf e (tabOf e).length) (i := 3) (q := 18) rfl (by simp [length_fixed]; rfl))).num sz2 (by have := mach_le e.target; omega)
  have t3 := (has_head (headB_has e (headsOf e (tabOf e).length) (i := 5) (q := 24) rfl (by simp [length_fixed]; rfl))).num sz8 hf.entry
  have t4 := (has_head (headB_has e (headsOf e (tabOf e).length) (i := 7) (q := 40) rfl (by simp [length_fixed]; rfl))).num sz8 (by omega)
  have t5 := (has_head (headB_has e (headsOf e (tabOf e).length) (i := 8) (q := 48) rfl (by simp [length_fixed]; rfl))).num sz4 hf.flags
  have t6 := (has_head (headB_has e (headsOf e (tabOf e).length) (i := 11) (q := 56) rfl (by simp [length_fixed]; rfl))).num sz2 (by omega)
  have t7 := (has_head (headB_has e (headsOf e (tabOf e).length) (i := 13) (q := 60) rfl (by simp [length_fixed]; rfl))).num sz2 (by omega)
  have htg : targetR (fileB e) = e.target := by unfold targetR; rw [t2]; exact tgt_mach h.mach
  have hns : nsecsP (fileB e) = e.secs.length := by unfold nsecsP; rw [t7]; omega
  have hng : nsegsP (fileB e) = e.segs.length := t6
  have hla : lastP (fileB e) = headsOf e (tabOf e).length + 64 * (e.secs.length + 1) := by unfold lastP; rw [t4, hns]
  obtain ⟨nl, hlast⟩ := has_last h
  have l1 := (hlast.sub (hdrBy_has nl (tabSec (tabOf e).length) (placesOf e).2 (i := 4) rfl rfl) (r := lastP (fileB e) + 24) (by simp [length_fixed, hla]) : Has (fileB e) (lastP (fileB e) + 24) (fixed (placesOf e).2 8))
  have l2 := (hlast.sub (hdrBy_has nl (tabSec (tabOf e).length) (placesOf e).2 (i := 5) rfl rfl) (r := lastP (fileB e) + 32) (by simp [length_fixed, hla]) : Has (fileB e) (lastP (fileB e) + 32) (fixed (tabOf e).length 8))
  have n1 := l1.num sz8 (by omega)
  have n2 := l2.num sz8 (by omega)
  have htab : tabP (fileB e) = tabOf e := by
    unfold tabP
    rw [n1, n2]
    exact (has_tab h).cut
  have hseg : ∀ i s, e.segs[i]? = some s → segP (fileB e) (64 + 56 * i) = s ∧ segOk (fileB e) (64 + 56 * i) = true := fun i s hi => seg_back (has_seg hi) (hf.segs s (List.mem_of_getElem? hi))
  have hsec : ∀ i s, e.secs[i]? = some s → secP (fileB e) (tabP (fileB e)) (gN (fileB e) 40 8 + 64 * (i + 1)) = s ∧ secOk (fileB e) (tabP (fileB e)) (gN (fileB e) 40 8 + 64 * (i + 1)) = true := fun i s hi => by
    obtain ⟨n, p, a1, a2, a3⟩ := hdrs_get h hi
    have hnm : (namesOf e.secs)[i]? = some s.name := by
      unfold namesOf
      rw [List.getElem?_append_left (by rw [List.length_map]; exact (List.getElem?_eq_some_iff.1 hi).1), List.getElem?_map, hi]
      rfl
    obtain ⟨n', b1, b2, b3⟩ := atsB_ok h hnm
    rw [a1] at b1
    cases b1
    have hdt := has_data h hi a2
    rw [t4, htab]
    exact sec_back (has_hdr h a3) (hf.secs s (List.mem_of_getElem? hi)) (by omega) (by have := hdt.len; omega) b2 (h.fine s (List.mem_of_getElem? hi)) hdt
  have lsec : secsP (fileB e) e.secs.length = e.secs := by
    apply List.ext_getElem?
    intro i
    rcases Nat.lt_or_ge i e.secs.length with hi | hi
    · have hx : e.secs[i]? = some e.secs[i] := List.getElem?_eq_getElem hi
      unfold secsP
      rw [List.getElem?_map, List.getElem?_range hi, hx, Option.map_some, (hsec i _ hx).1]
    · rw [List.getElem?_eq_none (by rw [secsP_len]; exact hi), List.getElem?_eq_none hi]
  have lseg : segsP (fileB e) e.segs.length = e.segs := by
    apply List.ext_getElem?
    intro i
    rcases Nat.lt_or_ge i e.segs.length with hi | hi
    · have hx : e.segs[i]? = some e.segs[i] := List.getElem?_eq_getElem hi
      unfold segsP
      rw [List.getElem?_map, List.getElem?_range hi, hx, Option.map_some, (hseg i _ hx).1]
    · rw [List.getElem?_eq_none (by rw [segsP_len]; exact hi), List.getElem?_eq_none hi]
  refine ⟨?_, htg, ⟨by rw [t6]; exact hgl, by rw [t7]; omega, by rw [t7]; omega, fun i hi => ?_, by rw [t4]; omega, ?_, ?_, ?_, fun i hi => ?_⟩, ?_⟩
  · unfold codeR
    rw [if_neg (by omega), if_neg (by omega)]
    have : (fileB e).take 7 = magicE := by have := t0.cut; simpa [magicE] using this
    rw [if_neg (fun hh => hh this), htg, if_neg]
    rcases target_in h.mach with h1 | h1 | h1 <;> omega
  · rw [hng] at hi
    exact (hseg i _ (List.getElem?_eq_getElem hi)).2
  · have := l1.ok (q := 0) sz8 (by simp [length_fixed]); simpa using this
  · have := l2.ok (q := 0) sz8 (by simp [length_fixed]); simpa using this
  · rw [n1, n2]
    unfold inB
    simp only [Bool.and_eq_true, decide_eq_true_eq]
    omega
  · rw [hns] at hi
    exact (hsec i _ (List.getElem?_eq_getElem hi)).2
  · unfold parseE
    rw [hns, hng, lsec, lseg, htg, t1, t3, t5]
    have : ((u64of e.typ : Nat) : Int) = e.typ := by rcases h.typ with h1 | h1 <;> rw [h1] <;> decide
    rw [this]
theorem read_back {e : ElfM} (hm : mayE e = true) (hf : e.fits) : readE (fileB e) = (e, 0) := by
  obtain ⟨h1, h2, h3, h4⟩ := file_back hm hf
  unfold readE
  rw [if_neg (fun h => h h1), h4, if_pos ⟨h3, hm, rfl⟩]
end Go.Proofs.Ytmpelmjhimalpaa
namespace Go.Proofs.Ytmpelmjhimalpaa
open Go.RowKit Go.Fd
theorem getV_add (V : Vw) (k r j : Nat) : getV (addP V k r) j = getV V j := by
  unfold getV
  rw [findV_add]
  split
  · next x hx =>
    split at hx
    · next hk =>
      cases hf : findV V k with
      | none =>
        rw [hf] at hx
        cases hx
        rw [hk, hf]
        show zs[j % 4096]?.getD 0 = 0
        unfold zs
        rw [List.getElem?_replicate]
        split <;> rfl
      | some y =>
        rw [hf] at hx
        cases hx
        rw [hk, hf]
    · rw [hx]
  · next hx =>
    split at hx
    · split at hx <;> cases hx
    · rw [hx]
theorem getV_map (r : Nat) : ∀ (n : Nat) (V : Vw) (k j : Nat), getV (mapV r V k n) j = getV V j
  | 0, _, _, _ => rfl
  | n + 1, V, k, j => by rw [mapV, getV_map r n, getV_add]
theorem okV_zero (V : Vw) (j : Nat) : okV 0 (findV V j) = (findV V j).isSome := by
  unfold okV
  cases findV V j with
  | none => rfl
  | some x => simp
theorem some_map {r : Nat} {n : Nat} {V : Vw} {k j : Nat} : (findV (mapV r V k n) j).isSome = true ↔ (findV V j).isSome = true ∨ (k ≤ j ∧ j < k + n) := by
  have h1 : ∀ (W : Vw) (i : Nat), (findV W i).isSome = true ↔ i ∈ W.map (·.1) := fun W i => by
    cases h : findV W i with
    | none => simp only [Option.isSome_none, Bool.false_eq_true, false_iff]; exact findV_none.1 h
    | some x =>
      obtain ⟨h1, h2⟩ := findV_key h
      simp only [Option.isSome_some, true_iff]
      exact List.mem_map.2 ⟨x, h1, h2⟩
  rw [h1, h1, key_map]
/-- Behind what went well. -/
def bindR (x : Vw × Int) (f : Vw → Vw × Int) : Vw × Int := if x.2 = 0 then f x.1 else x
/-- A segment laid. -/
def segR (V : Vw) (b : List UInt8) (s : SegM) : Vw × Int :=
  if b.length < s.off ∨ b.length - s.off < s.filesz ∨ s.memsz < s.filesz ∨ 274877906944 < s.vaddr ∨ 274877906944 - s.vaddr < s.memsz then (V, 5)
  else if s.memsz = 0 then (V, 0) else bindR (mapR V s.vaddr s.memsz ((s.flags &&& 7 : Nat) : Int)) fun V1 => setR V1 s.vaddr ((b.drop s.off).take s.filesz)
/-- All that are loaded, one behind the other. -/
def segsR (b : List UInt8) : Vw → List SegM → Vw × Int
  | V, [] => (V, 0)
  | V, s :: l => if s.typ = 1 then bindR (segR V b s) fun V1 => segsR b V1 l else segsR b V l
theorem ok_add {V : Vw} (h : OkV V) {k r : Nat} (hk : k < 18446744073709551616) (hr : r < 8) : OkV (addP V k r) := by
  unfold addP
  split
  · next hm =>
    refine ⟨?_, fun x hx => ?_⟩
    · rw [List.map_map, show (fun x : Nat × Nat × List UInt8 => x.1) ∘ (fun x => if x.1 = k then (x.1, x.2.1 ||| r, x.2.2) else x) = (fun x => x.1) from funext fun x => by dsimp only [Function.comp]; split <;> rfl]
      exact h.nd
    · obtain ⟨y, hy, rfl⟩ := List.mem_map.1 hx
      have := h.pg y hy
      split
      · exact ⟨this.1, or_lt8 this.2.1 hr, this.2.2⟩
      · exact this
  · next hm =>
    refine ⟨?_, fun x hx => ?_⟩
    · rw [List.map_append]
      refine List.nodup_append.2 ⟨h.nd, by simp, fun a ha b hb => ?_⟩
      simp only [List.map_cons, List.map_nil, List.mem_singleton] at hb
      subst hb
      rintro rfl
      exact hm ha
    · rcases List.mem_append.1 hx with hx | hx
      · exact h.pg x hx
      · rw [List.mem_singleton] at hx
        subst hx
        exact ⟨hk, hr, zs_len⟩
theorem and7 (f : Nat) : f &&& 7 < 8 := Nat.lt_of_le_of_lt Nat.and_le_right (by decide)
theorem getV_none {V : Vw} {j : Nat} (h : findV V (j / 4096) = none) : getV V j = 0 := by unfold getV; rw [h]
/-- The pages of a stretch. -/
def pgs (a n k : Nat) : Prop := a / 4096 ≤ k ∧ k ≤ (a + n - 1) / 4096
theorem pgs_of {a n j : Nat} (h1 : a ≤ j) (h2 : j < a + n) : pgs a n (j / 4096) := ⟨Nat.div_le_div_right h1, Nat.div_le_div_right (by omega)⟩
end Go.Proofs.Ytmpelmjhimalpaa
namespace Go.Proofs.Ytmpelmjhimalpaa
open Go.RowKit Go.Fd
def seg0 : SegM := ⟨0, 0, 0, 0, 0, 0, 0⟩
def seg1 : SegM := ⟨0, 0, 0, 0, 0, 0, 1⟩
/-- The thread's segment. -/
def thR (size : Nat) : List SegM → Nat → SegM → SegM × Int
  | [], _, o => (o, 0)
  | s :: l, n, o => if s.typ = 7 then (if 1 ≤ n ∨ 1048576 < s.memsz then (seg0, 4) else if size < s.off ∨ size - s.off < s.filesz ∨ s.memsz < s.filesz then (seg0, 5) else thR size l (n + 1) s) else thR size l n o
/-- Where the block and the pointer are. -/
def blkR (t : Int) (size al : Nat) : Nat × Nat :=
  if t = 1 then (549755813888, 549755813888 + upN size al) else if t = 2 then (549755813888 + upN 16 al, 549755813888) else (549755813888, 549755813888)
def ptR (t : Int) (s : SegM) : Nat := if s.memsz = 0 then 549755813888 else (blkR t s.memsz (max s.align 1)).2
def blockR (V : Vw) (a : Nat) (b : List UInt8) (s : SegM) : Vw × Int :=
  if s.memsz = 0 then (V, 0) else bindR (mapR V a s.memsz 6) fun V1 => setR V1 a ((b.drop s.off).take s.filesz)
def pointR (V : Vw) (t : Int) (p : Nat) : Vw × Int :=
  bindR (mapR V p 8 6) fun V2 => if t = 1 then storeR V2 p 8 p else (V2, 0)
/-- The thread's block laid. -/
def layR (V : Vw) (t : Int) (b : List UInt8) (s : SegM) : Vw × Int :=
  bindR (blockR V (blkR t s.memsz (max s.align 1)).1 b s) fun V1 => pointR V1 t (ptR t s)
/-- All of a program laid. -/
def allR (t : Int) (b : List UInt8) (l : List SegM) : Vw × Int :=
  bindR (segsR b [] l) fun V1 => if (thR b.length l 0 seg1).2 = 0 then bindR (mapR V1 1099511562240 65536 6) fun V2 => layR V2 t b (thR b.length l 0 seg1).1 else (V1, (thR b.length l 0 seg1).2)
/-- A program read and laid: its error. -/
noncomputable def progR (b : List UInt8) : Vw × Int :=
  if (readE b).2 ≠ 0 then ([], (readE b).2) else if (readE b).1.typ ≠ 2 then ([], 4) else allR (readE b).1.target b (readE b).1.segs
theorem mayV_weak {V : Vw} {a n r : Nat} (h : mayV V a n r = true) : mayV V a n 0 = true := by
  rw [mayV_iff] at h ⊢
  rcases h with h | ⟨h1, h2⟩
  · exact .inl h
  · refine .inr ⟨h1, fun i hi => ?_⟩
    have := h2 i hi
    rw [okV_zero]
    unfold okV at this
    cases hf : findV V ((a + i) / 4096) with
    | none => rw [hf] at this; cases this
    | some x => rfl
theorem blkR_ge (t : Int) (size al : Nat) : 549755813888 ≤ (blkR t size al).1 ∧ 549755813888 ≤ (blkR t size al).2 := by
  unfold blkR
  split
  · exact ⟨by simp, by simp⟩
  · split
    · exact ⟨by simp, by simp⟩
    · exact ⟨by simp, by simp⟩
theorem ptR_ge (t : Int) (s : SegM) : 549755813888 ≤ ptR t s := by
  unfold ptR
  split
  · exact Nat.le_refl _
  · exact (blkR_ge _ _ _).2
end Go.Proofs.Ytmpelmjhimalpaa
namespace Go.Proofs.Ytmpelmjhimalpaa
open Go.RowKit Go.Fd
/-- All pages may be read and written. -/
structure Six (V : Vw) (m : Nat) : Prop where
  ok : OkV V
  six : ∀ x ∈ V, x.2.1 = 6
  len : V.length ≤ m
theorem Six.le {V : Vw} {m n : Nat} (h : Six V m) (hl : m ≤ n) : Six V n := ⟨h.ok, h.six, Nat.le_trans h.len hl⟩
theorem six_add {V : Vw} {m k : Nat} (h : Six V m) (hk : k < 18446744073709551616) : Six (addP V k 6) (m + 1) := by
  have ho := ok_add (r := 6) h.ok hk (by decide)
  have hl := h.len
  refine ⟨ho, ?_, ?_⟩
  · unfold addP
    split
    · intro x hx
      obtain ⟨y, hy, rfl⟩ := List.mem_map.1 hx
      have := h.six y hy
      split
      · show y.2.1 ||| 6 = 6; rw [this]; rfl
      · exact this
    · intro x hx
      rcases List.mem_append.1 hx with hx | hx
      · exact h.six x hx
      · rw [List.mem_singleton] at hx
        subst hx; rfl
  · unfold addP
    split
    · rw [List.length_map]; omega
    · rw [List.length_append, List.length_singleton]; omega
theorem six_map : ∀ (n : Nat) {V : Vw} {m : Nat} (_ : Six V m) (k : Nat), k + n ≤ 18446744073709551616 → Six (mapV 6 V k n) (m + n)
  | 0, _, _, h, _, _ => h
  | n + 1, V, m, h, k, hk => by rw [mapV]; exact (six_map n (six_add h (by omega)) (k + 1) (by omega)).le (by omega)
theorem six_setB {V : Vw} {m a : Nat} {x : UInt8} (h : Six V m) : (∀ p ∈ setBV V a x, p.2.1 = 6) ∧ (setBV V a x).length ≤ m := by
  unfold setBV
  refine ⟨fun p hp => ?_, by rw [List.length_map]; exact h.len⟩
  obtain ⟨y, hy, rfl⟩ := List.mem_map.1 hp
  have := h.six y hy
  split
  · exact this
  · exact this
theorem six_set : ∀ (l : List UInt8) {V : Vw} {m : Nat} (_ : Six V m) (a : Nat), Six (setV V a l) m
  | [], _, _, h, _ => h
  | x :: l, V, m, h, a => by rw [setV]; exact six_set l ⟨ok_set h.ok a x, (six_setB h).1, (six_setB h).2⟩ (a + 1)
theorem six_okV {V : Vw} {m k q : Nat} (h : Six V m) (hq : 6 &&& q = q) : okV q (findV V k) = (findV V k).isSome := by
  unfold okV
  cases hf : findV V k with
  | none => rfl
  | some x =>
    show (x.2.1 &&& q == q) = true
    rw [h.six x (findV_key hf).1, hq, beq_self_eq_true]
theorem six_may {V : Vw} {m a n q : Nat} (h : Six V m) (hq : 6 &&& q = q) (ha : a + n ≤ 18446744073709551616) (hs : ∀ i, i < n → (findV V ((a + i) / 4096)).isSome = true) : mayV V a n q = true := by
  rw [mayV_iff]
  exact .inr ⟨ha, fun i hi => by rw [six_okV h hq]; exact hs i hi⟩
theorem six_mapR {V : Vw} {m a n : Nat} (h : Six V m) (hm : m ≤ 1000) (h0 : 0 < n) (hn : n ≤ 65536) (ha : a + n ≤ 18446744073709551616) :
    mapR V a n 6 = (mapV 6 V (a / 4096) ((a + n - 1) / 4096 + 1 - a / 4096), 0) := by
  have hl := h.len
  unfold mapR
  rw [if_neg (by omega), if_neg, if_neg]
  · rfl
  · unfold longV
    simp only [Bool.or_eq_true, decide_eq_true_eq]
    omega
  · unfold clashV
    simp only [Bool.or_eq_true, List.any_eq_true, Bool.and_eq_true, not_or, not_exists, not_and]
    refine ⟨by decide, fun x hx _ => ?_⟩
    rw [h.six x hx]
    decide
/-- What a stretch mapped gives. -/
theorem six_step {V : Vw} {m a n : Nat} (h : Six V m) (hm : m ≤ 900) (h0 : 0 < n) (hn : n ≤ 65536) (ha : a + n ≤ 18446744073709551616) :
    ∃ W, mapR V a n 6 = (W, 0) ∧ Six W (m + 20) ∧ (∀ j, getV W j = getV V j) ∧ ∀ k, (findV W k).isSome = true ↔ (findV V k).isSome = true ∨ pgs a n k := by
  refine ⟨_, six_mapR h (by omega) h0 hn ha, (six_map _ h _ (by omega)).le (by omega), fun j => getV_map _ _ _ _ _, fun k => ?_⟩
  rw [some_map]
  unfold pgs
  have : a / 4096 ≤ (a + n - 1) / 4096 := Nat.div_le_div_right (by omega)
  constructor
  · rintro (h1 | h1)
    · exact .inl h1
    · exact .inr ⟨h1.1, by omega⟩
  · rintro (h1 | h1)
    · exact .inl h1
    · exact .inr ⟨h1.1, by omega⟩
theorem six_setR {V : Vw} {a : Nat} {l : List UInt8} (ha : a + l.length ≤ 18446744073709551616) (hs : ∀ i, i < l.length → (findV V ((a + i) / 4096)).isSome = true) :
    setR V a l = (setV V a l, 0) := by
  unfold setR
  rw [if_pos]
  rw [mayV_iff]
  exact .inr ⟨ha, fun i hi => by rw [okV_zero]; exact hs i hi⟩
/-- A thread's block laid in what may be read and written. -/
theorem lay_six {V : Vw} {m : Nat} {t : Int} {b : List UInt8} {s : SegM} (h : Six V m) (hm : m ≤ 800) (hmz : s.memsz ≤ 1000) (hle : s.filesz ≤ s.memsz) (hlen : s.off + s.filesz ≤ b.length) (hal : s.align ≤ 1000) (hal1 : 1 ≤ s.align)
    (ht : t = 1 ∨ t = 2 ∨ t = 3) (hg : ∀ j, getV V j = 0) :
    ∃ W, layR V t b s = (W, 0) ∧ Six W (m + 40) ∧ (∀ i, i < s.memsz → getV W ((blkR t s.memsz s.align).1 + i) = if i < s.filesz then b[s.off + i]?.getD 0 else 0) ∧
      (t = 1 → ∀ i, i < 8 → getV W (ptR t s + i) = (fixed (ptR t s) 8)[i]?.getD 0) ∧
      (∀ k, (findV W k).isSome = true ↔ ((findV V k).isSome = true ∨ (0 < s.memsz ∧ pgs (blkR t s.memsz s.align).1 s.memsz k)) ∨ pgs (ptR t s) 8 k) ∧
      549755813888 ≤ (blkR t s.memsz s.align).1 ∧ (blkR t s.memsz s.align).1 ≤ 549755820000 ∧ 549755813888 ≤ ptR t s ∧ ptR t s ≤ 549755820000 := by
  have hmax : max s.align 1 = s.align := Nat.max_eq_left hal1
  have hu1 := upN_le (n := s.memsz) hal1
  have hu2 := upN_le (n := 16) hal1
  have hge := blkR_ge t s.memsz s.align
  have hpge := ptR_ge t s
  have ha : (blkR t s.memsz s.align).1 ≤ 549755820000 := by
    unfold blkR
    rcases ht with rfl | rfl | rfl
    · rw [if_pos rfl]; simp
    · rw [if_neg (by decide), if_pos rfl]; dsimp only; omega
    · rw [if_neg (by decide), if_neg (by decide)]; simp
  have hp : ptR t s ≤ 549755820000 := by
    unfold ptR blkR
    rw [hmax]
    split
    · omega
    · rcases ht with rfl | rfl | rfl
      · rw [if_pos rfl]; dsimp only; omega
      · rw [if_neg (by decide), if_pos rfl]; simp
      · rw [if_neg (by decide), if_neg (by decide)]; simp
  have hapart : t = 1 → (blkR t s.memsz s.align).1 + s.memsz ≤ ptR t s := by
    rintro rfl
    unfold ptR
    rw [hmax]
    unfold blkR
    rw [if_pos rfl]
    dsimp only
    split
    · omega
    · omega
  unfold layR
  rw [hmax]
  generalize (blkR t s.memsz s.align).1 = a at ha hapart hge ⊢
  generalize ptR t s = p at hp hpge hapart ⊢
  have hge1 := hge.1
  -- the block
  have hB : ∃ X, blockR V a b s = (X, 0) ∧ Six X (m + 20) ∧ (∀ i, i < s.memsz → getV X (a + i) = if i < s.filesz then b[s.off + i]?.getD 0 else 0) ∧ ∀ k, (findV X k).isSome = true ↔ (findV V k).isSome = true ∨ (0 < s.memsz ∧ pgs a s.memsz k) := by
    unfold blockR
    by_cases h0 : s.memsz = 0
    · rw [if_pos h0]
      exact ⟨V, rfl, h.le (by omega), fun i hi => by omega, fun k => ⟨.inl, fun hk => hk.elim id fun hk => by omega⟩⟩
    · rw [if_neg h0]
      obtain ⟨Y, e1, h1, g1, f1⟩ := six_step (a := a) (n := s.memsz) h (by omega) (by omega) (by omega) (by omega)
      have hl : ((b.drop s.off).take s.filesz).length = s.filesz := by rw [List.length_take, List.length_drop]; omega
      have hs : ∀ i, i < ((b.drop s.off).take s.filesz).length → (findV Y ((a + i) / 4096)).isSome = true := fun i hi => (f1 _).2 (.inr (pgs_of (by omega) (by omega)))
      rw [e1]
      unfold bindR
      rw [if_pos rfl]
      dsimp only
      rw [six_setR (by omega) hs]
      refine ⟨_, rfl, six_set _ h1 a, fun i hi => ?_, fun k => by rw [findV_setV_some, f1]; exact ⟨fun hk => hk.imp id fun x => ⟨by omega, x⟩, fun hk => hk.imp id fun x => x.2⟩⟩
      rw [getV_setV _ h1.ok a hs, hl, g1, hg]
      by_cases hf : i < s.filesz
      · rw [if_pos ⟨by omega, by omega⟩, if_pos hf, Nat.add_sub_cancel_left, List.getElem?_take, if_pos hf, List.getElem?_drop]
      · rw [if_neg (by omega), if_neg hf]
  obtain ⟨X, e1, h1, g1, f1⟩ := hB
  rw [e1]
  unfold bindR
  rw [if_pos rfl]
  dsimp only
  unfold pointR
  obtain ⟨Y, e2, h2, g2, f2⟩ := six_step (a := p) (n := 8) h1 (by omega) (by omega) (by omega) (by omega)
  rw [e2]
  unfold bindR
  rw [if_pos rfl]
  dsimp only
  by_cases ht1 : t = 1
  · rw [if_pos ht1]
    have hs : ∀ i, i < 8 → (findV Y ((p + i) / 4096)).isSome = true := fun i hi => (f2 _).2 (.inr (pgs_of (by omega) (by omega)))
    have hst : storeR Y p 8 p = (setV Y p (fixed p 8), 0) := by
      unfold storeR
      rw [if_pos (by decide)]
      show (if mayV Y p 8 2 = true then (setV Y p (fixed p 8), 0) else (Y, 21) : Vw × Int) = _
      rw [if_pos (six_may h2 (by decide) (by omega) hs)]
    have hs' : ∀ i, i < (fixed p 8).length → (findV Y ((p + i) / 4096)).isSome = true := fun i hi => hs i (by rw [length_fixed] at hi; exact hi)
    have hap := hapart ht1
    refine ⟨_, hst, (six_set _ h2 p).le (by omega), fun i hi => ?_, fun _ i hi => ?_, fun k => by rw [findV_setV_some, f2, f1], hge1, ha, hpge, hp⟩
    · rw [getV_setV _ h2.ok p hs', if_neg (by omega), g2, g1 i hi]
    · rw [getV_setV _ h2.ok p hs', if_pos (by rw [length_fixed]; omega), Nat.add_sub_cancel_left]
  · rw [if_neg ht1]
    exact ⟨Y, rfl, h2.le (by omega), fun i hi => by rw [g2, g1 i hi], fun h' => absurd h' ht1, fun k => by rw [f2, f1], hge1, ha, hpge, hp⟩
end Go.Proofs.Ytmpelmjhimalpaa
namespace Go.Proofs.Ytmpelmjhimalpaa
open Go.RowKit Go.Fd
def thSec (d : List UInt8) : SecM := ⟨[116], 1, 0, 0, 1, d.length, 0, 0, 0, d⟩
def thSeg (d : List UInt8) (size al : Nat) : SegM := ⟨7, 4, 120, 65536, d.length, size, al⟩
def thElf (t : Int) (d : List UInt8) (size al : Nat) : ElfM := ⟨2, t, 0, 0, [thSec d], [thSeg d size al]⟩
section
variable {t : Int} {d : List UInt8} {size al : Nat}
theorem th_place1 : placeS true 120 (thSec d) = 120 := by
  unfold placeS
  rw [if_neg (by show ¬ (1 : Nat) = 8; decide), if_neg (by show ¬ (true && decide ((0 : Nat) &&& 2 ≠ 0)) = true; decide)]
  show upN 120 1 = 120
  decide
theorem th_place : placesOf (thElf t d size al) = ([120], 120 + d.length) := by
  show plF true 120 [thSec d] = _
  unfold plF
  rw [List.foldl_cons, List.foldl_nil]
  unfold plStep
  rw [th_place1]
  rfl
theorem th_may (ht : t = 1 ∨ t = 2 ∨ t = 3) (hd : d.length ≤ 200) (hp : powB al = true) : mayE (thElf t d size al) = true := by
  unfold mayE
  simp only [Bool.and_eq_true]
  refine ⟨⟨?_, ?_⟩, ?_⟩
  · rcases ht with rfl | rfl | rfl <;> rfl
  · unfold may2 thElf thSec thSeg
    simp only [List.all_cons, List.all_nil, Bool.and_true, Bool.and_eq_true, decide_eq_true_eq]
    refine ⟨⟨?_, by omega⟩, hp⟩
    unfold fineB
    simp
    decide
  · unfold may3
    simp only [Bool.and_eq_true, decide_eq_true_eq]
    have hn : namesOf (thElf t d size al).secs = [[116], tabName] := rfl
    have ht' : tabOf (thElf t d size al) = (buildR [[116], tabName]).1 := by unfold tabOf; rw [hn]
    rw [ht', hn]
    refine ⟨by kernel_rfl, ?_⟩
    rw [show (buildR [[116], tabName]).1.length = 13 by kernel_rfl]
    unfold headsOf
    rw [th_place]
    dsimp only
    have := upN_le (n := 120 + d.length + 13) (a := 8) (by decide)
    show upN _ 8 + 64 * 3 ≤ _
    omega
theorem th_fits (ht : t = 1 ∨ t = 2 ∨ t = 3) (hd : d.length ≤ 200) (hs : size ≤ 1000) (hp : powB al = true) : (thElf t d size al).fits := by
  have := powB_le hp
  refine ⟨by show _ ≤ (2 : Int) ∧ (2 : Int) < _; decide, by show _ ≤ t ∧ t < _; omega, by show (0 : Nat) < _; decide, by show (0 : Nat) < _; decide, fun s hm => ?_, fun s hm => ?_⟩
  · rw [List.mem_singleton.1 hm]
    exact ⟨(by decide : 1 < 4294967296), (by decide : 0 < 18446744073709551616), (by decide : 0 < 18446744073709551616), (by decide : 1 < 18446744073709551616), by show d.length < _; omega, (by decide : 0 < 4294967296), (by decide : 0 < 4294967296), (by decide : 0 < 18446744073709551616)⟩
  · rw [List.mem_singleton.1 hm]
    exact ⟨(by decide : 7 < 4294967296), (by decide : 4 < 4294967296), (by decide : 120 < 18446744073709551616), (by decide : 65536 < 18446744073709551616), by show d.length < _; omega, by show size < _; omega, by show al < _; omega⟩
theorem th_has (ht : t = 1 ∨ t = 2 ∨ t = 3) (hd : d.length ≤ 200) (hp : powB al = true) : Has (fileB (thElf t d size al)) 120 d := by
  have hpl : (placesOf (thElf t d size al)).1[0]? = some 120 := by rw [th_place]; rfl
  exact has_data (mayK (th_may ht hd hp)) (i := 0) (s := thSec d) rfl hpl
theorem has_at {l x : List UInt8} {p i : Nat} (h : Has l p x) (hi : i < x.length) : l[p + i]?.getD 0 = x[i]?.getD 0 := by
  obtain ⟨a, b, rfl, rfl⟩ := h
  rw [List.getElem?_append_right (by omega), Nat.add_sub_cancel_left, List.getElem?_append_left hi]
/-- What the law looks at behind a thread's file laid. -/
structure Threaded (W : Vw) (t : Int) (d : List UInt8) (size al : Nat) (pt : Nat) : Prop where
  ok : OkV W
  bytes : bytesR W (blkR t size al).1 size = ((List.range size).map fun i => d[i]?.getD 0, 0)
  mem : mayV W pt 8 4 = true
  memw : mayV W pt 8 2 = true
  amd : t = 1 → numLE (bytesV W pt 8) = pt
  stack : mayV W 1099511562240 8 4 = true
  below : mayV W 1099511562239 1 4 = false
theorem bytesV_ext {V : Vw} {a n : Nat} {l : List UInt8} (hl : l.length = n) (h : ∀ i, i < n → getV V (a + i) = l[i]?.getD 0) : bytesV V a n = l := by
  apply List.ext_getElem?
  intro i
  rcases Nat.lt_or_ge i n with hi | hi
  · have h1 := h i hi
    unfold bytesV
    rw [List.getElem?_map, List.getElem?_range hi, Option.map_some, h1, List.getElem?_eq_getElem (by omega)]
    rfl
  · rw [List.getElem?_eq_none (by rw [bytesV_len]; exact hi), List.getElem?_eq_none (by omega)]
theorem th_all (ht : t = 1 ∨ t = 2 ∨ t = 3) (hd : d.length ≤ 200) (hs : size ≤ 455) (hds : d.length ≤ size) (hp : powB al = true) (ha : al ≤ 128) :
    ∃ W, progR (fileB (thElf t d size al)) = (W, 0) ∧ Threaded W t d size al (ptR t (thSeg d size al)) := by
  have hm := th_may (size := size) ht hd hp
  have hh := th_has (size := size) ht hd hp
  have hlen := hh.len
  have h1 := powB_le hp
  unfold progR
  rw [read_back hm (th_fits ht hd (by omega) hp), if_neg (fun h => h rfl), if_neg (by show ¬ (2 : Int) ≠ 2; exact fun h => h rfl)]
  show ∃ W, allR t (fileB (thElf t d size al)) [thSeg d size al] = (W, 0) ∧ _
  generalize hb : fileB (thElf t d size al) = b at hh hlen ⊢
  have e0 : segsR b [] [thSeg d size al] = ([], 0) := by rw [segsR, if_neg (by show ¬ (7 : Nat) = 1; decide)]; rfl
  have e1 : thR b.length [thSeg d size al] 0 seg1 = (thSeg d size al, 0) := by
    rw [thR, if_pos (show (thSeg d size al).typ = 7 from rfl), if_neg (by show ¬ (1 ≤ 0 ∨ 1048576 < size); omega), if_neg (by show ¬ (b.length < 120 ∨ b.length - 120 < d.length ∨ size < d.length); omega)]
    rfl
  have ho0 : OkV [] := ⟨by simp, fun x hx => by cases hx⟩
  have h60 : Six [] 0 := ⟨ho0, fun x hx => (by cases hx), Nat.le_refl _⟩
  obtain ⟨X, e2, s2, g2, f2⟩ := six_step (a := 1099511562240) (n := 65536) h60 (by decide) (by decide) (by decide) (by decide)
  obtain ⟨W, e3, s3, g3, p3, f3, b1, b2, b3, b4⟩ := lay_six (t := t) (b := b) (s := thSeg d size al) s2 (by decide) (by show size ≤ 1000; omega) hds (by show 120 + d.length ≤ _; exact hlen) (by show al ≤ 1000; omega) h1.1 ht (fun j => by rw [g2]; exact getV_none rfl)
  have hmz : (thSeg d size al).memsz = size := rfl
  have hga : (thSeg d size al).align = al := rfl
  rw [hmz, hga] at g3 f3 b1 b2
  refine ⟨W, ?_, ?_⟩
  · unfold allR
    rw [e0]
    unfold bindR
    rw [if_pos rfl]
    dsimp only
    rw [e1, if_pos rfl, e2, if_pos rfl]
    exact e3
  · have hpages : ∀ i, i < 8 → (findV W ((ptR t (thSeg d size al) + i) / 4096)).isSome = true := fun i hi => (f3 _).2 (.inr (pgs_of (by omega) (by omega)))
    have hblk : ∀ i, i < size → (findV W (((blkR t size al).1 + i) / 4096)).isSome = true := fun i hi => (f3 _).2 (.inl (.inr ⟨by omega, pgs_of (by omega) (by omega)⟩))
    refine ⟨s3.ok, ?_, six_may s3 (by decide) (by omega) hpages, six_may s3 (by decide) (by omega) hpages, fun h => ?_, ?_, ?_⟩
    · unfold bytesR
      rw [if_neg (by omega), Int.toNat_natCast, if_pos (six_may s3 (by decide) (by omega) hblk)]
      refine congrArg (fun z => (z, (0 : Int))) (bytesV_ext (by simp) fun i hi => ?_)
      rw [g3 i hi, List.getElem?_map, List.getElem?_range hi, Option.map_some, Option.getD_some]
      show (if i < d.length then b[120 + i]?.getD 0 else 0) = _
      split
      · next hi2 => exact has_at hh hi2
      · next hi2 => rw [List.getElem?_eq_none (by omega)]; rfl
    · rw [bytesV_ext (l := fixed (ptR t (thSeg d size al)) 8) (length_fixed _ _) (p3 h), numLE_fixP, Nat.mod_eq_of_lt (by omega)]
    · refine six_may s3 (by decide) (by decide) fun i hi => (f3 _).2 (.inl (.inl ((f2 _).2 (.inr ?_))))
      exact pgs_of (by omega) (by omega)
    · cases hmv : mayV W 1099511562239 1 4 with
      | false => rfl
      | true =>
        have h5 := (may_some (mayV_weak hmv) (k := 0) (by decide)).2
        rw [f3, f2] at h5
        unfold pgs at h5
        rcases h5 with (( h5 | h5) | ⟨_, h5⟩) | h5
        · cases h5
        · omega
        · omega
        · omega
end
end Go.Proofs.Ytmpelmjhimalpaa
namespace Go.Proofs.Ytmpelmjhimalpaa
open Go.RowKit Go.Fd
theorem length_addP (V : Vw) (k r : Nat) : (addP V k r).length ≤ V.length + 1 := by
  unfold addP
  split
  · rw [List.length_map]; omega
  · rw [List.length_append, List.length_singleton]; omega
theorem length_mapV (r : Nat) : ∀ (n : Nat) (V : Vw) (k : Nat), (mapV r V k n).length ≤ V.length + n
  | 0, _, _ => Nat.le_refl _
  | n + 1, V, k => by
    rw [mapV]
    have h1 := length_mapV r n (addP V k r) (k + 1)
    have h2 := length_addP V k r
    omega
theorem length_mapR (V : Vw) (a n : Nat) (r : Int) : (mapR V a n r).1.length ≤ V.length + 4097 := by
  unfold mapR
  split
  · dsimp only; omega
  · split
    · dsimp only; omega
    · split
      · dsimp only; omega
      · next h =>
        unfold longV at h
        simp only [Bool.or_eq_true, decide_eq_true_eq] at h
        dsimp only
        have := length_mapV r.toNat ((a + n - 1) / 4096 + 1 - a / 4096) V (a / 4096)
        omega
theorem length_setV : ∀ (l : List UInt8) (V : Vw) (a : Nat), (setV V a l).length = V.length
  | [], _, _ => rfl
  | x :: l, V, a => by rw [setV, length_setV l]; unfold setBV; exact List.length_map _
theorem length_setR (V : Vw) (a : Nat) (l : List UInt8) : (setR V a l).1.length = V.length := by
  unfold setR
  split
  · exact length_setV _ _ _
  · rfl
theorem length_bind {x : Vw × Int} {f : Vw → Vw × Int} {m n : Nat} (hx : x.1.length ≤ m) (hf : ∀ V : Vw, V.length ≤ m → (f V).1.length ≤ n) (hmn : m ≤ n) : (bindR x f).1.length ≤ n := by
  unfold bindR
  split
  · exact hf _ hx
  · exact Nat.le_trans hx hmn
theorem length_segR (V : Vw) (b : List UInt8) (s : SegM) : (segR V b s).1.length ≤ V.length + 4097 := by
  unfold segR
  split
  · dsimp only; omega
  · split
    · dsimp only; omega
    · exact length_bind (length_mapR _ _ _ _) (fun W hW => by rw [length_setR]; exact hW) (Nat.le_refl _)
end Go.Proofs.Ytmpelmjhimalpaa
namespace Go.Proofs.Ytmpelmjhimalpaa
open Go.RowKit Go.Fd
theorem Mem.near {w : World} {base bp : Nat} {F : Nat → Prop} {V : Vw} (h : Mem w base bp F V) : Mem w base bp (fun k => F k ∧ base ≤ k ∧ k < w.heap.size) V := by
  obtain ⟨bm, L, h1, h2, h3⟩ := h
  exact ⟨bm, L, h1, h2, fun k hk => ⟨h3 k hk, foot_base h1 k hk⟩⟩
/-- A slice's part lies in the same block. -/
theorem run_sliceBK {w : World} {v : Value} {l : List UInt8} (hv : Bs w v l) {i j : Int} {k k' : IntKind} (h0 : 0 ≤ i) (h1 : i ≤ j) (h2 : j ≤ l.length) :
    ∃ v', (∀ w', (Instr.sliceAt 22 v (some (.int k i)) (some (.int k' j)) none).run Try.prog w' = .ok v' w') ∧ Bs w v' ((l.drop i.toNat).take (j - i).toNat) ∧ ∀ b, v'.ownBlock = some b → v.ownBlock = some b := by
  obtain ⟨v', hr, hb⟩ := run_sliceB hv (k := k) (k' := k') h0 h1 h2
  refine ⟨v', hr, hb, ?_⟩
  obtain ⟨hl, a, cap, rfl, hcap, h00, hc⟩ := hv
  obtain ⟨ti, z, e1, e2, e3, e4, e5⟩ := TB.info
  have hn : (l.map B).length = l.length := List.length_map _
  have r1 : (Instr.sliceBound (.int k' j) cap .sliceAcap).run Try.prog w = .ok j.toNat w := run_sliceBound' _ _ _ _ (by omega) (by omega)
  have r2 : (Instr.sliceBound (.int k i) j.toNat .sliceB).run Try.prog w = .ok i.toNat w := run_sliceBound' _ _ _ _ (by omega) (by omega)
  have h := hr w
  simp [Instr.sliceAt, Instr.slice, run_underlying TB.ht, Instr.sliceBounds, r1, r2, sizeOf, typeInfo, e1, e3] at h
  subst h
  intro b hb
  cases a with
  | none => simp [Value.ownBlock] at hb
  | some x =>
    split at hb
    · exact hb
    · simp [Value.ownBlock, Addr.add] at hb ⊢
      split at hb <;> exact hb
theorem and7_run {f : Nat} (hf : f < 4294967296) : wrap64 (bits .and .u32 (f : Int) 7) = ((f &&& 7 : Nat) : Int) := by
  have h1 : bits .and .u32 (f : Int) 7 = ((f &&& 7 : Nat) : Int) := by
    have hx : f &&& 7 < 4294967296 := Nat.lt_of_lt_of_le (and7 f) (by decide)
    have h1 : (BitVec.ofInt 32 (f : Int)).toNat = f := by
      rw [BitVec.ofInt_natCast, BitVec.toNat_ofNat]; exact Nat.mod_eq_of_lt (by omega)
    have h2 : (BitVec.ofInt 32 ((7 : Nat) : Int)).toNat = 7 := rfl
    show IntKind.u32.wrap ((BitVec.ofInt 32 (f : Int) &&& BitVec.ofInt 32 ((7 : Nat) : Int)).toNat : Int) = _
    rw [BitVec.toNat_and, h1, h2]
    simp [IntKind.wrap, IntKind.bits, IntKind.signed]
    omega
  have := and7 f
  rw [h1]
  unfold wrap64
  omega
theorem seg_more {w w1 : World} {base : Nat} {F : Nat → Prop} (hb : Below w.heap.size w w1) : ∀ k, more (fun k => F k ∧ base ≤ k ∧ k < w.heap.size) w1 k → more F w k := fun k hk => by
  rcases hk with hk | hk
  · exact .inl hk.1
  · exact .inr (Nat.le_trans hb.size hk)
theorem seg_stirs {w w1 w2 : World} {base : Nat} {F : Nat → Prop} (hb : Below w.heap.size w w1) (hs : Stirs (fun k => F k ∧ base ≤ k ∧ k < w.heap.size) w1 w2) : Stirs F w w2 :=
  (Stirs.of_below hb).trans hs fun _ _ h => h.1
theorem seg_apart {w w1 : World} {base k : Nat} {F : Nat → Prop} (hb : Below w.heap.size w w1) (hk : k < w.heap.size) (hF : ¬ F k) : ¬ more (fun k => F k ∧ base ≤ k ∧ k < w.heap.size) w1 k := fun h =>
  (seg_more hb k h).elim hF fun h => absurd hk (Nat.not_lt.2 h)
set_option maxRecDepth 100000 in
theorem ldUp_any (n t : Nat) (w : World) (hn : n ≤ 1048576) (ht : 1 ≤ t) (ht2 : t ≤ 65536) :
    Calls Try.prog 83 #[.int .u64 n, .int .u64 t] w fun e w' => e = .returned (.int .u64 (upN n t)) ∧ w = w' := by
  have HU : Hid (IntKind.u64.wrap (((n : Int) + t - 1) / t * t) = ((upN n t : Nat) : Int)) := by
    have e : (n : Int) + t - 1 = ((n + t - 1 : Nat) : Int) := by omega
    have hl := upN_le (n := n) ht
    show _ = _
    rw [e, ← Int.natCast_ediv, ← Int.natCast_mul]
    show IntKind.u64.wrap ((upN n t : Nat) : Int) = _
    generalize upN n t = u at *
    rw [IntKind.wrap_u64]
    omega
  go_enter Try.func83, Try.ntmps83
  go_wp2
  go_ret
  exact ⟨by rw [← HU.out]; rfl, rfl⟩
set_option maxRecDepth 100000 in
theorem ldBlock_any (t : Int) (n a : Nat) (w : World) (hn : n ≤ 1048576) (ha : 1 ≤ a) (ha2 : a ≤ 65536) :
    Calls Try.prog 74 #[.int .i64 t, .int .u64 n, .int .u64 a] w fun e w' => e = .returned (.tuple #[.int .u64 ((blkR t n a).1 : Nat), .int .u64 ((blkR t n a).2 : Nat)]) ∧ w = w' := by
  have hl1 := upN_le (n := n) ha
  have hl2 := upN_le (n := 16) ha
  have HU := Lib.hid (fun wx => ldUp_any n a wx hn ha ha2)
  have HU2 := Lib.hid (fun wx => ldUp_any 16 a wx (by decide) ha ha2)
  by_cases h1 : t = 1
  · have HR : Hid (blkR t n a = (549755813888, 549755813888 + upN n a)) := by unfold blkR; rw [Hid, if_pos h1]
    subst h1
    generalize upN n a = u at *
    go_enter Try.func74, Try.ntmps74
    go_wp2_with (go_at_call 83; go_must (refine (HU.out _).mono ?_; rintro e w1 ⟨rfl, rfl⟩))
    go_ret2
    exact ⟨by rw [HR.out]; simp, rfl⟩
  · have b1 : (t == 1) = false := by simpa using h1
    by_cases h2 : t = 2
    · have HR : Hid (blkR t n a = (549755813888 + upN 16 a, 549755813888)) := by unfold blkR; rw [Hid, if_neg h1, if_pos h2]
      subst h2
      generalize upN 16 a = u at *
      go_enter Try.func74, Try.ntmps74
      go_wp2_with (go_at_call 83; go_must (refine (HU2.out _).mono ?_; rintro e w1 ⟨rfl, rfl⟩))
      go_ret2
      exact ⟨by rw [HR.out]; simp, rfl⟩
    · have b2 : (t == 2) = false := by simpa using h2
      have HR : Hid (blkR t n a = (549755813888, 549755813888)) := by unfold blkR; rw [Hid, if_neg h1, if_neg h2]
      go_enter Try.func74, Try.ntmps74
      go_wp2
      go_ret2
      exact ⟨by rw [HR.out]; simp, rfl⟩
set_option maxHeartbeats 1000000 in
set_option maxRecDepth 100000 in
theorem ldSegment_any {base bp : Nat} {F : Nat → Prop} {V : Vw} (w : World) (h : Mem w base bp F V) (hbase : base ≤ w.heap.size) (hL : V.length ≤ 900000) (v : Value) (l : List UInt8) (hv : Bs w v l) (hl : l.length ≤ 1000000000) (hF : ∀ k, v.ownBlock = some k → ¬ F k) (hvb : ∀ k, v.ownBlock = some k → k < w.heap.size) (s : SegM) (hs : s.fits) :
    Calls Try.prog 56 #[ptr bp, v, .agg (encSeg s).toArray] w fun e w' => e = .returned (.int .i64 (segR V l s).2) ∧ Mem w' base bp (more F w) (segR V l s).1 ∧ Stirs F w w' := by
  have HV := Lib.hid hv
  obtain ⟨m, ad, cap, hm, rfl, hmc, _⟩ := hv.shape
  have hm9 : m ≤ 1000000000 := by have := hm.out; omega
  have HM := Lib.hid h.near
  obtain ⟨f1, f2, f3, f4, f5, f6, f7⟩ := hs
  clear hv h
  by_cases b1 : m < s.off
  · have HR : Hid (segR V l s = (V, 5)) := by
      have := hm.out
      unfold segR
      rw [Hid, if_pos (by omega)]
    go_enter Try.func56, Try.ntmps56
    go_wp2_with ((with_reducible show wpList _ _ _ (⟨_, .box _ _, _, _, _, _⟩ :: _) _ _); go_must (refine wpList_box rfl ?_; intro w1 hx1 hb1 hs1; obtain ⟨c0, c1, c2, c3, c4, c5, c6⟩ := seg_box (x := s) hx1))
    go_ret
    exact ⟨by rw [HR.out]; rfl, by rw [HR.out]; exact (HM.out.mono hb1).weak fun k hk => .inl hk.1, Stirs.of_below hb1⟩
  · skip
    by_cases b2 : (m : Int) - s.off < s.filesz
    · have HR : Hid (segR V l s = (V, 5)) := by
        have := hm.out
        unfold segR
        rw [Hid, if_pos (by omega)]
      go_enter Try.func56, Try.ntmps56
      go_wp2_with ((with_reducible show wpList _ _ _ (⟨_, .box _ _, _, _, _, _⟩ :: _) _ _); go_must (refine wpList_box rfl ?_; intro w1 hx1 hb1 hs1; obtain ⟨c0, c1, c2, c3, c4, c5, c6⟩ := seg_box (x := s) hx1))
      go_ret
      exact ⟨by rw [HR.out]; rfl, by rw [HR.out]; exact (HM.out.mono hb1).weak fun k hk => .inl hk.1, Stirs.of_below hb1⟩
    · skip
      by_cases b3 : s.memsz < s.filesz
      · have HR : Hid (segR V l s = (V, 5)) := by
          have := hm.out
          unfold segR
          rw [Hid, if_pos (by omega)]
        go_enter Try.func56, Try.ntmps56
        go_wp2_with ((with_reducible show wpList _ _ _ (⟨_, .box _ _, _, _, _, _⟩ :: _) _ _); go_must (refine wpList_box rfl ?_; intro w1 hx1 hb1 hs1; obtain ⟨c0, c1, c2, c3, c4, c5, c6⟩ := seg_box (x := s) hx1))
        go_ret
        exact ⟨by rw [HR.out]; rfl, by rw [HR.out]; exact (HM.out.mono hb1).weak fun k hk => .inl hk.1, Stirs.of_below hb1⟩
      · skip
        by_cases b4 : 274877906944 < s.vaddr
        · have HR : Hid (segR V l s = (V, 5)) := by
            have := hm.out
            unfold segR
            rw [Hid, if_pos (by omega)]
          go_enter Try.func56, Try.ntmps56
          go_wp2_with ((with_reducible show wpList _ _ _ (⟨_, .box _ _, _, _, _, _⟩ :: _) _ _); go_must (refine wpList_box rfl ?_; intro w1 hx1 hb1 hs1; obtain ⟨c0, c1, c2, c3, c4, c5, c6⟩ := seg_box (x := s) hx1))
          go_ret
          exact ⟨by rw [HR.out]; rfl, by rw [HR.out]; exact (HM.out.mono hb1).weak fun k hk => .inl hk.1, Stirs.of_below hb1⟩
        · skip
          by_cases b5 : (274877906944 : Int) - s.vaddr < s.memsz
          · have HR : Hid (segR V l s = (V, 5)) := by
              have := hm.out
              unfold segR
              rw [Hid, if_pos (by omega)]
            go_enter Try.func56, Try.ntmps56
            go_wp2_with ((with_reducible show wpList _ _ _ (⟨_, .box _ _, _, _, _, _⟩ :: _) _ _); go_must (refine wpList_box rfl ?_; intro w1 hx1 hb1 hs1; obtain ⟨c0, c1, c2, c3, c4, c5, c6⟩ := seg_box (x := s) hx1))
            go_ret
            exact ⟨by rw [HR.out]; rfl, by rw [HR.out]; exact (HM.out.mono hb1).weak fun k hk => .inl hk.1, Stirs.of_below hb1⟩
          · skip
            by_cases h0 : s.memsz = 0
            · have HR : Hid (segR V l s = (V, 0)) := by
                have := hm.out
                unfold segR
                rw [Hid, if_neg (by omega), if_pos h0]
              go_enter Try.func56, Try.ntmps56
              go_wp2_with ((with_reducible show wpList _ _ _ (⟨_, .box _ _, _, _, _, _⟩ :: _) _ _); go_must (refine wpList_box rfl ?_; intro w1 hx1 hb1 hs1; obtain ⟨c0, c1, c2, c3, c4, c5, c6⟩ := seg_box (x := s) hx1))
              go_ret
              exact ⟨by rw [HR.out]; rfl, by rw [HR.out]; exact (HM.out.mono hb1).weak fun k hk => .inl hk.1, Stirs.of_below hb1⟩
            · have HR : Hid (segR V l s = bindR (mapR V s.vaddr s.memsz ((s.flags &&& 7 : Nat) : Int)) fun V1 => setR V1 s.vaddr ((l.drop s.off).take s.filesz)) := by
                have := hm.out
                unfold segR
                rw [Hid, if_neg (by omega), if_neg h0]
              have hfl := and7 s.flags
              have HAND : Hid (wrap64 (bits .and .u32 (s.flags : Int) 7) = ((s.flags &&& 7 : Nat) : Int)) := and7_run f2
              have HR1 : Hid ((mapR V s.vaddr s.memsz ((s.flags &&& 7 : Nat) : Int)).2 ≠ 0 → segR V l s = mapR V s.vaddr s.memsz ((s.flags &&& 7 : Nat) : Int)) := fun h => by rw [HR.out]; unfold bindR; rw [if_neg h]
              have HR2 : Hid ((mapR V s.vaddr s.memsz ((s.flags &&& 7 : Nat) : Int)).2 = 0 → segR V l s = setR (mapR V s.vaddr s.memsz ((s.flags &&& 7 : Nat) : Int)).1 s.vaddr ((l.drop s.off).take s.filesz)) := fun h => by rw [HR.out]; unfold bindR; rw [if_pos h]
              have HMAP := Lib.hid (fun (wx : World) (hb : Below w.heap.size w wx) => map_mem wx (HM.out.mono hb) (Nat.le_trans hbase hb.size) (by omega) s.vaddr s.memsz ((s.flags &&& 7 : Nat) : Int) f4 f6)
              generalize mapR V s.vaddr s.memsz ((s.flags &&& 7 : Nat) : Int) = mr at *
              obtain ⟨V1, r1⟩ := mr
              by_cases hr1 : r1 = 0
              · subst hr1
                have HR3 := Lib.hid (HR2.out rfl)
                obtain ⟨v', hrun, hbs, hown⟩ := run_sliceBK HV.out (i := (s.off : Int)) (j := (s.off : Int) + s.filesz) (k := .u64) (k' := .u64) (by omega) (by omega) (by have := hm.out; omega)
                rw [show ((s.off : Int) + s.filesz - s.off).toNat = s.filesz by omega, Int.toNat_natCast] at hbs
                have HRUN := Lib.hid hrun
                have HBS := Lib.hid hbs
                have HOWN := Lib.hid hown
                have HLN := Lib.hid (show ((l.drop s.off).take s.filesz).length ≤ 1000000000 by rw [List.length_take, List.length_drop]; omega)
                clear hrun hbs hown HR1 HR2 HR
                generalize (l.drop s.off).take s.filesz = d at *
                go_enter Try.func56, Try.ntmps56
                go_wp2_with (first
                  | ((with_reducible show wpList _ _ _ (⟨_, .box _ _, _, _, _, _⟩ :: _) _ _); go_must (refine wpList_box rfl ?_; intro w1 hx1 hb1 hs1; obtain ⟨c0, c1, c2, c3, c4, c5, c6⟩ := seg_box (x := s) hx1; have HB1 := Lib.hid hb1; have HX1 := Lib.hid hx1; clear hx1 hb1))
                  | (go_at_call 32; rw [HAND.out]; go_must (refine (HMAP.out _ HB1.out).mono ?_; rintro e w2 ⟨rfl, hm2, hs2⟩; have HM2 := Lib.hid hm2; have HS2 := Lib.hid hs2; have hk2 := hs2.kept HX1.out (fun h => absurd h.2.2 (Nat.lt_irrefl _)); obtain ⟨d0, d1, d2, d3, d4, d5, d6⟩ := seg_box (x := s) hk2; clear hm2 hs2 hk2 c0 c1 c2 c3 c4 c5 c6)))
                refine wp_region_walk 12 [(11, .is v')] (by kernel_rfl) (by kernel_rfl) ?_
                simp only [List.take_succ_cons, List.take_zero, List.drop_succ_cons, List.drop_zero]
                try go_frame
                have l0 := block_lt d0
                have hAB := fun (x : Above w2) (b k : Nat) (h : b < w2.heap.size) => Above.cell x b k h
                repeat (first
                  | (refine walk_quiet rfl rfl rfl ?_; intro K hK; go_big_quiet_op; go_big_quiet_on)
                  | (refine walk_skip rfl ?_; go_frame)
                  | (refine walk_is rfl rfl (fun wx hwx _ => WpYld.val (exec_slice2 HRUN.out rfl rfl rfl) ⟨(), rfl, trivial⟩ (Below.refl _ _)) ?_; go_frame))
                refine walk_nil ?_
                intro wz hbz hF'
                clear hF' hAB l0 d0 d1 d2 d3 d4 d5 d6
                have HZ := Lib.hid hbz
                have HBS2 := Lib.hid (Reads.stirs (HBS.out.mono HB1.out) HS2.out (fun k hk h => hF k (HOWN.out k hk) h.1))
                clear hbz
                have HSET := Lib.hid (set_mem wz (HM2.out.mono HZ.out) v' d (HBS2.out.mono HZ.out) HLN.out (fun k hk h => seg_apart HB1.out (hvb k (HOWN.out k hk)) (hF k (HOWN.out k hk)) h) s.vaddr f4)
                go_wp2_with (go_at_call 35; go_must (refine HSET.out.mono ?_; rintro e w3 ⟨rfl, hm3, hs3⟩; have HM3 := Lib.hid hm3; have HS3 := Lib.hid hs3; clear hm3 hs3))
                go_ret
                exact ⟨by rw [HR3.out]; rfl, by rw [HR3.out]; exact HM3.out.weak (seg_more HB1.out), (seg_stirs HB1.out HS2.out).trans ((Stirs.of_below HZ.out).trans HS3.out fun _ _ h => h) fun i hi h => (seg_more HB1.out i h).elim id fun h => absurd hi (Nat.not_lt.2 h)⟩
              · have HR3 := Lib.hid (HR1.out hr1)
                have hb1' : (r1 != 0) = true := by simpa using hr1
                go_enter Try.func56, Try.ntmps56
                go_wp2_with (first
                  | ((with_reducible show wpList _ _ _ (⟨_, .box _ _, _, _, _, _⟩ :: _) _ _); go_must (refine wpList_box rfl ?_; intro w1 hx1 hb1 hs1; obtain ⟨c0, c1, c2, c3, c4, c5, c6⟩ := seg_box (x := s) hx1; have HB1 := Lib.hid hb1; have HX1 := Lib.hid hx1; clear hx1 hb1))
                  | (go_at_call 32; rw [HAND.out]; go_must (refine (HMAP.out _ HB1.out).mono ?_; rintro e w2 ⟨rfl, hm2, hs2⟩; have HM2 := Lib.hid hm2; have HS2 := Lib.hid hs2; clear hm2 hs2 c0 c1 c2 c3 c4 c5 c6)))
                go_ret
                exact ⟨by rw [HR3.out]; rfl, by rw [HR3.out]; exact HM2.out.weak (seg_more HB1.out), seg_stirs HB1.out HS2.out⟩
end Go.Proofs.Ytmpelmjhimalpaa
namespace Go.Proofs.Ytmpelmjhimalpaa
open Go.RowKit Go.Fd
theorem more_step {F FA : Nat → Prop} {w wA : World} (hFA : ∀ k, FA k → more F w k) (hs : w.heap.size ≤ wA.heap.size) : ∀ k, more FA wA k → more F w k := fun k hk => hk.elim (hFA k) fun h => .inr (Nat.le_trans hs h)
theorem stirs_step {F FA : Nat → Prop} {w wA wB : World} (h : Stirs F w wA) (k : Stirs FA wA wB) (hFA : ∀ k, FA k → more F w k) : Stirs F w wB :=
  h.trans k fun i hi h => (hFA i h).elim id fun h => absurd hi (Nat.not_lt.2 h)
theorem lay_ok {V V1 : Vw} {t : Int} {b : List UInt8} {s : SegM} (h : blockR V (blkR t s.memsz (max s.align 1)).1 b s = (V1, 0)) : layR V t b s = pointR V1 t (ptR t s) := by
  unfold layR
  rw [h]
  rfl
theorem lay_no {V V1 : Vw} {r : Int} {t : Int} {b : List UInt8} {s : SegM} (hr : r ≠ 0) (h : blockR V (blkR t s.memsz (max s.align 1)).1 b s = (V1, r)) : layR V t b s = (V1, r) := by
  unfold layR
  rw [h]
  unfold bindR
  rw [if_neg hr]
theorem point_no {V V1 : Vw} {r : Int} {t : Int} {p : Nat} (hr : r ≠ 0) (h : mapR V p 8 6 = (V1, r)) : pointR V t p = (V1, r) := by
  unfold pointR
  rw [h]
  unfold bindR
  rw [if_neg hr]
theorem point_1 {V V1 : Vw} {p : Nat} (h : mapR V p 8 6 = (V1, 0)) : pointR V 1 p = storeR V1 p 8 p := by
  unfold pointR
  rw [h]
  rfl
theorem point_2 {V V1 : Vw} {t : Int} {p : Nat} (ht : t ≠ 1) (h : mapR V p 8 6 = (V1, 0)) : pointR V t p = (V1, 0) := by
  unfold pointR
  rw [h]
  unfold bindR
  rw [if_pos rfl]
  dsimp only
  rw [if_neg ht]
set_option maxHeartbeats 2000000 in
set_option maxRecDepth 100000 in
theorem ldLay_any {base bp : Nat} {F : Nat → Prop} {V : Vw} (t : Int) (w : World) (h : Mem w base bp F V) (hbase : base ≤ w.heap.size) (hL : V.length ≤ 800000) (v : Value) (l : List UInt8) (hv : Bs w v l) (hl : l.length ≤ 1000000000) (hF : ∀ k, v.ownBlock = some k → ¬ F k) (hvb : ∀ k, v.ownBlock = some k → k < w.heap.size) (s : SegM) (hs : s.fits)
    (hal1 : 1 ≤ s.align) (hal : s.align ≤ 65536) (hms : s.memsz ≤ 1048576) (hfl : s.filesz ≤ s.memsz) (hlen : s.off + s.filesz ≤ l.length) :
    Calls Try.prog 58 #[ptr bp, .int .i64 t, v, .agg (encSeg s).toArray] w fun e w' => (∃ p : Nat, e = .returned (.tuple #[.int .u64 p, .int .i64 (layR V t l s).2]) ∧ ((layR V t l s).2 = 0 → p = ptR t s)) ∧ Mem w' base bp (more F w) (layR V t l s).1 ∧ Stirs F w w' := by
  have HV := Lib.hid hv
  obtain ⟨m, ad, cap, hm, rfl, hmc, _⟩ := hv.shape
  have hm9 : m ≤ 1000000000 := by have := hm.out; omega
  have HM := Lib.hid h.near
  obtain ⟨f1, f2, f3, f4, f5, f6, f7⟩ := hs
  have hmax : max s.align 1 = s.align := Nat.max_eq_left hal1
  have HMX : Hid (max (s.align : Int) 1 = (s.align : Int)) := Int.max_eq_left (by omega)
  have HBK := Lib.hid (fun (wx : World) => ldBlock_any t s.memsz s.align wx hms hal1 hal)
  clear hv h
  by_cases h0 : s.memsz = 0
  · have e0 : ((s.memsz : Int) == 0) = true := by rw [h0]; rfl
    have HP : Hid (ptR t s = 549755813888) := by unfold ptR; rw [Hid, if_pos h0]
    have HLY : Hid (layR V t l s = pointR V t 549755813888) := by
      rw [Hid, lay_ok (V1 := V) (by unfold blockR; rw [if_pos h0]), HP.out]
    clear h0
    have HMAP := Lib.hid (fun (wx : World) (hb : Below w.heap.size w wx) => map_mem wx (HM.out.mono hb) (Nat.le_trans hbase hb.size) (by omega) 549755813888 8 6 (by decide) (by decide))
    generalize hmr : mapR V 549755813888 8 6 = mr at *
    have HMR := Lib.hid hmr
    clear hmr
    obtain ⟨V3, r3⟩ := mr
    by_cases hr3 : r3 = 0
    · subst hr3
      by_cases ht : t = 1
      · subst ht
        have HLZ := Lib.hid (HLY.out.trans (point_1 HMR.out))
        go_enter Try.func58, Try.ntmps58
        go_wp2_with (first
          | ((with_reducible show wpList _ _ _ (⟨_, .box _ _, _, _, _, _⟩ :: _) _ _); go_must (refine wpList_box rfl ?_; intro w1 hx1 hb1 hs1; have HX1 := Lib.hid hx1; have HB1 := Lib.hid hb1; obtain ⟨c0, c1, c2, c3, c4, c5, c6⟩ := seg_box (x := s) hx1; clear hx1 hb1))
          | (go_at_call 74; rw [HMX.out]; go_must (refine (HBK.out _).mono ?_; rintro e w9 ⟨rfl, rfl⟩))
          | (go_at_call 32; go_must (refine (HMAP.out _ HB1.out).mono ?_; rintro e w2 ⟨rfl, hm2, hs2⟩; have HM2 := Lib.hid hm2; have HS2 := Lib.hid hs2; clear hm2 hs2 c0 c1 c2 c3 c4 c5 c6))
          | (go_at_call 11; go_must (refine (store_mem _ HM2.out 549755813888 (by decide) 8 549755813888).mono ?_; rintro e w3 ⟨rfl, hm3, hs3⟩; have HM3 := Lib.hid hm3; have HS3 := Lib.hid hs3; clear hm3 hs3)))
        go_ret2
        exact ⟨⟨549755813888, by rw [HLZ.out]; rfl, fun _ => HP.out.symm⟩, by rw [HLZ.out]; exact HM3.out.weak (seg_more HB1.out), stirs_step (seg_stirs HB1.out HS2.out) HS3.out (seg_more HB1.out)⟩
      · have HLZ := Lib.hid (HLY.out.trans (point_2 ht HMR.out))
        have et : (t != 1) = true := by simpa using ht
        go_enter Try.func58, Try.ntmps58
        go_wp2_with (first
          | ((with_reducible show wpList _ _ _ (⟨_, .box _ _, _, _, _, _⟩ :: _) _ _); go_must (refine wpList_box rfl ?_; intro w1 hx1 hb1 hs1; have HX1 := Lib.hid hx1; have HB1 := Lib.hid hb1; obtain ⟨c0, c1, c2, c3, c4, c5, c6⟩ := seg_box (x := s) hx1; clear hx1 hb1))
          | (go_at_call 74; rw [HMX.out]; go_must (refine (HBK.out _).mono ?_; rintro e w9 ⟨rfl, rfl⟩))
          | (go_at_call 32; go_must (refine (HMAP.out _ HB1.out).mono ?_; rintro e w2 ⟨rfl, hm2, hs2⟩; have HM2 := Lib.hid hm2; have HS2 := Lib.hid hs2; clear hm2 hs2 c0 c1 c2 c3 c4 c5 c6)))
        go_ret2
        exact ⟨⟨549755813888, by rw [HLZ.out]; rfl, fun _ => HP.out.symm⟩, by rw [HLZ.out]; exact HM2.out.weak (seg_more HB1.out), seg_stirs HB1.out HS2.out⟩
    · have HLZ := Lib.hid (HLY.out.trans (point_no hr3 HMR.out))
      have e3 : (r3 != 0) = true := by simpa using hr3
      go_enter Try.func58, Try.ntmps58
      go_wp2_with (first
        | ((with_reducible show wpList _ _ _ (⟨_, .box _ _, _, _, _, _⟩ :: _) _ _); go_must (refine wpList_box rfl ?_; intro w1 hx1 hb1 hs1; have HX1 := Lib.hid hx1; have HB1 := Lib.hid hb1; obtain ⟨c0, c1, c2, c3, c4, c5, c6⟩ := seg_box (x := s) hx1; clear hx1 hb1))
        | (go_at_call 74; rw [HMX.out]; go_must (refine (HBK.out _).mono ?_; rintro e w9 ⟨rfl, rfl⟩))
        | (go_at_call 32; go_must (refine (HMAP.out _ HB1.out).mono ?_; rintro e w2 ⟨rfl, hm2, hs2⟩; have HM2 := Lib.hid hm2; have HS2 := Lib.hid hs2; clear hm2 hs2 c0 c1 c2 c3 c4 c5 c6)))
      go_ret2
      exact ⟨⟨0, by rw [HLZ.out]; rfl, fun h => absurd (by rw [HLZ.out] at h; exact h) hr3⟩, by rw [HLZ.out]; exact HM2.out.weak (seg_more HB1.out), seg_stirs HB1.out HS2.out⟩
  · have e0 : ((s.memsz : Int) == 0) = false := by simpa using h0
    have hab : (blkR t s.memsz s.align).1 < 18446744073709551616 ∧ (blkR t s.memsz s.align).2 + 8 < 18446744073709551616 := by
      have hu1 := upN_le (n := s.memsz) hal1
      have hu2 := upN_le (n := 16) hal1
      unfold blkR
      split
      · dsimp only; omega
      · split
        · dsimp only; omega
        · dsimp only; omega
    have HP : Hid (ptR t s = (blkR t s.memsz s.align).2) := by unfold ptR; rw [Hid, if_neg h0, hmax]
    have HBL : Hid (blockR V (blkR t s.memsz (max s.align 1)).1 l s = bindR (mapR V (blkR t s.memsz s.align).1 s.memsz 6) fun V1 => setR V1 (blkR t s.memsz s.align).1 ((l.drop s.off).take s.filesz)) := by
      unfold blockR
      rw [Hid, if_neg h0, hmax]
    have HLO := Lib.hid (fun V1 => lay_ok (V := V) (V1 := V1) (t := t) (b := l) (s := s))
    have HLN := Lib.hid (fun V1 r => lay_no (V := V) (V1 := V1) (r := r) (t := t) (b := l) (s := s))
    rw [HP.out] at HLO
    rw [HBL.out] at HLO HLN
    have HMS := Lib.hid (Nat.pos_of_ne_zero h0)
    clear h0 HBL
    generalize blkR t s.memsz s.align = bk at *
    obtain ⟨a, p⟩ := bk
    dsimp only at hab HP HLO HLN HBK
    have ha := hab.1
    have hp := hab.2
    have HMAP := Lib.hid (fun (wx : World) (hb : Below w.heap.size w wx) => map_mem wx (HM.out.mono hb) (Nat.le_trans hbase hb.size) (by omega) a s.memsz 6 ha f6)
    have hL1 := length_mapR V a s.memsz 6
    generalize mapR V a s.memsz 6 = m1 at *
    obtain ⟨V1, r1⟩ := m1
    dsimp only at hL1
    by_cases hr1 : r1 = 0
    · subst hr1
      have HLO1 : Hid (∀ V2, setR V1 a ((l.drop s.off).take s.filesz) = (V2, 0) → layR V t l s = pointR V2 t p) := fun V2 h2 => HLO.out V2 (by unfold bindR; rw [if_pos rfl]; exact h2)
      have HLN1 : Hid (∀ V2 r, r ≠ 0 → setR V1 a ((l.drop s.off).take s.filesz) = (V2, r) → layR V t l s = (V2, r)) := fun V2 r hr h2 => HLN.out V2 r hr (by unfold bindR; rw [if_pos rfl]; exact h2)
      clear HLO HLN
      obtain ⟨v', hrun, hbs, hown⟩ := run_sliceBK HV.out (i := (s.off : Int)) (j := (s.off : Int) + s.filesz) (k := .u64) (k' := .u64) (by omega) (by omega) (by omega)
      rw [show ((s.off : Int) + s.filesz - s.off).toNat = s.filesz by omega, Int.toNat_natCast] at hbs
      have HRUN := Lib.hid hrun
      have HBS := Lib.hid hbs
      have HOWN := Lib.hid hown
      have HDN := Lib.hid (show ((l.drop s.off).take s.filesz).length ≤ 1000000000 by rw [List.length_take, List.length_drop]; omega)
      clear hrun hbs hown
      have hml : s.off + s.filesz ≤ m := by have := hm.out; omega
      generalize (l.drop s.off).take s.filesz = d at *
      have hL2 := length_setR V1 a d
      have HSE := Lib.hid (fun (wx : World) (FX : Nat → Prop) (hx : Mem wx base bp FX V1) (hbx : Bs wx v' d) (hfx : ∀ k, v'.ownBlock = some k → ¬ FX k) => set_mem wx hx v' d hbx HDN.out hfx a ha)
      generalize setR V1 a d = m2 at *
      obtain ⟨V2, r2⟩ := m2
      dsimp only at hL2
      by_cases hr2 : r2 = 0
      · subst hr2
        have HLY := Lib.hid (HLO1.out V2 rfl)
        have HMP := Lib.hid (fun (wx : World) (FX : Nat → Prop) (hx : Mem wx base bp FX V2) (hbx : base ≤ wx.heap.size) => map_mem wx hx hbx (by omega) p 8 6 (by omega) (by decide))
        clear HLO1 HLN1
        generalize hmr : mapR V2 p 8 6 = mr at *
        have HMR := Lib.hid hmr
        clear hmr
        obtain ⟨V3, r3⟩ := mr
        by_cases hr3 : r3 = 0
        · subst hr3
          by_cases ht : t = 1
          · subst ht
            have HLZ := Lib.hid (HLY.out.trans (point_1 HMR.out))
            go_enter Try.func58, Try.ntmps58
            go_wp2_with (first
              | ((with_reducible show wpList _ _ _ (⟨_, .box _ _, _, _, _, _⟩ :: _) _ _); go_must (refine wpList_box rfl ?_; intro w1 hx1 hb1 hs1; have HX1 := Lib.hid hx1; have HB1 := Lib.hid hb1; obtain ⟨c0, c1, c2, c3, c4, c5, c6⟩ := seg_box (x := s) hx1; clear hx1 hb1))
              | (go_at_call 74; rw [HMX.out]; go_must (refine (HBK.out _).mono ?_; rintro e w9 ⟨rfl, rfl⟩))
              | (first | (go_at_call 32; have hq := HM3; clear hq; go_must (refine (HMP.out _ _ HM3.out (Nat.le_trans hbase HSA.out.size)).mono ?_; rintro e w4 ⟨rfl, hm4, hs4⟩; have HM4 := Lib.hid hm4; have HS4 := Lib.hid (stirs_step HSA.out hs4 (seg_more HB1.out)); clear hm4 hs4)) | (go_at_call 32; go_must (refine (HMAP.out _ HB1.out).mono ?_; rintro e w2 ⟨rfl, hm2, hs2⟩; have HM2 := Lib.hid hm2; have HS2 := Lib.hid hs2; have hk2 := hs2.kept HX1.out (fun h => absurd h.2.2 (Nat.lt_irrefl _)); clear c0 c1 c2 c3 c4 c5 c6; obtain ⟨c0, c1, c2, c3, c4, c5, c6⟩ := seg_box (x := s) hk2; clear hm2 hs2 hk2)))
              | ((with_reducible show wpList _ _ _ (⟨some 46, _, _, _, _, _⟩ :: _) _ _); go_must (refine wpList_val rfl (exec_slice2 HRUN.out rfl rfl rfl) ?_))
              | (go_at_call 35; go_must (refine (HSE.out _ _ HM2.out (Reads.stirs (HBS.out.mono HB1.out) HS2.out (fun k hk h => hF k (HOWN.out k hk) h.1)) (fun k hk h => seg_apart HB1.out (hvb k (HOWN.out k hk)) (hF k (HOWN.out k hk)) h)).mono ?_; rintro e w3 ⟨rfl, hm3, hs3⟩; have HM3 := Lib.hid hm3; have HSA := Lib.hid (stirs_step (seg_stirs HB1.out HS2.out) hs3 (seg_more HB1.out)); clear hm3 hs3 c0 c1 c2 c3 c4 c5 c6))
              | (go_at_call 11; go_must (refine (store_mem _ HM4.out p (by omega) 8 p).mono ?_; rintro e w5 ⟨rfl, hm5, hs5⟩; have HM5 := Lib.hid hm5; have HS5 := Lib.hid (stirs_step HS4.out hs5 (more_step (seg_more HB1.out) HSA.out.size)); clear hm5 hs5)))
            go_ret2
            exact ⟨⟨p, by rw [HLZ.out]; rfl, fun _ => HP.out.symm⟩, by rw [HLZ.out]; exact HM5.out.weak (more_step (seg_more HB1.out) HSA.out.size), HS5.out⟩
          · have HLZ := Lib.hid (HLY.out.trans (point_2 ht HMR.out))
            have et : (t != 1) = true := by simpa using ht
            go_enter Try.func58, Try.ntmps58
            go_wp2_with (first
              | ((with_reducible show wpList _ _ _ (⟨_, .box _ _, _, _, _, _⟩ :: _) _ _); go_must (refine wpList_box rfl ?_; intro w1 hx1 hb1 hs1; have HX1 := Lib.hid hx1; have HB1 := Lib.hid hb1; obtain ⟨c0, c1, c2, c3, c4, c5, c6⟩ := seg_box (x := s) hx1; clear hx1 hb1))
              | (go_at_call 74; rw [HMX.out]; go_must (refine (HBK.out _).mono ?_; rintro e w9 ⟨rfl, rfl⟩))
              | (first | (go_at_call 32; have hq := HM3; clear hq; go_must (refine (HMP.out _ _ HM3.out (Nat.le_trans hbase HSA.out.size)).mono ?_; rintro e w4 ⟨rfl, hm4, hs4⟩; have HM4 := Lib.hid hm4; have HS4 := Lib.hid (stirs_step HSA.out hs4 (seg_more HB1.out)); clear hm4 hs4)) | (go_at_call 32; go_must (refine (HMAP.out _ HB1.out).mono ?_; rintro e w2 ⟨rfl, hm2, hs2⟩; have HM2 := Lib.hid hm2; have HS2 := Lib.hid hs2; have hk2 := hs2.kept HX1.out (fun h => absurd h.2.2 (Nat.lt_irrefl _)); clear c0 c1 c2 c3 c4 c5 c6; obtain ⟨c0, c1, c2, c3, c4, c5, c6⟩ := seg_box (x := s) hk2; clear hm2 hs2 hk2)))
              | ((with_reducible show wpList _ _ _ (⟨some 46, _, _, _, _, _⟩ :: _) _ _); go_must (refine wpList_val rfl (exec_slice2 HRUN.out rfl rfl rfl) ?_))
              | (go_at_call 35; go_must (refine (HSE.out _ _ HM2.out (Reads.stirs (HBS.out.mono HB1.out) HS2.out (fun k hk h => hF k (HOWN.out k hk) h.1)) (fun k hk h => seg_apart HB1.out (hvb k (HOWN.out k hk)) (hF k (HOWN.out k hk)) h)).mono ?_; rintro e w3 ⟨rfl, hm3, hs3⟩; have HM3 := Lib.hid hm3; have HSA := Lib.hid (stirs_step (seg_stirs HB1.out HS2.out) hs3 (seg_more HB1.out)); clear hm3 hs3 c0 c1 c2 c3 c4 c5 c6)))
            go_ret2
            exact ⟨⟨p, by rw [HLZ.out]; rfl, fun _ => HP.out.symm⟩, by rw [HLZ.out]; exact HM4.out.weak (more_step (seg_more HB1.out) HSA.out.size), HS4.out⟩
        · have HLZ := Lib.hid (HLY.out.trans (point_no hr3 HMR.out))
          have e3 : (r3 != 0) = true := by simpa using hr3
          go_enter Try.func58, Try.ntmps58
          go_wp2_with (first
            | ((with_reducible show wpList _ _ _ (⟨_, .box _ _, _, _, _, _⟩ :: _) _ _); go_must (refine wpList_box rfl ?_; intro w1 hx1 hb1 hs1; have HX1 := Lib.hid hx1; have HB1 := Lib.hid hb1; obtain ⟨c0, c1, c2, c3, c4, c5, c6⟩ := seg_box (x := s) hx1; clear hx1 hb1))
            | (go_at_call 74; rw [HMX.out]; go_must (refine (HBK.out _).mono ?_; rintro e w9 ⟨rfl, rfl⟩))
            | (first | (go_at_call 32; have hq := HM3; clear hq; go_must (refine (HMP.out _ _ HM3.out (Nat.le_trans hbase HSA.out.size)).mono ?_; rintro e w4 ⟨rfl, hm4, hs4⟩; have HM4 := Lib.hid hm4; have HS4 := Lib.hid (stirs_step HSA.out hs4 (seg_more HB1.out)); clear hm4 hs4)) | (go_at_call 32; go_must (refine (HMAP.out _ HB1.out).mono ?_; rintro e w2 ⟨rfl, hm2, hs2⟩; have HM2 := Lib.hid hm2; have HS2 := Lib.hid hs2; have hk2 := hs2.kept HX1.out (fun h => absurd h.2.2 (Nat.lt_irrefl _)); clear c0 c1 c2 c3 c4 c5 c6; obtain ⟨c0, c1, c2, c3, c4, c5, c6⟩ := seg_box (x := s) hk2; clear hm2 hs2 hk2)))
            | ((with_reducible show wpList _ _ _ (⟨some 46, _, _, _, _, _⟩ :: _) _ _); go_must (refine wpList_val rfl (exec_slice2 HRUN.out rfl rfl rfl) ?_))
            | (go_at_call 35; go_must (refine (HSE.out _ _ HM2.out (Reads.stirs (HBS.out.mono HB1.out) HS2.out (fun k hk h => hF k (HOWN.out k hk) h.1)) (fun k hk h => seg_apart HB1.out (hvb k (HOWN.out k hk)) (hF k (HOWN.out k hk)) h)).mono ?_; rintro e w3 ⟨rfl, hm3, hs3⟩; have HM3 := Lib.hid hm3; have HSA := Lib.hid (stirs_step (seg_stirs HB1.out HS2.out) hs3 (seg_more HB1.out)); clear hm3 hs3 c0 c1 c2 c3 c4 c5 c6)))
          go_ret2
          exact ⟨⟨0, by rw [HLZ.out]; rfl, fun h => absurd (by rw [HLZ.out] at h; exact h) hr3⟩, by rw [HLZ.out]; exact HM4.out.weak (more_step (seg_more HB1.out) HSA.out.size), HS4.out⟩
      · have HLZ := Lib.hid (HLN1.out V2 r2 hr2 rfl)
        have e2 : (r2 != 0) = true := by simpa using hr2
        go_enter Try.func58, Try.ntmps58
        go_wp2_with (first
          | ((with_reducible show wpList _ _ _ (⟨_, .box _ _, _, _, _, _⟩ :: _) _ _); go_must (refine wpList_box rfl ?_; intro w1 hx1 hb1 hs1; have HX1 := Lib.hid hx1; have HB1 := Lib.hid hb1; obtain ⟨c0, c1, c2, c3, c4, c5, c6⟩ := seg_box (x := s) hx1; clear hx1 hb1))
          | (go_at_call 74; rw [HMX.out]; go_must (refine (HBK.out _).mono ?_; rintro e w9 ⟨rfl, rfl⟩))
          | (go_at_call 32; go_must (refine (HMAP.out _ HB1.out).mono ?_; rintro e w2 ⟨rfl, hm2, hs2⟩; have HM2 := Lib.hid hm2; have HS2 := Lib.hid hs2; have hk2 := hs2.kept HX1.out (fun h => absurd h.2.2 (Nat.lt_irrefl _)); clear c0 c1 c2 c3 c4 c5 c6; obtain ⟨c0, c1, c2, c3, c4, c5, c6⟩ := seg_box (x := s) hk2; clear hm2 hs2 hk2))
          | ((with_reducible show wpList _ _ _ (⟨some 46, _, _, _, _, _⟩ :: _) _ _); go_must (refine wpList_val rfl (exec_slice2 HRUN.out rfl rfl rfl) ?_))
          | (go_at_call 35; go_must (refine (HSE.out _ _ HM2.out (Reads.stirs (HBS.out.mono HB1.out) HS2.out (fun k hk h => hF k (HOWN.out k hk) h.1)) (fun k hk h => seg_apart HB1.out (hvb k (HOWN.out k hk)) (hF k (HOWN.out k hk)) h)).mono ?_; rintro e w3 ⟨rfl, hm3, hs3⟩; have HM3 := Lib.hid hm3; have HSA := Lib.hid (stirs_step (seg_stirs HB1.out HS2.out) hs3 (seg_more HB1.out)); clear hm3 hs3 c0 c1 c2 c3 c4 c5 c6)))
        go_ret2
        exact ⟨⟨0, by rw [HLZ.out]; rfl, fun h => absurd (by rw [HLZ.out] at h; exact h) hr2⟩, by rw [HLZ.out]; exact HM3.out.weak (seg_more HB1.out), HSA.out⟩
    · have HLZ := Lib.hid (HLN.out V1 r1 hr1 (by unfold bindR; rw [if_neg hr1]))
      have e1 : (r1 != 0) = true := by simpa using hr1
      go_enter Try.func58, Try.ntmps58
      go_wp2_with (first
        | ((with_reducible show wpList _ _ _ (⟨_, .box _ _, _, _, _, _⟩ :: _) _ _); go_must (refine wpList_box rfl ?_; intro w1 hx1 hb1 hs1; have HX1 := Lib.hid hx1; have HB1 := Lib.hid hb1; obtain ⟨c0, c1, c2, c3, c4, c5, c6⟩ := seg_box (x := s) hx1; clear hx1 hb1))
        | (go_at_call 74; rw [HMX.out]; go_must (refine (HBK.out _).mono ?_; rintro e w9 ⟨rfl, rfl⟩))
        | (go_at_call 32; go_must (refine (HMAP.out _ HB1.out).mono ?_; rintro e w2 ⟨rfl, hm2, hs2⟩; have HM2 := Lib.hid hm2; have HS2 := Lib.hid hs2; have hk2 := hs2.kept HX1.out (fun h => absurd h.2.2 (Nat.lt_irrefl _)); clear c0 c1 c2 c3 c4 c5 c6; obtain ⟨c0, c1, c2, c3, c4, c5, c6⟩ := seg_box (x := s) hk2; clear hm2 hs2 hk2)))
      go_ret2
      exact ⟨⟨0, by rw [HLZ.out]; rfl, fun h => absurd (by rw [HLZ.out] at h; exact h) hr1⟩, by rw [HLZ.out]; exact HM2.out.weak (seg_more HB1.out), seg_stirs HB1.out HS2.out⟩
end Go.Proofs.Ytmpelmjhimalpaa
namespace Go.Proofs.Ytmpelmjhimalpaa
open Go.RowKit Go.Fd
theorem results_row2 {P : Program} {fn : Func} {p u : Tmp} {ty : TypeId} (h : fn.results = #[.cell p ty, .tmp u]) (tmps : Array Value) (w : World) (g : Nat) (t : TypeId) (cs : Array Value) (fr : Nat × Nat) (d : TypeDesc)
    (hp : tmps.getD p undef = .pointer (some ⟨g, 0, none⟩)) (hg : w.heap[g]? = some (.cells cs t fr))
    (hu : P.underlying ty = some d) (hd : (match d with | .struct _ | .array _ _ => true | _ => false) = true) (hi : (P.info? ty).map (·.size) = some cs.size) :
    (results fn tmps).run P w = .ok (.tuple #[.agg cs, tmps.getD u undef]) w := by
  rw [results_cell_tmp h, hp]
  simp [asAddr, Result.andThen, run_loadVar_row w g t ty cs fr d hg hu hd hi]
theorem th_step {size : Nat} {G : List SegM} {k n : Nat} {o x : SegM} (hk : G[k]? = some x) : thR size (G.drop k) n o = if x.typ = 7 then (if 1 ≤ n ∨ 1048576 < x.memsz then (seg0, 4) else if size < x.off ∨ size - x.off < x.filesz ∨ x.memsz < x.filesz then (seg0, 5) else thR size (G.drop (k + 1)) (n + 1) x) else thR size (G.drop (k + 1)) n o := by
  obtain ⟨h1, h2⟩ := List.getElem?_eq_some_iff.1 hk
  rw [List.drop_eq_getElem_cons h1, h2, thR]
set_option maxHeartbeats 2000000 in
set_option maxRecDepth 100000 in
theorem ldThreads_any (G : List SegM) (gv : Value) (size : Nat) (w : World) (hv : RdR 7 encSeg w gv G) (hfit : ∀ s ∈ G, s.fits) (hG : G.length ≤ 1000) (hsz : size ≤ 1000000000) :
    Calls Try.prog 57 #[gv, .int .i64 size] w fun r w' => r = .returned (.tuple #[.agg (encSeg (thR size G 0 seg1).1).toArray, .int .i64 (thR size G 0 seg1).2]) ∧ Below w.heap.size w w' := by
  obtain ⟨a, ca, rfl, hca, -, hc⟩ := hv.open (fun _ => rfl)
  have HC := Lib.hid hc
  have HFT := Lib.hid hfit
  obtain ⟨gm, hgm⟩ : ∃ n, n = G.length := ⟨_, rfl⟩
  rw [← hgm] at hca hG ⊢
  have HGM := Lib.hid hgm
  clear hc hv hgm hfit
  go_enter Try.func57, Try.ntmps57
  go_wp2_with (first
    | ((with_reducible show wpList _ _ _ (⟨some 4, .alloc _, _, _, _, _⟩ :: _) _ _); go_must (refine wpList_allocSeg ?_; intro w1 hx1 hb1 hs1; have HX1 := Lib.hid hx1; have HB1 := Lib.hid hb1; clear hx1 hb1))
    | ((with_reducible show wpList _ _ _ (⟨none, .store _ _ _, _, _, _, _⟩ :: _) _ _); go_must (refine wpList_storeNew rfl rfl (by kernel_rfl) rfl (by simp [Value.oneCell']) ?_; intro w2 hh2 hb2; have HH2 := Lib.hid hh2; have HX2 := Lib.hid (heap_below hb2 HX1.out); have HB2 := Lib.hid (HB1.out.trans (hb2.mono HB1.out.size)); clear hh2 hb2)))
  have hw01 : w.heap.size < w1.heap.size := hs1
  go_loopw [7, 9, 13] (fun nv _ i wr => ∃ (k n : Nat) (o : SegM), nv = .int .i64 n ∧ n ≤ k ∧ i = .int .i64 k ∧ k ≤ gm ∧ Hid (thR size (G.drop k) n o = thR size G 0 seg1) ∧ Hid (wr.heap[w.heap.size]? = some (.cells segZ 30 (0, 0))) ∧ Hid (wr.heap[w1.heap.size]? = some (.cells (encSeg o).toArray 30 (0, 0))) ∧ Hid (Below w.heap.size w wr)) (fun _ _ i _ => gm - (intOf i).toNat)
  case atStart => exact ⟨0, 0, seg1, rfl, Nat.le_refl _, rfl, Nat.zero_le _, rfl, HX2.out, HH2.out, HB2.out⟩
  case round =>
    obtain ⟨k, n, o, rfl, hn, rfl, hk, HT, HXR, HHR, HB⟩ := hrel
    by_cases hlt : k < gm
    · have X1 := Lib.hid (show G[k]? = some (G[k]'(by have := HGM.out; omega)) from List.getElem?_eq_getElem _)
      generalize G[k]'(by have := HGM.out; omega) = x at *
      have hft := HFT.out x (List.mem_of_getElem? X1.out)
      have HST := Lib.hid (th_step (size := size) (n := n) (o := o) X1.out)
      obtain ⟨b1, o1, ha, c10, c11, c12, c13, c14, c15, c16, -⟩ := seg_cells HC.out HB.out X1.out
      subst ha
      by_cases ht : x.typ = 7
      · have e7 : ((x.typ : Int) != 7) = false := by simp; omega
        have HTY := Lib.hid ht
        clear ht
        by_cases b1 : 1 ≤ n
        · have hn1 : (1 : Int) < (n : Int) + 1 := by omega
          have HE := Lib.hid (show thR size G 0 seg1 = (seg0, 4) by rw [← HT.out, HST.out, if_pos HTY.out, if_pos (Or.inl b1)])
          go_wp2_with (first | ((with_reducible show wpList _ _ _ (⟨none, .store _ _ _, _, _, _, _⟩ :: _) _ _); have hq := HX3; clear hq; go_must (refine wpList_storeRowS HX3.out rfl rfl rfl (by kernel_rfl) (by simp [Value.oneCell']) ?_; intro w4 hh4 hs4; have HH4 := Lib.hid hh4; have HB4 := Lib.hid (HB3.out.trans (hs4.below HB3.out.size (fun k h => Nat.le_of_eq h.symm))); clear hh4 hs4)) | ((with_reducible show wpList _ _ _ (⟨none, .store _ _ _, _, _, _, _⟩ :: _) _ _); go_must (refine wpList_storeNew rfl rfl (by kernel_rfl) rfl (by simp [Value.oneCell']) ?_; intro w3 hh3 hb3; obtain ⟨d0, d1, d2, d3, d4, d5, d6⟩ := seg_box (x := x) hh3; have HB3 := Lib.hid (HB.out.trans (hb3.mono HB.out.size)); have HX3 := Lib.hid (heap_below hb3 HXR.out); have HH3 := Lib.hid (heap_below hb3 HHR.out); clear hh3 hb3 c10 c11 c12 c13 c14 c15 c16)))
          refine bodyPost_ret (results_row2 rfl _ _ w.heap.size _ _ _ _ rfl HH4.out rfl rfl (by kernel_rfl)) rfl ⟨?_, HB4.out⟩
          rw [HE.out]
          rfl
        · obtain rfl : n = 0 := by omega
          by_cases b2 : 1048576 < x.memsz
          · have HE := Lib.hid (show thR size G 0 seg1 = (seg0, 4) by rw [← HT.out, HST.out, if_pos HTY.out, if_pos (Or.inr b2)])
            go_wp2_with (first | ((with_reducible show wpList _ _ _ (⟨none, .store _ _ _, _, _, _, _⟩ :: _) _ _); have hq := HX3; clear hq; go_must (refine wpList_storeRowS HX3.out rfl rfl rfl (by kernel_rfl) (by simp [Value.oneCell']) ?_; intro w4 hh4 hs4; have HH4 := Lib.hid hh4; have HB4 := Lib.hid (HB3.out.trans (hs4.below HB3.out.size (fun k h => Nat.le_of_eq h.symm))); clear hh4 hs4)) | ((with_reducible show wpList _ _ _ (⟨none, .store _ _ _, _, _, _, _⟩ :: _) _ _); go_must (refine wpList_storeNew rfl rfl (by kernel_rfl) rfl (by simp [Value.oneCell']) ?_; intro w3 hh3 hb3; obtain ⟨d0, d1, d2, d3, d4, d5, d6⟩ := seg_box (x := x) hh3; have HB3 := Lib.hid (HB.out.trans (hb3.mono HB.out.size)); have HX3 := Lib.hid (heap_below hb3 HXR.out); have HH3 := Lib.hid (heap_below hb3 HHR.out); clear hh3 hb3 c10 c11 c12 c13 c14 c15 c16)))
            refine bodyPost_ret (results_row2 rfl _ _ w.heap.size _ _ _ _ rfl HH4.out rfl rfl (by kernel_rfl)) rfl ⟨?_, HB4.out⟩
            rw [HE.out]
            rfl
          · have hg : ¬ (1 ≤ 0 ∨ 1048576 < x.memsz) := by omega
            by_cases b3 : size < x.off
            · have HE := Lib.hid (show thR size G 0 seg1 = (seg0, 5) by rw [← HT.out, HST.out, if_pos HTY.out, if_neg hg, if_pos (Or.inl b3)])
              go_wp2_with (first | ((with_reducible show wpList _ _ _ (⟨none, .store _ _ _, _, _, _, _⟩ :: _) _ _); have hq := HX3; clear hq; go_must (refine wpList_storeRowS HX3.out rfl rfl rfl (by kernel_rfl) (by simp [Value.oneCell']) ?_; intro w4 hh4 hs4; have HH4 := Lib.hid hh4; have HB4 := Lib.hid (HB3.out.trans (hs4.below HB3.out.size (fun k h => Nat.le_of_eq h.symm))); clear hh4 hs4)) | ((with_reducible show wpList _ _ _ (⟨none, .store _ _ _, _, _, _, _⟩ :: _) _ _); go_must (refine wpList_storeNew rfl rfl (by kernel_rfl) rfl (by simp [Value.oneCell']) ?_; intro w3 hh3 hb3; obtain ⟨d0, d1, d2, d3, d4, d5, d6⟩ := seg_box (x := x) hh3; have HB3 := Lib.hid (HB.out.trans (hb3.mono HB.out.size)); have HX3 := Lib.hid (heap_below hb3 HXR.out); have HH3 := Lib.hid (heap_below hb3 HHR.out); clear hh3 hb3 c10 c11 c12 c13 c14 c15 c16)))
              refine bodyPost_ret (results_row2 rfl _ _ w.heap.size _ _ _ _ rfl HH4.out rfl rfl (by kernel_rfl)) rfl ⟨?_, HB4.out⟩
              rw [HE.out]
              rfl
            · by_cases b4 : (size : Int) - x.off < x.filesz
              · have HE := Lib.hid (show thR size G 0 seg1 = (seg0, 5) by rw [← HT.out, HST.out, if_pos HTY.out, if_neg hg, if_pos (by omega)])
                go_wp2_with (first | ((with_reducible show wpList _ _ _ (⟨none, .store _ _ _, _, _, _, _⟩ :: _) _ _); have hq := HX3; clear hq; go_must (refine wpList_storeRowS HX3.out rfl rfl rfl (by kernel_rfl) (by simp [Value.oneCell']) ?_; intro w4 hh4 hs4; have HH4 := Lib.hid hh4; have HB4 := Lib.hid (HB3.out.trans (hs4.below HB3.out.size (fun k h => Nat.le_of_eq h.symm))); clear hh4 hs4)) | ((with_reducible show wpList _ _ _ (⟨none, .store _ _ _, _, _, _, _⟩ :: _) _ _); go_must (refine wpList_storeNew rfl rfl (by kernel_rfl) rfl (by simp [Value.oneCell']) ?_; intro w3 hh3 hb3; obtain ⟨d0, d1, d2, d3, d4, d5, d6⟩ := seg_box (x := x) hh3; have HB3 := Lib.hid (HB.out.trans (hb3.mono HB.out.size)); have HX3 := Lib.hid (heap_below hb3 HXR.out); have HH3 := Lib.hid (heap_below hb3 HHR.out); clear hh3 hb3 c10 c11 c12 c13 c14 c15 c16)))
                refine bodyPost_ret (results_row2 rfl _ _ w.heap.size _ _ _ _ rfl HH4.out rfl rfl (by kernel_rfl)) rfl ⟨?_, HB4.out⟩
                rw [HE.out]
                rfl
              · by_cases b5 : x.memsz < x.filesz
                · have HE := Lib.hid (show thR size G 0 seg1 = (seg0, 5) by rw [← HT.out, HST.out, if_pos HTY.out, if_neg hg, if_pos (by omega)])
                  go_wp2_with (first | ((with_reducible show wpList _ _ _ (⟨none, .store _ _ _, _, _, _, _⟩ :: _) _ _); have hq := HX3; clear hq; go_must (refine wpList_storeRowS HX3.out rfl rfl rfl (by kernel_rfl) (by simp [Value.oneCell']) ?_; intro w4 hh4 hs4; have HH4 := Lib.hid hh4; have HB4 := Lib.hid (HB3.out.trans (hs4.below HB3.out.size (fun k h => Nat.le_of_eq h.symm))); clear hh4 hs4)) | ((with_reducible show wpList _ _ _ (⟨none, .store _ _ _, _, _, _, _⟩ :: _) _ _); go_must (refine wpList_storeNew rfl rfl (by kernel_rfl) rfl (by simp [Value.oneCell']) ?_; intro w3 hh3 hb3; obtain ⟨d0, d1, d2, d3, d4, d5, d6⟩ := seg_box (x := x) hh3; have HB3 := Lib.hid (HB.out.trans (hb3.mono HB.out.size)); have HX3 := Lib.hid (heap_below hb3 HXR.out); have HH3 := Lib.hid (heap_below hb3 HHR.out); clear hh3 hb3 c10 c11 c12 c13 c14 c15 c16)))
                  refine bodyPost_ret (results_row2 rfl _ _ w.heap.size _ _ _ _ rfl HH4.out rfl rfl (by kernel_rfl)) rfl ⟨?_, HB4.out⟩
                  rw [HE.out]
                  rfl
                · have HT2 := Lib.hid (show thR size (G.drop (k + 1)) (0 + 1) x = thR size G 0 seg1 by rw [← HT.out, HST.out, if_pos HTY.out, if_neg hg, if_neg (by omega)])
                  go_wp2_with (first | ((with_reducible show wpList _ _ _ (⟨none, .store _ _ _, _, _, _, _⟩ :: _) _ _); have hq := HX3; clear hq; go_must (refine wpList_storeRowS HH3.out rfl rfl rfl (by kernel_rfl) (by simp [Value.oneCell']) ?_; intro w4 hh4 hs4; have HH4 := Lib.hid hh4; have HX4 := Lib.hid (hs4.kept HX3.out (fun h => absurd h (Nat.ne_of_lt hw01))); have HB4 := Lib.hid (HB3.out.trans (hs4.below HB3.out.size (fun k h => by omega))); clear hh4 hs4)) | ((with_reducible show wpList _ _ _ (⟨none, .store _ _ _, _, _, _, _⟩ :: _) _ _); go_must (refine wpList_storeNew rfl rfl (by kernel_rfl) rfl (by simp [Value.oneCell']) ?_; intro w3 hh3 hb3; obtain ⟨d0, d1, d2, d3, d4, d5, d6⟩ := seg_box (x := x) hh3; have HB3 := Lib.hid (HB.out.trans (hb3.mono HB.out.size)); have HX3 := Lib.hid (heap_below hb3 HXR.out); have HH3 := Lib.hid (heap_below hb3 HHR.out); clear hh3 hb3 c10 c11 c12 c13 c14 c15 c16)))
                  go_round
                  case rel => exact ⟨k + 1, 0 + 1, x, rfl, by omega, by go_num, by omega, HT2.out, HX4.out, HH4.out, HB4.out⟩
                  case measure => simp [intOf] <;> omega
      · have e7 : ((x.typ : Int) != 7) = true := by simp; omega
        have HT2 := Lib.hid (show thR size (G.drop (k + 1)) n o = thR size G 0 seg1 by rw [← HT.out, HST.out, if_neg ht])
        go_wp2_with ((with_reducible show wpList _ _ _ (⟨none, .store _ _ _, _, _, _, _⟩ :: _) _ _); go_must (refine wpList_storeNew rfl rfl (by kernel_rfl) rfl (by simp [Value.oneCell']) ?_; intro w3 hh3 hb3; obtain ⟨d0, d1, d2, d3, d4, d5, d6⟩ := seg_box (x := x) hh3; have HB3 := Lib.hid hb3; clear hh3 hb3 c10 c11 c12 c13 c14 c15 c16))
        go_round
        case rel => exact ⟨k + 1, n, o, rfl, by omega, by go_num, by omega, HT2.out, heap_below HB3.out HXR.out, heap_below HB3.out HHR.out, HB.out.trans (HB3.out.mono HB.out.size)⟩
        case measure => simp [intOf] <;> omega
    · obtain rfl : k = gm := by omega
      have HE := Lib.hid (show thR size G 0 seg1 = (o, 0) by rw [← HT.out, List.drop_of_length_le (by have := HGM.out; omega)]; rfl)
      obtain ⟨d0, d1, d2, d3, d4, d5, d6⟩ := seg_box (x := o) HHR.out
      go_wp2_with ((with_reducible show wpList _ _ _ (⟨none, .store _ _ _, _, _, _, _⟩ :: _) _ _); go_must (refine wpList_storeRowS HXR.out rfl rfl rfl (by kernel_rfl) (by simp [Value.oneCell']) ?_; intro w4 hh4 hs4; have HH4 := Lib.hid hh4; have HB4 := Lib.hid (HB.out.trans (hs4.below HB.out.size (fun k h => Nat.le_of_eq h.symm))); clear hh4 hs4))
      refine bodyPost_ret (results_row2 rfl _ _ w.heap.size _ _ _ _ rfl HH4.out rfl rfl (by kernel_rfl)) rfl ⟨?_, HB4.out⟩
      rw [HE.out]
      rfl
end Go.Proofs.Ytmpelmjhimalpaa
namespace Go.Proofs.Ytmpelmjhimalpaa
open Go.RowKit Go.Fd
theorem segs_step {b : List UInt8} {V : Vw} {G : List SegM} {k : Nat} {x : SegM} (hk : G[k]? = some x) : segsR b V (G.drop k) = if x.typ = 1 then bindR (segR V b x) fun V1 => segsR b V1 (G.drop (k + 1)) else segsR b V (G.drop (k + 1)) := by
  obtain ⟨h1, h2⟩ := List.getElem?_eq_some_iff.1 hk
  rw [List.drop_eq_getElem_cons h1, h2, segsR]
theorem thR_align {size : Nat} : ∀ (G : List SegM) (n : Nat) (o : SegM) (_ : ∀ s ∈ G, s.fits ∧ 1 ≤ s.align ∧ s.align ≤ 65536) (_ : o.fits ∧ 1 ≤ o.align ∧ o.align ≤ 65536 ∧ o.memsz ≤ 1048576 ∧ o.filesz ≤ o.memsz ∧ o.off + o.filesz ≤ size), (thR size G n o).2 = 0 →
    (thR size G n o).1.fits ∧ 1 ≤ (thR size G n o).1.align ∧ (thR size G n o).1.align ≤ 65536 ∧ (thR size G n o).1.memsz ≤ 1048576 ∧ (thR size G n o).1.filesz ≤ (thR size G n o).1.memsz ∧ (thR size G n o).1.off + (thR size G n o).1.filesz ≤ size
  | [], _, _, _, ho, _ => ho
  | s :: G, n, o, hG, ho, h => by
    have hs := hG s (by simp)
    have hG' : ∀ x ∈ G, x.fits ∧ 1 ≤ x.align ∧ x.align ≤ 65536 := fun x hx => hG x (by simp [hx])
    rw [thR] at h ⊢
    split at h
    · next h7 =>
      rw [if_pos h7]
      split at h
      · cases h
      · next h1 =>
        rw [if_neg h1]
        split at h
        · cases h
        · next h2 =>
          rw [if_neg h2]
          exact thR_align G (n + 1) s hG' ⟨hs.1, hs.2.1, hs.2.2, by omega, by omega, by omega⟩ h
    · next h7 =>
      rw [if_neg h7]
      exact thR_align G n o hG' ho h
abbrev imgZ : Array Value := #[.int .i64 0, .int .u64 0, .int .u64 0, .int .u64 0]
theorem wpList_allocImg {ops : Array Oper} {rest : List Oper} {Q : Exit → Act → World → Prop} {a : Act} {w : World} {d : Option Tmp} {ty : TypeId} {pos : String} {aft : Array Edge}
    (h : ∀ w1, w1.heap[w.heap.size]? = some (.cells imgZ 38 (0, 0)) → Below w.heap.size w w1 → w.heap.size < w1.heap.size → wpList Try.prog ops Q rest (a.put d (.pointer (some ⟨w.heap.size, 0, none⟩))) w1) :
    wpList Try.prog ops Q (⟨d, .alloc 38, ty, pos, aft, none⟩ :: rest) a w :=
  wpList_val rfl (by kernel_rfl) (h (w.alloc (.cells imgZ 38)) (heap_alloc_last w _) (below_alloc w _) (by rw [World.size_alloc]; omega))
def fx (F : Nat → Prop) (a b : Nat) (k : Nat) : Prop := (F k ∧ k < a) ∨ b ≤ k
theorem fx_not {F : Nat → Prop} {a b k : Nat} (h1 : a ≤ k) (h2 : k < b) : ¬ fx F a b k := fun h => h.elim (fun h => absurd h.2 (Nat.not_lt.2 h1)) (fun h => absurd h2 (Nat.not_lt.2 h))
theorem fx_v {F : Nat → Prop} {a b k : Nat} (h1 : ¬ F k) (h2 : k < b) : ¬ fx F a b k := fun h => h.elim (fun h => h1 h.1) (fun h => absurd h2 (Nat.not_lt.2 h))
theorem fx_more {F : Nat → Prop} {a b : Nat} {wr : World} (h : b ≤ wr.heap.size) : ∀ k, more (fx F a b) wr k → fx F a b k := fun k hk => hk.elim id fun h2 => .inr (Nat.le_trans h h2)
theorem fx_out {F : Nat → Prop} {w : World} {b : Nat} (h : w.heap.size ≤ b) : ∀ k, fx F w.heap.size b k → more F w k := fun k hk => hk.elim (fun h => .inl h.1) fun h2 => .inr (Nat.le_trans h h2)
theorem all_seg {t : Int} {b : List UInt8} {l : List SegM} {x : Vw × Int} (h : segsR b [] l = x) (hx : x.2 ≠ 0) : allR t b l = x := by
  unfold allR
  rw [h]
  unfold bindR
  rw [if_neg hx]
theorem all_th {t : Int} {b : List UInt8} {l : List SegM} {V : Vw} (h : segsR b [] l = (V, 0)) (hx : (thR b.length l 0 seg1).2 ≠ 0) : allR t b l = (V, (thR b.length l 0 seg1).2) := by
  unfold allR
  rw [h]
  unfold bindR
  rw [if_pos rfl]
  dsimp only
  rw [if_neg hx]
theorem all_lay {t : Int} {b : List UInt8} {l : List SegM} {V : Vw} (h : segsR b [] l = (V, 0)) (hx : (thR b.length l 0 seg1).2 = 0) : allR t b l = bindR (mapR V 1099511562240 65536 6) fun V2 => layR V2 t b (thR b.length l 0 seg1).1 := by
  unfold allR
  rw [h]
  show bindR (V, 0) _ = _
  unfold bindR
  rw [if_pos rfl]
  dsimp only
  rw [if_pos hx]
set_option maxHeartbeats 2000000 in
set_option maxRecDepth 100000 in
theorem ldAll_any {base bp : Nat} {F : Nat → Prop} (e : ElfM) (L : List (SecM × Value)) (sv gv v : Value) (l : List UInt8) (w : World) (hx : ElfAt w e L sv gv) (h : Mem w base bp F []) (hbase : base ≤ w.heap.size) (hv : Bs w v l) (hl : l.length ≤ 1000000000)
    (hF : ∀ k, v.ownBlock = some k → ¬ F k) (hvb : ∀ k, v.ownBlock = some k → k < w.heap.size) (hFg : ∀ k, gv.ownBlock = some k → ¬ F k)
    (hG : e.segs.length ≤ 16) (hal : ∀ s ∈ e.segs, s.fits ∧ 1 ≤ s.align ∧ s.align ≤ 65536) :
    Calls Try.prog 26 #[ptr bp, elfV e sv gv, v] w fun r w' => (∃ img : Array Value, r = .returned (.tuple #[.agg img, .int .i64 (allR e.target l e.segs).2]) ∧ ((allR e.target l e.segs).2 = 0 → img = #[.int .i64 e.target, .int .u64 e.entry, .int .u64 1099511627712, .int .u64 (ptR e.target (thR l.length e.segs 0 seg1).1 : Nat)]) ∧ ((allR e.target l e.segs).2 ≠ 0 → img = imgZ)) ∧ Mem w' base bp (more F w) (allR e.target l e.segs).1 ∧ Stirs F w w' := by
  have HV := Lib.hid hv
  have HM := Lib.hid h.near
  have HGV := Lib.hid hx.segs
  obtain ⟨gm, ga, gc, hgm, rfl, -, -⟩ := hx.segs.shape
  obtain ⟨m, ad, cap, hm, rfl, hmc, _⟩ := hv.shape
  clear hv h hx
  go_enter Try.func26, Try.ntmps26
  go_wp2_with (first
    | ((with_reducible show wpList _ _ _ (⟨_, .box _ _, _, _, _, _⟩ :: _) _ _); go_must (refine wpList_box rfl ?_; intro w1 hx1 hb1 hs1; have HX1 := Lib.hid hx1; have HB1 := Lib.hid hb1; have hw01 : w.heap.size < w1.heap.size := hs1; obtain ⟨c0, c1, c2, c3, c4, c5⟩ := elf_box hx1; clear hx1 hb1 hs1))
    | ((with_reducible show wpList _ _ _ (⟨some 6, .alloc _, _, _, _, _⟩ :: _) _ _); go_must (refine wpList_allocImg ?_; intro w2 hx2 hb2 hs2; have HX2 := Lib.hid hx2; have HX1 := Lib.hid (heap_below hb2 HX1.out); have HB2 := Lib.hid (HB1.out.trans (hb2.mono HB1.out.size)); have hw12 : w1.heap.size < w2.heap.size := hs2; clear c0 c1 c2 c3 c4 c5; obtain ⟨c0, c1, c2, c3, c4, c5⟩ := elf_box HX1.out; clear hx2 hb2 hs2)))
  have HSEG := Lib.hid (fun (wr : World) (V : Vw) (hmr : Mem wr base bp (fx F w.heap.size w2.heap.size) V) (hb : base ≤ wr.heap.size) (hL : V.length ≤ 900000) (hvr : Bs wr (.slice ad m cap) l) (h2 : w2.heap.size ≤ wr.heap.size) (x : SegM) (hx : x.fits) => ldSegment_any wr hmr hb hL (.slice ad m cap) l hvr hl (fun k hk => fx_v (hF k hk) (Nat.lt_of_lt_of_le (hvb k hk) HB2.out.size)) (fun k hk => by have := hvb k hk; have := HB2.out.size; omega) x hx)
  have HGM := Lib.hid hgm.out
  have HAL := Lib.hid hal
  have hw02 := HB2.out.size
  have hw02' : w.heap.size < w2.heap.size := Nat.lt_trans hw01 hw12
  have hgm16 : gm ≤ 16 := by have := HGM.out; omega
  go_loopw [9, 10, 18] (fun _ _ i wr => ∃ (k : Nat) (V : Vw), i = .int .i64 k ∧ k ≤ gm ∧ V.length ≤ 4097 * k ∧ Hid (segsR l [] e.segs = segsR l V (e.segs.drop k)) ∧ Hid (Mem wr base bp (fx F w.heap.size w2.heap.size) V) ∧ Hid (Stirs F w wr) ∧ w2.heap.size ≤ wr.heap.size ∧ Hid (wr.heap[w.heap.size]? = w2.heap[w.heap.size]?) ∧ Hid (wr.heap[w1.heap.size]? = w2.heap[w1.heap.size]?)) (fun _ _ i _ => gm - (intOf i).toNat)
  case atStart => exact ⟨0, [], rfl, Nat.zero_le _, Nat.zero_le _, rfl, (HM.out.mono HB2.out).weak (fun k h => .inl ⟨h.1, h.2.2⟩), Stirs.of_below HB2.out, Nat.le_refl _, rfl, rfl⟩
  case round =>
    obtain ⟨k, V, rfl, hk, hVl, HS, HMR, HST, hwr, HK0, HK1⟩ := hrel
    by_cases hlt : k < gm
    · have X1 := Lib.hid (show e.segs[k]? = some (e.segs[k]'(by have := HGM.out; omega)) from List.getElem?_eq_getElem _)
      generalize e.segs[k]'(by have := HGM.out; omega) = x at *
      have HGR := Lib.hid (show RdR 7 encSeg wr (.slice ga gm gc) e.segs from Reads.stirs HGV.out HST.out (fun k hk => hFg k hk))
      obtain ⟨a', c', he', -, -, hc⟩ := HGR.out.open (fun _ => rfl)
      simp only [Value.slice.injEq] at he'
      obtain ⟨rfl, -, rfl⟩ := he'
      obtain ⟨b1, o1, ha, c10, c11, c12, c13, c14, c15, c16, -⟩ := seg_cells hc (Below.refl _ _) X1.out
      subst ha
      have hft := (HAL.out x (List.mem_of_getElem? X1.out)).1
      have HSS := Lib.hid (segs_step (b := l) (V := V) X1.out)
      by_cases ht : x.typ = 1
      · have e7 : ((x.typ : Int) == 1) = true := by simp; omega
        rw [if_pos ht] at HSS
        clear ht
        have HVR : Hid (Bs wr (.slice ad m cap) l) := Lib.hid (Reads.stirs HV.out HST.out (fun k hk => hF k hk))
        have hsl := length_segR V l x
        have HSG := Lib.hid (rfl : segR V l x = segR V l x)
        generalize hsr : segR V l x = sr at *
        have HSR := Lib.hid hsr
        clear hsr
        obtain ⟨W, r⟩ := sr
        dsimp only at hsl
        by_cases hr : r = 0
        · subst hr
          have HT2 := Lib.hid (show segsR l [] e.segs = segsR l W (e.segs.drop (k + 1)) by rw [HS.out, HSS.out]; unfold bindR; rw [if_pos rfl])
          go_wp2_with (first
            | ((with_reducible show wpList _ _ _ (⟨none, .store _ _ _, _, _, _, _⟩ :: _) _ _); go_must (refine wpList_storeNew rfl rfl (by kernel_rfl) rfl (by simp [Value.oneCell']) ?_; intro w3 hh3 hb3; obtain ⟨d0, d1, d2, d3, d4, d5, d6⟩ := seg_box (x := x) hh3; have HB3 := Lib.hid hb3; have HH3 := Lib.hid hh3; clear hh3 hb3 c10 c11 c12 c13 c14 c15 c16))
            | (go_at_call 56; go_must (refine (HSEG.out _ V (HMR.out.mono HB3.out) (by have := HB3.out.size; omega) (by omega) (HVR.out.mono HB3.out) (by have := HB3.out.size; omega) x hft).mono ?_; rw [HSR.out]; rintro r w4 ⟨rfl, hm4, hs4⟩; have HM4 := Lib.hid hm4; have HS4 := Lib.hid hs4; have HI4 := Lib.hid (hs4.kept (heap_below HB3.out (HK1.out.trans HX2.out)) (fx_not (Nat.le_of_lt hw01) hw12)); have HJ4 := Lib.hid (hs4.kept (heap_below HB3.out (HK0.out.trans HX1.out)) (fx_not (Nat.le_refl _) hw02')); clear hm4 hs4 d0 d1 d2 d3 d4 d5 d6)))
          go_round
          case rel => exact ⟨k + 1, W, by go_num, by omega, by omega, HT2.out, HM4.out.weak (fx_more (Nat.le_trans hwr HB3.out.size)), stirs_step (HST.out.thenBelow HB3.out) HS4.out (fx_out hw02), Nat.le_trans hwr (Nat.le_trans HB3.out.size HS4.out.size), HJ4.out.trans HX1.out.symm, HI4.out.trans HX2.out.symm⟩
          case measure => simp [intOf] <;> omega
        · have er : (r != 0) = true := by simpa using hr
          have HA : Hid (allR e.target l e.segs = (W, r)) := all_seg (by rw [HS.out, HSS.out]; unfold bindR; rw [if_neg hr]) hr
          go_wp2_with (first
            | ((with_reducible show wpList _ _ _ (⟨none, .store _ _ _, _, _, _, _⟩ :: _) _ _); have hq := HI4; clear hq; go_must (refine wpList_storeRowS HI4.out rfl rfl rfl (by kernel_rfl) (by simp [Value.oneCell']) ?_; intro w5 hh5 hs5; have HH5 := Lib.hid hh5; have HS5 := Lib.hid hs5; clear hh5 hs5))
            | ((with_reducible show wpList _ _ _ (⟨none, .store _ _ _, _, _, _, _⟩ :: _) _ _); go_must (refine wpList_storeNew rfl rfl (by kernel_rfl) rfl (by simp [Value.oneCell']) ?_; intro w3 hh3 hb3; obtain ⟨d0, d1, d2, d3, d4, d5, d6⟩ := seg_box (x := x) hh3; have HB3 := Lib.hid hb3; have HH3 := Lib.hid hh3; clear hh3 hb3 c10 c11 c12 c13 c14 c15 c16))
            | (go_at_call 56; go_must (refine (HSEG.out _ V (HMR.out.mono HB3.out) (by have := HB3.out.size; omega) (by omega) (HVR.out.mono HB3.out) (by have := HB3.out.size; omega) x hft).mono ?_; rw [HSR.out]; rintro r w4 ⟨rfl, hm4, hs4⟩; have HM4 := Lib.hid hm4; have HS4 := Lib.hid hs4; have HI4 := Lib.hid (hs4.kept (heap_below HB3.out (HK1.out.trans HX2.out)) (fx_not (Nat.le_of_lt hw01) hw12)); have HJ4 := Lib.hid (hs4.kept (heap_below HB3.out (HK0.out.trans HX1.out)) (fx_not (Nat.le_refl _) hw02')); clear hm4 hs4 d0 d1 d2 d3 d4 d5 d6)))
          refine bodyPost_ret (results_row2 rfl _ _ w1.heap.size _ _ _ _ rfl HH5.out rfl rfl (by kernel_rfl)) rfl ⟨⟨_, by rw [HA.out]; rfl, fun h => absurd (by rw [HA.out] at h; exact h) hr, fun _ => rfl⟩, ?_, ?_⟩
          · rw [HA.out]
            exact (HM4.out.stirs HS5.out (fun k hk e => fx_not (Nat.le_of_lt hw01) hw12 (e ▸ fx_more (Nat.le_trans hwr HB3.out.size) k hk))).weak (fun k hk => fx_out hw02 k (fx_more (Nat.le_trans hwr HB3.out.size) k hk))
          · exact stirs_step (stirs_step (HST.out.thenBelow HB3.out) HS4.out (fx_out hw02)) HS5.out (fun k hk => .inr (by omega))
      · have e7 : ((x.typ : Int) == 1) = false := by simp; omega
        have HT2 := Lib.hid (show segsR l [] e.segs = segsR l V (e.segs.drop (k + 1)) by rw [HS.out, HSS.out, if_neg ht])
        clear ht
        go_wp2_with ((with_reducible show wpList _ _ _ (⟨none, .store _ _ _, _, _, _, _⟩ :: _) _ _); go_must (refine wpList_storeNew rfl rfl (by kernel_rfl) rfl (by simp [Value.oneCell']) ?_; intro w3 hh3 hb3; obtain ⟨d0, d1, d2, d3, d4, d5, d6⟩ := seg_box (x := x) hh3; have HB3 := Lib.hid hb3; have HH3 := Lib.hid hh3; clear hh3 hb3 c10 c11 c12 c13 c14 c15 c16))
        go_round
        case rel => exact ⟨k + 1, V, by go_num, by omega, by omega, HT2.out, HMR.out.mono HB3.out, HST.out.thenBelow HB3.out, Nat.le_trans hwr HB3.out.size, (HB3.out.block _ (by omega)).trans HK0.out, (HB3.out.block _ (by omega)).trans HK1.out⟩
        case measure => simp [intOf] <;> omega
    · obtain rfl : k = gm := by omega
      have HSV : Hid (segsR l [] e.segs = (V, 0)) := by rw [Hid, HS.out, List.drop_of_length_le (by have := HGM.out; omega), segsR]
      have HGR := Lib.hid (show RdR 7 encSeg wr (.slice ga k gc) e.segs from Reads.stirs HGV.out HST.out (fun k hk => hFg k hk))
      have HMN := Lib.hid HMR.out.near
      have HM2 := Lib.hid hm.out
      have HVO := Lib.hid (show ∀ k, (Value.slice ad m cap).ownBlock = some k → ¬ fx F w.heap.size w2.heap.size k from fun k hk => fx_v (hF k hk) (Nat.lt_of_lt_of_le (hvb k hk) hw02))
      have hm9 : m ≤ 1000000000 := by have := HM2.out; omega
      have HTHC := Lib.hid (fun (wx : World) (hb : Below wr.heap.size wr wx) => ldThreads_any e.segs (.slice ga k gc) m wx (Reads.mono HGR.out hb) (fun s hs => (HAL.out s hs).1) (by omega) hm9)
      have HTA := Lib.hid (thR_align (size := l.length) e.segs 0 seg1 HAL.out ⟨⟨by decide, by decide, by decide, by decide, by decide, by decide, by decide⟩, by decide, by decide, by decide, by decide, by show 0 + 0 ≤ _; omega⟩)
      have HA1 := Lib.hid (fun h => all_th (t := e.target) HSV.out h)
      have HA2 := Lib.hid (fun h => all_lay (t := e.target) HSV.out h)
      have hmm : l.length = m := HM2.out.symm
      have HTT := Lib.hid (show thR l.length e.segs 0 seg1 = thR m e.segs 0 seg1 by rw [hmm])
      rw [hmm] at HTA HA1 HA2
      clear hmm
      generalize thR m e.segs 0 seg1 = th at *
      obtain ⟨s, r1⟩ := th
      obtain ⟨c0, c1, c2, c3, c4, c5⟩ := elf_box (HK0.out.trans HX1.out)
      by_cases hr1 : r1 = 0
      · subst hr1
        have HTB := Lib.hid (HTA.out rfl)
        have HA3 := Lib.hid (HA2.out rfl)
        have HMAP := Lib.hid (fun (wx : World) (hb : Below wr.heap.size wr wx) => map_mem wx (HMN.out.mono hb) (Nat.le_trans (by omega) hb.size) (by omega) 1099511562240 65536 6 (by decide) (by decide))
        have hml := length_mapR V 1099511562240 65536 6
        generalize hmr : mapR V 1099511562240 65536 6 = mr at *
        clear hmr
        obtain ⟨V2, r2⟩ := mr
        dsimp only at hml
        by_cases hr2 : r2 = 0
        · subst hr2
          have HA4 := Lib.hid (show allR e.target l e.segs = layR V2 e.target l s by rw [HA3.out]; unfold bindR; rw [if_pos rfl])
          have HLAY := Lib.hid (fun (wx : World) (FX : Nat → Prop) (hmx : Mem wx base bp FX V2) (hbx : base ≤ wx.heap.size) (hvx : Bs wx (.slice ad m cap) l) (h1 : ∀ k, (Value.slice ad m cap).ownBlock = some k → ¬ FX k) (h2 : ∀ k, (Value.slice ad m cap).ownBlock = some k → k < wx.heap.size) => ldLay_any e.target wx hmx hbx (by omega) (.slice ad m cap) l hvx hl h1 h2 s HTB.out.1 HTB.out.2.1 HTB.out.2.2.1 HTB.out.2.2.2.1 HTB.out.2.2.2.2.1 (by rw [← HM2.out]; exact HTB.out.2.2.2.2.2))
          generalize hly : layR V2 e.target l s = ly at *
          clear hly
          obtain ⟨V3, r3⟩ := ly
          by_cases hr3 : r3 = 0
          · subst hr3
            go_wp2_with (first
              | ((with_reducible show wpList _ _ _ (⟨none, .store _ _ _, _, _, _, _⟩ :: _) _ _); have hq := HI7; clear hq; go_must (refine wpList_storeRowS HI7.out rfl rfl rfl (by kernel_rfl) (by simp [Value.oneCell']) ?_; intro w8 hh8 hs8; have HH8 := Lib.hid hh8; have HS8 := Lib.hid hs8; clear hh8 hs8))
              | ((with_reducible show wpList _ _ _ (⟨none, .store _ _ _, _, _, _, _⟩ :: _) _ _); go_must (refine wpList_storeNew rfl rfl (by kernel_rfl) rfl (by simp [Value.oneCell']) ?_; intro w5 hh5 hb5; have HH5 := Lib.hid hh5; have HB5 := Lib.hid (HB4.out.trans (hb5.mono HB4.out.size)); have HI5 := Lib.hid (heap_below HB5.out (HK1.out.trans HX2.out)); have HJ5 := Lib.hid (heap_below HB5.out (HK0.out.trans HX1.out)); clear hh5 hb5; clear c0 c1 c2 c3 c4 c5; obtain ⟨c0, c1, c2, c3, c4, c5⟩ := elf_box HJ5.out; obtain ⟨d0, d1, d2, d3, d4, d5, d6⟩ := seg_box (x := s) HH5.out))
              | (go_at_call 57; go_must (refine (HTHC.out _ (Below.refl _ _)).mono ?_; rintro r w4 ⟨rfl, hb4⟩; have HB4 := Lib.hid hb4; clear hb4))
              | (go_at_call 32; go_must (refine (HMAP.out _ HB5.out).mono ?_; rintro r w6 ⟨rfl, hm6, hs6⟩; have HM6 := Lib.hid hm6; have HS6 := Lib.hid hs6; have HI6 := Lib.hid (hs6.kept HI5.out (fun h => fx_not (Nat.le_of_lt hw01) hw12 h.1)); have HJ6 := Lib.hid (hs6.kept HJ5.out (fun h => fx_not (Nat.le_refl _) hw02' h.1)); have HH6 := Lib.hid (hs6.kept HH5.out (fun h => by have := h.2.2; have := HB4.out.size; omega)); clear hm6 hs6; clear c0 c1 c2 c3 c4 c5 d0 d1 d2 d3 d4 d5 d6; obtain ⟨c0, c1, c2, c3, c4, c5⟩ := elf_box HJ6.out; obtain ⟨d0, d1, d2, d3, d4, d5, d6⟩ := seg_box (x := s) HH6.out))
              | (go_at_call 58; go_must (refine (HLAY.out _ _ HM6.out (by have := HB5.out.size; have := HS6.out.size; omega) (Reads.stirs (Reads.mono (Reads.stirs HV.out HST.out (fun k hk => hF k hk)) HB5.out) HS6.out (fun k hk h => HVO.out k hk h.1)) (fun k hk h => h.elim (fun h => HVO.out k hk h.1) (fun h => by have := hvb k hk; have := HB5.out.size; omega)) (fun k hk => by have := hvb k hk; have := HB5.out.size; have := HS6.out.size; omega)).mono ?_; rintro r w7 ⟨⟨p, rfl, hp⟩, hm7, hs7⟩; have HM7 := Lib.hid hm7; have HS7 := Lib.hid hs7; have HP := Lib.hid hp; have HI7 := Lib.hid (hs7.kept HI6.out (fun h => h.elim (fun h => fx_not (Nat.le_of_lt hw01) hw12 h.1) (fun h => by have := HB5.out.size; omega))); have HJ7 := Lib.hid (hs7.kept HJ6.out (fun h => h.elim (fun h => fx_not (Nat.le_refl _) hw02' h.1) (fun h => by have := HB5.out.size; omega))); clear hm7 hs7 hp; clear c0 c1 c2 c3 c4 c5 d0 d1 d2 d3 d4 d5 d6; obtain ⟨c0, c1, c2, c3, c4, c5⟩ := elf_box HJ7.out)))
            refine bodyPost_ret (results_row2 rfl _ _ w1.heap.size _ _ _ _ rfl HH8.out rfl rfl (by kernel_rfl)) rfl ⟨⟨_, by rw [HA4.out]; rfl, fun _ => by rw [HTT.out, ← HP.out (by first | trivial | rfl)], fun h => absurd (by rw [HA4.out]) h⟩, ?_, ?_⟩
            · rw [HA4.out]
              exact (HM7.out.stirs HS8.out (fun k hk e => hk.elim (fun h => h.elim (fun h => fx_not (Nat.le_of_lt hw01) hw12 (e ▸ h.1)) (fun h => by have := HB5.out.size; subst e; omega)) (fun h => by have := HB5.out.size; have := HS6.out.size; subst e; omega))).weak (fun k hk => hk.elim (fun h => h.elim (fun h => fx_out hw02 k h.1) (fun h => .inr (by have := HB5.out.size; omega))) (fun h => .inr (by have := HB5.out.size; have := HS6.out.size; omega)))
            · exact stirs_step (stirs_step (stirs_step (HST.out.thenBelow HB5.out) HS6.out (fun k hk => fx_out hw02 k hk.1)) HS7.out (fun k hk => hk.elim (fun h => fx_out hw02 k h.1) (fun h => .inr (by have := HB5.out.size; omega)))) HS8.out (fun k hk => .inr (Nat.le_trans (Nat.le_of_lt hw01) (Nat.le_of_eq (Eq.symm hk))))
          · have e3 : (r3 != 0) = true := by simpa using hr3
            have HA := HA4
            go_wp2_with (first
              | ((with_reducible show wpList _ _ _ (⟨none, .store _ _ _, _, _, _, _⟩ :: _) _ _); have hq := HI7; clear hq; go_must (refine wpList_storeRowS HI7.out rfl rfl rfl (by kernel_rfl) (by simp [Value.oneCell']) ?_; intro w8 hh8 hs8; have HH8 := Lib.hid hh8; have HS8 := Lib.hid hs8; clear hh8 hs8))
              | ((with_reducible show wpList _ _ _ (⟨none, .store _ _ _, _, _, _, _⟩ :: _) _ _); go_must (refine wpList_storeNew rfl rfl (by kernel_rfl) rfl (by simp [Value.oneCell']) ?_; intro w5 hh5 hb5; have HH5 := Lib.hid hh5; have HB5 := Lib.hid (HB4.out.trans (hb5.mono HB4.out.size)); have HI5 := Lib.hid (heap_below HB5.out (HK1.out.trans HX2.out)); have HJ5 := Lib.hid (heap_below HB5.out (HK0.out.trans HX1.out)); clear hh5 hb5; clear c0 c1 c2 c3 c4 c5; obtain ⟨c0, c1, c2, c3, c4, c5⟩ := elf_box HJ5.out; obtain ⟨d0, d1, d2, d3, d4, d5, d6⟩ := seg_box (x := s) HH5.out))
              | (go_at_call 57; go_must (refine (HTHC.out _ (Below.refl _ _)).mono ?_; rintro r w4 ⟨rfl, hb4⟩; have HB4 := Lib.hid hb4; clear hb4))
              | (go_at_call 32; go_must (refine (HMAP.out _ HB5.out).mono ?_; rintro r w6 ⟨rfl, hm6, hs6⟩; have HM6 := Lib.hid hm6; have HS6 := Lib.hid hs6; have HI6 := Lib.hid (hs6.kept HI5.out (fun h => fx_not (Nat.le_of_lt hw01) hw12 h.1)); have HJ6 := Lib.hid (hs6.kept HJ5.out (fun h => fx_not (Nat.le_refl _) hw02' h.1)); have HH6 := Lib.hid (hs6.kept HH5.out (fun h => by have := h.2.2; have := HB4.out.size; omega)); clear hm6 hs6; clear c0 c1 c2 c3 c4 c5 d0 d1 d2 d3 d4 d5 d6; obtain ⟨c0, c1, c2, c3, c4, c5⟩ := elf_box HJ6.out; obtain ⟨d0, d1, d2, d3, d4, d5, d6⟩ := seg_box (x := s) HH6.out))
              | (go_at_call 58; go_must (refine (HLAY.out _ _ HM6.out (by have := HB5.out.size; have := HS6.out.size; omega) (Reads.stirs (Reads.mono (Reads.stirs HV.out HST.out (fun k hk => hF k hk)) HB5.out) HS6.out (fun k hk h => HVO.out k hk h.1)) (fun k hk h => h.elim (fun h => HVO.out k hk h.1) (fun h => by have := hvb k hk; have := HB5.out.size; omega)) (fun k hk => by have := hvb k hk; have := HB5.out.size; have := HS6.out.size; omega)).mono ?_; rintro r w7 ⟨⟨p, rfl, hp⟩, hm7, hs7⟩; have HM7 := Lib.hid hm7; have HS7 := Lib.hid hs7; have HP := Lib.hid hp; have HI7 := Lib.hid (hs7.kept HI6.out (fun h => h.elim (fun h => fx_not (Nat.le_of_lt hw01) hw12 h.1) (fun h => by have := HB5.out.size; omega))); have HJ7 := Lib.hid (hs7.kept HJ6.out (fun h => h.elim (fun h => fx_not (Nat.le_refl _) hw02' h.1) (fun h => by have := HB5.out.size; omega))); clear hm7 hs7 hp; clear c0 c1 c2 c3 c4 c5 d0 d1 d2 d3 d4 d5 d6; obtain ⟨c0, c1, c2, c3, c4, c5⟩ := elf_box HJ7.out)))
            refine bodyPost_ret (results_row2 rfl _ _ w1.heap.size _ _ _ _ rfl HH8.out rfl rfl (by kernel_rfl)) rfl ⟨⟨_, by rw [HA.out]; rfl, fun h => absurd (by rw [HA.out] at h; exact h) hr3, fun _ => rfl⟩, ?_, ?_⟩
            · rw [HA4.out]
              exact (HM7.out.stirs HS8.out (fun k hk e => hk.elim (fun h => h.elim (fun h => fx_not (Nat.le_of_lt hw01) hw12 (e ▸ h.1)) (fun h => by have := HB5.out.size; subst e; omega)) (fun h => by have := HB5.out.size; have := HS6.out.size; subst e; omega))).weak (fun k hk => hk.elim (fun h => h.elim (fun h => fx_out hw02 k h.1) (fun h => .inr (by have := HB5.out.size; omega))) (fun h => .inr (by have := HB5.out.size; have := HS6.out.size; omega)))
            · exact stirs_step (stirs_step (stirs_step (HST.out.thenBelow HB5.out) HS6.out (fun k hk => fx_out hw02 k hk.1)) HS7.out (fun k hk => hk.elim (fun h => fx_out hw02 k h.1) (fun h => .inr (by have := HB5.out.size; omega)))) HS8.out (fun k hk => .inr (Nat.le_trans (Nat.le_of_lt hw01) (Nat.le_of_eq (Eq.symm hk))))
        · have e2 : (r2 != 0) = true := by simpa using hr2
          have HA := Lib.hid (show allR e.target l e.segs = (V2, r2) by rw [HA3.out]; unfold bindR; rw [if_neg hr2])
          go_wp2_with (first
            | ((with_reducible show wpList _ _ _ (⟨none, .store _ _ _, _, _, _, _⟩ :: _) _ _); have hq := HI6; clear hq; go_must (refine wpList_storeRowS HI6.out rfl rfl rfl (by kernel_rfl) (by simp [Value.oneCell']) ?_; intro w7 hh7 hs7; have HH7 := Lib.hid hh7; have HS7 := Lib.hid hs7; clear hh7 hs7))
            | ((with_reducible show wpList _ _ _ (⟨none, .store _ _ _, _, _, _, _⟩ :: _) _ _); go_must (refine wpList_storeNew rfl rfl (by kernel_rfl) rfl (by simp [Value.oneCell']) ?_; intro w5 hh5 hb5; have HH5 := Lib.hid hh5; have HB5 := Lib.hid (HB4.out.trans (hb5.mono HB4.out.size)); have HI5 := Lib.hid (heap_below HB5.out (HK1.out.trans HX2.out)); have HJ5 := Lib.hid (heap_below HB5.out (HK0.out.trans HX1.out)); clear hh5 hb5; clear c0 c1 c2 c3 c4 c5; obtain ⟨c0, c1, c2, c3, c4, c5⟩ := elf_box HJ5.out; obtain ⟨d0, d1, d2, d3, d4, d5, d6⟩ := seg_box (x := s) HH5.out))
            | (go_at_call 57; go_must (refine (HTHC.out _ (Below.refl _ _)).mono ?_; rintro r w4 ⟨rfl, hb4⟩; have HB4 := Lib.hid hb4; clear hb4))
            | (go_at_call 32; go_must (refine (HMAP.out _ HB5.out).mono ?_; rintro r w6 ⟨rfl, hm6, hs6⟩; have HM6 := Lib.hid hm6; have HS6 := Lib.hid hs6; have HI6 := Lib.hid (hs6.kept HI5.out (fun h => fx_not (Nat.le_of_lt hw01) hw12 h.1)); have HJ6 := Lib.hid (hs6.kept HJ5.out (fun h => fx_not (Nat.le_refl _) hw02' h.1)); have HH6 := Lib.hid (hs6.kept HH5.out (fun h => by have := h.2.2; have := HB4.out.size; omega)); clear hm6 hs6; clear c0 c1 c2 c3 c4 c5 d0 d1 d2 d3 d4 d5 d6; obtain ⟨c0, c1, c2, c3, c4, c5⟩ := elf_box HJ6.out; obtain ⟨d0, d1, d2, d3, d4, d5, d6⟩ := seg_box (x := s) HH6.out)))
          refine bodyPost_ret (results_row2 rfl _ _ w1.heap.size _ _ _ _ rfl HH7.out rfl rfl (by kernel_rfl)) rfl ⟨⟨_, by rw [HA.out]; rfl, fun h => absurd (by rw [HA.out] at h; exact h) hr2, fun _ => rfl⟩, ?_, ?_⟩
          · rw [HA.out]
            exact (HM6.out.stirs HS7.out (fun k hk e => hk.elim (fun h => fx_not (Nat.le_of_lt hw01) hw12 (e ▸ h.1)) (fun h => by have := HB5.out.size; subst e; omega))).weak (fun k hk => hk.elim (fun h => fx_out hw02 k h.1) (fun h => .inr (by have := HB5.out.size; omega)))
          · exact stirs_step (stirs_step (HST.out.thenBelow HB5.out) HS6.out (fun k hk => fx_out hw02 k hk.1)) HS7.out (fun k hk => .inr (Nat.le_trans (Nat.le_of_lt hw01) (Nat.le_of_eq (Eq.symm hk))))
      · have e1 : (r1 != 0) = true := by simpa using hr1
        have HA := Lib.hid (HA1.out hr1)
        go_wp2_with (first
          | ((with_reducible show wpList _ _ _ (⟨none, .store _ _ _, _, _, _, _⟩ :: _) _ _); have hq := HI5; clear hq; go_must (refine wpList_storeRowS HI5.out rfl rfl rfl (by kernel_rfl) (by simp [Value.oneCell']) ?_; intro w6 hh6 hs6; have HH6 := Lib.hid hh6; have HS6 := Lib.hid hs6; clear hh6 hs6))
          | ((with_reducible show wpList _ _ _ (⟨none, .store _ _ _, _, _, _, _⟩ :: _) _ _); go_must (refine wpList_storeNew rfl rfl (by kernel_rfl) rfl (by simp [Value.oneCell']) ?_; intro w5 hh5 hb5; have HH5 := Lib.hid hh5; have HB5 := Lib.hid (HB4.out.trans (hb5.mono HB4.out.size)); have HI5 := Lib.hid (heap_below HB5.out (HK1.out.trans HX2.out)); have HJ5 := Lib.hid (heap_below HB5.out (HK0.out.trans HX1.out)); clear hh5 hb5; clear c0 c1 c2 c3 c4 c5; obtain ⟨c0, c1, c2, c3, c4, c5⟩ := elf_box HJ5.out; obtain ⟨d0, d1, d2, d3, d4, d5, d6⟩ := seg_box (x := s) HH5.out))
          | (go_at_call 57; go_must (refine (HTHC.out _ (Below.refl _ _)).mono ?_; rintro r w4 ⟨rfl, hb4⟩; have HB4 := Lib.hid hb4; clear hb4)))
        refine bodyPost_ret (results_row2 rfl _ _ w1.heap.size _ _ _ _ rfl HH6.out rfl rfl (by kernel_rfl)) rfl ⟨⟨_, by rw [HA.out]; rfl, fun h => absurd (by rw [HA.out] at h; exact h) hr1, fun _ => rfl⟩, ?_, ?_⟩
        · rw [HA.out]
          exact ((HMN.out.mono HB5.out).stirs HS6.out (fun k hk e => fx_not (Nat.le_of_lt hw01) hw12 (e ▸ hk.1))).weak (fun k hk => fx_out hw02 k hk.1)
        · exact stirs_step (HST.out.thenBelow HB5.out) HS6.out (fun k hk => .inr (Nat.le_trans (Nat.le_of_lt hw01) (Nat.le_of_eq (Eq.symm hk))))
end Go.Proofs.Ytmpelmjhimalpaa
namespace Go.Proofs.Ytmpelmjhimalpaa
open Go.RowKit Go.Fd
theorem results_row3 {P : Program} {fn : Func} {p u v : Tmp} {ty : TypeId} (h : fn.results = #[.cell p ty, .tmp u, .tmp v]) (tmps : Array Value) (w : World) (g : Nat) (t : TypeId) (cs : Array Value) (fr : Nat × Nat) (d : TypeDesc)
    (hp : tmps.getD p undef = .pointer (some ⟨g, 0, none⟩)) (hg : w.heap[g]? = some (.cells cs t fr))
    (hu : P.underlying ty = some d) (hd : (match d with | .struct _ | .array _ _ => true | _ => false) = true) (hi : (P.info? ty).map (·.size) = some cs.size) :
    (results fn tmps).run P w = .ok (.tuple #[.agg cs, tmps.getD u undef, tmps.getD v undef]) w := by
  have h1 := run_loadVar_row w g t ty cs fr d hg hu hd hi
  simp at hp
  simp only [results, h]
  simp [hp, asAddr, Sem.run_bind, Result.andThen, h1]
/-- A program comes, or none. -/
def ProgRes (l : List UInt8) (B : Nat) (r : Ending) (w : World) : Prop :=
  ((progR l).2 ≠ 0 ∧ r = .returned (.tuple #[.agg imgZ, .pointer none, .int .i64 (progR l).2])) ∨
  ((progR l).2 = 0 ∧ ∃ base bp, r = .returned (.tuple #[.agg #[.int .i64 (readE l).1.target, .int .u64 (readE l).1.entry, .int .u64 1099511627712, .int .u64 (ptR (readE l).1.target (thR l.length (readE l).1.segs 0 seg1).1 : Nat)], ptr bp, .int .i64 0]) ∧ B ≤ base ∧ base ≤ w.heap.size ∧ Mem w base bp (fun k => B ≤ k) (progR l).1)
theorem own_lt {w : World} {B n : Nat} {f : SegM → List Value} {t : TypeId} {v : Value} {G : List SegM} (h : OwR n f t w B v G) {k : Nat} (hk : v.ownBlock = some k) : k < w.heap.size := by
  have h' : w.ownsRow B t n v G.length (G.flatMap f) := h
  rcases h'.2 with h2 | ⟨g, cap, cur, hv, hg, hh, r⟩
  · rw [h2.1] at hk
    cases hk
  · rw [hv] at hk
    injection hk with hk
    subst hk
    exact (Array.getElem?_eq_some_iff.1 hh).1
theorem read_segs {l : List UInt8} (h : (readE l).2 = 0) : (readE l).1.segs.length ≤ 16 ∧ ∀ s ∈ (readE l).1.segs, s.fits ∧ 1 ≤ s.align ∧ s.align ≤ 65536 := by
  unfold readE at h ⊢
  split at h
  · next hc => exact absurd h hc
  · next hc =>
    rw [if_neg hc]
    split at h
    · next hm =>
      rw [if_pos hm]
      have h2 := hm.2.1
      unfold mayE may1 may2 at h2
      simp only [Bool.and_eq_true, decide_eq_true_eq, List.all_eq_true] at h2
      refine ⟨h2.1.1.2, fun s hs => ⟨?_, powB_le (h2.1.2.2 s hs)⟩⟩
      have hs' : s ∈ segsP l (nsegsP l) := hs
      unfold segsP at hs'
      obtain ⟨i, -, rfl⟩ := List.mem_map.1 hs'
      exact segP_fits _ _
    · cases h
theorem prog_c {l : List UInt8} (h : (readE l).2 ≠ 0) : progR l = ([], (readE l).2) := by unfold progR; rw [if_pos h]
theorem prog_t {l : List UInt8} (h : (readE l).2 = 0) (ht : (readE l).1.typ ≠ 2) : progR l = ([], 4) := by unfold progR; rw [if_neg (fun h' => h' h), if_pos ht]
theorem prog_a {l : List UInt8} (h : (readE l).2 = 0) (ht : (readE l).1.typ = 2) : progR l = allR (readE l).1.target l (readE l).1.segs := by unfold progR; rw [if_neg (fun h' => h' h), if_neg (fun h' => h' ht)]
attribute [local irreducible] progR readE allR thR ptR
set_option maxHeartbeats 2000000 in
set_option maxRecDepth 100000 in
theorem program_any (l : List UInt8) (v : Value) (w : World) (hl : l.length ≤ 1000000000) (hv : Bs w v l) (hvb : ∀ k, v.ownBlock = some k → k < w.heap.size) :
    Calls Try.prog 8 #[v] w fun r w' => ProgRes l w.heap.size r w' ∧ Below w.heap.size w w' := by
  have HV := Lib.hid hv
  have HVB := Lib.hid hvb
  clear hv hvb
  obtain ⟨e, c, hre⟩ : ∃ e c, readE l = (e, c) := ⟨_, _, rfl⟩
  have HRD := Lib.hid (show ∀ wx, Below w.heap.size w wx → Calls Try.prog 25 #[v] wx (fun r w' => (∃ L sv gv, r = .returned (.tuple #[elfV e sv gv, .int .i64 c]) ∧ ElfOwn w' wx.heap.size e L sv gv) ∧ Below wx.heap.size wx w') from fun wx hb => (readE_any l v wx hl (HV.out.mono hb)).mono (by rintro r w' ⟨⟨L, sv, gv, h1, h2⟩, h3⟩; rw [hre] at h1 h2; exact ⟨⟨L, sv, gv, h1, h2⟩, h3⟩))
  have HS0 := Lib.hid (fun h => read_segs (l := l) h)
  have HPC := Lib.hid (fun h => prog_c (l := l) h)
  have HPT := Lib.hid (fun h h2 => prog_t (l := l) h h2)
  have HPA := Lib.hid (fun h h2 => prog_a (l := l) h h2)
  rw [hre] at HS0 HPC HPT HPA
  have HRE := Lib.hid hre
  clear hre
  by_cases hc : c = 0
  · subst hc
    have HSG := Lib.hid (HS0.out rfl)
    by_cases ht : e.typ = 2
    · have HP := Lib.hid (HPA.out rfl ht)
      have et : (e.typ != 2) = false := by simpa using ht
      have HTY := Lib.hid ht
      clear ht
      generalize hal : allR e.target l e.segs = al at *
      have HAL := Lib.hid hal
      obtain ⟨V, r⟩ := al
      clear hal
      by_cases hr : r = 0
      · subst hr
        have HALL := Lib.hid (show ∀ (wx : World) (B bp : Nat) (L : List (SecM × Value)) (sv gv : Value), ElfAt wx e L sv gv → Mem wx B bp (fun k => B ≤ k) [] → B ≤ wx.heap.size → Bs wx v l → w.heap.size ≤ B → (∀ k, gv.ownBlock = some k → k < B) →
            Calls Try.prog 26 #[ptr bp, elfV e sv gv, v] wx (fun r' w' => r' = .returned (.tuple #[.agg #[.int .i64 e.target, .int .u64 e.entry, .int .u64 1099511627712, .int .u64 (ptR e.target (thR l.length e.segs 0 seg1).1 : Nat)], .int .i64 0]) ∧ Mem w' B bp (more (fun k => B ≤ k) wx) V ∧ Stirs (fun k => B ≤ k) wx w') from fun wx B bp L sv gv h1 h2 h3 h4 h5 h6 => by
            exact (ldAll_any e L sv gv v l wx h1 h2 h3 h4 hl (fun k hk h => absurd (HVB.out k hk) (Nat.not_lt.2 (Nat.le_trans h5 h))) (fun k hk => Nat.lt_of_lt_of_le (HVB.out k hk) (Nat.le_trans h5 h3)) (fun k hk h => absurd (h6 k hk) (Nat.not_lt.2 h)) HSG.out.1 HSG.out.2).mono (by
              rw [HAL.out]
              rintro r' w' ⟨⟨img, rfl, himg⟩, hm5, hs5⟩
              obtain rfl := himg.1 rfl
              exact ⟨rfl, hm5, hs5⟩))
        go_enter Try.func8, Try.ntmps8
        go_wp2_with (first
          | ((with_reducible show wpList _ _ _ (⟨some 2, .alloc _, _, _, _, _⟩ :: _) _ _); go_must (refine wpList_allocImg ?_; intro w1 hx1 hb1 hs1; have HX1 := Lib.hid hx1; have HB1 := Lib.hid hb1; have hw01 : w.heap.size < w1.heap.size := hs1; clear hx1 hb1 hs1))
          | (go_at_call 25; go_must (refine (HRD.out _ HB1.out).mono ?_; rintro r w2 ⟨⟨L, sv, gv, rfl, hown⟩, hb2⟩; obtain ⟨sn, sa, sc, -, rfl, _, _⟩ := hown.so.shape; obtain ⟨gn, ga, gc, -, rfl, _, _⟩ := hown.go.shape; have HOW := Lib.hid hown; have HX2 := Lib.hid (heap_below hb2 HX1.out); have HB2 := Lib.hid (HB1.out.trans (hb2.mono HB1.out.size)); have hw12 := hb2.size; clear hb2 hown))
          | ((with_reducible show wpList _ _ _ (⟨none, .store _ _ _, _, _, _, _⟩ :: _) _ _); have hq := HX6; clear hq; go_must (refine wpList_storeRowS HX6.out rfl rfl rfl (by kernel_rfl) (by simp [Value.oneCell']) ?_; intro w7 hh7 hs7; have HH7 := Lib.hid hh7; have HS7 := Lib.hid hs7; clear hh7 hs7))
          | ((with_reducible show wpList _ _ _ (⟨none, .store _ _ _, _, _, _, _⟩ :: _) _ _); have hq := HX5; clear hq; go_must (refine wpList_storeNew rfl rfl (by kernel_rfl) rfl (by simp [Value.oneCell']) ?_; intro w6 hh6 hb6; have i0 := cell_rec hh6 0; have i1 := cell_rec hh6 1; have i2 := cell_rec hh6 2; have i3 := cell_rec hh6 3; have HX6 := Lib.hid (heap_below hb6 HX5.out); have HB6 := Lib.hid hb6; clear hh6 hb6))
          | ((with_reducible show wpList _ _ _ (⟨none, .store _ _ _, _, _, _, _⟩ :: _) _ _); have hq := HX2; clear hq; go_must (refine wpList_storeNew rfl rfl (by kernel_rfl) rfl (by simp [Value.oneCell']) ?_; intro w3 hh3 hb3; obtain ⟨c0, c1, c2, c3, c4, c5⟩ := elf_box (e := e) hh3; have HX3 := Lib.hid (heap_below hb3 HX2.out); have HH3 := Lib.hid hh3; have HB3 := Lib.hid (HB2.out.trans (hb3.mono HB2.out.size)); have HOW3 := Lib.hid (HOW.out.at.mono hb3); have hw23 := hb3.size; clear hh3 hb3))
          | (go_at_call 16; go_must (refine (new_mem w3).mono ?_; rintro r w4 ⟨bp, rfl, hm4, hb4⟩; have HM4 := Lib.hid hm4; have HX4 := Lib.hid (heap_below hb4 HX3.out); have HH4 := Lib.hid (heap_below hb4 HH3.out); have HB4 := Lib.hid (HB3.out.trans (hb4.mono HB3.out.size)); have HOW4 := Lib.hid (HOW3.out.mono hb4); have hw34 := hb4.size; clear hm4 hb4; clear c0 c1 c2 c3 c4 c5; obtain ⟨c0, c1, c2, c3, c4, c5⟩ := elf_box (e := e) HH4.out))
          | (go_at_call 26; go_must (refine (HALL.out _ _ _ _ _ _ HOW4.out HM4.out hw34 (HV.out.mono HB4.out) (Nat.le_trans (Nat.le_of_lt hw01) (Nat.le_trans hw12 hw23)) (fun k hk => Nat.lt_of_lt_of_le (own_lt HOW.out.go hk) hw23)).mono ?_; rintro r w5 ⟨rfl, hm5, hs5⟩; have HM5 := Lib.hid hm5; have HX5 := Lib.hid (hs5.kept HX4.out (fun h => by have h' : w3.heap.size ≤ w.heap.size := h; omega)); have HB5 := Lib.hid (HB4.out.trans ((hs5.below (B := w3.heap.size) hw34 (fun k h => h)).mono HB3.out.size)); have hw35 := Nat.le_trans hw34 hs5.size; clear hm5 hs5)))
        refine bodyPost_ret (results_row3 rfl _ _ w.heap.size _ _ _ _ rfl HH7.out rfl rfl (by kernel_rfl)) rfl ⟨.inr ⟨by rw [HP.out], w3.heap.size, bp, ?_, HB3.out.size, ?_, ?_⟩, ?_⟩
        · rw [HRE.out]
          rfl
        · exact Nat.le_trans hw35 (Nat.le_trans HB6.out.size HS7.out.size)
        · rw [HP.out]
          exact ((HM5.out.mono HB6.out).stirs HS7.out (fun k hk e => hk.elim (fun h => by have h' : w3.heap.size ≤ k := h; have e' : k = w.heap.size := e; omega) (fun h => by have e' : k = w.heap.size := e; omega))).weak (fun k hk => hk.elim (fun h => Nat.le_trans (by omega) h) (fun h => Nat.le_trans (by omega) h))
        · exact (HB5.out.trans (HB6.out.mono HB5.out.size)).trans (HS7.out.below (Nat.le_trans HB5.out.size HB6.out.size) (fun k h => Nat.le_of_eq (Eq.symm h)))
      · have er : (r != 0) = true := by simpa using hr
        have HALL := Lib.hid (show ∀ (wx : World) (B bp : Nat) (L : List (SecM × Value)) (sv gv : Value), ElfAt wx e L sv gv → Mem wx B bp (fun k => B ≤ k) [] → B ≤ wx.heap.size → Bs wx v l → w.heap.size ≤ B → (∀ k, gv.ownBlock = some k → k < B) →
            Calls Try.prog 26 #[ptr bp, elfV e sv gv, v] wx (fun r' w' => r' = .returned (.tuple #[.agg imgZ, .int .i64 r]) ∧ Mem w' B bp (more (fun k => B ≤ k) wx) V ∧ Stirs (fun k => B ≤ k) wx w') from fun wx B bp L sv gv h1 h2 h3 h4 h5 h6 => by
            exact (ldAll_any e L sv gv v l wx h1 h2 h3 h4 hl (fun k hk h => absurd (HVB.out k hk) (Nat.not_lt.2 (Nat.le_trans h5 h))) (fun k hk => Nat.lt_of_lt_of_le (HVB.out k hk) (Nat.le_trans h5 h3)) (fun k hk h => absurd (h6 k hk) (Nat.not_lt.2 h)) HSG.out.1 HSG.out.2).mono (by
              rw [HAL.out]
              rintro r' w' ⟨⟨img, rfl, himg⟩, hm5, hs5⟩
              obtain rfl := himg.2 hr
              exact ⟨rfl, hm5, hs5⟩))
        go_enter Try.func8, Try.ntmps8
        go_wp2_with (first
          | ((with_reducible show wpList _ _ _ (⟨some 2, .alloc _, _, _, _, _⟩ :: _) _ _); go_must (refine wpList_allocImg ?_; intro w1 hx1 hb1 hs1; have HX1 := Lib.hid hx1; have HB1 := Lib.hid hb1; have hw01 : w.heap.size < w1.heap.size := hs1; clear hx1 hb1 hs1))
          | (go_at_call 25; go_must (refine (HRD.out _ HB1.out).mono ?_; rintro r w2 ⟨⟨L, sv, gv, rfl, hown⟩, hb2⟩; obtain ⟨sn, sa, sc, -, rfl, _, _⟩ := hown.so.shape; obtain ⟨gn, ga, gc, -, rfl, _, _⟩ := hown.go.shape; have HOW := Lib.hid hown; have HX2 := Lib.hid (heap_below hb2 HX1.out); have HB2 := Lib.hid (HB1.out.trans (hb2.mono HB1.out.size)); have hw12 := hb2.size; clear hb2 hown))
          | ((with_reducible show wpList _ _ _ (⟨none, .store _ _ _, _, _, _, _⟩ :: _) _ _); have hq := HX6; clear hq; go_must (refine wpList_storeRowS HX6.out rfl rfl rfl (by kernel_rfl) (by simp [Value.oneCell']) ?_; intro w7 hh7 hs7; have HH7 := Lib.hid hh7; have HS7 := Lib.hid hs7; clear hh7 hs7))
          | ((with_reducible show wpList _ _ _ (⟨none, .store _ _ _, _, _, _, _⟩ :: _) _ _); have hq := HX5; clear hq; go_must (refine wpList_storeNew rfl rfl (by kernel_rfl) rfl (by simp [Value.oneCell']) ?_; intro w6 hh6 hb6; have i0 := cell_rec hh6 0; have i1 := cell_rec hh6 1; have i2 := cell_rec hh6 2; have i3 := cell_rec hh6 3; have HX6 := Lib.hid (heap_below hb6 HX5.out); have HB6 := Lib.hid hb6; clear hh6 hb6))
          | ((with_reducible show wpList _ _ _ (⟨none, .store _ _ _, _, _, _, _⟩ :: _) _ _); have hq := HX2; clear hq; go_must (refine wpList_storeNew rfl rfl (by kernel_rfl) rfl (by simp [Value.oneCell']) ?_; intro w3 hh3 hb3; obtain ⟨c0, c1, c2, c3, c4, c5⟩ := elf_box (e := e) hh3; have HX3 := Lib.hid (heap_below hb3 HX2.out); have HH3 := Lib.hid hh3; have HB3 := Lib.hid (HB2.out.trans (hb3.mono HB2.out.size)); have HOW3 := Lib.hid (HOW.out.at.mono hb3); have hw23 := hb3.size; clear hh3 hb3))
          | (go_at_call 16; go_must (refine (new_mem w3).mono ?_; rintro r w4 ⟨bp, rfl, hm4, hb4⟩; have HM4 := Lib.hid hm4; have HX4 := Lib.hid (heap_below hb4 HX3.out); have HH4 := Lib.hid (heap_below hb4 HH3.out); have HB4 := Lib.hid (HB3.out.trans (hb4.mono HB3.out.size)); have HOW4 := Lib.hid (HOW3.out.mono hb4); have hw34 := hb4.size; clear hm4 hb4; clear c0 c1 c2 c3 c4 c5; obtain ⟨c0, c1, c2, c3, c4, c5⟩ := elf_box (e := e) HH4.out))
          | (go_at_call 26; go_must (refine (HALL.out _ _ _ _ _ _ HOW4.out HM4.out hw34 (HV.out.mono HB4.out) (Nat.le_trans (Nat.le_of_lt hw01) (Nat.le_trans hw12 hw23)) (fun k hk => Nat.lt_of_lt_of_le (own_lt HOW.out.go hk) hw23)).mono ?_; rintro r w5 ⟨rfl, hm5, hs5⟩; have HM5 := Lib.hid hm5; have HX5 := Lib.hid (hs5.kept HX4.out (fun h => by have h' : w3.heap.size ≤ w.heap.size := h; omega)); have HB5 := Lib.hid (HB4.out.trans ((hs5.below (B := w3.heap.size) hw34 (fun k h => h)).mono HB3.out.size)); have hw35 := Nat.le_trans hw34 hs5.size; clear hm5 hs5)))
        refine bodyPost_ret (results_row3 rfl _ _ w.heap.size _ _ _ _ rfl HH7.out rfl rfl (by kernel_rfl)) rfl ⟨.inl ⟨by rw [HP.out]; exact hr, by rw [HP.out]; rfl⟩, ?_⟩
        exact (HB5.out.trans (HB6.out.mono HB5.out.size)).trans (HS7.out.below (Nat.le_trans HB5.out.size HB6.out.size) (fun k h => Nat.le_of_eq (Eq.symm h)))
    · have HP := Lib.hid (HPT.out rfl ht)
      have et : (e.typ != 2) = true := by simpa using ht
      go_enter Try.func8, Try.ntmps8
      go_wp2_with (first
        | ((with_reducible show wpList _ _ _ (⟨some 2, .alloc _, _, _, _, _⟩ :: _) _ _); go_must (refine wpList_allocImg ?_; intro w1 hx1 hb1 hs1; have HX1 := Lib.hid hx1; have HB1 := Lib.hid hb1; have hw01 : w.heap.size < w1.heap.size := hs1; clear hx1 hb1 hs1))
        | (go_at_call 25; go_must (refine (HRD.out _ HB1.out).mono ?_; rintro r w2 ⟨⟨L, sv, gv, rfl, hown⟩, hb2⟩; obtain ⟨sn, sa, sc, -, rfl, _, _⟩ := hown.so.shape; obtain ⟨gn, ga, gc, -, rfl, _, _⟩ := hown.go.shape; have HOW := Lib.hid hown; have HX2 := Lib.hid (heap_below hb2 HX1.out); have HB2 := Lib.hid (HB1.out.trans (hb2.mono HB1.out.size)); have hw12 := hb2.size; clear hb2 hown))
        | ((with_reducible show wpList _ _ _ (⟨none, .store _ _ _, _, _, _, _⟩ :: _) _ _); have hq := HX3; clear hq; go_must (refine wpList_storeRowS HX3.out rfl rfl rfl (by kernel_rfl) (by simp [Value.oneCell']) ?_; intro w4 hh4 hs4; have HH4 := Lib.hid hh4; have HS4 := Lib.hid hs4; clear hh4 hs4))
        | ((with_reducible show wpList _ _ _ (⟨none, .store _ _ _, _, _, _, _⟩ :: _) _ _); have hq := HX2; clear hq; go_must (refine wpList_storeNew rfl rfl (by kernel_rfl) rfl (by simp [Value.oneCell']) ?_; intro w3 hh3 hb3; obtain ⟨c0, c1, c2, c3, c4, c5⟩ := elf_box (e := e) hh3; have HX3 := Lib.hid (heap_below hb3 HX2.out); have HH3 := Lib.hid hh3; have HB3 := Lib.hid (HB2.out.trans (hb3.mono HB2.out.size)); have HOW3 := Lib.hid (HOW.out.at.mono hb3); have hw23 := hb3.size; clear hh3 hb3)))
      refine bodyPost_ret (results_row3 rfl _ _ w.heap.size _ _ _ _ rfl HH4.out rfl rfl (by kernel_rfl)) rfl ⟨.inl ⟨by rw [HP.out]; exact (by decide : (4 : Int) ≠ 0), by rw [HP.out]; rfl⟩, ?_⟩
      exact HB3.out.trans (HS4.out.below HB3.out.size (fun k h => Nat.le_of_eq (Eq.symm h)))
  · have HP := Lib.hid (HPC.out hc)
    have ec : (c != 0) = true := by simpa using hc
    go_enter Try.func8, Try.ntmps8
    go_wp2_with (first
      | ((with_reducible show wpList _ _ _ (⟨some 2, .alloc _, _, _, _, _⟩ :: _) _ _); go_must (refine wpList_allocImg ?_; intro w1 hx1 hb1 hs1; have HX1 := Lib.hid hx1; have HB1 := Lib.hid hb1; have hw01 : w.heap.size < w1.heap.size := hs1; clear hx1 hb1 hs1))
      | (go_at_call 25; go_must (refine (HRD.out _ HB1.out).mono ?_; rintro r w2 ⟨⟨L, sv, gv, rfl, hown⟩, hb2⟩; obtain ⟨sn, sa, sc, -, rfl, _, _⟩ := hown.so.shape; obtain ⟨gn, ga, gc, -, rfl, _, _⟩ := hown.go.shape; have HOW := Lib.hid hown; have HX2 := Lib.hid (heap_below hb2 HX1.out); have HB2 := Lib.hid (HB1.out.trans (hb2.mono HB1.out.size)); have hw12 := hb2.size; clear hb2 hown))
      | ((with_reducible show wpList _ _ _ (⟨none, .store _ _ _, _, _, _, _⟩ :: _) _ _); have hq := HX3; clear hq; go_must (refine wpList_storeRowS HX3.out rfl rfl rfl (by kernel_rfl) (by simp [Value.oneCell']) ?_; intro w4 hh4 hs4; have HH4 := Lib.hid hh4; have HS4 := Lib.hid hs4; clear hh4 hs4))
      | ((with_reducible show wpList _ _ _ (⟨none, .store _ _ _, _, _, _, _⟩ :: _) _ _); have hq := HX2; clear hq; go_must (refine wpList_storeNew rfl rfl (by kernel_rfl) rfl (by simp [Value.oneCell']) ?_; intro w3 hh3 hb3; obtain ⟨c0, c1, c2, c3, c4, c5⟩ := elf_box (e := e) hh3; have HX3 := Lib.hid (heap_below hb3 HX2.out); have HH3 := Lib.hid hh3; have HB3 := Lib.hid (HB2.out.trans (hb3.mono HB2.out.size)); have HOW3 := Lib.hid (HOW.out.at.mono hb3); have hw23 := hb3.size; clear hh3 hb3)))
    refine bodyPost_ret (results_row3 rfl _ _ w.heap.size _ _ _ _ rfl HH4.out rfl rfl (by kernel_rfl)) rfl ⟨.inl ⟨by rw [HP.out]; exact hc, by rw [HP.out]; rfl⟩, ?_⟩
    exact HB3.out.trans (HS4.out.below HB3.out.size (fun k h => Nat.le_of_eq (Eq.symm h)))
end Go.Proofs.Ytmpelmjhimalpaa
namespace Go.Proofs.Ytmpelmjhimalpaa
open Go.RowKit Go.Fd
theorem wpList_litB1 {ops : Array Oper} {rest : List Oper} {Q : Exit → Act → World → Prop} {a : Act} {w : World} {d : Option Tmp} {ty : TypeId} {pos : String} {aft : Array Edge}
    (h : ∀ w1, w1.heap[w.heap.size]? = some (.cells #[.int .u8 1] 5 (0, 0)) → Below w.heap.size w w1 → w.heap.size < w1.heap.size → wpList Try.prog ops Q rest (a.put d (.slice (some ⟨w.heap.size, 0, none⟩) 1 1)) w1) :
    wpList Try.prog ops Q (⟨d, .buildSlice 22 1 #[(0, .const (.int .u8 1))], ty, pos, aft, none⟩ :: rest) a w :=
  wpList_val rfl (by kernel_rfl) (h (w.alloc (.cells #[.int .u8 1] 5)) (heap_alloc_last w _) (below_alloc w _) (by rw [World.size_alloc]; omega))
theorem wpList_oneSec {ops : Array Oper} {rest : List Oper} {Q : Exit → Act → World → Prop} {x : Operand} {s : SecM} {p : Option Addr} {m c : Nat} {a : Act} {w : World} {d : Option Tmp} {ty : TypeId} {pos : String} {aft : Array Edge} (hx : a.eval x = secV (s, .slice p m c))
    (h : ∀ w1, w1.heap[w.heap.size]? = some (.cells (encSec (s, .slice p m c)).toArray 27 (0, 0)) → Below w.heap.size w w1 → w.heap.size < w1.heap.size → wpList Try.prog ops Q rest (a.put d (.slice (some ⟨w.heap.size, 0, none⟩) 1 1)) w1) :
    wpList Try.prog ops Q (⟨d, .buildSlice 28 1 #[(0, x)], ty, pos, aft, none⟩ :: rest) a w :=
  wpList_val rfl (run_oneSec hx) (h _ (heap_alloc_last w _) (below_alloc w _) (by rw [World.size_alloc]; omega))
end Go.Proofs.Ytmpelmjhimalpaa
namespace Go.Proofs.Ytmpelmjhimalpaa
open Go.RowKit Go.Fd
abbrev segL : SegM := ⟨1, 5, 0, 65536, 4, 8, 4096⟩
abbrev elfL : ElfM := ⟨2, 3, 0, 65536, [], [segL]⟩
set_option maxRecDepth 100000 in
theorem elfL_may : mayE elfL = true ∧ (fileB elfL).length = 264 := by decide +kernel
theorem elfL_ok : ElfOk elfL := ⟨⟨by decide, by decide, by decide, by decide, (fun s hs => by cases hs), (fun s hs => by rw [List.mem_singleton] at hs; subst hs; exact ⟨by decide, by decide, by decide, by decide, by decide, by decide, by decide⟩)⟩, by decide, (fun s hs => by cases hs), by decide, by decide⟩
set_option maxRecDepth 100000 in
theorem elfL_all : (allR 3 (fileB elfL) [segL]).2 = 0 ∧ loadR (allR 3 (fileB elfL) [segL]).1 65536 4 = (1179403647, 0) := by decide +kernel
theorem prog_nil : progR [] = ([], 2) := by
  have h : readE [] = (elf0, 2) := by
    unfold readE
    rw [if_pos (by decide +kernel)]
    exact congrArg (fun x => (elf0, x)) (by decide +kernel)
  unfold progR
  rw [h, if_pos (by decide)]
theorem ob_lt {w : World} {B : Nat} {v : Value} {l : List UInt8} (h : OB w B v l) {k : Nat} (hk : v.ownBlock = some k) : k < w.heap.size := by
  rcases h.2 with h2 | ⟨g, cap, cur, hv, hg, hh, r⟩
  · rw [h2.1] at hk
    cases hk
  · rw [hv] at hk
    injection hk with hk
    subst hk
    exact (Array.getElem?_eq_some_iff.1 hh).1
theorem wpList_oneSeg {ops : Array Oper} {rest : List Oper} {Q : Exit → Act → World → Prop} {x : Operand} {s : SegM} {a : Act} {w : World} {d : Option Tmp} {ty : TypeId} {pos : String} {aft : Array Edge} (hx : a.eval x = .agg (encSeg s).toArray)
    (h : ∀ w1, w1.heap[w.heap.size]? = some (.cells (encSeg s).toArray 30 (0, 0)) → Below w.heap.size w w1 → w.heap.size < w1.heap.size → wpList Try.prog ops Q rest (a.put d (.slice (some ⟨w.heap.size, 0, none⟩) 1 1)) w1) :
    wpList Try.prog ops Q (⟨d, .buildSlice 31 1 #[(0, x)], ty, pos, aft, none⟩ :: rest) a w :=
  wpList_val rfl (run_oneSeg hx) (h _ (heap_alloc_last w _) (below_alloc w _) (by rw [World.size_alloc]; omega))
theorem progL : (progR (fileB elfL)).2 = 0 ∧ loadR (progR (fileB elfL)).1 65536 4 = (1179403647, 0) := by
  have h : readE (fileB elfL) = (elfL, 0) := read_back elfL_may.1 elfL_ok.fits
  have h2 : progR (fileB elfL) = allR 3 (fileB elfL) [segL] := by
    rw [prog_a (by rw [h]) (by rw [h]), h]
  rw [h2]
  exact elfL_all
set_option maxHeartbeats 4000000 in
set_option maxRecDepth 100000 in
theorem begun26_any (w : World) : Calls Try.prog 6 #[] w fun e w' => e = .returned (.bool true) ∧ Below w.heap.size w w' := by
  have HW := Lib.hid (fun (wx : World) (g : Nat) (h : wx.heap[g]? = some (.cells (encSeg segL).toArray 30 (0, 0))) => writeE_any elfL [] (.slice none 0 0) (.slice (some ⟨g, 0, none⟩) 1 1) wx ⟨rfl, RdR.nil _ _ _, (fun p hp => by cases hp), rd_one rfl h rfl⟩ elfL_ok)
  rw [fileW_ok elfL_may.1] at HW
  have HLB := Lib.hid elfL_may.2
  have HRB := Lib.hid (read_back elfL_may.1 elfL_ok.fits)
  have HPL := Lib.hid progL
  generalize fileB elfL = B at *
  have HPR := Lib.hid (fun (wx : World) (v : Value) (hv : Bs wx v B) (hvb : ∀ k, v.ownBlock = some k → k < wx.heap.size) => program_any B v wx (by have := HLB.out; omega) hv hvb)
  have HPN := Lib.hid (fun (wx : World) => program_any [] (.slice none 0 0) wx (by decide) (Bs.nil wx) (fun k h => by cases h))
  go_enter Try.func6, Try.ntmps6
  go_wp2_with (first
    | ((with_reducible show wpList _ _ _ (⟨some 13, _, _, _, _, _⟩ :: _) _ _); go_must (refine wpList_oneSeg (s := segL) rfl ?_; intro w1 hx1 hb1 hs1; have HX1 := Lib.hid hx1; have HB1 := Lib.hid hb1; clear hx1 hb1))
    | ((with_reducible show wpList _ _ _ (⟨some 1, .alloc _, _, _, _, _⟩ :: _) _ _); go_must (refine wpList_allocElf ?_; intro w2 hx2 hb2 hs2; have HX2 := Lib.hid hx2; have HX12 := Lib.hid (heap_below hb2 HX1.out); have HB2 := Lib.hid (HB1.out.trans (hb2.mono HB1.out.size)); clear hx2 hb2))
    | ((with_reducible show wpList _ _ _ (⟨none, .store _ (.tmp 1) _, _, _, _, _⟩ :: _) _ _); go_must (refine wpList_storeElfS HX2.out rfl rfl rfl rfl (by simp [Value.oneCell']) ?_; intro w3 hh3 hs3; have HH3 := Lib.hid hh3; have HX3 := Lib.hid (hs3.kept HX12.out (fun h => by omega)); have HB3 := Lib.hid (HB2.out.trans (hs3.below HB2.out.size (fun j hj => by omega))); obtain ⟨c0, c1, c2, c3, c4, c5⟩ := elf_box (e := elfL) (sv := .slice none 0 0) (gv := .slice (some ⟨w.heap.size, 0, none⟩) 1 1) HH3.out; clear hh3 hs3)))
  refine (HW.out _ _ HX3.out).mono ?_
  rintro e w4 ⟨v1, rfl, hv1, hb4⟩
  have HV1 := Lib.hid hv1.bs
  have HVL := Lib.hid (fun k hk => ob_lt hv1 (k := k) hk)
  have HB4 := Lib.hid (HB3.out.trans (hb4.mono HB3.out.size))
  obtain ⟨m1, a1, q1, hm1, rfl, _, _⟩ := hv1.shape
  clear hv1 hb4 c0 c1 c2 c3 c4 c5
  go_wp2_with fail
  refine (HPR.out _ _ HV1.out HVL.out).mono ?_
  rintro e w5 ⟨hpr, hb5⟩
  rcases hpr with ⟨h0, -⟩ | ⟨-, base, bp, rfl, hbase, hbw, hm⟩
  · exact absurd HPL.out.1 h0
  have HM := Lib.hid hm
  have HB5 := Lib.hid (HB4.out.trans (hb5.mono HB4.out.size))
  clear hm hb5
  rw [HRB.out]
  generalize ptR elfL.target (thR B.length elfL.segs 0 seg1).1 = pt at *
  go_wp2_with ((with_reducible show wpList _ _ _ (⟨none, .store _ _ _, _, _, _, _⟩ :: _) _ _); go_must (refine wpList_storeNew rfl rfl (by kernel_rfl) rfl (by simp [Value.oneCell']) ?_; intro w6 hh6 hb6; have HX6 := Lib.hid hh6; have HB6 := Lib.hid (HB5.out.trans (hb6.mono HB5.out.size)); have HM6 := Lib.hid (HM.out.mono hb6); clear hh6 hb6))
  have HLD := Lib.hid (load_mem _ HM6.out 65536 (by decide) 4)
  rw [HPL.out.2] at HLD
  have i0 := cell_rec HX6.out 0
  have i1 := cell_rec HX6.out 1
  go_wp2_with fail
  refine HLD.out.mono ?_
  rintro e w7 ⟨rfl, rfl⟩
  go_wp2_with fail
  refine (HPN.out _).mono ?_
  rintro e w8 ⟨hpn, hb8⟩
  rcases hpn with ⟨-, rfl⟩ | ⟨h0, -⟩
  rotate_left
  · rw [prog_nil] at h0
    exact absurd h0 (by decide)
  rw [prog_nil]
  have HX8 := Lib.hid (heap_below hb8 HX6.out)
  have HB8 := Lib.hid (HB6.out.trans (hb8.mono HB6.out.size))
  clear hb8 i0 i1
  go_wp2_with ((with_reducible show wpList _ _ _ (⟨none, .store _ _ _, _, _, _, _⟩ :: _) _ _); go_must (refine wpList_storeNew rfl rfl (by kernel_rfl) rfl (by simp [Value.oneCell']) ?_; intro w9 hh9 hb9; have HX9 := Lib.hid (heap_below hb9 HX8.out); have HB9 := Lib.hid (HB8.out.trans (hb9.mono HB8.out.size)); have i0 := cell_rec HX9.out 0; have i1 := cell_rec HX9.out 1; clear hh9 hb9))
  go_ret
  exact ⟨rfl, HB9.out⟩
end Go.Proofs.Ytmpelmjhimalpaa
namespace Go.Proofs.Ytmpelmjhimalpaa
open Go.RowKit Go.Fd
theorem shl8 {k : Nat} : ∃ al : Nat, al = 2 ^ (k % 8) ∧ powB al = true ∧ 1 ≤ al ∧ al ≤ 128 := by
  refine ⟨_, rfl, ?_⟩
  have h : k % 8 < 8 := Nat.mod_lt _ (by decide)
  generalize k % 8 = j at *
  have : ∀ j : Fin 8, powB (2 ^ j.val) = true ∧ 1 ≤ 2 ^ j.val ∧ 2 ^ j.val ≤ 128 := by decide +kernel
  exact this ⟨j, h⟩
set_option maxRecDepth 100000 in
theorem thread_early (t : Int) (d : List UInt8) (v : Value) (n k : Nat) (w : World) (hv : Bs w v d) (h : t < 1 ∨ 3 < t ∨ 200 < d.length) :
    Calls Try.prog 3 #[.int .i64 t, v, .int .u8 n, .int .u8 k] w fun e w' => e = .returned (.bool true) ∧ Below w.heap.size w w' := by
  obtain ⟨m, ad, cap, hm, rfl, hmc, _⟩ := hv.shape
  have hm' : t < 1 ∨ 3 < t ∨ 200 < m := by have := hm.out; omega
  clear h
  by_cases h1 : t < 1
  · clear hm'
    go_enter Try.func3, Try.ntmps3
    go_wp2_with (go_at_call 6; go_must (refine (begun26_any _).mono ?_; rintro e w1 ⟨rfl, hb1⟩))
    go_ret
    exact ⟨rfl, hb1⟩
  · by_cases h2 : 3 < t
    · clear hm'
      go_enter Try.func3, Try.ntmps3
      go_wp2_with (go_at_call 6; go_must (refine (begun26_any _).mono ?_; rintro e w1 ⟨rfl, hb1⟩))
      go_ret
      exact ⟨rfl, hb1⟩
    · have h3 : 200 < m := by omega
      clear hm'
      go_enter Try.func3, Try.ntmps3
      go_wp2_with (go_at_call 6; go_must (refine (begun26_any _).mono ?_; rintro e w1 ⟨rfl, hb1⟩))
      go_ret
      exact ⟨rfl, hb1⟩
set_option maxHeartbeats 40000000 in
set_option maxRecDepth 100000 in
theorem loadThread_any (t : Int) (d : List UInt8) (v : Value) (n k : Nat) (w : World) (hv : Bs w v d) (hn : n < 256) (hk : k < 256) (h1 : 1 ≤ t) (h3 : t ≤ 3) (hd : d.length ≤ 200) :
    Calls Try.prog 3 #[.int .i64 t, v, .int .u8 n, .int .u8 k] w fun e w' => e = .returned (.bool true) ∧ Below w.heap.size w w' := by
  have HV := Lib.hid hv
  obtain ⟨m, ad, cap, hm, rfl, hmc, _⟩ := hv.shape
  have HM := Lib.hid hm.out
  have hm2 : m ≤ 200 := by have := HM.out; omega
  have ht1 : ¬ t < 1 := by omega
  have ht3 : ¬ 3 < t := by omega
  clear hv hm
  obtain ⟨al, hal, hpb, ha1, ha2⟩ := shl8 (k := k)
  have hsh : IntKind.u64.wrap (2 ^ (k % 8)) = (al : Int) := by
    have : ((2 : Int) ^ (k % 8)) = ((2 ^ (k % 8) : Nat) : Int) := by simp
    rw [this, ← hal, IntKind.wrap_u64]
    omega
  obtain ⟨s, hs⟩ : ∃ s : Nat, (m : Int) + n = (s : Int) := ⟨m + n, by simp⟩
  have hsm : s = m + n := by omega
  have hs9 : s ≤ 455 := by omega
  have HHAL := Lib.hid hal
  have HSH := Lib.hid hsh
  have HSS := Lib.hid hs
  have HSM := Lib.hid hsm
  clear hal hsh hs hsm
  go_enter Try.func3, Try.ntmps3
  go_wp2_with fail
  refine (begun26_any _).mono ?_
  rintro e w1 ⟨rfl, hb1⟩
  have HB1 := Lib.hid hb1
  clear hb1
  go_wp2_with (first
    | ((with_reducible show wpList _ _ _ (⟨some 56, _, _, _, _, _⟩ :: _) _ _); go_must (rw [HSH.out, HSS.out]; refine wpList_oneSec (s := ⟨[116], 1, 0, 0, 1, m, 0, 0, 0, d⟩) rfl ?_; intro w2 hx2 hb2 hs2; have HX2 := Lib.hid hx2; have HB2 := Lib.hid (HB1.out.trans (hb2.mono HB1.out.size)); clear hx2 hb2))
    | ((with_reducible show wpList _ _ _ (⟨some 63, _, _, _, _, _⟩ :: _) _ _); go_must (refine wpList_oneSeg (s := ⟨7, 4, 120, 65536, m, s, al⟩) rfl ?_; intro w3 hx3 hb3 hs3; have HX3 := Lib.hid hx3; have HX23 := Lib.hid (heap_below hb3 HX2.out); have HB3 := Lib.hid (HB2.out.trans (hb3.mono HB2.out.size)); clear hx3 hb3))
    | ((with_reducible show wpList _ _ _ (⟨some 11, .alloc _, _, _, _, _⟩ :: _) _ _); go_must (refine wpList_allocElf ?_; intro w4 hx4 hb4 hs4; have HX4 := Lib.hid hx4; have HX34 := Lib.hid (heap_below hb4 HX3.out); have HX24 := Lib.hid (heap_below hb4 HX23.out); have HB4 := Lib.hid (HB3.out.trans (hb4.mono HB3.out.size)); clear hx4 hb4))
    | ((with_reducible show wpList _ _ _ (⟨none, .store _ (.tmp 11) _, _, _, _, _⟩ :: _) _ _); go_must (refine wpList_storeElfS HX4.out rfl rfl rfl rfl (by simp [Value.oneCell']) ?_; intro w5 hh5 hs5; have HH5 := Lib.hid hh5; have HX35 := Lib.hid (hs5.kept HX34.out (fun h => by omega)); have HX25 := Lib.hid (hs5.kept HX24.out (fun h => by omega)); have HB5 := Lib.hid (HB4.out.trans (hs5.below HB4.out.size (fun j hj => by have := HB1.out.size; omega))); obtain ⟨c0, c1, c2, c3, c4, c5⟩ := elf_box (e := ⟨2, t, 0, 0, [], []⟩) HH5.out; clear hh5 hs5)))
  -- TAIL
  have HDT := Lib.hid (show ∀ wx, Bs wx (.slice ad m cap) d → wx.heap[w1.heap.size]? = some (.cells (encSec (⟨[116], 1, 0, 0, 1, m, 0, 0, 0, d⟩, .slice ad m cap)).toArray 27 (0, 0)) → wx.heap[w2.heap.size]? = some (.cells (encSeg ⟨7, 4, 120, 65536, m, s, al⟩).toArray 30 (0, 0)) → ElfAt wx (thElf t d s al) [(thSec d, .slice ad m cap)] (.slice (some ⟨w1.heap.size, 0, none⟩) 1 1) (.slice (some ⟨w2.heap.size, 0, none⟩) 1 1) from fun wx h1 h2 h3 => by
    obtain rfl := HM.out
    exact ⟨rfl, rd_one rfl h2 rfl, (fun p hp => by rw [List.mem_singleton] at hp; rw [hp]; exact h1), rd_one rfl h3 rfl⟩)
  have ht : t = 1 ∨ t = 2 ∨ t = 3 := by omega
  have HMAY := Lib.hid (th_may (size := s) ht hd hpb)
  have HEF := Lib.hid (th_fits (size := s) ht hd (by omega) hpb)
  have HOK := Lib.hid (show ElfOk (thElf t d s al) from ⟨HEF.out, by simp [dsum, thElf, thSec]; omega, (fun x hx => by rw [List.mem_singleton.1 hx]; show 1 ≤ 9223372036854775807; decide), by show 1 ≤ 1000000000; decide, by show 1 ≤ 1000000000; decide⟩)
  obtain ⟨W, hW1, hW2⟩ := th_all (size := s) ht hd (by omega) (by have := HSM.out; have := HM.out; omega) hpb ha2
  have HPW := Lib.hid hW1
  have HTD := Lib.hid hW2
  have HRB := Lib.hid (read_back HMAY.out HEF.out)
  have HWR := Lib.hid (writeE_any (thElf t d s al) _ _ _ w5 (HDT.out w5 (HV.out.mono HB5.out) HX25.out HX35.out) HOK.out)
  rw [fileW_ok HMAY.out] at HWR
  have HLB := Lib.hid (show (fileB (thElf t d s al)).length ≤ 1000000000 by have h1 := fileB_len (mayK HMAY.out); have h2 := (mayK HMAY.out).len; omega)
  have HTH := Lib.hid (show thR (fileB (thElf t d s al)).length (thElf t d s al).segs 0 seg1 = (thSeg d s al, 0) from by
    have h1 := (th_has (size := s) ht hd hpb).len
    show thR _ [thSeg d s al] 0 seg1 = _
    rw [thR, if_pos (show (thSeg d s al).typ = 7 from rfl), if_neg (by show ¬ (1 ≤ 0 ∨ 1048576 < s); omega), if_neg (by have := HM.out; have := HSM.out; show ¬ (_ < 120 ∨ _ - 120 < d.length ∨ s < d.length); omega)]
    rfl)
  clear hW1 hW2
  generalize fileB (thElf t d s al) = B at *
  refine HWR.out.mono ?_
  rintro e w6 ⟨v6, rfl, hv6, hb6⟩
  have HV6 := Lib.hid hv6.bs
  have HVL := Lib.hid (fun k hk => ob_lt hv6 (k := k) hk)
  have HB6 := Lib.hid (HB5.out.trans (hb6.mono HB5.out.size))
  obtain ⟨m6, a6, q6, hm6, rfl, _, _⟩ := hv6.shape
  clear hv6 hb6 c0 c1 c2 c3 c4 c5
  go_wp2_with fail
  refine (program_any B _ w6 HLB.out HV6.out HVL.out).mono ?_
  rintro e w7 ⟨hpr, hb7⟩
  rcases hpr with ⟨h0, -⟩ | ⟨-, base, bp, rfl, hbase, hbw, hmm⟩
  · rw [HPW.out] at h0
    exact absurd rfl h0
  rw [HPW.out] at hmm
  have HMM := Lib.hid hmm
  have HB7 := Lib.hid (HB6.out.trans (hb7.mono HB6.out.size))
  clear hmm hb7
  rw [HRB.out]
  rw [HTH.out]
  rw [show ptR ((thElf t d s al), (0 : Int)).1.target ((thSeg d s al), (0 : Int)).1 = ptR t (thSeg d s al) from rfl]
  have hw7 := HB7.out.size
  clear HDT HMAY HEF HOK HPW HRB HWR HLB HTH HV6 HVL HHAL HSH HSS HB1 HB2 HB3 HB4 HB5 HX2 HX3 HX23 HX4 HX34 HX24 HH5 HX35 HX25
  have HVC := Lib.hid (show ∀ i, i < m → ∃ b off, ad = some ⟨b, off, none⟩ ∧ w.cell? ⟨b, off + i, none⟩ = some (.int .u8 ((d[i]?.getD 0).toNat : Int)) from fun i hi => by
    obtain ⟨ad', cap', e1, _, _, hc⟩ := HV.out.open
    simp only [Value.slice.injEq] at e1
    obtain ⟨rfl, _, rfl⟩ := e1
    exact hc i (by have := HM.out; omega))
  have HMZ := Lib.hid (show ∀ i, ¬ i < m → d[i]?.getD 0 = 0 from fun i hi => by rw [List.getElem?_eq_none (by have := HM.out; omega)]; rfl)
  have L2 := Lib.hid (show loadR W 1099511562240 8 = (numLE (bytesV W 1099511562240 8), 0) from by
    unfold loadR
    rw [if_pos (by decide), show ((8 : Int).toNat) = 8 from rfl, if_pos HTD.out.stack])
  have L3 := Lib.hid (show loadR W 1099511562239 1 = (0, 21) from by
    unfold loadR
    rw [if_pos (by decide), show ((1 : Int).toNat) = 1 from rfl, HTD.out.below]
    rfl)
  have L1 := Lib.hid (show loadR W (ptR t (thSeg d s al)) 8 = (numLE (bytesV W (ptR t (thSeg d s al)) 8), 0) from by
    unfold loadR
    rw [if_pos (by decide), show ((8 : Int).toNat) = 8 from rfl, if_pos HTD.out.mem])
  have LS := Lib.hid (show (storeR W (ptR t (thSeg d s al)) 8 5).2 = 0 from by
    unfold storeR
    rw [if_pos (by decide), show ((8 : Int).toNat) = 8 from rfl, if_pos HTD.out.memw])
  have LB := Lib.hid HTD.out.bytes
  have LX := Lib.hid HTD.out.amd
  generalize numLE (bytesV W 1099511562240 8) = y2 at *
  have HPC := Lib.hid (show (t = 1 ∧ 0 < s → ptR t (thSeg d s al) = 549755813888 + upN s al) ∧ (¬ (t = 1 ∧ 0 < s) → ptR t (thSeg d s al) = 549755813888) ∧ (t = 2 → (blkR t s al).1 = 549755813888 + upN 16 al) ∧ (t ≠ 2 → (blkR t s al).1 = 549755813888) from by
    have e : max (thSeg d s al).align 1 = al := Nat.max_eq_left ha1
    refine ⟨fun h => ?_, fun h => ?_, fun h => ?_, fun h => ?_⟩
    · unfold ptR; rw [if_neg (by show ¬ s = 0; omega), e, h.1]; rfl
    · unfold ptR
      split
      · rfl
      · next hs =>
        rw [e]
        have : ¬ t = 1 := fun h1 => h ⟨h1, Nat.pos_of_ne_zero hs⟩
        unfold blkR
        rw [if_neg this]
        split <;> rfl
    · rw [h]; rfl
    · unfold blkR
      split
      · rfl
      · rfl)
  have HU := Lib.hid (show ∀ n : Nat, n ≤ 1000 → IntKind.u64.wrap (549755813888 + IntKind.u64.wrap (((n : Int) + al - 1) / al * al)) = ((549755813888 + upN n al : Nat) : Int) ∧ upN n al ≤ 2000 from fun n hn => by
    have hup := upN_le (n := n) ha1
    have e : ((n : Int) + al - 1) / al * al = ((upN n al : Nat) : Int) := by
      rw [show (n : Int) + al - 1 = ((n + al - 1 : Nat) : Int) by omega, ← Int.natCast_ediv, ← Int.natCast_mul]
      rfl
    rw [e, IntKind.wrap_u64, IntKind.wrap_u64]
    omega)
  generalize hpt : ptR t (thSeg d s al) = p at *
  generalize hat : (blkR t s al).1 = a at *
  have ha9 : a < 549755820000 := by
    have h1 := HPC.out.2.2.1
    have h2 := HPC.out.2.2.2
    have h3 := (HU.out 16 (by decide)).2
    by_cases h : t = 2
    · have := h1 h; omega
    · have := h2 h; omega
  have hp9 : p < 549755820000 := by
    have h1 := HPC.out.1
    have h2 := HPC.out.2.1
    have h3 := (HU.out s (by omega)).2
    by_cases h : t = 1 ∧ 0 < s
    · have := h1 h; omega
    · have := h2 h; omega
  clear hpt hat
  have hal0 : 0 < al := ha1
  go_upto_region 13 with ((with_reducible show wpList _ _ _ (⟨none, .store _ _ _, _, _, _, _⟩ :: _) _ _); go_must (refine wpList_storeNew rfl rfl (by kernel_rfl) rfl (by simp [Value.oneCell']) ?_; intro w8 hh8 hb8; have HX8 := Lib.hid hh8; have HB8 := Lib.hid (HB7.out.trans (hb8.mono HB7.out.size)); have HM8 := Lib.hid (HMM.out.mono hb8); have i2 := cell_rec hh8 2; have i3 := cell_rec hh8 3; clear hh8 hb8))
  clear i2 i3
  go_cut [92] (fun q wx => ∃ b : Bool, q = .bool b ∧ Hid (b = true → t = 1 ∧ 0 < s) ∧ Hid (b = false → ¬ (t = 1 ∧ 0 < s)) ∧ wx = w8)
  case first =>
    by_cases hs0 : 0 < s
    · by_cases ht1 : t = 1
      · have hb1 : (t == 1) = true := by simpa using ht1
        go_wp2
        go_meet
        exact ⟨_, rfl, fun _ => ⟨ht1, hs0⟩, fun h => (by simp at h <;> omega), rfl⟩
      · have hb1 : (t == 1) = false := by simpa using ht1
        go_wp2
        go_meet
        exact ⟨_, rfl, fun h => (by simp at h <;> omega), fun _ h => ht1 h.1, rfl⟩
    · go_wp2
      go_meet
      exact ⟨_, rfl, fun h => (by simp at h <;> omega), fun _ h => hs0 h.2, rfl⟩
  case rest =>
    obtain ⟨b, rfl, hbt, hbf, hwc⟩ := hcut
    obtain rfl := hwc.symm
    go_upto_if 92 with (fail)
    go_cut [18] (fun q wx => q = .int .u64 (p : Int) ∧ wx = w8)
    case first =>
      cases b with
      | true =>
        have HP := HPC.out.1 (hbt.out rfl)
        have HQ := Lib.hid (HU.out s (by omega)).1
        rw [← HP] at HQ
        clear HP HPC HU hbt hbf
        go_wp2
        go_meet
        exact ⟨by rw [HQ.out], rfl⟩
      | false =>
        have HP := HPC.out.2.1 (hbf.out rfl)
        clear HPC HU hbt hbf
        go_wp2
        go_meet
        exact ⟨by rw [HP]; rfl, rfl⟩
    case rest =>
      obtain ⟨rfl, hwc⟩ := hcut
      obtain rfl := hwc.symm
      clear hbt hbf
      go_upto_if 104 with (fail)
      go_cut [17] (fun q wx => q = .int .u64 (a : Int) ∧ wx = w8)
      case first =>
        by_cases ht2 : t = 2
        · have hb2 : (t == 2) = true := by simpa using ht2
          have HA := HPC.out.2.2.1 ht2
          have HQ := Lib.hid (HU.out 16 (by decide)).1
          rw [← HA] at HQ
          clear HA HPC HU ht2
          go_wp2
          go_meet
          exact ⟨by rw [← HQ.out]; rfl, rfl⟩
        · have hb2 : (t == 2) = false := by simpa using ht2
          have HA := HPC.out.2.2.2 ht2
          clear HPC HU ht2
          go_wp2
          go_meet
          exact ⟨by rw [HA]; rfl, rfl⟩
      case rest =>
        obtain ⟨rfl, hwc⟩ := hcut
        obtain rfl := hwc.symm
        clear HPC HU ht
        have i2 := cell_rec HX8.out 2
        have i3 := cell_rec HX8.out 3
        have HBY := Lib.hid (bytes_mem w8 HM8.out a (by omega) (s : Int))
        rw [LB.out] at HBY
        go_wp2_with fail
        refine HBY.out.mono ?_
        rintro e w9 ⟨v9, rfl, hv9, hb9⟩
        have HM9 := Lib.hid (HM8.out.mono hb9)
        have HX9 := Lib.hid (heap_below hb9 HX8.out)
        have HB9 := Lib.hid (HB8.out.trans (hb9.mono HB8.out.size))
        obtain ⟨m9, a9, q9, hm9, rfl, _, _⟩ := hv9.shape
        have hm9' := hm9.out
        simp only [List.length_map, List.length_range] at hm9'
        obtain rfl := hm9'
        have HC9 := Lib.hid (show ∀ i, i < m9 → ∃ b off, a9 = some ⟨b, off, none⟩ ∧ w9.cell? ⟨b, off + i, none⟩ = some (.int .u8 ((d[i]?.getD 0).toNat : Int)) from fun i hi => by
          obtain ⟨ad', cap', e1, _, _, hc⟩ := hv9.bs.open
          simp only [Value.slice.injEq] at e1
          obtain ⟨rfl, _, rfl⟩ := e1
          obtain ⟨b, off, h1, h2⟩ := hc i (by simp; exact hi)
          refine ⟨b, off, h1, h2.trans ?_⟩
          rw [List.getElem?_map, List.getElem?_range hi]
          rfl)
        clear hv9 hb9 hm9 i2 i3
        have i2 := cell_rec HX9.out 2
        have i3 := cell_rec HX9.out 3
        go_wp2_with fail
        clear i2 i3
        go_loopw [21] (fun iv wr => ∃ i : Nat, iv = .int .i64 i ∧ i ≤ m9 ∧ Below w9.heap.size w9 wr) (fun iv _ => m9 - (intOf iv).toNat)
        case atStart => exact ⟨0, rfl, Nat.zero_le _, Below.refl _ _⟩
        case round =>
          obtain ⟨i, rfl, hi, hb⟩ := hrel
          by_cases hil : i < m9
          · obtain ⟨cb, co, rfl, cc⟩ := HC9.out i hil
            have cc' := (hb.cell (block_lt cc)).trans cc
            clear cc
            by_cases him : i < m
            · obtain ⟨vb, vo, rfl, dc⟩ := HVC.out i him
              have dc9 := (HB9.out.cell (block_lt dc)).trans dc
              have dc' := (hb.cell (block_lt dc9)).trans dc9
              clear dc dc9
              have HD1 := Lib.hid (show decide ((i : Int) < (m : Int)) = true by simp; omega)
              have HD2 := Lib.hid (show decide ((m : Int) ≤ (i : Int)) = false by simp; omega)
              generalize ((d[i]?.getD 0).toNat : Int) = c1 at *
              have hxx : (c1 != c1) = false := by simp
              have e1 := HD1.out
              have e2 := HD2.out
              have e1n : decide (i < m) = true := decide_eq_true him
              have e2n : decide (m ≤ i) = false := decide_eq_false (by omega)
              have e3 : (i : Int) < (m : Int) := by omega
              have e4 : (i : Int) < (m9 : Int) := by omega
              clear HD1 HD2
              go_wp2
              refine wp_region_quiet_lit (by kernel_rfl) (by kernel_rfl) ?_
              iterate 28 quiet_step (fail)
              refine wpQuiet_nil ?_
              rintro _ ⟨nq, rfl⟩
              have HBZ := Lib.hid (hb.drewN nq)
              clear e3 e4
              go_wp2
              go_roundw
              case rel =>
                first
                  | exact ⟨i + 1, by go_num, by omega, HBZ.out⟩
                  | ((repeat apply Exists.intro); exact ⟨⟨i + 1, by go_num, by omega, HBZ.out⟩, rfl⟩)
              case measure => simp [intOf] <;> omega
            · rw [HMZ.out i him] at cc'
              have cc' : wr.cell? ⟨cb, co + i, none⟩ = some (.int .u8 0) := cc'
              have HD1 := Lib.hid (show decide ((i : Int) < (m : Int)) = false by simp; omega)
              have HD2 := Lib.hid (show decide ((m : Int) ≤ (i : Int)) = true by simp; omega)
              have e1 := HD1.out
              have e2 := HD2.out
              have e1n : decide (i < m) = false := decide_eq_false him
              have e2n : decide (m ≤ i) = true := decide_eq_true (by omega)
              have e3 : ¬ (i : Int) < (m : Int) := by omega
              have e4 : (i : Int) < (m9 : Int) := by omega
              clear HD1 HD2
              go_wp2
              refine wp_region_quiet_lit (by kernel_rfl) (by kernel_rfl) ?_
              iterate 4 quiet_step (fail)
              iterate 24 ((with_reducible refine wpQuiet_step (fun K hK => ?_)); go_simp; (with_reducible refine hK _ ?_); clear hK K)
              refine wpQuiet_nil ?_
              rintro _ ⟨nq, rfl⟩
              have HBZ := Lib.hid (hb.drewN nq)
              clear e3 e4
              go_wp2
              go_roundw
              case rel =>
                first
                  | exact ⟨i + 1, by go_num, by omega, HBZ.out⟩
                  | ((repeat apply Exists.intro); exact ⟨⟨i + 1, by go_num, by omega, HBZ.out⟩, rfl⟩)
              case measure => simp [intOf] <;> omega
          · have HMR := Lib.hid (HM9.out.mono hb)
            have HBR := Lib.hid (HB9.out.trans (hb.mono HB9.out.size))
            have H1 := Lib.hid (load_mem wr HMR.out p (by omega) 8)
            rw [L1.out] at H1
            have H2 := Lib.hid (load_mem wr HMR.out 1099511562240 (by decide) 8)
            rw [L2.out] at H2
            have H3 := Lib.hid (load_mem wr HMR.out 1099511562239 (by decide) 1)
            rw [L3.out] at H3
            have H4 := Lib.hid (store_mem wr HMR.out p (by omega) 8 5)
            rw [LS.out] at H4
            go_wp2_with fail
            refine H1.out.mono ?_
            rintro e wa ⟨rfl, rfl⟩
            go_wp2_with fail
            refine H2.out.mono ?_
            rintro e wa ⟨rfl, rfl⟩
            go_wp2_with fail
            refine H3.out.mono ?_
            rintro e wa ⟨rfl, rfl⟩
            by_cases ht1 : t = 1
            · subst ht1
              rw [LX.out rfl]
              go_wp2_with fail
              refine H4.out.mono ?_
              rintro e wb ⟨rfl, -, hsb⟩
              go_wp2
              go_ret
              exact ⟨rfl, HBR.out.trans (hsb.below HBR.out.size (fun k h => Nat.le_trans HB6.out.size h))⟩
            · have ht2 : (t != 1) = true := by simpa using ht1
              clear ht1
              go_wp2_with fail
              refine H4.out.mono ?_
              rintro e wb ⟨rfl, -, hsb⟩
              go_wp2
              go_ret
              exact ⟨rfl, HBR.out.trans (hsb.below HBR.out.size (fun k h => Nat.le_trans HB6.out.size h))⟩
end Go.Proofs.Ytmpelmjhimalpaa
namespace Go.Proofs.Ytmpelmjhimalpaa
open Go.ChangeShapes Go.WideShapes Go.ChangeAt Go.RowKit Go.Fd
theorem Try.own : ownKnob Try.prog.godebug = none := by kernel_rfl
theorem Try.laidOut : laidOutB Try.prog = true := by kernel_rfl
/-- All arguments read behind the call as they read before it. -/
theorem belowAll {H : Type} {enc : TypeId × Value → H} {W W' : World} (hb : Below W.heap.size W W') : ∀ {ts : List TypeId} {vs : List Value} {ds : List (DataW H)} {ps : List MemPlace},
    DataW.TrodAll enc Try.prog W 0 (fun _ => true) true ts vs ds ps → (∀ x ∈ ps, x.block < W.heap.size) → (∀ t ∈ ts, Try.prog.readableRec t = true ∧ t < Try.prog.types.size) →
    DataW.TrodAll enc Try.prog W' 0 (fun b => decide (b < W.heap.size)) true ts vs ds ps
  | [], vs, ds, ps, h, _, _ => by obtain ⟨rfl, rfl, rfl⟩ := trodAll_nil h; exact trodAll_mk0
  | t :: ts, vs, ds, ps, h, hlt, ht => by
    obtain ⟨v, vs', d, ds', p, q, rfl, rfl, rfl, h0, h1⟩ := trodAll_cons h
    exact trodAll_cons_mk (Below.trod Try.laidOut (ht t (by simp)).1 (ht t (by simp)).2 h0 hb fun x hx => hlt x (by simp [hx]))
      (belowAll hb h1 (fun x hx => hlt x (by simp [hx])) fun u hu => ht u (by simp [hu]))
/-- The same, the types asked as one closed fact. -/
theorem belowAllB {H : Type} {enc : TypeId × Value → H} {W W' : World} {ts : List TypeId} (ht : (ts.all fun t => Try.prog.readableRec t && decide (t < Try.prog.types.size)) = true) (hb : Below W.heap.size W W') {vs : List Value} {ds : List (DataW H)} {ps : List MemPlace}
    (h : DataW.TrodAll enc Try.prog W 0 (fun _ => true) true ts vs ds ps) (hlt : ∀ x ∈ ps, x.block < W.heap.size) : DataW.TrodAll enc Try.prog W' 0 (fun b => decide (b < W.heap.size)) true ts vs ds ps :=
  belowAll hb h hlt fun t htm => by
    have := List.all_eq_true.1 ht t htm
    simp only [Bool.and_eq_true, decide_eq_true_eq] at this
    exact this
set_option maxRecDepth 100000 in
/-- A slice of integers, as it is read. -/
theorem reads_ints {H : Type} {enc : TypeId × Value → H} {W : World} {base : Nat} {t e : TypeId} {k : IntKind} {v : Value} {d : DataW H} {p : List MemPlace} (ht : Try.prog.underlying t = some (.slice e)) (he : Try.prog.underlying e = some (.int k)) (hc : Try.prog.cellsOf e = 1)
    (hv : Value.okWide Try.prog W .any base t v) (h : DataW.Trod enc Try.prog W 0 (fun _ => true) true t v d p) : ∃ zs : List Int, Reads W 1 v zs.length (zs.map (Value.int k)) ∧ ∀ n ∈ zs, (Lit.int k n).wf = true := by
  obtain ⟨a0, len, cap, rfl⟩ := okWide_slice ht hv
  obtain ⟨fuel, hf⟩ := h
  rcases open_ints ht he hc hf with ⟨hcs, hx⟩ | ⟨a, len', cap', zs, hcs, _, hl, hm, hz, hx, hcell, hwz⟩
  · simp [Value.cells] at hcs
    obtain ⟨rfl, rfl, rfl⟩ := hcs
    exact ⟨[], Reads.nil W 1, fun n hn => by cases hn⟩
  · simp [Value.cells] at hcs
    obtain ⟨rfl, rfl, rfl⟩ := hcs
    simp only [if_true] at hz
    refine ⟨zs.take len, ⟨by simp, some a, cap, by rw [List.length_take]; congr 1; omega, by rw [List.length_take]; omega, (fun h => by cases h), fun j hj => ?_⟩, fun n hn => hwz n (List.mem_of_mem_take hn)⟩
    simp only [List.length_map, List.length_take] at hj
    obtain ⟨b, off, spot⟩ := a
    have h0 := hcell 0 (by omega)
    have hspot : spot = none := by simpa [Addr.add] using World.cell?_spot h0
    subst hspot
    refine ⟨b, off, rfl, ?_⟩
    have := hcell j (by omega)
    rw [add_plain] at this
    rw [this, List.getElem?_map, List.getElem?_take, if_pos (by omega), List.getD_eq_getElem?_getD, List.getElem?_eq_getElem (by omega)]
    rfl
set_option maxRecDepth 100000 in
/-- Bytes, as they are read. -/
theorem reads_bytes {H : Type} {enc : TypeId × Value → H} {W : World} {base : Nat} {v : Value} {d : DataW H} {p : List MemPlace} (hv : Value.okWide Try.prog W .any base 22 v) (h : DataW.Trod enc Try.prog W 0 (fun _ => true) true 22 v d p) :
    ∃ l : List UInt8, Reads W 1 v l.length (l.map fun c => Value.int .u8 (c.toNat : Int)) := by
  obtain ⟨zs, h1, h2⟩ := reads_ints (k := .u8) (e := 5) (by kernel_rfl) (by kernel_rfl) (by kernel_rfl) hv h
  refine ⟨zs.map fun n => UInt8.ofNat n.toNat, ?_⟩
  have e : (zs.map fun n => UInt8.ofNat n.toNat).map (fun c => Value.int .u8 (c.toNat : Int)) = zs.map (Value.int .u8) := by
    rw [List.map_map]
    apply List.map_congr_left
    intro n hn
    have := h2 n hn
    simp [Lit.wf, IntKind.min, IntKind.max, IntKind.signed, IntKind.bits] at this
    simp
    omega
  rw [e, List.length_map]
  exact h1
theorem wf_u8' {x : Int} (h : (Lit.int .u8 x).wf = true) : 0 ≤ x ∧ x < 256 := by
  simp [Lit.wf, IntKind.min, IntKind.max, IntKind.signed, IntKind.bits] at h
  exact ⟨by omega, by omega⟩
end Go.Proofs.Ytmpelmjhimalpaa
namespace Go.Proofs.Ytmpelmjhimalpaa
open Go.ChangeShapes Go.WideShapes Go.ChangeAt Go.RowKit Go.Fd
set_option maxRecDepth 100000 in
theorem loadThread_lifted (os : Os) (started : os.Started) (H : Type) (enc : TypeId × Value → H) :
    ReturnsInHanded {} Try.checked os 3 .any (Rows.loadThreadSpec.pre6 enc Try.prog Try.f3 Rows.loadThreadRow.domain false) (Rows.loadThreadSpec.post enc Try.prog Try.f3 false true false false) := by
  refine returnsInHanded_of_change (C := Try.checked) Try.own started (by kernel_rfl) Try.func3
    (ChangeSpec.witness6 (enc := enc) (C := Try.checked) false ⟨#[], #[.int .i64 0, .slice none 0 0, .int .u8 0, .int .u8 0], []⟩ 8 (by kernel_rfl) (by kernel_rfl) (by kernel_rfl) (by kernel_rfl)) ?_
  intro W base args ds gs before hval0 hW hcnd _
  have hval : ∀ (j : Nat) t v, Try.f3.params[j]? = some t → args[j]? = some v → Value.okWide Try.prog W .any base t v := hval0
  have hW' := hW
  obtain ⟨p, q, hA0, hV, rfl, hfz, hnd⟩ := hW
  have hA : DataW.TrodAll enc Try.prog W 0 (fun _ => true) true Try.f3.params.toList args.toList ds p := hA0
  have hlt : ∀ x ∈ p, x.block < W.heap.size := fun x hx => hW'.lt x (by simp [hx])
  have hback : ∀ W', Below W.heap.size W W' → DataW.TrodAll enc Try.prog W' 0 (fun b => decide (b < W.heap.size)) true Try.f3.params.toList args.toList ds p :=
    fun W' hb => belowAllB (by kernel_rfl) hb hA hlt
  rw [Try.params3] at hA hval
  obtain ⟨v0, vs0, d0, ds0, p0, q0, hargs, rfl, rfl, h0, r0⟩ := trodAll_cons hA
  obtain ⟨v1, vs1, d1, ds1, p1, q1, rfl, rfl, rfl, h1, r1⟩ := trodAll_cons r0
  obtain ⟨v2, vs2, d2, ds2, p2, q2, rfl, rfl, rfl, h2, r2⟩ := trodAll_cons r1
  obtain ⟨v3, vs3, d3, ds3, p3, q3, rfl, rfl, rfl, h3, r3⟩ := trodAll_cons r2
  obtain ⟨rfl, rfl, rfl⟩ := trodAll_nil r3
  obtain rfl : args = #[v0, v1, v2, v3] := by
    cases args
    simp at hargs
    simp [hargs]
  clear hargs
  obtain ⟨rfl, rfl⟩ := trodVars_none hV
  have fin : ∀ (e : Ending) (W' : World), (e = .returned (.bool true) ∧ Below W.heap.size W W') → ∃ v, e = Ending.returned v ∧ Rows.loadThreadSpec.post enc Try.checked.prog Try.f3 false true false false W #[v0, v1, v2, v3] v W' := by
    rintro e W' ⟨rfl, hb⟩
    exact ⟨_, rfl, _, _, _, [], _, [], hW', trodAll_mk1 (shut_bool Try.underlying4 true), hback W' hb, rfl, hb.frame _, fun h => by cases h⟩
  obtain ⟨t, rfl, rfl, rfl, _⟩ := open_int Try.underlying3 (hval 0 3 v0 rfl rfl) h0
  obtain ⟨l, hl⟩ := reads_bytes (hval 1 22 v1 rfl rfl) h1
  obtain ⟨n, rfl, rfl, rfl, w2⟩ := open_int Try.underlying5 (hval 2 5 v2 rfl rfl) h2
  obtain ⟨k, rfl, rfl, rfl, w3⟩ := open_int Try.underlying5 (hval 3 5 v3 rfl rfl) h3
  obtain ⟨n0, n1⟩ := wf_u8' w2
  obtain ⟨k0, k1⟩ := wf_u8' w3
  obtain ⟨n, rfl⟩ := Int.eq_ofNat_of_zero_le n0
  obtain ⟨k, rfl⟩ := Int.eq_ofNat_of_zero_le k0
  by_cases h : t < 1 ∨ 3 < t ∨ 200 < l.length
  · exact (thread_early t l v1 n k W hl h).mono fin
  · exact (loadThread_any t l v1 n k W hl (by omega) (by omega) (by omega) (by omega) (by omega)).mono fin
theorem loadThread_holds : Rows.LoadThreadSaid :=
  OpenClaim.holds_of_wide 3 Try.f3 rfl rfl rfl rfl rfl rfl rfl ⟨rfl, rfl, rfl, rfl, rfl⟩ rfl rfl rfl rfl rfl (by kernel_rfl) Try.func3 (by kernel_rfl)
    (of_decide_eq_true (by kernel_rfl)) (by unfold Func.isWrapper; rw [if_neg (of_decide_eq_false (by kernel_rfl))]; exact ⟨rfl, rfl⟩)
    (fun os started H enc _ => loadThread_lifted os started H enc)
end Go.Proofs.Ytmpelmjhimalpaa
#print axioms Go.Proofs.Ytmpelmjhimalpaa.loadThread_holds
