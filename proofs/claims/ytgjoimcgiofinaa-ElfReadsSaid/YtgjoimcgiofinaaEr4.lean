/-
  Part 4 of 8: laws and walks for elfReads_holds; no condition of its own.
-/
import Derived.Test.YtgjoimcgiofinaaEr3
import Derived.Laws.OwnMore
namespace Go.Fd
theorem plF_pre {g : Bool} {n : Nat} {l : List SecM} {k : Nat} : ∀ j, k ≤ j → j ≤ l.length → (plF g n (l.take j)).1.take k = (plF g n (l.take k)).1 := by
  intro j
  induction j with
  | zero => intro h1 _; obtain rfl : k = 0 := by omega
            rfl
  | succ j ih =>
    intro h1 h2
    rcases Nat.lt_or_ge j k with h3 | h3
    · obtain rfl : k = j + 1 := by omega
      rw [List.take_of_length_le]
      rw [plF_len, List.length_take]
      omega
    · have hx : l[j]? = some l[j] := List.getElem?_eq_getElem (by omega)
      rw [plF_step hx]
      show ((plF g n (l.take j)).1 ++ [_]).take k = _
      rw [List.take_append_of_le_length (by rw [plF_len, List.length_take]; omega), ih h3 (by omega)]
theorem plF_get {g : Bool} {n : Nat} {l : List SecM} {k : Nat} {x : SecM} (h : l[k]? = some x) : (plF g n l).1[k]? = some (placeS g (plF g n (l.take k)).2 x) := by
  have hk := (List.getElem?_eq_some_iff.1 h).1
  have h1 := plF_pre (g := g) (n := n) (l := l) (k := k + 1) l.length (by omega) (Nat.le_refl _)
  rw [List.take_length, plF_step h] at h1
  have h2 : ((plF g n l).1.take (k + 1))[k]? = (plF g n l).1[k]? := by rw [List.getElem?_take, if_pos (by omega)]
  rw [← h2, h1]
  show ((plF g n (l.take k)).1 ++ [_])[k]? = _
  have h3 : (plF g n (l.take k)).1.length = k := by rw [plF_len, List.length_take]; omega
  rw [List.getElem?_append_right (by omega), h3, Nat.sub_self]
  rfl
/-- Sections' bytes behind others, each at its place. -/
def bodyF (acc : List UInt8) (l : List (SecM × Nat)) : List UInt8 := l.foldl (fun acc p => acc ++ List.replicate (p.2 - acc.length) 0 ++ p.1.data) acc
theorem bodyF_step {acc : List UInt8} {l : List (SecM × Nat)} {k : Nat} {x : SecM × Nat} (h : l[k]? = some x) : bodyF acc (l.take (k + 1)) = bodyF acc (l.take k) ++ List.replicate (x.2 - (bodyF acc (l.take k)).length) 0 ++ x.1.data := by
  rw [List.take_add_one, h]
  unfold bodyF
  rw [List.foldl_append]
  rfl
theorem zipP {g : Bool} {n : Nat} {l : List SecM} {k : Nat} {x : SecM} (h : l[k]? = some x) : (l.zip (plF g n l).1)[k]? = some (x, placeS g (plF g n (l.take k)).2 x) := by
  rw [List.getElem?_zip_eq_some]
  exact ⟨h, plF_get h⟩
theorem body_len {g : Bool} {n : Nat} {l : List SecM} {acc : List UInt8} (ha : acc.length = n) (hp : ∀ s ∈ l, powB s.align = true) : ∀ k, k ≤ l.length → (bodyF acc ((l.zip (plF g n l).1).take k)).length = (plF g n (l.take k)).2 := by
  intro k
  induction k with
  | zero => intro _; exact ha
  | succ k ih =>
    intro hk
    have hx : l[k]? = some l[k] := List.getElem?_eq_getElem (by omega)
    have h1 := ih (by omega)
    have h2 := placeS_le (g := g) (p := (plF g n (l.take k)).2) (hp _ (List.mem_of_getElem? hx))
    rw [bodyF_step (zipP hx), plF_step hx, List.length_append, List.length_append, List.length_replicate, h1]
    show _ + _ + _ = placeS _ _ _ + _
    dsimp only
    omega
end Go.Fd
namespace Go.Proofs.Ytgjoimcgiofinaa
open Go.RowKit Go.Fd
def segBy (s : SegM) : List UInt8 := putL 4 [s.typ, s.flags] ++ putL 8 [s.off, s.vaddr, s.vaddr, s.filesz, s.memsz, s.align]
def hdrBy (name : Nat) (s : SecM) (p : Nat) : List UInt8 := putL 4 [name, s.typ] ++ putL 8 [s.flags, s.addr, p, s.size] ++ putL 4 [s.link, s.info] ++ putL 8 [s.align, s.ent]
theorem segBy_len (s : SegM) : (segBy s).length = 56 := by unfold segBy; simp only [List.length_append, putL_len]; rfl
theorem hdrBy_len (name : Nat) (s : SecM) (p : Nat) : (hdrBy name s p).length = 64 := by unfold hdrBy; simp only [List.length_append, putL_len]; rfl
/-- The names' places in the table. -/
def atsOf (e : ElfM) : List Nat := (buildR (namesOf e.secs)).2.1
/-- The header's and the segments' bytes. -/
def frontB (e : ElfM) : List UInt8 := headB e (headsOf e (tabOf e).length) ++ e.segs.flatMap segBy
theorem frontB_len (e : ElfM) : (frontB e).length = front e := by
  unfold frontB front
  rw [List.length_append, headB_len, flat_len' segBy_len]
  omega
def bodyB (e : ElfM) : List UInt8 := bodyF (frontB e) (e.secs.zip (placesOf e).1)
theorem bodyB_len {e : ElfM} (hp : ∀ s ∈ e.secs, powB s.align = true) : (bodyB e).length = (placesOf e).2 := by
  have := body_len (g := segsB e) (frontB_len e) hp e.secs.length (Nat.le_refl _)
  rw [List.take_of_length_le (by rw [List.length_zip, plF_len]; omega), List.take_length] at this
  exact this
/-- All ahead of the sections' headers. -/
def midB (e : ElfM) : List UInt8 := bodyB e ++ tabOf e ++ List.replicate (headsOf e (tabOf e).length + 64 - ((placesOf e).2 + (tabOf e).length)) 0
def hdrsB (e : ElfM) : List UInt8 := (e.secs.zip ((atsOf e).zip (placesOf e).1)).flatMap fun p => hdrBy p.2.1 p.1 p.2.2
def tabSec (n : Nat) : SecM := ⟨[], 3, 0, 0, 1, n, 0, 0, 0, []⟩
/-- A file's bytes. -/
def fileB (e : ElfM) : List UInt8 := midB e ++ hdrsB e ++ hdrBy ((atsOf e)[e.secs.length]?.getD 0) (tabSec (tabOf e).length) (placesOf e).2
def fileW (e : ElfM) : List UInt8 × Int := if mayE e = true then (fileB e, 0) else ([], 1)
theorem fileW_no {e : ElfM} (h : mayE e = false) : fileW e = ([], 1) := by unfold fileW; rw [if_neg (by simp [h])]
theorem fileW_ok {e : ElfM} (h : mayE e = true) : fileW e = (fileB e, 0) := by unfold fileW; rw [if_pos h]
/-- What is known of a file that may be. -/
structure MayK (e : ElfM) : Prop where
  typ : e.typ = 1 ∨ e.typ = 2
  mach : mach e.target ≠ 0
  secs : e.secs.length ≤ 250
  segs : e.segs.length ≤ 16
  fine : ∀ s ∈ e.secs, fineB s = true
  pow : ∀ s ∈ e.secs, powB s.align = true
  segp : ∀ s ∈ e.segs, powB s.align = true
  ok : (buildR (namesOf e.secs)).2.2 = 0
  names : ∀ s ∈ e.secs, mayS s.name = true
  len : headsOf e (tabOf e).length + 64 * (e.secs.length + 2) ≤ 4194304
theorem mayK {e : ElfM} (h : mayE e = true) : MayK e := by
  unfold mayE at h
  simp only [Bool.and_eq_true] at h
  obtain ⟨⟨h1, h2⟩, h3⟩ := h
  unfold may1 at h1
  simp only [Bool.and_eq_true, Bool.or_eq_true, Bool.not_eq_true', decide_eq_true_eq, decide_eq_false_iff_not] at h1
  unfold may2 at h2
  simp only [Bool.and_eq_true, List.all_eq_true, decide_eq_true_eq] at h2
  unfold may3 at h3
  simp only [Bool.and_eq_true, decide_eq_true_eq] at h3
  have hn := h3.1
  refine ⟨h1.1.1.1, h1.1.1.2, h1.1.2, h1.2, fun s hs => (h2.1 s hs).1, fun s hs => fineB_pow (h2.1 s hs).1, h2.2, hn, fun s hs => ?_, h3.2⟩
  have := (build_ok hn).1
  unfold namesOf at this
  rw [List.all_append, Bool.and_eq_true, List.all_map] at this
  exact List.all_eq_true.1 this.1 s hs
theorem heads_ge {e : ElfM} : (placesOf e).2 + (tabOf e).length ≤ headsOf e (tabOf e).length ∧ headsOf e (tabOf e).length < (placesOf e).2 + (tabOf e).length + 8 := by
  have := upN_le (n := (placesOf e).2 + (tabOf e).length) (a := 8) (by omega)
  exact this
theorem atsOf_len {e : ElfM} (h : MayK e) : (atsOf e).length = e.secs.length + 1 ∧ ∀ p ∈ atsOf e, p ≤ 130000 := by
  have := ats_ok h.ok (by rw [namesOf_len]; have := h.secs; omega)
  rw [namesOf_len] at this
  exact this
theorem midB_len {e : ElfM} (h : MayK e) : (midB e).length = headsOf e (tabOf e).length + 64 := by
  unfold midB
  rw [List.length_append, List.length_append, List.length_replicate, bodyB_len h.pow]
  have := heads_ge (e := e)
  omega
theorem place_bd {e : ElfM} (h : MayK e) (k : Nat) : (plF (segsB e) (front e) (e.secs.take k)).2 ≤ (placesOf e).2 := by
  have : ∀ j, k ≤ j → (plF (segsB e) (front e) (e.secs.take k)).2 ≤ (plF (segsB e) (front e) (e.secs.take j)).2 := by
    intro j
    induction j with
    | zero => intro hj; obtain rfl : k = 0 := by omega
              exact Nat.le_refl _
    | succ j ih =>
      intro hj
      rcases Nat.lt_or_ge j k with h3 | h3
      · obtain rfl : k = j + 1 := by omega
        exact Nat.le_refl _
      · refine Nat.le_trans (ih h3) ?_
        rcases Nat.lt_or_ge j e.secs.length with hl | hl
        · have hx : e.secs[j]? = some e.secs[j] := List.getElem?_eq_getElem hl
          rw [plF_step hx]
          have := placeS_le (g := segsB e) (p := (plF (segsB e) (front e) (e.secs.take j)).2) (h.pow _ (List.mem_of_getElem? hx))
          show _ ≤ placeS _ _ _ + _
          omega
        · rw [List.take_of_length_le hl, List.take_of_length_le (by omega)]
          exact Nat.le_refl _
  rcases Nat.lt_or_ge k e.secs.length with hk | hk
  · have := this e.secs.length (by omega)
    rw [List.take_length] at this
    exact this
  · rw [List.take_of_length_le hk]
    exact Nat.le_refl _
end Go.Proofs.Ytgjoimcgiofinaa
namespace Go.Proofs.Ytgjoimcgiofinaa
open Go.RowKit Go.Fd
theorem append_types {P : Program} {w : World} {t u ty e e' : TypeId} {b : Option Addr} {n c : Nat} {x : Value} (ht : P.underlying t = some (.slice e)) (hu : P.underlying u = some (.slice e')) : (Builtin.append_ #[t, u] ty #[.slice b n c, x]).run P w = (Builtin.append_ #[t, t] ty #[.slice b n c, x]).run P w := by
  simp [Builtin.append_, run_underlying ht, run_underlying hu]
theorem run_cat {P : Program} {w : World} {t ty e : TypeId} (T : SliceT P t e 1 1) {v u : Value} {base : Nat} {l m : List UInt8} (hown : w.ownsRow base e 1 v l.length (l.map B)) (hy : Bs w u m) (hn : l.length + m.length ≤ 140737488355328) (hb : base ≤ w.heap.size) :
    ∃ v' w', (Builtin.append_ #[t, t] ty #[v, u]).run P w = .ok v' w' ∧ w'.ownsRow base e 1 v' (l ++ m).length ((l ++ m).map B) ∧ w.grownBy w' v.ownBlock := by
  obtain ⟨i, z, h1', h2, h3, h4, h5⟩ := T.info
  obtain ⟨hl, au, cap, rfl, hcap, h00, hc⟩ := hy
  rcases au with _ | ad
  · have hm0 : m = [] := by
      cases m with
      | nil => rfl
      | cons c m => obtain ⟨b, off, h', _⟩ := hc 0 (by simp); cases h'
    subst hm0
    obtain rfl := h00 rfl
    refine ⟨v, w, run_append_owned_none (w := w) base t ty e i 1 T.ht h1' v l.length (l.map B) hown, ?_, World.grownBy.refl _ _⟩
    rw [List.append_nil]
    exact hown
  · obtain ⟨v', w', hrun, h6, h7, -⟩ := run_append_own (w := w) base t ty e i z 1 1 T.ht h1' h2 h3 h4 h5 T.pos v l.length (l.map B) hown ad m.length cap (m.map B) (by simp) (fun j y hj => by
      have hlt : j < (m.map B).length := (List.getElem?_eq_some_iff.1 hj).1
      obtain ⟨b, off, e1, e2⟩ := hc j hlt
      cases e1
      have e3 : (⟨b, off, none⟩ : Addr).add j = ⟨b, off + j, none⟩ := by unfold Addr.add; split <;> simp_all
      rw [e3, e2, hj]) (fun u hu => List.all_eq_true.1 (allB m) u hu) (maxLen_of (by omega)) (by omega) hb
    refine ⟨v', w', hrun, ?_, h7⟩
    rw [List.length_append, List.map_append]
    exact h6
theorem wpList_catU {ops : Array Oper} {rest : List Oper} {Q : Exit → Act → World → Prop} {a : Act} {w : World} {d : Option Tmp} {ty : TypeId} {pos : String} {aft : Array Edge} {s x : Operand} {v u : Value} {base : Nat} {l m : List UInt8} (hown : OB w base v l) (hy : Bs w u m)
    (hs : a.eval s = v) (hx : a.eval x = u) (hn : l.length + m.length ≤ 140737488355328) (hb : base ≤ w.heap.size)
    (h : ∀ v' w', OB w' base v' (l ++ m) → w.grownBy w' v.ownBlock → wpList Try.prog ops Q rest (a.put d v') w') :
    wpList Try.prog ops Q (⟨d, .call { callee := .builtin .append, args := #[s, x], argTypes := #[96, 23] }, ty, pos, aft, none⟩ :: rest) a w := by
  obtain ⟨v', w', hrun, h6, h7⟩ := run_cat (ty := ty) TF hown hy hn hb
  obtain ⟨m0, ad, cap, hm, rfl, _, _⟩ := hown.shape
  refine wpList_val (v := v') (w' := w') rfl ?_ (h v' w' h6 h7)
  have hr2 := (append_types (P := Try.prog) (w := w) (ty := ty) (b := ad) (n := m0) (c := cap) (x := u) TF.ht TB.ht).trans hrun
  simp [execOp, resolve, invoke, builtin, hs, hx, hr2, Result.andThen]
end Go.Proofs.Ytgjoimcgiofinaa
namespace Go.Proofs.Ytgjoimcgiofinaa
open Go.RowKit Go.Fd
theorem heap_base {w w' : World} {base b : Nat} {o : Obj} (h : Below base w w') (hb : w.heap[b]? = some o) (hlt : b < base) : w'.heap[b]? = some o := by rw [h.block b hlt]; exact hb
theorem FileAt.lt {w : World} {base g : Nat} {l : List UInt8} (h : FileAt w base g l) : g < w.heap.size := by obtain ⟨v, h1, -⟩ := h; exact (Array.getElem?_eq_some_iff.1 h1).1
set_option maxHeartbeats 4000000 in
set_option maxRecDepth 100000 in
theorem writeE_any (e : ElfM) (L : List (SecM × Value)) (sv gv : Value) (w : World) (h : ElfAt w e L sv gv) (ho : ElfOk e) :
    Calls Try.prog 39 #[elfV e sv gv] w fun r w' => ∃ v, r = .returned (.tuple #[v, .int .i64 (fileW e).2]) ∧ OB w' w.heap.size v (fileW e).1 ∧ Below w.heap.size w w' := by
  obtain ⟨a, ca, rfl, hca, -, hc⟩ := h.rd.open (fun _ => rfl)
  obtain ⟨ga, gc, rfl, hgc, -, hcg⟩ := h.segs.open (fun _ => rfl)
  have HC := Lib.hid hc
  have HCG := Lib.hid hcg
  have HAT := Lib.hid h
  have HOK := Lib.hid ho
  have HD := Lib.hid h.data
  have HSE := Lib.hid (fun k x (hk : L[k]? = some x) => sec_of h.secs hk)
  have HEL := Lib.hid (show e.secs.length = L.length by rw [h.secs, List.length_map])
  obtain ⟨nl, hnl⟩ : ∃ n, n = L.length := ⟨_, rfl⟩
  obtain ⟨gn, hgn⟩ : ∃ n, n = e.segs.length := ⟨_, rfl⟩
  rw [← hnl] at hca HAT ⊢
  rw [← hgn] at hgc HAT ⊢
  have HL := Lib.hid hnl
  have HGN := Lib.hid hgn
  have HMY := Lib.hid (fun wx (hx : Below w.heap.size w wx) => may_any e L _ _ wx (HAT.out.mono hx) HOK.out)
  clear hc hcg h hnl hgn ho
  cases hmy : mayE e with
  | false =>
    have HR := Lib.hid (fileW_no hmy)
    rw [hmy] at HMY
    clear hmy
    go_enter Try.func39, Try.ntmps39
    go_wp2_with (first
      | ((with_reducible show wpList _ _ _ (⟨_, .box _ _, _, _, _, _⟩ :: _) _ _); go_must (refine wpList_box rfl ?_; intro w1 hx1 hb1 hs1; obtain ⟨c0, c1, c2, c3, c4, c5⟩ := elf_box hx1)))
    refine (HMY.out _ hb1).mono ?_
    rintro r w2 ⟨rfl, hb2⟩
    go_wp2
    go_ret2
    exact ⟨_, by rw [HR.out]; rfl, by rw [HR.out]; exact OB.nil _ _, hb1.trans (hb2.mono hb1.size)⟩
  | true =>
    have HR := Lib.hid (fileW_ok hmy)
    have HK := Lib.hid (mayK hmy)
    rw [hmy] at HMY
    clear hmy
    have hnl2 : nl ≤ 250 := by have h1 := HK.out.secs; have h2 := HEL.out; have h3 := HL.out; omega
    have hgn2 : gn ≤ 16 := by have h1 := HK.out.segs; have h2 := HGN.out; omega
    go_enter Try.func39, Try.ntmps39
    go_wp2_with (first
      | ((with_reducible show wpList _ _ _ (⟨_, .box _ _, _, _, _, _⟩ :: _) _ _); go_must (refine wpList_box rfl ?_; intro w1 hx1 hb1 hs1; obtain ⟨c0, c1, c2, c3, c4, c5⟩ := elf_box hx1)))
    have HX1 := Lib.hid hx1
    have HB1 := Lib.hid hb1
    have hs1' := hs1
    clear hx1 hb1 c0 c1 c2 c3 c4 c5
    refine (HMY.out _ HB1.out).mono ?_
    rintro r w2 ⟨rfl, hb2⟩
    have HX2 := Lib.hid (heap_below hb2 HX1.out)
    have HB2 := Lib.hid (HB1.out.trans (hb2.mono HB1.out.size))
    have hs2 := hb2.size
    clear hb2 HMY
    obtain ⟨c0, c1, c2, c3, c4, c5⟩ := elf_box HX2.out
    have HNA := Lib.hid (names_any e L _ _ w2 (HAT.out.mono HB2.out) (by have := HL.out; omega))
    rw [HK.out.ok] at HNA
    go_wp2_with fail
    clear c0 c1 c2 c3 c4 c5
    refine HNA.out.mono ?_
    rintro r w3 ⟨v1, v2, rfl, ob1, ow2, hb3⟩
    have OB1 := Lib.hid (show OB w3 w2.heap.size v1 (tabOf e) from ob1)
    have OW2 := Lib.hid (show Ow I64 3 w3 w2.heap.size v2 (atsOf e) from ow2)
    have HX3 := Lib.hid (heap_below hb3 HX2.out)
    have HB3 := Lib.hid (HB2.out.trans (hb3.mono HB2.out.size))
    have hs3 := hb3.size
    obtain ⟨tn, ta, tc, htn, rfl, _, _⟩ := ob1.bs.shape
    replace htn : Hid (tn = (tabOf e).length) := htn
    obtain ⟨aa, ac, rfl, hac, -, haac⟩ := (show Rd I64 w3 v2 (atsOf e) from ow2.rd).open 0
    have HAC := Lib.hid haac
    obtain ⟨al, hal⟩ : ∃ al, al = (atsOf e).length := ⟨_, rfl⟩
    have HAK := Lib.hid (atsOf_len HK.out)
    have hal2 : al = nl + 1 := by have h1 := HAK.out.1; have h2 := HEL.out; have h3 := HL.out; omega
    rw [← hal] at hac ⊢
    have HALN := Lib.hid hal
    clear ob1 ow2 hb3 HNA haac hal
    subst hal2
    have htl : tn ≤ 40000 := by have h1 := tabOf_len e; have h2 := htn.out; have h3 := HEL.out; have h4 := HL.out; omega
    have HPL := Lib.hid (places_any e L _ _ tn w3 (HAT.out.mono HB3.out) (by have := HL.out; omega) (by have := HGN.out; omega) HK.out.pow HOK.out.fits.secs HOK.out.data (by omega))
    have HHD : Hid (headsOf e tn = headsOf e (tabOf e).length) := by rw [htn.out]; exact rfl
    have hhd : headsOf e tn + 64 * (nl + 2) ≤ 4194304 := by have h1 := HK.out.len; have h2 := HHD.out; have h3 := HEL.out; have h4 := HL.out; omega
    have HGE := Lib.hid (show (placesOf e).2 + tn ≤ headsOf e tn ∧ headsOf e tn < (placesOf e).2 + tn + 8 by have h1 := heads_ge (e := e); have h2 := HHD.out; have h3 := htn.out; omega)
    obtain ⟨hd, hhdd⟩ : ∃ hd, hd = headsOf e tn := ⟨_, rfl⟩
    obtain ⟨pe, hpe⟩ : ∃ pe, pe = (placesOf e).2 := ⟨_, rfl⟩
    rw [← hhdd] at HPL HHD hhd HGE
    rw [← hpe] at HPL HGE
    have HPE := Lib.hid hpe
    clear hhdd hpe
    obtain ⟨c0, c1, c2, c3, c4, c5⟩ := elf_box HX3.out
    go_wp2_with fail
    clear c0 c1 c2 c3 c4 c5
    refine HPL.out.mono ?_
    rintro r w4 ⟨v3, rfl, ow3, hb4⟩
    obtain ⟨pa, pc, rfl, hpc, -, hpac⟩ := (show Rd I64 w4 v3 (placesOf e).1 from ow3.rd).open 0
    have HPC := Lib.hid hpac
    have hpl : (placesOf e).1.length = nl := by have h1 := plF_len (g := segsB e) (n := front e) e.secs; have h2 := HEL.out; have h3 := HL.out; exact h1.trans (by omega)
    rw [hpl] at hpc ⊢
    have HPLN := Lib.hid hpl
    have HX4 := Lib.hid (heap_below hb4 HX3.out)
    have HB4w := Lib.hid (HB3.out.trans (hb4.mono HB3.out.size))
    have OB14 := Lib.hid (OB1.out.mono hb4)
    have HAC4 : Hid (∀ j, j < (atsOf e).length → ∃ b off, aa = some ⟨b, off, none⟩ ∧ w4.cell? ⟨b, off + j, none⟩ = some (I64 ((atsOf e)[j]?.getD 0))) := fun j hj => by
      obtain ⟨b, off, h1, h2⟩ := HAC.out j hj
      exact ⟨b, off, h1, (hb4.cell (block_lt h2)).trans h2⟩
    have hs4 := hb4.size
    have hG4 : w.heap.size < w4.heap.size := by omega
    have hwf4 : w.heap.size ≤ w3.heap.size := by omega
    clear ow3 hb4 hpac hpl HPL OB1 HAC
    obtain ⟨c0, c1, c2, c3, c4, c5⟩ := elf_box (heap_below (below_alloc w4 (.cells #[.slice none 0 0] 96)) HX4.out)
    go_wp2_with fail
    clear c0 c1 c2 c3 c4 c5
    refine (headF_any e nl gn a ga ca gc hd w4.heap.size w4.heap.size _ ⟨_, heap_alloc_last w4 _, Nat.le_refl _, OB.nil _ _⟩ (by have h2 := HEL.out; have h3 := HL.out; omega) HGN.out HOK.out.fits HK.out.typ (by omega) (by omega) (by omega) (by rw [World.size_alloc]; omega)).mono ?_
    rintro r w5 ⟨rfl, hf5, hb5, hk5⟩
    have HF5 := Lib.hid hf5
    have HB5 := Lib.hid ((below_alloc w4 _).trans hb5)
    clear hf5 hb5 hk5
    obtain ⟨c0, c1, c2, c3, c4, c5⟩ := elf_box (heap_base HB5.out HX4.out hG4)
    go_wp2
    go_loopw [40] (fun i wr => ∃ k : Nat, i = .int .i64 k ∧ k ≤ gn ∧ Hid (FileAt wr w4.heap.size w4.heap.size (headB e hd ++ (e.segs.take k).flatMap segBy)) ∧ Hid (Below w4.heap.size w4 wr)) (fun i _ => gn - (intOf i).toNat)
    case atStart => exact ⟨0, rfl, Nat.zero_le _, by simpa [Hid] using HF5.out, HB5.out⟩
    case round =>
      clear c0 c1 c2 c3 c4 c5
      obtain ⟨k, rfl, hk, HF, HB⟩ := hrel
      have hbs := HB.out.size
      have hgl := HF.out.lt
      have HBW := Lib.hid (HB4w.out.trans (HB.out.mono (by omega)))
      by_cases hlt : k < gn
      · have X1 := Lib.hid (show e.segs[k]? = some (e.segs[k]'(by have := HGN.out; omega)) from List.getElem?_eq_getElem _)
        generalize e.segs[k]'(by have := HGN.out; omega) = x at *
        obtain ⟨b1, o1, ha, c10, c11, c12, c13, c14, c15, c16, -⟩ := seg_cells HCG.out HBW.out X1.out
        subst ha
        have HFS := Lib.hid (HOK.out.fits.segs _ (List.mem_of_getElem? X1.out))
        have HST : Hid ((e.segs.take (k + 1)).flatMap segBy = (e.segs.take k).flatMap segBy ++ segBy x) := by rw [List.take_add_one, X1.out, List.flatMap_append]; simp [Hid]
        have HTL := Lib.hid (show (headB e hd ++ (e.segs.take k).flatMap segBy).length ≤ 5000 by
          rw [List.length_append, headB_len, flat_len' segBy_len, List.length_take]; omega)
        obtain ⟨typ, flags, off, vaddr, filesz, memsz, align⟩ := x
        generalize hT : headB e hd ++ (e.segs.take k).flatMap segBy = T at *
        have HT := Lib.hid hT
        clear hT
        dsimp only at *
        have hty : typ < 4294967296 := HFS.out.1
        have hfl : flags < 4294967296 := HFS.out.2.1
        go_wp2_with (first
          | ((with_reducible show wpList _ _ _ (⟨none, .store _ _ _, _, _, _, _⟩ :: _) _ _); go_must (refine wpList_storeNew rfl rfl (by kernel_rfl) rfl (by simp [Value.oneCell']) ?_; intro w6 hh6 hb6; obtain ⟨e0, e1, e2, e3, e4, e5, e6⟩ := seg_box (x := ⟨typ, flags, off, vaddr, filesz, memsz, align⟩) hh6; have HH6 := Lib.hid hh6; have HF6 := Lib.hid (HF.out.mono hb6); have HB6 := Lib.hid (HB.out.trans (hb6.mono HB.out.size)); have hr6 := HB.out.size; clear hb6 hh6)))
        refine (putF_any [typ, flags] 4 _ w4.heap.size w4.heap.size _ _ (HF6.out.mono (below_alloc _ _)) (heap_alloc_last _ _) (fun h => by have := HF6.out.lt; omega) (by decide) (by have h1 := HTL.out; (try simp only [List.length_append, flat_len' (fun n => length_fixed n _), List.length_replicate, List.length_cons, List.length_nil]); omega) (Nat.le_of_ble_eq_true rfl) (by intro n hn;  simp only [List.mem_cons, List.not_mem_nil, or_false] at hn; omega) (by rw [World.size_alloc]; have := HB6.out.size; omega) 2 (Nat.le_refl _)).mono ?_
        rintro r w7 ⟨rfl, hf, hb, hk⟩
        have HF7 := Lib.hid hf
        have HB7 := Lib.hid ((HB6.out.trans ((below_alloc w6 _).mono HB6.out.size)).trans hb)
        have HH7 := Lib.hid (hk _ _ _ _ (by omega) (by decide) (heap_below (below_alloc _ _) HH6.out))
        clear hf hb hk
        clear e0 e1 e2 e3 e4 e5 e6
        obtain ⟨e0, e1, e2, e3, e4, e5, e6⟩ := seg_box (x := ⟨typ, flags, off, vaddr, filesz, memsz, align⟩) HH7.out
        go_wp2_with fail
        refine (putF_any [off, vaddr, vaddr, filesz, memsz, align] 8 _ w4.heap.size w4.heap.size _ _ (HF7.out.mono (below_alloc _ _)) (heap_alloc_last _ _) (fun h => by have := HF7.out.lt; omega) (by decide) (by have h1 := HTL.out; (try simp only [List.length_append, flat_len' (fun n => length_fixed n _), List.length_cons, List.length_nil]); omega) (Nat.le_of_ble_eq_true rfl) (by intro n hn; have h1 := HFS.out.2.2.1; have h2 := HFS.out.2.2.2.1; have h3 := HFS.out.2.2.2.2.1; have h4 := HFS.out.2.2.2.2.2.1; have h5 := HFS.out.2.2.2.2.2.2; dsimp only at h1 h2 h3 h4 h5; simp only [List.mem_cons, List.not_mem_nil, or_false] at hn; omega) (by rw [World.size_alloc]; have := HB7.out.size; omega) 6 (Nat.le_refl _)).mono ?_
        rintro r w8 ⟨rfl, hf, hb, hk⟩
        have HF8 := Lib.hid hf
        have HB8 := Lib.hid ((HB7.out.trans ((below_alloc w7 _).mono HB7.out.size)).trans hb)
        clear hf hb hk
        have HF9 := Lib.hid (show FileAt w8 w4.heap.size w4.heap.size (headB e hd ++ (e.segs.take (k + 1)).flatMap segBy) by rw [HST.out, ← List.append_assoc, HT.out]; have := HF8.out; rw [List.append_assoc] at this; exact this)
        clear e0 e1 e2 e3 e4 e5 e6
        go_wp2
        go_roundw
        case rel =>
          first
            | exact ⟨k + 1, by go_num, by omega, HF9.out, HB8.out⟩
            | ((repeat apply Exists.intro); exact ⟨⟨k + 1, by go_num, by omega, HF9.out, HB8.out⟩, rfl⟩)
        case measure => simp [intOf] <;> omega
      · have hkn : e.segs.take k = e.segs := List.take_of_length_le (by have := HGN.out; omega)
        have HFR := Lib.hid (show FileAt wr w4.heap.size w4.heap.size (frontB e) by
          have := HF.out
          rw [hkn] at this
          unfold frontB
          rw [← HHD.out]
          exact this)
        have HBR := Lib.hid HB.out
        obtain ⟨c0, c1, c2, c3, c4, c5⟩ := elf_box (heap_base HB.out HX4.out hG4)
        clear HF hkn
        go_wp2
        go_loopw [70] (fun i wr => ∃ k : Nat, i = .int .i64 k ∧ k ≤ nl ∧ Hid (FileAt wr w4.heap.size w4.heap.size (bodyF (frontB e) ((e.secs.zip (placesOf e).1).take k))) ∧ Hid (Below w4.heap.size w4 wr)) (fun i _ => nl - (intOf i).toNat)
        case atStart => exact ⟨0, rfl, Nat.zero_le _, HFR.out, HBR.out⟩
        case round =>
          clear c0 c1 c2 c3 c4 c5
          obtain ⟨k, rfl, hk, HF, HB⟩ := hrel
          have hbs := HB.out.size
          have hgl := HF.out.lt
          have HBW := Lib.hid (HB4w.out.trans (HB.out.mono (by omega)))
          by_cases hlt : k < nl
          · have X1 := Lib.hid (show L[k]? = some (L[k]'(by have := HL.out; omega)) from List.getElem?_eq_getElem _)
            generalize L[k]'(by have := HL.out; omega) = x at *
            obtain ⟨s, dv⟩ := x
            have HDB := Lib.hid (HD.out _ (List.mem_of_getElem? X1.out))
            obtain ⟨dm, da, dc, hdm, rfl, _, _⟩ := HDB.out.shape
            have X2 := Lib.hid (HSE.out _ _ X1.out)
            have HZP := Lib.hid (zipP (g := segsB e) (n := front e) X2.out)
            have HPG := Lib.hid (plF_get (g := segsB e) (n := front e) X2.out)
            have HST := Lib.hid (show bodyF (frontB e) ((e.secs.zip (placesOf e).1).take (k + 1)) = bodyF (frontB e) ((e.secs.zip (placesOf e).1).take k) ++ List.replicate (placeS (segsB e) (plF (segsB e) (front e) (e.secs.take k)).2 s - (bodyF (frontB e) ((e.secs.zip (placesOf e).1).take k)).length) 0 ++ s.data from bodyF_step (acc := frontB e) HZP.out)
            have HLN := Lib.hid (body_len (g := segsB e) (frontB_len e) HK.out.pow k (by have h1 := HEL.out; have h2 := HL.out; omega))
            have HLE := Lib.hid (placeS_le (g := segsB e) (p := (plF (segsB e) (front e) (e.secs.take k)).2) (HK.out.pow _ (List.mem_of_getElem? X2.out)))
            have HPB := Lib.hid (place_bd HK.out (k + 1))
            rw [plF_step X2.out] at HPB
            have hp9 : placeS (segsB e) (plF (segsB e) (front e) (e.secs.take k)).2 s + dm ≤ 4194304 := by
              have h1 : placeS (segsB e) (plF (segsB e) (front e) (e.secs.take k)).2 s + s.data.length ≤ (placesOf e).2 := HPB.out
              have h2 := HGE.out.1
              have h3 := HPE.out
              have h4 := hdm.out
              dsimp only at h4
              omega
            obtain ⟨b1, o1, ha, c10, c11, c12, c13, c14, c15, c16, c17, c18, c19, -⟩ := sec_cells HC.out HBW.out X1.out
            subst ha
            obtain ⟨bP, oP, hP1, cP⟩ := HPC.out k (by have := HPLN.out; omega)
            have HPGx := HPG.out
            replace HPGx : (placesOf e).1[k]? = _ := HPGx
            rw [HPGx] at cP
            simp only [Option.getD_some] at cP
            replace cP := (HB.out.cell (block_lt cP)).trans cP
            subst hP1
            have HPGY := Lib.hid HPGx
            generalize hT : bodyF (frontB e) ((e.secs.zip (placesOf e).1).take k) = T at *
            have HT := Lib.hid hT
            have HTL := Lib.hid (show T.length = (plF (segsB e) (front e) (e.secs.take k)).2 by rw [← hT]; exact HLN.out)
            generalize placeS (segsB e) (plF (segsB e) (front e) (e.secs.take k)).2 s = p at *
            obtain ⟨d, hd1⟩ : ∃ d, p = T.length + d := ⟨p - T.length, by have h1 := HLE.out.1; have h2 := HTL.out; omega⟩
            have HD1 := Lib.hid hd1
            clear hT HPGx hd1
            obtain ⟨name, typ, flags, addr, align, size, link, info, ent, data⟩ := s
            dsimp only at *
            go_wp2_with (first
              | ((with_reducible show wpList _ _ _ (⟨none, .store _ _ _, _, _, _, _⟩ :: _) _ _); go_must (refine wpList_storeNew rfl rfl (by kernel_rfl) rfl (by simp [Value.oneCell']) ?_; intro w6 hh6 hb6; obtain ⟨e0, e1, e2, e3, e4, e5, e6, e7, e8, e9⟩ := sec_box (x := (⟨name, typ, flags, addr, align, size, link, info, ent, data⟩, .slice da dm dc)) hh6; have HH6 := Lib.hid hh6; have HF6 := Lib.hid (HF.out.mono hb6); have HB6 := Lib.hid (HB.out.trans (hb6.mono HB.out.size)); have hr6 := HB.out.size; have cP6 := (hb6.cell (block_lt cP)).trans cP; clear hb6 hh6)))
            refine (fillF_any d w4.heap.size w4.heap.size (p : Int) T w6 HF6.out (by rw [HD1.out]) (by have h1 := HD1.out; omega) HB6.out.size).mono ?_
            rintro r w7 ⟨rfl, hf, hb, hk⟩
            have HH7 := Lib.hid (hk _ _ _ _ (by omega) (by decide) HH6.out)
            have HB7 := Lib.hid (HB6.out.trans hb)
            obtain ⟨v7, hg7, hbg7, hov7⟩ := hf
            have HG7 := Lib.hid hg7
            have HV7 := Lib.hid hov7
            obtain ⟨m7, ad7, cap7, hm7, rfl, _, _⟩ := hov7.shape
            have z7 := cell_rec HG7.out 0
            simp only [List.getElem?_toArray, List.getElem?_cons_zero] at z7
            have HBD7 := Lib.hid (HDB.out.mono (HB4w.out.trans (HB7.out.mono (by omega))))
            clear hb hk hg7 hov7 e0 e1 e2 e3 e4 e5 e6 e7 e8 e9
            obtain ⟨e0, e1, e2, e3, e4, e5, e6, e7, e8, e9⟩ := sec_box (x := (⟨name, typ, flags, addr, align, size, link, info, ent, data⟩, .slice da dm dc)) HH7.out
            go_wp2_with (first
              | ((with_reducible show wpList _ _ _ (⟨some 83, _, _, _, _, _⟩ :: _) _ _); go_must (refine wpList_catU HV7.out HBD7.out rfl rfl (by rw [List.length_append, List.length_replicate]; have h1 := HD1.out; have h2 := hdm.out; omega) HB7.out.size ?_; intro v8 w8 hv8 hg8; have HG8 := Lib.hid (keeps_own HV7.out hg8 _ _ _ _ (by decide) HG7.out); have HV8 := Lib.hid hv8; have HB8 := Lib.hid (HB7.out.trans (below_of_grown hg8 HB7.out.size fun k hk => (World.ownsRow.lt HV7.out k hk).1)); clear hv8 hg8))
              | ((with_reducible show wpList _ _ _ (⟨none, .store _ _ _, _, _, _, _⟩ :: _) _ _); go_must (refine wpList_storeF HG8.out hbg7 HV8.out rfl rfl HB8.out.size ?_; intro w9 hf9 hb9 hk9)))
            have HF9 := Lib.hid (show FileAt w9 w4.heap.size w4.heap.size (bodyF (frontB e) ((e.secs.zip (placesOf e).1).take (k + 1))) by
              rw [HST.out]
              rw [show p - T.length = d by have h1 := HD1.out; omega]
              exact hf9)
            have HB9 := Lib.hid (HB8.out.trans hb9)
            clear hf9 hb9 hk9 z7 e0 e1 e2 e3 e4 e5 e6 e7 e8 e9
            go_roundw
            case rel =>
              first
                | exact ⟨k + 1, by go_num, by omega, HF9.out, HB9.out⟩
                | ((repeat apply Exists.intro); exact ⟨⟨k + 1, by go_num, by omega, HF9.out, HB9.out⟩, rfl⟩)
            case measure => simp [intOf] <;> omega
          · have hkn : (e.secs.zip (placesOf e).1).take k = e.secs.zip (placesOf e).1 := List.take_of_length_le (by rw [List.length_zip]; have h1 := HEL.out; have h2 := HL.out; omega)
            have HF6 := Lib.hid (show FileAt wr w4.heap.size w4.heap.size (bodyB e) by
              have := HF.out
              rw [hkn] at this
              exact this)
            have HBL := Lib.hid (show (bodyB e).length = pe by rw [bodyB_len HK.out.pow, ← HPE.out])
            have HB6 := Lib.hid HB.out
            have hpe4 : pe ≤ 4194304 := by have := HGE.out.1; omega
            clear HF HB hkn
            go_wp2_with fail
            refine (fillF_any 0 w4.heap.size w4.heap.size (pe : Int) (bodyB e) wr HF6.out (by rw [HBL.out]; rfl) (by have h1 := HBL.out; omega) HB6.out.size).mono ?_
            rintro r w7 ⟨rfl, hf, hb, hk⟩
            have HB7 := Lib.hid (HB6.out.trans hb)
            rw [List.replicate_zero, List.append_nil] at hf
            obtain ⟨v7, hg7, hbg7, hov7⟩ := hf
            have HG7 := Lib.hid hg7
            have HV7 := Lib.hid hov7
            obtain ⟨m7, ad7, cap7, hm7, rfl, _, _⟩ := hov7.shape
            have z7 := cell_rec HG7.out 0
            simp only [List.getElem?_toArray, List.getElem?_cons_zero] at z7
            have HTB7 := Lib.hid (OB14.out.bs.mono HB7.out)
            clear hb hk hg7 hov7
            go_wp2_with (first
              | ((with_reducible show wpList _ _ _ (⟨some 89, _, _, _, _, _⟩ :: _) _ _); go_must (refine wpList_catU HV7.out HTB7.out rfl rfl (by have h1 := HBL.out; have h2 := htn.out; omega) HB7.out.size ?_; intro v8 w8 hv8 hg8; have HG8 := Lib.hid (keeps_own HV7.out hg8 _ _ _ _ (by decide) HG7.out); have HV8 := Lib.hid hv8; have HB8 := Lib.hid (HB7.out.trans (below_of_grown hg8 HB7.out.size fun k hk => (World.ownsRow.lt HV7.out k hk).1)); clear hv8 hg8))
              | ((with_reducible show wpList _ _ _ (⟨none, .store _ _ _, _, _, _, _⟩ :: _) _ _); go_must (refine wpList_storeF HG8.out hbg7 HV8.out rfl rfl HB8.out.size ?_; intro w9 hf9 hb9 hk9)))
            have HF9 := Lib.hid hf9
            have HB9 := Lib.hid (HB8.out.trans hb9)
            clear hf9 hb9 hk9 z7
            have HTN : Hid ((bodyB e ++ tabOf e).length = pe + tn) := by
              show _ = _
              rw [List.length_append, HBL.out, ← htn.out]
            obtain ⟨dd, hdd⟩ : ∃ dd, hd + 64 = pe + tn + dd := ⟨hd + 64 - (pe + tn), by have := HGE.out.1; omega⟩
            have HDD := Lib.hid hdd
            clear hdd
            refine (fillF_any dd w4.heap.size w4.heap.size ((hd : Int) + 64) _ w9 HF9.out (by rw [HTN.out]; have := HDD.out; omega) (by rw [HTN.out]; have := HDD.out; omega) HB9.out.size).mono ?_
            rintro r w10 ⟨rfl, hf, hb, hk⟩
            have HF10 := Lib.hid (show FileAt w10 w4.heap.size w4.heap.size (midB e) by
              unfold midB
              rw [← HHD.out, ← HPE.out, ← htn.out, show hd + 64 - (pe + tn) = dd by have := HDD.out; omega]
              exact hf)
            have HB10 := Lib.hid (HB9.out.trans hb)
            have HML := Lib.hid (show (midB e).length = hd + 64 by rw [midB_len HK.out, ← HHD.out])
            clear hf hb hk
            obtain ⟨c0, c1, c2, c3, c4, c5⟩ := elf_box (heap_base HB10.out HX4.out hG4)
            go_wp2
            go_loopw [96] (fun i wr => ∃ k : Nat, i = .int .i64 k ∧ k ≤ nl ∧ Hid (FileAt wr w4.heap.size w4.heap.size (midB e ++ ((e.secs.zip ((atsOf e).zip (placesOf e).1)).take k).flatMap fun p => hdrBy p.2.1 p.1 p.2.2)) ∧ Hid (Below w4.heap.size w4 wr)) (fun i _ => nl - (intOf i).toNat)
            case atStart => exact ⟨0, rfl, Nat.zero_le _, by simpa [Hid] using HF10.out, HB10.out⟩
            case round =>
              clear c0 c1 c2 c3 c4 c5
              obtain ⟨k, rfl, hk, HF, HB⟩ := hrel
              have hbs := HB.out.size
              have hgl := HF.out.lt
              have HBW := Lib.hid (HB4w.out.trans (HB.out.mono (by omega)))
              by_cases hlt : k < nl
              · have X1 := Lib.hid (show L[k]? = some (L[k]'(by have := HL.out; omega)) from List.getElem?_eq_getElem _)
                generalize L[k]'(by have := HL.out; omega) = x at *
                obtain ⟨s, dv⟩ := x
                have HDB := Lib.hid (HD.out _ (List.mem_of_getElem? X1.out))
                obtain ⟨dm, da, dc, hdm, rfl, _, _⟩ := HDB.out.shape
                have X2 := Lib.hid (HSE.out _ _ X1.out)
                have HFS := Lib.hid (HOK.out.fits.secs _ (List.mem_of_getElem? X2.out))
                obtain ⟨b1, o1, ha, c10, c11, c12, c13, c14, c15, c16, c17, c18, c19, -⟩ := sec_cells HC.out HBW.out X1.out
                subst ha
                have XA := Lib.hid (show (atsOf e)[k]? = some ((atsOf e)[k]'(by have := HALN.out; omega)) from List.getElem?_eq_getElem _)
                have XP := Lib.hid (show (placesOf e).1[k]? = some ((placesOf e).1[k]'(by have := HPLN.out; omega)) from List.getElem?_eq_getElem _)
                have hpbx : ∀ x, (placesOf e).1[k]? = some x → x ≤ 4194304 := fun x hx => by
                  have h2 := plF_get (g := segsB e) (n := front e) X2.out
                  have h3 : (placesOf e).1[k]? = some (placeS (segsB e) (plF (segsB e) (front e) (e.secs.take k)).2 s) := h2
                  rw [h3] at hx
                  injection hx with hx
                  have h4 := place_bd HK.out (k + 1)
                  rw [plF_step X2.out] at h4
                  have h5 : placeS (segsB e) (plF (segsB e) (front e) (e.secs.take k)).2 s + s.data.length ≤ (placesOf e).2 := h4
                  have h6 := HPE.out
                  omega
                have hab : (atsOf e)[k]'(by have := HALN.out; omega) ≤ 130000 := HAK.out.2 _ (List.getElem_mem _)
                obtain ⟨bA, oA, hA1, cA⟩ := HAC4.out k (by have := HALN.out; omega)
                obtain ⟨bP, oP, hP1, cP⟩ := HPC.out k (by have := HPLN.out; omega)
                rw [XA.out] at cA
                rw [XP.out] at cP
                have HST : Hid (((e.secs.zip ((atsOf e).zip (placesOf e).1)).take (k + 1)).flatMap (fun p => hdrBy p.2.1 p.1 p.2.2) = ((e.secs.zip ((atsOf e).zip (placesOf e).1)).take k).flatMap (fun p => hdrBy p.2.1 p.1 p.2.2) ++ hdrBy ((atsOf e)[k]'(by have := HALN.out; omega)) s ((placesOf e).1[k]'(by have := HPLN.out; omega))) := by
                  rw [List.take_add_one, show (e.secs.zip ((atsOf e).zip (placesOf e).1))[k]? = some (s, _, _) by rw [List.getElem?_zip_eq_some]; exact ⟨X2.out, by rw [List.getElem?_zip_eq_some]; exact ⟨XA.out, XP.out⟩⟩, List.flatMap_append]
                  simp [Hid]
                generalize (atsOf e)[k]'(by have := HALN.out; omega) = na at *
                generalize (placesOf e).1[k]'(by have := HPLN.out; omega) = pl at *
                have hpb := hpbx _ XP.out
                clear hpbx
                simp only [Option.getD_some] at cA cP
                replace cA := (HB.out.cell (block_lt cA)).trans cA
                have cP0 := cP
                replace cP := (HB.out.cell (block_lt cP)).trans cP
                subst hA1
                subst hP1
                have HTL := Lib.hid (show (midB e ++ ((e.secs.zip ((atsOf e).zip (placesOf e).1)).take k).flatMap fun p => hdrBy p.2.1 p.1 p.2.2).length ≤ 8000000 by
                  rw [List.length_append, HML.out, flat_len' (f := fun p : SecM × Nat × Nat => hdrBy p.2.1 p.1 p.2.2) (fun p => hdrBy_len p.2.1 p.1 p.2.2), List.length_take]
                  omega)
                generalize hT : (midB e ++ ((e.secs.zip ((atsOf e).zip (placesOf e).1)).take k).flatMap fun p => hdrBy p.2.1 p.1 p.2.2) = T at *
                have HT := Lib.hid hT
                clear hT
                obtain ⟨name, typ, flags, addr, align, size, link, info, ent, data⟩ := s
                dsimp only at *
                have hty : typ < 4294967296 := HFS.out.1
                have hli : link < 4294967296 := HFS.out.2.2.2.2.2.1
                have hin : info < 4294967296 := HFS.out.2.2.2.2.2.2.1
                go_wp2_with (first
                  | ((with_reducible show wpList _ _ _ (⟨none, .store _ _ _, _, _, _, _⟩ :: _) _ _); go_must (refine wpList_storeNew rfl rfl (by kernel_rfl) rfl (by simp [Value.oneCell']) ?_; intro w6 hh6 hb6; obtain ⟨e0, e1, e2, e3, e4, e5, e6, e7, e8, e9⟩ := sec_box (x := (⟨name, typ, flags, addr, align, size, link, info, ent, data⟩, .slice da dm dc)) hh6; have HH6 := Lib.hid hh6; have HF6 := Lib.hid (HF.out.mono hb6); have HB6 := Lib.hid (HB.out.trans (hb6.mono HB.out.size)); have hr6 := HB.out.size; have cP6 := (hb6.cell (block_lt cP)).trans cP; have cA6 := (hb6.cell (block_lt cA)).trans cA; clear hb6 hh6)))
                have hAB := fun (x : Above w6) (b k : Nat) (h : b < w6.heap.size) => Above.cell x b k h
                have hbltA : bA < w6.heap.size := block_lt cA6
                have hbltE : wr.heap.size < w6.heap.size := block_lt e0
                go_wp2
                refine wp_region_walk 9 [(8, .lit w6.heap.size 53 #[.int .u64 (na : Int), .int .u64 (typ : Int)])] (by kernel_rfl) (by kernel_rfl) ?_
                simp only [List.take_succ_cons, List.take_zero, List.drop_succ_cons, List.drop_zero]
                repeat (first
                  | (refine walk_quiet rfl rfl rfl ?_; intro K hK; go_big_quiet_op; go_big_quiet_on)
                  | (refine walk_lit rfl rfl (fun wx hwx _ => WpYld.val (run_l2 rfl rfl) (Yld.lit_mk _ hwx).1 (Yld.lit_mk _ hwx).2) (fun gb => ?_); go_frame))
                refine walk_nil ?_
                intro wz hbz hF
                obtain ⟨hgB, hgl2⟩ := Yld.lit_got (hF 8 _ 109 _ rfl rfl rfl rfl)
                have HLT := Lib.hid hgl2
                have HFz := Lib.hid (HF6.out.mono hbz)
                have HBz := Lib.hid (HB6.out.trans (hbz.mono HB6.out.size))
                have HHz := Lib.hid (heap_below hbz HH6.out)
                have HF7 := HFz
                have HB7 := HBz
                have hgbg : gb ≠ w4.heap.size := by have := HF6.out.lt; omega
                clear hF hbz hgl2 hAB hbltA hbltE
                go_wp2_with fail
                refine (putF_any [na, typ] 4 _ w4.heap.size w4.heap.size _ _ HF7.out HLT.out hgbg (by decide) (by have h1 := HTL.out; (try simp only [List.length_append, flat_len' (fun n => length_fixed n _), List.length_replicate, List.length_cons, List.length_nil]); omega) (Nat.le_of_ble_eq_true rfl) (by intro n hn;  simp only [List.mem_cons, List.not_mem_nil, or_false] at hn; omega) HB7.out.size 2 (Nat.le_refl _)).mono ?_
                rintro r w8 ⟨rfl, hf, hb, hk⟩
                have HF8 := Lib.hid hf
                have HB8 := Lib.hid (HB7.out.trans hb)
                have HH8 := Lib.hid (hk _ _ _ _ (by omega) (by decide) HHz.out)
                clear hf hb hk
                clear e0 e1 e2 e3 e4 e5 e6 e7 e8 e9
                obtain ⟨e0, e1, e2, e3, e4, e5, e6, e7, e8, e9⟩ := sec_box (x := (⟨name, typ, flags, addr, align, size, link, info, ent, data⟩, .slice da dm dc)) HH8.out
                have cP8 := ((HB8.out.cell (block_lt cP0)).trans cP0)
                have hAB := fun (x : Above w8) (b k : Nat) (h : b < w8.heap.size) => Above.cell x b k h
                have hbltP : bP < w8.heap.size := block_lt cP8
                have hbltE : wr.heap.size < w8.heap.size := block_lt e0
                go_wp2
                refine wp_region_walk 12 [(11, .lit w8.heap.size 53 #[.int .u64 (flags : Int), .int .u64 (addr : Int), .int .u64 (pl : Int), .int .u64 (size : Int)])] (by kernel_rfl) (by kernel_rfl) ?_
                simp only [List.take_succ_cons, List.take_zero, List.drop_succ_cons, List.drop_zero]
                repeat (first
                  | (refine walk_quiet rfl rfl rfl ?_; intro K hK; go_big_quiet_op; go_big_quiet_on)
                  | (refine walk_lit rfl rfl (fun wx hwx _ => WpYld.val (run_l4 rfl rfl rfl rfl) (Yld.lit_mk _ hwx).1 (Yld.lit_mk _ hwx).2) (fun gc2 => ?_); go_frame))
                refine walk_nil ?_
                intro wy hby hF
                obtain ⟨hgB, hgl2⟩ := Yld.lit_got (hF 11 _ 122 _ rfl rfl rfl rfl)
                have HLT2 := Lib.hid hgl2
                have HF9 := Lib.hid (HF8.out.mono hby)
                have HB9 := Lib.hid (HB8.out.trans (hby.mono HB8.out.size))
                have HHy := Lib.hid (heap_below hby HH8.out)
                have hgcg : gc2 ≠ w4.heap.size := by have := HF8.out.lt; omega
                clear hF hby hgl2 hAB hbltP hbltE cP8
                go_wp2_with fail
                refine (putF_any [flags, addr, pl, size] 8 _ w4.heap.size w4.heap.size _ _ HF9.out HLT2.out hgcg (by decide) (by have h1 := HTL.out; (try simp only [List.length_append, flat_len' (fun n => length_fixed n _), List.length_cons, List.length_nil]); omega) (Nat.le_of_ble_eq_true rfl) (by intro n hn; have h1 := HFS.out.2.1; have h2 := HFS.out.2.2.1; have h3 := HFS.out.2.2.2.2.1; dsimp only at h1 h2 h3; simp only [List.mem_cons, List.not_mem_nil, or_false] at hn; omega) HB9.out.size 4 (Nat.le_refl _)).mono ?_
                rintro r w10 ⟨rfl, hf, hb, hk⟩
                have HF10 := Lib.hid hf
                have HB10 := Lib.hid (HB9.out.trans hb)
                have HH10 := Lib.hid (hk _ _ _ _ (by omega) (by decide) HHy.out)
                clear hf hb hk
                clear e0 e1 e2 e3 e4 e5 e6 e7 e8 e9
                obtain ⟨e0, e1, e2, e3, e4, e5, e6, e7, e8, e9⟩ := sec_box (x := (⟨name, typ, flags, addr, align, size, link, info, ent, data⟩, .slice da dm dc)) HH10.out
                go_wp2_with fail
                refine (putF_any [link, info] 4 _ w4.heap.size w4.heap.size _ _ (HF10.out.mono (below_alloc _ _)) (heap_alloc_last _ _) (fun h => by have := HF10.out.lt; omega) (by decide) (by have h1 := HTL.out; (try simp only [List.length_append, flat_len' (fun n => length_fixed n _), List.length_cons, List.length_nil]); omega) (Nat.le_of_ble_eq_true rfl) (by intro n hn;  simp only [List.mem_cons, List.not_mem_nil, or_false] at hn; omega) (by rw [World.size_alloc]; have := HB10.out.size; omega) 2 (Nat.le_refl _)).mono ?_
                rintro r w11 ⟨rfl, hf, hb, hk⟩
                have HF11 := Lib.hid hf
                have HB11 := Lib.hid ((HB10.out.trans ((below_alloc w10 _).mono HB10.out.size)).trans hb)
                have HH11 := Lib.hid (hk _ _ _ _ (by omega) (by decide) (heap_below (below_alloc _ _) HH10.out))
                clear hf hb hk
                clear e0 e1 e2 e3 e4 e5 e6 e7 e8 e9
                obtain ⟨e0, e1, e2, e3, e4, e5, e6, e7, e8, e9⟩ := sec_box (x := (⟨name, typ, flags, addr, align, size, link, info, ent, data⟩, .slice da dm dc)) HH11.out
                go_wp2_with fail
                refine (putF_any [align, ent] 8 _ w4.heap.size w4.heap.size _ _ (HF11.out.mono (below_alloc _ _)) (heap_alloc_last _ _) (fun h => by have := HF11.out.lt; omega) (by decide) (by have h1 := HTL.out; (try simp only [List.length_append, flat_len' (fun n => length_fixed n _), List.length_cons, List.length_nil]); omega) (Nat.le_of_ble_eq_true rfl) (by intro n hn; have h1 := HFS.out.2.2.2.1; have h2 := HFS.out.2.2.2.2.2.2.2; dsimp only at h1 h2; simp only [List.mem_cons, List.not_mem_nil, or_false] at hn; omega) (by rw [World.size_alloc]; have := HB11.out.size; omega) 2 (Nat.le_refl _)).mono ?_
                rintro r w12 ⟨rfl, hf, hb, hk⟩
                have HF12 := Lib.hid hf
                have HB12 := Lib.hid ((HB11.out.trans ((below_alloc w11 _).mono HB11.out.size)).trans hb)
                clear hf hb hk
                clear e0 e1 e2 e3 e4 e5 e6 e7 e8 e9
                have HF13 := Lib.hid (show FileAt w12 w4.heap.size w4.heap.size (midB e ++ ((e.secs.zip ((atsOf e).zip (placesOf e).1)).take (k + 1)).flatMap fun p => hdrBy p.2.1 p.1 p.2.2) by
                  rw [HST.out, ← List.append_assoc, HT.out]
                  have := HF12.out
                  simp only [List.append_assoc] at this
                  unfold hdrBy
                  simp only [List.append_assoc]
                  exact this)
                go_wp2
                go_roundw
                case rel =>
                  first
                    | exact ⟨k + 1, by go_num, by omega, HF13.out, HB12.out⟩
                    | ((repeat apply Exists.intro); exact ⟨⟨k + 1, by go_num, by omega, HF13.out, HB12.out⟩, rfl⟩)
                case measure => simp [intOf] <;> omega
              · have hkn : (e.secs.zip ((atsOf e).zip (placesOf e).1)).take k = e.secs.zip ((atsOf e).zip (placesOf e).1) := List.take_of_length_le (by rw [List.length_zip]; have h1 := HEL.out; have h2 := HL.out; omega)
                have HF20 := Lib.hid (show FileAt wr w4.heap.size w4.heap.size (midB e ++ hdrsB e) by
                  have := HF.out
                  rw [hkn] at this
                  exact this)
                have HB20 := Lib.hid HB.out
                have HTL := Lib.hid (show (midB e ++ hdrsB e).length ≤ 8000000 by
                  unfold hdrsB
                  rw [List.length_append, HML.out, flat_len' (f := fun p : SecM × Nat × Nat => hdrBy p.2.1 p.1 p.2.2) (fun p => hdrBy_len p.2.1 p.1 p.2.2), List.length_zip]
                  have h1 := HEL.out
                  have h2 := HL.out
                  have h3 : min e.secs.length ((atsOf e).zip (placesOf e).1).length ≤ e.secs.length := Nat.min_le_left _ _
                  omega)
                have XA := Lib.hid (show (atsOf e)[nl]? = some ((atsOf e)[nl]'(by have := HALN.out; omega)) from List.getElem?_eq_getElem _)
                have hab : (atsOf e)[nl]'(by have := HALN.out; omega) ≤ 130000 := HAK.out.2 _ (List.getElem_mem _)
                obtain ⟨bA, oA, hA1, cA⟩ := HAC4.out nl (by have := HALN.out; omega)
                rw [XA.out] at cA
                generalize (atsOf e)[nl]'(by have := HALN.out; omega) = na at *
                simp only [Option.getD_some] at cA
                replace cA := (HB.out.cell (block_lt cA)).trans cA
                subst hA1
                have HFB : Hid (fileB e = midB e ++ hdrsB e ++ hdrBy na (tabSec tn) pe) := by
                  unfold fileB
                  rw [← htn.out, ← HPE.out, show e.secs.length = nl by have h1 := HEL.out; have h2 := HL.out; omega, XA.out]
                  exact rfl
                generalize hT : midB e ++ hdrsB e = T at *
                have hpe5 : pe ≤ 4194304 := hpe4
                clear HF HB hkn hT
                obtain ⟨c0, c1, c2, c3, c4, c5⟩ := elf_box (heap_base HB20.out HX4.out hG4)
                go_wp2_with fail
                clear c0 c1 c2 c3 c4 c5
                refine (putF_any [na, 3] 4 _ w4.heap.size w4.heap.size _ _ (HF20.out.mono (below_alloc _ _)) (heap_alloc_last _ _) (fun h => by have := HF20.out.lt; omega) (by decide) (by have h1 := HTL.out; (try simp only [List.length_append, flat_len' (fun n => length_fixed n _), List.length_replicate, List.length_cons, List.length_nil]); omega) (Nat.le_of_ble_eq_true rfl) (by intro n hn;  simp only [List.mem_cons, List.not_mem_nil, or_false] at hn; omega) (by rw [World.size_alloc]; have := HB20.out.size; omega) 2 (Nat.le_refl _)).mono ?_
                rintro r w21 ⟨rfl, hf, hb, hk⟩
                have HF21 := Lib.hid hf
                have HB21 := Lib.hid ((HB20.out.trans ((below_alloc wr _).mono HB20.out.size)).trans hb)
                clear hf hb hk
                obtain ⟨c0, c1, c2, c3, c4, c5⟩ := elf_box (heap_base HB21.out HX4.out hG4)
                go_wp2_with fail
                clear c0 c1 c2 c3 c4 c5
                refine (putF_any [0, 0, pe, tn] 8 _ w4.heap.size w4.heap.size _ _ (HF21.out.mono (below_alloc _ _)) (heap_alloc_last _ _) (fun h => by have := HF21.out.lt; omega) (by decide) (by have h1 := HTL.out; (try simp only [List.length_append, flat_len' (fun n => length_fixed n _), List.length_cons, List.length_nil]); omega) (Nat.le_of_ble_eq_true rfl) (by intro n hn;  simp only [List.mem_cons, List.not_mem_nil, or_false] at hn; omega) (by rw [World.size_alloc]; have := HB21.out.size; omega) 4 (Nat.le_refl _)).mono ?_
                rintro r w22 ⟨rfl, hf, hb, hk⟩
                have HF22 := Lib.hid hf
                have HB22 := Lib.hid ((HB21.out.trans ((below_alloc w21 _).mono HB21.out.size)).trans hb)
                clear hf hb hk
                obtain ⟨c0, c1, c2, c3, c4, c5⟩ := elf_box (heap_base HB22.out HX4.out hG4)
                go_wp2_with fail
                clear c0 c1 c2 c3 c4 c5
                refine (putF_any [0, 0] 4 _ w4.heap.size w4.heap.size _ _ (HF22.out.mono (below_alloc _ _)) (heap_alloc_last _ _) (fun h => by have := HF22.out.lt; omega) (by decide) (by have h1 := HTL.out; (try simp only [List.length_append, flat_len' (fun n => length_fixed n _), List.length_cons, List.length_nil]); omega) (Nat.le_of_ble_eq_true rfl) (by intro n hn;  simp only [List.mem_cons, List.not_mem_nil, or_false] at hn; omega) (by rw [World.size_alloc]; have := HB22.out.size; omega) 2 (Nat.le_refl _)).mono ?_
                rintro r w23 ⟨rfl, hf, hb, hk⟩
                have HF23 := Lib.hid hf
                have HB23 := Lib.hid ((HB22.out.trans ((below_alloc w22 _).mono HB22.out.size)).trans hb)
                clear hf hb hk
                obtain ⟨c0, c1, c2, c3, c4, c5⟩ := elf_box (heap_base HB23.out HX4.out hG4)
                go_wp2_with fail
                clear c0 c1 c2 c3 c4 c5
                refine (putF_any [1, 0] 8 _ w4.heap.size w4.heap.size _ _ (HF23.out.mono (below_alloc _ _)) (heap_alloc_last _ _) (fun h => by have := HF23.out.lt; omega) (by decide) (by have h1 := HTL.out; (try simp only [List.length_append, flat_len' (fun n => length_fixed n _), List.length_cons, List.length_nil]); omega) (Nat.le_of_ble_eq_true rfl) (by intro n hn;  simp only [List.mem_cons, List.not_mem_nil, or_false] at hn; omega) (by rw [World.size_alloc]; have := HB23.out.size; omega) 2 (Nat.le_refl _)).mono ?_
                rintro r w24 ⟨rfl, hf, hb, hk⟩
                have HF24 := Lib.hid hf
                have HB24 := Lib.hid ((HB23.out.trans ((below_alloc w23 _).mono HB23.out.size)).trans hb)
                clear hf hb hk
                obtain ⟨v24, hg24, hbg24, hov24⟩ := HF24.out
                have z24 := cell_rec hg24 0
                simp only [List.getElem?_toArray, List.getElem?_cons_zero] at z24
                have HV24 := Lib.hid hov24
                clear hg24 hov24
                go_wp2
                go_ret2
                refine ⟨_, by rw [HR.out]; rfl, ?_, HB4w.out.trans (HB24.out.mono (by omega))⟩
                rw [HR.out]
                show OB w24 w.heap.size v24 (fileB e)
                rw [HFB.out]
                have := HV24.out.base (show w.heap.size ≤ w4.heap.size by omega)
                unfold hdrBy
                simp only [List.append_assoc] at this ⊢
                exact this
end Go.Proofs.Ytgjoimcgiofinaa
namespace Go.Proofs.Ytgjoimcgiofinaa
open Go.RowKit Go.Fd
theorem TSec : SliceT Try.prog 58 69 10 96 := SliceT.mk' (z := .agg #[.string ⟨#[]⟩, .int .u32 0, .int .u64 0, .int .u64 0, .int .u64 0, .int .u64 0, .int .u32 0, .int .u32 0, .int .u64 0, .slice none 0 0]) (by kernel_rfl) (by kernel_rfl) rfl (by omega)
theorem TSeg : SliceT Try.prog 59 99 7 48 := SliceT.mk' (z := .agg #[.int .u32 0, .int .u32 0, .int .u64 0, .int .u64 0, .int .u64 0, .int .u64 0, .int .u64 0]) (by kernel_rfl) (by kernel_rfl) rfl (by omega)
theorem oneSec {L : List (SecM × Value)} (h : ∀ p ∈ L, p.2.oneCell' = true) : (L.flatMap encSec).all (·.oneCell') = true := by
  rw [List.all_eq_true]
  intro x hx
  obtain ⟨p, hp, hx⟩ := List.mem_flatMap.1 hx
  have := h p hp
  simp only [encSec, List.mem_cons, List.not_mem_nil, or_false] at hx
  rcases hx with rfl | rfl | rfl | rfl | rfl | rfl | rfl | rfl | rfl | rfl <;> first | rfl | exact this
theorem oneSeg (L : List SegM) : (L.flatMap encSeg).all (·.oneCell') = true := by
  rw [List.all_eq_true]
  intro x hx
  obtain ⟨p, hp, hx⟩ := List.mem_flatMap.1 hx
  simp only [encSeg, List.mem_cons, List.not_mem_nil, or_false] at hx
  rcases hx with rfl | rfl | rfl | rfl | rfl | rfl | rfl <;> rfl
abbrev elfZ : Array Value := #[.int .i64 0, .int .i64 0, .int .u32 0, .int .u64 0, .slice none 0 0, .slice none 0 0]
theorem run_allocElf {a : Act} {w : World} {d : Option Tmp} {ty : TypeId} {pos : String} {aft : Array Edge} {g : Option (Nat × Bool)} :
    (execOp a.eval ⟨d, .alloc 61, ty, pos, aft, g⟩).run Try.prog w = .ok (.value (.pointer (some ⟨w.heap.size, 0, none⟩))) (w.alloc (.cells elfZ 61)) := by
  kernel_rfl
/-- A block of zeros, named. -/
theorem wpList_allocElf {ops : Array Oper} {rest : List Oper} {Q : Exit → Act → World → Prop} {a : Act} {w : World} {d : Option Tmp} {ty : TypeId} {pos : String} {aft : Array Edge}
    (h : ∀ w1, w1.heap[w.heap.size]? = some (.cells elfZ 61 (0, 0)) → Below w.heap.size w w1 → w.heap.size < w1.heap.size → wpList Try.prog ops Q rest (a.put d (.pointer (some ⟨w.heap.size, 0, none⟩))) w1) :
    wpList Try.prog ops Q (⟨d, .alloc 61, ty, pos, aft, none⟩ :: rest) a w :=
  wpList_val rfl run_allocElf (h (w.alloc (.cells elfZ 61)) (heap_alloc_last w _) (below_alloc w _) (by rw [World.size_alloc]; omega))
/-- A whole struct into a block that was made. -/
theorem wpList_storeElf {ops : Array Oper} {rest : List Oper} {Q : Exit → Act → World → Prop} {a : Act} {w : World} {d : Option Tmp} {ty : TypeId} {pos : String} {aft : Array Edge} {p x : Operand} {c c' : Array Value} {g B : Nat} (hg : w.heap[g]? = some (.cells c 61 (0, 0))) (hp : a.eval p = .pointer (some ⟨g, 0, none⟩)) (hx : a.eval x = .agg c')
    (ho : c.size = c'.size) (hs : c'.size = 6) (h1 : c'.all (·.oneCell') = true) (hB : B ≤ g) (hBw : B ≤ w.heap.size)
    (h : ∀ w1, w1.heap[g]? = some (.cells c' 61 (0, 0)) → Below B w w1 → wpList Try.prog ops Q rest (a.put d undef) w1) :
    wpList Try.prog ops Q (⟨d, .store 61 p x, ty, pos, aft, none⟩ :: rest) a w :=
  wpList_storeMade hg hp hx (by rw [hs]; kernel_rfl) ho h1 hB hBw h
/-- One cell of a block that was made. -/
theorem wpList_set {P : Program} {ops : Array Oper} {rest : List Oper} {Q : Exit → Act → World → Prop} {a : Act} {w : World} {d : Option Tmp} {ty t tb : TypeId} {pos : String} {aft : Array Edge} {p x : Operand} {c : Array Value} {g j base m cap : Nat} {ad : Option Addr} (hg : w.heap[g]? = some (.cells c tb (0, 0))) (hj : j < c.size) (hp : a.eval p = .pointer (some ⟨g, j, none⟩)) (hx : a.eval x = .slice ad m cap) (hB : base ≤ g) (hBw : base ≤ w.heap.size) (hs : ∀ w, (sizeOf t).run P w = .ok 1 w)
    (h : ∀ w1, w1.heap[g]? = some (.cells (c.setIfInBounds j (.slice ad m cap)) tb (0, 0)) → Below base w w1 → Stirs (fun k => k = g) w w1 → wpList P ops Q rest (a.put d undef) w1) :
    wpList P ops Q (⟨d, .store t p x, ty, pos, aft, none⟩ :: rest) a w := by
  have hc : w.cell? ⟨g, j, none⟩ = some c[j] := (cell_rec hg j).trans (Array.getElem?_eq_getElem hj)
  have hfz := free_rec' hg j
  have hst : Stirs (fun k => k = g) w (w.setCell ⟨g, j, none⟩ (.slice ad m cap)) := stirs_setCell (S := fun k => k = g) _ g j _ rfl
  refine wpList_did (w' := w.setCell ⟨g, j, none⟩ (.slice ad m cap)) rfl ?_ (h _ ?_ ?_ hst)
  · simp only [execOp, hp, hx]
    simp [go_sem, hs, hc, hfz]
  · simp [World.setCell, Array.getElem?_modify, hg]
  · exact hst.below hBw (fun k hk => by rw [hk]; exact hB)
theorem own_kind {w : World} {base e size n : Nat} {v : Value} {xs : List Value} (h : w.ownsRow base e size v n xs) : ∀ g, v.ownBlock = some g → ∃ c fz, w.heap[g]? = some (.cells c e fz) := by
  intro g hg
  rcases h.2 with ⟨rfl, _⟩ | ⟨g', cap, cur, rfl, _, hh, _⟩
  · cases hg
  · cases hg
    exact ⟨cur, _, hh⟩
/-- The store of a whole struct into a block that was made: that block alone turns. -/
theorem wpList_storeElfS {ops : Array Oper} {rest : List Oper} {Q : Exit → Act → World → Prop} {a : Act} {w : World} {d : Option Tmp} {ty : TypeId} {pos : String} {aft : Array Edge} {p x : Operand} {c c' : Array Value} {g : Nat} (hg : w.heap[g]? = some (.cells c 61 (0, 0))) (hp : a.eval p = .pointer (some ⟨g, 0, none⟩)) (hx : a.eval x = .agg c')
    (ho : c.size = c'.size) (hs : c'.size = 6) (h1 : c'.all (·.oneCell') = true)
    (h : ∀ w1, w1.heap[g]? = some (.cells c' 61 (0, 0)) → Stirs (fun k => k = g) w w1 → wpList Try.prog ops Q rest (a.put d undef) w1) :
    wpList Try.prog ops Q (⟨d, .store 61 p x, ty, pos, aft, none⟩ :: rest) a w := by
  have hr : (execOp a.eval ⟨d, .store 61 p x, ty, pos, aft, none⟩).run Try.prog w = .ok .skip (w.setRow g c') := by
    simp only [execOp, hp, hx, Instr.storeAt, Instr.sureAddr, Sem.run_bind, Sem.run_pure, Result.andThen, run_storeVar_row w g 61 61 c c' hg ((show (Try.prog.info? 61).map (·.size) = some 6 by kernel_rfl).trans (by rw [hs])) ho h1]
  refine wpList_did rfl hr (h _ ?_ ?_)
  · simp only [World.setRow]
    rw [Array.getElem?_modify, if_pos rfl, hg]
    rfl
  · refine ⟨rfl, rfl, rfl, by simp [World.setRow], fun k _ hk => ?_⟩
    have : g ≠ k := fun e => hk e.symm
    simp only [World.setRow]
    rw [Array.getElem?_modify, if_neg this]
end Go.Proofs.Ytgjoimcgiofinaa
namespace Go.Proofs.Ytgjoimcgiofinaa
open Go.RowKit Go.Fd
/-- A section's header, as it is read; whether it is there, with its name and its bytes. -/
def secP (l tab : List UInt8) (a : Nat) : SecM := ⟨(atR tab (gN l a 4 : Nat)).1, gN l (a + 4) 4, gN l (a + 8) 8, gN l (a + 16) 8, gN l (a + 48) 8, gN l (a + 32) 8, gN l (a + 40) 4, gN l (a + 44) 4, gN l (a + 56) 8, if gN l (a + 4) 4 = 8 then [] else (l.drop (gN l (a + 24) 8)).take (gN l (a + 32) 8)⟩
def secOk (l tab : List UInt8) (a : Nat) : Bool := decide (a + 64 ≤ l.length) && decide ((atR tab (gN l a 4 : Nat)).2 = 0) && (decide (gN l (a + 4) 4 = 8) || inB l (gN l (a + 24) 8) (gN l (a + 32) 8))
theorem secOk_no {l tab : List UInt8} {a k s : Nat} (hs : Sized s) (hk : k + s ≤ 64) (h : okB l (a + k) s = false) : secOk l tab a = false := by
  rw [okB_iff hs] at h
  unfold secOk
  rw [show decide (a + 64 ≤ l.length) = false by simp only [decide_eq_false_iff_not] at *; omega]
  rfl
theorem secOk_name {l tab : List UInt8} {a : Nat} (h : (atR tab (gN l a 4 : Nat)).2 ≠ 0) : secOk l tab a = false := by
  unfold secOk
  rw [decide_eq_false h]
  simp
theorem secOk_cut {l tab : List UInt8} {a : Nat} (h8 : gN l (a + 4) 4 ≠ 8) (h : inB l (gN l (a + 24) 8) (gN l (a + 32) 8) = false) : secOk l tab a = false := by
  unfold secOk
  rw [h, decide_eq_false h8]
  simp
theorem secOk_yes {l tab : List UInt8} {a : Nat} (h : okB l (a + 56) 8 = true) (hn : (atR tab (gN l a 4 : Nat)).2 = 0) (hd : gN l (a + 4) 4 = 8 ∨ inB l (gN l (a + 24) 8) (gN l (a + 32) 8) = true) : secOk l tab a = true := by
  rw [okB_iff sz8] at h
  unfold secOk
  simp only [decide_eq_true_eq, Bool.and_eq_true, Bool.or_eq_true] at *
  exact ⟨⟨by omega, hn⟩, hd⟩
/-- A section comes with its bytes in memory of their own, or it goes up. -/
def SecRes (l tab : List UInt8) (a base : Nat) (r : Ending) (w : World) : Prop := secOk l tab a = true ∧ (∃ dv, r = .returned (secV (secP l tab a, dv)) ∧ OB w base dv (secP l tab a).data) ∨ secOk l tab a = false ∧ r = .panicked upF
abbrev secZ : Array Value := #[.string ⟨#[]⟩, .int .u32 0, .int .u64 0, .int .u64 0, .int .u64 0, .int .u64 0, .int .u32 0, .int .u32 0, .int .u64 0, .slice none 0 0]
theorem run_allocSec {a : Act} {w : World} {d : Option Tmp} {ty : TypeId} {pos : String} {aft : Array Edge} {g : Option (Nat × Bool)} :
    (execOp a.eval ⟨d, .alloc 69, ty, pos, aft, g⟩).run Try.prog w = .ok (.value (.pointer (some ⟨w.heap.size, 0, none⟩))) (w.alloc (.cells secZ 69)) := by
  kernel_rfl
theorem wpList_allocSec {ops : Array Oper} {rest : List Oper} {Q : Exit → Act → World → Prop} {a : Act} {w : World} {d : Option Tmp} {ty : TypeId} {pos : String} {aft : Array Edge}
    (h : ∀ w1, w1.heap[w.heap.size]? = some (.cells secZ 69 (0, 0)) → Below w.heap.size w w1 → w.heap.size < w1.heap.size → wpList Try.prog ops Q rest (a.put d (.pointer (some ⟨w.heap.size, 0, none⟩))) w1) :
    wpList Try.prog ops Q (⟨d, .alloc 69, ty, pos, aft, none⟩ :: rest) a w :=
  wpList_val rfl run_allocSec (h (w.alloc (.cells secZ 69)) (heap_alloc_last w _) (below_alloc w _) (by rw [World.size_alloc]; omega))
/-- One cell of a block that was made. -/
theorem wpList_setS {P : Program} {ops : Array Oper} {rest : List Oper} {Q : Exit → Act → World → Prop} {a : Act} {w : World} {d : Option Tmp} {ty t tb : TypeId} {pos : String} {aft : Array Edge} {p x : Operand} {c : Array Value} {g j base : Nat} {s : ByteArray} (hg : w.heap[g]? = some (.cells c tb (0, 0))) (hj : j < c.size) (hp : a.eval p = .pointer (some ⟨g, j, none⟩)) (hx : a.eval x = .string s) (hB : base ≤ g) (hBw : base ≤ w.heap.size) (hs : ∀ w, (sizeOf t).run P w = .ok 1 w)
    (h : ∀ w1, w1.heap[g]? = some (.cells (c.setIfInBounds j (.string s)) tb (0, 0)) → Below base w w1 → Stirs (fun k => k = g) w w1 → wpList P ops Q rest (a.put d undef) w1) :
    wpList P ops Q (⟨d, .store t p x, ty, pos, aft, none⟩ :: rest) a w := by
  have hc : w.cell? ⟨g, j, none⟩ = some c[j] := (cell_rec hg j).trans (Array.getElem?_eq_getElem hj)
  have hfz := free_rec' hg j
  have hst : Stirs (fun k => k = g) w (w.setCell ⟨g, j, none⟩ (.string s)) := stirs_setCell (S := fun k => k = g) _ g j _ rfl
  refine wpList_did (w' := w.setCell ⟨g, j, none⟩ (.string s)) rfl ?_ (h _ ?_ ?_ hst)
  · simp only [execOp, hp, hx]
    simp [go_sem, hs, hc, hfz]
  · simp [World.setCell, Array.getElem?_modify, hg]
  · exact hst.below hBw (fun k hk => by rw [hk]; exact hB)
/-- A whole struct into a block that was made; what else stays. -/
theorem wpList_storeRowS {P : Program} {ops : Array Oper} {rest : List Oper} {Q : Exit → Act → World → Prop} {a : Act} {w : World} {d : Option Tmp} {ty t : TypeId} {pos : String} {aft : Array Edge} {p x : Operand} {c c' : Array Value} {g : Nat} (hg : w.heap[g]? = some (.cells c t (0, 0))) (hp : a.eval p = .pointer (some ⟨g, 0, none⟩)) (hx : a.eval x = .agg c')
    (ho : c.size = c'.size) (hs : (P.info? t).map (·.size) = some c'.size) (h1 : c'.all (·.oneCell') = true)
    (h : ∀ w1, w1.heap[g]? = some (.cells c' t (0, 0)) → Stirs (fun k => k = g) w w1 → wpList P ops Q rest (a.put d undef) w1) :
    wpList P ops Q (⟨d, .store t p x, ty, pos, aft, none⟩ :: rest) a w := by
  have hr : (execOp a.eval ⟨d, .store t p x, ty, pos, aft, none⟩).run P w = .ok .skip (w.setRow g c') := by
    simp only [execOp, hp, hx, Instr.storeAt, Instr.sureAddr, Sem.run_bind, Sem.run_pure, Result.andThen, run_storeVar_row w g t t c c' hg hs ho h1]
  refine wpList_did rfl hr (h _ ?_ ?_)
  · simp only [World.setRow]
    rw [Array.getElem?_modify, if_pos rfl, hg]
    rfl
  · refine ⟨rfl, rfl, rfl, by simp [World.setRow], fun k _ hk => ?_⟩
    have : g ≠ k := fun e => hk e.symm
    simp only [World.setRow]
    rw [Array.getElem?_modify, if_neg this]
set_option maxRecDepth 100000 in
theorem sec1_any (l : List UInt8) (b1 b2 a i : Nat) (v : Value) (w : World) (hl : l.length ≤ 1000000000) (hv : Bs w v l) (h1 : w.heap[b1]? = some (.cells #[v] 120 (0, 0))) (h2 : w.heap[b2]? = some (.cells #[.int .i64 a] 3 (0, 0))) (ha : a ≤ 1000000000) (hi : i ≤ 100) :
    Calls Try.prog 124 #[.int .i64 i, .pointer (some ⟨b1, 0, none⟩), .pointer (some ⟨b2, 0, none⟩)] w fun r w' => w = w' ∧ ResU (okB l (a + i) 8) (.int .u64 (gN l (a + i) 8 : Nat)) r := by
  have HU := Lib.hid (ruN l (a + i) 8 v w hl hv)
  obtain ⟨m, ad, cap, -, rfl, _, _⟩ := hv.shape
  have c1 := cell_rec h1 0
  have c2 := cell_rec h2 0
  simp only [List.getElem?_toArray, List.getElem?_cons_zero] at c1 c2
  generalize okB l (a + i) 8 = ob at *
  generalize gN l (a + i) 8 = n at *
  clear h1 h2 hv
  go_enter Try.func124, Try.ntmps124
  go_wp2_with (go_at_call 90; refine HU.out.mono ?_; rintro e w1 ⟨rfl, ⟨rfl, rfl⟩ | ⟨rfl, rfl⟩⟩)
  · go_ret
    exact ⟨rfl, ResU.yes _⟩
  · exact ⟨rfl, rfl, ResU.no _⟩
/-- Bytes cut out, in a region. -/
abbrev YC (l : List UInt8) (a s : Nat) : Yld := Yld.any (fun v w => inB l a s = true ∧ Bs w v ((l.drop a).take s)) (fun _ _ _ h hb => ⟨h.1, h.2.mono hb⟩)
abbrev YO (base : Nat) (d : List UInt8) : Yld := Yld.any (fun v w => OB w base v d) (fun _ _ _ h hb => h.mono hb)
theorem YA_got {rel : Value → World → Prop} {st} {v : Value} {w : World} (h : (Yld.any rel st).R v w) : rel v w := by
  obtain ⟨x, e, hr⟩ := h
  subst e
  exact hr
theorem YA_mk {rel : Value → World → Prop} {st} {v : Value} {w : World} (h : rel v w) : (Yld.any rel st).R v w := ⟨v, rfl, h⟩
attribute [local irreducible] gN okB inB atR
set_option maxHeartbeats 4000000 in
set_option maxRecDepth 100000 in
theorem sec_any (l tab : List UInt8) (a : Nat) (v tv : Value) (w : World) (hl : l.length ≤ 1000000000) (hv : Bs w v l) (ht : tab.length ≤ 1000000000) (htv : Bs w tv tab) (ha : a ≤ 100000000) :
    Calls Try.prog 115 #[v, .int .i64 a, tv] w fun r w' => SecRes l tab a w.heap.size r w' ∧ Below w.heap.size w w' := by
  have HV := Lib.hid hv
  have HTV := Lib.hid htv
  obtain ⟨m, ad, cap, -, rfl, _, _⟩ := hv.shape
  obtain ⟨tm, tad, tcap, -, rfl, _, _⟩ := htv.shape
  have HNO := Lib.hid (fun (k s : Nat) (hs : Sized (s : Int)) (hk : k + s ≤ 64) => secOk_no (l := l) (tab := tab) (a := a) hs hk)
  have HNM := Lib.hid (secOk_name (l := l) (tab := tab) (a := a))
  have HCT := Lib.hid (secOk_cut (l := l) (tab := tab) (a := a))
  have HYES := Lib.hid (secOk_yes (l := l) (tab := tab) (a := a))
  have hb0 := gN4 l a
  have hb1 := gN4 l (a + 4)
  have hb2 := gN4 l (a + 40)
  have hb3 := gN4 l (a + 44)
  have HB24 := Lib.hid (gN8 l (a + 24))
  have HB32 := Lib.hid (gN8 l (a + 32))
  have HAT : Hid (∀ wx, Below w.heap.size w wx → Calls Try.prog 18 #[.slice tad tm tcap, .int .i64 (gN l a 4 : Nat)] wx fun e w' => e = .returned (.tuple #[S (atR tab (gN l a 4 : Nat)).1, .int .i64 (atR tab (gN l a 4 : Nat)).2]) ∧ wx = w') := Lib.hid (fun wx hwx => strsAt_any tab (gN l a 4 : Nat) _ wx ht (HTV.out.mono hwx))
  have HSEC : Hid (secP l tab a = ⟨(atR tab (gN l a 4 : Nat)).1, gN l (a + 4) 4, gN l (a + 8) 8, gN l (a + 16) 8, gN l (a + 48) 8, gN l (a + 32) 8, gN l (a + 40) 4, gN l (a + 44) 4, gN l (a + 56) 8, if gN l (a + 4) 4 = 8 then [] else (l.drop (gN l (a + 24) 8)).take (gN l (a + 32) 8)⟩) := rfl
  generalize hq : atR tab (gN l a 4 : Nat) = q at *
  obtain ⟨nm, code⟩ := q
  clear hv htv hq
  go_enter Try.func115, Try.ntmps115
  go_wp2_with (first
    | ((with_reducible show wpList _ _ _ (⟨some 3, .box _ _, _, _, _, _⟩ :: _) _ _); go_must (refine wpList_boxS rfl ?_; intro w1 hx1 hb1 hs1; have HX1 := Lib.hid hx1; have HB1 := Lib.hid hb1; clear hx1 hb1))
    | ((with_reducible show wpList _ _ _ (⟨some 4, .box _ _, _, _, _, _⟩ :: _) _ _); go_must (refine wpList_boxI rfl ?_; intro w2 hx2 hb2 hs2; have HX2 := Lib.hid hx2; have HX12 := Lib.hid (heap_below hb2 HX1.out); have HB2 := Lib.hid (HB1.out.trans (hb2.mono HB1.out.size)); clear hx2 hb2))
    | ((with_reducible show wpList _ _ _ (⟨some 6, .alloc _, _, _, _, _⟩ :: _) _ _); go_must (refine wpList_allocSec ?_; intro w3 hx3 hb3 hs3; have HX3 := Lib.hid hx3; have HX13 := Lib.hid (heap_below hb3 HX12.out); have HX23 := Lib.hid (heap_below hb3 HX2.out); have HB3 := Lib.hid (HB2.out.trans (hb3.mono HB2.out.size)); clear hx3 hb3)))
  have c1 := cell_rec HX13.out 0
  have c2 := cell_rec HX23.out 0
  simp only [List.getElem?_toArray, List.getElem?_cons_zero] at c1 c2
  have hAB := fun (x : Above w3) (b k : Nat) (h : b < w3.heap.size) => Above.cell x b k h
  have l1 := block_lt c1
  have l2 := block_lt c2
  have HU4 : Hid (∀ wx (_ : Below w3.heap.size w3 wx), Calls Try.prog 90 #[.slice ad m cap, .int .i64 ((a : Int) + 4), .int .i64 4] wx fun r w' => wx = w' ∧ ResU (okB l (a + 4) 4) (.int .u64 (gN l (a + 4) 4 : Nat)) r) := Lib.hid (fun wx hwx => ruN l (a + 4) 4 _ wx hl (HV.out.mono (HB3.out.trans (hwx.mono HB3.out.size))))
  have HU40 : Hid (∀ wx (_ : Below w3.heap.size w3 wx), Calls Try.prog 90 #[.slice ad m cap, .int .i64 ((a : Int) + 40), .int .i64 4] wx fun r w' => wx = w' ∧ ResU (okB l (a + 40) 4) (.int .u64 (gN l (a + 40) 4 : Nat)) r) := Lib.hid (fun wx hwx => ruN l (a + 40) 4 _ wx hl (HV.out.mono (HB3.out.trans (hwx.mono HB3.out.size))))
  have HU44 : Hid (∀ wx (_ : Below w3.heap.size w3 wx), Calls Try.prog 90 #[.slice ad m cap, .int .i64 ((a : Int) + 44), .int .i64 4] wx fun r w' => wx = w' ∧ ResU (okB l (a + 44) 4) (.int .u64 (gN l (a + 44) 4 : Nat)) r) := Lib.hid (fun wx hwx => ruN l (a + 44) 4 _ wx hl (HV.out.mono (HB3.out.trans (hwx.mono HB3.out.size))))
  have HU0 : Hid (∀ wx (_ : Below w3.heap.size w3 wx), Calls Try.prog 90 #[.slice ad m cap, .int .i64 a, .int .i64 4] wx fun r w' => wx = w' ∧ ResU (okB l a 4) (.int .u64 (gN l a 4 : Nat)) r) := Lib.hid (fun wx hwx => ruN l a 4 _ wx hl (HV.out.mono (HB3.out.trans (hwx.mono HB3.out.size))))
  have HU8 : Hid (∀ wx (_ : Below w3.heap.size w3 wx), Calls Try.prog 124 #[.int .i64 8, .pointer (some ⟨w.heap.size, 0, none⟩), .pointer (some ⟨w1.heap.size, 0, none⟩)] wx fun r w' => wx = w' ∧ ResU (okB l (a + 8) 8) (.int .u64 (gN l (a + 8) 8 : Nat)) r) := Lib.hid (fun wx hwx => sec1_any l w.heap.size w1.heap.size a 8 _ wx hl (HV.out.mono (HB3.out.trans (hwx.mono HB3.out.size))) (heap_below hwx HX13.out) (heap_below hwx HX23.out) (by omega) (by omega))
  have HU16 : Hid (∀ wx (_ : Below w3.heap.size w3 wx), Calls Try.prog 124 #[.int .i64 16, .pointer (some ⟨w.heap.size, 0, none⟩), .pointer (some ⟨w1.heap.size, 0, none⟩)] wx fun r w' => wx = w' ∧ ResU (okB l (a + 16) 8) (.int .u64 (gN l (a + 16) 8 : Nat)) r) := Lib.hid (fun wx hwx => sec1_any l w.heap.size w1.heap.size a 16 _ wx hl (HV.out.mono (HB3.out.trans (hwx.mono HB3.out.size))) (heap_below hwx HX13.out) (heap_below hwx HX23.out) (by omega) (by omega))
  have HU32 : Hid (∀ wx (_ : Below w3.heap.size w3 wx), Calls Try.prog 124 #[.int .i64 32, .pointer (some ⟨w.heap.size, 0, none⟩), .pointer (some ⟨w1.heap.size, 0, none⟩)] wx fun r w' => wx = w' ∧ ResU (okB l (a + 32) 8) (.int .u64 (gN l (a + 32) 8 : Nat)) r) := Lib.hid (fun wx hwx => sec1_any l w.heap.size w1.heap.size a 32 _ wx hl (HV.out.mono (HB3.out.trans (hwx.mono HB3.out.size))) (heap_below hwx HX13.out) (heap_below hwx HX23.out) (by omega) (by omega))
  have HU48 : Hid (∀ wx (_ : Below w3.heap.size w3 wx), Calls Try.prog 124 #[.int .i64 48, .pointer (some ⟨w.heap.size, 0, none⟩), .pointer (some ⟨w1.heap.size, 0, none⟩)] wx fun r w' => wx = w' ∧ ResU (okB l (a + 48) 8) (.int .u64 (gN l (a + 48) 8 : Nat)) r) := Lib.hid (fun wx hwx => sec1_any l w.heap.size w1.heap.size a 48 _ wx hl (HV.out.mono (HB3.out.trans (hwx.mono HB3.out.size))) (heap_below hwx HX13.out) (heap_below hwx HX23.out) (by omega) (by omega))
  have HU56 : Hid (∀ wx (_ : Below w3.heap.size w3 wx), Calls Try.prog 124 #[.int .i64 56, .pointer (some ⟨w.heap.size, 0, none⟩), .pointer (some ⟨w1.heap.size, 0, none⟩)] wx fun r w' => wx = w' ∧ ResU (okB l (a + 56) 8) (.int .u64 (gN l (a + 56) 8 : Nat)) r) := Lib.hid (fun wx hwx => sec1_any l w.heap.size w1.heap.size a 56 _ wx hl (HV.out.mono (HB3.out.trans (hwx.mono HB3.out.size))) (heap_below hwx HX13.out) (heap_below hwx HX23.out) (by omega) (by omega))
  have HU24 : Hid (∀ wx (_ : Below w3.heap.size w3 wx), Calls Try.prog 124 #[.int .i64 24, .pointer (some ⟨w.heap.size, 0, none⟩), .pointer (some ⟨w1.heap.size, 0, none⟩)] wx fun r w' => wx = w' ∧ ResU (okB l (a + 24) 8) (.int .u64 (gN l (a + 24) 8 : Nat)) r) := Lib.hid (fun wx hwx => sec1_any l w.heap.size w1.heap.size a 24 _ wx hl (HV.out.mono (HB3.out.trans (hwx.mono HB3.out.size))) (heap_below hwx HX13.out) (heap_below hwx HX23.out) (by omega) (by omega))
  have HN0 : Hid (okB l a 4 = false → secOk l tab a = false) := Lib.hid (HNO.out 0 4 sz4 (by omega))
  have HN4 : Hid (okB l (a + 4) 4 = false → secOk l tab a = false) := Lib.hid (HNO.out 4 4 sz4 (by omega))
  have HN8 : Hid (okB l (a + 8) 8 = false → secOk l tab a = false) := Lib.hid (HNO.out 8 8 sz8 (by omega))
  have HN16 : Hid (okB l (a + 16) 8 = false → secOk l tab a = false) := Lib.hid (HNO.out 16 8 sz8 (by omega))
  have HN32 : Hid (okB l (a + 32) 8 = false → secOk l tab a = false) := Lib.hid (HNO.out 32 8 sz8 (by omega))
  have HN40 : Hid (okB l (a + 40) 4 = false → secOk l tab a = false) := Lib.hid (HNO.out 40 4 sz4 (by omega))
  have HN44 : Hid (okB l (a + 44) 4 = false → secOk l tab a = false) := Lib.hid (HNO.out 44 4 sz4 (by omega))
  have HN48 : Hid (okB l (a + 48) 8 = false → secOk l tab a = false) := Lib.hid (HNO.out 48 8 sz8 (by omega))
  have HN56 : Hid (okB l (a + 56) 8 = false → secOk l tab a = false) := Lib.hid (HNO.out 56 8 sz8 (by omega))
  have HN24 : Hid (okB l (a + 24) 8 = false → secOk l tab a = false) := Lib.hid (HNO.out 24 8 sz8 (by omega))
  clear HNO
  refine wp_region_walkU (Up := fun x => x = .panic upF ∧ secOk l tab a = false) 27 [(3, YN l (a + 4) 4), (6, YN l (a + 8) 8), (8, YN l (a + 16) 8), (10, YN l (a + 32) 8), (14, YN l (a + 40) 4), (19, YN l (a + 44) 4), (22, YN l (a + 48) 8), (24, YN l (a + 56) 8), (26, Yld.new w3.heap.size 69 10)] (by kernel_rfl) (by kernel_rfl) ?_ ?_
  · rintro x a' w' ⟨⟨rfl, hso⟩, hd, hb⟩
    exact ⟨hd, .inr ⟨hso, rfl⟩, HB3.out.trans (hb.mono HB3.out.size)⟩
  simp only [List.take_succ_cons, List.take_zero, List.drop_succ_cons, List.drop_zero]
  repeat (refine walk_quiet rfl rfl rfl ?_; intro K hK; go_big_quiet_op; go_big_quiet_on)
  refine walk_ok (c := .int .u64 (gN l (a + 4) 4 : Nat)) (p := okB l (a + 4) 4 = true) rfl rfl (fun wx hwx _ => WpYld.callOk (run_callL (vals := [_, _, _]) Try.func90 (by kernel_rfl) rfl rfl) HN4.out (HU4.out wx hwx)) ?_
  go_frame
  repeat (refine walk_quiet rfl rfl rfl ?_; intro K hK; go_big_quiet_op; go_big_quiet_on)
  refine walk_ok (c := .int .u64 (gN l (a + 8) 8 : Nat)) (p := okB l (a + 8) 8 = true) rfl rfl (fun wx hwx _ => WpYld.callOk (run_callF (vals := [_]) Try.func124 (by kernel_rfl) rfl rfl rfl) HN8.out (HU8.out wx (hwx))) ?_
  go_frame
  repeat (refine walk_quiet rfl rfl rfl ?_; intro K hK; go_big_quiet_op; go_big_quiet_on)
  refine walk_ok (c := .int .u64 (gN l (a + 16) 8 : Nat)) (p := okB l (a + 16) 8 = true) rfl rfl (fun wx hwx _ => WpYld.callOk (run_callF (vals := [_]) Try.func124 (by kernel_rfl) rfl rfl rfl) HN16.out (HU16.out wx (hwx))) ?_
  go_frame
  repeat (refine walk_quiet rfl rfl rfl ?_; intro K hK; go_big_quiet_op; go_big_quiet_on)
  refine walk_ok (c := .int .u64 (gN l (a + 32) 8 : Nat)) (p := okB l (a + 32) 8 = true) rfl rfl (fun wx hwx _ => WpYld.callOk (run_callF (vals := [_]) Try.func124 (by kernel_rfl) rfl rfl rfl) HN32.out (HU32.out wx (hwx))) ?_
  go_frame
  repeat (refine walk_quiet rfl rfl rfl ?_; intro K hK; go_big_quiet_op; go_big_quiet_on)
  refine walk_ok (c := .int .u64 (gN l (a + 40) 4 : Nat)) (p := okB l (a + 40) 4 = true) rfl rfl (fun wx hwx _ => WpYld.callOk (run_callL (vals := [_, _, _]) Try.func90 (by kernel_rfl) rfl rfl) HN40.out (HU40.out wx hwx)) ?_
  go_frame
  repeat (refine walk_quiet rfl rfl rfl ?_; intro K hK; go_big_quiet_op; go_big_quiet_on)
  refine walk_ok (c := .int .u64 (gN l (a + 44) 4 : Nat)) (p := okB l (a + 44) 4 = true) rfl rfl (fun wx hwx _ => WpYld.callOk (run_callL (vals := [_, _, _]) Try.func90 (by kernel_rfl) rfl rfl) HN44.out (HU44.out wx hwx)) ?_
  go_frame
  repeat (refine walk_quiet rfl rfl rfl ?_; intro K hK; go_big_quiet_op; go_big_quiet_on)
  refine walk_ok (c := .int .u64 (gN l (a + 48) 8 : Nat)) (p := okB l (a + 48) 8 = true) rfl rfl (fun wx hwx _ => WpYld.callOk (run_callF (vals := [_]) Try.func124 (by kernel_rfl) rfl rfl rfl) HN48.out (HU48.out wx (hwx))) ?_
  go_frame
  repeat (refine walk_quiet rfl rfl rfl ?_; intro K hK; go_big_quiet_op; go_big_quiet_on)
  refine walk_ok (c := .int .u64 (gN l (a + 56) 8 : Nat)) (p := okB l (a + 56) 8 = true) rfl rfl (fun wx hwx _ => WpYld.callOk (run_callF (vals := [_]) Try.func124 (by kernel_rfl) rfl rfl rfl) HN56.out (HU56.out wx (hwx))) ?_
  go_frame
  repeat (refine walk_quiet rfl rfl rfl ?_; intro K hK; go_big_quiet_op; go_big_quiet_on)
  refine walk_new rfl rfl (fun wx hwx _ => WpYld.val run_allocSec (Yld.new_mk _ hwx).1 (Yld.new_mk _ hwx).2) (fun gb => ?_)
  go_frame
  refine walk_nil ?_
  intro wz hbz hF
  have H56 : Hid (okB l (a + 56) 8 = true) := Lib.hid (Yld.ok_got (hF 24 _ 36 _ rfl rfl rfl rfl))
  obtain ⟨hgb, cs, hcs, hcn⟩ := Yld.new_got (hF 26 _ 8 _ rfl rfl rfl rfl)
  clear hF hAB c1 c2 HN4 HN8 HN16 HN32 HN40 HN44 HN48 HN56 HU4 HU8 HU16 HU32 HU40 HU44 HU48 HU56
  refine wpList_storeMade hcs rfl rfl (by kernel_rfl) (by rw [hcn]; rfl) (by simp [Value.oneCell']) hgb hbz.size ?_
  clear hcs hcn
  intro w4 hh4 hb4
  have HH4 := Lib.hid hh4
  have h03 : w.heap.size < w3.heap.size := by omega
  have HX14 := Lib.hid (heap_base hb4 (heap_below hbz HX13.out) (by omega))
  have HX24 := Lib.hid (heap_base hb4 (heap_below hbz HX23.out) (by omega))
  have HX34 := Lib.hid (heap_base hb4 (heap_below hbz HX3.out) (by omega))
  have HB34 := Lib.hid (hbz.trans hb4)
  have HB4 := Lib.hid (HB3.out.trans (HB34.out.mono (Nat.le_of_lt h03)))
  have h34 : w3.heap.size ≤ w4.heap.size := HB34.out.size
  clear hh4 hb4 hbz HX12 HX13 HX23 HX1 HX2 HX3
  have c1 := cell_rec HX14.out 0
  have c2 := cell_rec HX24.out 0
  simp only [List.getElem?_toArray, List.getElem?_cons_zero] at c1 c2
  by_cases hcode : code = 0
  · subst hcode
    by_cases h8 : gN l (a + 4) 4 = 8
    · have HOK : Hid (okB l a 4 = true → secOk l tab a = true) := Lib.hid (fun _ => HYES.out H56.out rfl (.inl h8))
      have HFIN : Hid (secP l tab a = ⟨nm, gN l (a + 4) 4, gN l (a + 8) 8, gN l (a + 16) 8, gN l (a + 48) 8, gN l (a + 32) 8, gN l (a + 40) 4, gN l (a + 44) 4, gN l (a + 56) 8, []⟩) := Lib.hid (by rw [HSEC.out, if_pos h8])
      have H8 := Lib.hid h8
      have k8 : ((gN l (a + 4) 4 : Nat) : Int) = 8 := by omega
      have k8b : (((gN l (a + 4) 4 : Nat) : Int) == 8) = true := by rw [k8]; rfl
      have k8c : (((gN l (a + 4) 4 : Nat) : Int) != 8) = false := by rw [k8]; rfl
      clear h8 k8 HSEC HYES HCT HNM
      go_wp2_with (first
        | (go_at_call 90; refine (HU0.out _ HB34.out).mono ?_; rintro e wu ⟨rfl, ⟨hx0, rfl⟩ | ⟨hx0, rfl⟩⟩)
        | (go_at_call 18; refine (HAT.out _ HB4.out).mono ?_; rintro e wu ⟨rfl, rfl⟩)
        | (go_at_call 92; refine (must_ok _).mono ?_; rintro e wu ⟨rfl, rfl⟩)
        | ((with_reducible show wpList _ _ _ (⟨none, .store _ (.tmp 51) _, _, _, _, _⟩ :: _) _ _); go_must (refine wpList_setS HH4.out (show 0 < 10 by decide) rfl rfl hgb h34 (fun w => by kernel_rfl) ?_; intro w5 hh5 hb5 hs5; have HH5 := Lib.hid (show w5.heap[gb]? = some (.cells #[.string ⟨nm.toArray⟩, .int .u32 (gN l (a + 4) 4 : Nat), .int .u64 (gN l (a + 8) 8 : Nat), .int .u64 (gN l (a + 16) 8 : Nat), .int .u64 (gN l (a + 48) 8 : Nat), .int .u64 (gN l (a + 32) 8 : Nat), .int .u32 (gN l (a + 40) 4 : Nat), .int .u32 (gN l (a + 44) 4 : Nat), .int .u64 (gN l (a + 56) 8 : Nat), .slice none 0 0] 69 (0, 0)) from hh5); obtain ⟨z0, z1, z2, z3, z4, z5, z6, z7, z8, z9⟩ := sec_box (x := (⟨nm, gN l (a + 4) 4, gN l (a + 8) 8, gN l (a + 16) 8, gN l (a + 48) 8, gN l (a + 32) 8, gN l (a + 40) 4, gN l (a + 44) 4, gN l (a + 56) 8, []⟩, .slice none 0 0)) HH5.out; have HX35 := Lib.hid (heap_base hb5 HX34.out (by omega)); have HB5 := Lib.hid (HB4.out.trans (hb5.mono (Nat.le_of_lt h03))); clear hh5 hb5 hs5))
        | ((with_reducible show wpList _ _ _ (⟨none, .store _ (.tmp 6) _, _, _, _, _⟩ :: _) _ _); go_must (refine wpList_storeMade HX35.out rfl rfl (by kernel_rfl) rfl (by simp [Value.oneCell']) (Nat.le_trans HB1.out.size (Nat.le_of_lt hs2)) HB5.out.size ?_; intro w6 hh6 hb6; have HH6 := Lib.hid hh6; have HB6 := Lib.hid (HB5.out.trans hb6); clear hh6 hb6)))
      · refine bodyPost_ret (results_cell_row rfl _ _ w2.heap.size _ _ _ _ rfl HH6.out rfl rfl (by kernel_rfl)) rfl ⟨.inl ⟨HOK.out hx0, .slice none 0 0, ?_, ?_⟩, HB6.out⟩
        · rw [HFIN.out]
        · rw [HFIN.out]
          exact OB.nil _ _
      · exact ⟨rfl, .inr ⟨HN0.out hx0, rfl⟩, HB4.out⟩
    · have HOK : Hid (inB l (gN l (a + 24) 8) (gN l (a + 32) 8) = true → secOk l tab a = true) := Lib.hid (fun h => HYES.out H56.out rfl (.inr h))
      have HCUT : Hid (inB l (gN l (a + 24) 8) (gN l (a + 32) 8) = false → secOk l tab a = false) := Lib.hid (HCT.out h8)
      have HFIN : Hid (secP l tab a = ⟨nm, gN l (a + 4) 4, gN l (a + 8) 8, gN l (a + 16) 8, gN l (a + 48) 8, gN l (a + 32) 8, gN l (a + 40) 4, gN l (a + 44) 4, gN l (a + 56) 8, (l.drop (gN l (a + 24) 8)).take (gN l (a + 32) 8)⟩) := Lib.hid (by rw [HSEC.out, if_neg h8])
      have H8 := Lib.hid h8
      have k8b : (((gN l (a + 4) 4 : Nat) : Int) == 8) = false := by rw [beq_eq_false_iff_ne]; omega
      have k8c : (((gN l (a + 4) 4 : Nat) : Int) != 8) = true := by rw [bne_iff_ne]; omega
      clear h8 HSEC HYES HCT HNM
      go_wp2_with (first
        | (go_at_call 90; refine (HU0.out _ HB34.out).mono ?_; rintro e wu ⟨rfl, ⟨hx0, rfl⟩ | ⟨hx0, rfl⟩⟩)
        | (go_at_call 18; refine (HAT.out _ HB4.out).mono ?_; rintro e wu ⟨rfl, rfl⟩)
        | (go_at_call 92; refine (must_ok _).mono ?_; rintro e wu ⟨rfl, rfl⟩)
        | ((with_reducible show wpList _ _ _ (⟨none, .store _ (.tmp 51) _, _, _, _, _⟩ :: _) _ _); go_must (refine wpList_setS HH4.out (show 0 < 10 by decide) rfl rfl hgb h34 (fun w => by kernel_rfl) ?_; intro w5 hh5 hb5 hs5; have HH5 := Lib.hid (show w5.heap[gb]? = some (.cells #[.string ⟨nm.toArray⟩, .int .u32 (gN l (a + 4) 4 : Nat), .int .u64 (gN l (a + 8) 8 : Nat), .int .u64 (gN l (a + 16) 8 : Nat), .int .u64 (gN l (a + 48) 8 : Nat), .int .u64 (gN l (a + 32) 8 : Nat), .int .u32 (gN l (a + 40) 4 : Nat), .int .u32 (gN l (a + 44) 4 : Nat), .int .u64 (gN l (a + 56) 8 : Nat), .slice none 0 0] 69 (0, 0)) from hh5); obtain ⟨z0, z1, z2, z3, z4, z5, z6, z7, z8, z9⟩ := sec_box (x := (⟨nm, gN l (a + 4) 4, gN l (a + 8) 8, gN l (a + 16) 8, gN l (a + 48) 8, gN l (a + 32) 8, gN l (a + 40) 4, gN l (a + 44) 4, gN l (a + 56) 8, []⟩, .slice none 0 0)) HH5.out; have HX15 := Lib.hid (heap_base hb5 HX14.out (by omega)); have HX25 := Lib.hid (heap_base hb5 HX24.out (by omega)); have HX35 := Lib.hid (heap_base hb5 HX34.out (by omega)); have HB35 := Lib.hid (HB34.out.trans hb5); have HB5 := Lib.hid (HB4.out.trans (hb5.mono (Nat.le_of_lt h03))); clear hh5 hb5 hs5)))
      · clear z0 z1 z2 z3 z4 z6 z7 z8 z9
        have d1 := cell_rec HX15.out 0
        have d2 := cell_rec HX25.out 0
        simp only [List.getElem?_toArray, List.getElem?_cons_zero] at d1 d2
        have hAB := fun (x : Above w5) (b k : Nat) (h : b < w5.heap.size) => Above.cell x b k h
        have l3 := block_lt d1
        have l4 := block_lt d2
        have l5 := block_lt z5
        have HU245 : Hid (∀ wx (_ : Below w5.heap.size w5 wx), Calls Try.prog 124 #[.int .i64 24, .pointer (some ⟨w.heap.size, 0, none⟩), .pointer (some ⟨w1.heap.size, 0, none⟩)] wx fun r w' => wx = w' ∧ ResU (okB l (a + 24) 8) (.int .u64 (gN l (a + 24) 8 : Nat)) r) := Lib.hid (fun wx hwx => sec1_any l w.heap.size w1.heap.size a 24 _ wx hl (HV.out.mono (HB5.out.trans (hwx.mono HB5.out.size))) (heap_below hwx HX15.out) (heap_below hwx HX25.out) (by omega) (by omega))
        have HCC : Hid (∀ wx (_ : Below w5.heap.size w5 wx), Calls Try.prog 114 #[.slice ad m cap, .int .u64 (gN l (a + 24) 8 : Nat), .int .u64 (gN l (a + 32) 8 : Nat)] wx fun r w' => (∃ v, r = .returned v ∧ (YC l (gN l (a + 24) 8) (gN l (a + 32) 8)).R v w' ∧ Below wx.heap.size wx w') ∨ (∃ c, r = .panicked c ∧ (Exit.panic c = .panic upF ∧ secOk l tab a = false) ∧ Below wx.heap.size wx w')) := Lib.hid (fun wx hwx => (cut_any l _ _ _ wx hl (HV.out.mono (HB5.out.trans (hwx.mono HB5.out.size))) HB24.out HB32.out).mono fun r w' ⟨hw, h⟩ => by
          subst hw
          rcases h with ⟨h1, v', h2, h3⟩ | ⟨h1, h2⟩
          · exact .inl ⟨v', h2, YA_mk ⟨h1, h3 _ (HV.out.mono (HB5.out.trans (hwx.mono HB5.out.size)))⟩, Below.refl _ _⟩
          · exact .inr ⟨_, h2, ⟨rfl, HCUT.out h1⟩, Below.refl _ _⟩)
        have HDL : Hid (((l.drop (gN l (a + 24) 8)).take (gN l (a + 32) 8)).length ≤ 1000000000) := Lib.hid (by rw [List.length_take, List.length_drop]; omega)
        refine wp_region_walkU (Up := fun x => x = .panic upF ∧ secOk l tab a = false) 8 [(2, YN l (a + 24) 8), (5, YC l (gN l (a + 24) 8) (gN l (a + 32) 8)), (6, YO w5.heap.size ((l.drop (gN l (a + 24) 8)).take (gN l (a + 32) 8)))] (by kernel_rfl) (by kernel_rfl) ?_ ?_
        · rintro x a' w' ⟨⟨rfl, hso⟩, hd, hb⟩
          exact ⟨hd, .inr ⟨hso, rfl⟩, HB5.out.trans (hb.mono HB5.out.size)⟩
        simp only [List.take_succ_cons, List.take_zero, List.drop_succ_cons, List.drop_zero]
        repeat (refine walk_quiet rfl rfl rfl ?_; intro K hK; go_big_quiet_op; go_big_quiet_on)
        refine walk_ok (c := .int .u64 (gN l (a + 24) 8 : Nat)) (p := okB l (a + 24) 8 = true) rfl rfl (fun wx hwx _ => WpYld.callOk (run_callF (vals := [_]) Try.func124 (by kernel_rfl) rfl rfl rfl) HN24.out (HU245.out wx hwx)) ?_
        go_frame
        repeat (refine walk_quiet rfl rfl rfl ?_; intro K hK; go_big_quiet_op; go_big_quiet_on)
        refine walk_any rfl rfl (fun wx hwx _ => WpYld.callUp (run_callL (vals := [_, _, _]) Try.func114 (by kernel_rfl) rfl rfl) (HCC.out wx hwx)) (fun vc => ?_)
        go_frame
        refine walk_any rfl rfl (fun wx hwx hd => WpYld.call (run_callL (vals := [vc]) Try.func125 (by kernel_rfl) rfl rfl) ((clone_any ((l.drop (gN l (a + 24) 8)).take (gN l (a + 32) 8)) vc wx HDL.out (YA_got (hd 5 _ 60 _ rfl rfl (by kernel_rfl) rfl rfl)).2).mono fun r w' ⟨⟨u, h1, h2⟩, h3⟩ => ⟨u, h1, YA_mk (h2.base hwx.size), h3⟩)) (fun vd => ?_)
        go_frame
        repeat (refine walk_quiet rfl rfl rfl ?_; intro K hK; go_big_quiet_op; go_big_quiet_on)
        refine walk_nil ?_
        intro wy hby hF
        have HIN : Hid (inB l (gN l (a + 24) 8) (gN l (a + 32) 8) = true) := Lib.hid (YA_got (hF 5 _ 60 _ rfl rfl rfl rfl)).1
        have HOD : Hid (OB wy w5.heap.size vd ((l.drop (gN l (a + 24) 8)).take (gN l (a + 32) 8))) := Lib.hid (YA_got (hF 6 _ 61 _ rfl rfl rfl rfl))
        clear hF hAB d1 d2 z5 HCC
        obtain ⟨dm, da, dc, -, rfl, _, _⟩ := HOD.out.shape
        refine wpList_set (heap_below hby HH5.out) (show 9 < 10 by decide) rfl rfl (base := w3.heap.size) hgb (Nat.le_trans HB35.out.size hby.size) (fun w => by kernel_rfl) ?_
        intro w6 hh6 hb6 hs6
        have HH6 := Lib.hid (show w6.heap[gb]? = some (.cells #[.string ⟨nm.toArray⟩, .int .u32 (gN l (a + 4) 4 : Nat), .int .u64 (gN l (a + 8) 8 : Nat), .int .u64 (gN l (a + 16) 8 : Nat), .int .u64 (gN l (a + 48) 8 : Nat), .int .u64 (gN l (a + 32) 8 : Nat), .int .u32 (gN l (a + 40) 4 : Nat), .int .u32 (gN l (a + 44) 4 : Nat), .int .u64 (gN l (a + 56) 8 : Nat), .slice da dm dc] 69 (0, 0)) from hh6)
        have HX36 := Lib.hid (heap_base hb6 (heap_below hby HX35.out) (by omega))
        have HB36 := Lib.hid (HB35.out.trans ((hby.mono HB35.out.size).trans hb6))
        have HB6 := Lib.hid (HB3.out.trans (HB36.out.mono (Nat.le_of_lt h03)))
        have HOD6 : Hid (OB w6 w5.heap.size (.slice da dm dc) ((l.drop (gN l (a + 24) 8)).take (gN l (a + 32) 8))) := Lib.hid (owns_stirs HOD.out hs6 (ob_apart HOD.out (heap_below hby HH5.out) (by decide)))
        have h05 : w.heap.size ≤ w5.heap.size := HB5.out.size
        have h025 : w2.heap.size < w5.heap.size := by have := HB35.out.size; omega
        obtain ⟨z0, z1, z2, z3, z4, z5, z6, z7, z8, z9⟩ := sec_box (x := (⟨nm, gN l (a + 4) 4, gN l (a + 8) 8, gN l (a + 16) 8, gN l (a + 48) 8, gN l (a + 32) 8, gN l (a + 40) 4, gN l (a + 44) 4, gN l (a + 56) 8, []⟩, .slice da dm dc)) HH6.out
        clear hh6 hb6 hs6 hby HH5 HX35 HX15 HX25 HU245 HOD
        go_wp2_with ((with_reducible show wpList _ _ _ (⟨none, .store _ (.tmp 6) _, _, _, _, _⟩ :: _) _ _); go_must (refine wpList_storeRowS HX36.out rfl rfl rfl (by kernel_rfl) (by simp [Value.oneCell']) ?_; intro w7 hh7 hs7; have HH7 := Lib.hid hh7; have HB7 := Lib.hid (HB6.out.trans (hs7.below HB6.out.size (fun j hj => by rw [hj]; omega))); have HOD7 : Hid (OB w7 w5.heap.size (.slice da dm dc) ((l.drop (gN l (a + 24) 8)).take (gN l (a + 32) 8))) := Lib.hid (owns_stirs HOD6.out hs7 (ob_apart HOD6.out HX36.out (by decide))); clear hh7 hs7))
        refine bodyPost_ret (results_cell_row rfl _ _ w2.heap.size _ _ _ _ rfl HH7.out rfl rfl (by kernel_rfl)) rfl ⟨.inl ⟨HOK.out HIN.out, .slice da dm dc, ?_, ?_⟩, HB7.out⟩
        · rw [HFIN.out]
        · rw [HFIN.out]
          exact HOD7.out.base h05
      · exact ⟨rfl, .inr ⟨HN0.out hx0, rfl⟩, HB4.out⟩
  · have hcb : (code == (0 : Int)) = false := by simpa using hcode
    have HX := Lib.hid hcode
    clear hcode
    go_wp2_with (first
      | (go_at_call 90; refine (HU0.out _ HB34.out).mono ?_; rintro e wu ⟨rfl, ⟨hx0, rfl⟩ | ⟨hx0, rfl⟩⟩)
      | (go_at_call 18; refine (HAT.out _ HB4.out).mono ?_; rintro e wu ⟨rfl, rfl⟩)
      | (go_at_call 92; refine (must_no _).mono ?_; rintro e wu ⟨rfl, rfl⟩))
    · exact ⟨rfl, .inr ⟨HNM.out HX.out, rfl⟩, HB4.out⟩
    · exact ⟨rfl, .inr ⟨HN0.out hx0, rfl⟩, HB4.out⟩
end Go.Proofs.Ytgjoimcgiofinaa
namespace Go.Proofs.Ytgjoimcgiofinaa
open Go.RowKit Go.Fd
def nsegsP (l : List UInt8) : Nat := gN l 56 2
def nsecsP (l : List UInt8) : Nat := gN l 60 2 - 2
def lastP (l : List UInt8) : Nat := gN l 40 8 + 64 * (nsecsP l + 1)
def tabP (l : List UInt8) : List UInt8 := (l.drop (gN l (lastP l + 24) 8)).take (gN l (lastP l + 32) 8)
def segsP (l : List UInt8) (n : Nat) : List SegM := (List.range n).map fun i => segP l (64 + 56 * i)
def secsP (l : List UInt8) (n : Nat) : List SecM := (List.range n).map fun i => secP l (tabP l) (gN l 40 8 + 64 * (i + 1))
/-- What is read of a file of a target. -/
def parseE (l : List UInt8) (target : Int) : ElfM := ⟨(gN l 16 2 : Nat), target, gN l 48 4, gN l 24 8, secsP l (nsecsP l), segsP l (nsegsP l)⟩
/-- Is all there? -/
structure OkP (l : List UInt8) : Prop where
  n1 : gN l 56 2 ≤ 16
  n2 : 2 ≤ gN l 60 2
  n3 : gN l 60 2 ≤ 252
  segs : ∀ i, i < nsegsP l → segOk l (64 + 56 * i) = true
  heads : gN l 40 8 ≤ l.length
  t1 : okB l (lastP l + 24) 8 = true
  t2 : okB l (lastP l + 32) 8 = true
  tab : inB l (gN l (lastP l + 24) 8) (gN l (lastP l + 32) 8) = true
  secs : ∀ i, i < nsecsP l → secOk l (tabP l) (gN l 40 8 + 64 * (i + 1)) = true
theorem segsP_succ (l : List UInt8) (n : Nat) : segsP l (n + 1) = segsP l n ++ [segP l (64 + 56 * n)] := by unfold segsP; rw [List.range_succ, List.map_append]; rfl
theorem secsP_succ (l : List UInt8) (n : Nat) : secsP l (n + 1) = secsP l n ++ [secP l (tabP l) (gN l 40 8 + 64 * (n + 1))] := by unfold secsP; rw [List.range_succ, List.map_append]; rfl
theorem segsP_len (l : List UInt8) (n : Nat) : (segsP l n).length = n := by simp [segsP]
theorem secsP_len (l : List UInt8) (n : Nat) : (secsP l n).length = n := by simp [secsP]
/-- While a file is read: its header stands in block g, the result's block is r. -/
structure AllInv (w wr : World) (g r : Nat) (hd : List Value) (sv gv : Value) (L : List (SecM × Value)) (T : List SegM) : Prop where
  blk : wr.heap[g]? = some (.cells (hd ++ [sv, gv]).toArray 61 (0, 0))
  res : wr.heap[r]? = some (.cells elfZ 61 (0, 0))
  so : OwR 10 encSec 69 wr w.heap.size sv L
  go : OwR 7 encSeg 99 wr w.heap.size gv T
  data : ∀ p ∈ L, OB wr w.heap.size p.2 p.1.data
  below : Below w.heap.size w wr
  hg : w.heap.size ≤ g
  hr : w.heap.size ≤ r
  ne : r ≠ g
theorem AllInv.mono {w wr w' : World} {g r : Nat} {hd : List Value} {sv gv : Value} {L : List (SecM × Value)} {T : List SegM} (h : AllInv w wr g r hd sv gv L T) (hb : Below wr.heap.size wr w') : AllInv w w' g r hd sv gv L T :=
  ⟨heap_below hb h.blk, heap_below hb h.res, h.so.mono hb, h.go.mono hb, fun p hp => (h.data p hp).mono hb, h.below.trans (hb.mono h.below.size), h.hg, h.hr, h.ne⟩
theorem own_ne {w : World} {base e size n : Nat} {v : Value} {xs : List Value} {g : Nat} {cs : Array Value} {t : TypeId} {fr : Nat × Nat} (h : w.ownsRow base e size v n xs) (hg : w.heap[g]? = some (.cells cs t fr)) (he : t ≠ e) : ∀ k, v.ownBlock = some k → k ≠ g := by
  rintro k hk rfl
  obtain ⟨cs1, fz1, h1⟩ := own_kind h k hk
  rw [hg] at h1
  cases h1
  exact he rfl
/-- A segment more. -/
theorem AllInv.seg {w wr w1 w2 : World} {g r : Nat} {hd : List Value} {sv gv gv' : Value} {L : List (SecM × Value)} {T : List SegM} {s : SegM} (h : AllInv w wr g r hd sv gv L T) (hdl : hd.length = 4) (ho : w1.ownsRow w.heap.size 99 7 gv' (T ++ [s]).length ((T ++ [s]).flatMap encSeg)) (hgr : wr.grownBy w1 gv.ownBlock)
    (hb : w2.heap[g]? = some (.cells ((hd ++ [sv, gv]).toArray.setIfInBounds 5 gv') 61 (0, 0))) (hs : Stirs (fun k => k = g) w1 w2) : AllInv w w2 g r hd sv gv' L (T ++ [s]) := by
  have hk := keeps_own h.go hgr
  have hB : Below w.heap.size w w1 := h.below.trans (below_of_grown hgr h.below.size fun k hk => (World.ownsRow.lt h.go k hk).1)
  have hblk := hk _ _ _ _ (show 61 ≠ 99 by decide) h.blk
  have hres := hk _ _ _ _ (show 61 ≠ 99 by decide) h.res
  have hso := owns_grown h.so hgr (fun k hk hk2 => own_apart h.so h.go (by decide) hk hk2)
  refine ⟨?_, hs.kept hres h.ne, owns_stirs hso hs (own_ne hso hblk (by decide)), owns_stirs ho hs (own_ne ho hblk (by decide)), fun p hp => ?_, hB.trans (hs.below hB.size fun k hk => by rw [hk]; exact h.hg), h.hg, h.hr, h.ne⟩
  · rw [hb]
    match hd, hdl with
    | [a, b, c, d], _ => rfl
  · have h1 := owns_grown (h.data p hp) hgr (fun k hk hk2 => own_apart (h.data p hp) h.go (by decide) hk hk2)
    exact owns_stirs h1 hs (own_ne h1 hblk (by decide))
/-- A section more. -/
theorem AllInv.sec {w wr w1 w2 : World} {g r : Nat} {hd : List Value} {sv sv' gv dv : Value} {L : List (SecM × Value)} {T : List SegM} {s : SecM} (h : AllInv w wr g r hd sv gv L T) (hdl : hd.length = 4) (ho : w1.ownsRow w.heap.size 69 10 sv' (L ++ [(s, dv)]).length ((L ++ [(s, dv)]).flatMap encSec)) (hgr : wr.grownBy w1 sv.ownBlock) (hd0 : OB wr w.heap.size dv s.data)
    (hb : w2.heap[g]? = some (.cells ((hd ++ [sv, gv]).toArray.setIfInBounds 4 sv') 61 (0, 0))) (hs : Stirs (fun k => k = g) w1 w2) : AllInv w w2 g r hd sv' gv (L ++ [(s, dv)]) T := by
  have hk := keeps_own h.so hgr
  have hB : Below w.heap.size w w1 := h.below.trans (below_of_grown hgr h.below.size fun k hk => (World.ownsRow.lt h.so k hk).1)
  have hblk := hk _ _ _ _ (show 61 ≠ 69 by decide) h.blk
  have hres := hk _ _ _ _ (show 61 ≠ 69 by decide) h.res
  have hgo := owns_grown h.go hgr (fun k hk hk2 => own_apart h.go h.so (by decide) hk hk2)
  refine ⟨?_, hs.kept hres h.ne, owns_stirs ho hs (own_ne ho hblk (by decide)), owns_stirs hgo hs (own_ne hgo hblk (by decide)), fun p hp => ?_, hB.trans (hs.below hB.size fun k hk => by rw [hk]; exact h.hg), h.hg, h.hr, h.ne⟩
  · rw [hb]
    match hd, hdl with
    | [a, b, c, d], _ => rfl
  · have h0 : OB wr w.heap.size p.2 p.1.data := by
      rcases List.mem_append.1 hp with hp | hp
      · exact h.data p hp
      · rw [List.mem_singleton] at hp
        rw [hp]
        exact hd0
    have h1 := owns_grown h0 hgr (fun k hk hk2 => own_apart h0 h.so (by decide) hk hk2)
    exact owns_stirs h1 hs (own_ne h1 hblk (by decide))
/-- A file that was read lies in memory of its own. -/
structure ElfOwn (w : World) (base : Nat) (e : ElfM) (L : List (SecM × Value)) (sv gv : Value) : Prop where
  secs : e.secs = L.map (·.1)
  so : OwR 10 encSec 69 w base sv L
  go : OwR 7 encSeg 99 w base gv e.segs
  data : ∀ p ∈ L, OB w base p.2 p.1.data
theorem ElfOwn.at {w : World} {base : Nat} {e : ElfM} {L : List (SecM × Value)} {sv gv : Value} (h : ElfOwn w base e L sv gv) : ElfAt w e L sv gv :=
  ⟨h.secs, h.so.rd, fun p hp => (h.data p hp).bs, h.go.rd⟩
/-- No two sections' bytes lie in one block. -/
def ApartS (L : List (SecM × Value)) : Prop := L.Pairwise fun p q => ∀ k, p.2.ownBlock = some k → q.2.ownBlock ≠ some k
theorem ApartS.snoc {L : List (SecM × Value)} {p : SecM × Value} (h : ApartS L) (hn : ∀ q ∈ L, ∀ k, q.2.ownBlock = some k → p.2.ownBlock ≠ some k) : ApartS (L ++ [p]) :=
  List.pairwise_append.2 ⟨h, List.pairwise_singleton _ _, fun a ha b hb => by rw [List.mem_singleton] at hb; subst hb; exact hn a ha⟩
/-- A file comes, or it goes up. -/
def AllRes (l : List UInt8) (target : Int) (base : Nat) (r : Ending) (w : World) : Prop := OkP l ∧ (∃ L sv gv, r = .returned (elfV (parseE l target) sv gv) ∧ ElfOwn w base (parseE l target) L sv gv ∧ ApartS L) ∨ ¬ OkP l ∧ r = .panicked upF
/-- One record in a block of its own, made in a region. -/
def Yld.one (B : Nat) (t : TypeId) (cs : Array Value) : Yld := ⟨Nat, 0, fun g => .slice (some ⟨g, 0, none⟩) 1 1, fun g w => B ≤ g ∧ w.heap[g]? = some (.cells cs t (0, 0)),
  fun g w w' ⟨h1, h2⟩ hb => ⟨h1, by rw [hb.block g (Array.getElem?_eq_some_iff.1 h2).1]; exact h2⟩⟩
theorem walk_one {P : Program} {Up : Exit → Prop} {L r : List Oper} {M : List (Nat × Yld)} {a : Act} {w0 : World} {E : Act → Prop} {i : Nat} {o : Oper} {B : Nat} {t : TypeId} {cs : Array Value} (hw : Region.wanted o (yielded L.toArray a.tmps) = true) (hM : madeAt M i = some (Yld.one B t cs)) (h : ∀ w, Below w0.heap.size w0 w → Deps L M a o w → WpYld P Up o a (Yld.one B t cs) w) (hn : ∀ g : Nat, walk P Up L M w0 E (i + 1) r (a.put o.dst (.slice (some ⟨g, 0, none⟩) 1 1))) : walk P Up L M w0 E i (o :: r) a :=
  walk_made hw hM h hn
theorem Yld.one_got {B g : Nat} {t : TypeId} {cs : Array Value} {w : World} (h : (Yld.one B t cs).R (.slice (some ⟨g, 0, none⟩) 1 1) w) : B ≤ g ∧ w.heap[g]? = some (.cells cs t (0, 0)) := by
  obtain ⟨x, e, hr⟩ := h
  have : g = x := by
    have e' : (Value.slice (some ⟨g, 0, none⟩) 1 1) = .slice (some ⟨x, 0, none⟩) 1 1 := e
    injection e' with e'; injection e' with e'; injection e'
  subst this
  exact hr
theorem Yld.one_mk {w0 w : World} {t : TypeId} (cs : Array Value) (h : Below w0.heap.size w0 w) : (Yld.one w0.heap.size t cs).R (.slice (some ⟨w.heap.size, 0, none⟩) 1 1) (w.alloc (.cells cs t)) ∧ Below w.heap.size w (w.alloc (.cells cs t)) :=
  ⟨⟨w.heap.size, rfl, h.size, heap_alloc_last w _⟩, below_alloc w _⟩
/-- One record in a block of its own reads. -/
theorem rd_one {α : Type} {k : Nat} {enc : α → List Value} {w : World} {g : Nat} {cs : Array Value} {t : TypeId} {fr : Nat × Nat} {x : α} (hk : (enc x).length = k) (h : w.heap[g]? = some (.cells cs t fr)) (hc : cs = (enc x).toArray) : RdR k enc w (.slice (some ⟨g, 0, none⟩) 1 1) [x] := by
  subst hc
  refine ⟨by simp [hk], _, _, rfl, Nat.le_refl _, (fun h => by cases h), fun j hj => ⟨g, 0, rfl, ?_⟩⟩
  rw [Nat.zero_add, cell_rec h j]
  simp
end Go.Proofs.Ytgjoimcgiofinaa
