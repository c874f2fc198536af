/-
  ObjectAll holds: modules, as the statement says. Within the bound.
-/
import Derived.Test.YtimnbnomaajmmaaOy6
import Derived.Deep.DeepCutAuto
import Derived.Deep.RegionLaw
import Derived.Test.YtimnbnomaajmmaaRows
import Derived.ProofKit
import Derived.SizedLaws
import Derived.OpenShut
import Derived.Lib.SmallJoins
import Derived.Deep.Fields
import Derived.SliceStrings
import Derived.Deep.Slices
import Derived.JoinedCond
import Derived.Shelf.Vars
namespace Go.Proofs.Ytimnbnomaajmmaa
open Go.RowKit Go.Fd
theorem setRel_all {Q : PartM → Prop} (hset : ∀ p l, Q p → Q { p with relas := l }) {ps : List PartM} (h : ∀ p ∈ ps, Q p) (i : Nat) (l : List RelaM) : ∀ p ∈ setRel ps i l, Q p := by
  intro p hp
  obtain ⟨j, hj⟩ := List.mem_iff_getElem?.1 hp
  unfold setRel at hj
  rw [List.getElem?_modify] at hj
  cases hq : ps[j]? with
  | none => rw [hq] at hj; simp at hj
  | some q =>
    rw [hq] at hj
    have hw := h q (List.mem_of_getElem? hq)
    simp only [Option.map_eq_map, Option.map_some, Option.some.injEq] at hj
    split at hj
    · subst hj; exact hset q l hw
    · subst hj; exact hw
theorem setRel_len (ps : List PartM) (i : Nat) (l : List RelaM) : (setRel ps i l).length = ps.length := by unfold setRel; rw [List.length_modify]
theorem modP_all {Q : PartM → Prop} (hset : ∀ p l, Q p → Q { p with relas := l }) : ∀ (ss : List SecM) (ps : List PartM) (A : List (List UInt8 × Nat)) (qs : List PartM), (∀ p ∈ ps, Q p) → (∀ s ∈ ss, Q (partOf s)) → modP ss ps A = some qs → (∀ p ∈ qs, Q p) ∧ qs.length ≤ ps.length + ss.length := by
  intro ss
  induction ss with
  | nil => intro ps A qs h _ e; cases e; exact ⟨h, Nat.le_refl _⟩
  | cons s ss ih =>
    intro ps A qs h hs e
    have hs' : ∀ x ∈ ss, Q (partOf x) := fun x hx => hs x (by simp [hx])
    rw [modP] at e
    split at e
    · have := ih _ _ _ (fun p hp => by
        rcases List.mem_append.1 hp with hp | hp
        · exact h p hp
        · rw [List.mem_singleton] at hp; subst hp; exact hs s (by simp)) hs' e
      refine ⟨this.1, ?_⟩
      have h2 := this.2
      rw [List.length_append, List.length_singleton] at h2
      rw [List.length_cons]; omega
    · split at e
      · cases e
      · split at e
        · cases e
        · have := ih _ _ _ (setRel_all hset h _ _) hs' e
          refine ⟨this.1, ?_⟩
          have h2 := this.2
          rw [setRel_len] at h2
          rw [List.length_cons]; omega
theorem modR_all {Q : PartM → Prop} (hset : ∀ p l, Q p → Q { p with relas := l }) : ∀ (ss : List SecM) (ps qs : List PartM), (∀ p ∈ ps, Q p) → (∀ s ∈ ss, Q (partOf s)) → modR ss ps = some qs → (∀ p ∈ qs, Q p) ∧ qs.length ≤ ps.length + ss.length := by
  intro ss
  induction ss with
  | nil => intro ps qs h _ e; cases e; exact ⟨h, Nat.le_refl _⟩
  | cons s ss ih =>
    intro ps qs h hs e
    have hs' : ∀ x ∈ ss, Q (partOf x) := fun x hx => hs x (by simp [hx])
    rw [modR] at e
    split at e
    · have := ih _ _ (fun p hp => by
        rcases List.mem_append.1 hp with hp | hp
        · exact h p hp
        · rw [List.mem_singleton] at hp; subst hp; exact hs s (by simp)) hs' e
      refine ⟨this.1, ?_⟩
      have h2 := this.2
      rw [List.length_append, List.length_singleton] at h2
      rw [List.length_cons]; omega
    · split at e
      · cases e
      · split at e
        · cases e
        · have := ih _ _ (setRel_all hset h _ _) hs' e
          refine ⟨this.1, ?_⟩
          have h2 := this.2
          rw [setRel_len] at h2
          rw [List.length_cons]; omega
theorem symRd_names (b names : List UInt8) : ∀ x ∈ (symRd b names).1, x.name.length ≤ 128 := by
  have hf : ∀ k L, foldU (stepSym b names) k = .ok L → ∀ x ∈ L, x.name.length ≤ 128 := by
    intro k
    induction k with
    | zero => intro L h x hx; cases h; simp at hx
    | succ k ih =>
      intro L h x hx
      rw [foldU] at h
      cases hq : foldU (stepSym b names) k with
      | error e => rw [hq] at h; cases h
      | ok L0 =>
        rw [hq] at h
        have h' : stepSym b names k L0 = .ok L := h
        unfold stepSym at h'
        split at h'
        · cases h'
        · split at h'
          · cases h'
          · split at h'
            · cases h'
            · cases h'
              rw [List.mem_append, List.mem_singleton] at hx
              rcases hx with hx | rfl
              · exact ih L0 hq x hx
              · unfold recS
                exact atR_len _ _
  unfold symRd
  split
  · simp
  · split
    · next L hL => exact hf _ _ hL
    · simp
theorem readE_few (l : List UInt8) : (readE l).1.secs.length ≤ 250 ∧ ∀ s ∈ (readE l).1.secs, s.name.length ≤ 128 := by
  have h0 : elf0.secs = [] := rfl
  unfold readE
  split
  · rw [h0]; exact ⟨Nat.zero_le _, fun s hs => by cases hs⟩
  · split
    · next h =>
      refine ⟨?_, fun s hs => ?_⟩
      · show (secsP l (nsecsP l)).length ≤ _
        have := h.1.n3
        rw [secsP_len]; unfold nsecsP; omega
      · obtain ⟨i, hi⟩ := List.mem_iff_getElem?.1 hs
        rw [secsP_get hi]
        unfold secP
        dsimp only
        exact atR_len _ _
    · rw [h0]; exact ⟨Nat.zero_le _, fun s hs => by cases hs⟩
theorem textN_len (n : Nat) (b : Bool) : (textN n b).length ≤ 5 := by
  rw [← textK_4]
  have := textK_len n 4
  rw [List.length_append]
  split
  · rw [List.length_singleton]; omega
  · rw [List.length_nil]; omega
/-- A small part. -/
def SmallP (p : PartM) : Prop := p.name.length ≤ 1000000000 ∧ p.flags.length ≤ 1000000000 ∧ p.data.length ≤ 24000
theorem small_set (p : PartM) (l : List RelaM) (h : SmallP p) : SmallP { p with relas := l } := ⟨h.1, h.2.1, h.2.2⟩
theorem small_of {s : SecM} (h : s.data.length ≤ 24000 ∧ s.name.length ≤ 1000000000) : SmallP (partOf s) := ⟨h.2, by show (textN _ _).length ≤ _; have := textN_len s.flags (decide (s.typ = 8)); omega, h.1⟩
/-- The two ways. -/
def Way (md : List SecM → Option (List PartM)) : Prop := md = (fun l => modP l [] []) ∨ md = (fun l => modR l [])
theorem way_ok {md : List SecM → Option (List PartM)} (hm : Way md) {e : ElfM} {o : ObjM} (hl : e.secs.length ≤ 1000) (hd : ∀ s ∈ e.secs, s.data.length ≤ 24000 ∧ s.name.length ≤ 1000000000) (hfit : e.fits) (h : secsO md e = some o) : ObjOk o := by
  have hwf : ObjWf o := secsO_wf (fun ss qs hs h => by
    rcases hm with rfl | rfl
    · exact modP_wf ss [] [] qs (fun p hp => by cases hp) hs h
    · exact modR_wf ss [] qs (fun p hp => by cases hp) hs h) hfit (fun s hs => (hd s hs).1) h
  unfold secsO at h
  split at h
  · cases h
  · split at h
    · cases h
    · cases hp : md (e.secs.take (e.secs.length - 2)) with
      | none => rw [hp] at h; cases h
      | some ps =>
        rw [hp] at h
        simp only [Option.map_some, Option.some.injEq] at h
        have hsm : (∀ p ∈ ps, SmallP p) ∧ ps.length ≤ 0 + (e.secs.take (e.secs.length - 2)).length := by
          have hs : ∀ s ∈ e.secs.take (e.secs.length - 2), SmallP (partOf s) := fun s hs => small_of (hd s (List.mem_of_mem_take hs))
          rcases hm with rfl | rfl
          · exact modP_all small_set _ [] [] ps (fun p hp => by cases hp) hs hp
          · exact modR_all small_set _ [] ps (fun p hp => by cases hp) hs hp
        subst h
        refine ⟨hwf, ?_, fun p hp => ⟨by have := (hsm.1 p hp).1; omega, by have := (hsm.1 p hp).2.1; omega⟩, fun p hp => by have := (hsm.1 p hp).2.2; omega, fun s hs => ?_⟩
        · have h1 := hsm.2
          rw [List.length_take] at h1
          show ps.length ≤ 1000
          omega
        · have h1 := symRd_names _ _ s hs
          omega
theorem objNo_ok : ObjOk objNo := ⟨⟨⟨by decide, by decide⟩, fun p hp => (by cases hp), fun p hp => (by cases hp), Nat.zero_le _, fun p hp => (by cases hp)⟩, Nat.zero_le _, fun p hp => (by cases hp), fun p hp => (by cases hp), fun p hp => (by cases hp)⟩
/-- A module comes in memory of its own, and an error's number. -/
def ReadRes (md : List SecM → Option (List PartM)) (l : List UInt8) (base : Nat) (r : Ending) (w : World) : Prop := ∃ PL pv sv, r = .returned (.tuple #[objV (readO md l).1 pv sv, .int .i64 (readO md l).2]) ∧ ObjOwn w base (readO md l).1 PL pv sv
theorem ObjOwn.zero (w : World) (base : Nat) : ObjOwn w base objNo [] (.slice none 0 0) (.slice none 0 0) := ⟨rfl, OwR.nil _ _ _ _ _, (fun p hp => by cases hp), (fun p hp => by cases hp), OwR.nil _ _ _ _ _, List.Pairwise.nil, List.Pairwise.nil⟩
theorem ReadRes.code {md : List SecM → Option (List PartM)} {l : List UInt8} {base : Nat} {w : World} {x : Int} (h : readO md l = (objNo, x)) : ReadRes md l base (.returned (.tuple #[.agg objZ, .int .i64 x])) w := by
  refine ⟨[], .slice none 0 0, .slice none 0 0, ?_, ?_⟩
  · rw [h]; rfl
  · rw [h]; exact ObjOwn.zero _ _
theorem readO_err {md : List SecM → Option (List PartM)} {l : List UInt8} (h : (readE l).2 ≠ 0) : readO md l = (objNo, (readE l).2) := by unfold readO; rw [if_pos h]
theorem readO_none {md : List SecM → Option (List PartM)} {l : List UInt8} (h : (readE l).2 = 0) (hs : secsO md (readE l).1 = none) : readO md l = (objNo, 4) := by unfold readO; rw [if_neg (by simp [h]), hs]
theorem readO_no {md : List SecM → Option (List PartM)} {l : List UInt8} {o : ObjM} (h : (readE l).2 = 0) (hs : secsO md (readE l).1 = some o) (hf : fileO o ≠ (l, 0)) : readO md l = (objNo, 4) := by unfold readO; rw [if_neg (by simp [h]), hs]; dsimp only; rw [if_neg hf]
theorem readO_yes {md : List SecM → Option (List PartM)} {l : List UInt8} {o : ObjM} (h : (readE l).2 = 0) (hs : secsO md (readE l).1 = some o) (hf : fileO o = (l, 0)) : readO md l = (o, 0) := by unfold readO; rw [if_neg (by simp [h]), hs]; dsimp only; rw [if_pos hf]
end Go.Proofs.Ytimnbnomaajmmaa
namespace Go.Proofs.Ytimnbnomaajmmaa
open Go.RowKit Go.Fd
theorem ObjOwn.stir {w w' : World} {base r : Nat} {o : ObjM} {PL : List (PartM × Value × Value)} {pv sv : Value} {cs : Array Value} {fr : Nat × Nat} (h : ObjOwn w base o PL pv sv) (hr : w.heap[r]? = some (.cells cs 25 fr)) (hs : Stirs (fun k => k = r) w w') : ObjOwn w' base o PL pv sv :=
  ⟨h.parts, owns_stirs h.po hs (own_ne h.po hr (by decide)), fun p hp => owns_stirs (h.data p hp) hs (own_ne (h.data p hp) hr (by decide)), fun p hp => owns_stirs (h.rela p hp) hs (own_ne (h.rela p hp) hr (by decide)), owns_stirs h.so hs (own_ne h.so hr (by decide)), h.apd, h.apr⟩
theorem ElfOwn.up {w w' : World} {base : Nat} {e : ElfM} {L : List (SecM × Value)} {sv gv : Value} (h : ElfOwn w base e L sv gv) (hb : Below w.heap.size w w') : ElfOwn w' base e L sv gv :=
  ⟨h.secs, h.so.mono hb, h.go.mono hb, fun p hp => (h.data p hp).mono hb⟩
theorem ElfOwn.stir {w w' : World} {base r : Nat} {e : ElfM} {L : List (SecM × Value)} {sv gv : Value} {cs : Array Value} {fr : Nat × Nat} (h : ElfOwn w base e L sv gv) (hr : w.heap[r]? = some (.cells cs 52 fr)) (hs : Stirs (fun k => k = r) w w') : ElfOwn w' base e L sv gv :=
  ⟨h.secs, owns_stirs h.so hs (own_ne h.so hr (by decide)), owns_stirs h.go hs (own_ne h.go hr (by decide)), fun p hp => owns_stirs (h.data p hp) hs (own_ne (h.data p hp) hr (by decide))⟩
set_option maxHeartbeats 8000000 in
set_option maxRecDepth 100000 in
theorem read6_gen (l : List UInt8) (v : Value) (w : World) (hl : l.length ≤ 4194304) (hv : Bs w v l) (hdt : ∀ s ∈ (readE l).1.secs, s.data.length ≤ 1000000 ∧ s.name.length ≤ 1000000000 ∧ (s.typ = 4 → s.data.length ≤ 24000)) (hx2 : ∀ s, (readE l).1.secs[(readE l).1.secs.length - 2]? = some s → s.data.length ≤ 100000) (hsec : ∀ o, secsO (fun l => modP l [] []) (readE l).1 = some o → ObjOk o) :
    Calls Try.prog 16 #[v] w fun r w' => ReadRes (fun l => modP l [] []) l w.heap.size r w' ∧ Below w.heap.size w w' := by
  have HV := Lib.hid hv
  have HRE := Lib.hid (fun wx (hb : Below w.heap.size w wx) => readEA_any l v wx (by omega) (hv.mono hb))
  have hok := (readE_ok (l := l) (by omega))
  have HFW := Lib.hid (readE_few l)
  have HDT := Lib.hid hdt
  have HSEC := Lib.hid hsec
  have HX22 := Lib.hid hx2
  have HFT := Lib.hid hok.fits
  obtain ⟨lm, la, lc, -, rfl, -, -⟩ := hv.shape
  clear hv hok hdt hx2 hsec
  have HER := Lib.hid (readO_err (md := fun l => modP l [] []) (l := l))
  have HNN := Lib.hid (readO_none (md := fun l => modP l [] []) (l := l))
  have HNY := Lib.hid (fun o => readO_yes (md := fun l => modP l [] []) (l := l) (o := o))
  have HNO := Lib.hid (fun o => readO_no (md := fun l => modP l [] []) (l := l) (o := o))
  generalize hre : readE l = re at *
  have HREQ := Lib.hid hre
  obtain ⟨e, code⟩ := re
  dsimp only at *
  have HR2 : Hid (∀ wx (_ : Below w.heap.size w wx), Calls Try.prog 30 #[.slice la lm lc] wx fun r w' => (∃ L sa sn sc ga gn gc, r = .returned (.tuple #[elfV e (.slice sa sn sc) (.slice ga gn gc), .int .i64 code]) ∧ ElfOwn w' wx.heap.size e L (.slice sa sn sc) (.slice ga gn gc) ∧ ApartS L) ∧ Below wx.heap.size wx w') := Lib.hid (fun wx hb => (HRE.out wx hb).mono fun r w' ⟨⟨L, sv, gv, h1, h2, h3⟩, h4⟩ => by
    rw [hre] at h1 h2
    obtain ⟨sn, sa, sc, -, rfl, -, -⟩ := h2.so.shape
    obtain ⟨gn, ga, gc, -, rfl, -, -⟩ := h2.go.shape
    exact ⟨⟨L, sa, sn, sc, ga, gn, gc, h1, h2, h3⟩, h4⟩)
  clear hre HRE
  by_cases h0 : code = 0
  case neg =>
    have HR := Lib.hid (HER.out h0)
    have hcb : (code != 0) = true := bne_iff_ne.2 h0
    clear h0
    go_enter Try.func16, Try.ntmps16
    go_wp2_with (first
      | ((with_reducible show wpList _ _ _ (⟨some 2, .alloc _, _, _, _, _⟩ :: _) _ _); go_must (refine wpList_allocObj ?_; intro w1 hx1 hb1 hs1; have HX1 := Lib.hid hx1; have HB1 := Lib.hid hb1; clear hx1 hb1))
      | (go_at_call 30; refine (HR2.out _ HB1.out).mono ?_; rintro r w2 ⟨⟨L, sa, sn, sc, ga, gn, gc, rfl, ho, hap⟩, hb2⟩; have HX2 := Lib.hid (heap_below hb2 HX1.out); have HB2 := Lib.hid (HB1.out.trans (hb2.mono HB1.out.size)); clear ho hap hb2)
      | ((with_reducible show wpList _ _ _ (⟨some 4, .alloc _, _, _, _, _⟩ :: _) _ _); go_must (refine wpList_allocElf ?_; intro w3 hx3 hb3 hs3; have HE3 := Lib.hid hx3; have HX3 := Lib.hid (heap_below hb3 HX2.out); have HB3 := Lib.hid (HB2.out.trans (hb3.mono HB2.out.size)); clear hx3 hb3))
      | ((with_reducible show wpList _ _ _ (⟨none, .store _ (.tmp 4) _, _, _, _, _⟩ :: _) _ _); go_must (refine wpList_storeElfS HE3.out rfl rfl rfl rfl (by simp [Value.oneCell']) ?_; intro w4 hh4 hs4; have HX4 := Lib.hid (hs4.kept HX3.out (cells_ne HX3.out HE3.out (by decide))); have HB4 := Lib.hid (HB3.out.trans (hs4.below HB3.out.size (fun k hk => by rw [hk]; exact HB2.out.size))); clear hh4 hs4))
      | ((with_reducible show wpList _ _ _ (⟨none, .store _ (.tmp 2) _, _, _, _, _⟩ :: _) _ _); go_must (refine wpList_storeObjS HX4.out rfl rfl rfl rfl (by simp [Value.oneCell']) ?_; intro w5 hh5 hs5; have HH5 := Lib.hid hh5; have HB5 := Lib.hid (HB4.out.trans (hs5.below HB4.out.size (fun k hk => by rw [hk]; exact Nat.le_refl _))); clear hh5 hs5)))
    exact bodyPost_ret (obRow2 rfl _ _ w.heap.size _ _ _ _ rfl HH5.out rfl rfl (by kernel_rfl)) rfl ⟨ReadRes.code HR.out, HB5.out⟩
  subst h0
  cases hs : secsO (fun l => modP l [] []) e with
  | none =>
    have HR := Lib.hid (HNN.out rfl hs)
    have HMD : Hid (∀ L sv gv base wx, ElfOwn wx base e L sv gv → ApartS L → base ≤ wx.heap.size → Calls Try.prog 31 #[elfV e sv gv] wx fun r w' => (∃ t a1 n1 c1 a2 n2 c2, r = .returned (.tuple #[.agg #[.int .i64 t, .slice a1 n1 c1, .slice a2 n2 c2], .bool false])) ∧ Below wx.heap.size wx w') := Lib.hid (fun L sv gv base wx h1 h2 h3 => (module6_any e L sv gv base wx h1 h2 (by have := HFW.out.1; omega) HDT.out HX22.out HFT.out h3).mono fun r w' ⟨h4, h5⟩ => by
      rcases h4 with ⟨o, PL, pv, sv, hso, -, -⟩ | ⟨-, h6⟩
      · rw [hs] at hso; cases hso
      · exact ⟨h6, h5⟩)
    clear hs
    go_enter Try.func16, Try.ntmps16
    go_wp2_with (first
      | ((with_reducible show wpList _ _ _ (⟨some 2, .alloc _, _, _, _, _⟩ :: _) _ _); go_must (refine wpList_allocObj ?_; intro w1 hx1 hb1 hs1; have HX1 := Lib.hid hx1; have HB1 := Lib.hid hb1; clear hx1 hb1))
      | (go_at_call 30; refine (HR2.out _ HB1.out).mono ?_; rintro r w2 ⟨⟨L, sa, sn, sc, ga, gn, gc, rfl, ho, hap⟩, hb2⟩; have HO2 := Lib.hid ho; have HAP := Lib.hid hap; have HX2 := Lib.hid (heap_below hb2 HX1.out); have HB2 := Lib.hid (HB1.out.trans (hb2.mono HB1.out.size)); have hz2 := hb2.size; clear ho hap hb2)
      | ((with_reducible show wpList _ _ _ (⟨some 4, .alloc _, _, _, _, _⟩ :: _) _ _); go_must (refine wpList_allocElf ?_; intro w3 hx3 hb3 hs3; have HE3 := Lib.hid hx3; have HO3 := Lib.hid (HO2.out.up hb3); have HX3 := Lib.hid (heap_below hb3 HX2.out); have HB3 := Lib.hid (HB2.out.trans (hb3.mono HB2.out.size)); clear hx3 hb3))
      | ((with_reducible show wpList _ _ _ (⟨none, .store _ (.tmp 4) _, _, _, _, _⟩ :: _) _ _); go_must (refine wpList_storeElfS HE3.out rfl rfl rfl rfl (by simp [Value.oneCell']) ?_; intro w4 hh4 hs4; have HO4 := Lib.hid (HO3.out.stir HE3.out hs4); have hz4 := hs4.size; have HX4 := Lib.hid (hs4.kept HX3.out (cells_ne HX3.out HE3.out (by decide))); have HB4 := Lib.hid (HB3.out.trans (hs4.below HB3.out.size (fun k hk => by rw [hk]; exact HB2.out.size))); obtain ⟨z0, z1, z2, z3, z4, z5⟩ := elf_box (e := e) hh4; clear hh4 hs4))
      | (go_at_call 31; refine (HMD.out _ _ _ _ _ HO4.out HAP.out (by omega)).mono ?_; rintro r w5 ⟨⟨t, a1, n1, c1, a2, n2, c2, rfl⟩, hb5⟩; have HX5 := Lib.hid (heap_below hb5 HX4.out); have HB5 := Lib.hid (HB4.out.trans (hb5.mono HB4.out.size)); clear hb5)
      | ((with_reducible show wpList _ _ _ (⟨some 6, .alloc _, _, _, _, _⟩ :: _) _ _); go_must (refine wpList_allocObj ?_; intro w6 hx6 hb6 hs6; have HE6 := Lib.hid hx6; have HX6 := Lib.hid (heap_below hb6 HX5.out); have HB6 := Lib.hid (HB5.out.trans (hb6.mono HB5.out.size)); have hlt6 := block_lt (cell_rec HX5.out 0 |>.trans rfl); clear hx6 hb6))
      | ((with_reducible show wpList _ _ _ (⟨none, .store _ (.tmp 6) _, _, _, _, _⟩ :: _) _ _); go_must (refine wpList_storeObjS HE6.out rfl rfl rfl rfl (by simp [Value.oneCell']) ?_; intro w7 hh7 hs7; have HX7 := Lib.hid (hs7.kept HX6.out (Nat.ne_of_lt hlt6)); have HB7 := Lib.hid (HB6.out.trans (hs7.below HB6.out.size (fun k hk => by rw [hk]; exact HB5.out.size))); clear hh7 hs7))
      | ((with_reducible show wpList _ _ _ (⟨none, .store _ (.tmp 2) _, _, _, _, _⟩ :: _) _ _); go_must (refine wpList_storeObjS HX7.out rfl rfl rfl rfl (by simp [Value.oneCell']) ?_; intro w8 hh8 hs8; have HH8 := Lib.hid hh8; have HB8 := Lib.hid (HB7.out.trans (hs8.below HB7.out.size (fun k hk => by rw [hk]; exact Nat.le_refl _))); clear hh8 hs8)))
    exact bodyPost_ret (obRow2 rfl _ _ w.heap.size _ _ _ _ rfl HH8.out rfl rfl (by kernel_rfl)) rfl ⟨ReadRes.code HR.out, HB8.out⟩
  | some o =>
    have HOK := Lib.hid (HSEC.out o hs)
    have HYES := Lib.hid (HNY.out o rfl hs)
    have HNOO := Lib.hid (HNO.out o rfl hs)
    have HMD : Hid (∀ L sv gv base wx, ElfOwn wx base e L sv gv → ApartS L → base ≤ wx.heap.size → Calls Try.prog 31 #[elfV e sv gv] wx fun r w' => (∃ PL a1 n1 c1 a2 n2 c2, r = .returned (.tuple #[objV o (.slice a1 n1 c1) (.slice a2 n2 c2), .bool true]) ∧ ObjOwn w' base o PL (.slice a1 n1 c1) (.slice a2 n2 c2)) ∧ Below wx.heap.size wx w') := Lib.hid (fun L sv gv base wx h1 h2 h3 => (module6_any e L sv gv base wx h1 h2 (by have := HFW.out.1; omega) HDT.out HX22.out HFT.out h3).mono fun r w' ⟨h4, h5⟩ => by
      rcases h4 with ⟨o2, PL, pv, sv, hso, h6, h7⟩ | ⟨h6, -⟩
      · rw [hs] at hso; cases hso
        obtain ⟨n1, a1, c1, -, rfl, -, -⟩ := h7.po.shape
        obtain ⟨n2, a2, c2, -, rfl, -, -⟩ := h7.so.shape
        exact ⟨⟨PL, a1, n1, c1, a2, n2, c2, h6, h7⟩, h5⟩
      · rw [hs] at h6; cases h6)
    clear hs
    generalize hfo : fileO o = fo at *
    obtain ⟨fb, fc⟩ := fo
    have HFI : Hid (∀ PL pv sv wx, ObjAt wx o PL pv sv → Calls Try.prog 8 #[objV o pv sv] wx fun e w' => (∃ a n c, e = .returned (.tuple #[.slice a n c, .int .i64 fc]) ∧ OB w' wx.heap.size (.slice a n c) fb) ∧ Below wx.heap.size wx w') := Lib.hid (fun PL pv sv wx h1 => (file6_any o PL pv sv wx h1 HOK.out).mono fun r w' ⟨v, h2, h3, h4⟩ => by
      rw [hfo] at h2 h3
      obtain ⟨n, a, c, -, rfl, -, -⟩ := h3.shape
      exact ⟨⟨a, n, c, h2, h3⟩, h4⟩)
    clear hfo
    by_cases hfc : fc = 0
    case neg =>
      have HR := Lib.hid (HNOO.out (fun h => hfc (congrArg Prod.snd h)))
      have hcb : (fc != 0) = true := bne_iff_ne.2 hfc
      clear hfc
      go_enter Try.func16, Try.ntmps16
      go_wp2_with (first
        | ((with_reducible show wpList _ _ _ (⟨some 2, .alloc _, _, _, _, _⟩ :: _) _ _); go_must (refine wpList_allocObj ?_; intro w1 hx1 hb1 hs1; have HX1 := Lib.hid hx1; have HB1 := Lib.hid hb1; clear hx1 hb1))
        | (go_at_call 30; refine (HR2.out _ HB1.out).mono ?_; rintro r w2 ⟨⟨L, sa, sn, sc, ga, gn, gc, rfl, ho, hap⟩, hb2⟩; have HO2 := Lib.hid ho; have HAP := Lib.hid hap; have HX2 := Lib.hid (heap_below hb2 HX1.out); have HB2 := Lib.hid (HB1.out.trans (hb2.mono HB1.out.size)); have hz2 := hb2.size; clear ho hap hb2)
        | ((with_reducible show wpList _ _ _ (⟨some 4, .alloc _, _, _, _, _⟩ :: _) _ _); go_must (refine wpList_allocElf ?_; intro w3 hx3 hb3 hs3; have HE3 := Lib.hid hx3; have HO3 := Lib.hid (HO2.out.up hb3); have HX3 := Lib.hid (heap_below hb3 HX2.out); have HB3 := Lib.hid (HB2.out.trans (hb3.mono HB2.out.size)); clear hx3 hb3))
        | ((with_reducible show wpList _ _ _ (⟨none, .store _ (.tmp 4) _, _, _, _, _⟩ :: _) _ _); go_must (refine wpList_storeElfS HE3.out rfl rfl rfl rfl (by simp [Value.oneCell']) ?_; intro w4 hh4 hs4; have HO4 := Lib.hid (HO3.out.stir HE3.out hs4); have hz4 := hs4.size; have HX4 := Lib.hid (hs4.kept HX3.out (cells_ne HX3.out HE3.out (by decide))); have HB4 := Lib.hid (HB3.out.trans (hs4.below HB3.out.size (fun k hk => by rw [hk]; exact HB2.out.size))); obtain ⟨z0, z1, z2, z3, z4, z5⟩ := elf_box (e := e) hh4; clear hh4 hs4))
        | (go_at_call 31; refine (HMD.out _ _ _ _ _ HO4.out HAP.out (by omega)).mono ?_; rintro r w5 ⟨⟨PL, a1, n1, c1, a2, n2, c2, rfl, how⟩, hb5⟩; have HOW5 := Lib.hid how; clear how; have HX5 := Lib.hid (heap_below hb5 HX4.out); have HB5 := Lib.hid (HB4.out.trans (hb5.mono HB4.out.size)); clear hb5)
        | ((with_reducible show wpList _ _ _ (⟨some 6, .alloc _, _, _, _, _⟩ :: _) _ _); go_must (refine wpList_allocObj ?_; intro w6 hx6 hb6 hs6; have HE6 := Lib.hid hx6; have HOW6 := Lib.hid (HOW5.out.mono hb6); have HX6 := Lib.hid (heap_below hb6 HX5.out); have HB6 := Lib.hid (HB5.out.trans (hb6.mono HB5.out.size)); have hlt6 := block_lt (cell_rec HX5.out 0 |>.trans rfl); clear hx6 hb6))
        | ((with_reducible show wpList _ _ _ (⟨none, .store _ (.tmp 6) _, _, _, _, _⟩ :: _) _ _); go_must (refine wpList_storeObjS HE6.out rfl rfl rfl rfl (by simp [Value.oneCell']) ?_; intro w7 hh7 hs7; have HE7 := Lib.hid hh7; have HOW7 := Lib.hid (HOW6.out.stir HE6.out hs7); obtain ⟨z0, z1, z2⟩ := obj_box hh7; have HX7 := Lib.hid (hs7.kept HX6.out (Nat.ne_of_lt hlt6)); have HB7 := Lib.hid (HB6.out.trans (hs7.below HB6.out.size (fun k hk => by rw [hk]; exact HB5.out.size))); clear hh7 hs7))
        | (go_at_call 8; refine (HFI.out _ _ _ _ HOW7.out.at).mono ?_; rintro r w9 ⟨⟨a9, n9, c9, rfl, ho9⟩, hb9⟩; have HX9 := Lib.hid (heap_below hb9 HX7.out); have HOW9 := Lib.hid (HOW7.out.mono hb9); have HOB9 := Lib.hid ho9; have HB9 := Lib.hid (HB7.out.trans (hb9.mono HB7.out.size)); obtain ⟨z0, z1, z2⟩ := obj_box (heap_below hb9 HE7.out); clear ho9 hb9)
        | (go_at_call 32; refine (bytesEq_any fb l _ _ _ HOB9.out.bs (HV.out.mono HB9.out)).mono ?_; rintro r w10 ⟨rfl, rfl⟩)
        | ((with_reducible show wpList _ _ _ (⟨none, .store _ (.tmp 2) _, _, _, _, _⟩ :: _) _ _); go_must (refine wpList_storeObjS HX9.out rfl rfl rfl rfl (by simp [Value.oneCell']) ?_; intro w8 hh8 hs8; have HH8 := Lib.hid hh8; have HOW8 := Lib.hid (HOW9.out.stir HX9.out hs8); have HB8 := Lib.hid (HB9.out.trans (hs8.below HB9.out.size (fun k hk => by rw [hk]; exact Nat.le_refl _))); clear hh8 hs8)))
      exact bodyPost_ret (obRow2 rfl _ _ w.heap.size _ _ _ _ rfl HH8.out rfl rfl (by kernel_rfl)) rfl ⟨ReadRes.code HR.out, HB8.out⟩
    subst hfc
    by_cases hfl : fb = l
    case neg =>
      have HR := Lib.hid (HNOO.out (fun h => hfl (congrArg Prod.fst h)))
      have hcb : decide (fb = l) = false := decide_eq_false hfl
      clear hfl
      go_enter Try.func16, Try.ntmps16
      go_wp2_with (first
        | ((with_reducible show wpList _ _ _ (⟨some 2, .alloc _, _, _, _, _⟩ :: _) _ _); go_must (refine wpList_allocObj ?_; intro w1 hx1 hb1 hs1; have HX1 := Lib.hid hx1; have HB1 := Lib.hid hb1; clear hx1 hb1))
        | (go_at_call 30; refine (HR2.out _ HB1.out).mono ?_; rintro r w2 ⟨⟨L, sa, sn, sc, ga, gn, gc, rfl, ho, hap⟩, hb2⟩; have HO2 := Lib.hid ho; have HAP := Lib.hid hap; have HX2 := Lib.hid (heap_below hb2 HX1.out); have HB2 := Lib.hid (HB1.out.trans (hb2.mono HB1.out.size)); have hz2 := hb2.size; clear ho hap hb2)
        | ((with_reducible show wpList _ _ _ (⟨some 4, .alloc _, _, _, _, _⟩ :: _) _ _); go_must (refine wpList_allocElf ?_; intro w3 hx3 hb3 hs3; have HE3 := Lib.hid hx3; have HO3 := Lib.hid (HO2.out.up hb3); have HX3 := Lib.hid (heap_below hb3 HX2.out); have HB3 := Lib.hid (HB2.out.trans (hb3.mono HB2.out.size)); clear hx3 hb3))
        | ((with_reducible show wpList _ _ _ (⟨none, .store _ (.tmp 4) _, _, _, _, _⟩ :: _) _ _); go_must (refine wpList_storeElfS HE3.out rfl rfl rfl rfl (by simp [Value.oneCell']) ?_; intro w4 hh4 hs4; have HO4 := Lib.hid (HO3.out.stir HE3.out hs4); have hz4 := hs4.size; have HX4 := Lib.hid (hs4.kept HX3.out (cells_ne HX3.out HE3.out (by decide))); have HB4 := Lib.hid (HB3.out.trans (hs4.below HB3.out.size (fun k hk => by rw [hk]; exact HB2.out.size))); obtain ⟨z0, z1, z2, z3, z4, z5⟩ := elf_box (e := e) hh4; clear hh4 hs4))
        | (go_at_call 31; refine (HMD.out _ _ _ _ _ HO4.out HAP.out (by omega)).mono ?_; rintro r w5 ⟨⟨PL, a1, n1, c1, a2, n2, c2, rfl, how⟩, hb5⟩; have HOW5 := Lib.hid how; clear how; have HX5 := Lib.hid (heap_below hb5 HX4.out); have HB5 := Lib.hid (HB4.out.trans (hb5.mono HB4.out.size)); clear hb5)
        | ((with_reducible show wpList _ _ _ (⟨some 6, .alloc _, _, _, _, _⟩ :: _) _ _); go_must (refine wpList_allocObj ?_; intro w6 hx6 hb6 hs6; have HE6 := Lib.hid hx6; have HOW6 := Lib.hid (HOW5.out.mono hb6); have HX6 := Lib.hid (heap_below hb6 HX5.out); have HB6 := Lib.hid (HB5.out.trans (hb6.mono HB5.out.size)); have hlt6 := block_lt (cell_rec HX5.out 0 |>.trans rfl); clear hx6 hb6))
        | ((with_reducible show wpList _ _ _ (⟨none, .store _ (.tmp 6) _, _, _, _, _⟩ :: _) _ _); go_must (refine wpList_storeObjS HE6.out rfl rfl rfl rfl (by simp [Value.oneCell']) ?_; intro w7 hh7 hs7; have HE7 := Lib.hid hh7; have HOW7 := Lib.hid (HOW6.out.stir HE6.out hs7); obtain ⟨z0, z1, z2⟩ := obj_box hh7; have HX7 := Lib.hid (hs7.kept HX6.out (Nat.ne_of_lt hlt6)); have HB7 := Lib.hid (HB6.out.trans (hs7.below HB6.out.size (fun k hk => by rw [hk]; exact HB5.out.size))); clear hh7 hs7))
        | (go_at_call 8; refine (HFI.out _ _ _ _ HOW7.out.at).mono ?_; rintro r w9 ⟨⟨a9, n9, c9, rfl, ho9⟩, hb9⟩; have HX9 := Lib.hid (heap_below hb9 HX7.out); have HOW9 := Lib.hid (HOW7.out.mono hb9); have HOB9 := Lib.hid ho9; have HB9 := Lib.hid (HB7.out.trans (hb9.mono HB7.out.size)); obtain ⟨z0, z1, z2⟩ := obj_box (heap_below hb9 HE7.out); clear ho9 hb9)
        | (go_at_call 32; refine (bytesEq_any fb l _ _ _ HOB9.out.bs (HV.out.mono HB9.out)).mono ?_; rintro r w10 ⟨rfl, rfl⟩)
        | ((with_reducible show wpList _ _ _ (⟨none, .store _ (.tmp 2) _, _, _, _, _⟩ :: _) _ _); go_must (refine wpList_storeObjS HX9.out rfl rfl rfl rfl (by simp [Value.oneCell']) ?_; intro w8 hh8 hs8; have HH8 := Lib.hid hh8; have HOW8 := Lib.hid (HOW9.out.stir HX9.out hs8); have HB8 := Lib.hid (HB9.out.trans (hs8.below HB9.out.size (fun k hk => by rw [hk]; exact Nat.le_refl _))); clear hh8 hs8)))
      exact bodyPost_ret (obRow2 rfl _ _ w.heap.size _ _ _ _ rfl HH8.out rfl rfl (by kernel_rfl)) rfl ⟨ReadRes.code HR.out, HB8.out⟩
    have hcb : decide (fb = l) = true := decide_eq_true hfl
    have HR := Lib.hid (HYES.out (by rw [hfl]))
    clear hfl
    go_enter Try.func16, Try.ntmps16
    go_wp2_with (first
      | ((with_reducible show wpList _ _ _ (⟨some 2, .alloc _, _, _, _, _⟩ :: _) _ _); go_must (refine wpList_allocObj ?_; intro w1 hx1 hb1 hs1; have HX1 := Lib.hid hx1; have HB1 := Lib.hid hb1; clear hx1 hb1))
      | (go_at_call 30; refine (HR2.out _ HB1.out).mono ?_; rintro r w2 ⟨⟨L, sa, sn, sc, ga, gn, gc, rfl, ho, hap⟩, hb2⟩; have HO2 := Lib.hid ho; have HAP := Lib.hid hap; have HX2 := Lib.hid (heap_below hb2 HX1.out); have HB2 := Lib.hid (HB1.out.trans (hb2.mono HB1.out.size)); have hz2 := hb2.size; clear ho hap hb2)
      | ((with_reducible show wpList _ _ _ (⟨some 4, .alloc _, _, _, _, _⟩ :: _) _ _); go_must (refine wpList_allocElf ?_; intro w3 hx3 hb3 hs3; have HE3 := Lib.hid hx3; have HO3 := Lib.hid (HO2.out.up hb3); have HX3 := Lib.hid (heap_below hb3 HX2.out); have HB3 := Lib.hid (HB2.out.trans (hb3.mono HB2.out.size)); clear hx3 hb3))
      | ((with_reducible show wpList _ _ _ (⟨none, .store _ (.tmp 4) _, _, _, _, _⟩ :: _) _ _); go_must (refine wpList_storeElfS HE3.out rfl rfl rfl rfl (by simp [Value.oneCell']) ?_; intro w4 hh4 hs4; have HO4 := Lib.hid (HO3.out.stir HE3.out hs4); have hz4 := hs4.size; have HX4 := Lib.hid (hs4.kept HX3.out (cells_ne HX3.out HE3.out (by decide))); have HB4 := Lib.hid (HB3.out.trans (hs4.below HB3.out.size (fun k hk => by rw [hk]; exact HB2.out.size))); obtain ⟨z0, z1, z2, z3, z4, z5⟩ := elf_box (e := e) hh4; clear hh4 hs4))
      | (go_at_call 31; refine (HMD.out _ _ _ _ _ HO4.out HAP.out (by omega)).mono ?_; rintro r w5 ⟨⟨PL, a1, n1, c1, a2, n2, c2, rfl, how⟩, hb5⟩; have HOW5 := Lib.hid how; clear how; have HX5 := Lib.hid (heap_below hb5 HX4.out); have HB5 := Lib.hid (HB4.out.trans (hb5.mono HB4.out.size)); clear hb5)
      | ((with_reducible show wpList _ _ _ (⟨some 6, .alloc _, _, _, _, _⟩ :: _) _ _); go_must (refine wpList_allocObj ?_; intro w6 hx6 hb6 hs6; have HE6 := Lib.hid hx6; have HOW6 := Lib.hid (HOW5.out.mono hb6); have HX6 := Lib.hid (heap_below hb6 HX5.out); have HB6 := Lib.hid (HB5.out.trans (hb6.mono HB5.out.size)); have hlt6 := block_lt (cell_rec HX5.out 0 |>.trans rfl); clear hx6 hb6))
      | ((with_reducible show wpList _ _ _ (⟨none, .store _ (.tmp 6) _, _, _, _, _⟩ :: _) _ _); go_must (refine wpList_storeObjS HE6.out rfl rfl rfl rfl (by simp [Value.oneCell']) ?_; intro w7 hh7 hs7; have HE7 := Lib.hid hh7; have HOW7 := Lib.hid (HOW6.out.stir HE6.out hs7); obtain ⟨z0, z1, z2⟩ := obj_box hh7; have HX7 := Lib.hid (hs7.kept HX6.out (Nat.ne_of_lt hlt6)); have HB7 := Lib.hid (HB6.out.trans (hs7.below HB6.out.size (fun k hk => by rw [hk]; exact HB5.out.size))); clear hh7 hs7))
      | (go_at_call 8; refine (HFI.out _ _ _ _ HOW7.out.at).mono ?_; rintro r w9 ⟨⟨a9, n9, c9, rfl, ho9⟩, hb9⟩; have HX9 := Lib.hid (heap_below hb9 HX7.out); have HOW9 := Lib.hid (HOW7.out.mono hb9); have HOB9 := Lib.hid ho9; have HB9 := Lib.hid (HB7.out.trans (hb9.mono HB7.out.size)); obtain ⟨z0, z1, z2⟩ := obj_box (heap_below hb9 HE7.out); clear ho9 hb9)
      | (go_at_call 32; refine (bytesEq_any fb l _ _ _ HOB9.out.bs (HV.out.mono HB9.out)).mono ?_; rintro r w10 ⟨rfl, rfl⟩)
      | ((with_reducible show wpList _ _ _ (⟨none, .store _ (.tmp 2) _, _, _, _, _⟩ :: _) _ _); go_must (refine wpList_storeObjS HX9.out rfl rfl rfl rfl (by simp [Value.oneCell']) ?_; intro w8 hh8 hs8; have HH8 := Lib.hid hh8; have HOW8 := Lib.hid (HOW9.out.stir HX9.out hs8); have HB8 := Lib.hid (HB9.out.trans (hs8.below HB9.out.size (fun k hk => by rw [hk]; exact Nat.le_refl _))); clear hh8 hs8)))
    exact bodyPost_ret (obRow2 rfl _ _ w.heap.size _ _ _ _ rfl HH8.out rfl rfl (by kernel_rfl)) rfl ⟨⟨PL, .slice a1 n1 c1, .slice a2 n2 c2, by rw [HR.out]; rfl, by rw [HR.out]; exact HOW8.out.base HB1.out.size⟩, HB8.out⟩
theorem read6_any (l : List UInt8) (v : Value) (w : World) (hl : l.length ≤ 24000) (hv : Bs w v l) :
    Calls Try.prog 16 #[v] w fun r w' => ReadRes (fun l => modP l [] []) l w.heap.size r w' ∧ Below w.heap.size w w' := by
  have hd : ∀ s ∈ (readE l).1.secs, s.data.length ≤ 24000 ∧ s.name.length ≤ 1000000000 := fun s hs => ⟨Nat.le_trans (readE_data hs) hl, by have := (readE_few l).2 s hs; omega⟩
  exact read6_gen l v w (by omega) hv (fun s hs => ⟨by have := (hd s hs).1; omega, (hd s hs).2, fun _ => (hd s hs).1⟩) (fun s hs => by have := (hd s (List.mem_of_getElem? hs)).1; omega) (fun o ho => way_ok (.inl rfl) (by have := (readE_few l).1; omega) hd (readE_ok (l := l) (by omega)).fits ho)
end Go.Proofs.Ytimnbnomaajmmaa
namespace Go.Proofs.Ytimnbnomaajmmaa
open Go.RowKit Go.Fd
set_option maxHeartbeats 8000000 in
set_option maxRecDepth 100000 in
theorem refFile_any (o : ObjM) (L : List (PartM × Value × Value)) (pv sv : Value) (w : World) (h : ObjAt w o L pv sv) (ho : ObjOk o) :
    Calls Try.prog 9 #[objV o pv sv] w fun e w' => ∃ v, e = .returned (.tuple #[v, .int .i64 (fileO o).2]) ∧ OB w' w.heap.size v (fileO o).1 ∧ Below w.heap.size w w' := by
  have HMY := Lib.hid (fun wx (hb : Below w.heap.size w wx) => refMay_any o L pv sv wx (h.mono hb) ho)
  have HEL : Hid (MayO o → ∀ wx (_ : Below w.heap.size w wx), Calls Try.prog 23 #[objV o pv sv] wx fun e w' => (∃ T a n c, e = .returned (.tuple #[elfV (elfO o) (.slice a n c) (.slice none 0 0), .int .i64 0]) ∧ ElfAt w' (elfO o) T (.slice a n c) (.slice none 0 0)) ∧ Below wx.heap.size wx w') := Lib.hid (fun hm wx hb => (refElf_any o L pv sv wx (h.mono hb) ho hm).mono fun r w' ⟨T, ev, h1, h2, h3⟩ => by
    obtain ⟨n, a, c, -, rfl, -, -⟩ := h2.rd.shape
    exact ⟨⟨T, a, n, c, h1, h2⟩, h3⟩)
  have HWR : Hid (MayO o → ∀ T ev gv wx, ElfAt wx (elfO o) T ev gv → Calls Try.prog 24 #[elfV (elfO o) ev gv] wx fun r w' => ∃ v, r = .returned (.tuple #[v, .int .i64 (fileW (elfO o)).2]) ∧ OB w' wx.heap.size v (fileW (elfO o)).1 ∧ Below wx.heap.size wx w') := Lib.hid (fun hm T ev gv wx hx => ref4Write_any (elfO o) T ev gv wx hx (elfO_ok ho hm))
  obtain ⟨pn, pa, pc, -, rfl, -, -⟩ := h.rd.shape
  obtain ⟨sn, sa, sc, -, rfl, -, -⟩ := h.syms.shape
  have HFO : Hid (fileO o = if mayO o ≠ 0 then ([], mayO o) else if mayE (elfO o) = true then (fileB (elfO o), 0) else ([], 6)) := by unfold fileO; rfl
  have HFW : Hid (fileW (elfO o) = if mayE (elfO o) = true then (fileB (elfO o), 0) else ([], 1)) := rfl
  have HM0 := Lib.hid (mayO_0 (o := o))
  clear h ho
  generalize hmo : mayO o = mo at *
  by_cases hm0 : mo = 0
  case neg =>
    have HR := Lib.hid (show fileO o = ([], mo) by rw [HFO.out, if_pos hm0])
    have hmb : (mo != 0) = true := bne_iff_ne.2 hm0
    clear hm0 HFO hmo HM0
    go_enter Try.func9, Try.ntmps9
    go_wp2_with (first
      | ((with_reducible show wpList _ _ _ (⟨some 1, .box _ _, _, _, _, _⟩ :: _) _ _); go_must (refine wpList_box rfl ?_; intro w1 hx1 hb1 hs1; have HX1 := Lib.hid hx1; have HB1 := Lib.hid hb1; obtain ⟨c0, c1, c2⟩ := obj_box hx1; clear hx1 hb1))
      | (go_at_call 13; refine (HMY.out _ HB1.out).mono ?_; rintro e w2 ⟨rfl, hb2⟩; have HB2 := Lib.hid (HB1.out.trans (hb2.mono HB1.out.size)); clear hb2))
    go_ret2
    exact ⟨_, by rw [HR.out]; rfl, by rw [HR.out]; exact OB.nil _ _, HB2.out⟩
  subst hm0
  have HMO := Lib.hid (HM0.out rfl)
  have HFI : Hid (fileO o = if mayE (elfO o) = true then (fileB (elfO o), 0) else ([], 6)) := by
    have := HFO.out
    rwa [if_neg (by simp)] at this
  have HEL2 := Lib.hid (HEL.out HMO.out)
  have HWR2 := Lib.hid (HWR.out HMO.out)
  clear HFO HM0 hmo HEL HWR
  cases hme : mayE (elfO o) with
  | true =>
    rw [hme] at HFW HFI
    have HFW2 := Lib.hid (show fileW (elfO o) = (fileB (elfO o), 0) from HFW.out.trans (if_pos rfl))
    have HFI2 := Lib.hid (show fileO o = (fileB (elfO o), 0) from HFI.out.trans (if_pos rfl))
    rw [HFW2.out] at HWR2
    clear hme HFW HFI
    go_enter Try.func9, Try.ntmps9
    go_wp2_with (first
      | ((with_reducible show wpList _ _ _ (⟨some 1, .box _ _, _, _, _, _⟩ :: _) _ _); go_must (refine wpList_box rfl ?_; intro w1 hx1 hb1 hs1; have HX1 := Lib.hid hx1; have HB1 := Lib.hid hb1; obtain ⟨c0, c1, c2⟩ := obj_box hx1; clear hx1 hb1))
      | (go_at_call 13; refine (HMY.out _ HB1.out).mono ?_; rintro e w2 ⟨rfl, hb2⟩; have HX2 := Lib.hid (heap_below hb2 HX1.out); have HB2 := Lib.hid (HB1.out.trans (hb2.mono HB1.out.size)); obtain ⟨c0, c1, c2⟩ := obj_box HX2.out; clear hb2)
      | (go_at_call 23; refine (HEL2.out _ HB2.out).mono ?_; rintro e w3 ⟨⟨T, ea, en, ec, rfl, hea⟩, hb3⟩; have HEA := Lib.hid hea; have HB3 := Lib.hid (HB2.out.trans (hb3.mono HB2.out.size)); clear hea hb3)
      | ((with_reducible show wpList _ _ _ (⟨some 5, .alloc _, _, _, _, _⟩ :: _) _ _); go_must (refine wpList_allocElf ?_; intro w4 hx4 hb4 hs4; have HE4 := Lib.hid hx4; have HB34 := Lib.hid hb4; have HB4 := Lib.hid (HB3.out.trans (hb4.mono HB3.out.size)); clear hx4 hb4))
      | ((with_reducible show wpList _ _ _ (⟨none, .store _ (.tmp 5) _, _, _, _, _⟩ :: _) _ _); go_must (refine wpList_storeElf HE4.out rfl rfl rfl rfl (by simp [Value.oneCell']) (Nat.le_refl _) (Nat.le_of_lt hs4) ?_; intro w5 hh5 hb5; have HEA5 := Lib.hid (HEA.out.mono (HB34.out.trans hb5)); have HB5 := Lib.hid (HB4.out.trans (hb5.mono HB3.out.size)); obtain ⟨z0, z1, z2, z3, z4, z5⟩ := elf_box (e := elfO o) hh5; clear hh5 hb5))
      | (go_at_call 24; refine (HWR2.out _ _ _ _ HEA5.out).mono ?_; rintro e w6 ⟨v6, rfl, ho6, hb6⟩; have HOBR := Lib.hid (ho6.base HB5.out.size); have HBC := Lib.hid (HB5.out.trans (hb6.mono HB5.out.size)); clear ho6 hb6))
    go_ret2
    exact ⟨_, by rw [HFI2.out]; rfl, by rw [HFI2.out]; exact HOBR.out, HBC.out⟩
  | false =>
    rw [hme] at HFW HFI
    have HFW2 := Lib.hid (show fileW (elfO o) = ([], 1) from HFW.out.trans (if_neg (by simp)))
    have HFI2 := Lib.hid (show fileO o = ([], 6) from HFI.out.trans (if_neg (by simp)))
    rw [HFW2.out] at HWR2
    clear hme HFW HFI
    go_enter Try.func9, Try.ntmps9
    go_wp2_with (first
      | ((with_reducible show wpList _ _ _ (⟨some 1, .box _ _, _, _, _, _⟩ :: _) _ _); go_must (refine wpList_box rfl ?_; intro w1 hx1 hb1 hs1; have HX1 := Lib.hid hx1; have HB1 := Lib.hid hb1; obtain ⟨c0, c1, c2⟩ := obj_box hx1; clear hx1 hb1))
      | (go_at_call 13; refine (HMY.out _ HB1.out).mono ?_; rintro e w2 ⟨rfl, hb2⟩; have HX2 := Lib.hid (heap_below hb2 HX1.out); have HB2 := Lib.hid (HB1.out.trans (hb2.mono HB1.out.size)); obtain ⟨c0, c1, c2⟩ := obj_box HX2.out; clear hb2)
      | (go_at_call 23; refine (HEL2.out _ HB2.out).mono ?_; rintro e w3 ⟨⟨T, ea, en, ec, rfl, hea⟩, hb3⟩; have HEA := Lib.hid hea; have HB3 := Lib.hid (HB2.out.trans (hb3.mono HB2.out.size)); clear hea hb3)
      | ((with_reducible show wpList _ _ _ (⟨some 5, .alloc _, _, _, _, _⟩ :: _) _ _); go_must (refine wpList_allocElf ?_; intro w4 hx4 hb4 hs4; have HE4 := Lib.hid hx4; have HB34 := Lib.hid hb4; have HB4 := Lib.hid (HB3.out.trans (hb4.mono HB3.out.size)); clear hx4 hb4))
      | ((with_reducible show wpList _ _ _ (⟨none, .store _ (.tmp 5) _, _, _, _, _⟩ :: _) _ _); go_must (refine wpList_storeElf HE4.out rfl rfl rfl rfl (by simp [Value.oneCell']) (Nat.le_refl _) (Nat.le_of_lt hs4) ?_; intro w5 hh5 hb5; have HEA5 := Lib.hid (HEA.out.mono (HB34.out.trans hb5)); have HB5 := Lib.hid (HB4.out.trans (hb5.mono HB3.out.size)); obtain ⟨z0, z1, z2, z3, z4, z5⟩ := elf_box (e := elfO o) hh5; clear hh5 hb5))
      | (go_at_call 24; refine (HWR2.out _ _ _ _ HEA5.out).mono ?_; rintro e w6 ⟨v6, rfl, ho6, hb6⟩; have HOBR := Lib.hid (ho6.base HB5.out.size); have HBC := Lib.hid (HB5.out.trans (hb6.mono HB5.out.size)); clear ho6 hb6))
    go_ret2
    exact ⟨_, by rw [HFI2.out]; rfl, by rw [HFI2.out]; exact OB.nil _ _, HBC.out⟩
end Go.Proofs.Ytimnbnomaajmmaa
namespace Go.Proofs.Ytimnbnomaajmmaa
open Go.RowKit Go.Fd
def seenB (s : SymM) : Bool := !decide (s.bind = 0) && !decide (s.sec = 0) && !decide (s.name = [])
theorem def_step {l : List SymM} {k : Nat} {x : SymM} (h : l[k]? = some x) : definedO (l.take (k + 1)) = if seenB x = true then definedO (l.take k) ++ [x.name] else definedO (l.take k) := by
  unfold definedO
  rw [List.take_add_one, h, List.filter_append, List.map_append]
  show _ ++ List.map _ (List.filter seenB [x]) = _
  by_cases hs : seenB x = true
  · rw [if_pos hs, List.filter_cons_of_pos hs]; rfl
  · rw [if_neg hs, List.filter_cons_of_neg hs]; simp
theorem def_len (l : List SymM) : (definedO l).length ≤ l.length := by
  unfold definedO
  rw [List.length_map]
  exact List.length_filter_le _ _
theorem below_grownT {w1 w6 w7 : World} {v : Value} {l : List (List UInt8)} (h : Ow S 9 w6 w1.heap.size v l) (hg : w6.grownBy w7 v.ownBlock) (hz : w1.heap.size ≤ w6.heap.size) : Below w1.heap.size w6 w7 :=
  below_of_grown hg hz fun k hk => (World.ownsRow.lt h k hk).1
set_option maxHeartbeats 4000000 in
set_option maxRecDepth 100000 in
theorem defined6_any (o : ObjM) (L : List (PartM × Value × Value)) (pv sv : Value) (w : World) (h : ObjAt w o L pv sv) (hl : o.syms.length ≤ 1000) :
    Calls Try.prog 10 #[objV o pv sv] w fun e w' => (∃ a n c, e = .returned (.slice a n c) ∧ Ow S 9 w' w.heap.size (.slice a n c) (definedO o.syms)) ∧ Below w.heap.size w w' := by
  obtain ⟨pn, pa, pc, -, rfl, -, -⟩ := h.rd.shape
  obtain ⟨sa, sc, rfl, hsc, -, hS⟩ := h.syms.open (fun _ => rfl)
  have HS := Lib.hid hS
  obtain ⟨target, parts, syms⟩ := o
  dsimp only at *
  obtain ⟨ns, hns⟩ : ∃ n, n = syms.length := ⟨_, rfl⟩
  rw [← hns] at hl hsc ⊢
  have HNS := Lib.hid hns
  clear hS hns h
  go_enter Try.func10, Try.ntmps10
  go_wp2_with (first
    | ((with_reducible show wpList _ _ _ (⟨some 1, .box _ _, _, _, _, _⟩ :: _) _ _); go_must (refine wpList_box rfl ?_; intro w1 hx1 hb1 hs1; have HX1 := Lib.hid hx1; have HB1 := Lib.hid hb1; have hb1s := hb1.size; obtain ⟨c0, c1, c2⟩ := obj_box hx1; clear hx1 hb1)))
  go_loopw [3, 9] (fun v i wr => ∃ (k : Nat) (va : Option Addr) (vn vc : Nat), v = .slice va vn vc ∧ i = .int .i64 k ∧ k ≤ ns ∧ Hid (Ow S 9 wr w1.heap.size (.slice va vn vc) (definedO (syms.take k))) ∧ Hid (Below w1.heap.size w1 wr)) (fun _ i _ => ns - (intOf i).toNat)
  case atStart => exact ⟨0, none, 0, 0, rfl, rfl, Nat.zero_le _, Ow.nil _ _ _ _, Below.refl _ _⟩
  case round =>
    obtain ⟨k, va, vn, vc, rfl, rfl, hk, HO, HW⟩ := hrel
    have HB := Lib.hid (HB1.out.trans (HW.out.mono HB1.out.size))
    have HXr := Lib.hid (heap_below HW.out HX1.out)
    have hbs := HW.out.size
    
    by_cases hlt : k < ns
    · obtain ⟨x, hx⟩ : ∃ x, syms[k]? = some x := ⟨_, List.getElem?_eq_getElem (by have := HNS.out; omega)⟩
      obtain ⟨b, oo, rfl, e0, e1, e2, e3, e4, e5, hb0⟩ := sym_cells HS.out HB.out hx
      have HST := Lib.hid (def_step hx)
      have HDL : Hid ((definedO (syms.take k)).length ≤ 1000) := by
        have h1 := def_len (syms.take k)
        rw [List.length_take] at h1
        unfold Hid
        omega
      have HSB : Hid (seenB x = (!decide (x.bind = 0) && !decide (x.sec = 0) && !decide (x.name = []))) := rfl
      obtain ⟨name, bind, typ, sec, value, size⟩ := x
      dsimp only at *
      generalize seenB ⟨name, bind, typ, sec, value, size⟩ = sb at *
      clear hx
      by_cases hq : bind ≠ 0 ∧ sec ≠ 0 ∧ name ≠ []
      · obtain ⟨q1, q2, q3⟩ := hq
        have t1 : (bind != 0) = true := bne_iff_ne.2 q1
        have t2 : (sec != 0) = true := bne_iff_ne.2 q2
        have t3 : (name != []) = true := bne_iff_ne.2 q3
        have t4 : name.isEmpty = false := by simpa using q3
        have HN := Lib.hid (show definedO (syms.take (k + 1)) = definedO (syms.take k) ++ [name] by rw [HST.out, HSB.out, decide_eq_false q1, decide_eq_false q2, decide_eq_false q3]; rfl)
        clear HST HSB q1 q2 q3
        go_wp2_with (first
          | ((with_reducible show wpList _ _ _ (⟨none, .store _ (.tmp 5) _, _, _, _, _⟩ :: _) _ _); go_must (refine wpList_storeNew rfl rfl (by kernel_rfl) rfl (by simp [Value.oneCell']) ?_; intro w6 hh6 hb6; have HO6 := Lib.hid (HO.out.mono hb6); have HB6 := Lib.hid (HW.out.trans (hb6.mono HW.out.size)); have d0 := cell_rec hh6 0; have d1 := cell_rec hh6 1; have d2 := cell_rec hh6 2; have d3 := cell_rec hh6 3; simp only [List.getElem?_toArray, List.getElem?_cons_succ, List.getElem?_cons_zero] at d0 d1 d2 d3; clear hh6 hb6))
          | ((with_reducible show wpList _ _ _ (⟨some 30, _, _, _, _, _⟩ :: _) _ _); go_must (refine wpList_pushE TTexts HO6.out rfl rfl name rfl rfl (by have := HDL.out; omega) (by have := HDL.out; omega) HB6.out.size ?_; intro v7 w7 hv7 hg7 hb7; have HO7 := Lib.hid hv7; have HB7 := Lib.hid (HB6.out.trans (below_grownT HO6.out hg7 HB6.out.size)); clear hv7 hg7 hb7)))
        obtain ⟨m7, a7, c7, -, rfl, -, -⟩ := HO7.out.shape
        exact ⟨⟨k + 1, a7, m7, c7, rfl, rfl, by omega, by rw [HN.out]; exact HO7, HB7⟩, by simp [intOf]; omega⟩


      · have HN := Lib.hid (show definedO (syms.take (k + 1)) = definedO (syms.take k) by
          rw [HST.out, HSB.out, if_neg]
          intro h
          simp only [Bool.and_eq_true, Bool.not_eq_true', decide_eq_false_iff_not] at h
          exact hq ⟨h.1.1, h.1.2, h.2⟩)
        have HQ := Lib.hid hq
        clear HST HSB hq
        by_cases q1 : bind = 0
        · have t1 : (bind != 0) = false := by rw [q1]; rfl
          clear q1
          go_wp2_with (first
            | ((with_reducible show wpList _ _ _ (⟨none, .store _ (.tmp 5) _, _, _, _, _⟩ :: _) _ _); go_must (refine wpList_storeNew rfl rfl (by kernel_rfl) rfl (by simp [Value.oneCell']) ?_; intro w6 hh6 hb6; have HO6 := Lib.hid (HO.out.mono hb6); have HB6 := Lib.hid (HW.out.trans (hb6.mono HW.out.size)); have d0 := cell_rec hh6 0; have d1 := cell_rec hh6 1; have d2 := cell_rec hh6 2; have d3 := cell_rec hh6 3; simp only [List.getElem?_toArray, List.getElem?_cons_succ, List.getElem?_cons_zero] at d0 d1 d2 d3; clear hh6 hb6)))
          exact ⟨⟨k + 1, va, vn, vc, rfl, rfl, by omega, by rw [HN.out]; exact HO6, HB6⟩, by simp [intOf]; omega⟩
        have t1 : (bind != 0) = true := bne_iff_ne.2 q1
        by_cases q2 : sec = 0
        · have t2 : (sec != 0) = false := by rw [q2]; rfl
          clear q1 q2
          go_wp2_with (first
            | ((with_reducible show wpList _ _ _ (⟨none, .store _ (.tmp 5) _, _, _, _, _⟩ :: _) _ _); go_must (refine wpList_storeNew rfl rfl (by kernel_rfl) rfl (by simp [Value.oneCell']) ?_; intro w6 hh6 hb6; have HO6 := Lib.hid (HO.out.mono hb6); have HB6 := Lib.hid (HW.out.trans (hb6.mono HW.out.size)); have d0 := cell_rec hh6 0; have d1 := cell_rec hh6 1; have d2 := cell_rec hh6 2; have d3 := cell_rec hh6 3; simp only [List.getElem?_toArray, List.getElem?_cons_succ, List.getElem?_cons_zero] at d0 d1 d2 d3; clear hh6 hb6)))
          exact ⟨⟨k + 1, va, vn, vc, rfl, rfl, by omega, by rw [HN.out]; exact HO6, HB6⟩, by simp [intOf]; omega⟩
        have t2 : (sec != 0) = true := bne_iff_ne.2 q2
        have q3 : name = [] := by
          rcases Classical.em (name = []) with h | h
          · exact h
          · exact absurd ⟨q1, q2, h⟩ HQ.out
        have t3 : (name != []) = false := by rw [q3]; rfl
        have t4 : name.isEmpty = true := by rw [q3]; rfl
        clear q1 q2 q3
        go_wp2_with (first
          | ((with_reducible show wpList _ _ _ (⟨none, .store _ (.tmp 5) _, _, _, _, _⟩ :: _) _ _); go_must (refine wpList_storeNew rfl rfl (by kernel_rfl) rfl (by simp [Value.oneCell']) ?_; intro w6 hh6 hb6; have HO6 := Lib.hid (HO.out.mono hb6); have HB6 := Lib.hid (HW.out.trans (hb6.mono HW.out.size)); have d0 := cell_rec hh6 0; have d1 := cell_rec hh6 1; have d2 := cell_rec hh6 2; have d3 := cell_rec hh6 3; simp only [List.getElem?_toArray, List.getElem?_cons_succ, List.getElem?_cons_zero] at d0 d1 d2 d3; clear hh6 hb6)))
        exact ⟨⟨k + 1, va, vn, vc, rfl, rfl, by omega, by rw [HN.out]; exact HO6, HB6⟩, by simp [intOf]; omega⟩
    · obtain rfl : k = ns := by omega
      have HF : Hid (Ow S 9 wr w1.heap.size (.slice va vn vc) (definedO syms)) := by
        have h1 := HO.out
        rwa [List.take_of_length_le (by have := HNS.out; omega)] at h1
      go_wp2
      go_ret
      exact ⟨⟨va, vn, vc, rfl, HF.out.rebase HB1.out.size⟩, HB.out⟩
set_option maxHeartbeats 4000000 in
set_option maxRecDepth 100000 in
theorem refDefined_any (o : ObjM) (L : List (PartM × Value × Value)) (pv sv : Value) (w : World) (h : ObjAt w o L pv sv) (hl : o.syms.length ≤ 1000) :
    Calls Try.prog 11 #[objV o pv sv] w fun e w' => (∃ a n c, e = .returned (.slice a n c) ∧ Ow S 9 w' w.heap.size (.slice a n c) (definedO o.syms)) ∧ Below w.heap.size w w' := by
  obtain ⟨pn, pa, pc, -, rfl, -, -⟩ := h.rd.shape
  obtain ⟨sa, sc, rfl, hsc, -, hS⟩ := h.syms.open (fun _ => rfl)
  have HS := Lib.hid hS
  obtain ⟨target, parts, syms⟩ := o
  dsimp only at *
  obtain ⟨ns, hns⟩ : ∃ n, n = syms.length := ⟨_, rfl⟩
  rw [← hns] at hl hsc ⊢
  have HNS := Lib.hid hns
  clear hS hns h
  go_enter Try.func11, Try.ntmps11
  go_wp2_with (first
    | ((with_reducible show wpList _ _ _ (⟨some 1, .box _ _, _, _, _, _⟩ :: _) _ _); go_must (refine wpList_box rfl ?_; intro w1 hx1 hb1 hs1; have HX1 := Lib.hid hx1; have HB1 := Lib.hid hb1; have hb1s := hb1.size; obtain ⟨c0, c1, c2⟩ := obj_box hx1; clear hx1 hb1)))
  go_loopw [3, 4] (fun v i wr => ∃ (k : Nat) (va : Option Addr) (vn vc : Nat), v = .slice va vn vc ∧ i = .int .i64 k ∧ k ≤ ns ∧ Hid (Ow S 9 wr w1.heap.size (.slice va vn vc) (definedO (syms.take k))) ∧ Hid (Below w1.heap.size w1 wr)) (fun _ i _ => ns - (intOf i).toNat)
  case atStart => exact ⟨0, none, 0, 0, rfl, rfl, Nat.zero_le _, Ow.nil _ _ _ _, Below.refl _ _⟩
  case round =>
    obtain ⟨k, va, vn, vc, rfl, rfl, hk, HO, HW⟩ := hrel
    have HB := Lib.hid (HB1.out.trans (HW.out.mono HB1.out.size))
    have HXr := Lib.hid (heap_below HW.out HX1.out)
    have hbs := HW.out.size
    obtain ⟨c0, c1, c2⟩ := obj_box HXr.out
    by_cases hlt : k < ns
    · obtain ⟨x, hx⟩ : ∃ x, syms[k]? = some x := ⟨_, List.getElem?_eq_getElem (by have := HNS.out; omega)⟩
      obtain ⟨b, oo, rfl, e0, e1, e2, e3, e4, e5, hb0⟩ := sym_cells HS.out HB.out hx
      have HST := Lib.hid (def_step hx)
      have HDL : Hid ((definedO (syms.take k)).length ≤ 1000) := by
        have h1 := def_len (syms.take k)
        rw [List.length_take] at h1
        unfold Hid
        omega
      have HSB : Hid (seenB x = (!decide (x.bind = 0) && !decide (x.sec = 0) && !decide (x.name = []))) := rfl
      obtain ⟨name, bind, typ, sec, value, size⟩ := x
      dsimp only at *
      generalize seenB ⟨name, bind, typ, sec, value, size⟩ = sb at *
      clear hx
      by_cases hq : bind ≠ 0 ∧ sec ≠ 0 ∧ name ≠ []
      · obtain ⟨q1, q2, q3⟩ := hq
        have t1 : (bind != 0) = true := bne_iff_ne.2 q1
        have t2 : (sec != 0) = true := bne_iff_ne.2 q2
        have t3 : (name != []) = true := bne_iff_ne.2 q3
        have t4 : name.isEmpty = false := by simpa using q3
        have HN := Lib.hid (show definedO (syms.take (k + 1)) = definedO (syms.take k) ++ [name] by rw [HST.out, HSB.out, decide_eq_false q1, decide_eq_false q2, decide_eq_false q3]; rfl)
        clear HST HSB q1 q2 q3
        go_wp2_with (first
          | ((with_reducible show wpList _ _ _ (⟨none, .store _ (.tmp 5) _, _, _, _, _⟩ :: _) _ _); go_must (refine wpList_storeNew rfl rfl (by kernel_rfl) rfl (by simp [Value.oneCell']) ?_; intro w6 hh6 hb6; have HO6 := Lib.hid (HO.out.mono hb6); have HB6 := Lib.hid (HW.out.trans (hb6.mono HW.out.size)); obtain ⟨c0, c1, c2⟩ := obj_box (heap_below hb6 HXr.out); have d0 := cell_rec hh6 0; have d1 := cell_rec hh6 1; have d2 := cell_rec hh6 2; have d3 := cell_rec hh6 3; simp only [List.getElem?_toArray, List.getElem?_cons_succ, List.getElem?_cons_zero] at d0 d1 d2 d3; clear hh6 hb6))
          | ((with_reducible show wpList _ _ _ (⟨some 35, _, _, _, _, _⟩ :: _) _ _); go_must (refine wpList_pushE TTexts HO6.out rfl rfl name rfl rfl (by have := HDL.out; omega) (by have := HDL.out; omega) HB6.out.size ?_; intro v7 w7 hv7 hg7 hb7; have HO7 := Lib.hid hv7; have HB7 := Lib.hid (HB6.out.trans (below_grownT HO6.out hg7 HB6.out.size)); clear hv7 hg7 hb7)))
        obtain ⟨m7, a7, c7, -, rfl, -, -⟩ := HO7.out.shape
        go_roundw
        case rel => exact ⟨k + 1, a7, m7, c7, rfl, by go_num, by omega, by rw [HN.out]; exact HO7, HB7⟩
        case measure => simp [intOf] <;> omega
      · have HN := Lib.hid (show definedO (syms.take (k + 1)) = definedO (syms.take k) by
          rw [HST.out, HSB.out, if_neg]
          intro h
          simp only [Bool.and_eq_true, Bool.not_eq_true', decide_eq_false_iff_not] at h
          exact hq ⟨h.1.1, h.1.2, h.2⟩)
        have HQ := Lib.hid hq
        clear HST HSB hq
        by_cases q1 : bind = 0
        · have t1 : (bind != 0) = false := by rw [q1]; rfl
          clear q1
          go_wp2_with (first
            | ((with_reducible show wpList _ _ _ (⟨none, .store _ (.tmp 5) _, _, _, _, _⟩ :: _) _ _); go_must (refine wpList_storeNew rfl rfl (by kernel_rfl) rfl (by simp [Value.oneCell']) ?_; intro w6 hh6 hb6; have HO6 := Lib.hid (HO.out.mono hb6); have HB6 := Lib.hid (HW.out.trans (hb6.mono HW.out.size)); obtain ⟨c0, c1, c2⟩ := obj_box (heap_below hb6 HXr.out); have d0 := cell_rec hh6 0; have d1 := cell_rec hh6 1; have d2 := cell_rec hh6 2; have d3 := cell_rec hh6 3; simp only [List.getElem?_toArray, List.getElem?_cons_succ, List.getElem?_cons_zero] at d0 d1 d2 d3; clear hh6 hb6)))
          go_roundw
          case rel => exact ⟨k + 1, va, vn, vc, rfl, by go_num, by omega, by rw [HN.out]; exact HO6, HB6⟩
          case measure => simp [intOf] <;> omega
        have t1 : (bind != 0) = true := bne_iff_ne.2 q1
        by_cases q2 : sec = 0
        · have t2 : (sec != 0) = false := by rw [q2]; rfl
          clear q1 q2
          go_wp2_with (first
            | ((with_reducible show wpList _ _ _ (⟨none, .store _ (.tmp 5) _, _, _, _, _⟩ :: _) _ _); go_must (refine wpList_storeNew rfl rfl (by kernel_rfl) rfl (by simp [Value.oneCell']) ?_; intro w6 hh6 hb6; have HO6 := Lib.hid (HO.out.mono hb6); have HB6 := Lib.hid (HW.out.trans (hb6.mono HW.out.size)); obtain ⟨c0, c1, c2⟩ := obj_box (heap_below hb6 HXr.out); have d0 := cell_rec hh6 0; have d1 := cell_rec hh6 1; have d2 := cell_rec hh6 2; have d3 := cell_rec hh6 3; simp only [List.getElem?_toArray, List.getElem?_cons_succ, List.getElem?_cons_zero] at d0 d1 d2 d3; clear hh6 hb6)))
          go_roundw
          case rel => exact ⟨k + 1, va, vn, vc, rfl, by go_num, by omega, by rw [HN.out]; exact HO6, HB6⟩
          case measure => simp [intOf] <;> omega
        have t2 : (sec != 0) = true := bne_iff_ne.2 q2
        have q3 : name = [] := by
          rcases Classical.em (name = []) with h | h
          · exact h
          · exact absurd ⟨q1, q2, h⟩ HQ.out
        have t3 : (name != []) = false := by rw [q3]; rfl
        have t4 : name.isEmpty = true := by rw [q3]; rfl
        clear q1 q2 q3
        go_wp2_with (first
          | ((with_reducible show wpList _ _ _ (⟨none, .store _ (.tmp 5) _, _, _, _, _⟩ :: _) _ _); go_must (refine wpList_storeNew rfl rfl (by kernel_rfl) rfl (by simp [Value.oneCell']) ?_; intro w6 hh6 hb6; have HO6 := Lib.hid (HO.out.mono hb6); have HB6 := Lib.hid (HW.out.trans (hb6.mono HW.out.size)); obtain ⟨c0, c1, c2⟩ := obj_box (heap_below hb6 HXr.out); have d0 := cell_rec hh6 0; have d1 := cell_rec hh6 1; have d2 := cell_rec hh6 2; have d3 := cell_rec hh6 3; simp only [List.getElem?_toArray, List.getElem?_cons_succ, List.getElem?_cons_zero] at d0 d1 d2 d3; clear hh6 hb6)))
        go_roundw
        case rel => exact ⟨k + 1, va, vn, vc, rfl, by go_num, by omega, by rw [HN.out]; exact HO6, HB6⟩
        case measure => simp [intOf] <;> omega
    · obtain rfl : k = ns := by omega
      have HF : Hid (Ow S 9 wr w1.heap.size (.slice va vn vc) (definedO syms)) := by
        have h1 := HO.out
        rwa [List.take_of_length_le (by have := HNS.out; omega)] at h1
      go_wp2
      go_ret
      exact ⟨⟨va, vn, vc, rfl, HF.out.rebase HB1.out.size⟩, HB.out⟩
end Go.Proofs.Ytimnbnomaajmmaa
namespace Go.Proofs.Ytimnbnomaajmmaa
open Go.RowKit Go.Fd
theorem run_allocPart {a : Act} {w : World} {d : Option Tmp} {ty : TypeId} {pos : String} {aft : Array Edge} {g : Option (Nat × Bool)} :
    (execOp a.eval ⟨d, .alloc 43, ty, pos, aft, g⟩).run Try.prog w = .ok (.value (.pointer (some ⟨w.heap.size, 0, none⟩))) (w.alloc (.cells partZ 43)) := by
  kernel_rfl
theorem wpList_allocPart {ops : Array Oper} {rest : List Oper} {Q : Exit → Act → World → Prop} {a : Act} {w : World} {d : Option Tmp} {ty : TypeId} {pos : String} {aft : Array Edge}
    (h : ∀ w1, w1.heap[w.heap.size]? = some (.cells partZ 43 (0, 0)) → Below w.heap.size w w1 → w.heap.size < w1.heap.size → wpList Try.prog ops Q rest (a.put d (.pointer (some ⟨w.heap.size, 0, none⟩))) w1) :
    wpList Try.prog ops Q (⟨d, .alloc 43, ty, pos, aft, none⟩ :: rest) a w :=
  wpList_val rfl run_allocPart (h (w.alloc (.cells partZ 43)) (heap_alloc_last w _) (below_alloc w _) (by rw [World.size_alloc]; omega))
set_option maxHeartbeats 16000000 in
set_option maxRecDepth 100000 in
theorem refSame_eq (o : ObjM) (L M : List (PartM × Value × Value)) (pv sv pu su : Value) (w : World) (h : ObjAt w o L pv sv) (h' : ObjAt w o M pu su) (hl : o.parts.length ≤ 1000000) (hs : o.syms.length ≤ 1000000) (hr : ∀ p ∈ o.parts, p.relas.length ≤ 1000000) :
    Calls Try.prog 14 #[objV o pv sv, objV o pu su] w fun e w' => e = .returned (.bool true) ∧ Below w.heap.size w w' := by
  have HA := Lib.hid h
  have HA' := Lib.hid h'
  obtain ⟨pa, pc, rfl, hpc, -, hP⟩ := h.rd.open (fun _ => rfl)
  obtain ⟨qa, qc, rfl, hqc, -, hQ⟩ := h'.rd.open (fun _ => rfl)
  obtain ⟨sa, sc, rfl, hsc, -, hS⟩ := h.syms.open (fun _ => rfl)
  obtain ⟨ua, uc, rfl, huc, -, hU⟩ := h'.syms.open (fun _ => rfl)
  have HP := Lib.hid hP
  have HQ := Lib.hid hQ
  have HS := Lib.hid hS
  have HU := Lib.hid hU
  have hLn : L.length = o.parts.length := by rw [h.parts, List.length_map]
  have hMn : M.length = o.parts.length := by rw [h'.parts, List.length_map]
  have HLE : Hid (∀ (k : Nat) (p : PartM), o.parts[k]? = some p → ∃ dv rv, L[k]? = some (p, dv, rv)) := Lib.hid (fun k p hk => by
    rw [h.parts, List.getElem?_map, Option.map_eq_some_iff] at hk
    obtain ⟨⟨q, dv, rv⟩, hq, rfl⟩ := hk
    exact ⟨dv, rv, hq⟩)
  have HME : Hid (∀ (k : Nat) (p : PartM), o.parts[k]? = some p → ∃ dv rv, M[k]? = some (p, dv, rv)) := Lib.hid (fun k p hk => by
    rw [h'.parts, List.getElem?_map, Option.map_eq_some_iff] at hk
    obtain ⟨⟨q, dv, rv⟩, hq, rfl⟩ := hk
    exact ⟨dv, rv, hq⟩)
  have HRL := Lib.hid hr
  obtain ⟨target, parts, syms⟩ := o
  dsimp only at *
  rw [hLn] at hpc ⊢
  rw [hMn] at hqc ⊢
  obtain ⟨np, hnp⟩ : ∃ n, n = parts.length := ⟨_, rfl⟩
  obtain ⟨ns, hns⟩ : ∃ n, n = syms.length := ⟨_, rfl⟩
  rw [← hnp] at hpc hqc hl ⊢
  rw [← hns] at hsc huc hs ⊢
  have HNP := Lib.hid hnp
  have HNS := Lib.hid hns
  clear h h' hP hQ hS hU hLn hMn hnp hns hr
  go_enter Try.func14, Try.ntmps14
  go_wp2_with (first
    | ((with_reducible show wpList _ _ _ (⟨some 2, .box _ _, _, _, _, _⟩ :: _) _ _); go_must (refine wpList_box rfl ?_; intro w1 hx1 hb1 hs1; have HX1 := Lib.hid hx1; have HB1 := Lib.hid hb1; clear hx1 hb1))
    | ((with_reducible show wpList _ _ _ (⟨some 3, .box _ _, _, _, _, _⟩ :: _) _ _); go_must (refine wpList_box rfl ?_; intro w2 hx2 hb2 hs2; have HX2 := Lib.hid hx2; have HX12 := Lib.hid (heap_below hb2 HX1.out); have HB2 := Lib.hid (HB1.out.trans (hb2.mono HB1.out.size)); obtain ⟨c0, c1, c2⟩ := obj_box HX12.out; obtain ⟨d0, d1, d2⟩ := obj_box hx2; clear hx2 hb2)))
  clear c0 c1 c2 d0 d1 d2
  go_loopw [5] (fun i wr => ∃ k : Nat, i = .int .i64 k ∧ k ≤ ns ∧ Hid (Below w2.heap.size w2 wr)) (fun i _ => ns - (intOf i).toNat)
  case atStart => exact ⟨0, rfl, Nat.zero_le _, Below.refl _ _⟩
  case round =>
    obtain ⟨k, rfl, hk, HW⟩ := hrel
    have HB := Lib.hid (HB2.out.trans (HW.out.mono HB2.out.size))
    obtain ⟨c0, c1, c2⟩ := obj_box (heap_below HW.out HX12.out)
    obtain ⟨d0, d1, d2⟩ := obj_box (heap_below HW.out HX2.out)
    clear c0 c1 d0 d1
    by_cases hlt : k < ns
    · obtain ⟨x, hx⟩ : ∃ x, syms[k]? = some x := ⟨_, List.getElem?_eq_getElem (by have := HNS.out; omega)⟩
      obtain ⟨b1, o1, rfl, e0, e1, e2, e3, e4, e5, -⟩ := sym_cells HS.out HB.out hx
      obtain ⟨b2, o2, rfl, f0, f1, f2, f3, f4, f5, -⟩ := sym_cells HU.out HB.out hx
      clear hx
      go_wp2
      refine wp_region_quiet_lit (by kernel_rfl) (by kernel_rfl) ?_
      repeat (first
        | ((with_reducible show wpQuiet _ _ _ _ (⟨some 50, _, _, _, _, _⟩ :: _) _); refine wpQuiet_run rfl (by rintro _ ⟨n, rfl⟩; exact run_bin rfl rfl (neq_sym x x _ _ _)) ?_)
        | quiet_step (fail))
      refine wpQuiet_nil ?_
      rintro _ ⟨nq, rfl⟩
      rw [show (!decide (x = x)) = false by simp]
      go_wp2
      go_roundw
      case rel =>
        first
          | exact ⟨k + 1, by go_num, by omega, HW.out.drewN _⟩
          | ((repeat apply Exists.intro); exact ⟨⟨k + 1, by go_num, by omega, HW.out.drewN _⟩, rfl⟩)
      case measure => simp [intOf] <;> omega
    · obtain rfl : k = ns := by omega
      go_wp2
      go_loopw [6] (fun i wr => ∃ k : Nat, i = .int .i64 k ∧ k ≤ np ∧ Hid (Below w2.heap.size w2 wr)) (fun i _ => np - (intOf i).toNat)
      case atStart => exact ⟨0, rfl, Nat.zero_le _, HW.out⟩
      case round =>
        obtain ⟨j, rfl, hj, HWj⟩ := hrel
        have HBj := Lib.hid (HB2.out.trans (HWj.out.mono HB2.out.size))
        obtain ⟨c0, c1, c2⟩ := obj_box (heap_below HWj.out HX12.out)
        obtain ⟨d0, d1, d2⟩ := obj_box (heap_below HWj.out HX2.out)
        clear c0 c2 d0 d2
        by_cases hlt2 : j < np
        · obtain ⟨p, hp⟩ : ∃ p, parts[j]? = some p := ⟨_, List.getElem?_eq_getElem (by have := HNP.out; omega)⟩
          obtain ⟨dv, rv, hx1⟩ := HLE.out j p hp
          obtain ⟨du, ru, hx2⟩ := HME.out j p hp
          have HDV := Lib.hid (HA.out.data _ (List.mem_of_getElem? hx1))
          have HDU := Lib.hid (HA'.out.data _ (List.mem_of_getElem? hx2))
          obtain ⟨m9, p9, r9, hm9, rfl, -, -⟩ := HDV.out.shape
          obtain ⟨m8, p8, r8, hm8, rfl, -, -⟩ := HDU.out.shape
          have hmm : m8 = m9 := hm8.out.trans hm9.out.symm
          subst hmm
          obtain ⟨ra, rc, hrv, hrc, -, hR⟩ := (HA.out.rela _ (List.mem_of_getElem? hx1)).open (fun _ => rfl)
          obtain ⟨ta, tc, htv, htc, -, hT⟩ := (HA'.out.rela _ (List.mem_of_getElem? hx2)).open (fun _ => rfl)
          dsimp only at hrv htv
          subst hrv htv
          have HR := Lib.hid hR
          have HT := Lib.hid hT
          have hmr9 := HRL.out p (List.mem_of_getElem? hp)
          obtain ⟨b1, o1, rfl, e0, e1, e2, e3, e4, e5, -⟩ := part_cells HP.out HBj.out hx1
          obtain ⟨b2, o2, rfl, f0, f1, f2, f3, f4, f5, -⟩ := part_cells HQ.out HBj.out hx2
          obtain ⟨name, flags, align, size, data, relas⟩ := p
          dsimp only at *
          obtain ⟨mr, hmr⟩ : ∃ n, n = relas.length := ⟨_, rfl⟩
          rw [← hmr] at hrc htc hmr9 e5 f5
          have HMR := Lib.hid hmr
          clear hx1 hx2 hp hR hT hmr hm9 hm8
          have hAB := fun (x : Above wr) (b k : Nat) (h : b < wr.heap.size) => Above.cell x b k h
          have n1 := block_lt c1
          have n2 := block_lt d1
          have n3 := block_lt e0
          have n4 := block_lt f0
          go_upto_region 11 with (fail)
          go_cut [7, 8] from 58 to 67 (fun s7 s8 wx => ∃ g7 g8 : Nat, s7 = .pointer (some ⟨g7, 0, none⟩) ∧ s8 = .pointer (some ⟨g8, 0, none⟩) ∧ Hid (wx.heap[g7]? = some (.cells #[.string ⟨name.toArray⟩, .string ⟨flags.toArray⟩, .int .i64 align, .int .i64 size, .slice p9 m8 r9, .slice ra mr rc] 43 (0, 0))) ∧ Hid (wx.heap[g8]? = some (.cells #[.string ⟨name.toArray⟩, .string ⟨flags.toArray⟩, .int .i64 align, .int .i64 size, .slice p8 m8 r8, .slice ta mr tc] 43 (0, 0))) ∧ Hid (Below wr.heap.size wr wx))
          case first =>
            rename_i J1 K1 hJ1 hK1
            refine wp_region_held (S := SAb wr) (by kernel_rfl) ?_
            change wpAnyH _ _ _ _ _ 14 _ _ _
            have hb0 : Below wr.heap.size wr { wr with drawn := wr.drawn + 1 } := (Below.refl _ _).drew
            refine held_quiet (i := 0) (w0 := wr) rfl (by kernel_rfl) rfl rfl (fun _ _ _ _ h => h) hb0 ?_
            intro K hK
            go_big_quiet_op
            go_big_quiet_on
            refine held_quiet (i := 1) (w0 := wr) rfl (by kernel_rfl) rfl rfl (fun _ _ _ _ h => h) hb0 ?_
            intro K hK
            go_big_quiet_op
            go_big_quiet_on
            refine held_quiet (i := 2) (w0 := wr) rfl (by kernel_rfl) rfl rfl (fun _ _ _ _ h => h) hb0 ?_
            intro K hK
            go_big_quiet_op
            go_big_quiet_on
            refine held_quiet (i := 3) (w0 := wr) rfl (by kernel_rfl) rfl rfl (fun _ _ _ _ h => h) hb0 ?_
            intro K hK
            go_big_quiet_op
            go_big_quiet_on
            refine held_quiet (i := 4) (w0 := wr) rfl (by kernel_rfl) rfl rfl (fun _ _ _ _ h => h) hb0 ?_
            intro K hK
            go_big_quiet_op
            go_big_quiet_on
            refine held_quiet (i := 5) (w0 := wr) rfl (by kernel_rfl) rfl rfl (fun _ _ _ _ h => h) hb0 ?_
            intro K hK
            go_big_quiet_op
            go_big_quiet_on
            refine held_quiet (i := 6) (w0 := wr) rfl (by kernel_rfl) rfl rfl (fun _ _ _ _ h => h) hb0 ?_
            intro K hK
            go_big_quiet_op
            go_big_quiet_on
            refine held_quiet (i := 7) (w0 := wr) rfl (by kernel_rfl) rfl rfl (fun _ _ _ _ h => h) hb0 ?_
            intro K hK
            go_big_quiet_op
            go_big_quiet_on
            refine held_quiet (i := 8) (w0 := wr) rfl (by kernel_rfl) rfl rfl (fun _ _ _ _ h => h) hb0 ?_
            intro K hK
            go_big_quiet_op
            go_big_quiet_on
            refine held_quiet (i := 9) (w0 := wr) rfl (by kernel_rfl) rfl rfl (fun _ _ _ _ h => h) hb0 ?_
            intro K hK
            go_big_quiet_op
            go_big_quiet_on
            clear hAB
            refine wpAnyH_all (rs := [10, 11]) (by kernel_rfl) (by simp) ?_
            intro i hi
            simp only [List.mem_cons, List.not_mem_nil, or_false] at hi
            rcases hi with hi | hi
            · subst hi
              refine wpOp_of_list (i := 10) rfl ?_
              refine wpList_allocPart ?_
              intro wa hxa hba hsa
              refine ⟨hb0.trans (hba.mono hb0.size), ?_⟩
              refine wpAnyH_all (rs := [11]) (by kernel_rfl) (by simp) ?_
              intro i hi
              rw [List.mem_singleton] at hi
              subst hi
              refine wpOp_of_list (i := 11) rfl ?_
              refine wpList_allocPart ?_
              intro wb hxb hbb hsb
              have HAB0 := Lib.hid (hb0.trans ((hba.mono hb0.size).trans (hbb.mono (Nat.le_trans hb0.size hba.size))))
              refine ⟨HAB0.out, ?_⟩
              have HB7 := Lib.hid (heap_below hbb hxa)
              have HB8 := Lib.hid hxb
              have hge7 : wr.heap.size ≤ wr.heap.size := hb0.size
              have hge8 : wr.heap.size ≤ wa.heap.size := Nat.le_trans hb0.size hba.size
              have hne : ({ wr with drawn := wr.drawn + 1 } : World).heap.size < wa.heap.size := hsa
              clear hxa hxb hba hbb
              refine wpAnyH_all (rs := [12]) (by kernel_rfl) (by simp) ?_
              intro i hi
              rw [List.mem_singleton] at hi
              subst hi
              refine wpOp_of_list (i := 12) rfl ?_
              refine wpList_storeRowS HB7.out rfl rfl rfl (by kernel_rfl) (by simp [Value.oneCell']) ?_
              intro wc hhc hsc
              have HC7 := Lib.hid hhc
              have HC8 := Lib.hid (hsc.kept HB8.out (Nat.ne_of_gt hne))
              have HSC0 := Lib.hid (HAB0.out.trans (hsc.below HAB0.out.size (fun j hj => by rw [hj]; exact hge7)))
              refine ⟨HSC0.out, ?_⟩
              clear hhc hsc
              refine wpAnyH_all (rs := [13]) (by kernel_rfl) (by simp) ?_
              intro i hi
              rw [List.mem_singleton] at hi
              subst hi
              refine wpOp_of_list (i := 13) rfl ?_
              refine wpList_storeRowS HC8.out rfl rfl rfl (by kernel_rfl) (by simp [Value.oneCell']) ?_
              intro wy hhy hsy
              have HY8 := Lib.hid hhy
              have HY7 := Lib.hid (hsy.kept HC7.out (Nat.ne_of_lt hne))
              have HSY := Lib.hid (HSC0.out.trans (hsy.below HSC0.out.size (fun j hj => by rw [hj]; exact hge8)))
              refine ⟨HSY.out, ?_⟩
              clear hhy hsy hsa hsb
              refine wpAnyH_done (by kernel_rfl) ?_ _
              go_frame
              first
                | refine hK1 _ _ (Met.intro (hJ1 _ _ ?_))
                | refine Met.intro (hJ1 _ _ ?_)
              repeat apply Exists.intro
              refine ⟨?_, rfl⟩
              exact ⟨_, _, rfl, rfl, HY7, HY8, HSY⟩
            · subst hi
              refine wpOp_of_list (i := 11) rfl ?_
              refine wpList_allocPart ?_
              intro wa hxa hba hsa
              refine ⟨hb0.trans (hba.mono hb0.size), ?_⟩
              refine wpAnyH_all (rs := [10]) (by kernel_rfl) (by simp) ?_
              intro i hi
              rw [List.mem_singleton] at hi
              subst hi
              refine wpOp_of_list (i := 10) rfl ?_
              refine wpList_allocPart ?_
              intro wb hxb hbb hsb
              have HAB0 := Lib.hid (hb0.trans ((hba.mono hb0.size).trans (hbb.mono (Nat.le_trans hb0.size hba.size))))
              refine ⟨HAB0.out, ?_⟩
              have HB8 := Lib.hid (heap_below hbb hxa)
              have HB7 := Lib.hid hxb
              have hge8 : wr.heap.size ≤ wr.heap.size := hb0.size
              have hge7 : wr.heap.size ≤ wa.heap.size := Nat.le_trans hb0.size hba.size
              have hne : ({ wr with drawn := wr.drawn + 1 } : World).heap.size < wa.heap.size := hsa
              clear hxa hxb hba hbb
              refine wpAnyH_all (rs := [12]) (by kernel_rfl) (by simp) ?_
              intro i hi
              rw [List.mem_singleton] at hi
              subst hi
              refine wpOp_of_list (i := 12) rfl ?_
              refine wpList_storeRowS HB7.out rfl rfl rfl (by kernel_rfl) (by simp [Value.oneCell']) ?_
              intro wc hhc hsc
              have HC7 := Lib.hid hhc
              have HC8 := Lib.hid (hsc.kept HB8.out (Nat.ne_of_lt hne))
              have HSC0 := Lib.hid (HAB0.out.trans (hsc.below HAB0.out.size (fun j hj => by rw [hj]; exact hge7)))
              refine ⟨HSC0.out, ?_⟩
              clear hhc hsc
              refine wpAnyH_all (rs := [13]) (by kernel_rfl) (by simp) ?_
              intro i hi
              rw [List.mem_singleton] at hi
              subst hi
              refine wpOp_of_list (i := 13) rfl ?_
              refine wpList_storeRowS HC8.out rfl rfl rfl (by kernel_rfl) (by simp [Value.oneCell']) ?_
              intro wy hhy hsy
              have HY8 := Lib.hid hhy
              have HY7 := Lib.hid (hsy.kept HC7.out (Nat.ne_of_gt hne))
              have HSY := Lib.hid (HSC0.out.trans (hsy.below HSC0.out.size (fun j hj => by rw [hj]; exact hge8)))
              refine ⟨HSY.out, ?_⟩
              clear hhy hsy hsa hsb
              refine wpAnyH_done (by kernel_rfl) ?_ _
              go_frame
              first
                | refine hK1 _ _ (Met.intro (hJ1 _ _ ?_))
                | refine Met.intro (hJ1 _ _ ?_)
              repeat apply Exists.intro
              refine ⟨?_, rfl⟩
              exact ⟨_, _, rfl, rfl, HY7, HY8, HSY⟩
          case rest =>
            obtain ⟨g7, g8, rfl, rfl, HY7, HY8, HSY⟩ := hcut
            obtain ⟨wy, rfl⟩ : ∃ wy : World, wy = wc := ⟨_, rfl⟩
            have HWY := Lib.hid (HWj.out.trans (HSY.out.mono HWj.out.size))
            have HBY := Lib.hid (HBj.out.trans (HSY.out.mono HBj.out.size))
            have hk1 := run_str (HDV.out.mono HBY.out)
            have hk2 := run_str (HDU.out.mono HBY.out)
            clear hAB c1 d1 e0 e1 e2 e3 e4 e5 f0 f1 f2 f3 f4 f5 n1 n2 n3 n4
            obtain ⟨c0, c1, c2, c3, c4, c5⟩ := part_box (x := (⟨name, flags, align, size, data, relas⟩, .slice p9 m8 r9, .slice ra mr rc)) HY7.out
            obtain ⟨d0, d1, d2, d3, d4, d5⟩ := part_box (x := (⟨name, flags, align, size, data, relas⟩, .slice p8 m8 r8, .slice ta mr tc)) HY8.out
            dsimp only at c0 c1 c2 c3 c4 c5 d0 d1 d2 d3 d4 d5 hk1 hk2
            go_wp2
            clear c0 c1 c2 c3 c4 d0 d1 d2 d3 d4 hk1 hk2
            go_loopw [9] (fun i wr => ∃ k : Nat, i = .int .i64 k ∧ k ≤ mr ∧ Hid (Below wy.heap.size wy wr)) (fun i _ => mr - (intOf i).toNat)
            case atStart => exact ⟨0, rfl, Nat.zero_le _, Below.refl _ _⟩
            case round =>
              obtain ⟨q, rfl, hq, HWq⟩ := hrel
              have HBq := Lib.hid (HBY.out.trans (HWq.out.mono HBY.out.size))
              obtain ⟨c0, c1, c2, c3, c4, c5⟩ := part_box (x := (⟨name, flags, align, size, data, relas⟩, .slice p9 m8 r9, .slice ra mr rc)) (heap_below HWq.out HY7.out)
              obtain ⟨d0, d1, d2, d3, d4, d5⟩ := part_box (x := (⟨name, flags, align, size, data, relas⟩, .slice p8 m8 r8, .slice ta mr tc)) (heap_below HWq.out HY8.out)
              clear c0 c1 c2 c3 c4 d0 d1 d2 d3 d4
              dsimp only at c5 d5
              by_cases hlt3 : q < mr
              · obtain ⟨x, hx⟩ : ∃ x, relas[q]? = some x := ⟨_, List.getElem?_eq_getElem (by have := HMR.out; omega)⟩
                obtain ⟨b1, o1, rfl, e0, e1, e2, e3, -⟩ := rela_cells HR.out HBq.out hx
                obtain ⟨b2, o2, rfl, f0, f1, f2, f3, -⟩ := rela_cells HT.out HBq.out hx
                clear hx
                go_wp2
                refine wp_region_quiet_lit (by kernel_rfl) (by kernel_rfl) ?_
                repeat (first
                  | ((with_reducible show wpQuiet _ _ _ _ (⟨some 129, _, _, _, _, _⟩ :: _) _); refine wpQuiet_run rfl (by rintro _ ⟨n, rfl⟩; exact run_bin rfl rfl (neq_rela x x _ _ _)) ?_)
                  | quiet_step (fail))
                refine wpQuiet_nil ?_
                rintro _ ⟨nq, rfl⟩
                rw [show (!decide (x = x)) = false by simp]
                go_wp2
                go_roundw
                case rel =>
                  first
                    | exact ⟨q + 1, by go_num, by omega, HWq.out.drewN _⟩
                    | ((repeat apply Exists.intro); exact ⟨⟨q + 1, by go_num, by omega, HWq.out.drewN _⟩, rfl⟩)
                case measure => simp [intOf] <;> omega
              · obtain rfl : q = mr := by omega
                go_wp2
                go_roundw
                case rel => exact ⟨j + 1, by go_num, by omega, HWY.out.trans (HWq.out.mono HWY.out.size)⟩
                case measure => simp [intOf] <;> omega
        · obtain rfl : j = np := by omega
          go_wp2
          go_ret
          exact ⟨rfl, HBj.out⟩
end Go.Proofs.Ytimnbnomaajmmaa
namespace Go.Proofs.Ytimnbnomaajmmaa
open Go.RowKit Go.Fd
def psum (l : List PartM) : Nat := (l.map fun p => p.data.length + 24 * p.relas.length).sum
theorem psum_step {l : List PartM} {k : Nat} {x : PartM} (h : l[k]? = some x) : psum (l.take (k + 1)) = psum (l.take k) + (x.data.length + 24 * x.relas.length) := by
  rw [List.take_add_one, h]
  unfold psum
  simp
theorem psum_take (l : List PartM) (k : Nat) : psum (l.take k) ≤ psum l := by
  conv => rhs; rw [← List.take_append_drop k l]
  unfold psum
  rw [List.map_append, List.sum_append]
  omega
theorem psum_mem {l : List PartM} {p : PartM} (h : p ∈ l) : p.data.length + 24 * p.relas.length ≤ psum l := by
  induction l with
  | nil => cases h
  | cons x l ih =>
    unfold psum at *
    rw [List.map_cons, List.sum_cons]
    rcases List.mem_cons.1 h with rfl | h
    · omega
    · have := ih h; omega
def lightO (o : ObjM) : Bool := decide (psum o.parts ≤ 8192) && decide (o.parts.length ≤ 120) && decide (o.syms.length ≤ 300)
set_option maxHeartbeats 4000000 in
set_option maxRecDepth 100000 in
theorem light17_any (o : ObjM) (L : List (PartM × Value × Value)) (pv sv : Value) (w : World) (h : ObjAt w o L pv sv) (hp : o.parts.length ≤ 1000000000) (hs : psum o.parts ≤ 1000000000) :
    Calls Try.prog 6 #[objV o pv sv] w fun e w' => e = .returned (.bool (lightO o)) ∧ Below w.heap.size w w' := by
  have HH := Lib.hid h
  obtain ⟨pa, pc, rfl, hpc, -, hP⟩ := h.rd.open (fun _ => rfl)
  obtain ⟨sn, sa, sc, hsn, rfl, -, -⟩ := h.syms.shape
  have HP := Lib.hid hP
  have hLn : L.length = o.parts.length := by rw [h.parts, List.length_map]
  have HLP := Lib.hid h.parts
  obtain ⟨target, parts, syms⟩ := o
  dsimp only at *
  rw [hLn] at hpc ⊢
  obtain ⟨np, hnp⟩ : ∃ n, n = parts.length := ⟨_, rfl⟩
  rw [← hnp] at hpc hp hLn ⊢
  have HNP := Lib.hid hnp
  have HLN := Lib.hid hLn
  have HPS := Lib.hid hs
  have HLB : Hid (lightO ⟨target, parts, syms⟩ = (decide (psum parts ≤ 8192) && decide (np ≤ 120) && decide (sn ≤ 300))) := by
    unfold lightO
    rw [hnp, hsn.out]
    rfl
  generalize lightO ⟨target, parts, syms⟩ = q at *
  clear h hP hLn hnp hs
  go_enter Try.func6, Try.ntmps6
  go_wp2_with (first
    | ((with_reducible show wpList _ _ _ (⟨some 1, .box _ _, _, _, _, _⟩ :: _) _ _); go_must (refine wpList_box rfl ?_; intro w1 hx1 hb1 hs1; have HX1 := Lib.hid hx1; have HB1 := Lib.hid hb1; obtain ⟨c0, c1, c2⟩ := obj_box hx1; clear hx1 hb1)))
  clear c0 c1 c2
  go_loopw [3, 4] (fun x i wr => ∃ k : Nat, x = .int .i64 ((psum (parts.take k) : Nat) : Int) ∧ i = .int .i64 k ∧ k ≤ np ∧ Hid (Below w1.heap.size w1 wr)) (fun _ i _ => np - (intOf i).toNat)
  case atStart => exact ⟨0, by rw [List.take_zero]; rfl, rfl, Nat.zero_le _, Below.refl _ _⟩
  case round =>
    obtain ⟨k, rfl, rfl, hk, HW⟩ := hrel
    have HB := Lib.hid (HB1.out.trans (HW.out.mono HB1.out.size))
    have HXr := Lib.hid (heap_below HW.out HX1.out)
    obtain ⟨c0, c1, c2⟩ := obj_box HXr.out
    have hk9 := psum_take parts k
    by_cases hlt : k < np
    · obtain ⟨x, hx⟩ : ∃ x, L[k]? = some x := ⟨_, List.getElem?_eq_getElem (by have := HLN.out; omega)⟩
      obtain ⟨b, o, rfl, e0, e1, e2, e3, e4, e5, hb0⟩ := part_cells HP.out HB.out hx
      have hxp : parts[k]? = some x.1 := by rw [HLP.out, List.getElem?_map, hx]; rfl
      have HST := Lib.hid (psum_step hxp)
      have hk8 := psum_take parts (k + 1)
      obtain ⟨md, ad, cd, hmd, hdv, -, -⟩ := (HH.out.data x (List.mem_of_getElem? hx)).shape
      obtain ⟨mr, ar, cr, hmr, hrv, -, -⟩ := (HH.out.rela x (List.mem_of_getElem? hx)).shape
      obtain ⟨⟨name, flags, align, size, data, relas⟩, dv, rv⟩ := x
      dsimp only at *
      subst hdv hrv
      have HST2 := Lib.hid (show psum (parts.take (k + 1)) = psum (parts.take k) + (md + 24 * mr) by rw [HST.out, hmd.out, hmr.out])
      have hb1 : psum (parts.take k) + (md + 24 * mr) ≤ 1000000000 := by rw [← HST2.out]; exact Nat.le_trans hk8 HPS.out
      clear hx hxp HST hk8 hk9
      generalize psum (parts.take k) = ps at *
      go_wp2
      go_quiet (fail)
      have HWd := Lib.hid (HW.out.trans ((below_drewN (Below.refl _ wr) nq).mono HW.out.size))
      generalize wr.drewN nq = wd at *
      go_wp2
      go_roundw
      case rel => exact ⟨k + 1, (int_eq (by rw [HST2.out]; omega)), by go_num, by omega, HWd.out⟩
      case measure => simp [intOf] <;> omega
    · obtain rfl : k = np := by omega
      have HT : Hid (parts.take k = parts) := List.take_of_length_le (by have := HNP.out; omega)
      rw [HT.out]
      generalize psum parts = ps at *
      go_wp2
      all_goals go_ret
      all_goals refine ⟨?_, HB.out⟩
      all_goals rw [HLB.out]
      all_goals refine ret1 (bool_eq ?_)
      all_goals rw [Bool.eq_iff_iff]
      all_goals simp
      all_goals omega
end Go.Proofs.Ytimnbnomaajmmaa
namespace Go.Proofs.Ytimnbnomaajmmaa
open Go.RowKit Go.Fd
/-- 'append(v, x...)' by its run. -/
theorem run_catR {P : Program} {w : World} {t ty e size bytes : Nat} (T : SliceT P t e size bytes) {v u : Value} {base n m : Nat} {xs ys : List Value} (hown : w.ownsRow base e size v n xs) (hy : Reads w size u m ys) (h1 : ys.all (·.oneCell') = true) (hn : (n + m) * bytes ≤ 140737488355328) (hm : n + m ≤ 140737488355328) (hb : base ≤ w.heap.size) :
    ∃ v' w', (Builtin.append_ #[t, t] ty #[v, u]).run P w = .ok v' w' ∧ w'.ownsRow base e size v' (n + m) (xs ++ ys) ∧ w.grownBy w' v.ownBlock := by
  obtain ⟨i, z, h1', h2, h3, h4, h5⟩ := T.info
  obtain ⟨hl, au, cap, rfl, hcap, h00, hc⟩ := hy
  rcases au with _ | ad
  · have hm0 : m * size = 0 := by
      rcases Nat.eq_zero_or_pos (m * size) with h0 | h0
      · exact h0
      · obtain ⟨b, off, h', _⟩ := hc 0 (by omega); cases h'
    have hys : ys = [] := List.eq_nil_of_length_eq_zero (by omega)
    subst hys
    have hm0' : m = 0 := by
      have := T.pos
      rcases Nat.mul_eq_zero.1 hm0 with h | h <;> omega
    subst hm0'
    obtain rfl := h00 rfl
    refine ⟨v, w, run_append_owned_none (w := w) base t ty e i size T.ht h1' v n xs hown, ?_, World.grownBy.refl _ _⟩
    rw [List.append_nil]
    exact hown
  · obtain ⟨v', w', hrun, h6, h7, -⟩ := run_append_own (w := w) base t ty e i z size bytes T.ht h1' h2 h3 h4 h5 T.pos v n xs hown ad m cap ys hl (fun j y hj => by
      have hlt : j < ys.length := (List.getElem?_eq_some_iff.1 hj).1
      obtain ⟨b, off, e1, e2⟩ := hc j hlt
      cases e1
      have e3 : (⟨b, off, none⟩ : Addr).add j = ⟨b, off + j, none⟩ := by unfold Addr.add; split <;> simp_all
      rw [e3, e2, hj]) (oneCell_list h1) (maxLen_of hm) hn hb
    exact ⟨v', w', hrun, h6, h7⟩
theorem TSymS : SliceT Try.prog 23 46 6 56 := SliceT.mk' (z := .agg #[.string ⟨#[]⟩, .int .i64 0, .int .i64 0, .int .i64 0, .int .u64 0, .int .u64 0]) (by kernel_rfl) (by kernel_rfl) rfl (by omega)
theorem TRelaS : SliceT Try.prog 41 65 4 32 := SliceT.mk' (z := .agg #[.int .u64 0, .int .i64 0, .int .i64 0, .int .i64 0]) (by kernel_rfl) (by kernel_rfl) rfl (by omega)
theorem oneSym (l : List SymM) : (l.flatMap encSym).all (·.oneCell') = true := by
  rw [List.all_eq_true]
  intro x hx
  obtain ⟨p, hp, hx⟩ := List.mem_flatMap.1 hx
  simp only [encSym, List.mem_cons, List.not_mem_nil, or_false] at hx
  rcases hx with rfl | rfl | rfl | rfl | rfl | rfl <;> rfl
theorem oneRela (l : List RelaM) : (l.flatMap encRela).all (·.oneCell') = true := by
  rw [List.all_eq_true]
  intro x hx
  obtain ⟨p, hp, hx⟩ := List.mem_flatMap.1 hx
  simp only [encRela, List.mem_cons, List.not_mem_nil, or_false] at hx
  rcases hx with rfl | rfl | rfl | rfl <;> rfl
theorem exec_append {P : Program} {w w' : World} {a : Act} {d : Option Tmp} {t ty : TypeId} {pos : String} {aft : Array Edge} {g : Option (Nat × Bool)} {s x : Operand} {v u v' : Value} (hrun : (Builtin.append_ #[t, t] ty #[v, u]).run P w = .ok v' w') (hs : a.eval s = v) (hx : a.eval x = u) :
    (execOp a.eval ⟨d, .call { callee := .builtin .append, args := #[s, x], argTypes := #[t, t] }, ty, pos, aft, g⟩).run P w = .ok (.value v') w' := by
  simp [execOp, resolve, invoke, builtin, hs, hx, hrun, Result.andThen]
/-- Symbols of its own, in a region. -/
def YSyO (B : Nat) (l : List SymM) : Yld := ⟨Option Addr × Nat × Nat, (none, 0, 0), fun q => .slice q.1 q.2.1 q.2.2, fun q w => OwR 6 encSym 46 w B (.slice q.1 q.2.1 q.2.2) l, fun _ _ _ h hb => h.mono hb⟩
theorem YSyO_got {B : Nat} {l : List SymM} {a : Option Addr} {n c : Nat} {w : World} (h : (YSyO B l).R (.slice a n c) w) : OwR 6 encSym 46 w B (.slice a n c) l := by
  obtain ⟨⟨a', n', c'⟩, e, h⟩ := h
  have e' : Value.slice a n c = .slice a' n' c' := e
  rw [e']
  exact h
theorem wp_catSyms {B : Nat} {l : List SymM} {u : Value} {Up : Exit → Prop} {a : Act} {w : World} {d : Option Tmp} {ty : TypeId} {pos : String} {aft : Array Edge} {g : Option (Nat × Bool)} {s x : Operand} (hs : a.eval s = .slice none 0 0) (hx : a.eval x = u) (hu : RdR 6 encSym w u l) (hl : l.length ≤ 1000000) (hB : B ≤ w.heap.size) :
    WpYld Try.prog Up ⟨d, .call { callee := .builtin .append, args := #[s, x], argTypes := #[23, 23] }, ty, pos, aft, g⟩ a (YSyO B l) w := by
  obtain ⟨v', w', hrun, h1, h2⟩ := run_catR (ty := ty) TSymS (World.ownsRow_nil w w.heap.size 46 6) hu (oneSym l) (by omega) (by omega) (Nat.le_refl _)
  rw [Nat.zero_add, List.nil_append] at h1
  obtain ⟨n, a', c, -, rfl, -, -⟩ := (show OwR 6 encSym 46 w' w.heap.size v' l from h1).shape
  exact WpYld.val (exec_append hrun hs hx) ⟨(a', n, c), rfl, OwR.rebase h1 hB⟩ (below_of_grown h2 (Nat.le_refl _) fun k hk => by cases hk)
/-- While a module is copied: the copy stands in block g, the result's block is r, the module is in block b. -/
structure CopInv (w wr : World) (g r b : Nat) (bx : Array Value) (tg : Int) (pc sv : Value) (T : List (PartM × Value × Value)) (Y : List SymM) : Prop where
  blk : wr.heap[g]? = some (.cells #[.int .i64 tg, pc, sv] 25 (0, 0))
  res : wr.heap[r]? = some (.cells objZ 25 (0, 0))
  box : wr.heap[b]? = some (.cells bx 25 (0, 0))
  po : OwR 6 encPart 43 wr w.heap.size pc T
  so : OwR 6 encSym 46 wr w.heap.size sv Y
  data : ∀ p ∈ T, Twined wr w.heap.size p.2.1 p.1.data
  rela : ∀ p ∈ T, OwR 4 encRela 65 wr w.heap.size p.2.2 p.1.relas
  below : Below w.heap.size w wr
  hg : w.heap.size ≤ g
  hr : w.heap.size ≤ r
  ne : r ≠ g
  nb : b ≠ g
  nr : b ≠ r
theorem CopInv.mono {w wr w' : World} {g r b : Nat} {bx : Array Value} {tg : Int} {pc sv : Value} {T : List (PartM × Value × Value)} {Y : List SymM} (h : CopInv w wr g r b bx tg pc sv T Y) (hb : Below wr.heap.size wr w') : CopInv w w' g r b bx tg pc sv T Y :=
  ⟨heap_below hb h.blk, heap_below hb h.res, heap_below hb h.box, h.po.mono hb, h.so.mono hb, fun p hp => (h.data p hp).mono hb, fun p hp => (h.rela p hp).mono hb, h.below.trans (hb.mono h.below.size), h.hg, h.hr, h.ne, h.nb, h.nr⟩
theorem Twined.turn {w w' : World} {base : Nat} {t : Value} {l : List UInt8} (h : Twined w base t l) (hk : ∀ v, OB w base v (l ++ [0x5a]) → OB w' base v (l ++ [0x5a])) : Twined w' base t l := by
  obtain ⟨g, cap, h1, h2, h3, h4⟩ := h
  exact ⟨g, cap, h1, h2, h3, hk _ h4⟩
theorem CopInv.push {w wr w1 w2 : World} {g r b : Nat} {bx : Array Value} {tg : Int} {pc pc' sv : Value} {T : List (PartM × Value × Value)} {Y : List SymM} {x : PartM × Value × Value} (h : CopInv w wr g r b bx tg pc sv T Y) (ho : OwR 6 encPart 43 w1 w.heap.size pc' (T ++ [x])) (hgr : wr.grownBy w1 pc.ownBlock) (hd : Twined wr w.heap.size x.2.1 x.1.data) (hr : OwR 4 encRela 65 wr w.heap.size x.2.2 x.1.relas)
    (hb : w2.heap[g]? = some (.cells (#[.int .i64 tg, pc, sv].setIfInBounds 1 pc') 25 (0, 0))) (hs : Stirs (fun k => k = g) w1 w2) : CopInv w w2 g r b bx tg pc' sv (T ++ [x]) Y := by
  have hk := keeps_own h.po hgr
  have hB : Below w.heap.size w w1 := h.below.trans (below_of_grown hgr h.below.size fun k hk => (World.ownsRow.lt h.po k hk).1)
  have hblk := hk _ _ _ _ (show 25 ≠ 43 by decide) h.blk
  have hres := hk _ _ _ _ (show 25 ≠ 43 by decide) h.res
  have hbox := hk _ _ _ _ (show 25 ≠ 43 by decide) h.box
  have hso := owns_grown h.so hgr (fun k hk hk2 => Go.Fd.own_apart h.so h.po (by decide) hk hk2)
  refine ⟨hb, hs.kept hres h.ne, hs.kept hbox h.nb, owns_stirs ho hs (own_ne ho hblk (by decide)), owns_stirs hso hs (own_ne hso hblk (by decide)), fun p hp => ?_, fun p hp => ?_, hB.trans (hs.below hB.size fun k hk => by rw [hk]; exact h.hg), h.hg, h.hr, h.ne, h.nb, h.nr⟩
  · have h0 : Twined wr w.heap.size p.2.1 p.1.data := by
      rcases List.mem_append.1 hp with hp | hp
      · exact h.data p hp
      · rw [List.mem_singleton] at hp; rw [hp]; exact hd
    refine h0.turn fun v hv => ?_
    have h1 := owns_grown hv hgr (fun k hk hk2 => Go.Fd.own_apart hv h.po (by decide) hk hk2)
    exact owns_stirs h1 hs (own_ne h1 hblk (by decide))
  · have h0 : OwR 4 encRela 65 wr w.heap.size p.2.2 p.1.relas := by
      rcases List.mem_append.1 hp with hp | hp
      · exact h.rela p hp
      · rw [List.mem_singleton] at hp; rw [hp]; exact hr
    have h1 := owns_grown h0 hgr (fun k hk hk2 => Go.Fd.own_apart h0 h.po (by decide) hk hk2)
    exact owns_stirs h1 hs (own_ne h1 hblk (by decide))
theorem CopInv.stir {w wr w2 : World} {g r b : Nat} {bx : Array Value} {tg : Int} {pc sv : Value} {T : List (PartM × Value × Value)} {Y : List SymM} (h : CopInv w wr g r b bx tg pc sv T Y) (hs : Stirs (fun k => k = r) wr w2) :
    RdR 6 encPart w2 pc T ∧ RdR 6 encSym w2 sv Y ∧ (∀ p ∈ T, Bs w2 p.2.1 p.1.data) ∧ ∀ p ∈ T, RdR 4 encRela w2 p.2.2 p.1.relas :=
  ⟨OwR.rd (owns_stirs h.po hs (own_ne h.po h.res (by decide))), OwR.rd (owns_stirs h.so hs (own_ne h.so h.res (by decide))), fun p hp => ((h.data p hp).turn fun v hv => owns_stirs hv hs (own_ne hv h.res (by decide))).bs, fun p hp => OwR.rd (owns_stirs (h.rela p hp) hs (own_ne (h.rela p hp) h.res (by decide)))⟩
set_option maxHeartbeats 8000000 in
set_option maxRecDepth 100000 in
theorem copy17_any (o : ObjM) (L : List (PartM × Value × Value)) (pv sv : Value) (w : World) (h : ObjAt w o L pv sv) (hp : o.parts.length ≤ 100000) (hs : o.syms.length ≤ 100000) (hd : ∀ p ∈ o.parts, p.data.length ≤ 1000000000 ∧ p.relas.length ≤ 1000000) :
    Calls Try.prog 7 #[objV o pv sv] w fun e w' => (∃ M pu su, e = .returned (objV o pu su) ∧ ObjAt w' o M pu su) ∧ Below w.heap.size w w' := by
  have HH := Lib.hid h
  obtain ⟨pa, pc, rfl, hpc, -, hP⟩ := h.rd.open (fun _ => rfl)
  have HSY := Lib.hid h.syms
  obtain ⟨sn, sa, sc, -, rfl, -, -⟩ := h.syms.shape
  have HP := Lib.hid hP
  have hLn : L.length = o.parts.length := by rw [h.parts, List.length_map]
  have HLP := Lib.hid h.parts
  have HDD := Lib.hid hd
  have HSL := Lib.hid hs
  obtain ⟨target, parts, syms⟩ := o
  dsimp only at *
  rw [hLn] at hpc ⊢
  obtain ⟨np, hnp⟩ : ∃ n, n = parts.length := ⟨_, rfl⟩
  rw [← hnp] at hpc hp hLn ⊢
  have HNP := Lib.hid hnp
  have HLN := Lib.hid hLn
  clear h hP hLn hnp hs hd
  go_enter Try.func7, Try.ntmps7
  go_wp2_with (first
    | ((with_reducible show wpList _ _ _ (⟨some 1, .box _ _, _, _, _, _⟩ :: _) _ _); go_must (refine wpList_box rfl ?_; intro w1 hx1 hb1 hs1; have HX1 := Lib.hid hx1; have HB1 := Lib.hid hb1; clear hx1 hb1))
    | ((with_reducible show wpList _ _ _ (⟨some 2, .alloc _, _, _, _, _⟩ :: _) _ _); go_must (refine wpList_allocObj ?_; intro w2 hx2 hb2 hs2; have HR2 := Lib.hid hx2; have HX2 := Lib.hid (heap_below hb2 HX1.out); have HB2 := Lib.hid (HB1.out.trans (hb2.mono HB1.out.size)); obtain ⟨c0, c1, c2⟩ := obj_box HX2.out; clear hx2 hb2)))
  have hAB := fun (x : Above w2) (b k : Nat) (h : b < w2.heap.size) => Above.cell x b k h
  have l0 := block_lt c0
  refine wp_region_walk 7 [(4, YSyO w2.heap.size syms), (6, Yld.new w2.heap.size 25 3)] (by kernel_rfl) (by kernel_rfl) ?_
  simp only [List.take_succ_cons, List.take_zero, List.drop_succ_cons, List.drop_zero]
  repeat (refine walk_quiet rfl rfl rfl ?_; intro K hK; go_big_quiet_op; go_big_quiet_on)
  refine walk_made rfl rfl (fun wx hwx _ => wp_catSyms rfl rfl (HSY.out.mono (HB2.out.trans (hwx.mono HB2.out.size))) (by have := HSL.out; omega) hwx.size) ?_
  rintro ⟨ea, en, ec⟩
  show walk _ _ _ _ _ _ _ _ (Act.put _ _ (.slice ea en ec))
  go_frame
  repeat (refine walk_quiet rfl rfl rfl ?_; intro K hK; go_big_quiet_op; go_big_quiet_on)
  refine walk_new rfl rfl (fun wx hwx _ => WpYld.val run_allocObj (Yld.new_mk _ hwx).1 (Yld.new_mk _ hwx).2) (fun gb => ?_)
  go_frame
  refine walk_nil ?_
  intro wz hbz hF
  have hso := YSyO_got (hF 4 _ 10 _ rfl rfl rfl rfl)
  obtain ⟨hgb, cs, hcs, hcn⟩ := Yld.new_got (hF 6 _ 3 _ rfl rfl rfl rfl)
  clear hF hAB c0 c1 c2
  refine wpList_storeObjS hcs rfl rfl (by rw [hcn]; rfl) rfl (by simp [Value.oneCell']) ?_
  intro w3 hh3 hs3
  have hb3 := hs3.below hbz.size (B := w2.heap.size) (fun k hk => by rw [hk]; exact hgb)
  have HI := Lib.hid (show CopInv w w3 gb w1.heap.size w.heap.size #[.int .i64 target, .slice pa np pc, .slice sa sn sc] target (.slice none 0 0) (.slice ea en ec) [] syms from
    ⟨hh3, heap_base hb3 (heap_below hbz HR2.out) hs2, heap_base hb3 (heap_below hbz HX2.out) l0, OwR.nil _ _ _ _ _, OwR.rebase (owns_stirs hso hs3 (own_ne hso hcs (by decide))) HB2.out.size, (fun p hp => by cases hp), (fun p hp => by cases hp), HB2.out.trans ((hbz.trans hb3).mono HB2.out.size), Nat.le_trans HB2.out.size hgb, HB1.out.size, by omega, by omega, by omega⟩)
  have hgw : w.heap.size ≤ gb := Nat.le_trans HB2.out.size hgb
  clear hcs hcn hh3 hs3 hb3 hso hbz hgb
  go_wp2
  go_loopw [4] (fun i wr => ∃ (k : Nat) (qa : Option Addr) (qn qc : Nat) (T : List (PartM × Value × Value)), i = .int .i64 k ∧ k ≤ np ∧ Hid (CopInv w wr gb w1.heap.size w.heap.size #[.int .i64 target, .slice pa np pc, .slice sa sn sc] target (.slice qa qn qc) (.slice ea en ec) T syms) ∧ Hid (T.map (·.1) = parts.take k)) (fun i _ => np - (intOf i).toNat)
  case atStart => exact ⟨0, none, 0, 0, [], rfl, Nat.zero_le _, HI.out, rfl⟩
  case round =>
    obtain ⟨k, qa, qn, qc, T, rfl, hk, HIr, HTM⟩ := hrel
    have hbs := HIr.out.below.size
    obtain ⟨c0, c1, c2⟩ := obj_box HIr.out.box
    by_cases hlt : k < np
    · obtain ⟨x, hx⟩ : ∃ x, L[k]? = some x := ⟨_, List.getElem?_eq_getElem (by have := HLN.out; omega)⟩
      obtain ⟨b, o, rfl, e0, e1, e2, e3, e4, e5, hb0⟩ := part_cells HP.out HIr.out.below hx
      have hxp : parts[k]? = some x.1 := by rw [HLP.out, List.getElem?_map, hx]; rfl
      have HTK := Lib.hid (show parts.take (k + 1) = parts.take k ++ [x.1] by rw [List.take_add_one, hxp]; rfl)
      have HBD := Lib.hid (HH.out.data x (List.mem_of_getElem? hx))
      have HRD := Lib.hid (HH.out.rela x (List.mem_of_getElem? hx))
      have HDP := Lib.hid (HDD.out x.1 (List.mem_of_getElem? hxp))
      have htl : T.length ≤ 100000 := by
        have h1 := congrArg List.length HTM.out
        rw [List.length_map, List.length_take] at h1
        omega
      have HTW := Lib.hid (fun wx (hb : Below w.heap.size w wx) => twin_any x.1.data x.2.1 wx HDP.out.1 (HBD.out.mono hb))
      obtain ⟨md, ad, cd, -, hdv, -, -⟩ := HBD.out.shape
      obtain ⟨mr, ar, cr, -, hrv, -, -⟩ := HRD.out.shape
      obtain ⟨⟨name, flags, align, size, data, relas⟩, dv, rv⟩ := x
      dsimp only at *
      subst hdv hrv
      clear hx hxp
      go_wp2_with (first
        | ((with_reducible show wpList _ _ _ (⟨none, .store _ (.tmp 5) _, _, _, _, _⟩ :: _) _ _); go_must (refine wpList_storeNew rfl rfl (by kernel_rfl) rfl (by simp [Value.oneCell']) ?_; intro w4 hh4 hb4; have HH4 := Lib.hid hh4; have HB4 := Lib.hid hb4; have hz4 := block_lt (cell_rec hh4 0 |>.trans rfl); obtain ⟨d0, d1, d2, d3, d4, d5⟩ := part_box (x := (⟨name, flags, align, size, data, relas⟩, .slice ad md cd, .slice ar mr cr)) hh4; clear hh4 hb4))
        | (go_at_call 18; refine (HTW.out _ (HIr.out.below.trans (HB4.out.mono hbs))).mono ?_; rintro e w5 ⟨t5, rfl, ht5, hb5⟩; have HT5 := Lib.hid (ht5.base (Nat.le_of_lt hz4)); have HH5 := Lib.hid (heap_below hb5 HH4.out); have HB5 := Lib.hid (HB4.out.trans (hb5.mono HB4.out.size)); have hz5 := hb5.size; obtain ⟨g5, c5', rfl, -, -, -⟩ := ht5; clear hb5)
        | ((with_reducible show wpList _ _ _ (⟨none, .store _ (.tmp 27) _, _, _, _, _⟩ :: _) _ _); go_must (refine wpList_set HH5.out (show 4 < 6 by decide) rfl rfl (Nat.le_refl _) HB5.out.size (fun w => by kernel_rfl) ?_; intro w6 hh6 hb6 hs6; have HH6 := Lib.hid (show w6.heap[wr.heap.size]? = some (.cells #[.string ⟨name.toArray⟩, .string ⟨flags.toArray⟩, .int .i64 align, .int .i64 size, .slice (some ⟨g5, 0, none⟩) data.length c5', .slice ar mr cr] 43 (0, 0)) from hh6); have HT6 := Lib.hid (HT5.out.turn fun v hv => owns_stirs hv hs6 (own_ne hv HH5.out (by decide))); have HB6 := Lib.hid (HB5.out.trans hb6); obtain ⟨d0, d1, d2, d3, d4, d5⟩ := part_box (x := (⟨name, flags, align, size, data, relas⟩, .slice (some ⟨g5, 0, none⟩) data.length c5', .slice ar mr cr)) HH6.out; clear hh6 hb6 hs6))
        | ((with_reducible show wpList _ _ _ (⟨some 30, _, _, _, _, _⟩ :: _) _ _); go_must (refine wpList_cat TRelaS (World.ownsRow_nil w6 w6.heap.size _ 4) (HRD.out.mono (HIr.out.below.trans (HB6.out.mono hbs))) rfl rfl (oneRela relas) (by have := HDP.out.2; omega) (by have := HDP.out.2; omega) (Nat.le_refl _) ?_; intro v7 w7 hv7 _ hb7; have HV7 := Lib.hid (show OwR 4 encRela 65 w7 wr.heap.size v7 relas from (by rw [Nat.zero_add, List.nil_append] at hv7; exact OwR.rebase hv7 HB6.out.size)); have HT7 := Lib.hid (HT6.out.mono hb7); have HH7 := Lib.hid (heap_below hb7 HH6.out); have HB7 := Lib.hid (HB6.out.trans (hb7.mono HB6.out.size)); obtain ⟨m7, a7, c7, -, rfl, -, -⟩ := HV7.out.shape; clear hv7 hb7))
        | ((with_reducible show wpList _ _ _ (⟨none, .store _ (.tmp 31) _, _, _, _, _⟩ :: _) _ _); go_must (refine wpList_set HH7.out (show 5 < 6 by decide) rfl rfl (Nat.le_refl _) HB7.out.size (fun w => by kernel_rfl) ?_; intro w8 hh8 hb8 hs8; have HH8 := Lib.hid (show w8.heap[wr.heap.size]? = some (.cells #[.string ⟨name.toArray⟩, .string ⟨flags.toArray⟩, .int .i64 align, .int .i64 size, .slice (some ⟨g5, 0, none⟩) data.length c5', .slice a7 m7 c7] 43 (0, 0)) from hh8); have HT8 := Lib.hid (HT7.out.turn fun v hv => owns_stirs hv hs8 (own_ne hv HH7.out (by decide))); have HV8 := Lib.hid (owns_stirs HV7.out hs8 (own_ne HV7.out HH7.out (by decide))); have HI8 := Lib.hid (HIr.out.mono (HB7.out.trans hb8)); obtain ⟨d0, d1, d2, d3, d4, d5⟩ := part_box (x := (⟨name, flags, align, size, data, relas⟩, .slice (some ⟨g5, 0, none⟩) data.length c5', .slice a7 m7 c7)) HH8.out; obtain ⟨z0, z1, z2⟩ := obj_box HI8.out.blk; clear hh8 hb8 hs8))
        | ((with_reducible show wpList _ _ _ (⟨some 36, _, _, _, _, _⟩ :: _) _ _); go_must (refine wpList_pushR TPart HI8.out.po rfl rfl ((⟨name, flags, align, size, data, relas⟩, .slice (some ⟨g5, 0, none⟩) data.length c5', .slice a7 m7 c7) : PartM × Value × Value) rfl rfl rfl (by omega) (by omega) HI8.out.below.size ?_; intro v9 w9 hv9 hg9 hb9; have HG9 := Lib.hid hg9; have HBL := Lib.hid (keeps_own HI8.out.po hg9 _ _ _ _ (show 25 ≠ 43 by decide) HI8.out.blk); have hsz9 : w.heap.size ≤ w9.heap.size := Nat.le_trans HI8.out.below.size hb9.size; obtain ⟨m9, q9, r9, -, rfl, _, _⟩ := hv9.shape; have HVV := Lib.hid hv9; clear hv9 hg9 hb9))
        | ((with_reducible show wpList _ _ _ (⟨none, .store _ (.tmp 37) _, _, _, _, _⟩ :: _) _ _); go_must (refine wpList_set HBL.out (show 1 < 3 by decide) rfl rfl hgw hsz9 (fun w => by kernel_rfl) ?_; intro wA hhA hbA hsA; have HIA := Lib.hid (CopInv.push HI8.out HVV.out HG9.out (HT8.out.base hbs) (OwR.rebase HV8.out hbs) hhA hsA); clear hhA hbA hsA)))
      go_roundw
      case rel => exact ⟨k + 1, q9, m9, r9, T ++ [(⟨name, flags, align, size, data, relas⟩, .slice (some ⟨g5, 0, none⟩) data.length c5', .slice a7 m7 c7)], by go_num, by omega, HIA, by show (T ++ _).map (·.1) = _; rw [HTK.out, List.map_append, HTM.out]; rfl⟩
      case measure => simp [intOf] <;> omega
    · obtain rfl : k = np := by omega
      have HTE : Hid (T.map (·.1) = parts) := by
        have h1 := HTM.out
        rwa [List.take_of_length_le (by have := HNP.out; omega)] at h1
      obtain ⟨z0, z1, z2⟩ := obj_box HIr.out.blk
      go_wp2_with ((with_reducible show wpList _ _ _ (⟨none, .store _ (.tmp 2) _, _, _, _, _⟩ :: _) _ _); go_must (refine wpList_storeObjS HIr.out.res rfl rfl rfl rfl (by simp [Value.oneCell']) ?_; intro w7 hh7 hs7; have HH7 := Lib.hid hh7; have HS7 := Lib.hid hs7; have HB7 := Lib.hid (HIr.out.below.trans (hs7.below HIr.out.below.size (fun k hk => by rw [hk]; exact HB1.out.size))); clear hh7 hs7))
      obtain ⟨r1, r2, r3, r4⟩ := HIr.out.stir HS7.out
      exact bodyPost_ret (results_cell_row rfl _ _ w1.heap.size _ _ _ _ rfl HH7.out rfl rfl (by kernel_rfl)) rfl ⟨⟨T, .slice qa qn qc, .slice ea en ec, rfl, ⟨HTE.out.symm, r1, r3, r4, r2⟩⟩, HB7.out⟩
end Go.Proofs.Ytimnbnomaajmmaa
namespace Go.Proofs.Ytimnbnomaajmmaa
open Go.RowKit Go.Fd
def p17 : PartM := ⟨[46, 116, 101, 120, 116], [97, 120], 2, 2, [1, 0], []⟩
def s17 : SymM := ⟨[102], 1, 0, 1, 0, 0⟩
def o17 : ObjM := ⟨3, [p17], [s17]⟩
theorem o17_may : mayO o17 = 0 := by decide +kernel
theorem o17_elf : mayE (elfO o17) = true ∧ (fileB (elfO o17)).length ≤ 24000 := by decide +kernel
theorem o17_file : fileO o17 = (fileB (elfO o17), 0) := by unfold fileO; rw [if_neg (by rw [o17_may]; simp), if_pos o17_elf.1]
theorem o17_ok : ObjOk o17 :=
  ⟨⟨⟨by decide, by decide⟩, fun p hp => (by rw [List.mem_singleton.1 hp]; exact ⟨⟨by decide, by decide⟩, ⟨by decide, by decide⟩, by decide⟩), fun p hp => (by rw [List.mem_singleton.1 hp]; exact ⟨Nat.zero_le _, fun x hx => by cases hx⟩), by decide, fun s hs => (by rw [List.mem_singleton.1 hs]; exact ⟨by decide, by decide⟩)⟩, by decide, fun p hp => (by rw [List.mem_singleton.1 hp]; exact ⟨by decide, by decide⟩), fun p hp => (by rw [List.mem_singleton.1 hp]; decide), fun s hs => (by rw [List.mem_singleton.1 hs]; decide)⟩
theorem o17_read : readO (fun l => modP l [] []) (fileB (elfO o17)) = (o17, 0) := (read_obj o17_ok.wf o17_file).1
theorem obj0_may : mayO objNo = 11 := by decide +kernel
theorem run_oneSymS {x : Operand} {s : SymM} {a : Act} {w : World} {d : Option Tmp} {ty : TypeId} {pos : String} {aft : Array Edge} {g : Option (Nat × Bool)} (hx : a.eval x = .agg (encSym s).toArray) :
    (execOp a.eval ⟨d, .buildSlice 23 1 #[(0, x)], ty, pos, aft, g⟩).run Try.prog w = .ok (.value (.slice (some ⟨w.heap.size, 0, none⟩) 1 1)) (w.alloc (.cells (encSym s).toArray 46)) := by
  simp only [execOp, List.map_toArray, List.map_cons, List.map_nil, hx]
  kernel_rfl
theorem wpList_lit10 {ops : Array Oper} {rest : List Oper} {Q : Exit → Act → World → Prop} {a : Act} {w : World} {d : Option Tmp} {ty : TypeId} {pos : String} {aft : Array Edge}
    (h : ∀ w1, Bs w1 (.slice (some ⟨w.heap.size, 0, none⟩) 2 2) [1, 0] → Below w.heap.size w w1 → wpList Try.prog ops Q rest (a.put d (.slice (some ⟨w.heap.size, 0, none⟩) 2 2)) w1) :
    wpList Try.prog ops Q (⟨d, .buildSlice 29 2 #[(0, .const (.int .u8 1)), (1, .const (.int .u8 0))], ty, pos, aft, none⟩ :: rest) a w :=
  wpList_val rfl (w' := w.alloc (.cells #[.int .u8 1, .int .u8 0] 5)) (by kernel_rfl) (h _ (bs_lit w [1, 0] _ 2 rfl rfl) (below_alloc w _))
theorem wpList_litPart {ops : Array Oper} {rest : List Oper} {Q : Exit → Act → World → Prop} {a : Act} {w : World} {d : Option Tmp} {ty : TypeId} {pos : String} {aft : Array Edge} {x : Operand} {p : PartM} {d1 d2 : Option Addr} {m c m2 c2 : Nat} (hx : a.eval x = partV (p, .slice d1 m c, .slice d2 m2 c2))
    (h : ∀ w1, RdR 6 encPart w1 (.slice (some ⟨w.heap.size, 0, none⟩) 1 1) [(p, Value.slice d1 m c, Value.slice d2 m2 c2)] → Below w.heap.size w w1 → wpList Try.prog ops Q rest (a.put d (.slice (some ⟨w.heap.size, 0, none⟩) 1 1)) w1) :
    wpList Try.prog ops Q (⟨d, .buildSlice 22 1 #[(0, x)], ty, pos, aft, none⟩ :: rest) a w :=
  wpList_val rfl (run_onePart hx) (h _ (rd_one rfl (heap_alloc_last w _) rfl) (below_alloc w _))
theorem wpList_litSym {ops : Array Oper} {rest : List Oper} {Q : Exit → Act → World → Prop} {a : Act} {w : World} {d : Option Tmp} {ty : TypeId} {pos : String} {aft : Array Edge} {x : Operand} {s : SymM} (hx : a.eval x = .agg (encSym s).toArray)
    (h : ∀ w1, RdR 6 encSym w1 (.slice (some ⟨w.heap.size, 0, none⟩) 1 1) [s] → Below w.heap.size w w1 → wpList Try.prog ops Q rest (a.put d (.slice (some ⟨w.heap.size, 0, none⟩) 1 1)) w1) :
    wpList Try.prog ops Q (⟨d, .buildSlice 23 1 #[(0, x)], ty, pos, aft, none⟩ :: rest) a w :=
  wpList_val rfl (run_oneSymS hx) (h _ (rd_one rfl (heap_alloc_last w _) rfl) (below_alloc w _))
theorem objNo_at (w : World) : ObjAt w objNo [] (.slice none 0 0) (.slice none 0 0) := (ObjOwn.zero w 0).at
set_option maxHeartbeats 8000000 in
set_option maxRecDepth 100000 in
theorem begun17_any (w : World) : Calls Try.prog 5 #[] w fun e w' => e = .returned (.bool true) ∧ Below w.heap.size w w' := by
  have HMY : Hid (∀ L pv sv wx, ObjAt wx o17 L pv sv → Calls Try.prog 12 #[objV o17 pv sv] wx fun e w' => e = .returned (.int .i64 0) ∧ Below wx.heap.size wx w') := Lib.hid (fun L pv sv wx h => by have := may6_any o17 L pv sv wx h o17_ok; rwa [o17_may] at this)
  have HM0 : Hid (∀ wx, Calls Try.prog 12 #[.agg objZ] wx fun e w' => e = .returned (.int .i64 11) ∧ Below wx.heap.size wx w') := Lib.hid (fun wx => by have := may6_any objNo [] _ _ wx (objNo_at wx) objNo_ok; rwa [obj0_may] at this)
  have HFI : Hid (∀ L pv sv wx, ObjAt wx o17 L pv sv → Calls Try.prog 8 #[objV o17 pv sv] wx fun e w' => (∃ a n c, e = .returned (.tuple #[.slice a n c, .int .i64 0]) ∧ Bs w' (.slice a n c) (fileB (elfO o17))) ∧ Below wx.heap.size wx w') := Lib.hid (fun L pv sv wx h1 => (file6_any o17 L pv sv wx h1 o17_ok).mono fun r w' ⟨v, h2, h3, h4⟩ => by
    rw [o17_file] at h2 h3
    obtain ⟨n, a, c, -, rfl, -, -⟩ := h3.shape
    exact ⟨⟨a, n, c, h2, h3.bs⟩, h4⟩)
  have HRD : Hid (∀ v wx, Bs wx v (fileB (elfO o17)) → Calls Try.prog 16 #[v] wx fun r w' => (∃ PL a1 c1 a2 c2, r = .returned (.tuple #[.agg #[.int .i64 3, .slice a1 1 c1, .slice a2 1 c2], .int .i64 0]) ∧ ObjAt w' o17 PL (.slice a1 1 c1) (.slice a2 1 c2)) ∧ Below wx.heap.size wx w') := Lib.hid (fun v wx h => (read6_any _ v wx o17_elf.2 h).mono fun r w' ⟨⟨PL, pv, sv, h1, h2⟩, h3⟩ => by
    rw [o17_read] at h1 h2
    have hl : PL.length = 1 := by have := congrArg List.length h2.parts; rw [List.length_map] at this; exact this.symm
    obtain ⟨n1, a1, c1, hn1, rfl, -, -⟩ := h2.po.shape
    obtain ⟨n2, a2, c2, hn2, rfl, -, -⟩ := h2.so.shape
    have e1 : n1 = 1 := hn1.out.trans hl
    have e2 : n2 = 1 := hn2.out.trans rfl
    subst e1 e2
    exact ⟨⟨PL, a1, c1, a2, c2, h1, h2.at⟩, h3⟩)
  have HDF : Hid (∀ L pv sv wx, ObjAt wx o17 L pv sv → Calls Try.prog 10 #[objV o17 pv sv] wx fun e w' => (∃ b o c, e = .returned (.slice (some ⟨b, o, none⟩) 1 c) ∧ w'.cell? ⟨b, o, none⟩ = some (.string ⟨#[102]⟩)) ∧ Below wx.heap.size wx w') := Lib.hid (fun L pv sv wx h => (defined6_any o17 L pv sv wx h (by decide)).mono fun r w' ⟨⟨a, n, c, h1, h2⟩, h3⟩ => by
    have hd : definedO o17.syms = [[102]] := by decide
    rw [hd] at h2
    obtain ⟨a', c', e1, -, -, h4⟩ := h2.rd.open []
    cases e1
    obtain ⟨b, off, rfl, h5⟩ := h4 0 (by decide)
    exact ⟨⟨b, off, c, h1, h5⟩, h3⟩)
  go_enter Try.func5, Try.ntmps5
  go_wp2_with (first
    | ((with_reducible show wpList _ _ _ (⟨some 7, _, _, _, _, _⟩ :: _) _ _); go_must (refine wpList_lit10 ?_; intro w1 hd1 hb1; have HD1 := Lib.hid hd1; have HB1 := Lib.hid hb1; clear hd1 hb1))
    | ((with_reducible show wpList _ _ _ (⟨some 9, _, _, _, _, _⟩ :: _) _ _); go_must (refine wpList_litPart (p := p17) rfl ?_; intro w2 hp2 hb2; have HP2 := Lib.hid hp2; have HD2 := Lib.hid (HD1.out.mono hb2); have HB2 := Lib.hid (HB1.out.trans (hb2.mono HB1.out.size)); clear hp2 hb2))
    | ((with_reducible show wpList _ _ _ (⟨some 11, _, _, _, _, _⟩ :: _) _ _); go_must (refine wpList_litSym (s := s17) rfl ?_; intro w3 hy3 hb3; have HO3 := Lib.hid (show ObjAt w3 o17 [(p17, Value.slice (some ⟨w.heap.size, 0, none⟩) 2 2, Value.slice none 0 0)] (.slice (some ⟨w1.heap.size, 0, none⟩) 1 1) (.slice (some ⟨w2.heap.size, 0, none⟩) 1 1) from ⟨rfl, HP2.out.mono hb3, (fun p hp => by rw [List.mem_singleton] at hp; subst hp; exact HD2.out.mono hb3), (fun p hp => by rw [List.mem_singleton] at hp; subst hp; exact RdR.nil _ _ _), hy3⟩); have HB3 := Lib.hid (HB2.out.trans (hb3.mono HB2.out.size)); clear hy3 hb3))
    | ((with_reducible show wpList _ _ _ (⟨some 1, .alloc _, _, _, _, _⟩ :: _) _ _); go_must (refine wpList_allocObj ?_; intro w4 hx4 hb4 hs4; have HX4 := Lib.hid hx4; have HB4 := Lib.hid hb4; clear hx4 hb4))
    | ((with_reducible show wpList _ _ _ (⟨none, .store _ (.tmp 1) _, _, _, _, _⟩ :: _) _ _); go_must (refine wpList_storeMade HX4.out rfl rfl (by kernel_rfl) rfl (by simp [Value.oneCell']) (Nat.le_refl _) (Nat.le_of_lt hs4) ?_; intro w5 hh5 hb5; have HX5 := Lib.hid hh5; have HO5 := Lib.hid (HO3.out.mono (HB4.out.trans hb5)); have HB5 := Lib.hid (HB3.out.trans ((HB4.out.trans hb5).mono HB3.out.size)); obtain ⟨c0, c1, c2⟩ := obj_box hh5; clear hh5 hb5))
    | (go_at_call 8; refine (HFI.out _ _ _ _ HO5.out).mono ?_; rintro e w6 ⟨⟨a6, n6, c6, rfl, ho6⟩, hb6⟩; have HF6 := Lib.hid ho6; have HX6 := Lib.hid (heap_below hb6 HX5.out); have HO6 := Lib.hid (HO5.out.mono hb6); have HB6 := Lib.hid (HB5.out.trans (hb6.mono HB5.out.size)); clear ho6 hb6)
    | (go_at_call 16; refine (HRD.out _ _ HF6.out).mono ?_; rintro e w7 ⟨⟨PL, a1, n1, a2, n2, rfl, ho7⟩, hb7⟩; have HQ7 := Lib.hid ho7; have HX7 := Lib.hid (heap_below hb7 HX6.out); have HO7 := Lib.hid (HO6.out.mono hb7); have HB7 := Lib.hid (HB6.out.trans (hb7.mono HB6.out.size)); clear ho7 hb7)
    | ((with_reducible show wpList _ _ _ (⟨some 4, .alloc _, _, _, _, _⟩ :: _) _ _); go_must (refine wpList_allocObj ?_; intro w8 hx8 hb8 hs8; have HY8 := Lib.hid hx8; have HB78 := Lib.hid hb8; clear hx8 hb8))
    | ((with_reducible show wpList _ _ _ (⟨none, .store _ (.tmp 4) _, _, _, _, _⟩ :: _) _ _); go_must (refine wpList_storeMade HY8.out rfl rfl (by kernel_rfl) rfl (by simp [Value.oneCell']) (Nat.le_refl _) (Nat.le_of_lt hs8) ?_; intro w9 hh9 hb9; have HY9 := Lib.hid hh9; have HX9 := Lib.hid (heap_below (HB78.out.trans hb9) HX7.out); have HO9 := Lib.hid (HO7.out.mono (HB78.out.trans hb9)); have HQ9 := Lib.hid (HQ7.out.mono (HB78.out.trans hb9)); have HB9 := Lib.hid (HB7.out.trans ((HB78.out.trans hb9).mono HB7.out.size)); obtain ⟨d0, d1, d2⟩ := obj_box hh9; clear hh9 hb9))
    | (go_at_call 10; refine (HDF.out _ _ _ _ HQ9.out).mono ?_; rintro e wA ⟨⟨bA, oA, cA, rfl, hcA⟩, hbA⟩; have HCA := Lib.hid hcA; have HOA := Lib.hid (HO9.out.mono hbA); have HXA := Lib.hid (heap_below hbA HX9.out); have HYA := Lib.hid (heap_below hbA HY9.out); have HBA := Lib.hid (HB9.out.trans (hbA.mono HB9.out.size)); obtain ⟨c0, c1, c2⟩ := obj_box HXA.out; clear hcA hbA)
    | (go_at_call 12; (with_reducible refine (HM0.out _).mono ?_); rintro e wC ⟨rfl, hbC⟩; have HCC := Lib.hid ((hbC.cell (block_lt HCB.out)).trans HCB.out); have HBC := Lib.hid (HBB.out.trans (hbC.mono HBB.out.size)); obtain ⟨d0, d1, d2⟩ := obj_box (heap_below hbC HYB.out); have e0 := HCC.out; clear hbC)
    | (go_at_call 12; refine (HMY.out _ _ _ _ HOA.out).mono ?_; rintro e wB ⟨rfl, hbB⟩; have HCB := Lib.hid ((hbB.cell (block_lt HCA.out)).trans HCA.out); have HYB := Lib.hid (heap_below hbB HYA.out); have HBB := Lib.hid (HBA.out.trans (hbB.mono HBA.out.size)); clear hbB))
  go_ret
  exact ⟨rfl, HBC.out⟩
end Go.Proofs.Ytimnbnomaajmmaa
namespace Go.Proofs.Ytimnbnomaajmmaa
open Go.RowKit Go.Fd
theorem own_apart {w : World} {p : Nat} {c : Array Value} {fz : Nat × Nat} {t : TypeId} (hblk : w.heap[p]? = some (.cells c t fz)) {e : TypeId} {base size n : Nat} {v : Value} {xs : List Value} (h : w.ownsRow base e size v n xs) (he : e ≠ t) : ∀ k, v.ownBlock = some k → ¬ k = p := by
  intro k hk1 hkp
  subst hkp
  obtain ⟨c, fz, hc⟩ := own_kind h k hk1
  rw [hblk] at hc
  cases hc
  exact he rfl
end Go.Proofs.Ytimnbnomaajmmaa
namespace Go.Proofs.Ytimnbnomaajmmaa
open Go.RowKit Go.Fd
/-- What is known of an argument. -/
structure ObjArg (o : ObjM) : Prop where
  target : -9223372036854775808 ≤ o.target ∧ o.target < 9223372036854775808
  nums : ∀ p ∈ o.parts, (-9223372036854775808 ≤ p.align ∧ p.align < 9223372036854775808) ∧ (-9223372036854775808 ≤ p.size ∧ p.size < 9223372036854775808)
  relas : ∀ p ∈ o.parts, ∀ x ∈ p.relas, x.off < 18446744073709551616 ∧ -9223372036854775808 ≤ x.add ∧ x.add < 9223372036854775808
  vals : ∀ s ∈ o.syms, s.value < 18446744073709551616 ∧ s.size < 18446744073709551616
  parts : o.parts.length ≤ 100000000
  sum : psum o.parts ≤ 1000000000
  names : ∀ p ∈ o.parts, p.name.length ≤ 9223372036854775807 ∧ p.flags.length ≤ 9223372036854775807
  texts : ∀ s ∈ o.syms, s.name.length ≤ 9223372036854775807
theorem ObjArg.ok {o : ObjM} (h : ObjArg o) (hl : lightO o = true) : ObjOk o ∧ ∀ p ∈ o.parts, p.data.length ≤ 24000 := by
  unfold lightO at hl
  simp only [Bool.and_eq_true, decide_eq_true_eq] at hl
  obtain ⟨⟨h1, h2⟩, h3⟩ := hl
  have hp : ∀ p ∈ o.parts, p.data.length + 24 * p.relas.length ≤ 8192 := fun p hp => Nat.le_trans (psum_mem hp) h1
  exact ⟨⟨⟨h.target, fun p hm => ⟨(h.nums p hm).1, (h.nums p hm).2, by have := hp p hm; omega⟩, fun p hm => ⟨by have := hp p hm; omega, h.relas p hm⟩, by omega, h.vals⟩, by omega, h.names, fun p hm => by have := hp p hm; omega, h.texts⟩, fun p hm => by have := hp p hm; omega⟩
theorem fileO_len (o : ObjM) : (fileO o).1.length ≤ 1000000000 := by
  unfold fileO
  split
  · exact Nat.zero_le _
  · split
    · next hm =>
      have h1 := fileB_len (mayK hm)
      have h2 := (mayK hm).len
      show (fileB (elfO o)).length ≤ _
      omega
    · exact Nat.zero_le _
end Go.Proofs.Ytimnbnomaajmmaa
namespace Go.Proofs.Ytimnbnomaajmmaa
open Go.RowKit Go.Fd
theorem below_spoil {w w' : World} {base : Nat} {v : Value} {l : List UInt8} (ho : OB w base v l) (h : w.grownBy w' v.ownBlock) (hb : base ≤ w.heap.size) : Below base w w' := below_of_grown h hb fun k hk => (World.ownsRow.lt ho k hk).1
/-- Names, in a region. -/
def YTx (l : List (List UInt8)) : Yld := ⟨Option Addr × Nat, (none, 0), fun q => .slice q.1 l.length q.2, fun q w => Rd S w (.slice q.1 l.length q.2) l, fun _ _ _ h hb => Reads.mono h hb⟩
theorem YTx_got {l : List (List UInt8)} {a : Option Addr} {n c : Nat} {w : World} (h : (YTx l).R (.slice a n c) w) : Rd S w (.slice a l.length c) l := by
  obtain ⟨⟨a', c'⟩, e, h⟩ := h
  have e' : Value.slice a n c = .slice a' l.length c' := e
  injection e' with e1 e2 e3
  subst e1 e3
  exact h
set_option maxHeartbeats 8000000 in
set_option maxRecDepth 100000 in
theorem objectAll_any (o : ObjM) (L : List (PartM × Value × Value)) (pv sv : Value) (w : World) (h : ObjAt w o L pv sv) (ha : ObjArg o) :
    Calls Try.prog 3 #[objV o pv sv] w fun e w' => e = .returned (.bool true) ∧ Below w.heap.size w w' := by
  have HH := Lib.hid h
  have HBG := Lib.hid begun17_any
  have HLI := Lib.hid (fun wx (hb : Below w.heap.size w wx) => light17_any o L pv sv wx (h.mono hb) (by have := ha.parts; omega) ha.sum)
  have HOK := Lib.hid (ha.ok)
  obtain ⟨pn, pa, pc, hpn, rfl, -, -⟩ := h.rd.shape
  obtain ⟨sn, sa, sc, -, rfl, -, -⟩ := h.syms.shape
  clear h ha hpn
  generalize lightO o = li at *
  cases li with
  | false =>
    go_enter Try.func3, Try.ntmps3
    go_wp2_with (first
      | ((with_reducible show wpList _ _ _ (⟨some 1, .box _ _, _, _, _, _⟩ :: _) _ _); go_must (refine wpList_box rfl ?_; intro w1 hx1 hb1 hs1; have HX1 := Lib.hid hx1; have HB1 := Lib.hid hb1; clear hx1 hb1))
      | (go_at_call 5; refine (HBG.out _).mono ?_; rintro e w2 ⟨rfl, hb2⟩; have HX2 := Lib.hid (heap_below hb2 HX1.out); have HB2 := Lib.hid (HB1.out.trans (hb2.mono HB1.out.size)); obtain ⟨c0, c1, c2⟩ := obj_box HX2.out; clear hb2)
      | (go_at_call 6; refine (HLI.out _ HB2.out).mono ?_; rintro e w3 ⟨rfl, hb3⟩; have HB3 := Lib.hid (HB2.out.trans (hb3.mono HB2.out.size)); clear hb3))
    go_ret
    exact ⟨rfl, HB3.out⟩
  | true =>
    obtain ⟨hok, hdt⟩ := HOK.out rfl
    have HSM : Hid (∀ M M' pu su pu' su' wx, ObjAt wx o M pu su → ObjAt wx o M' pu' su' → Calls Try.prog 14 #[objV o pu su, objV o pu' su'] wx fun e w' => e = .returned (.bool true) ∧ Below wx.heap.size wx w') := Lib.hid (fun M M' pu su pu' su' wx h1 h2 => refSame_eq o M M' pu su pu' su' wx h1 h2 (by have := hok.many; omega) (by have := hok.wf.many; omega) (fun p hp => by have := (hok.wf.relas p hp).1; omega))
    have HFL := Lib.hid (fileO_len o)
    have HCP : Hid (∀ wx, Below w.heap.size w wx → Calls Try.prog 7 #[objV o (.slice pa pn pc) (.slice sa sn sc)] wx fun e w' => (∃ M a1 n1 c1 a2 n2 c2, e = .returned (objV o (.slice a1 n1 c1) (.slice a2 n2 c2)) ∧ ObjAt w' o M (.slice a1 n1 c1) (.slice a2 n2 c2)) ∧ Below wx.heap.size wx w') := Lib.hid (fun wx hb => (copy17_any o L _ _ wx (HH.out.mono hb) (by have := hok.many; omega) (by have := hok.wf.many; omega) (fun p hp => ⟨by have := hok.data p hp; omega, by have := (hok.wf.relas p hp).1; omega⟩)).mono fun r w' ⟨⟨M, pu, su, h1, h2⟩, h3⟩ => by
      obtain ⟨n1, a1, c1, -, rfl, -, -⟩ := h2.rd.shape
      obtain ⟨n2, a2, c2, -, rfl, -, -⟩ := h2.syms.shape
      exact ⟨⟨M, a1, n1, c1, a2, n2, c2, h1, h2⟩, h3⟩)
    have HMP := Lib.hid (fun M pu su wx (hx : ObjAt wx o M pu su) => may6_any o M pu su wx hx hok)
    have HMR := Lib.hid (fun M pu su wx (hx : ObjAt wx o M pu su) => refMay_any o M pu su wx hx hok)
    have HDP := Lib.hid (fun M pu su wx (hx : ObjAt wx o M pu su) => defined6_any o M pu su wx hx hok.wf.many)
    have HDR := Lib.hid (fun M pu su wx (hx : ObjAt wx o M pu su) => refDefined_any o M pu su wx hx hok.wf.many)
    have HDL := Lib.hid (show (definedO o.syms).length ≤ 1000 from Nat.le_trans (def_len o.syms) hok.wf.many)
    generalize hfo : fileO o = fo at *
    obtain ⟨fb, fc⟩ := fo
    dsimp only at *
    have HFI : Hid (∀ L pv sv wx, ObjAt wx o L pv sv → Calls Try.prog 8 #[objV o pv sv] wx fun e w' => (∃ a n c, e = .returned (.tuple #[.slice a n c, .int .i64 fc]) ∧ OB w' wx.heap.size (.slice a n c) fb) ∧ Below wx.heap.size wx w') := Lib.hid (fun L pv sv wx h1 => (file6_any o L pv sv wx h1 hok).mono fun r w' ⟨v, h2, h3, h4⟩ => by
      rw [hfo] at h2 h3
      obtain ⟨n, a, c, -, rfl, -, -⟩ := h3.shape
      exact ⟨⟨a, n, c, h2, h3⟩, h4⟩)
    have HFR : Hid (∀ L pv sv wx, ObjAt wx o L pv sv → Calls Try.prog 9 #[objV o pv sv] wx fun e w' => (∃ a n c, e = .returned (.tuple #[.slice a n c, .int .i64 fc]) ∧ OB w' wx.heap.size (.slice a n c) fb) ∧ Below wx.heap.size wx w') := Lib.hid (fun L pv sv wx h1 => (refFile_any o L pv sv wx h1 hok).mono fun r w' ⟨v, h2, h3, h4⟩ => by
      rw [hfo] at h2 h3
      obtain ⟨n, a, c, -, rfl, -, -⟩ := h3.shape
      exact ⟨⟨a, n, c, h2, h3⟩, h4⟩)
    clear hok hdt hfo HOK
    generalize definedO o.syms = df at *
    generalize mayO o = mo at *
    go_enter Try.func3, Try.ntmps3
    go_wp2_with (first
      | ((with_reducible show wpList _ _ _ (⟨some 1, .box _ _, _, _, _, _⟩ :: _) _ _); go_must (refine wpList_box rfl ?_; intro w1 hx1 hb1 hs1; have HX1 := Lib.hid hx1; have HB1 := Lib.hid hb1; clear hx1 hb1))
      | (go_at_call 5; refine (HBG.out _).mono ?_; rintro e w2 ⟨rfl, hb2⟩; have HX2 := Lib.hid (heap_below hb2 HX1.out); have HB2 := Lib.hid (HB1.out.trans (hb2.mono HB1.out.size)); obtain ⟨c0, c1, c2⟩ := obj_box HX2.out; clear hb2)
      | (go_at_call 6; refine (HLI.out _ HB2.out).mono ?_; rintro e w3 ⟨rfl, hb3⟩; have HX3 := Lib.hid (heap_below hb3 HX2.out); have HB3 := Lib.hid (HB2.out.trans (hb3.mono HB2.out.size)); obtain ⟨c0, c1, c2⟩ := obj_box HX3.out; clear hb3)
      | (go_at_call 7; refine (HCP.out _ HB3.out).mono ?_; rintro e w4 ⟨⟨M, a1, n1, k1, a2, n2, k2, rfl, ho4⟩, hb4⟩; have HO4 := Lib.hid ho4; have HX4 := Lib.hid (heap_below hb4 HX3.out); have HB4 := Lib.hid (HB3.out.trans (hb4.mono HB3.out.size)); clear ho4 hb4)
      | ((with_reducible show wpList _ _ _ (⟨some 3, .alloc _, _, _, _, _⟩ :: _) _ _); go_must (refine wpList_allocObj ?_; intro w5 hx5 hb5 hs5; have HY5 := Lib.hid hx5; have HB45 := Lib.hid hb5; clear hx5 hb5))
      | ((with_reducible show wpList _ _ _ (⟨none, .store _ (.tmp 3) _, _, _, _, _⟩ :: _) _ _); go_must (refine wpList_storeMade HY5.out rfl rfl (by kernel_rfl) rfl (by simp [Value.oneCell']) (Nat.le_refl _) (Nat.le_of_lt hs5) ?_; intro w6 hh6 hb6; have HY6 := Lib.hid hh6; have HB46 := Lib.hid (HB45.out.trans hb6); have HX6 := Lib.hid (heap_below HB46.out HX4.out); have HO6 := Lib.hid (HO4.out.mono HB46.out); have HB6 := Lib.hid (HB4.out.trans (HB46.out.mono HB4.out.size)); clear hh6 hb6)))
    clear c0 c1 c2
    go_loopw [4] (fun i wr => ∃ t : Nat, t ≤ 2 ∧ i = .int .i64 t ∧ Hid (Below w6.heap.size w6 wr)) (fun i _ => 2 - (intOf i).toNat)
    case atStart => exact ⟨0, by omega, rfl, Below.refl _ _⟩
    case round =>
      obtain ⟨t, ht, rfl, HW⟩ := hrel
      have HBr := Lib.hid (HB6.out.trans (HW.out.mono HB6.out.size))
      have HXr := Lib.hid (heap_below HW.out HX6.out)
      have HYr := Lib.hid (heap_below HW.out HY6.out)
      have HOr := Lib.hid (HO6.out.mono HW.out)
      have HHr := Lib.hid (HH.out.mono HBr.out)
      obtain ⟨c0, c1, c2⟩ := obj_box HXr.out
      obtain ⟨d0, d1, d2⟩ := obj_box HYr.out
      have hzr := HW.out.size
      by_cases hlt : t < 2
      · go_wp2_with (first
          | (go_at_call 8; refine (HFI.out _ _ _ _ HOr.out).mono ?_; rintro e w8 ⟨⟨a8, n8, c8, rfl, hg8⟩, hb8⟩; have HG8 := Lib.hid (hg8.base hzr); have HB8 := Lib.hid hb8; obtain ⟨c0, c1, c2⟩ := obj_box (heap_below hb8 HXr.out); obtain ⟨d0, d1, d2⟩ := obj_box (heap_below hb8 HYr.out); clear hb8 hg8)
          | (go_at_call 9; refine (HFR.out _ _ _ _ (HHr.out.mono HB8.out)).mono ?_; rintro e w9 ⟨⟨a9, n9, c9, rfl, hg9⟩, hb9⟩; have HF9 := Lib.hid hg9; have HG9 := Lib.hid (HG8.out.mono hb9); have HB9 := Lib.hid (HB8.out.trans (hb9.mono HB8.out.size)); have HX9 := Lib.hid (heap_below HB9.out HXr.out); have HY9 := Lib.hid (heap_below HB9.out HYr.out); obtain ⟨c0, c1, c2⟩ := obj_box HX9.out; obtain ⟨d0, d1, d2⟩ := obj_box HY9.out; clear hb9 hg9))
        have hB0 : Below w6.heap.size w6 w9 := HW.out.trans (HB9.out.mono hzr)
        have HB69 := Lib.hid hB0
        have HO9 := Lib.hid (HOr.out.mono HB9.out)
        have HH9 := Lib.hid (HHr.out.mono HB9.out)
        have HYD : Hid (∀ M pu su wx, ObjAt wx o M pu su → Calls Try.prog 10 #[objV o pu su] wx fun e w' => (∃ v, e = .returned v ∧ (YTx df).R v w') ∧ Below wx.heap.size wx w') := Lib.hid (fun M pu su wx hx => (HDP.out M pu su wx hx).mono fun r w' ⟨⟨a, n, c, h1, h2⟩, h3⟩ => by
          obtain ⟨m', a', c', hm', e1, -, -⟩ := h2.shape
          cases e1
          have e2 := hm'.out
          subst e2
          exact ⟨⟨_, h1, (a, c), rfl, h2.rd⟩, h3⟩)
        have HYR : Hid (∀ M pu su wx, ObjAt wx o M pu su → Calls Try.prog 11 #[objV o pu su] wx fun e w' => (∃ v, e = .returned v ∧ (YTx df).R v w') ∧ Below wx.heap.size wx w') := Lib.hid (fun M pu su wx hx => (HDR.out M pu su wx hx).mono fun r w' ⟨⟨a, n, c, h1, h2⟩, h3⟩ => by
          obtain ⟨m', a', c', hm', e1, -, -⟩ := h2.shape
          cases e1
          have e2 := hm'.out
          subst e2
          exact ⟨⟨_, h1, (a, c), rfl, h2.rd⟩, h3⟩)
        have hAB := fun (x : Above w9) (b k : Nat) (h : b < w9.heap.size) => Above.cell x b k h
        have l0 := block_lt c0
        have l1 := block_lt d0
        refine wp_region_walk 6 [(1, YTx df), (3, YTx df)] (by kernel_rfl) (by kernel_rfl) ?_
        simp only [List.take_succ_cons, List.take_zero, List.drop_succ_cons, List.drop_zero]
        repeat (refine walk_quiet rfl rfl rfl ?_; intro K hK; go_big_quiet_op; go_big_quiet_on)
        refine walk_made rfl rfl (fun wx hwx _ => WpYld.call (run_callL (vals := [_]) Try.func10 (by kernel_rfl) rfl rfl) ((HYD.out _ _ _ wx (HO9.out.mono hwx)).mono fun r w' ⟨⟨v, h1, h2⟩, h3⟩ => ⟨v, h1, h2, h3⟩)) ?_
        rintro ⟨fa, fcp⟩
        show walk _ _ _ _ _ _ _ _ (Act.put _ _ (.slice fa df.length fcp))
        go_frame
        repeat (refine walk_quiet rfl rfl rfl ?_; intro K hK; go_big_quiet_op; go_big_quiet_on)
        refine walk_made rfl rfl (fun wx hwx _ => WpYld.call (run_callL (vals := [_]) Try.func11 (by kernel_rfl) rfl rfl) ((HYR.out _ _ _ wx (HH9.out.mono hwx)).mono fun r w' ⟨⟨v, h1, h2⟩, h3⟩ => ⟨v, h1, h2, h3⟩)) ?_
        rintro ⟨ga, gcp⟩
        show walk _ _ _ _ _ _ _ _ (Act.put _ _ (.slice ga df.length gcp))
        go_frame
        repeat (refine walk_quiet rfl rfl rfl ?_; intro K hK; go_big_quiet_op; go_big_quiet_on)
        refine walk_nil ?_
        intro wz hbz hF
        have HFA := Lib.hid (YTx_got (hF 1 _ 34 _ rfl rfl rfl rfl))
        have HGA := Lib.hid (YTx_got (hF 3 _ 36 _ rfl rfl rfl rfl))
        have HBz := Lib.hid (HB69.out.trans (hbz.mono HB69.out.size))
        have HB9z := Lib.hid hbz
        clear hF hAB hbz hB0
        have HXz := Lib.hid (heap_below HB9z.out HX9.out)
        have HYz := Lib.hid (heap_below HB9z.out HY9.out)
        have HOz := Lib.hid (HO9.out.mono HB9z.out)
        have HHz := Lib.hid (HH9.out.mono HB9z.out)
        have HGz := Lib.hid (HG9.out.mono HB9z.out)
        have HFz := Lib.hid (HF9.out.mono HB9z.out)
        clear c0 c1 c2 d0 d1 d2
        obtain ⟨c0, c1, c2⟩ := obj_box HXz.out
        obtain ⟨d0, d1, d2⟩ := obj_box HYz.out
        have hAB := fun (x : Above wz) (b k : Nat) (h : b < wz.heap.size) => Above.cell x b k h
        have l0 := block_lt c0
        have l1 := block_lt d0
        have hk1 := fun (x : Above wz) => run_str (HGz.out.mono x.h).bs
        have hk2 := fun (x : Above wz) => run_str (HFz.out.mono x.h).bs
        have hm1 : (mo != mo) = false := by simp
        have hm2 : (fc != fc) = false := by simp
        have hm3 : (fb != fb) = false := by simp
        go_wp2
        refine wp_region_walk 30 [(1, .is (.int .i64 mo)), (3, .is (.int .i64 mo)), (27, .is (.bool true))] (by kernel_rfl) (by kernel_rfl) ?_
        simp only [List.take_succ_cons, List.take_zero, List.drop_succ_cons, List.drop_zero]
        repeat (refine walk_quiet rfl rfl rfl ?_; intro K hK; go_big_quiet_op; go_big_quiet_on)
        refine walk_is rfl rfl (fun wx hwx _ => WpYld.callIsB (run_callL (vals := [_]) Try.func12 (by kernel_rfl) rfl rfl) (HMP.out _ _ _ wx (HOz.out.mono hwx))) ?_
        go_frame
        repeat (refine walk_quiet rfl rfl rfl ?_; intro K hK; go_big_quiet_op; go_big_quiet_on)
        refine walk_is rfl rfl (fun wx hwx _ => WpYld.callIsB (run_callL (vals := [_]) Try.func13 (by kernel_rfl) rfl rfl) (HMR.out _ _ _ wx (HHz.out.mono hwx))) ?_
        go_frame
        repeat (refine walk_quiet rfl rfl rfl ?_; intro K hK; go_big_quiet_op; go_big_quiet_on)
        refine walk_is rfl rfl (fun wx hwx _ => WpYld.callIsB (run_callL (vals := [_, _]) Try.func14 (by kernel_rfl) rfl rfl) (HSM.out _ _ _ _ _ _ wx (HOz.out.mono hwx) (HHz.out.mono hwx))) ?_
        go_frame
        repeat (refine walk_quiet rfl rfl rfl ?_; intro K hK; go_big_quiet_op; go_big_quiet_on)
        refine walk_nil ?_
        intro wq hbq _
        have HBq := Lib.hid (HBz.out.trans (hbq.mono HBz.out.size))
        have HFAq := Lib.hid (show Rd S wq (.slice fa df.length fcp) df from Reads.mono HFA.out hbq)
        have HGAq := Lib.hid (show Rd S wq (.slice ga df.length gcp) df from Reads.mono HGA.out hbq)
        have HGq := Lib.hid (HGz.out.mono hbq)
        clear hAB hbq hk1 hk2 hm1 hm2 hm3 c0 c1 c2 d0 d1 d2
        obtain ⟨nd, hnd⟩ : ∃ n, n = df.length := ⟨_, rfl⟩
        rw [← hnd] at HFAq HGAq ⊢
        have HND := Lib.hid hnd
        have hnd9 : nd ≤ 1000 := by have := HDL.out; omega
        clear hnd
        go_wp2
        go_loopw [11] (fun i wr => ∃ j : Nat, j ≤ nd ∧ i = .int .i64 j ∧ Hid (Below wq.heap.size wq wr)) (fun i _ => nd - (intOf i).toNat)
        case atStart => exact ⟨0, Nat.zero_le _, rfl, Below.refl _ _⟩
        case round =>
          obtain ⟨j, hj, rfl, HWj⟩ := hrel
          have HBj := Lib.hid (HBq.out.trans (HWj.out.mono HBq.out.size))
          by_cases hlt2 : j < nd
          · obtain ⟨fa', fc', ef, -, -, hf⟩ := (show Rd S wr (.slice fa nd fcp) df from Reads.mono HFAq.out HWj.out).open []
            obtain ⟨ga', gc', eg, -, -, hg⟩ := (show Rd S wr (.slice ga nd gcp) df from Reads.mono HGAq.out HWj.out).open []
            injection ef with ef1 ef2 ef3
            injection eg with eg1 eg2 eg3
            subst ef1 eg1
            obtain ⟨b1, o1, rfl, e1⟩ := hf j (by have := HND.out; omega)
            obtain ⟨b2, o2, rfl, e2⟩ := hg j (by have := HND.out; omega)
            clear hf hg ef2 ef3 eg2 eg3
            generalize df[j]?.getD [] = s at *
            have hs1 : (s != s) = false := by simp
            go_wp2
            go_quiet (fail)
            have HWd := Lib.hid (HWj.out.trans ((below_drewN (Below.refl _ wr) nq).mono HWj.out.size))
            generalize wr.drewN nq = wd at *
            go_wp2
            go_roundw
            case rel => exact ⟨j + 1, by omega, by go_num, HWd.out⟩
            case measure => simp [intOf] <;> omega
          · obtain rfl : j = nd := by omega
            have HGj := Lib.hid (HGq.out.mono HWj.out)
            go_wp2_with (go_at_call 15; refine (spoil_any fb _ _ _ HFL.out HGj.out).mono ?_; rintro e ws ⟨rfl, hgs⟩; have HBs := Lib.hid (HBj.out.trans (below_spoil HGj.out hgs HBj.out.size)); clear hgs)
            go_roundw
            case rel => exact ⟨t + 1, by omega, by go_num, HBs.out⟩
            case measure => simp [intOf] <;> omega
      · obtain rfl : t = 2 := by omega
        go_wp2
        go_ret
        exact ⟨rfl, HBr.out⟩
end Go.Proofs.Ytimnbnomaajmmaa
namespace Go.Proofs.Ytimnbnomaajmmaa
open Go.ChangeShapes Go.WideShapes Go.ChangeAt Go.RowKit Go.Fd
theorem Try.own : ownKnob Try.prog.godebug = none := by kernel_rfl
theorem Try.laidOut : laidOutB Try.prog = true := by kernel_rfl
/-- All arguments read behind the call as they read before it. -/
theorem belowAll {H : Type} {enc : TypeId × Value → H} {W W' : World} (hb : Below W.heap.size W W') : ∀ {ts : List TypeId} {vs : List Value} {ds : List (DataW H)} {ps : List MemPlace},
    DataW.TrodAll enc Try.prog W 0 (fun _ => true) true ts vs ds ps → (∀ x ∈ ps, x.block < W.heap.size) → (∀ t ∈ ts, Try.prog.readableRec t = true ∧ t < Try.prog.types.size) →
    DataW.TrodAll enc Try.prog W' 0 (fun b => decide (b < W.heap.size)) true ts vs ds ps
  | [], vs, ds, ps, h, _, _ => by obtain ⟨rfl, rfl, rfl⟩ := trodAll_nil h; exact trodAll_mk0
  | t :: ts, vs, ds, ps, h, hlt, ht => by
    obtain ⟨v, vs', d, ds', p, q, rfl, rfl, rfl, h0, h1⟩ := trodAll_cons h
    exact trodAll_cons_mk (Below.trod Try.laidOut (ht t (by simp)).1 (ht t (by simp)).2 h0 hb fun x hx => hlt x (by simp [hx]))
      (belowAll hb h1 (fun x hx => hlt x (by simp [hx])) fun u hu => ht u (by simp [hu]))
/-- The same, the types asked as one closed fact. -/
theorem belowAllB {H : Type} {enc : TypeId × Value → H} {W W' : World} {ts : List TypeId} (ht : (ts.all fun t => Try.prog.readableRec t && decide (t < Try.prog.types.size)) = true) (hb : Below W.heap.size W W') {vs : List Value} {ds : List (DataW H)} {ps : List MemPlace}
    (h : DataW.TrodAll enc Try.prog W 0 (fun _ => true) true ts vs ds ps) (hlt : ∀ x ∈ ps, x.block < W.heap.size) : DataW.TrodAll enc Try.prog W' 0 (fun b => decide (b < W.heap.size)) true ts vs ds ps :=
  belowAll hb h hlt fun t htm => by
    have := List.all_eq_true.1 ht t htm
    simp only [Bool.and_eq_true, decide_eq_true_eq] at this
    exact this
theorem wf_u64 {x : Int} (h : (Lit.int .u64 x).wf = true) : 0 ≤ x ∧ x < 18446744073709551616 := by
  simp [Lit.wf, IntKind.min, IntKind.max, IntKind.signed, IntKind.bits] at h
  exact ⟨by omega, by omega⟩
theorem wf_i64' {x : Int} (h : (Lit.int .i64 x).wf = true) : -9223372036854775808 ≤ x ∧ x < 9223372036854775808 := by
  simp [Lit.wf, IntKind.min, IntKind.max, IntKind.signed, IntKind.bits] at h
  exact ⟨by omega, by omega⟩
theorem len_3 {α : Type} : ∀ {l : List α}, l.length = 3 → ∃ a0 a1 a2, l = [a0, a1, a2]
  | [a0, a1, a2], _ => ⟨a0, a1, a2, rfl⟩
theorem len_4 {α : Type} : ∀ {l : List α}, l.length = 4 → ∃ a0 a1 a2 a3, l = [a0, a1, a2, a3]
  | [a0, a1, a2, a3], _ => ⟨a0, a1, a2, a3, rfl⟩
theorem len_6 {α : Type} : ∀ {l : List α}, l.length = 6 → ∃ a0 a1 a2 a3 a4 a5, l = [a0, a1, a2, a3, a4, a5]
  | [a0, a1, a2, a3, a4, a5], _ => ⟨a0, a1, a2, a3, a4, a5, rfl⟩
end Go.Proofs.Ytimnbnomaajmmaa
namespace Go.Fd
def RelaM.fits (x : RelaM) : Prop := x.off < 18446744073709551616 ∧ -9223372036854775808 ≤ x.add ∧ x.add < 9223372036854775808
end Go.Fd
namespace Go.Proofs.Ytimnbnomaajmmaa
open Go.ChangeMaps Go.ChangeShapes Go.WideShapes Go.ChangeAt Go.RowKit Go.Fd
/-- A struct of cells, each field of one cell: how each reads. -/
theorem cells_struct {H : Type} {enc : TypeId × Value → H} {P : Program} {w : World} {base : Nat} {spare : Nat → Bool} {held : Bool} {t : TypeId} {fs : Array Field} {cs : List Value} {fuel : Nat} {y : DataW H × List MemPlace}
    (hs : P.underlying t = some (.struct fs)) (hone : Go.Deep.oneCellFields P fs = true) (hC : cs.length = fs.size) (h : DataW.trod enc P w base spare held fuel t cs = some y) :
    ∃ n, ∀ (j : Nat) (f : Field), fs[j]? = some f → ∃ x y, cs[j]? = some x ∧ DataW.trod enc P w base spare held n f.type [x] = some y := by
  obtain ⟨xs, n, _, hx, _, hlen, hg⟩ := DataW.trod_struct hs h
  refine ⟨n, fun j f hj => ?_⟩
  obtain ⟨o, k⟩ := Go.Deep.hone_of hone j f hj
  have hjl : j < fs.size := (Array.getElem?_eq_some_iff.1 hj).1
  have hcl : j < cs.length := by omega
  have h1 := hg j f hj
  rw [o, k] at h1
  have h2 : (List.drop j cs).take 1 = [cs[j]] := by
    rw [List.drop_eq_getElem_cons hcl]
    rfl
  rw [h2] at h1
  exact ⟨_, xs[j]'(by omega), List.getElem?_eq_getElem hcl, h1.trans (List.getElem?_eq_getElem _)⟩
end Go.Proofs.Ytimnbnomaajmmaa
namespace Go.Proofs.Ytimnbnomaajmmaa
open Go
theorem handed_cond {H : Type} {enc : TypeId × Value → H} {a : Assume} {C : Go.Checked} {os : Os} {f : FuncId} {fn : Func} {s : OpenSpec} {k : (H : Type) → List (DataW H) → Bool} (hk : s.cond = some k) {F : Stop.Interp} {conds : List PathCond} {apart fresh handsOn again : Bool}
    (own : ownKnob C.prog.godebug = none) (started : os.Started) (noInit : C.prog.inits.idxOf? f = none) (hfn : C.prog.funcs[f]? = some fn)
    (witness : ∃ (w : World) (tape : Tape) (i : Input), w.os = os ∧ (w.forCall tape i).Shaped C.prog ∧ i.vars = [] ∧ Input.okWide C.prog (w.forCall tape i) .any w.heap.size f i ∧
      s.pre6 enc C.prog fn conds apart (w.forCall tape i).memory i.args ∧ a.holds C.prog (lone (Frame.enter C.prog f i.args .normal) [] (w.forCall tape i)))
    (contract : ∀ (W : World) (base : Nat) (args : Array Value) (ds gs : List (DataW H)) (before : List MemPlace),
      (∀ (j : Nat) t v, fn.params[j]? = some t → args[j]? = some v → Value.okWide C.prog W .any base t v) →
      DataW.Whole enc C.prog fn.params.toList s.vars apart W args.toList ds gs before →
      k H (ds ++ gs) = true →
      (DataW.weightsEach C.prog (fn.params.toList ++ s.bare.plain.varTypes C.prog) (ds ++ gs)).all (· ≤ reachBytes) = true →
      W.ShapedOpen C.prog →
      Calls C.prog f args W fun e W' => ∃ v, e = .returned v ∧ (s.at F).post enc C.prog fn apart fresh handsOn again W args v W') :
    ReturnsInHanded a C os f .any (s.pre6 enc C.prog fn conds apart) ((s.at F).post enc C.prog fn apart fresh handsOn again) := by
  refine returnsInHanded_of_calls own started noInit witness ?_
  intro w tape i _ hsh _ hok hpre _
  obtain ⟨_, _, _, fn', hfn', _, _, _, _, hval⟩ := hok
  obtain rfl : fn' = fn := Option.some.inj (hfn'.symm.trans hfn)
  obtain ⟨ds, gs, before, hw, _, hkk⟩ := (OpenSpec.pre_some hk conds apart _ _).1 hpre.1
  refine (contract (w.forCall tape i) w.heap.size i.args ds gs before hval (DataW.Whole.of_heap (w' := w.forCall tape i) (by rfl) hw) hkk (hpre.2.weights hw) hsh).mono fun e W' ⟨v, he, hp⟩ => ?_
  subst he
  exact ChangeSpec.post_blind hp
end Go.Proofs.Ytimnbnomaajmmaa
namespace Go.Proofs.Ytimnbnomaajmmaa
open Go.ChangeMaps Go.ChangeShapes Go.WideShapes Go.ChangeAt Go.RowKit Go.Fd
section
variable {H : Type}
theorem bulkAll_append (xs ys : List (DataW H)) : Rows.uptoBulkAll (xs ++ ys) = Rows.uptoBulkAll xs + Rows.uptoBulkAll ys := by
  induction xs with
  | nil => simp [Rows.uptoBulkAll]
  | cons x xs ih => rw [List.cons_append, Rows.uptoBulkAll, Rows.uptoBulkAll, ih]; omega
theorem bulk_get {xs : List (DataW H)} {i : Nat} {x : DataW H} (h : xs[i]? = some x) : Rows.uptoBulk x ≤ Rows.uptoBulkAll xs := by
  induction xs generalizing i with
  | nil => simp at h
  | cons y xs ih =>
    rw [Rows.uptoBulkAll]
    cases i with
    | zero => simp at h; subst h; omega
    | succ i => have := ih (by simpa using h); omega
theorem bulk_pair {xs : List (DataW H)} {i j : Nat} {x y : DataW H} (hij : i < j) (hx : xs[i]? = some x) (hy : xs[j]? = some y) : Rows.uptoBulk x + Rows.uptoBulk y ≤ Rows.uptoBulkAll xs := by
  induction xs generalizing i j with
  | nil => simp at hx
  | cons z xs ih =>
    rw [Rows.uptoBulkAll]
    cases j with
    | zero => omega
    | succ j =>
      cases i with
      | zero => simp at hx; subst hx; have := bulk_get (xs := xs) (i := j) (by simpa using hy); omega
      | succ i => have := ih (i := i) (j := j) (by omega) (by simpa using hx) (by simpa using hy); omega
end
set_option maxRecDepth 100000 in
/-- A slice of records, as it is read, with a measure of each. -/
theorem trod_recs {H : Type} {enc : TypeId × Value → H} {W : World} {v : Value} {y : DataW H × List MemPlace} {fuel : Nat} {α : Type} {k : Nat} {ec : α → List Value} {good : α → Prop} {μ : α → Nat} {t e : TypeId}
    (ht : Try.prog.underlying t = some (.slice e)) (hc : Try.prog.cellsOf e = k) (hk0 : 0 < k) (hlen : ∀ x, (ec x).length = k)
    (hstep : ∀ n cs y, DataW.trod enc Try.prog W 0 (fun _ => true) true n e cs = some y → cs.length = k → ∃ x, cs = ec x ∧ good x ∧ μ x ≤ Rows.uptoBulk y.1)
    (h : DataW.trod enc Try.prog W 0 (fun _ => true) true fuel t [v] = some y) : ∃ l : List α, RdR k ec W v l ∧ (∀ x ∈ l, good x) ∧ (l.map μ).sum + 1 ≤ Rows.uptoBulk y.1 := by
  rcases Go.Deep.open_slice ht h with ⟨hcs, hx⟩ | ⟨a, len, cap, m, n, D, Pl, hcs, _, hl, hm, hmm, hd, hel⟩
  · simp at hcs
    subst hcs hx
    exact ⟨[], RdR.nil k ec W, (fun x hx => by cases hx), by simp [Rows.uptoBulk]⟩
  · simp at hcs
    subst hcs hd
    simp only [hc] at hel
    have hall : ∀ n', n' ≤ len → ∃ l : List α, l.length = n' ∧ (l.map μ).sum ≤ Rows.uptoBulkAll ((List.range n').map D) ∧ ∀ i x, l[i]? = some x → good x ∧ ∀ c, c < k → W.cell? (a.add (i * k + c)) = (ec x)[c]? := by
      intro n'
      induction n' with
      | zero => exact fun _ => ⟨[], rfl, by simp, fun i x h => by simp at h⟩
      | succ n' ih =>
        intro hn
        obtain ⟨l, h1, hs, h2⟩ := ih (by omega)
        obtain ⟨cs', h3, h4⟩ := hel n' (by simp at hmm; omega)
        obtain ⟨-, h5, h6⟩ := World.cells?_some h3
        obtain ⟨x, rfl, hg, hμ⟩ := hstep _ _ _ h4 h5
        dsimp only at hμ
        refine ⟨l ++ [x], by simp [h1], ?_, fun i y hi => ?_⟩
        · rw [List.range_succ, List.map_append, List.map_append, List.sum_append, bulkAll_append]
          simp [Rows.uptoBulkAll]
          omega
        · rcases Nat.lt_or_ge i n' with hlt | hge
          · rw [List.getElem?_append_left (by omega)] at hi
            exact h2 i y hi
          · rw [List.getElem?_append_right (by omega)] at hi
            have hi0 : i - l.length = 0 := by
              have := (List.getElem?_eq_some_iff.1 hi).1
              simp at this
              omega
            rw [hi0] at hi
            cases hi
            obtain rfl : i = n' := by omega
            refine ⟨hg, fun c hc => ?_⟩
            have := h6 c hc
            rwa [Go.Deep.add_add] at this
    obtain ⟨l, h1, hs, h2⟩ := hall len (Nat.le_refl _)
    refine ⟨l, ⟨by rw [flat_len hlen], some a, cap, by rw [h1], by omega, (fun h => by cases h), fun j hj => ?_⟩, fun x hx => ?_, ?_⟩
    · rw [flat_len hlen] at hj
      have hjk : j = j / k * k + j % k := by rw [Nat.mul_comm]; exact (Nat.div_add_mod j k).symm
      have hi : j / k < l.length := (Nat.div_lt_iff_lt_mul hk0).2 hj
      have hx : l[j / k]? = some l[j / k] := List.getElem?_eq_getElem hi
      have h3 := (h2 _ _ hx).2 (j % k) (Nat.mod_lt _ hk0)
      rw [← hjk] at h3
      have h4 := flat_get hlen l (j / k) (j % k) _ hx (Nat.mod_lt _ hk0)
      rw [← hjk] at h4
      obtain ⟨b, off, spot⟩ := a
      have hspot : spot = none := by
        have hl0 : 0 < l.length := Nat.lt_of_le_of_lt (Nat.zero_le _) hi
        have hx0 : l[0]? = some (l[0]'hl0) := List.getElem?_eq_getElem _
        have h0 := (h2 0 _ hx0).2 0 hk0
        have h5 : (ec (l[0]'hl0))[0]? = some ((ec (l[0]'hl0))[0]'(by rw [hlen]; exact hk0)) := List.getElem?_eq_getElem _
        rw [h5, Nat.zero_mul, Nat.zero_add] at h0
        simpa [Addr.add] using World.cell?_spot h0
      subst hspot
      refine ⟨b, off, rfl, ?_⟩
      rw [add_plain] at h3
      rw [h3, h4]
    · obtain ⟨i, hi⟩ := List.mem_iff_getElem?.1 hx
      exact (h2 i x hi).1
    · rw [Rows.uptoBulk]
      omega
theorem flat_one {α β : Type} (f : α → β) (l : List α) : l.flatMap (fun c => [f c]) = l.map f := by
  induction l with
  | nil => rfl
  | cons x l ih => rw [List.flatMap_cons, ih]; rfl
set_option maxRecDepth 100000 in
theorem trod_bytes {H : Type} {enc : TypeId × Value → H} {W : World} {v : Value} {y : DataW H × List MemPlace} {fuel : Nat} (h : DataW.trod enc Try.prog W 0 (fun _ => true) true fuel 29 [v] = some y) :
    ∃ l : List UInt8, Bs W v l ∧ l.length + 1 ≤ Rows.uptoBulk y.1 := by
  obtain ⟨l, h1, -, h3⟩ := trod_recs (α := UInt8) (k := 1) (ec := fun c => [B c]) (good := fun _ => True) (μ := fun _ => 1) (e := 5) (by kernel_rfl) (by kernel_rfl) (by decide) (fun _ => rfl) (fun n cs y h hl => by
    obtain ⟨z, rfl, hy, hw⟩ := DataW.trod_int Try.underlying5 h
    refine ⟨UInt8.ofNat z.toNat, ?_, trivial, ?_⟩
    · simp [Lit.wf, IntKind.min, IntKind.max, IntKind.signed, IntKind.bits] at hw
      simp [B]
      omega
    · rw [hy]
      simp [Rows.uptoBulk]) h
  refine ⟨l, ?_, by rw [List.map_const', List.sum_replicate_nat] at h3; omega⟩
  have e := flat_one B l
  unfold RdR at h1
  rw [e] at h1
  exact h1
theorem wf_i64 {x : Int} (h : (Lit.int .i64 x).wf = true) : -9223372036854775808 ≤ x ∧ x < 9223372036854775808 := by
  simp [Lit.wf, IntKind.min, IntKind.max, IntKind.signed, IntKind.bits] at h
  omega
/-- A struct of cells, each field of one cell: how each reads, with what was read. -/
theorem cells_struct2 {H : Type} {enc : TypeId × Value → H} {P : Program} {w : World} {base : Nat} {spare : Nat → Bool} {held : Bool} {t : TypeId} {fs : Array Field} {cs : List Value} {fuel : Nat} {y : DataW H × List MemPlace}
    (hs : P.underlying t = some (.struct fs)) (hone : Go.Deep.oneCellFields P fs = true) (hC : cs.length = fs.size) (h : DataW.trod enc P w base spare held fuel t cs = some y) :
    ∃ n ds, y.1 = .agg ds ∧ ∀ (j : Nat) (f : Field), fs[j]? = some f → ∃ x z, cs[j]? = some x ∧ DataW.trod enc P w base spare held n f.type [x] = some z ∧ ds[j]? = some z.1 := by
  obtain ⟨xs, n, _, hx, _, hlen, hg⟩ := DataW.trod_struct hs h
  refine ⟨n, xs.map (·.1), by rw [hx], fun j f hj => ?_⟩
  obtain ⟨o, k⟩ := Go.Deep.hone_of hone j f hj
  have hjl : j < fs.size := (Array.getElem?_eq_some_iff.1 hj).1
  have hcl : j < cs.length := by omega
  have h1 := hg j f hj
  rw [o, k] at h1
  have h2 : (List.drop j cs).take 1 = [cs[j]] := by
    rw [List.drop_eq_getElem_cons hcl]
    rfl
  rw [h2] at h1
  exact ⟨_, xs[j]'(by omega), List.getElem?_eq_getElem hcl, h1.trans (List.getElem?_eq_getElem _), by rw [List.getElem?_map, List.getElem?_eq_getElem (by omega)]; rfl⟩
end Go.Proofs.Ytimnbnomaajmmaa
namespace Go.Proofs.Ytimnbnomaajmmaa
open Go.ChangeMaps Go.ChangeShapes Go.WideShapes Go.ChangeAt Go.RowKit Go.Fd
set_option maxRecDepth 100000 in
theorem trod_relasB {H : Type} {enc : TypeId × Value → H} {W : World} {v : Value} {y : DataW H × List MemPlace} {fuel : Nat} (h : DataW.trod enc Try.prog W 0 (fun _ => true) true fuel 41 [v] = some y) :
    ∃ l : List RelaM, RdR 4 encRela W v l ∧ (∀ x ∈ l, x.fits) ∧ l.length + 1 ≤ Rows.uptoBulk y.1 := by
  obtain ⟨l, h1, h2, h3⟩ := trod_recs (α := RelaM) (k := 4) (ec := encRela) (good := RelaM.fits) (μ := fun _ => 1) (e := 65) (by kernel_rfl) (by kernel_rfl) (by decide) (fun _ => rfl) (fun n cs y h hl => by
    obtain ⟨xs, n', -, rfl, -, -, -⟩ := DataW.trod_struct Try.underlying65 h
    obtain ⟨m, hf⟩ := cells_struct Try.underlying65 (by kernel_rfl) hl h
    obtain ⟨c0, c1, c2, c3, rfl⟩ := len_4 hl
    obtain ⟨x0, y0, e0, t0⟩ := hf 0 _ rfl
    obtain ⟨x1, y1, e1, t1⟩ := hf 1 _ rfl
    obtain ⟨x2, y2, e2, t2⟩ := hf 2 _ rfl
    obtain ⟨x3, y3, e3, t3⟩ := hf 3 _ rfl
    cases e0; cases e1; cases e2; cases e3
    obtain ⟨n0, q0, -, w0⟩ := DataW.trod_int Try.underlying44 t0
    obtain ⟨n1, q1, -, -⟩ := DataW.trod_int Try.underlying3 t1
    obtain ⟨n2, q2, -, -⟩ := DataW.trod_int Try.underlying3 t2
    obtain ⟨n3, q3, -, w3⟩ := DataW.trod_int Try.underlying2 t3
    cases q0; cases q1; cases q2; cases q3
    have h0 := wf_u64 w0
    refine ⟨⟨n0.toNat, n1, n2, n3⟩, ?_, ⟨by show n0.toNat < _; omega, wf_i64' w3⟩, by simp [Rows.uptoBulk]⟩
    have i0 : ((n0.toNat : Nat) : Int) = n0 := by omega
    unfold encRela
    rw [i0]) h
  exact ⟨l, h1, h2, by rw [List.map_const', List.sum_replicate_nat] at h3; omega⟩
set_option maxRecDepth 100000 in
theorem trod_symsB {H : Type} {enc : TypeId × Value → H} {W : World} {v : Value} {y : DataW H × List MemPlace} {fuel : Nat} (h : DataW.trod enc Try.prog W 0 (fun _ => true) true fuel 23 [v] = some y) :
    ∃ l : List SymM, RdR 6 encSym W v l ∧ (∀ x ∈ l, x.name.length ≤ 9223372036854775807 ∧ x.value < 18446744073709551616 ∧ x.size < 18446744073709551616) := by
  obtain ⟨l, h1, h2, -⟩ := trod_recs (α := SymM) (k := 6) (ec := encSym) (good := fun x => x.name.length ≤ 9223372036854775807 ∧ x.value < 18446744073709551616 ∧ x.size < 18446744073709551616) (μ := fun _ => 0) (e := 46) (by kernel_rfl) (by kernel_rfl) (by decide) (fun _ => rfl) (fun n cs y h hl => by
    obtain ⟨m, hf⟩ := cells_struct Try.underlying46 (by kernel_rfl) hl h
    obtain ⟨c0, c1, c2, c3, c4, c5, rfl⟩ := len_6 hl
    obtain ⟨x0, y0, e0, t0⟩ := hf 0 _ rfl
    obtain ⟨x1, y1, e1, t1⟩ := hf 1 _ rfl
    obtain ⟨x2, y2, e2, t2⟩ := hf 2 _ rfl
    obtain ⟨x3, y3, e3, t3⟩ := hf 3 _ rfl
    obtain ⟨x4, y4, e4, t4⟩ := hf 4 _ rfl
    obtain ⟨x5, y5, e5, t5⟩ := hf 5 _ rfl
    cases e0; cases e1; cases e2; cases e3; cases e4; cases e5
    obtain ⟨s, q0, -, hs⟩ := DataW.trod_string Try.underlying9 t0
    obtain ⟨n1, q1, -, -⟩ := DataW.trod_int Try.underlying3 t1
    obtain ⟨n2, q2, -, -⟩ := DataW.trod_int Try.underlying3 t2
    obtain ⟨n3, q3, -, -⟩ := DataW.trod_int Try.underlying3 t3
    obtain ⟨n4, q4, -, w4⟩ := DataW.trod_int Try.underlying44 t4
    obtain ⟨n5, q5, -, w5⟩ := DataW.trod_int Try.underlying44 t5
    cases q0; cases q1; cases q2; cases q3; cases q4; cases q5
    have h4 := wf_u64 w4
    have h5 := wf_u64 w5
    unfold maxLen at hs
    have g1 : s.data.toList.length ≤ 9223372036854775807 := by simpa using hs
    refine ⟨⟨s.data.toList, n1, n2, n3, n4.toNat, n5.toNat⟩, ?_, ⟨g1, by show n4.toNat < _; omega, by show n5.toNat < _; omega⟩, Nat.zero_le _⟩
    have i4 : ((n4.toNat : Nat) : Int) = n4 := by omega
    have i5 : ((n5.toNat : Nat) : Int) = n5 := by omega
    unfold encSym
    rw [i4, i5]) h
  exact ⟨l, h1, h2⟩
/-- What is known of a part among the arguments. -/
def PartGood (W : World) (p : PartM × Value × Value) : Prop := (p.1.name.length ≤ 9223372036854775807 ∧ p.1.flags.length ≤ 9223372036854775807) ∧ ((-9223372036854775808 ≤ p.1.align ∧ p.1.align < 9223372036854775808) ∧ (-9223372036854775808 ≤ p.1.size ∧ p.1.size < 9223372036854775808)) ∧ Bs W p.2.1 p.1.data ∧ RdR 4 encRela W p.2.2 p.1.relas ∧ ∀ x ∈ p.1.relas, x.fits
set_option maxRecDepth 100000 in
theorem trod_parts {H : Type} {enc : TypeId × Value → H} {W : World} {v : Value} {y : DataW H × List MemPlace} {fuel : Nat} (h : DataW.trod enc Try.prog W 0 (fun _ => true) true fuel 22 [v] = some y) :
    ∃ l : List (PartM × Value × Value), RdR 6 encPart W v l ∧ (∀ p ∈ l, PartGood W p) ∧ (l.map fun p => p.1.data.length + p.1.relas.length + 1).sum + 1 ≤ Rows.uptoBulk y.1 := by
  refine trod_recs (α := PartM × Value × Value) (k := 6) (ec := encPart) (good := PartGood W) (e := 43) (by kernel_rfl) (by kernel_rfl) (by decide) (fun _ => rfl) (fun n cs y h hl => ?_) h
  obtain ⟨m, ds, hy, hf⟩ := cells_struct2 Try.underlying43 (by kernel_rfl) hl h
  obtain ⟨c0, c1, c2, c3, c4, c5, rfl⟩ := len_6 hl
  obtain ⟨x0, y0, e0, t0, -⟩ := hf 0 _ rfl
  obtain ⟨x1, y1, e1, t1, -⟩ := hf 1 _ rfl
  obtain ⟨x2, y2, e2, t2, -⟩ := hf 2 _ rfl
  obtain ⟨x3, y3, e3, t3, -⟩ := hf 3 _ rfl
  obtain ⟨x4, y4, e4, t4, d4⟩ := hf 4 _ rfl
  obtain ⟨x5, y5, e5, t5, d5⟩ := hf 5 _ rfl
  cases e0; cases e1; cases e2; cases e3; cases e4; cases e5
  obtain ⟨s, q0, -, hs⟩ := DataW.trod_string Try.underlying9 t0
  obtain ⟨f, q1, -, hff⟩ := DataW.trod_string Try.underlying9 t1
  obtain ⟨n2, q2, -, w2⟩ := DataW.trod_int Try.underlying3 t2
  obtain ⟨n3, q3, -, w3⟩ := DataW.trod_int Try.underlying3 t3
  obtain ⟨dl, hdl, hdb⟩ := trod_bytes t4
  obtain ⟨rl, hrl, hrf, hrb⟩ := trod_relasB t5
  cases q0; cases q1; cases q2; cases q3
  have h2 := wf_i64 w2
  have h3 := wf_i64 w3
  unfold maxLen at hs hff
  have g1 : s.data.toList.length ≤ 9223372036854775807 := by simpa using hs
  have g2 : f.data.toList.length ≤ 9223372036854775807 := by simpa using hff
  refine ⟨(⟨s.data.toList, f.data.toList, n2, n3, dl, rl⟩, c4, c5), rfl, ⟨⟨g1, g2⟩, ⟨h2, h3⟩, hdl, hrl, hrf⟩, ?_⟩
  rw [hy, Rows.uptoBulk]
  have := bulk_pair (by decide : 4 < 5) d4 d5
  show dl.length + rl.length + 1 ≤ _
  omega
/-- A module by value, as it is read; how great it is. -/
structure ObjRead (W : World) (v : Value) (n : Nat) (o : ObjM) (L : List (PartM × Value × Value)) (pv sv : Value) : Prop where
  val : v = objV o pv sv
  at_ : ObjAt W o L pv sv
  target : -9223372036854775808 ≤ o.target ∧ o.target < 9223372036854775808
  good : ∀ p ∈ L, PartGood W p
  texts : ∀ s ∈ o.syms, s.name.length ≤ 9223372036854775807 ∧ s.value < 18446744073709551616 ∧ s.size < 18446744073709551616
  size : (L.map fun p => p.1.data.length + p.1.relas.length + 1).sum ≤ n
set_option maxRecDepth 100000 in
theorem reads_obj {H : Type} {enc : TypeId × Value → H} {W : World} {base : Nat} {v : Value} {d : DataW H} {p : List MemPlace} (hv : Value.okWide Try.prog W .any base 25 v) (h : DataW.Trod enc Try.prog W 0 (fun _ => true) true 25 v d p) :
    ∃ o L pv sv, ObjRead W v (Rows.uptoBulk d) o L pv sv := by
  obtain ⟨cs, rfl, hsz⟩ := okWide_struct Try.underlying25 hv
  have h3 : cs.toList.length = 3 := by simp [hsz]; kernel_rfl
  obtain ⟨fuel, hf0⟩ := h
  obtain ⟨m, ds, hy, hf⟩ := cells_struct2 (cs := cs.toList) Try.underlying25 (by kernel_rfl) h3 hf0
  obtain ⟨c0, c1, c2, hcs⟩ := len_3 h3
  rw [hcs] at hf
  obtain ⟨x0, y0, e0, t0, -⟩ := hf 0 _ rfl
  obtain ⟨x1, y1, e1, t1, d1⟩ := hf 1 _ rfl
  obtain ⟨x2, y2, e2, t2, -⟩ := hf 2 _ rfl
  cases e0; cases e1; cases e2
  obtain ⟨n0, q0, -, w0⟩ := DataW.trod_int Try.underlying3 t0
  obtain ⟨L, hL, hg, hs⟩ := trod_parts t1
  obtain ⟨Y, hY, hYg⟩ := trod_symsB t2
  cases q0
  have h0 := wf_i64 w0
  refine ⟨⟨n0, L.map (·.1), Y⟩, L, c1, c2, ?_, ⟨rfl, hL, fun p hp => (hg p hp).2.2.1, fun p hp => (hg p hp).2.2.2.1, hY⟩, h0, hg, hYg, ?_⟩
  · have : cs = #[.int .i64 n0, c1, c2] := by
      rw [← Array.toList_inj, hcs]
    rw [this]
  · dsimp only at hy
    rw [hy, Rows.uptoBulk]
    have := bulk_get d1
    omega
theorem ObjRead.arg {W : World} {v : Value} {n : Nat} {o : ObjM} {L : List (PartM × Value × Value)} {pv sv : Value} (h : ObjRead W v n o L pv sv) (hn : n ≤ 1048576) : ObjArg o := by
  have h1 := h.size
  have hs : psum o.parts ≤ 24 * (L.map fun p => p.1.data.length + p.1.relas.length + 1).sum ∧ o.parts.length ≤ (L.map fun p => p.1.data.length + p.1.relas.length + 1).sum := by
    rw [h.at_.parts]
    clear h h1
    induction L with
    | nil => exact ⟨Nat.zero_le _, Nat.zero_le _⟩
    | cons p L ih =>
      unfold psum at *
      simp only [List.map_cons, List.sum_cons, List.length_cons, List.length_map] at *
      omega
  have hp : ∀ p ∈ o.parts, ∃ q ∈ L, q.1 = p := fun p hp => by
    rw [h.at_.parts] at hp
    obtain ⟨q, hq, rfl⟩ := List.mem_map.1 hp
    exact ⟨q, hq, rfl⟩
  refine ⟨h.target, fun p hm => ?_, fun p hm x hx => ?_, fun s hs => (h.texts s hs).2, by omega, by omega, fun p hm => ?_, fun s hs => (h.texts s hs).1⟩
  · obtain ⟨q, hq, rfl⟩ := hp p hm
    exact (h.good q hq).2.1
  · obtain ⟨q, hq, rfl⟩ := hp p hm
    exact (h.good q hq).2.2.2.2 x hx
  · obtain ⟨q, hq, rfl⟩ := hp p hm
    exact (h.good q hq).1
end Go.Proofs.Ytimnbnomaajmmaa
namespace Go.Proofs.Ytimnbnomaajmmaa
open Go.ChangeShapes Go.WideShapes Go.ChangeAt Go.RowKit Go.Fd
set_option maxRecDepth 100000 in
theorem objectAllUpto_lifted (os : Os) (started : os.Started) (H : Type) (enc : TypeId × Value → H) (F : Stop.Interp) :
    ReturnsInHanded {} Try.checked os 3 .any ((Rows.OpenSpec.upto Rows.objectAllSpec).pre6 enc Try.prog Try.f3 Rows.objectAllUptoRow.domain false) (((Rows.OpenSpec.upto Rows.objectAllSpec).at F).post enc Try.prog Try.f3 false true false false) := by
  refine handed_cond (C := Try.checked) (s := (Rows.OpenSpec.upto Rows.objectAllSpec)) (k := Rows.uptoSmall) rfl Try.own started (by kernel_rfl) Try.func3
    (OpenSpec.witness (enc := enc) (C := Try.checked) (s := (Rows.OpenSpec.upto Rows.objectAllSpec)) (k := Rows.uptoSmall) rfl false ⟨#[], #[.agg #[.int .i64 0, .slice none 0 0, .slice none 0 0]], []⟩ 8 (by kernel_rfl) (by kernel_rfl) (by kernel_rfl)
      (x := ([.agg [.lit (.int .i64 0), .nil, .nil]], [], [])) (by kernel_rfl) rfl (by kernel_rfl)) ?_
  intro W base args ds gs before hval0 hW hk hz hsh
  have hval : ∀ (j : Nat) t v, Try.f3.params[j]? = some t → args[j]? = some v → Value.okWide Try.prog W .any base t v := hval0
  have hW' := hW
  obtain ⟨p, q, hA0, hV, rfl, hfz, hnd⟩ := hW
  have hA : DataW.TrodAll enc Try.prog W 0 (fun _ => true) true Try.f3.params.toList args.toList ds p := hA0
  have hlt : ∀ x ∈ p, x.block < W.heap.size := fun x hx => hW'.lt x (by simp [hx])
  have hback : ∀ W', Below W.heap.size W W' → DataW.TrodAll enc Try.prog W' 0 (fun b => decide (b < W.heap.size)) true Try.f3.params.toList args.toList ds p :=
    fun W' hb => belowAllB (by kernel_rfl) hb hA hlt
  rw [Try.params3] at hA hval
  obtain ⟨v0, vs0, d0, ds0, p0, q0, hargs, rfl, rfl, h0, r0⟩ := trodAll_cons hA
  obtain ⟨rfl, rfl, rfl⟩ := trodAll_nil r0
  obtain rfl : args = #[v0] := by
    cases args
    simp at hargs
    simp [hargs]
  clear hargs
  obtain ⟨rfl, rfl⟩ := trodVars_none hV
  have fin : ∀ (e : Ending) (W' : World), (e = .returned (.bool true) ∧ Below W.heap.size W W') → ∃ v, e = Ending.returned v ∧ ((Rows.OpenSpec.upto Rows.objectAllSpec).at F).post enc Try.checked.prog Try.f3 false true false false W #[v0] v W' := by
    rintro e W' ⟨rfl, hb⟩
    exact ⟨_, rfl, _, _, _, [], _, [], hW', trodAll_mk1 (shut_bool Try.underlying4 true), hback W' hb, rfl, hb.frame _, fun h => by cases h⟩
  obtain ⟨o, L, pv, sv, hr0⟩ := reads_obj (hval 0 25 v0 rfl rfl) h0
  have hb : Rows.uptoBulk d0 ≤ 1048576 := by
    have := of_decide_eq_true hk
    simp [Rows.uptoBulkAll] at this
    omega
  obtain rfl := hr0.val
  exact (objectAll_any o L pv sv W hr0.at_ (hr0.arg hb)).mono fin
theorem objectAllUpto_holds : Rows.ObjectAllUptoSaid :=
  OpenClaim.holds_of_cond 3 Try.f3 rfl rfl rfl rfl rfl rfl rfl ⟨rfl, rfl, rfl, rfl, rfl⟩ rfl rfl rfl rfl rfl (by kernel_rfl) Try.func3 (by kernel_rfl)
    (of_decide_eq_true (by kernel_rfl)) (by unfold Func.isWrapper; rw [if_neg (of_decide_eq_false (by kernel_rfl))]; exact ⟨rfl, rfl⟩)
    (fun os started H enc _ F => objectAllUpto_lifted os started H enc F)
end Go.Proofs.Ytimnbnomaajmmaa
#print axioms Go.Proofs.Ytimnbnomaajmmaa.objectAllUpto_holds
