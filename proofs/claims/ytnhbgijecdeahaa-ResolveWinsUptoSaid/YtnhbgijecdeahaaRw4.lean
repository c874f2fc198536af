/-
  Part 4 of 6: laws and walks for resolve_all; no condition of its own.
-/
import Derived.Test.YtnhbgijecdeahaaRw3
import Derived.Deep.CutRange
import Derived.Deep.DeepCutAuto
import Derived.Sort.OwnSorted
namespace Go.Proofs.Ytnhbgijecdeahaa
open Go.RowKit Go.Fd
/-- What is asked of inputs, so that no number in a walk is too great. -/
structure RsOk (l : List InM) : Prop where
  objs : ∀ o ∈ objsM l, o.syms.length ≤ 300 ∧ ∀ x ∈ o.syms, x.name.length ≤ 9223372036854775807
  total : l.length + memsM l ≤ 310
theorem put_home {H : Homes} {n : List UInt8} {s : Spot} (h : H.lookup n = none) : @putE _ instDecidableEqList (H.map fun x => (x.1, spotV x.2)) n (spotV s) = (H ++ [(n, s)]).map fun x => (x.1, spotV x.2) := by
  unfold putE
  rw [if_neg]
  · simp
  · rw [List.map_map]
    exact lookup_noneA.1 h
theorem start_step {l : List InM} {i : Nat} {x : InM} {d : Drn × Homes} (h : l[i]? = some x) : startM l i (l.drop i) d = startM l (i + 1) (l.drop (i + 1)) (if x.lib = [] then takeM l d.1 (i, -1) else d.1, homeL i 0 x.lib d.2) := by
  rw [drop_get h, startM]
theorem homeL_step {i k : Nat} {ms : List MemM} {m : MemM} {H : Homes} (h : ms[k]? = some m) : homeL i k (ms.drop k) H = homeL i (k + 1) (ms.drop (k + 1)) (homeO (i, (k : Int)) H m.obj) := by
  rw [drop_get h, homeL]
theorem takeM_len {l : List InM} {d : Drn} {s : Spot} (h : (objAt l s).syms.length ≤ 300) : (takeM l d s).taken.length ≤ d.taken.length + 1 ∧ (takeM l d s).defd.length ≤ d.defd.length + 300 := by
  unfold takeM
  refine ⟨?_, ?_⟩
  · show (addS d.taken s).length ≤ _
    unfold addS
    split <;> simp
  · have := defAll_len (l := (objAt l s).syms) d.defd
    dsimp only
    omega
theorem memAt_obV {w : World} {l : List InM} {V : List InV} {v : Value} (h : InsAt w l V v) {s : Spot} {o : ObjM} (hs : MemAt l s o) (hl : V.length ≤ 64) (hm : ∀ x ∈ V, x.ml.length ≤ 64) : (∃ y, obVAt V s = some y) ∧ s.1 < 1000000 ∧ (-9223372036854775808 ≤ s.2 ∧ s.2 < 9223372036854775808) ∧ objAt l s ∈ objsM l := by
  obtain ⟨x, k, m, h1, h2, h3, h4⟩ := hs
  have h1' := h1
  rw [h.eq, List.getElem?_map] at h1
  obtain ⟨X, hX, rfl⟩ := Option.map_eq_some_iff.1 h1
  have hXm := List.mem_of_getElem? hX
  have hj := (List.getElem?_eq_some_iff.1 hX).1
  have hml := hm X hXm
  have hob := objAt_mem (l := l) (s := s) (o := o) ⟨X.x, k, m, h1', h2, h3, h4⟩
  refine ⟨?_, by omega, ?_, ?_⟩
  · rw [(h.lib X hXm).1, List.getElem?_map] at h3
    obtain ⟨Y, hY, rfl⟩ := Option.map_eq_some_iff.1 h3
    refine ⟨Y.ob, ?_⟩
    unfold obVAt
    rw [hX]
    dsimp only
    rw [if_neg (by omega), h2, Int.toNat_natCast, hY]
    rfl
  · have := (List.getElem?_eq_some_iff.1 h3).1
    rw [(h.lib X hXm).1, List.length_map] at this
    omega
  · rw [hob, ← h4]
    unfold objsM
    exact List.mem_flatMap.2 ⟨X.x, List.mem_of_getElem? h1', by unfold objsI; exact List.mem_append_right _ (List.mem_map.2 ⟨m, List.mem_of_getElem? h3, rfl⟩)⟩
theorem DrwAt.stirHom {w w' : World} {base p : Nat} {lv : Value} {mt tb mh : Nat} {H H' : Homes} {d : Drn} (h : DrwAt w base p lv mt tb mh H d) (hm : MapIs Try.prog 9 S w' mh (H'.map fun x => (x.1, spotV x.2))) (hg : w.grownBy w' (some mh)) : DrwAt w' base p lv mt tb mh H' d := by
  have hs : Stirs (fun k => k = mh) w w' := Stirs.of_grown hg fun b hb => by cases hb; rfl
  have hmc : ∃ es clock, w.heap[mh]? = some (.map es clock) := by obtain ⟨es, clock, hb, -⟩ := h.hom; exact ⟨es, clock, hb⟩
  obtain ⟨es, clock, hmb⟩ := hmc
  obtain ⟨tv, ht⟩ := h.tab
  refine ⟨hs.kept h.box fun e => ?_, h.tak.kept hg (fun e => h.ne (by cases e; rfl)), ⟨tv, ht.stirs hs (fun e => ?_) fun k hk e => ?_⟩, hm, h.low, h.ne⟩
  · rw [← e, h.box] at hmb
    cases hmb
  · rw [← e, ht.box] at hmb
    cases hmb
  · subst e
    rcases ht.row.2 with ⟨rfl, -⟩ | ⟨g2, cap, cur, rfl, -, hh, -⟩
    · cases hk
    · cases hk
      rw [hh] at hmb
      cases hmb
/-- A row of another type turns: the drawer stays. -/
theorem DrwAt.stirs {w w' : World} {base p : Nat} {lv : Value} {mt tb mh : Nat} {H : Homes} {d : Drn} {g : Nat} {cs : Array Value} {t : TypeId} {fr : Nat × Nat} (h : DrwAt w base p lv mt tb mh H d) (hs : Stirs (fun k => k = g) w w') (hg : w.heap[g]? = some (.cells cs t fr)) (h1 : t ≠ 76) (h2 : t ≠ 103) (h3 : t ≠ 123) : DrwAt w' base p lv mt tb mh H d := by
  obtain ⟨tv, ht⟩ := h.tab
  have keepM : ∀ {κ : Type} {k : TypeId} {mk : κ → Value} {b : Nat} {E : List (κ × Value)}, MapIs Try.prog k mk w b E → MapIs Try.prog k mk w' b E := fun hm => by
    obtain ⟨es, clock, hb, r⟩ := hm
    exact ⟨es, clock, hs.kept hb (fun e => by subst e; rw [hg] at hb; cases hb), r⟩
  refine ⟨hs.kept h.box (fun e => ?_), keepM h.tak, ⟨tv, ht.stirs hs (fun e => ?_) fun k hk e => ?_⟩, keepM h.hom, h.low, h.ne⟩
  · subst e
    rw [h.box] at hg
    cases hg
    exact h1 rfl
  · subst e
    rw [ht.box] at hg
    cases hg
    exact h2 rfl
  · subst e
    rcases ht.row.2 with ⟨rfl, -⟩ | ⟨g2, cap, cur, rfl, -, hh, -⟩
    · cases hk
    · cases hk
      rw [hh] at hg
      cases hg
      exact h3 rfl
theorem homeO_step {s : Spot} {syms : List SymM} {j : Nat} {x : SymM} {H : Homes} (h : syms[j]? = some x) : (syms.drop j).foldl (homeS s) H = (syms.drop (j + 1)).foldl (homeS s) (homeS s H x) := by
  rw [drop_get h, List.foldl_cons]
set_option maxHeartbeats 16000000 in
set_option maxRecDepth 100000 in
theorem drawnR_any (l : List InM) (V : List InV) (lv : Value) (w : World) (h : InsAt w l V lv) (hl : V.length ≤ 64) (hm : ∀ x ∈ V, x.ml.length ≤ 64) (hok : RsOk l) :
    Calls Try.prog 16 #[lv] w fun e w' => ∃ p mt tb mh H, e = .returned (.pointer (some ⟨p, 0, none⟩)) ∧ DrwAt w' w.heap.size p lv mt tb mh H (drawnM l) ∧ Below w.heap.size w w' := by
  have HI := Lib.hid h
  have HV := Lib.hid hl
  have HM := Lib.hid hm
  have HK := Lib.hid hok
  obtain ⟨a, cap, rfl, hcap, -, hP⟩ := h.rd.open (fun _ => rfl)
  have HP := Lib.hid hP
  obtain ⟨n, hN⟩ : ∃ n, n = V.length := ⟨_, rfl⟩
  have hll : l.length = n := by rw [h.eq, List.length_map, hN]
  rw [← hN] at hcap hl
  have HN := Lib.hid hN
  have HLL := Lib.hid hll
  have HNEW : Hid (Calls Try.prog 23 #[] (w.alloc (.map #[] 0)) fun e w' => ∃ tb, e = .returned (.pointer (some ⟨tb, 0, none⟩)) ∧ TabIs w' w.heap.size tb (.slice none 0 0) [] ∧ Below w.heap.size w w' ∧ w'.heap[w.heap.size]? = some (.map #[] 0) ∧ w.heap.size < w'.heap.size) := Lib.hid ((tbNew_any _).mono fun e w' ⟨h1, h2, h3⟩ => ⟨_, h1, ⟨h2.box, h2.row.rebase (below_alloc w _).size, h2.srt, (below_alloc w _).size⟩, (below_alloc w _).trans (h3.mono (below_alloc w _).size), heap_below h3 (MapKept.heap_alloc w _).1, by have := h3.size; rw [World.size_alloc] at this; omega⟩)
  have hmm := @run_makeMap Try.prog
  clear h hP hN hll hm hok
  go_enter Try.func16, Try.ntmps16
  go_wp2_with (first
    | (go_at_call 23; refine HNEW.out.mono ?_; rintro e w1 ⟨tb, rfl, ht1, hb1, hm1, hs1⟩; have HT1 := Lib.hid ht1; have HB1 := Lib.hid hb1; have HM1 := Lib.hid hm1; clear ht1 hb1 hm1)
    | ((with_reducible show wpList _ _ _ (⟨some 19, .box _ _, _, _, _, _⟩ :: _) _ _); go_must (refine wpList_box rfl ?_; intro w2 hx2 hb2 hs2; have HX2 := Lib.hid hx2; have HB2 := Lib.hid hb2; clear hx2 hb2)))
  -- LOOPS
  obtain ⟨LV, hLV⟩ : ∃ v, v = Value.slice a n cap := ⟨_, rfl⟩
  have HLV := Lib.hid hLV
  have HI2 := Lib.hid (show InsAt w l V LV by rw [hLV, HN.out]; exact HI.out)
  obtain ⟨FIN, hFIN⟩ : ∃ F, F = startM l 0 l (⟨[], []⟩, []) := ⟨_, rfl⟩
  have HF0 := Lib.hid (show startM l 0 (l.drop 0) (⟨[], []⟩, []) = FIN by rw [hFIN, List.drop_zero])
  have HSF := Lib.hid (show DrnOk l FIN.1 ∧ HomesOk l FIN.2 by rw [hFIN]; exact start_facts l)
  have HDW := Lib.hid (show drawnM l = drawG l FIN.2 (memsM l + 1) FIN.1 by rw [hFIN]; rfl)
  clear hFIN
  have hba := below_alloc w1 (.map #[] 0)
  obtain ⟨mt, hmt⟩ : ∃ m, m = w.heap.size := ⟨_, rfl⟩
  obtain ⟨mh, hmh⟩ : ∃ m, m = w1.heap.size := ⟨_, rfl⟩
  obtain ⟨p, hp1⟩ : ∃ q, q = w1.heap.size + 1 := ⟨_, rfl⟩
  have hp : p = (w1.alloc (.map #[] 0)).heap.size := by rw [World.size_alloc]; exact hp1
  have HD0 := Lib.hid (show DrwAt w2 w.heap.size p LV mt tb mh [] ⟨[], []⟩ from ⟨by rw [hp, hmt, hmh, hLV, HN.out]; exact HX2.out, by rw [hmt]; exact ⟨#[], 0, heap_below HB2.out (heap_below hba HM1.out), by simp [seenE], by simp, MapKept.stamped_empty 0, by simp⟩, ⟨_, (HT1.out.mono hba).mono HB2.out⟩, by rw [hmh]; exact (MapIs.made w1).mono HB2.out, ⟨by rw [hp]; exact Nat.le_trans (Nat.le_of_lt hs1) hba.size, by rw [hmt]; exact Nat.le_refl _, by rw [hmh]; exact Nat.le_of_lt hs1⟩, by rw [hmt, hmh]; exact Nat.ne_of_lt hs1⟩)
  have HB02 := Lib.hid (HB1.out.trans ((hba.mono (Nat.le_of_lt hs1)).trans (HB2.out.mono (Nat.le_trans (Nat.le_of_lt hs1) hba.size))))
  rw [← hp1, ← hmt, ← hmh, ← HN.out]
  clear hp hp1 hmt hmh hba hmm hLV
  go_loopw [4, 5, 6, 7, 9, 10, 11, 22, 38, 47] (fun _ _ _ _ _ _ _ s22 _ _ wr => ∃ (i : Nat) (d : Drn) (H : Homes), s22 = .int .i64 i ∧ i ≤ n ∧ Hid (startM l i (l.drop i) (d, H) = FIN) ∧ Hid (DrwAt wr w.heap.size p LV mt tb mh H d) ∧ Hid (Below w.heap.size w wr) ∧ d.taken.length ≤ i ∧ d.defd.length ≤ 300 * i ∧ H.length ≤ 100000000 * i) (fun _ _ _ _ _ _ _ s22 _ _ _ => n - (intOf s22).toNat)
  case atStart => exact ⟨0, ⟨[], []⟩, [], rfl, Nat.zero_le _, HF0, HD0.out, HB02.out, by simp, by simp, by simp⟩
  case round =>
    obtain ⟨i, d, H, rfl, hi, HFI, HDi, HBi, htl, hdl, hhl⟩ := hrel
    have hwi := HBi.out.size
    by_cases hlt : i < n
    · obtain ⟨X, hX⟩ : ∃ x, V[i]? = some x := ⟨_, List.getElem?_eq_getElem (by have := HN.out; omega)⟩
      obtain ⟨b, o, rfl, e0, e1, e2, e3, e4, hb0⟩ := in_cells HP.out HBi.out hX
      have hxm := List.mem_of_getElem? hX
      have hml := HM.out X hxm
      obtain ⟨hle, hlr⟩ := HI.out.lib X hxm
      obtain ⟨al, cl, hlv, hcl, -, hP2⟩ := hlr.open (fun _ => rfl)
      have HP2 := Lib.hid hP2
      obtain ⟨np, ap, cp, -, hpv, -, -⟩ := (HI.out.obj X hxm).rd.shape
      obtain ⟨ns0, asy, cs, -, hsv, -, -⟩ := (HI.out.obj X hxm).syms.shape
      have hxl : l[i]? = some X.x := by rw [HI.out.eq, List.getElem?_map, hX]; rfl
      have HSI := Lib.hid (start_step (d := (d, H)) hxl)
      have HMA := Lib.hid (fun y (hy : y ∈ X.ml) => HI.out.mem X hxm y hy)
      have HLM := Lib.hid hle
      have HMO := Lib.hid (fun y (hy : y ∈ X.ml) => HK.out.objs y.m.obj (by
        unfold objsM
        refine List.mem_flatMap.2 ⟨X.x, List.mem_of_getElem? hxl, ?_⟩
        unfold objsI
        rw [hle, List.map_map]
        exact List.mem_append_right _ (List.mem_map.2 ⟨y, hy, rfl⟩)))
      have HOB := Lib.hid (show X.x.lib = [] → objAt l (i, -1) ∈ objsM l ∧ obVAt V (i, -1) = some X.ob from fun h0 => by
        refine ⟨?_, ?_⟩
        · unfold objsM objAt
          rw [hxl]
          exact List.mem_flatMap.2 ⟨X.x, List.mem_of_getElem? hxl, by unfold objsI; rw [if_pos h0]; simp⟩
        · unfold obVAt
          rw [hX]
          rfl)
      have HAO := Lib.hid (fun y (hy : obVAt V (i, -1) = some y) => (obVAt_at HI.out hy).1)
      have HTK0 := Lib.hid (fun y (hy : obVAt V (i, -1) = some y) (hsy : y.1.syms.length ≤ 1000) wx (hb : Below w.heap.size w wx) (hd : DrwAt wx w.heap.size p LV mt tb mh H d) => show Calls Try.prog 24 #[.pointer (some ⟨p, 0, none⟩), .agg #[.int .i64 (i : Int), .int .i64 (-1)]] wx fun e w' => e = .returned (.tuple #[]) ∧ DrwAt w' w.heap.size p LV mt tb mh H (takeM l d (i, -1)) ∧ Below w.heap.size w w' ∧ KeepC wx w' from takeR_any l V LV (i, -1) y p mt tb mh H d w wx HI2.out hb hd hy (by show i < 1000000; omega) (by show -9223372036854775808 ≤ (-1 : Int) ∧ (-1 : Int) < 9223372036854775808; omega) (by rw [← HN.out]; omega) hsy (by omega) (by omega))
      have HTL := Lib.hid (fun (hs : (objAt l (i, -1)).syms.length ≤ 300) => takeM_len (d := d) hs)
      obtain ⟨x, L, pv, sv, lv, ml⟩ := X
      dsimp only at *
      subst hlv hpv hsv
      obtain ⟨nl, hnl⟩ : ∃ n, n = ml.length := ⟨_, rfl⟩
      rw [← hnl] at hcl hml e4
      have HNL := Lib.hid hnl
      have HLL2 := Lib.hid (show x.lib.length = nl by rw [hle, List.length_map, hnl])
      obtain ⟨HF, hHF⟩ : ∃ F, F = homeL i 0 x.lib H := ⟨_, rfl⟩
      have HFE := Lib.hid hHF.symm
      rw [← hHF] at HSI
      clear hX hxm hle hlr hP2 hxl hnl hHF
      by_cases h0 : nl = 0
      · have hl0 : x.lib = [] := List.eq_nil_of_length_eq_zero (by have := HLL2.out; omega)
        have t1 : ((nl : Int) == 0) = true := by simpa using h0
        obtain ⟨d2, hd2⟩ : ∃ d2, d2 = takeM l d (i, -1) := ⟨_, rfl⟩
        obtain ⟨hom, hoy⟩ := HOB.out hl0
        have h300 := (HK.out.objs _ hom).1
        have hya := HAO.out _ hoy
        have HTK := Lib.hid (HTK0.out _ hoy (by rw [← hya]; omega))
        obtain ⟨htt, htd⟩ := HTL.out h300
        rw [← hd2] at HTK htt htd
        rw [if_pos hl0, ← hd2] at HSI
        clear h0 hl0 hd2 hom hoy hya h300 HTK0 HOB HAO HTL
        go_wp2_with (first
          | ((with_reducible show wpList _ _ _ (⟨none, .store _ (.tmp 5) _, _, _, _, _⟩ :: _) _ _); go_must (refine wpList_storeNew rfl rfl (by kernel_rfl) rfl (by simp [Value.oneCell']) ?_; intro w3 hh3 hb3; have HH3 := Lib.hid hh3; have HD3 := Lib.hid (HDi.out.mono hb3); have HB3 := Lib.hid (HBi.out.trans (hb3.mono HBi.out.size)); obtain ⟨d0, d1, dd2, d3, d4⟩ := in_box (x := ⟨x, L, .slice ap np cp, .slice asy ns0 cs, .slice al nl cl, ml⟩) hh3; clear hh3 hb3))
          | (go_at_call 24; refine (HTK.out _ HB3.out HD3.out).mono ?_; rintro e w4 ⟨rfl, hd4, hb4, hk4⟩; have HD4 := Lib.hid hd4; have HB4 := Lib.hid hb4; have HH4 := Lib.hid (hk4 _ _ _ _ HH3.out (by decide) (by decide)); obtain ⟨d0, d1, dd2, d3, d4⟩ := in_box (x := ⟨x, L, .slice ap np cp, .slice asy ns0 cs, .slice al nl cl, ml⟩) HH4.out; clear hd4 hb4 hk4))
        go_loopw [6, 7, 9, 10, 11, 38, 47] (fun _ _ _ _ _ s38 _ wr2 => ∃ (k : Nat) (Hk : Homes), s38 = .int .i64 k ∧ k ≤ nl ∧ Hid (homeL i k (x.lib.drop k) Hk = HF) ∧ Hid (DrwAt wr2 w.heap.size p LV mt tb mh Hk d2) ∧ Hid (Below w.heap.size w wr2) ∧ Hk.length ≤ 100000000 * i + 100000 * k) (fun _ _ _ _ _ s38 _ _ => nl - (intOf s38).toNat)
        case atStart => exact ⟨0, H, rfl, Nat.zero_le _, Lib.hid (by rw [List.drop_zero, HFE.out]), HD4.out, HB4.out, by omega⟩
        case round =>
          obtain ⟨k, Hk, rfl, hk, HHL, HDk, HBk, hlk⟩ := hrel
          have hwk := HBk.out.size
          by_cases hltk : k < nl
          · obtain ⟨y, hy⟩ : ∃ y, ml[k]? = some y := ⟨_, List.getElem?_eq_getElem (by have := HNL.out; omega)⟩
            obtain ⟨b2, o2, rfl, r0, r1, r2, r3, hb2⟩ := mem_cells HP2.out HBk.out hy
            have hym := List.mem_of_getElem? hy
            have hya := HMA.out y hym
            obtain ⟨np2, ap2, cp2, -, hpv2, -, -⟩ := hya.rd.shape
            obtain ⟨sa2, sc2, hsv2, hsc2, -, hS⟩ := hya.syms.open (fun _ => rfl)
            have HS := Lib.hid hS
            obtain ⟨hs300, hnm⟩ := HMO.out y hym
            have HNM := Lib.hid hnm
            have hyl : x.lib[k]? = some y.m := by rw [HLM.out, List.getElem?_map, hy]; rfl
            have HSL := Lib.hid (homeL_step (i := i) (H := Hk) hyl)
            obtain ⟨⟨mname, ⟨mtarget, mparts, syms⟩⟩, L2, pv2, sv2⟩ := y
            dsimp only at *
            subst hpv2 hsv2
            obtain ⟨ns, hns⟩ : ∃ n, n = syms.length := ⟨_, rfl⟩
            rw [← hns] at hsc2 hs300 r3
            have HNS := Lib.hid hns
            obtain ⟨HO, hHO⟩ : ∃ HO, HO = homeO (i, (k : Int)) Hk ⟨mtarget, mparts, syms⟩ := ⟨_, rfl⟩
            rw [← hHO] at HSL
            have HHO0 := Lib.hid (show (syms.drop 0).foldl (homeS (i, (k : Int))) Hk = HO by rw [hHO, List.drop_zero]; rfl)
            clear hy hym hya hS hnm hyl hns hHO
            go_wp2_with ((with_reducible show wpList _ _ _ (⟨none, .store _ (.tmp 7) _, _, _, _, _⟩ :: _) _ _); go_must (refine wpList_storeNew rfl rfl (by kernel_rfl) rfl (by simp [Value.oneCell']) ?_; intro w5 hh5 hb5; have HD5 := Lib.hid (HDk.out.mono hb5); have HB5 := Lib.hid (HBk.out.trans (hb5.mono HBk.out.size)); obtain ⟨k0, k1, k2, k3⟩ := mem_box (x := ⟨⟨mname, ⟨mtarget, mparts, syms⟩⟩, L2, .slice ap2 np2 cp2, .slice sa2 ns sc2⟩) hh5; clear hh5 hb5))
            go_loopw [9, 10, 11, 47] (fun _ _ _ s47 wr3 => ∃ (j : Nat) (Hj : Homes), s47 = .int .i64 j ∧ j ≤ ns ∧ Hid ((syms.drop j).foldl (homeS (i, (k : Int))) Hj = HO) ∧ Hid (DrwAt wr3 w.heap.size p LV mt tb mh Hj d2) ∧ Hid (Below w.heap.size w wr3) ∧ Hj.length ≤ 100000000 * i + 100000 * k + j) (fun _ _ _ s47 _ => ns - (intOf s47).toNat)
            case atStart => exact ⟨0, Hk, rfl, Nat.zero_le _, HHO0, HD5.out, HB5.out, by omega⟩
            case round =>
              obtain ⟨j, Hj, rfl, hj, HHO, HDj, HBj, hlj⟩ := hrel
              have hwj := HBj.out.size
              by_cases hltj : j < ns
              · obtain ⟨x, hx⟩ : ∃ x, syms[j]? = some x := ⟨_, List.getElem?_eq_getElem (by have := HNS.out; omega)⟩
                obtain ⟨b3, o3, rfl, f0, f1, f2, f3, f4, f5, hb3⟩ := sym_cells HS.out HBj.out hx
                have hxn := HNM.out x (List.mem_of_getElem? hx)
                have HSX := Lib.hid (homeO_step (s := (i, (k : Int))) (H := Hj) hx)
                have HHS : Hid (homeS (i, (k : Int)) Hj x = if Hj.lookup x.name = none ∧ definesM x = true then Hj ++ [(x.name, (i, (k : Int)))] else Hj) := rfl
                have HDE := Lib.hid (fun wx => definesR_any x wx)
                have HRH := Lib.hid (fun w6 wx (hd6 : DrwAt w6 w.heap.size p LV mt tb mh Hj d2) (hb : Below w6.heap.size w6 wx) (a : Act) (xx yy : Operand) (dd : Option Tmp) (ty : TypeId) (pos : String) (aft : Array Edge) (e1 : a.eval xx = .map (some mh)) (e2 : a.eval yy = S x.name) => run_home (d := dd) (ty := ty) (pos := pos) (aft := aft) (hd6.hom.mono hb) hxn e1 e2)
                have HPH := Lib.hid (fun (e : Hj.lookup x.name = none) => put_home (s := (i, (k : Int))) e)
                obtain ⟨lkk, hkl⟩ := keySL x.name hxn
                obtain ⟨name, bind, typ, sec, value, size⟩ := x
                dsimp only at *
                clear hx hxn
                generalize definesM ⟨name, bind, typ, sec, value, size⟩ = df at *
                generalize hhm : Hj.lookup name = hm at *
                clear hhm
                go_wp2_with ((with_reducible show wpList _ _ _ (⟨none, .store _ (.tmp 9) _, _, _, _, _⟩ :: _) _ _); go_must (refine wpList_storeNew rfl rfl (by kernel_rfl) rfl (by simp [Value.oneCell']) ?_; intro w6 hh6 hb6; have HH6 := Lib.hid hh6; have HD6 := Lib.hid (HDj.out.mono hb6); have HB6 := Lib.hid (HBj.out.trans (hb6.mono HBj.out.size)); obtain ⟨g0, g1, g2, g3, g4, g5⟩ := sym_box (s := ⟨name, bind, typ, sec, value, size⟩) hh6; clear hh6 hb6))
                have q3 := cell_rec HD6.out.box 3
                simp only [List.getElem?_toArray, List.getElem?_cons_succ, List.getElem?_cons_zero] at q3
                have hAB := fun (x : Of (fun wx => Below w6.heap.size w6 wx)) (b k : Nat) (h : b < w6.heap.size) => (show x.w.cell? ⟨b, k, none⟩ = w6.cell? ⟨b, k, none⟩ from by
                  unfold World.cell?
                  rw [x.h.block b h])
                have hb0 : Below w6.heap.size w6 { w6 with drawn := w6.drawn + 1 } := (Below.refl _ _).drew
                have hne : Nonempty (Of (fun wx => Below w6.heap.size w6 wx)) := ⟨⟨_, hb0⟩⟩
                have l1 := block_lt g0
                have l3 := block_lt q3
                refine wp_region_held (S := fun wx => Below w6.heap.size w6 wx) (by kernel_rfl) ?_
                change wpAnyH _ _ _ _ _ 13 _ _ _
                try go_frame
                refine heldS_quiet (i := 0) rfl (by kernel_rfl) rfl rfl (fun _ _ _ _ h => h) hb0 ?_
                intro K hK
                go_big_quiet_op
                go_big_quiet_on
                refine heldS_check (i := 1) rfl (by kernel_rfl) rfl rfl rfl (fun _ _ _ _ h => h) hb0 ?_
                go_frame
                refine heldS_quiet (i := 2) rfl (by kernel_rfl) rfl rfl (fun _ _ _ _ h => h) hb0 ?_
                intro K hK
                go_big_quiet_op
                go_big_quiet_on
                refine heldS_quiet (i := 3) rfl (by kernel_rfl) rfl rfl (fun _ _ _ _ h => h) hb0 ?_
                intro K hK
                go_big_quiet_op
                go_big_quiet_on
                refine heldS_quiet (i := 4) rfl (by kernel_rfl) rfl rfl (fun _ _ _ _ h => h) hb0 ?_
                intro K hK
                go_big_quiet_op
                go_big_quiet_on
                refine heldS_quiet (i := 5) rfl (by kernel_rfl) rfl rfl (fun _ _ _ _ h => h) hb0 ?_
                intro K hK
                go_big_quiet_op
                go_big_quiet_on
                refine heldS_val (i := 6) rfl (by kernel_rfl) rfl (fun _ _ _ _ h => h) hb0 (fun w' hw' => HRH.out w6 w' HD6.out hw' _ _ _ _ _ _ _ rfl rfl) ?_
                go_frame
                refine heldS_quiet (i := 7) rfl (by kernel_rfl) rfl rfl (fun _ _ _ _ h => h) hb0 ?_
                intro K hK
                go_big_quiet_op
                go_big_quiet_on
                refine heldS_quiet (i := 8) rfl (by kernel_rfl) rfl rfl (fun _ _ _ _ h => h) hb0 ?_
                intro K hK
                go_big_quiet_op
                go_big_quiet_on
                refine heldS_quiet (i := 9) rfl (by kernel_rfl) rfl rfl (fun _ _ _ _ h => h) hb0 ?_
                intro K hK
                go_big_quiet_op
                go_big_quiet_on
                refine heldS_one (i := 10) (by kernel_rfl) rfl ?_
                go_wp2
                refine ⟨(hb0.trans ((below_alloc w6.drew (.cells #[.int .i64 0, .int .i64 0] 61)).mono (Nat.le_refl _)) : Below w6.heap.size w6 _), ?_⟩
                refine heldS_one (i := 11) (by kernel_rfl) rfl ?_
                show wpList _ _ _ _ _ (World.alloc w6.drew (.cells #[.int .i64 0, .int .i64 0] 61))
                refine wpList_storeNew rfl rfl (by kernel_rfl) rfl (by simp [Value.oneCell']) ?_
                intro wA hhA hbA
                have hbA' : Below w6.heap.size w6 wA := hb0.trans hbA
                refine ⟨hbA', ?_⟩
                go_frame
                refine heldS_quiet (i := 12) rfl (by kernel_rfl) rfl rfl (fun _ _ _ _ h => h) hbA' ?_
                intro K hK
                go_big_quiet_op
                go_big_quiet_on
                refine wpAnyH_done (by kernel_rfl) ?_ _
                have HBA := Lib.hid (HB6.out.trans (hbA'.mono HB6.out.size))
                have HDA := Lib.hid (HD6.out.mono hbA')
                have HHA := Lib.hid (heap_below hbA' HH6.out)
                obtain ⟨g0, g1, g2, g3, g4, g5⟩ := sym_box (s := ⟨name, bind, typ, sec, value, size⟩) HHA.out
                clear hAB hne hb0 q3 hbA hbA' hhA
                cases hm with
                | some hs =>
                  have HSN := Lib.hid (show homeS (i, (k : Int)) Hj ⟨name, bind, typ, sec, value, size⟩ = Hj by rw [HHS.out, if_neg (by simp)])
                  go_wp2
                  go_roundw
                  case rel => exact ⟨j + 1, Hj, by go_num, by omega, Lib.hid (by rw [← HHO.out, HSX.out, HSN.out]), HDA.out, HBA.out, by omega⟩
                  case measure => simp [intOf] <;> omega
                | none =>
                  cases df with
                  | false =>
                    have HSN := Lib.hid (show homeS (i, (k : Int)) Hj ⟨name, bind, typ, sec, value, size⟩ = Hj by rw [HHS.out, if_neg (by simp)])
                    go_wp2_with (go_at_call 25; refine (HDE.out _).mono ?_; rintro e w7 ⟨rfl, hb7⟩; have HB7 := Lib.hid (HBA.out.trans (hb7.mono HBA.out.size)); have HD7 := Lib.hid (HDA.out.mono hb7); clear hb7)
                    go_roundw
                    case rel => exact ⟨j + 1, Hj, by go_num, by omega, Lib.hid (by rw [← HHO.out, HSX.out, HSN.out]), HD7.out, HB7.out, by omega⟩
                    case measure => simp [intOf] <;> omega
                  | true =>
                    have HSN := Lib.hid (show homeS (i, (k : Int)) Hj ⟨name, bind, typ, sec, value, size⟩ = Hj ++ [(name, (i, (k : Int)))] by rw [HHS.out, if_pos ⟨rfl, rfl⟩])
                    have HPP := Lib.hid (HPH.out rfl)
                    have HRM := Lib.hid (show (Hj.map fun x => (x.1, spotV x.2)).length < maxLen by unfold maxLen; rw [List.length_map]; omega)
                    go_wp2_with (go_at_call 25; refine (HDE.out _).mono ?_; rintro e w7 ⟨rfl, hb7⟩; have HB7 := Lib.hid (HBA.out.trans (hb7.mono HBA.out.size)); have HD7 := Lib.hid (HDA.out.mono hb7); have HH7 := Lib.hid (heap_below hb7 HHA.out); obtain ⟨g0, g1, g2, g3, g4, g5⟩ := sym_box (s := ⟨name, bind, typ, sec, value, size⟩) HH7.out; have q3 := cell_rec HD7.out.box 3; simp only [List.getElem?_toArray, List.getElem?_cons_succ, List.getElem?_cons_zero] at q3; clear hb7)
                    have hAB := fun (x : Above w7) (b k : Nat) (h : b < w7.heap.size) => Above.cell x b k h
                    have l1 := block_lt g0
                    have l3 := block_lt q3
                    refine wp_region_walk 9 [] (by kernel_rfl) (by kernel_rfl) ?_
                    simp only [List.take_succ_cons, List.take_zero, List.drop_succ_cons, List.drop_zero]
                    try go_frame
                    repeat (first | (refine walk_check (by kernel_rfl) rfl rfl ?_; go_frame) | (refine walk_quiet rfl rfl rfl ?_; intro K hK; go_big_quiet_op; go_big_quiet_on))
                    refine walk_nil ?_
                    intro wz hbz hF
                    have HDz := Lib.hid (HD7.out.mono hbz)
                    have HBz := Lib.hid (HB7.out.trans (hbz.mono HB7.out.size))
                    clear hF hAB q3 g0 g1 g2 g3 g4 g5 hbz
                    refine wpList_storeM TMH HDz.out.hom HRM.out (key := name) (val := spotV (i, (k : Int))) hkl rfl rfl rfl ?_
                    intro w8 hm8 hg8 hs8
                    have hm8' : MapIs Try.prog 9 S w8 mh ((Hj ++ [(name, (i, (k : Int)))]).map fun x => (x.1, spotV x.2)) := by rw [← HPP.out]; exact hm8
                    have HD8 := Lib.hid (HDz.out.stirHom hm8' hg8)
                    have HB8 := Lib.hid (HBz.out.trans (below_of_grown (B := w.heap.size) hg8 HBz.out.size (fun q hq => by cases hq; exact HDz.out.low.2.2)))
                    clear hm8 hm8' hg8 hs8
                    go_frame
                    go_wp2
                    go_roundw
                    case rel => exact ⟨j + 1, Hj ++ [(name, (i, (k : Int)))], by go_num, by omega, Lib.hid (by rw [← HHO.out, HSX.out, HSN.out]), HD8.out, HB8.out, by rw [List.length_append, List.length_singleton]; omega⟩
                    case measure => simp [intOf] <;> omega
              · obtain rfl : j = ns := by omega
                have HHE := Lib.hid (show Hj = HO by rw [← HHO.out, List.drop_eq_nil_of_le (by have := HNS.out; omega)]; rfl)
                go_wp2
                go_roundw
                case rel => exact ⟨k + 1, Hj, by go_num, by omega, Lib.hid (by rw [HHE.out, ← HHL.out, HSL.out]), HDj.out, HBj.out, by omega⟩
                case measure => simp [intOf] <;> omega
          · obtain rfl : k = nl := by omega
            have HHE := Lib.hid (show Hk = HF by rw [← HHL.out, List.drop_eq_nil_of_le (by have := HLL2.out; omega)]; rfl)
            go_wp2
            go_roundw
            case rel => exact ⟨i + 1, d2, Hk, by go_num, by omega, Lib.hid (by rw [HHE.out, ← HFI.out, HSI.out]), HDk.out, HBk.out, by omega, by omega, by omega⟩
            case measure => simp [intOf] <;> omega
      · have t1 : ((nl : Int) == 0) = false := by simpa using h0
        have hl0 : x.lib ≠ [] := fun e => h0 (by have := HLL2.out; rw [e] at this; exact this.symm)
        obtain ⟨d2, hd2⟩ : ∃ d2, d2 = d := ⟨_, rfl⟩
        rw [if_neg hl0, ← hd2] at HSI
        rw [← hd2] at HDi htl hdl HFI
        clear h0 hl0 hd2 HTK0 HOB HAO HTL
        go_wp2_with ((with_reducible show wpList _ _ _ (⟨none, .store _ (.tmp 5) _, _, _, _, _⟩ :: _) _ _); go_must (refine wpList_storeNew rfl rfl (by kernel_rfl) rfl (by simp [Value.oneCell']) ?_; intro w3 hh3 hb3; have HH3 := Lib.hid hh3; have HD3 := Lib.hid (HDi.out.mono hb3); have HB3 := Lib.hid (HBi.out.trans (hb3.mono HBi.out.size)); obtain ⟨d0, d1, dd2, d3, d4⟩ := in_box (x := ⟨x, L, .slice ap np cp, .slice asy ns0 cs, .slice al nl cl, ml⟩) hh3; clear hh3 hb3))
        go_loopw [6, 7, 9, 10, 11, 38, 47] (fun _ _ _ _ _ s38 _ wr2 => ∃ (k : Nat) (Hk : Homes), s38 = .int .i64 k ∧ k ≤ nl ∧ Hid (homeL i k (x.lib.drop k) Hk = HF) ∧ Hid (DrwAt wr2 w.heap.size p LV mt tb mh Hk d2) ∧ Hid (Below w.heap.size w wr2) ∧ Hk.length ≤ 100000000 * i + 100000 * k) (fun _ _ _ _ _ s38 _ _ => nl - (intOf s38).toNat)
        case atStart => exact ⟨0, H, rfl, Nat.zero_le _, Lib.hid (by rw [List.drop_zero, HFE.out]), HD3.out, HB3.out, by omega⟩
        case round =>
          obtain ⟨k, Hk, rfl, hk, HHL, HDk, HBk, hlk⟩ := hrel
          have hwk := HBk.out.size
          by_cases hltk : k < nl
          · obtain ⟨y, hy⟩ : ∃ y, ml[k]? = some y := ⟨_, List.getElem?_eq_getElem (by have := HNL.out; omega)⟩
            obtain ⟨b2, o2, rfl, r0, r1, r2, r3, hb2⟩ := mem_cells HP2.out HBk.out hy
            have hym := List.mem_of_getElem? hy
            have hya := HMA.out y hym
            obtain ⟨np2, ap2, cp2, -, hpv2, -, -⟩ := hya.rd.shape
            obtain ⟨sa2, sc2, hsv2, hsc2, -, hS⟩ := hya.syms.open (fun _ => rfl)
            have HS := Lib.hid hS
            obtain ⟨hs300, hnm⟩ := HMO.out y hym
            have HNM := Lib.hid hnm
            have hyl : x.lib[k]? = some y.m := by rw [HLM.out, List.getElem?_map, hy]; rfl
            have HSL := Lib.hid (homeL_step (i := i) (H := Hk) hyl)
            obtain ⟨⟨mname, ⟨mtarget, mparts, syms⟩⟩, L2, pv2, sv2⟩ := y
            dsimp only at *
            subst hpv2 hsv2
            obtain ⟨ns, hns⟩ : ∃ n, n = syms.length := ⟨_, rfl⟩
            rw [← hns] at hsc2 hs300 r3
            have HNS := Lib.hid hns
            obtain ⟨HO, hHO⟩ : ∃ HO, HO = homeO (i, (k : Int)) Hk ⟨mtarget, mparts, syms⟩ := ⟨_, rfl⟩
            rw [← hHO] at HSL
            have HHO0 := Lib.hid (show (syms.drop 0).foldl (homeS (i, (k : Int))) Hk = HO by rw [hHO, List.drop_zero]; rfl)
            clear hy hym hya hS hnm hyl hns hHO
            go_wp2_with ((with_reducible show wpList _ _ _ (⟨none, .store _ (.tmp 7) _, _, _, _, _⟩ :: _) _ _); go_must (refine wpList_storeNew rfl rfl (by kernel_rfl) rfl (by simp [Value.oneCell']) ?_; intro w5 hh5 hb5; have HD5 := Lib.hid (HDk.out.mono hb5); have HB5 := Lib.hid (HBk.out.trans (hb5.mono HBk.out.size)); obtain ⟨k0, k1, k2, k3⟩ := mem_box (x := ⟨⟨mname, ⟨mtarget, mparts, syms⟩⟩, L2, .slice ap2 np2 cp2, .slice sa2 ns sc2⟩) hh5; clear hh5 hb5))
            go_loopw [9, 10, 11, 47] (fun _ _ _ s47 wr3 => ∃ (j : Nat) (Hj : Homes), s47 = .int .i64 j ∧ j ≤ ns ∧ Hid ((syms.drop j).foldl (homeS (i, (k : Int))) Hj = HO) ∧ Hid (DrwAt wr3 w.heap.size p LV mt tb mh Hj d2) ∧ Hid (Below w.heap.size w wr3) ∧ Hj.length ≤ 100000000 * i + 100000 * k + j) (fun _ _ _ s47 _ => ns - (intOf s47).toNat)
            case atStart => exact ⟨0, Hk, rfl, Nat.zero_le _, HHO0, HD5.out, HB5.out, by omega⟩
            case round =>
              obtain ⟨j, Hj, rfl, hj, HHO, HDj, HBj, hlj⟩ := hrel
              have hwj := HBj.out.size
              by_cases hltj : j < ns
              · obtain ⟨x, hx⟩ : ∃ x, syms[j]? = some x := ⟨_, List.getElem?_eq_getElem (by have := HNS.out; omega)⟩
                obtain ⟨b3, o3, rfl, f0, f1, f2, f3, f4, f5, hb3⟩ := sym_cells HS.out HBj.out hx
                have hxn := HNM.out x (List.mem_of_getElem? hx)
                have HSX := Lib.hid (homeO_step (s := (i, (k : Int))) (H := Hj) hx)
                have HHS : Hid (homeS (i, (k : Int)) Hj x = if Hj.lookup x.name = none ∧ definesM x = true then Hj ++ [(x.name, (i, (k : Int)))] else Hj) := rfl
                have HDE := Lib.hid (fun wx => definesR_any x wx)
                have HRH := Lib.hid (fun w6 wx (hd6 : DrwAt w6 w.heap.size p LV mt tb mh Hj d2) (hb : Below w6.heap.size w6 wx) (a : Act) (xx yy : Operand) (dd : Option Tmp) (ty : TypeId) (pos : String) (aft : Array Edge) (e1 : a.eval xx = .map (some mh)) (e2 : a.eval yy = S x.name) => run_home (d := dd) (ty := ty) (pos := pos) (aft := aft) (hd6.hom.mono hb) hxn e1 e2)
                have HPH := Lib.hid (fun (e : Hj.lookup x.name = none) => put_home (s := (i, (k : Int))) e)
                obtain ⟨lkk, hkl⟩ := keySL x.name hxn
                obtain ⟨name, bind, typ, sec, value, size⟩ := x
                dsimp only at *
                clear hx hxn
                generalize definesM ⟨name, bind, typ, sec, value, size⟩ = df at *
                generalize hhm : Hj.lookup name = hm at *
                clear hhm
                go_wp2_with ((with_reducible show wpList _ _ _ (⟨none, .store _ (.tmp 9) _, _, _, _, _⟩ :: _) _ _); go_must (refine wpList_storeNew rfl rfl (by kernel_rfl) rfl (by simp [Value.oneCell']) ?_; intro w6 hh6 hb6; have HH6 := Lib.hid hh6; have HD6 := Lib.hid (HDj.out.mono hb6); have HB6 := Lib.hid (HBj.out.trans (hb6.mono HBj.out.size)); obtain ⟨g0, g1, g2, g3, g4, g5⟩ := sym_box (s := ⟨name, bind, typ, sec, value, size⟩) hh6; clear hh6 hb6))
                have q3 := cell_rec HD6.out.box 3
                simp only [List.getElem?_toArray, List.getElem?_cons_succ, List.getElem?_cons_zero] at q3
                have hAB := fun (x : Of (fun wx => Below w6.heap.size w6 wx)) (b k : Nat) (h : b < w6.heap.size) => (show x.w.cell? ⟨b, k, none⟩ = w6.cell? ⟨b, k, none⟩ from by
                  unfold World.cell?
                  rw [x.h.block b h])
                have hb0 : Below w6.heap.size w6 { w6 with drawn := w6.drawn + 1 } := (Below.refl _ _).drew
                have hne : Nonempty (Of (fun wx => Below w6.heap.size w6 wx)) := ⟨⟨_, hb0⟩⟩
                have l1 := block_lt g0
                have l3 := block_lt q3
                refine wp_region_held (S := fun wx => Below w6.heap.size w6 wx) (by kernel_rfl) ?_
                change wpAnyH _ _ _ _ _ 13 _ _ _
                try go_frame
                refine heldS_quiet (i := 0) rfl (by kernel_rfl) rfl rfl (fun _ _ _ _ h => h) hb0 ?_
                intro K hK
                go_big_quiet_op
                go_big_quiet_on
                refine heldS_check (i := 1) rfl (by kernel_rfl) rfl rfl rfl (fun _ _ _ _ h => h) hb0 ?_
                go_frame
                refine heldS_quiet (i := 2) rfl (by kernel_rfl) rfl rfl (fun _ _ _ _ h => h) hb0 ?_
                intro K hK
                go_big_quiet_op
                go_big_quiet_on
                refine heldS_quiet (i := 3) rfl (by kernel_rfl) rfl rfl (fun _ _ _ _ h => h) hb0 ?_
                intro K hK
                go_big_quiet_op
                go_big_quiet_on
                refine heldS_quiet (i := 4) rfl (by kernel_rfl) rfl rfl (fun _ _ _ _ h => h) hb0 ?_
                intro K hK
                go_big_quiet_op
                go_big_quiet_on
                refine heldS_quiet (i := 5) rfl (by kernel_rfl) rfl rfl (fun _ _ _ _ h => h) hb0 ?_
                intro K hK
                go_big_quiet_op
                go_big_quiet_on
                refine heldS_val (i := 6) rfl (by kernel_rfl) rfl (fun _ _ _ _ h => h) hb0 (fun w' hw' => HRH.out w6 w' HD6.out hw' _ _ _ _ _ _ _ rfl rfl) ?_
                go_frame
                refine heldS_quiet (i := 7) rfl (by kernel_rfl) rfl rfl (fun _ _ _ _ h => h) hb0 ?_
                intro K hK
                go_big_quiet_op
                go_big_quiet_on
                refine heldS_quiet (i := 8) rfl (by kernel_rfl) rfl rfl (fun _ _ _ _ h => h) hb0 ?_
                intro K hK
                go_big_quiet_op
                go_big_quiet_on
                refine heldS_quiet (i := 9) rfl (by kernel_rfl) rfl rfl (fun _ _ _ _ h => h) hb0 ?_
                intro K hK
                go_big_quiet_op
                go_big_quiet_on
                refine heldS_one (i := 10) (by kernel_rfl) rfl ?_
                go_wp2
                refine ⟨(hb0.trans ((below_alloc w6.drew (.cells #[.int .i64 0, .int .i64 0] 61)).mono (Nat.le_refl _)) : Below w6.heap.size w6 _), ?_⟩
                refine heldS_one (i := 11) (by kernel_rfl) rfl ?_
                show wpList _ _ _ _ _ (World.alloc w6.drew (.cells #[.int .i64 0, .int .i64 0] 61))
                refine wpList_storeNew rfl rfl (by kernel_rfl) rfl (by simp [Value.oneCell']) ?_
                intro wA hhA hbA
                have hbA' : Below w6.heap.size w6 wA := hb0.trans hbA
                refine ⟨hbA', ?_⟩
                go_frame
                refine heldS_quiet (i := 12) rfl (by kernel_rfl) rfl rfl (fun _ _ _ _ h => h) hbA' ?_
                intro K hK
                go_big_quiet_op
                go_big_quiet_on
                refine wpAnyH_done (by kernel_rfl) ?_ _
                have HBA := Lib.hid (HB6.out.trans (hbA'.mono HB6.out.size))
                have HDA := Lib.hid (HD6.out.mono hbA')
                have HHA := Lib.hid (heap_below hbA' HH6.out)
                obtain ⟨g0, g1, g2, g3, g4, g5⟩ := sym_box (s := ⟨name, bind, typ, sec, value, size⟩) HHA.out
                clear hAB hne hb0 q3 hbA hbA' hhA
                cases hm with
                | some hs =>
                  have HSN := Lib.hid (show homeS (i, (k : Int)) Hj ⟨name, bind, typ, sec, value, size⟩ = Hj by rw [HHS.out, if_neg (by simp)])
                  go_wp2
                  go_roundw
                  case rel => exact ⟨j + 1, Hj, by go_num, by omega, Lib.hid (by rw [← HHO.out, HSX.out, HSN.out]), HDA.out, HBA.out, by omega⟩
                  case measure => simp [intOf] <;> omega
                | none =>
                  cases df with
                  | false =>
                    have HSN := Lib.hid (show homeS (i, (k : Int)) Hj ⟨name, bind, typ, sec, value, size⟩ = Hj by rw [HHS.out, if_neg (by simp)])
                    go_wp2_with (go_at_call 25; refine (HDE.out _).mono ?_; rintro e w7 ⟨rfl, hb7⟩; have HB7 := Lib.hid (HBA.out.trans (hb7.mono HBA.out.size)); have HD7 := Lib.hid (HDA.out.mono hb7); clear hb7)
                    go_roundw
                    case rel => exact ⟨j + 1, Hj, by go_num, by omega, Lib.hid (by rw [← HHO.out, HSX.out, HSN.out]), HD7.out, HB7.out, by omega⟩
                    case measure => simp [intOf] <;> omega
                  | true =>
                    have HSN := Lib.hid (show homeS (i, (k : Int)) Hj ⟨name, bind, typ, sec, value, size⟩ = Hj ++ [(name, (i, (k : Int)))] by rw [HHS.out, if_pos ⟨rfl, rfl⟩])
                    have HPP := Lib.hid (HPH.out rfl)
                    have HRM := Lib.hid (show (Hj.map fun x => (x.1, spotV x.2)).length < maxLen by unfold maxLen; rw [List.length_map]; omega)
                    go_wp2_with (go_at_call 25; refine (HDE.out _).mono ?_; rintro e w7 ⟨rfl, hb7⟩; have HB7 := Lib.hid (HBA.out.trans (hb7.mono HBA.out.size)); have HD7 := Lib.hid (HDA.out.mono hb7); have HH7 := Lib.hid (heap_below hb7 HHA.out); obtain ⟨g0, g1, g2, g3, g4, g5⟩ := sym_box (s := ⟨name, bind, typ, sec, value, size⟩) HH7.out; have q3 := cell_rec HD7.out.box 3; simp only [List.getElem?_toArray, List.getElem?_cons_succ, List.getElem?_cons_zero] at q3; clear hb7)
                    have hAB := fun (x : Above w7) (b k : Nat) (h : b < w7.heap.size) => Above.cell x b k h
                    have l1 := block_lt g0
                    have l3 := block_lt q3
                    refine wp_region_walk 9 [] (by kernel_rfl) (by kernel_rfl) ?_
                    simp only [List.take_succ_cons, List.take_zero, List.drop_succ_cons, List.drop_zero]
                    try go_frame
                    repeat (first | (refine walk_check (by kernel_rfl) rfl rfl ?_; go_frame) | (refine walk_quiet rfl rfl rfl ?_; intro K hK; go_big_quiet_op; go_big_quiet_on))
                    refine walk_nil ?_
                    intro wz hbz hF
                    have HDz := Lib.hid (HD7.out.mono hbz)
                    have HBz := Lib.hid (HB7.out.trans (hbz.mono HB7.out.size))
                    clear hF hAB q3 g0 g1 g2 g3 g4 g5 hbz
                    refine wpList_storeM TMH HDz.out.hom HRM.out (key := name) (val := spotV (i, (k : Int))) hkl rfl rfl rfl ?_
                    intro w8 hm8 hg8 hs8
                    have hm8' : MapIs Try.prog 9 S w8 mh ((Hj ++ [(name, (i, (k : Int)))]).map fun x => (x.1, spotV x.2)) := by rw [← HPP.out]; exact hm8
                    have HD8 := Lib.hid (HDz.out.stirHom hm8' hg8)
                    have HB8 := Lib.hid (HBz.out.trans (below_of_grown (B := w.heap.size) hg8 HBz.out.size (fun q hq => by cases hq; exact HDz.out.low.2.2)))
                    clear hm8 hm8' hg8 hs8
                    go_frame
                    go_wp2
                    go_roundw
                    case rel => exact ⟨j + 1, Hj ++ [(name, (i, (k : Int)))], by go_num, by omega, Lib.hid (by rw [← HHO.out, HSX.out, HSN.out]), HD8.out, HB8.out, by rw [List.length_append, List.length_singleton]; omega⟩
                    case measure => simp [intOf] <;> omega
              · obtain rfl : j = ns := by omega
                have HHE := Lib.hid (show Hj = HO by rw [← HHO.out, List.drop_eq_nil_of_le (by have := HNS.out; omega)]; rfl)
                go_wp2
                go_roundw
                case rel => exact ⟨k + 1, Hj, by go_num, by omega, Lib.hid (by rw [HHE.out, ← HHL.out, HSL.out]), HDj.out, HBj.out, by omega⟩
                case measure => simp [intOf] <;> omega
          · obtain rfl : k = nl := by omega
            have HHE := Lib.hid (show Hk = HF by rw [← HHL.out, List.drop_eq_nil_of_le (by have := HLL2.out; omega)]; rfl)
            go_wp2
            go_roundw
            case rel => exact ⟨i + 1, d2, Hk, by go_num, by omega, Lib.hid (by rw [HHE.out, ← HFI.out, HSI.out]), HDk.out, HBk.out, by omega, by omega, by omega⟩
            case measure => simp [intOf] <;> omega
    · obtain rfl : i = n := by omega
      have hfe : FIN = (d, H) := by rw [← HFI.out, List.drop_eq_nil_of_le (by have := HLL.out; omega)]; rfl
      subst hfe
      obtain ⟨hdo, hho⟩ := HSF.out
      dsimp only at hdo hho
      have HDO := Lib.hid hdo
      have HHO := Lib.hid hho
      have HOO := Lib.hid (fun T s (hs : s ∈ orderM 0 l T) => show (objAt l s).syms.length ≤ 1000 ∧ ∀ x ∈ (objAt l s).syms, x.name.length ≤ 9223372036854775807 from by
        have h1 := HK.out.objs _ (order_inside hs).2
        exact ⟨by omega, h1.2⟩)
      have HNXT := Lib.hid (fun d wx (hb : Below w.heap.size w wx) (hd : DrwAt wx w.heap.size p LV mt tb mh H d) (hdl : d.defd.length ≤ 1000000) => show Calls Try.prog 26 #[.pointer (some ⟨p, 0, none⟩)] wx fun e w' => e = .returned (.tuple #[.agg #[.int .i64 ((spotOf (nextM l H d)).1 : Int), .int .i64 (spotOf (nextM l H d)).2], .bool (nextM l H d).isSome]) ∧ Below wx.heap.size wx w' from nextR_any l V LV w.heap.size p mt tb mh H d wx (HI2.out.mono hb) hd HV.out HM.out hdl (HOO.out d.taken))
      have HTKE := Lib.hid (fun d s (hn : nextM l H d = some s) (hdo : DrnOk l d) wx (hb : Below w.heap.size w wx) (hd : DrwAt wx w.heap.size p LV mt tb mh H d) (h1 : d.taken.length ≤ 900000) (h2 : d.defd.length ≤ 900000) => show Calls Try.prog 24 #[.pointer (some ⟨p, 0, none⟩), .agg #[.int .i64 (s.1 : Int), .int .i64 s.2]] wx fun e w' => e = .returned (.tuple #[]) ∧ DrwAt w' w.heap.size p LV mt tb mh H (takeM l d s) ∧ Below w.heap.size w w' ∧ KeepC wx w' from by
        obtain ⟨-, -, o, ho⟩ := draw_step hdo HHO.out hn
        obtain ⟨⟨y, hy⟩, b1, b2, b3⟩ := memAt_obV HI2.out ho HV.out HM.out
        have h300 := (HK.out.objs _ b3).1
        have hya := (obVAt_at HI2.out hy).1
        exact takeR_any l V LV s y p mt tb mh H d w wx HI2.out hb hd hy b1 b2 (by have := HV.out; omega) (by rw [← hya]; omega) h2 h1)
      have HLEN := Lib.hid (fun d s (hn : nextM l H d = some s) (hdo : DrnOk l d) => show (takeM l d s).taken.length ≤ d.taken.length + 1 ∧ (takeM l d s).defd.length ≤ d.defd.length + 300 ∧ DrnOk l (takeM l d s) ∧ freeM 0 l (takeM l d s).taken < freeM 0 l d.taken from by
        obtain ⟨q1, q2, o, ho⟩ := draw_step hdo HHO.out hn
        obtain ⟨-, -, -, b3⟩ := memAt_obV HI2.out ho HV.out HM.out
        have h300 := (HK.out.objs _ b3).1
        obtain ⟨c1, c2⟩ := takeM_len (d := d) h300
        exact ⟨c1, c2, q1, q2⟩)
      have HFR := Lib.hid (freeM_le l 0 d.taken)
      have hms : i + memsM l ≤ 310 := by have h1 := HK.out.total; rw [HLL.out] at h1; exact h1
      clear hdo hho HSF HFI HF0
      obtain ⟨r, hr⟩ : ∃ r, r = nextM l H d := ⟨_, rfl⟩
      have HR := Lib.hid hr.symm
      have HNX0 := Lib.hid (HNXT.out d wr HBi.out HDi.out (by omega))
      rw [← hr] at HNX0
      clear hr
      go_wp2_with (first
        | (go_at_call 26; refine HNX0.out.mono ?_; rintro e w4 ⟨rfl, hb4⟩; have HD4 := Lib.hid (HDi.out.mono hb4); have HB4 := Lib.hid (HBi.out.trans (hb4.mono HBi.out.size)); clear hb4)
        | ((with_reducible show wpList _ _ _ (⟨none, .store _ (.tmp 12) _, _, _, _, _⟩ :: _) _ _); go_must (refine wpList_storeNew rfl rfl (by kernel_rfl) rfl (by simp [Value.oneCell']) ?_; intro w5 hh5 hb5; have HH5 := Lib.hid hh5; have HD5 := Lib.hid (HD4.out.mono hb5); have HB5 := Lib.hid (HB4.out.trans (hb5.mono HB4.out.size)); have hw4 := HB4.out.size; clear hh5 hb5)))
      go_loopg [12, 13] (memsM l + 1) (fun gg s12 s13 wr => ∃ (gk g : Nat) (d : Drn) (r : Option Spot), gk = gg ∧ s12 = .pointer (some ⟨g, 0, none⟩) ∧ s13 = .bool r.isSome ∧ Hid (nextM l H d = r) ∧ Hid (drawG l H gg d = drawnM l) ∧ Hid (DrnOk l d) ∧ freeM 0 l d.taken < gg ∧ Hid (DrwAt wr w.heap.size p LV mt tb mh H d) ∧ Hid (Below w.heap.size w wr) ∧ Hid (wr.heap[g]? = some (.cells #[.int .i64 ((spotOf r).1 : Int), .int .i64 (spotOf r).2] 61 (0, 0))) ∧ w.heap.size ≤ g ∧ d.taken.length + gg ≤ 700 ∧ d.defd.length + 300 * gg ≤ 210000)
      case atStart => exact ⟨_, _, d, r, rfl, rfl, rfl, HR.out, HDW.out.symm, HDO.out, by have := HFR.out; omega, HD5.out, HB5.out, HH5.out, hw4, by omega, by omega⟩
      case round =>
        obtain ⟨gk, g, d, r, rfl, rfl, rfl, HR, HG, HDO, hfr, HDr, HBr, HGC, hg0, htl, hdl⟩ := hrel
        have hwr := HBr.out.size
        cases r with
        | none =>
          have HFIN := Lib.hid (show d = drawnM l by rw [← HG.out, drawG_stop HR.out])
          go_wp2
          go_ret
          exact ⟨p, mt, tb, mh, H, rfl, by have h9 := HDr.out; rw [HLV.out, HN.out, HFIN.out] at h9; exact h9, HBr.out⟩
        | some s =>
          obtain ⟨c1, c2, c3, c4⟩ := HLEN.out d s HR.out HDO.out
          have HC3 := Lib.hid c3
          obtain ⟨gj, rfl⟩ : ∃ k, gk = k + 1 := ⟨gk - 1, by omega⟩
          have HG2 := Lib.hid (show drawG l H gj (takeM l d s) = drawnM l by have h1 := HG.out; rw [drawG, HR.out] at h1; exact h1)
          have HTK := Lib.hid (HTKE.out d s HR.out HDO.out wr HBr.out HDr.out (by omega) (by omega))
          obtain ⟨k0, k1⟩ := sp_box (s := s) HGC.out
          have HNX := Lib.hid (fun wx hb hd => HNXT.out (takeM l d s) wx hb hd (by omega))
          obtain ⟨d2, hd2⟩ : ∃ d2, d2 = takeM l d s := ⟨_, rfl⟩
          rw [← hd2] at c1 c2 c4 HC3 HG2 HTK HNX
          obtain ⟨r2, hr2⟩ : ∃ r, r = nextM l H d2 := ⟨_, rfl⟩
          have HR2 := Lib.hid hr2.symm
          rw [← hr2] at HNX
          clear hd2 hr2 c3
          go_wp2_with (first
            | (go_at_call 24; refine HTK.out.mono ?_; rintro e w6 ⟨rfl, hd6, hb6, hk6⟩; have HD6 := Lib.hid hd6; have HB6 := Lib.hid hb6; obtain ⟨k0, k1⟩ := sp_box (s := s) (hk6 _ _ _ _ HGC.out (by decide) (by decide)); clear hd6 hb6 hk6)
            | ((with_reducible show wpList _ _ _ (⟨none, .store _ (.tmp 12) (.tmp 93), _, _, _, _⟩ :: _) _ _); go_must (refine wpList_storeNew rfl rfl (by kernel_rfl) rfl (by simp [Value.oneCell']) ?_; intro w7 hh7 hb7; have HH7 := Lib.hid hh7; have HD7 := Lib.hid (HD6.out.mono hb7); have HB7 := Lib.hid (HB6.out.trans (hb7.mono HB6.out.size)); have hw6 := HB6.out.size; clear hh7 hb7))
            | (go_at_call 26; refine (HNX.out _ HB7.out HD7.out).mono ?_; rintro e w8 ⟨rfl, hb8⟩; have HH8 := Lib.hid (heap_below hb8 HH7.out); have HD8 := Lib.hid (HD7.out.mono hb8); have HB8 := Lib.hid (HB7.out.trans (hb8.mono HB7.out.size)); have hw8 := HB8.out.size; clear hb8)
            | ((with_reducible show wpList _ _ _ (⟨none, .store _ (.tmp 12) _, _, _, _, _⟩ :: _) _ _); go_must (refine wpList_storeRowS HH8.out rfl rfl rfl (by kernel_rfl) (by simp [Value.oneCell']) ?_; intro w9 hh9 hs9; have HH9 := Lib.hid hh9; have HS9 := Lib.hid hs9; clear hh9 hs9)))
          go_roundg gj
          case measure => omega
          case rel => exact ⟨gj, _, d2, r2, rfl, rfl, rfl, HR2.out, HG2.out, HC3.out, by omega, (HD8.out.stirs HS9.out HH8.out (by decide) (by decide) (by decide)), (HB8.out.trans (HS9.out.below hw8 (fun q hq => by rw [hq]; exact hw6))), HH9.out, hw6, by omega, by omega⟩
end Go.Proofs.Ytnhbgijecdeahaa
namespace Go.Proofs.Ytnhbgijecdeahaa
open Go.RowKit Go.Fd
abbrev PWin := List UInt8 × Nat × WinM
abbrev winC (x : WinM) : Array Value := #[S x.name, .int .i64 x.mod, .int .i64 x.sym, .bool x.common, .int .u64 (x.size : Int), .int .u64 (x.align : Int)]
abbrev ptrV (b : Nat) : Value := .pointer (some ⟨b, 0, none⟩)
theorem TMW : KeyT Try.prog 92 9 98 S := ⟨by kernel_rfl, Maps.string_keyed (by kernel_rfl), fun a b h => by simpa [S] using h⟩
theorem TMI : KeyT Try.prog 93 9 3 S := ⟨by kernel_rfl, Maps.string_keyed (by kernel_rfl), fun a b h => by simpa [S] using h⟩
theorem TMU : KeyT Try.prog 94 9 40 S := ⟨by kernel_rfl, Maps.string_keyed (by kernel_rfl), fun a b h => by simpa [S] using h⟩
theorem zeroWp (w : World) : (zeroValue 98).run Try.prog w = .ok (.pointer none) w := by kernel_rfl
theorem zeroI6 (w : World) : (zeroValue 3).run Try.prog w = .ok (.int .i64 0) w := by kernel_rfl
theorem zeroU6 (w : World) : (zeroValue 40).run Try.prog w = .ok (.int .u64 0) w := by kernel_rfl
theorem nodup_get {α : Type} {l : List α} (h : l.Nodup) {i j : Nat} {x : α} (h1 : l[i]? = some x) (h2 : l[j]? = some x) : i = j := by
  have hi := (List.getElem?_eq_some_iff.1 h1).1
  have hj := (List.getElem?_eq_some_iff.1 h2).1
  rcases Nat.lt_trichotomy i j with hl | hl | hl
  · have := List.pairwise_iff_getElem.1 h i j hi hj hl
    exact absurd ((List.getElem?_eq_some_iff.1 h1).2.trans (List.getElem?_eq_some_iff.1 h2).2.symm) this
  · exact hl
  · have := List.pairwise_iff_getElem.1 h j i hj hi hl
    exact absurd ((List.getElem?_eq_some_iff.1 h2).2.trans (List.getElem?_eq_some_iff.1 h1).2.symm) this
/-- A chooser in memory. -/
structure ChoAt (w : World) (base p mw mr ma : Nat) (c : Cho) (PW : List PWin) : Prop where
  box : w.heap[p]? = some (.cells #[.map (some mw), .map (some mr), .map (some ma), .bool c.twice, .slice none 0 0] 96 (0, 0))
  eqw : c.wins = PW.map fun x => (x.1, x.2.2)
  wins : MapIs Try.prog 9 S w mw (PW.map fun x => (x.1, ptrV x.2.1))
  winc : ∀ x ∈ PW, w.heap[x.2.1]? = some (.cells (winC x.2.2) 42 (0, 0)) ∧ base ≤ x.2.1
  blk : (PW.map (·.2.1)).Nodup
  ranks : MapIs Try.prog 9 S w mr (c.ranks.map fun x => (x.1, Value.int .i64 x.2))
  aligns : MapIs Try.prog 9 S w ma (c.aligns.map fun x => (x.1, Value.int .u64 (x.2 : Int)))
  low : base ≤ p ∧ base ≤ mw ∧ base ≤ mr ∧ base ≤ ma
  ne : mw ≠ mr ∧ mw ≠ ma ∧ mr ≠ ma
section
variable {w w' : World} {base p mw mr ma : Nat} {c : Cho} {PW : List PWin}
theorem ChoAt.mono (h : ChoAt w base p mw mr ma c PW) (hb : Below w.heap.size w w') : ChoAt w' base p mw mr ma c PW :=
  ⟨heap_below hb h.box, h.eqw, h.wins.mono hb, fun x hx => ⟨heap_below hb (h.winc x hx).1, (h.winc x hx).2⟩, h.blk, h.ranks.mono hb, h.aligns.mono hb, h.low, h.ne⟩
theorem ChoAt.names (h : ChoAt w base p mw mr ma c PW) : (PW.map (·.1)).Nodup := by
  have := h.wins.nodup
  rw [List.map_map] at this
  exact this
theorem map_cells {κ : Type} {k : TypeId} {mk : κ → Value} {b g : Nat} {E : List (κ × Value)} {cs : Array Value} {t : TypeId} {fr : Nat × Nat} (h : MapIs Try.prog k mk w b E) (hg : w.heap[g]? = some (.cells cs t fr)) : g ≠ b := fun e => by
  obtain ⟨es, clock, hb, -⟩ := h
  rw [e, hb] at hg
  cases hg
/-- A winner's block, or the chooser's own, turns. -/
theorem mapStir {κ : Type} {k : TypeId} {mk : κ → Value} {b g : Nat} {E : List (κ × Value)} {cs : Array Value} {t : TypeId} {fr : Nat × Nat} (h : MapIs Try.prog k mk w b E) (hs : Stirs (fun q => q = g) w w') (hg : w.heap[g]? = some (.cells cs t fr)) : MapIs Try.prog k mk w' b E := by
  have hne := map_cells h hg
  obtain ⟨es, clock, hb, r⟩ := h
  exact ⟨es, clock, hs.kept hb (fun e => hne e.symm), r⟩
theorem ChoAt.win (h : ChoAt w base p mw mr ma c PW) {n : List UInt8} {pb : Nat} {wn nw : WinM} (hm : (n, pb, wn) ∈ PW) (hs : Stirs (fun q => q = pb) w w') (hn : w'.heap[pb]? = some (.cells (winC nw) 42 (0, 0))) :
    ChoAt w' base p mw mr ma ⟨putA c.wins n nw, c.ranks, c.aligns, c.twice⟩ (PW.map fun x => if x.1 = n then (x.1, x.2.1, nw) else x) := by
  have hg := (h.winc _ hm).1
  have hkn : n ∈ c.wins.map (·.1) := by rw [h.eqw, List.map_map]; exact List.mem_map.2 ⟨_, hm, rfl⟩
  have hnd := h.names
  refine ⟨hs.kept h.box (fun e => ?_), ?_, ?_, fun x hx => ?_, ?_, mapStir h.ranks hs hg, mapStir h.aligns hs hg, h.low, h.ne⟩
  · rw [← e, h.box] at hg
    cases hg
  · show putA c.wins n nw = _
    unfold putA
    rw [if_pos hkn, h.eqw, List.map_map, List.map_map]
    apply List.map_congr_left
    intro x _
    simp only [Function.comp_apply]
    by_cases e : x.1 = n
    · rw [if_pos e, if_pos e, e]
    · rw [if_neg e, if_neg e]
  · rw [List.map_map]
    have e : ((fun x : PWin => (x.1, ptrV x.2.1)) ∘ fun x => if x.1 = n then (x.1, x.2.1, nw) else x) = fun x : PWin => (x.1, ptrV x.2.1) := by
      funext x
      simp only [Function.comp_apply]
      split <;> rfl
    rw [e]
    exact mapStir h.wins hs hg
  · obtain ⟨y, hy, rfl⟩ := List.mem_map.1 hx
    by_cases e : y.1 = n
    · rw [if_pos e]
      have hyy : y = (n, pb, wn) := by
        obtain ⟨i, hi⟩ := List.mem_iff_getElem?.1 hy
        obtain ⟨j, hj⟩ := List.mem_iff_getElem?.1 hm
        have hij : i = j := by
          have h1 : (PW.map (·.1))[i]? = some n := by rw [List.getElem?_map, hi]; simp [e]
          have h2 : (PW.map (·.1))[j]? = some n := by rw [List.getElem?_map, hj]; rfl
          exact nodup_get hnd h1 h2
        rw [hij, hj] at hi
        exact (Option.some.inj hi).symm
      subst hyy
      exact ⟨hn, (h.winc _ hm).2⟩
    · rw [if_neg e]
      have hne : y.2.1 ≠ pb := fun e2 => by
        obtain ⟨i, hi⟩ := List.mem_iff_getElem?.1 hy
        obtain ⟨j, hj⟩ := List.mem_iff_getElem?.1 hm
        have h1 : (PW.map (·.2.1))[i]? = some pb := by rw [List.getElem?_map, hi]; simp [e2]
        have h2 : (PW.map (·.2.1))[j]? = some pb := by rw [List.getElem?_map, hj]; rfl
        have hij : i = j := nodup_get h.blk h1 h2
        rw [hij, hj] at hi
        exact e (by rw [← Option.some.inj hi])
      exact ⟨hs.kept (h.winc y hy).1 hne, (h.winc y hy).2⟩
  · rw [List.map_map]
    have e : ((fun x : PWin => x.2.1) ∘ fun x => if x.1 = n then (x.1, x.2.1, nw) else x) = fun x : PWin => x.2.1 := by
      funext x
      simp only [Function.comp_apply]
      split <;> rfl
    rw [e]
    exact h.blk
/-- The chooser's flag turns. -/
theorem ChoAt.flag (h : ChoAt w base p mw mr ma c PW) {tw : Bool} (hs : Stirs (fun q => q = p) w w') (hn : w'.heap[p]? = some (.cells #[.map (some mw), .map (some mr), .map (some ma), .bool tw, .slice none 0 0] 96 (0, 0))) :
    ChoAt w' base p mw mr ma ⟨c.wins, c.ranks, c.aligns, tw⟩ PW := by
  refine ⟨hn, h.eqw, mapStir h.wins hs h.box, fun x hx => ⟨hs.kept (h.winc x hx).1 fun e => ?_, (h.winc x hx).2⟩, h.blk, mapStir h.ranks hs h.box, mapStir h.aligns hs h.box, h.low, h.ne⟩
  have := (h.winc x hx).1
  rw [e, h.box] at this
  cases this
theorem ChoAt.mapsTurn (h : ChoAt w base p mw mr ma c PW) {mb : Nat} (hg : w.grownBy w' (some mb)) {κ : Type} {k : TypeId} {mk : κ → Value} {E : List (κ × Value)} (hmb : MapIs Try.prog k mk w mb E) : w'.heap[p]? = some (.cells #[.map (some mw), .map (some mr), .map (some ma), .bool c.twice, .slice none 0 0] 96 (0, 0)) ∧ ∀ x ∈ PW, w'.heap[x.2.1]? = some (.cells (winC x.2.2) 42 (0, 0)) ∧ base ≤ x.2.1 := by
  refine ⟨(hg.block p (Array.getElem?_eq_some_iff.1 h.box).1 fun e => map_cells hmb h.box (Option.some.inj e)).trans h.box, fun x hx => ?_⟩
  obtain ⟨h1, h2⟩ := h.winc x hx
  exact ⟨(hg.block _ (Array.getElem?_eq_some_iff.1 h1).1 fun e => map_cells hmb h1 (Option.some.inj e)).trans h1, h2⟩
theorem ChoAt.rank (h : ChoAt w base p mw mr ma c PW) {R : List (List UInt8 × Int)} (hm : MapIs Try.prog 9 S w' mr (R.map fun x => (x.1, Value.int .i64 x.2))) (hg : w.grownBy w' (some mr)) : ChoAt w' base p mw mr ma ⟨c.wins, R, c.aligns, c.twice⟩ PW := by
  obtain ⟨h1, h2⟩ := h.mapsTurn hg h.ranks
  exact ⟨h1, h.eqw, h.wins.kept hg (fun e => h.ne.1 (Option.some.inj e)), h2, h.blk, hm, h.aligns.kept hg (fun e => h.ne.2.2 (Option.some.inj e).symm), h.low, h.ne⟩
theorem ChoAt.align (h : ChoAt w base p mw mr ma c PW) {R : List (List UInt8 × Nat)} (hm : MapIs Try.prog 9 S w' ma (R.map fun x => (x.1, Value.int .u64 (x.2 : Int)))) (hg : w.grownBy w' (some ma)) : ChoAt w' base p mw mr ma ⟨c.wins, c.ranks, R, c.twice⟩ PW := by
  obtain ⟨h1, h2⟩ := h.mapsTurn hg h.aligns
  exact ⟨h1, h.eqw, h.wins.kept hg (fun e => h.ne.2.1 (Option.some.inj e)), h2, h.blk, h.ranks.kept hg (fun e => h.ne.2.2 (Option.some.inj e)), hm, h.low, h.ne⟩
theorem ChoAt.new (h : ChoAt w base p mw mr ma c PW) {n : List UInt8} {pb : Nat} (hb : w.heap[pb]? = some (.cells (winC (winNo n)) 42 (0, 0))) (hbb : base ≤ pb) (hf : ∀ x ∈ PW, x.2.1 ≠ pb)
    (hm : MapIs Try.prog 9 S w' mw ((PW ++ [(n, pb, winNo n)]).map fun x => (x.1, ptrV x.2.1))) (hg : w.grownBy w' (some mw)) : ChoAt w' base p mw mr ma ⟨c.wins ++ [(n, winNo n)], c.ranks, c.aligns, c.twice⟩ (PW ++ [(n, pb, winNo n)]) := by
  obtain ⟨h1, h2⟩ := h.mapsTurn hg h.wins
  refine ⟨h1, by rw [List.map_append, ← h.eqw]; rfl, hm, fun x hx => ?_, ?_, h.ranks.kept hg (fun e => h.ne.1 (Option.some.inj e).symm), h.aligns.kept hg (fun e => h.ne.2.1 (Option.some.inj e).symm), h.low, h.ne⟩
  · rcases List.mem_append.1 hx with hx | hx
    · exact h2 x hx
    · rw [List.mem_singleton] at hx
      subst hx
      exact ⟨(hg.block pb (Array.getElem?_eq_some_iff.1 hb).1 fun e => map_cells h.wins hb (Option.some.inj e)).trans hb, hbb⟩
  · rw [List.map_append]
    refine List.nodup_append.2 ⟨h.blk, by simp, fun a ha b hb2 e => ?_⟩
    obtain ⟨x, hx, rfl⟩ := List.mem_map.1 ha
    simp only [List.map_cons, List.map_nil, List.mem_singleton] at hb2
    exact hf x hx (by rw [e, hb2])
end
/-! ### Look-ups -/
theorem look_none {κ : Type} [DecidableEq κ] {E : List (κ × Value)} {n : κ} {z : Value} (h : n ∉ E.map (·.1)) : lookV false z (E.lookup n) = z := by
  rw [lookup_none_of h]
  rfl
theorem look_any {β : Type} {A : List (List UInt8 × β)} {n : List UInt8} (f : β → Value) {z : β} : lookV false (f z) (@List.lookup _ _ instBEqOfDecidableEq n (A.map fun x => (x.1, f x.2))) = f ((A.lookup n).getD z) := by
  rw [beq_same]
  induction A with
  | nil => rfl
  | cons x A ih =>
    obtain ⟨k, v⟩ := x
    rw [List.map_cons, List.lookup_cons, List.lookup_cons]
    cases n == k with
    | true => rfl
    | false => exact ih
theorem putAny {β : Type} {A : List (List UInt8 × β)} {n : List UInt8} (f : β → Value) {v : β} : @putE _ instDecidableEqList (A.map fun x => (x.1, f x.2)) n (f v) = (putA A n v).map fun x => (x.1, f x.2) := by
  unfold putE putA
  have e : (A.map fun x => (x.1, f x.2)).map (·.1) = A.map (·.1) := by rw [List.map_map]; rfl
  rw [e]
  by_cases h : n ∈ A.map (·.1)
  · rw [if_pos h, if_pos h, List.map_map, List.map_map]
    apply List.map_congr_left
    intro x _
    simp only [Function.comp_apply]
    split <;> rfl
  · rw [if_neg h, if_neg h]
    simp
theorem putA_len {β : Type} (A : List (List UInt8 × β)) (n : List UInt8) (v : β) : (putA A n v).length ≤ A.length + 1 := by
  unfold putA
  split <;> simp
/-- A winner that is there. -/
theorem ChoAt.find {w : World} {base p mw mr ma : Nat} {c : Cho} {PW : List PWin} (h : ChoAt w base p mw mr ma c PW) {n : List UInt8} (hn : n ∈ c.wins.map (·.1)) : ∃ pb, (n, pb, winOf c.wins n) ∈ PW ∧ lookV false (.pointer none) (@List.lookup _ _ instBEqOfDecidableEq n (PW.map fun x => (x.1, ptrV x.2.1))) = ptrV pb := by
  have hnd := h.names
  rw [h.eqw]
  rw [h.eqw, List.map_map] at hn
  rw [beq_same]
  clear h
  induction PW with
  | nil => cases hn
  | cons x PW ih =>
    obtain ⟨k, b, v⟩ := x
    by_cases e : n = k
    · subst e
      refine ⟨b, ?_, ?_⟩
      · unfold winOf
        rw [List.map_cons, List.lookup_cons]
        simp
      · rw [List.map_cons, List.lookup_cons]
        simp [lookV]
    · have h2 : (n == k) = false := by simpa using e
      simp only [List.map_cons, List.mem_cons, Function.comp_apply] at hn
      rw [List.map_cons, List.nodup_cons] at hnd
      obtain ⟨pb, h3, h4⟩ := ih (by rcases hn with hn | hn; exact absurd hn e; exact hn) hnd.2
      refine ⟨pb, List.mem_cons_of_mem _ ?_, ?_⟩
      · unfold winOf at h3 ⊢
        rw [List.map_cons, List.lookup_cons, h2]
        exact h3
      · rw [List.map_cons, List.lookup_cons, h2]
        exact h4
end Go.Proofs.Ytnhbgijecdeahaa
namespace Go.Proofs.Ytnhbgijecdeahaa
open Go.RowKit Go.Fd
theorem run_look1 {P : Program} {κ : Type} [DecidableEq κ] {t k e : TypeId} {mk : κ → Value} {wx : World} {mb : Nat} {E : List (κ × Value)} {n : κ} {z v : Value} {l : Lit} {a : Act} {x y : Operand} {d : Option Tmp} {ty : TypeId} {pos : String} {aft : Array Edge} (T : KeyT P t k e mk) (hm : MapIs P k mk wx mb E) (hz : (zeroValue e).run P wx = .ok z wx) (hkl : keyOf P k (mk n) = some l) (hv : lookV false z (E.lookup n) = v) (hx : a.eval x = .map (some mb)) (hy : a.eval y = mk n) :
    (execOp a.eval ⟨d, .lookup t x y false, ty, pos, aft, none⟩).run P wx = .ok (.value v) wx := by
  have h := hm.look false T hz (x := n) hkl
  rw [hv] at h
  simp [execOp, hx, hy, h, Result.andThen]
/-- 'max' of two numbers. -/
theorem run_maxU {wx : World} {a : Act} {x y : Operand} {m n : Nat} {d : Option Tmp} {ty : TypeId} {pos : String} {aft : Array Edge} (hx : a.eval x = .int .u64 (m : Int)) (hy : a.eval y = .int .u64 (n : Int)) :
    (execOp a.eval ⟨d, .call { callee := .builtin .max, args := #[x, y], argTypes := #[40, 40] }, ty, pos, aft, none⟩).run Try.prog wx = .ok (.value (.int .u64 ((max m n : Nat) : Int))) wx := by
  have e : (if (n : Int) > (m : Int) then (n : Int) else (m : Int)) = ((max m n : Nat) : Int) := by split <;> omega
  have hrun : (Builtin.max_ #[40, 40] ty #[.int .u64 (m : Int), .int .u64 (n : Int)]).run Try.prog wx = .ok (.int .u64 ((max m n : Nat) : Int)) wx := by
    rw [← e]
    simp [Builtin.max_, Builtin.max2, List.foldlM]
  simp [execOp, resolve, invoke, builtin, hx, hy, hrun, Result.andThen]
/-- One cell of a block: a Bool. -/
theorem wpList_setBool {P : Program} {ops : Array Oper} {rest : List Oper} {Q : Exit → Act → World → Prop} {a : Act} {w : World} {d : Option Tmp} {ty t tb : TypeId} {pos : String} {aft : Array Edge} {p x : Operand} {c : Array Value} {g j : Nat} {n : Bool} (hg : w.heap[g]? = some (.cells c tb (0, 0))) (hj : j < c.size) (hp : a.eval p = .pointer (some ⟨g, j, none⟩)) (hx : a.eval x = .bool n) (hs : ∀ w, (sizeOf t).run P w = .ok 1 w)
    (h : ∀ w1, w1.heap[g]? = some (.cells (c.setIfInBounds j (.bool n)) tb (0, 0)) → Stirs (fun k => k = g) w w1 → wpList P ops Q rest (a.put d undef) w1) :
    wpList P ops Q (⟨d, .store t p x, ty, pos, aft, none⟩ :: rest) a w := by
  have hc : w.cell? ⟨g, j, none⟩ = some c[j] := (cell_rec hg j).trans (Array.getElem?_eq_getElem hj)
  have hfz := free_rec' hg j
  have hst : Stirs (fun k => k = g) w (w.setCell ⟨g, j, none⟩ (.bool n)) := stirs_setCell (S := fun k => k = g) _ g j _ rfl
  refine wpList_did (w' := w.setCell ⟨g, j, none⟩ (.bool n)) rfl ?_ (h _ ?_ hst)
  · simp only [execOp, hp, hx]
    simp [go_sem, hs, hc, hfz]
  · simp [World.setCell, Array.getElem?_modify, hg]
abbrev symC (s : SymM) : Array Value := #[S s.name, .int .i64 s.bind, .int .i64 s.typ, .int .i64 s.sec, .int .u64 (s.value : Int), .int .u64 (s.size : Int)]
theorem winsM_mem {c : Cho} {n : List UInt8} (h : n ∈ c.wins.map (·.1)) : winsM c n = c.wins := by unfold winsM; rw [if_pos h]
theorem winsM_new {c : Cho} {n : List UInt8} (h : n ∉ c.wins.map (·.1)) : winsM c n = c.wins ++ [(n, winNo n)] := by unfold winsM; rw [if_neg h]
set_option maxHeartbeats 16000000 in
set_option maxRecDepth 100000 in
theorem seeR_any (c : Cho) (PW : List PWin) (mod sym : Nat) (s : SymM) (base p mw mr ma : Nat) (w : World) (h : ChoAt w base p mw mr ma c PW) (hb : base ≤ w.heap.size) (h1 : c.wins.length ≤ 1000000) (h2 : c.ranks.length ≤ 1000000) (h3 : c.aligns.length ≤ 1000000) (hn : s.name.length ≤ 9223372036854775807) (hv : s.value < 18446744073709551616) (hsz : s.size < 18446744073709551616) :
    Calls Try.prog 33 #[.pointer (some ⟨p, 0, none⟩), .int .i64 (mod : Int), .int .i64 (sym : Int), symV s] w fun e w' => e = .returned (.tuple #[]) ∧ (∃ PW', ChoAt w' base p mw mr ma (seeM mod sym c s) PW') ∧ Below base w w' := by
  have HSM : Hid (seeM mod sym c s = if s.bind = 0 ∨ s.name = [] then c else if definesM s = false then { c with wins := winsM c s.name } else if losesM (rankM s) (rankOf c.ranks s.name) s.size (winOf (winsM c s.name) s.name).size = true then ⟨winsM c s.name, c.ranks, if rankM s = 2 then putA c.aligns s.name (max (alignOf c.aligns s.name) s.value) else c.aligns, c.twice || (decide (rankM s = 3) && decide (rankOf c.ranks s.name = 3))⟩ else ⟨putA (winsM c s.name) s.name (newWin mod sym s), putA c.ranks s.name (rankM s), if rankM s = 2 then putA c.aligns s.name (max (alignOf c.aligns s.name) s.value) else c.aligns, c.twice || (decide (rankM s = 3) && decide (rankOf c.ranks s.name = 3))⟩) := rfl
  have HC := Lib.hid h
  have HDE := Lib.hid (fun wx => definesR_any s wx)
  have HRK := Lib.hid (fun wx => rankR_any s wx)
  obtain ⟨lk, hkl⟩ := keySL s.name hn
  have HLR := Lib.hid h2
  have HLA := Lib.hid h3
  have HLW := Lib.hid (show PW.length ≤ 1000000 by rw [h.eqw, List.length_map] at h1; exact h1)
  have HHV := Lib.hid hv
  have HHS := Lib.hid hsz
  have HNW : Hid (newWin mod sym s = ⟨s.name, mod, sym, decide (rankM s = 2), if rankM s = 2 then s.size else 0, 0⟩) := rfl
  have HRP := Lib.hid (rankM_pos s)
  have hpw := (Array.getElem?_eq_some_iff.1 h.box).1
  generalize seeM mod sym c s = RES at *
  generalize newWin mod sym s = NW at *
  generalize definesM s = df at *
  generalize rankM s = rk at *
  obtain ⟨name, bind, typ, sec, value, size⟩ := s
  dsimp only at *
  clear h h1 h2 h3 hn hv hsz
  by_cases q1 : bind = 0
  · have HR := Lib.hid (show RES = c by rw [HSM.out, if_pos (.inl q1)])
    have t1 : (bind == 0) = true := by simpa using q1
    clear q1 HSM
    go_enter Try.func33, Try.ntmps33
    go_wp2_with ((with_reducible show wpList _ _ _ (⟨some 7, .box _ _, _, _, _, _⟩ :: _) _ _); go_must (refine wpList_box rfl ?_; intro w1 hx1 hb1 hs1; have HB1 := Lib.hid (hb1.mono hb); have HC1 := Lib.hid (HC.out.mono hb1); obtain ⟨g0, g1, g2, g3, g4, g5⟩ := sym_box (s := ⟨name, bind, typ, sec, value, size⟩) hx1; clear hx1 hb1))
    exact bodyPost_ret (results_none rfl _ _ _) rfl ⟨rfl, ⟨PW, by rw [HR.out]; exact HC1.out⟩, HB1.out⟩
  have t1 : (bind == 0) = false := by simpa using q1
  by_cases q2 : name = []
  · have HR := Lib.hid (show RES = c by rw [HSM.out, if_pos (.inr q2)])
    have t2 : (name == []) = true := by simpa using q2
    have t3 : name.isEmpty = true := by rw [q2]; rfl
    clear q1 q2 HSM
    go_enter Try.func33, Try.ntmps33
    go_wp2_with ((with_reducible show wpList _ _ _ (⟨some 7, .box _ _, _, _, _, _⟩ :: _) _ _); go_must (refine wpList_box rfl ?_; intro w1 hx1 hb1 hs1; have HB1 := Lib.hid (hb1.mono hb); have HC1 := Lib.hid (HC.out.mono hb1); obtain ⟨g0, g1, g2, g3, g4, g5⟩ := sym_box (s := ⟨name, bind, typ, sec, value, size⟩) hx1; clear hx1 hb1))
    exact bodyPost_ret (results_none rfl _ _ _) rfl ⟨rfl, ⟨PW, by rw [HR.out]; exact HC1.out⟩, HB1.out⟩
  have t2 : (name == []) = false := by simpa using q2
  have t3 : name.isEmpty = false := by simpa using q2
  have HSM2 := Lib.hid (show RES = if df = false then { c with wins := winsM c name } else if losesM rk (rankOf c.ranks name) size (winOf (winsM c name) name).size = true then ⟨winsM c name, c.ranks, if rk = 2 then putA c.aligns name (max (alignOf c.aligns name) value) else c.aligns, c.twice || (decide (rk = 3) && decide (rankOf c.ranks name = 3))⟩ else ⟨putA (winsM c name) name NW, putA c.ranks name rk, if rk = 2 then putA c.aligns name (max (alignOf c.aligns name) value) else c.aligns, c.twice || (decide (rk = 3) && decide (rankOf c.ranks name = 3))⟩ by rw [HSM.out, if_neg (by rw [not_or]; exact ⟨q1, q2⟩)])
  clear q1 q2 HSM
  go_enter Try.func33, Try.ntmps33
  go_wp2_with ((with_reducible show wpList _ _ _ (⟨some 7, .box _ _, _, _, _, _⟩ :: _) _ _); go_must (refine wpList_box rfl ?_; intro w1 hx1 hb1 hs1; have HX1 := Lib.hid (show w1.heap[w.heap.size]? = some (.cells (symC ⟨name, bind, typ, sec, value, size⟩) 44 (0, 0)) from hx1); have HB1 := Lib.hid (hb1.mono hb); have HC1 := Lib.hid (HC.out.mono hb1); obtain ⟨g0, g1, g2, g3, g4, g5⟩ := sym_box (s := ⟨name, bind, typ, sec, value, size⟩) hx1; clear hx1 hb1))
  obtain ⟨sb, hsb⟩ : ∃ b, b = w.heap.size := ⟨_, rfl⟩
  rw [← hsb] at HX1 g0 g1 g2 g3 g4 g5 hs1 ⊢
  have HSB := Lib.hid (show base ≤ sb by rw [hsb]; exact hb)
  clear hsb
  have q0 := cell_rec HC1.out.box 0
  simp only [List.getElem?_toArray, List.getElem?_cons_zero] at q0
  have hw1b : base ≤ w1.heap.size := Nat.le_trans hb HB1.out.size
  obtain ⟨po, hpo, hpc⟩ : ∃ po : Option Addr, lookV false (.pointer none) (@List.lookup _ _ instBEqOfDecidableEq name (PW.map fun x => (x.1, ptrV x.2.1))) = .pointer po ∧ ((po = none ∧ name ∉ c.wins.map (·.1)) ∨ ∃ pb, po = some ⟨pb, 0, none⟩ ∧ (name, pb, winOf c.wins name) ∈ PW ∧ name ∈ c.wins.map (·.1)) := by
    by_cases hin : name ∈ c.wins.map (·.1)
    · obtain ⟨pb, h1, h2⟩ := HC.out.find hin
      exact ⟨_, h2, .inr ⟨pb, rfl, h1, hin⟩⟩
    · refine ⟨none, look_none (by rw [HC.out.eqw, List.map_map] at hin; rw [List.map_map]; exact hin), .inl ⟨rfl, hin⟩⟩
  have HPV := Lib.hid hpo
  have HPC := Lib.hid hpc
  clear hpo hpc
  have hAB := fun (x : Of (fun wx => Below w1.heap.size w1 wx)) (b k : Nat) (h : b < w1.heap.size) => (show x.w.cell? ⟨b, k, none⟩ = w1.cell? ⟨b, k, none⟩ from by
    unfold World.cell?
    rw [x.h.block b h])
  have hb0 : Below w1.heap.size w1 { w1 with drawn := w1.drawn + 1 } := (Below.refl _ _).drew
  have hne : Nonempty (Of (fun wx => Below w1.heap.size w1 wx)) := ⟨⟨_, hb0⟩⟩
  have l1 := block_lt g0
  have l3 := block_lt q0
  refine wp_region_held (S := fun wx => Below w1.heap.size w1 wx) (by kernel_rfl) ?_
  change wpAnyH _ _ _ _ _ 8 _ _ _
  try go_frame
  refine heldS_quiet (i := 0) rfl (by kernel_rfl) rfl rfl (fun _ _ _ _ h => h) hb0 ?_
  intro K hK
  go_big_quiet_op
  go_big_quiet_on
  refine heldS_check (i := 1) rfl (by kernel_rfl) rfl rfl rfl (fun _ _ _ _ h => h) hb0 ?_
  go_frame
  refine heldS_quiet (i := 2) rfl (by kernel_rfl) rfl rfl (fun _ _ _ _ h => h) hb0 ?_
  intro K hK
  go_big_quiet_op
  go_big_quiet_on
  refine heldS_quiet (i := 3) rfl (by kernel_rfl) rfl rfl (fun _ _ _ _ h => h) hb0 ?_
  intro K hK
  go_big_quiet_op
  go_big_quiet_on
  refine heldS_quiet (i := 4) rfl (by kernel_rfl) rfl rfl (fun _ _ _ _ h => h) hb0 ?_
  intro K hK
  go_big_quiet_op
  go_big_quiet_on
  refine heldS_quiet (i := 5) rfl (by kernel_rfl) rfl rfl (fun _ _ _ _ h => h) hb0 ?_
  intro K hK
  go_big_quiet_op
  go_big_quiet_on
  refine heldS_val (i := 6) rfl (by kernel_rfl) rfl (fun _ _ _ _ h => h) hb0 (fun w' hw' => run_look1 TMW (HC1.out.wins.mono hw') (zeroWp _) hkl HPV.out rfl rfl) ?_
  go_frame
  refine heldS_quiet (i := 7) rfl (by kernel_rfl) rfl rfl (fun _ _ _ _ h => h) hb0 ?_
  intro K hK
  go_big_quiet_op
  go_big_quiet_on
  refine wpAnyH_done (by kernel_rfl) ?_ _
  have hb9 : Below w1.heap.size w1 w1.drew := hb0
  have HC2 := Lib.hid (HC1.out.mono hb9)
  have HX2 := Lib.hid (heap_below hb9 HX1.out)
  have HB2 := Lib.hid (HB1.out.trans (hb9.mono hw1b))
  have hw2b : base ≤ w1.drew.heap.size := hw1b
  change Exit.then _ _ _ _ w1.drew
  clear hAB hne q0 l1 l3 g0 g1 g2 g3 g4 g5 hb0 hb9
  generalize w1.drew = w2 at *
  go_upto_if 27 with fail
  go_cut [8] from 28 to 38 (fun s8 wx => ∃ (pb : Nat) (PX : List PWin), s8 = ptrV pb ∧ Hid (ChoAt wx base p mw mr ma ⟨winsM c name, c.ranks, c.aligns, c.twice⟩ PX) ∧ Hid ((name, pb, winOf (winsM c name) name) ∈ PX) ∧ Hid (wx.heap[sb]? = some (.cells (symC ⟨name, bind, typ, sec, value, size⟩) 44 (0, 0))) ∧ Hid (Below base w wx))
  case first =>
    rcases HPC.out with ⟨hpo, hin⟩ | ⟨pb, hpo, hmem, hin⟩
    · subst hpo
      have HIN := Lib.hid hin
      have HWN := Lib.hid (winsM_new hin)
      clear hin
      obtain ⟨g0, g1, g2, g3, g4, g5⟩ := sym_box (s := ⟨name, bind, typ, sec, value, size⟩) HX2.out
      go_wp2_with ((with_reducible show wpList _ _ _ (⟨some 31, .box _ _, _, _, _, _⟩ :: _) _ _); go_must (refine wpList_box rfl ?_; intro w3 hx3 hb3 hs3; have HW3 := Lib.hid (show w3.heap[w2.heap.size]? = some (.cells (winC (winNo name)) 42 (0, 0)) from hx3); have HC3 := Lib.hid (HC2.out.mono hb3); have HX3 := Lib.hid (heap_below hb3 HX2.out); have HB3 := Lib.hid (HB2.out.trans (hb3.mono hw2b)); obtain ⟨g0, g1, g2, g3, g4, g5⟩ := sym_box (s := ⟨name, bind, typ, sec, value, size⟩) HX3.out; have q0 := cell_rec HC3.out.box 0; simp only [List.getElem?_toArray, List.getElem?_cons_zero] at q0; clear hx3 hb3))
      have hAB := fun (x : Above w3) (b k : Nat) (h : b < w3.heap.size) => Above.cell x b k h
      have l1 := block_lt g0
      have l3 := block_lt q0
      refine wp_region_walk 7 [] (by kernel_rfl) (by kernel_rfl) ?_
      simp only [List.take_succ_cons, List.take_zero, List.drop_succ_cons, List.drop_zero]
      try go_frame
      repeat (first | (refine walk_check (by kernel_rfl) rfl rfl ?_; go_frame) | (refine walk_quiet rfl rfl rfl ?_; intro K hK; go_big_quiet_op; go_big_quiet_on))
      refine walk_nil ?_
      intro wz hbz hF
      have hw3b : base ≤ w3.heap.size := Nat.le_trans hw2b (Nat.le_of_lt hs3)
      have HCz := Lib.hid (HC3.out.mono hbz)
      have HXz := Lib.hid (heap_below hbz HX3.out)
      have HWz := Lib.hid (heap_below hbz HW3.out)
      have HBz := Lib.hid (HB3.out.trans (hbz.mono hw3b))
      have hwzb : base ≤ wz.heap.size := Nat.le_trans hw3b hbz.size
      clear hF hAB q0 g0 g1 g2 g3 g4 g5 hbz l1 l3
      refine wpList_storeM TMW HCz.out.wins (by unfold maxLen; rw [List.length_map]; have := HLW.out; omega) (key := name) (val := ptrV w2.heap.size) hkl rfl rfl rfl ?_
      intro w4 hm4 hg4 hs4
      have HPE := Lib.hid (show @putE _ instDecidableEqList (PW.map fun x => (x.1, ptrV x.2.1)) name (ptrV w2.heap.size) = (PW ++ [(name, w2.heap.size, winNo name)]).map fun x => (x.1, ptrV x.2.1) by
        unfold putE
        rw [if_neg (by rw [List.map_map]; have := HIN.out; rw [HCz.out.eqw, List.map_map] at this; exact this)]
        simp)
      rw [HPE.out] at hm4
      have hfr : ∀ x ∈ PW, x.2.1 ≠ w2.heap.size := fun x hx => Nat.ne_of_lt (Array.getElem?_eq_some_iff.1 (HC2.out.winc x hx).1).1
      have HC4 := Lib.hid (HCz.out.new (n := name) HWz.out hw2b hfr hm4 hg4)
      have HX4 := Lib.hid ((hg4.block sb (Array.getElem?_eq_some_iff.1 HXz.out).1 (fun e => map_cells HCz.out.wins HXz.out (Option.some.inj e))).trans HXz.out)
      have HB4 := Lib.hid (HBz.out.trans (below_of_grown (B := base) hg4 hwzb (fun q hq => by cases hq; exact HCz.out.low.2.1)))
      clear hm4 hg4 hs4 hfr
      go_frame
      go_wp2
      go_meet
      case rel => exact ⟨w2.heap.size, PW ++ [(name, w2.heap.size, winNo name)], rfl, by rw [HWN.out]; exact HC4, Lib.hid (by
        have h1 : winOf (winsM c name) name = winNo name := by
          rw [winOf_wins]
          unfold winOf
          rw [lookup_noneA.2 HIN.out]
          rfl
        rw [h1]
        exact List.mem_append_right _ (List.mem_singleton.2 rfl)), HX4, HB4⟩
    · subst hpo
      have HME := Lib.hid hmem
      have HWN := Lib.hid (winsM_mem hin)
      clear hmem hin
      go_wp2
      go_meet
      case rel => exact ⟨pb, PW, rfl, by rw [HWN.out]; exact HC2, Lib.hid (by rw [HWN.out]; exact HME.out), HX2, HB2⟩
  case rest =>
    obtain ⟨pb, PX, rfl, HC3, HM3, HX3, HB3⟩ := hcut
    obtain ⟨g0, g1, g2, g3, g4, g5⟩ := sym_box (s := ⟨name, bind, typ, sec, value, size⟩) HX3.out
    have hwcb : base ≤ wc.heap.size := Nat.le_trans hb HB3.out.size
    cases df with
    | false =>
      have HR := Lib.hid (show RES = ⟨winsM c name, c.ranks, c.aligns, c.twice⟩ by rw [HSM2.out, if_pos rfl])
      go_wp2_with (go_at_call 25; refine (HDE.out _).mono ?_; rintro e w4 ⟨rfl, hb4⟩; have HC4 := Lib.hid (HC3.out.mono hb4); have HB4 := Lib.hid (HB3.out.trans (hb4.mono hwcb)); clear hb4)
      exact bodyPost_ret (results_none rfl _ _ _) rfl ⟨rfl, ⟨PX, by rw [HR.out]; exact HC4.out⟩, HB4.out⟩
    | true =>
      obtain ⟨was, hwas⟩ : ∃ x, x = rankOf c.ranks name := ⟨_, rfl⟩
      obtain ⟨wo, hwo⟩ : ∃ x, x = winOf (winsM c name) name := ⟨_, rfl⟩
      have HSM3 := Lib.hid (show RES = if losesM rk was size wo.size = true then ⟨winsM c name, c.ranks, if rk = 2 then putA c.aligns name (max (alignOf c.aligns name) value) else c.aligns, c.twice || (decide (rk = 3) && decide (was = 3))⟩ else ⟨putA (winsM c name) name NW, putA c.ranks name rk, if rk = 2 then putA c.aligns name (max (alignOf c.aligns name) value) else c.aligns, c.twice || (decide (rk = 3) && decide (was = 3))⟩ by rw [HSM2.out, if_neg (by simp), ← hwas, ← hwo])
      rw [← hwo] at HM3
      have HWAS := Lib.hid hwas.symm
      obtain ⟨W0, hW0⟩ : ∃ x, x = winsM c name := ⟨_, rfl⟩
      rw [← hW0] at HC3 HSM3
      clear HSM2 hwas hwo hW0
      go_wp2_with (go_at_call 25; refine (HDE.out _).mono ?_; rintro e w5 ⟨rfl, hb5⟩; have HC5 := Lib.hid (HC3.out.mono hb5); have HX5 := Lib.hid (heap_below hb5 HX3.out); have HB5 := Lib.hid (HB3.out.trans (hb5.mono hwcb)); have hw5b := Nat.le_trans hwcb hb5.size; clear hb5)
      clear g0 g1 g2 g3 g4 g5
      obtain ⟨g0, g1, g2, g3, g4, g5⟩ := sym_box (s := ⟨name, bind, typ, sec, value, size⟩) HX5.out
      have q1 := cell_rec HC5.out.box 1
      simp only [List.getElem?_toArray, List.getElem?_cons_succ, List.getElem?_cons_zero] at q1
      have hAB := fun (x : Of (fun wx => Below w5.heap.size w5 wx)) (b k : Nat) (h : b < w5.heap.size) => (show x.w.cell? ⟨b, k, none⟩ = w5.cell? ⟨b, k, none⟩ from by
        unfold World.cell?
        rw [x.h.block b h])
      have hb0 : Below w5.heap.size w5 { w5 with drawn := w5.drawn + 1 } := (Below.refl _ _).drew
      have hne : Nonempty (Of (fun wx => Below w5.heap.size w5 wx)) := ⟨⟨_, hb0⟩⟩
      have l1 := block_lt g0
      have l3 := block_lt q1
      refine wp_region_held (S := fun wx => Below w5.heap.size w5 wx) (by kernel_rfl) ?_
      change wpAnyH _ _ _ _ _ 11 _ _ _
      try go_frame
      refine heldS_quiet (i := 0) rfl (by kernel_rfl) rfl rfl (fun _ _ _ _ h => h) hb0 ?_
      intro K hK
      go_big_quiet_op
      go_big_quiet_on
      refine heldS_quiet (i := 2) rfl (by kernel_rfl) rfl rfl (fun _ _ _ _ h => h) hb0 ?_
      intro K hK
      go_big_quiet_op
      go_big_quiet_on
      refine heldS_check (i := 3) rfl (by kernel_rfl) rfl rfl rfl (fun _ _ _ _ h => h) hb0 ?_
      go_frame
      refine heldS_quiet (i := 4) rfl (by kernel_rfl) rfl rfl (fun _ _ _ _ h => h) hb0 ?_
      intro K hK
      go_big_quiet_op
      go_big_quiet_on
      refine heldS_quiet (i := 5) rfl (by kernel_rfl) rfl rfl (fun _ _ _ _ h => h) hb0 ?_
      intro K hK
      go_big_quiet_op
      go_big_quiet_on
      refine heldS_quiet (i := 6) rfl (by kernel_rfl) rfl rfl (fun _ _ _ _ h => h) hb0 ?_
      intro K hK
      go_big_quiet_op
      go_big_quiet_on
      refine heldS_quiet (i := 7) rfl (by kernel_rfl) rfl rfl (fun _ _ _ _ h => h) hb0 ?_
      intro K hK
      go_big_quiet_op
      go_big_quiet_on
      refine heldS_val (i := 8) rfl (by kernel_rfl) rfl (fun _ _ _ _ h => h) hb0 (fun w' hw' => run_look1 TMI (HC5.out.ranks.mono hw') (zeroI6 _) hkl ((look_any (.int .i64) (z := 0)).trans (by rw [show (c.ranks.lookup name).getD 0 = was from HWAS.out])) rfl rfl) ?_
      go_frame
      refine heldS_one (i := 1) (by kernel_rfl) rfl ?_
      go_wp2_with (go_at_call 46; refine (HRK.out _).mono ?_; rintro e w6 ⟨rfl, hb6⟩)
      have hb6s : Below w5.heap.size w5 w6 := hb0.trans hb6
      refine ⟨hb6s, ?_⟩
      try go_frame
      refine heldS_quiet (i := 9) rfl (by kernel_rfl) rfl rfl (fun _ _ _ _ h => h) hb6s ?_
      intro K hK
      go_big_quiet_op
      go_big_quiet_on
      refine heldS_quiet (i := 10) rfl (by kernel_rfl) rfl rfl (fun _ _ _ _ h => h) hb6s ?_
      intro K hK
      go_big_quiet_op
      go_big_quiet_on
      refine wpAnyH_done (by kernel_rfl) ?_ _
      have HC6 := Lib.hid (HC5.out.mono hb6s)
      have HX6 := Lib.hid (heap_below hb6s HX5.out)
      have HB6 := Lib.hid (HB5.out.trans (hb6s.mono hw5b))
      have hw6b := Nat.le_trans hw5b hb6s.size
      clear hAB hne q1 l1 l3 g0 g1 g2 g3 g4 g5 hb0 hb6 hb6s
      go_upto_region 8 with fail
      obtain ⟨tw, htw⟩ : ∃ x, x = (c.twice || (decide (rk = 3) && decide (was = 3))) := ⟨_, rfl⟩
      rw [← htw] at HSM3
      have HTW := Lib.hid htw
      clear htw
      go_cut [] from 51 to 65 (fun wx => Hid (ChoAt wx base p mw mr ma ⟨W0, c.ranks, c.aligns, tw⟩ PX) ∧ Hid (wx.heap[sb]? = some (.cells (symC ⟨name, bind, typ, sec, value, size⟩) 44 (0, 0))) ∧ Hid (Below base w wx))
      case first =>
        have q3 := cell_rec HC6.out.box 3
        simp only [List.getElem?_toArray, List.getElem?_cons_succ, List.getElem?_cons_zero] at q3
        have HFL := Lib.hid (fun (w7 : World) (hh : w7.heap[p]? = some (.cells #[.map (some mw), .map (some mr), .map (some ma), .bool tw, .slice none 0 0] 96 (0, 0))) (hs : Stirs (fun k => k = p) w6 w7) => show ChoAt w7 base p mw mr ma ⟨W0, c.ranks, c.aligns, tw⟩ PX ∧ w7.heap[sb]? = some (.cells (symC ⟨name, bind, typ, sec, value, size⟩) 44 (0, 0)) ∧ Below base w w7 from
          ⟨HC6.out.flag hs hh, hs.kept HX6.out (fun e => by subst e; have h9 := HC6.out.box; rw [HX6.out] at h9; cases h9), HB6.out.trans (hs.below hw6b (fun k hk => by rw [hk]; exact HC6.out.low.1))⟩)
        cases hc : c.twice with
        | true =>
          rw [hc] at q3 HC6 HTW
          have HT2 := Lib.hid (show tw = true from HTW.out)
          go_wp2_with ((with_reducible show wpList _ _ _ (⟨none, .store _ _ _, _, _, _, _⟩ :: _) _ _); go_must (refine wpList_setBool HC6.out.box (show 3 < 5 by decide) rfl rfl (fun w => by kernel_rfl) ?_; intro w7 hh7 hs7; have HR7 := Lib.hid (HFL.out w7 (by rw [HT2.out]; exact hh7) hs7); clear hh7 hs7))
          go_meet
          case rel => exact ⟨HR7.out.1, HR7.out.2.1, HR7.out.2.2⟩
        | false =>
          rw [hc] at q3 HC6 HTW
          by_cases b3 : rk = 3
          · have t4 : (rk == 3) = true := by simpa using b3
            have HT2 := Lib.hid (show tw = (was == 3) by rw [HTW.out, decide_eq_true b3, Bool.false_or, Bool.true_and]; rw [Bool.eq_iff_iff]; simp)
            clear b3
            go_wp2_with ((with_reducible show wpList _ _ _ (⟨none, .store _ _ _, _, _, _, _⟩ :: _) _ _); go_must (refine wpList_setBool HC6.out.box (show 3 < 5 by decide) rfl rfl (fun w => by kernel_rfl) ?_; intro w7 hh7 hs7; have HR7 := Lib.hid (HFL.out w7 (by rw [HT2.out]; exact hh7) hs7); clear hh7 hs7))
            all_goals go_meet
            all_goals exact ⟨HR7.out.1, HR7.out.2.1, HR7.out.2.2⟩
          · have t4 : (rk == 3) = false := by simpa using b3
            have HT2 := Lib.hid (show tw = false by rw [HTW.out, decide_eq_false b3]; rfl)
            clear b3
            go_wp2_with ((with_reducible show wpList _ _ _ (⟨none, .store _ _ _, _, _, _, _⟩ :: _) _ _); go_must (refine wpList_setBool HC6.out.box (show 3 < 5 by decide) rfl rfl (fun w => by kernel_rfl) ?_; intro w7 hh7 hs7; have HR7 := Lib.hid (HFL.out w7 (by rw [HT2.out]; exact hh7) hs7); clear hh7 hs7))
            go_meet
            case rel => exact ⟨HR7.out.1, HR7.out.2.1, HR7.out.2.2⟩
      case rest =>
        clear HC6 HX6 HB6 hw6b
        obtain ⟨HC6, HX6, HB6⟩ := hcut
        obtain ⟨al, hal⟩ : ∃ x, x = (if rk = 2 then putA c.aligns name (max (alignOf c.aligns name) value) else c.aligns) := ⟨_, rfl⟩
        rw [← hal] at HSM3
        have HAL := Lib.hid hal
        have hw6b : base ≤ wc.heap.size := Nat.le_trans hb HB6.out.size
        clear hal
        go_upto_if 67 with fail
        go_cut [] from 67 to 83 (fun wx => Hid (ChoAt wx base p mw mr ma ⟨W0, c.ranks, al, tw⟩ PX) ∧ Hid (wx.heap[sb]? = some (.cells (symC ⟨name, bind, typ, sec, value, size⟩) 44 (0, 0))) ∧ Hid (Below base w wx))
        case first =>
          by_cases r2 : rk = 2
          · have t4 : (rk == 2) = true := by simpa using r2
            have HA2 := Lib.hid (show al = putA c.aligns name (max (alignOf c.aligns name) value) by rw [HAL.out, if_pos r2])
            clear r2
            go_wp2
            obtain ⟨g0, g1, g2, g3, g4, g5⟩ := sym_box (s := ⟨name, bind, typ, sec, value, size⟩) HX6.out
            have q2 := cell_rec HC6.out.box 2
            simp only [List.getElem?_toArray, List.getElem?_cons_succ, List.getElem?_cons_zero] at q2
            obtain ⟨av, hav⟩ : ∃ x, x = alignOf c.aligns name := ⟨_, rfl⟩
            have HAV := Lib.hid hav.symm
            rw [← hav] at HA2
            clear hav
            have hAB := fun (x : Above wc) (b k : Nat) (h : b < wc.heap.size) => Above.cell x b k h
            have l1 := block_lt g0
            have l3 := block_lt q2
            refine wp_region_walk 16 [(12, .is (.int .u64 (av : Int))), (15, .is (.int .u64 ((max av value : Nat) : Int)))] (by kernel_rfl) (by kernel_rfl) ?_
            simp only [List.take_succ_cons, List.take_zero, List.drop_succ_cons, List.drop_zero]
            try go_frame
            iterate 12 (first | (refine walk_check (by kernel_rfl) rfl rfl ?_; go_frame) | (refine walk_quiet rfl rfl rfl ?_; intro K hK; go_big_quiet_op; go_big_quiet_on))
            refine walk_is rfl rfl (fun wx hwx _ => WpYld.val (run_look1 TMU (HC6.out.aligns.mono hwx) (zeroU6 _) hkl ((look_any (fun x : Nat => .int .u64 (x : Int)) (z := 0)).trans (by rw [show (c.aligns.lookup name).getD 0 = av from HAV.out])) rfl rfl) Yld.is_mk (Below.refl _ _)) ?_
            go_frame
            iterate 2 (first | (refine walk_check (by kernel_rfl) rfl rfl ?_; go_frame) | (refine walk_quiet rfl rfl rfl ?_; intro K hK; go_big_quiet_op; go_big_quiet_on))
            refine walk_is rfl rfl (fun wx hwx _ => WpYld.val (run_maxU rfl rfl) Yld.is_mk (Below.refl _ _)) ?_
            go_frame
            refine walk_nil ?_
            intro wz hbz hF
            have HCz := Lib.hid (HC6.out.mono hbz)
            have HXz := Lib.hid (heap_below hbz HX6.out)
            have HBz := Lib.hid (HB6.out.trans (hbz.mono hw6b))
            have hwzb := Nat.le_trans hw6b hbz.size
            clear hF hAB q2 g0 g1 g2 g3 g4 g5 hbz l1 l3
            refine wpList_storeM TMU HCz.out.aligns (by unfold maxLen; rw [List.length_map]; show c.aligns.length < _; have := HLA.out; omega) (key := name) (val := .int .u64 ((max av value : Nat) : Int)) hkl rfl rfl rfl ?_
            intro w8 hm8 hg8 hs8
            rw [putAny (fun x : Nat => .int .u64 (x : Int))] at hm8
            have HC8 := Lib.hid (HCz.out.align (R := putA c.aligns name (max av value)) hm8 hg8)
            have HX8 := Lib.hid ((hg8.block sb (Array.getElem?_eq_some_iff.1 HXz.out).1 (fun e => map_cells HCz.out.aligns HXz.out (Option.some.inj e))).trans HXz.out)
            have HB8 := Lib.hid (HBz.out.trans (below_of_grown (B := base) hg8 hwzb (fun q hq => by cases hq; exact HCz.out.low.2.2.2)))
            clear hm8 hg8 hs8
            go_frame
            go_wp2
            go_meet
            case rel => exact ⟨by rw [HA2.out]; exact HC8, HX8, HB8⟩
          · have t4 : (rk == 2) = false := by simpa using r2
            have HA2 := Lib.hid (show al = c.aligns by rw [HAL.out, if_neg r2])
            clear r2
            go_wp2
            go_meet
            case rel => exact ⟨by rw [HA2.out]; exact HC6, HX6, HB6⟩
        case rest =>
          clear HC6 HX6 HB6 hw6b
          obtain ⟨HC6, HX6, HB6⟩ := hcut
          obtain ⟨LO, hLO⟩ : ∃ x, x = losesM rk was size wo.size := ⟨_, rfl⟩
          rw [← hLO] at HSM3
          have HLO := Lib.hid hLO
          have hw6b : base ≤ wc.heap.size := Nat.le_trans hb HB6.out.size
          clear hLO
          go_upto_region 11 with fail
          go_cut [104] from 84 to 103 (fun s104 wx => s104 = .bool LO ∧ Hid (ChoAt wx base p mw mr ma ⟨W0, c.ranks, al, tw⟩ PX) ∧ Hid (wx.heap[sb]? = some (.cells (symC ⟨name, bind, typ, sec, value, size⟩) 44 (0, 0))) ∧ Hid (Below base w wx))
          case first =>
            obtain ⟨g0, g1, g2, g3, g4, g5⟩ := sym_box (s := ⟨name, bind, typ, sec, value, size⟩) HX6.out
            have z4 := cell_rec (HC6.out.winc _ HM3.out).1 4
            simp only [List.getElem?_toArray, List.getElem?_cons_succ, List.getElem?_cons_zero] at z4
            have HFI := Lib.hid (fun n => show ChoAt (wc.drewN n) base p mw mr ma ⟨W0, c.ranks, al, tw⟩ PX ∧ (wc.drewN n).heap[sb]? = some (.cells (symC ⟨name, bind, typ, sec, value, size⟩) 44 (0, 0)) ∧ Below base w (wc.drewN n) from by
              have hbn := below_drewN (Below.refl wc.heap.size wc) n
              exact ⟨HC6.out.mono hbn, heap_below hbn HX6.out, HB6.out.trans (hbn.mono hw6b)⟩)
            have HLD : Hid (LO = (decide (rk < was) || (decide (rk = was) && (!decide (rk = 2) || decide (size ≤ wo.size))))) := HLO.out
            by_cases c1 : rk < was
            · have t5 : decide (rk < was) = true := decide_eq_true c1
              have HL := Lib.hid (show LO = true by rw [HLD.out, t5]; rfl)
              clear c1
              go_quiet (fail)
              go_wp2
              go_meet
              case rel => exact ⟨by rw [HL.out], (HFI.out nq).1, (HFI.out nq).2.1, (HFI.out nq).2.2⟩
            have t5 : decide (rk < was) = false := decide_eq_false c1
            by_cases c2 : rk = was
            case neg =>
              have t6 : (rk == was) = false := by simpa using c2
              have HL := Lib.hid (show LO = false by rw [HLD.out, t5, decide_eq_false c2]; rfl)
              clear c1 c2
              go_quiet (fail)
              go_wp2
              go_meet
              case rel => exact ⟨by rw [HL.out], (HFI.out nq).1, (HFI.out nq).2.1, (HFI.out nq).2.2⟩
            have t6 : (rk == was) = true := by simpa using c2
            by_cases c3 : rk = 2
            case neg =>
              have t7 : (rk != 2) = true := bne_iff_ne.2 c3
              have HL := Lib.hid (show LO = true by rw [HLD.out, t5, decide_eq_true c2, decide_eq_false c3]; rfl)
              clear c1 c2 c3
              go_quiet (fail)
              go_wp2
              go_meet
              case rel => exact ⟨by rw [HL.out], (HFI.out nq).1, (HFI.out nq).2.1, (HFI.out nq).2.2⟩
            have t7 : (rk != 2) = false := by rw [c3]; rfl
            have HL := Lib.hid (show LO = decide (size ≤ wo.size) by rw [HLD.out, t5, decide_eq_true c2, decide_eq_true c3]; rfl)
            clear c1 c2 c3
            have t8 : decide ((size : Int) ≤ (wo.size : Int)) = LO := by rw [HL.out]; exact decide_eq_decide.2 Int.ofNat_le
            have HT8 := Lib.hid t8
            generalize wo.size = ws at *
            go_quiet (fail)
            go_wp2
            go_meet
            case rel => exact ⟨by rw [HL.out], (HFI.out nq).1, (HFI.out nq).2.1, (HFI.out nq).2.2⟩
          case rest =>
            clear HC6 HX6 HB6 hw6b
            obtain ⟨rfl, HC6, HX6, HB6⟩ := hcut
            cases LO with
            | true =>
              have HR := Lib.hid (show RES = ⟨W0, c.ranks, al, tw⟩ by rw [HSM3.out, if_pos rfl])
              go_wp2
              exact bodyPost_ret (results_none rfl _ _ _) rfl ⟨rfl, ⟨PX, by rw [HR.out]; exact HC6.out⟩, HB6.out⟩
            | false =>
              have HR := Lib.hid (show RES = ⟨putA W0 name NW, putA c.ranks name rk, al, tw⟩ by rw [HSM3.out, if_neg (by simp)])
              have hwcb : base ≤ wc.heap.size := Nat.le_trans hb HB6.out.size
              obtain ⟨g0, g1, g2, g3, g4, g5⟩ := sym_box (s := ⟨name, bind, typ, sec, value, size⟩) HX6.out
              have q1 := cell_rec HC6.out.box 1
              simp only [List.getElem?_toArray, List.getElem?_cons_succ, List.getElem?_cons_zero] at q1
              go_wp2
              have hAB := fun (x : Above wc) (b k : Nat) (h : b < wc.heap.size) => Above.cell x b k h
              have l1 := block_lt g0
              have l3 := block_lt q1
              refine wp_region_walk 7 [] (by kernel_rfl) (by kernel_rfl) ?_
              simp only [List.take_succ_cons, List.take_zero, List.drop_succ_cons, List.drop_zero]
              try go_frame
              repeat (first | (refine walk_check (by kernel_rfl) rfl rfl ?_; go_frame) | (refine walk_quiet rfl rfl rfl ?_; intro K hK; go_big_quiet_op; go_big_quiet_on))
              refine walk_nil ?_
              intro wz hbz hF
              have HCz := Lib.hid (HC6.out.mono hbz)
              have HXz := Lib.hid (heap_below hbz HX6.out)
              have HBz := Lib.hid (HB6.out.trans (hbz.mono hwcb))
              have hwzb : base ≤ wz.heap.size := Nat.le_trans hwcb hbz.size
              clear hF hAB q1 g0 g1 g2 g3 g4 g5 hbz l1 l3
              refine wpList_storeM TMI HCz.out.ranks (by unfold maxLen; rw [List.length_map]; show c.ranks.length < _; have := HLR.out; omega) (key := name) (val := .int .i64 rk) hkl rfl rfl rfl ?_
              intro w8 hm8 hg8 hs8
              rw [putAny (fun x : Int => .int .i64 x)] at hm8
              have HC8 := Lib.hid (HCz.out.rank (R := putA c.ranks name rk) hm8 hg8)
              have HX8 := Lib.hid ((hg8.block sb (Array.getElem?_eq_some_iff.1 HXz.out).1 (fun e => map_cells HCz.out.ranks HXz.out (Option.some.inj e))).trans HXz.out)
              have HB8 := Lib.hid (HBz.out.trans (below_of_grown (B := base) hg8 hwzb (fun q hq => by cases hq; exact HCz.out.low.2.2.1)))
              have hw8b : base ≤ w8.heap.size := by rw [hs8]; exact hwzb
              have hpbn : sb ≠ pb := cells_ne HX8.out (HC8.out.winc _ HM3.out).1 (by decide)
              have HEND := Lib.hid (fun (wF : World) (nw : WinM) (hnw : nw = NW) (hh : wF.heap[pb]? = some (.cells (winC nw) 42 (0, 0))) (hs : Stirs (fun k => k = pb) w8 wF) => show (∃ PW', ChoAt wF base p mw mr ma RES PW') ∧ Below base w wF from by
                subst hnw
                refine ⟨⟨_, by rw [HR.out]; exact HC8.out.win HM3.out hs hh⟩, HB8.out.trans (hs.below hw8b (fun k hk => by rw [hk]; exact (HC8.out.winc _ HM3.out).2))⟩)
              clear hm8 hg8 hs8
              go_frame
              obtain ⟨g0, g1, g2, g3, g4, g5⟩ := sym_box (s := ⟨name, bind, typ, sec, value, size⟩) HX8.out
              by_cases r2 : rk = 2
              case neg =>
                have t9 : (rk == 2) = false := by simpa using r2
                have HN2 := Lib.hid (show (⟨name, mod, sym, false, 0, 0⟩ : WinM) = NW by rw [HNW.out, decide_eq_false r2, if_neg r2])
                clear r2
                go_wp2_with ((with_reducible show wpList _ _ _ (⟨none, .store _ (.tmp 118) _, _, _, _, _⟩ :: _) _ _); go_must (refine wpList_storeRowS (HC8.out.winc _ HM3.out).1 rfl rfl rfl (by kernel_rfl) (by simp [Value.oneCell']) ?_; intro w9 hh9 hs9; have HE9 := Lib.hid (HEND.out w9 _ HN2.out hh9 hs9); clear hh9 hs9))
                go_end0
                exact ⟨rfl, HE9.out.1, HE9.out.2⟩
              have t9 : (rk == 2) = true := by simpa using r2
              have HN2 := Lib.hid (show (⟨name, mod, sym, true, size, 0⟩ : WinM) = NW by rw [HNW.out, decide_eq_true r2, if_pos r2])
              clear r2
              go_wp2_with ((with_reducible show wpList _ _ _ (⟨none, .store _ (.tmp 118) _, _, _, _, _⟩ :: _) _ _); go_must (refine wpList_storeRowS (HC8.out.winc _ HM3.out).1 rfl rfl rfl (by kernel_rfl) (by simp [Value.oneCell']) ?_; intro w9 hh9 hs9; have HH9 := Lib.hid hh9; have HS9 := Lib.hid hs9; have HX9 := Lib.hid (hs9.kept HX8.out hpbn); clear hh9 hs9))
              clear g0 g1 g2 g3 g4 g5
              obtain ⟨g0, g1, g2, g3, g4, g5⟩ := sym_box (s := ⟨name, bind, typ, sec, value, size⟩) HX9.out
              have hAB := fun (x : Of (fun wx => Stirs (fun k => k = pb) w9 wx)) (b k : Nat) (h : b < w9.heap.size) (hn : ¬ b = pb) => (show x.w.cell? ⟨b, k, none⟩ = w9.cell? ⟨b, k, none⟩ from by
                unfold World.cell?
                rw [x.h.block b h hn])
              have n1 : ¬ sb = pb := hpbn
              have hb0 : Stirs (fun k => k = pb) w9 { w9 with drawn := w9.drawn + 1 } := Stirs.of_below (Below.refl _ _).drew
              have hne : Nonempty (Of (fun wx => Stirs (fun k => k = pb) w9 wx)) := ⟨⟨_, hb0⟩⟩
              have l1 := block_lt g0
              refine wp_region_held (S := fun wx => Stirs (fun k => k = pb) w9 wx) (by kernel_rfl) ?_
              change wpAnyH _ _ _ _ _ 10 _ _ _
              try go_frame
              refine heldS_quiet (i := 0) rfl (by kernel_rfl) rfl rfl (fun _ _ _ _ h => h) hb0 ?_
              intro K hK
              go_big_quiet_op
              go_big_quiet_on
              refine heldS_quiet (i := 1) rfl (by kernel_rfl) rfl rfl (fun _ _ _ _ h => h) hb0 ?_
              intro K hK
              go_big_quiet_op
              go_big_quiet_on
              refine heldS_quiet (i := 2) rfl (by kernel_rfl) rfl rfl (fun _ _ _ _ h => h) hb0 ?_
              intro K hK
              go_big_quiet_op
              go_big_quiet_on
              refine heldS_quiet (i := 3) rfl (by kernel_rfl) rfl rfl (fun _ _ _ _ h => h) hb0 ?_
              intro K hK
              go_big_quiet_op
              go_big_quiet_on
              refine heldS_check (i := 4) rfl (by kernel_rfl) rfl rfl rfl (fun _ _ _ _ h => h) hb0 ?_
              go_frame
              refine heldS_quiet (i := 5) rfl (by kernel_rfl) rfl rfl (fun _ _ _ _ h => h) hb0 ?_
              intro K hK
              go_big_quiet_op
              go_big_quiet_on
              refine heldS_one (i := 6) (by kernel_rfl) rfl ?_
              refine wpList_setBool (w := { w9 with drawn := w9.drawn + 1 }) (c := winC ⟨name, mod, sym, false, 0, 0⟩) HH9.out (show 3 < 6 by decide) rfl rfl (fun w => by kernel_rfl) ?_
              intro wA hhA hsA
              have hA0 : Stirs (fun k => k = pb) w9 wA := hb0.trans hsA fun _ _ h => h
              refine ⟨hA0, ?_⟩
              try go_frame
              refine heldS_check (i := 7) rfl (by kernel_rfl) rfl rfl rfl (fun _ _ _ _ h => h) hA0 ?_
              go_frame
              refine heldS_quiet (i := 8) rfl (by kernel_rfl) rfl rfl (fun _ _ _ _ h => h) hA0 ?_
              intro K hK
              go_big_quiet_op
              go_big_quiet_on
              refine heldS_one (i := 9) (by kernel_rfl) rfl ?_
              refine wpList_setN (base := 0) hhA (show 4 < 6 by decide) rfl rfl (Nat.zero_le _) (Nat.zero_le _) (fun w => by kernel_rfl) ?_
              intro wB hhB hbB hsB
              have hB0 : Stirs (fun k => k = pb) w9 wB := hA0.trans hsB fun _ _ h => h
              refine ⟨hB0, ?_⟩
              try go_frame
              refine wpAnyH_done (by kernel_rfl) ?_ _
              have HE9 := Lib.hid (HEND.out wB _ HN2.out hhB (HS9.out.trans hB0 fun _ _ h => h))
              go_wp2
              go_end0
              exact ⟨rfl, HE9.out.1, HE9.out.2⟩
end Go.Proofs.Ytnhbgijecdeahaa
namespace Go.Proofs.Ytnhbgijecdeahaa
open Go.RowKit Go.Fd
theorem winsM_len (c : Cho) (n : List UInt8) : (winsM c n).length ≤ c.wins.length + 1 := by
  unfold winsM
  split <;> simp
/-- No table grows by more than one. -/
structure Grew (n : Nat) (c d : Cho) : Prop where
  wins : d.wins.length ≤ c.wins.length + n
  ranks : d.ranks.length ≤ c.ranks.length + n
  aligns : d.aligns.length ≤ c.aligns.length + n
theorem seeM_grew (i j : Nat) (c : Cho) (s : SymM) : Grew 2 c (seeM i j c s) := by
  unfold seeM
  have h1 := winsM_len c s.name
  have h2 := putA_len (winsM c s.name) s.name (newWin i j s)
  have h3 := putA_len c.ranks s.name (rankM s)
  have h4 := putA_len c.aligns s.name (max (alignOf c.aligns s.name) s.value)
  split
  · exact ⟨by omega, by omega, by omega⟩
  · split
    · exact ⟨by dsimp only; omega, by dsimp only; omega, by dsimp only; omega⟩
    · split
      · refine ⟨by dsimp only; omega, by dsimp only; omega, ?_⟩
        dsimp only
        split <;> omega
      · refine ⟨by dsimp only; omega, by dsimp only; omega, ?_⟩
        dsimp only
        split <;> omega
theorem seeS_step {i k : Nat} {l : List SymM} {x : SymM} {c : Cho} (h : l[k]? = some x) : seeS i k (l.drop k) c = seeS i (k + 1) (l.drop (k + 1)) (seeM i k c x) := by
  rw [drop_get h, seeS]
theorem seeO_step {i : Nat} {l : List ObjM} {o : ObjM} {c : Cho} (h : l[i]? = some o) : seeO i (l.drop i) c = seeO (i + 1) (l.drop (i + 1)) (seeS i 0 o.syms c) := by
  rw [drop_get h, seeO]
theorem TNm : SliceT Try.prog 26 9 1 16 := SliceT.mk' (z := .string ⟨#[]⟩) (by kernel_rfl) (by kernel_rfl) rfl (by omega)
/-- slices.Sort of names that the call has built. -/
theorem sortS_any (ss : List (List UInt8)) (v : Value) (base : Nat) (w : World) (h : Ow S 9 w base v ss) (hn : ss.length < 4611686018427387904) :
    Calls Try.prog 36 #[v] w fun e w' => e = .returned (.tuple #[]) ∧ Ow S 9 w' base v (ss.mergeSort leB) ∧ w.grownBy w' v.ownBlock := by
  rcases h.2 with ⟨rfl, h0⟩ | ⟨g, cap, cur, rfl, hbg, hg, hnc, hcm, hcs, ht⟩
  · have he : ss = [] := List.eq_nil_of_length_eq_zero h0
    subst he
    refine (Try.slices_Sort_string_none none 0 w).mono fun e w' ⟨h1, h2⟩ => ?_
    subst h2
    refine ⟨h1, ?_, World.grownBy.refl _ _⟩
    simpa using h
  · rw [Nat.mul_one] at ht hcs
    refine (Try.slices_Sort_string g 0 cap ss w (holds_of_block hg ht) (Array.getElem?_eq_some_iff.1 hg).1 hn).mono fun e w' ⟨h1, n, os, h2⟩ => ?_
    subst h2
    refine ⟨h1, ?_, grownBy_sorted _⟩
    have h3 := ownsRow_sorted (n := n) (os := os) (base := base) (ss := ss) (ts := ss.mergeSort leB) (by simp) hbg hg hnc hcm (by omega)
    unfold Ow
    rw [List.length_mergeSort]
    exact h3
/-- slices.Contains of names. -/
theorem containsS_any (ss : List (List UInt8)) (v : Value) (n : List UInt8) (w : World) (h : Rd S w v ss) (hn : ss.length ≤ 9223372036854775807) :
    Calls Try.prog 35 #[v, S n] w fun e w' => e = .returned (.bool (decide (n ∈ ss))) ∧ w' = w := by
  obtain ⟨h1, a, cap, rfl, hcap, h0, hc⟩ := h
  by_cases he : ss.length = 0
  · have hs : ss = [] := List.eq_nil_of_length_eq_zero he
    subst hs
    refine (Try.slices_Contains_string_empty a cap ⟨n.toArray⟩ w).mono fun e w' ⟨q1, q2⟩ => ⟨by rw [q1]; simp, q2⟩
  · obtain ⟨b, off, rfl, -⟩ := hc 0 (by rw [List.length_map]; omega)
    have hz : (ss.map fun x => (⟨x.toArray⟩ : ByteArray)).length = ss.length := by simp
    refine (Try.slices_Contains_string b off ss.length cap (ss.map fun x => ⟨x.toArray⟩) ⟨n.toArray⟩ w (by rw [hz]; exact Nat.le_refl _) hn (fun j hj => ?_)).mono fun e w' ⟨q1, q2⟩ => ⟨?_, q2⟩
    · rw [hz] at hj
      obtain ⟨b', o', e1, e2⟩ := hc j (by rw [List.length_map]; exact hj)
      cases e1
      rw [e2, List.getElem?_map, List.getElem?_eq_getElem hj]
      simp [List.getD, hj]
    · rw [q1]
      congr 2
      rw [Bool.eq_iff_iff, List.take_of_length_le (by rw [hz]; exact Nat.le_refl _), Lib.containsS_iff]
      simp only [List.mem_map, decide_eq_true_eq]
      constructor
      · rintro ⟨x, hx, e⟩
        have : x = n := by
          have := congrArg (fun b : ByteArray => b.data.toList) e
          simpa using this
        rw [← this]
        exact hx
      · exact fun hx => ⟨n, hx, rfl⟩
end Go.Proofs.Ytnhbgijecdeahaa
namespace Go.Proofs.Ytnhbgijecdeahaa
open Go.RowKit Go.Fd
def encWin (x : WinM) : List Value := [S x.name, .int .i64 x.mod, .int .i64 x.sym, .bool x.common, .int .u64 (x.size : Int), .int .u64 (x.align : Int)]
theorem TWin : SliceT Try.prog 27 42 6 56 := SliceT.mk' (z := .agg #[.string ⟨#[]⟩, .int .i64 0, .int .i64 0, .bool false, .int .u64 0, .int .u64 0]) (by kernel_rfl) (by kernel_rfl) rfl (by omega)
theorem ob_cells {w wr : World} {a : Option Addr} {l : List ObV} {x : ObV} {k : Nat}
    (hc : ∀ i x, l[i]? = some x → 0 < 3 → ∃ b off, a = some ⟨b, off, none⟩ ∧ ∀ c, c < 3 → w.cell? ⟨b, off + (i * 3 + c), none⟩ = (encOb x)[c]?) (hb : Below w.heap.size w wr) (hk : l[k]? = some x) :
    ∃ b o, a = some ⟨b, o, none⟩ ∧ wr.cell? ⟨b, o + k * 3, none⟩ = some (.int .i64 x.1.target) ∧ wr.cell? ⟨b, o + k * 3 + 1, none⟩ = some x.2.2.1 ∧ wr.cell? ⟨b, o + k * 3 + 2, none⟩ = some x.2.2.2 ∧ b < w.heap.size := by
  obtain ⟨b, o, ha, hcc⟩ := hc k x hk (by decide)
  have hlt : b < w.heap.size := block_lt (v := .int .i64 x.1.target) (by rw [hcc 0 (by decide)]; rfl)
  have hh : ∀ c, c < 3 → wr.cell? ⟨b, o + k * 3 + c, none⟩ = (encOb x)[c]? := fun c hc5 => by
    rw [Nat.add_assoc, hb.cell (p := ⟨b, o + (k * 3 + c), none⟩) hlt]
    exact hcc c hc5
  exact ⟨b, o, ha, hh 0 (by decide), hh 1 (by decide), hh 2 (by decide), hlt⟩
/-- What is asked of modules whose names are chosen. -/
structure ModsOk (mods : List ObjM) : Prop where
  many : mods.length ≤ 300
  syms : ∀ o ∈ mods, o.syms.length ≤ 300 ∧ ∀ x ∈ o.syms, x.name.length ≤ 9223372036854775807 ∧ x.value < 18446744073709551616 ∧ x.size < 18446744073709551616
theorem mergeS_eq {l1 l2 : List (List UInt8)} (h : l1.Perm l2) : l1.mergeSort leB = l2.mergeSort leB := by
  have tr : ∀ a b c : List UInt8, leB a b = true → leB b c = true → leB a c = true := fun a b c h1 h2 => by simp only [leB, decide_eq_true_eq] at *; exact List.le_trans h1 h2
  have tt : ∀ a b : List UInt8, (leB a b || leB b a) = true := fun a b => by simp only [leB, Bool.or_eq_true, decide_eq_true_eq]; exact List.le_total a b
  refine List.Perm.eq_of_pairwise (le := fun a b => leB a b = true) (fun a b _ _ h1 h2 => ?_) (List.pairwise_mergeSort tr tt l1) (List.pairwise_mergeSort tr tt l2) ((mergeS_perm l1).trans (h.trans (mergeS_perm l2).symm))
  simp only [leB, decide_eq_true_eq] at h1 h2
  exact List.le_antisymm h1 h2
theorem perm_out {left : List (List UInt8 × Value)} {p : List UInt8 × Value} (hn : (left.map (·.1)).Nodup) (hp : p ∈ left) : (left.map (·.1)).Perm (p.1 :: (left.filter (fun q => q.1 ≠ p.1)).map (·.1)) := by
  induction left with
  | nil => cases hp
  | cons x L ih =>
    simp only [List.map_cons, List.nodup_cons] at hn
    by_cases e : x.1 = p.1
    · rw [List.filter_cons_of_neg (by simp [e]), List.filter_eq_self.2 (fun y hy => by
        simp only [ne_eq, decide_eq_true_eq]
        intro e2
        exact hn.1 (by rw [e, ← e2]; exact List.mem_map_of_mem hy)), List.map_cons, e]
    · have hp2 : p ∈ L := by
        rcases List.mem_cons.1 hp with rfl | h
        · exact absurd rfl e
        · exact h
      rw [List.filter_cons_of_pos (by simp [e]), List.map_cons, List.map_cons]
      exact ((ih hn.2 hp2).cons x.1).trans (List.Perm.swap _ _ _)
theorem rd_cell {α : Type} {mk : α → Value} {w wr : World} {a : Option Addr} {n c : Nat} {l : List α} (h : Rd mk w (.slice a n c) l) (hb : Below w.heap.size w wr) {k : Nat} {x : α} (hk : l[k]? = some x) :
    ∃ b o, a = some ⟨b, o, none⟩ ∧ wr.cell? ⟨b, o + k, none⟩ = some (mk x) ∧ b < w.heap.size := by
  obtain ⟨a', cap, e, -, -, hc⟩ := h.open x
  cases e
  obtain ⟨b, o, ha, hcc⟩ := hc k (List.getElem?_eq_some_iff.1 hk).1
  rw [hk] at hcc
  have hlt : b < w.heap.size := block_lt hcc
  exact ⟨b, o, ha, (hb.cell (p := ⟨b, o + k, none⟩) hlt).trans hcc, hlt⟩
theorem win_box {w : World} {g : Nat} {x : WinM} {ty : TypeId} {fr : Nat × Nat} (h : w.heap[g]? = some (.cells (winC x) ty fr)) :
    w.cell? ⟨g, 0, none⟩ = some (S x.name) ∧ w.cell? ⟨g, 1, none⟩ = some (.int .i64 x.mod) ∧ w.cell? ⟨g, 2, none⟩ = some (.int .i64 x.sym) ∧ w.cell? ⟨g, 3, none⟩ = some (.bool x.common) ∧ w.cell? ⟨g, 4, none⟩ = some (.int .u64 (x.size : Int)) ∧ w.cell? ⟨g, 5, none⟩ = some (.int .u64 (x.align : Int)) :=
  ⟨cell_rec h 0, cell_rec h 1, cell_rec h 2, cell_rec h 3, cell_rec h 4, cell_rec h 5⟩
theorem take_mapR {α β : Type} {f : α → β} {l : List α} {k : Nat} {x : α} (h : l[k]? = some x) : (l.take (k + 1)).map f = (l.take k).map f ++ [f x] := by
  rw [List.take_add_one, h, List.map_append]
  rfl
theorem wpList_setU64 {P : Program} {ops : Array Oper} {rest : List Oper} {Q : Exit → Act → World → Prop} {a : Act} {w : World} {d : Option Tmp} {ty t tb : TypeId} {pos : String} {aft : Array Edge} {p x : Operand} {c : Array Value} {g j : Nat} {n : Int} (hg : w.heap[g]? = some (.cells c tb (0, 0))) (hj : j < c.size) (hp : a.eval p = .pointer (some ⟨g, j, none⟩)) (hx : a.eval x = .int .u64 n) (hs : ∀ w, (sizeOf t).run P w = .ok 1 w)
    (h : ∀ w1, w1.heap[g]? = some (.cells (c.setIfInBounds j (.int .u64 n)) tb (0, 0)) → Stirs (fun k => k = g) w w1 → wpList P ops Q rest (a.put d undef) w1) :
    wpList P ops Q (⟨d, .store t p x, ty, pos, aft, none⟩ :: rest) a w := by
  have hc : w.cell? ⟨g, j, none⟩ = some c[j] := (cell_rec hg j).trans (Array.getElem?_eq_getElem hj)
  have hfz := free_rec' hg j
  have hst : Stirs (fun k => k = g) w (w.setCell ⟨g, j, none⟩ (.int .u64 n)) := stirs_setCell (S := fun k => k = g) _ g j _ rfl
  refine wpList_did (w' := w.setCell ⟨g, j, none⟩ (.int .u64 n)) rfl ?_ (h _ ?_ hst)
  · simp only [execOp, hp, hx]
    simp [go_sem, hs, hc, hfz]
  · simp [World.setCell, Array.getElem?_modify, hg]
attribute [local irreducible] walk
set_option maxHeartbeats 16000000 in
set_option maxRecDepth 100000 in
theorem chosenR_any (mods : List ObjM) (Y : List ObV) (mv : Value) (known : List (List UInt8)) (kv : Value) (w : World) (h : ObsAt w mods Y) (hrd : RdR 3 encOb w mv Y) (hk : Rd S w kv known) (hok : ModsOk mods) (hkn : known.length ≤ 1000000000) :
    Calls Try.prog 21 #[mv, kv] w fun e w' => (∃ a n c, e = .returned (.tuple #[.slice a n c, .int .i64 (chosenM mods known).2]) ∧ OwR 6 encWin 42 w' w.heap.size (.slice a n c) (chosenM mods known).1) ∧ Below w.heap.size w w' := by
  have HY := Lib.hid h
  have HK := Lib.hid hok
  have HKV := Lib.hid hk
  have HKN := Lib.hid hkn
  have HCH : Hid (chosenM mods known = if (seeO 0 mods choNo).twice = true then ([], 19) else if mods.any (lacksO (seeO 0 mods choNo).wins known) = true then ([], 18) else ((((seeO 0 mods choNo).wins.map (·.1)).mergeSort leB).map (winAl (seeO 0 mods choNo)), 0)) := rfl
  have HCO := Lib.hid (choOk_all mods)
  obtain ⟨a, cap, rfl, hcap, -, hP⟩ := hrd.open (fun _ => rfl)
  have HP := Lib.hid hP
  obtain ⟨kn, ka, kc, -, rfl, -, -⟩ := Reads.shape hk
  obtain ⟨n, hN⟩ : ∃ n, n = Y.length := ⟨_, rfl⟩
  have hml : mods.length = n := by rw [h.eq, List.length_map, hN]
  have hn300 : n ≤ 300 := by rw [← hml]; exact hok.many
  rw [← hN] at hcap
  rw [← hN]
  have HN := Lib.hid hN
  have HML := Lib.hid hml
  have HMG := Lib.hid (fun i (y : ObV) (hy : Y[i]? = some y) => show mods[i]? = some y.1 by rw [h.eq, List.getElem?_map, hy]; rfl)
  generalize chosenM mods known = RES at *
  obtain ⟨FIN, hFIN⟩ : ∃ F, F = seeO 0 mods choNo := ⟨_, rfl⟩
  rw [← hFIN] at HCH HCO
  have HF0 := Lib.hid (show seeO 0 (mods.drop 0) choNo = FIN by rw [hFIN, List.drop_zero])
  have hmm := @run_makeMap Try.prog
  clear h hrd hk hok hkn hP hN hml hFIN
  go_enter Try.func21, Try.ntmps21
  go_wp2_with ((with_reducible show wpList _ _ _ (⟨some 25, .box _ _, _, _, _, _⟩ :: _) _ _); go_must (refine wpList_box rfl ?_; intro w2 hx2 hb2 hs2; have HX2 := Lib.hid hx2; have HB2 := Lib.hid hb2; clear hx2 hb2))
  have hba1 := below_alloc w (.map #[] 0)
  have hba2 := below_alloc (w.alloc (.map #[] 0)) (.map #[] 0)
  have hba3 := below_alloc ((w.alloc (.map #[] 0)).alloc (.map #[] 0)) (.map #[] 0)
  have hsz1 : (w.alloc (.map #[] 0)).heap.size = w.heap.size + 1 := World.size_alloc _ _
  have hsz2 : ((w.alloc (.map #[] 0)).alloc (.map #[] 0)).heap.size = w.heap.size + 1 + 1 := by rw [World.size_alloc, World.size_alloc]
  have hsz3 : (((w.alloc (.map #[] 0)).alloc (.map #[] 0)).alloc (.map #[] 0)).heap.size = w.heap.size + 1 + 1 + 1 := by rw [World.size_alloc, World.size_alloc, World.size_alloc]
  obtain ⟨mw, hmw⟩ : ∃ m, m = w.heap.size := ⟨_, rfl⟩
  obtain ⟨mr, hmr⟩ : ∃ m, m = w.heap.size + 1 := ⟨_, rfl⟩
  obtain ⟨ma, hma⟩ : ∃ m, m = w.heap.size + 1 + 1 := ⟨_, rfl⟩
  obtain ⟨p, hp⟩ : ∃ m, m = w.heap.size + 1 + 1 + 1 := ⟨_, rfl⟩
  have HC0 := Lib.hid (show ChoAt w2 w.heap.size p mw mr ma choNo [] from ⟨by rw [hp, hmw, hmr, hma, ← hsz3]; exact HX2.out, rfl, by rw [hmw]; exact (((MapIs.made w).mono hba2).mono hba3).mono HB2.out, (fun x hx => by cases hx), List.nodup_nil, by rw [hmr, ← hsz1]; exact ((MapIs.made _).mono hba3).mono HB2.out, by rw [hma, ← hsz2]; exact (MapIs.made _).mono HB2.out, ⟨by omega, by omega, by omega, by omega⟩, ⟨by omega, by omega, by omega⟩⟩)
  have HB02 := Lib.hid (hba1.trans ((hba2.mono (by omega)).trans ((hba3.mono (by omega)).trans (HB2.out.mono (by omega)))))
  rw [← hp, ← hma, ← hmr, ← hmw]
  clear hba1 hba2 hba3 hsz1 hsz2 hsz3 hmw hmr hma hp hmm HX2 HB2
  go_loopw [7, 8, 9, 10, 28, 36] (fun _ _ _ _ s28 _ wr => ∃ (i : Nat) (c : Cho) (PW : List PWin), s28 = .int .i64 i ∧ i ≤ n ∧ Hid (seeO i (mods.drop i) c = FIN) ∧ Hid (ChoAt wr w.heap.size p mw mr ma c PW) ∧ Hid (Below w.heap.size w wr) ∧ Grew (1000 * i) choNo c) (fun _ _ _ _ s28 _ _ => n - (intOf s28).toNat)
  case atStart => exact ⟨0, choNo, [], rfl, Nat.zero_le _, HF0, HC0.out, HB02.out, ⟨by simp, by simp, by simp⟩⟩
  case round =>
    obtain ⟨i, c, PW, rfl, hi, HF, HC, HB, hgr⟩ := hrel
    have hwr := HB.out.size
    by_cases hlt : i < n
    · obtain ⟨x, hx⟩ : ∃ x, Y[i]? = some x := ⟨_, List.getElem?_eq_getElem (by have := HN.out; omega)⟩
      obtain ⟨b, o, rfl, e0, e1, e2, hb0⟩ := ob_cells HP.out HB.out hx
      have hxm := HMG.out i x hx
      have hat := HY.out.obj x (List.mem_of_getElem? hx)
      obtain ⟨hsl, hsn⟩ := HK.out.syms x.1 (List.mem_of_getElem? hxm)
      have HSO := Lib.hid (seeO_step (c := c) hxm)
      obtain ⟨qp, qa, qc, -, hqp, -, -⟩ := hat.rd.shape
      obtain ⟨sa, sc, hsv, hsc, -, hS⟩ := hat.syms.open (fun _ => rfl)
      have HS := Lib.hid hS
      have HSN := Lib.hid hsn
      obtain ⟨⟨target, parts, syms⟩, L, pv, sv⟩ := x
      dsimp only at *
      subst hqp hsv
      obtain ⟨ns, hns⟩ : ∃ n, n = syms.length := ⟨_, rfl⟩
      rw [← hns] at hsl hsc e2
      have HNS := Lib.hid hns
      obtain ⟨CE, hCE⟩ : ∃ C, C = seeS i 0 syms c := ⟨_, rfl⟩
      rw [← hCE] at HSO
      have HC00 := Lib.hid (show seeS i 0 (syms.drop 0) c = CE by rw [hCE, List.drop_zero])
      obtain ⟨g1, g2, g3⟩ := hgr
      clear hx hxm hat hS hns hCE hsn
      go_wp2_with ((with_reducible show wpList _ _ _ (⟨none, .store _ (.tmp 8) _, _, _, _, _⟩ :: _) _ _); go_must (refine wpList_storeNew rfl rfl (by kernel_rfl) rfl (by simp [Value.oneCell']) ?_; intro w3 hh3 hb3; have HC3 := Lib.hid (HC.out.mono hb3); have HB3 := Lib.hid (HB.out.trans (hb3.mono HB.out.size)); obtain ⟨d0, d1, d2⟩ := obj_box hh3; clear hh3 hb3))
      go_loopw [9, 10, 36] (fun _ _ s36 wr2 => ∃ (j : Nat) (cj : Cho) (PX : List PWin), s36 = .int .i64 j ∧ j ≤ ns ∧ Hid (seeS i j (syms.drop j) cj = CE) ∧ Hid (ChoAt wr2 w.heap.size p mw mr ma cj PX) ∧ Hid (Below w.heap.size w wr2) ∧ Grew (1000 * i + 2 * j) choNo cj) (fun _ _ s36 _ => ns - (intOf s36).toNat)
      case atStart => exact ⟨0, c, PW, rfl, Nat.zero_le _, HC00, HC3.out, HB3.out, ⟨by omega, by omega, by omega⟩⟩
      case round =>
        obtain ⟨j, cj, PX, rfl, hj, HFj, HCj, HBj, hgj⟩ := hrel
        have hwj := HBj.out.size
        by_cases hlj : j < ns
        · obtain ⟨y, hy⟩ : ∃ y, syms[j]? = some y := ⟨_, List.getElem?_eq_getElem (by have := HNS.out; omega)⟩
          obtain ⟨b2, o2, rfl, f0, f1, f2, f3, f4, f5, hb2⟩ := sym_cells HS.out HBj.out hy
          obtain ⟨hyn, hyv, hys⟩ := HSN.out y (List.mem_of_getElem? hy)
          have HSS := Lib.hid (seeS_step (i := i) (c := cj) hy)
          obtain ⟨k1, k2, k3⟩ := hgj
          obtain ⟨m1, m2, m3⟩ := seeM_grew i j cj y
          have e1 : choNo.wins.length = 0 := rfl
          have e2 : choNo.ranks.length = 0 := rfl
          have e3 : choNo.aligns.length = 0 := rfl
          have HSEE := Lib.hid (fun wx (hc : ChoAt wx w.heap.size p mw mr ma cj PX) (hb : w.heap.size ≤ wx.heap.size) => seeR_any cj PX i j y w.heap.size p mw mr ma wx hc hb (by omega) (by omega) (by omega) hyn hyv hys)
          have HG2 := Lib.hid (show Grew (1000 * i + 2 * (j + 1)) choNo (seeM i j cj y) from ⟨by omega, by omega, by omega⟩)
          obtain ⟨CN, hCN⟩ : ∃ C, C = seeM i j cj y := ⟨_, rfl⟩
          rw [← hCN] at HSS HSEE HG2
          obtain ⟨name, bind, typ, sec, value, size⟩ := y
          dsimp only at *
          clear hy hCN m1 m2 m3 k1 k2 k3 e1 e2 e3 hyn hyv hys
          go_wp2_with (first
            | ((with_reducible show wpList _ _ _ (⟨none, .store _ (.tmp 10) _, _, _, _, _⟩ :: _) _ _); go_must (refine wpList_storeNew rfl rfl (by kernel_rfl) rfl (by simp [Value.oneCell']) ?_; intro w4 hh4 hb4; have HC4 := Lib.hid (HCj.out.mono hb4); have HB4 := Lib.hid (HBj.out.trans (hb4.mono HBj.out.size)); obtain ⟨g0, g1', g2', g3', g4, g5⟩ := sym_box (s := ⟨name, bind, typ, sec, value, size⟩) hh4; clear hh4 hb4))
            | (go_at_call 33; refine (HSEE.out _ HC4.out HB4.out.size).mono ?_; rintro e w5 ⟨rfl, ⟨PX5, hc5⟩, hb5⟩; have HC5 := Lib.hid hc5; have HB5 := Lib.hid (HB4.out.trans hb5); clear hc5 hb5))
          go_roundw
          case rel => exact ⟨j + 1, CN, PX5, by go_num, by omega, Lib.hid (by rw [← HFj.out, HSS.out]), HC5.out, HB5.out, HG2.out⟩
          case measure => simp [intOf] <;> omega
        · obtain rfl : j = ns := by omega
          have HE := Lib.hid (show cj = CE by rw [← HFj.out, List.drop_eq_nil_of_le (by have := HNS.out; omega)]; rfl)
          obtain ⟨k1, k2, k3⟩ := hgj
          have HG2 := Lib.hid (show Grew (1000 * (i + 1)) choNo cj from ⟨by omega, by omega, by omega⟩)
          clear k1 k2 k3
          go_wp2
          go_roundw
          case rel => exact ⟨i + 1, cj, PX, by go_num, by omega, Lib.hid (by rw [HE.out, ← HF.out, HSO.out]), HCj.out, HBj.out, HG2.out⟩
          case measure => simp [intOf] <;> omega
    · obtain ⟨i0, hi0⟩ : ∃ k, k = i := ⟨_, rfl⟩
      obtain rfl : i = n := by omega
      subst hi0
      have hfe : c = FIN := by rw [← HF.out, List.drop_eq_nil_of_le (by have := HML.out; omega)]; rfl
      subst hfe
      have q3 := cell_rec HC.out.box 3
      simp only [List.getElem?_toArray, List.getElem?_cons_succ, List.getElem?_cons_zero] at q3
      cases htw : c.twice with
      | true =>
        rw [htw] at q3 HCH
        have HR := Lib.hid (show RES = ([], 19) by rw [HCH.out, if_pos rfl])
        go_wp2
        go_ret2
        refine ⟨⟨none, 0, 0, ?_, ?_⟩, HB.out⟩
        · rw [HR.out]; rfl
        · rw [HR.out]; exact OwR.nil _ _ _ _ _
      | false =>
        rw [htw] at q3 HCH
        have HR2 := Lib.hid (show RES = if mods.any (lacksO c.wins known) = true then ([], 18) else (((c.wins.map (·.1)).mergeSort leB).map (winAl c), 0) by rw [HCH.out, if_neg (by simp)])
        go_wp2
        go_loopw [12, 14, 54, 61] (fun _ _ s54 _ wr => ∃ i : Nat, s54 = .int .i64 i ∧ i ≤ i0 ∧ Hid (mods.any (lacksO c.wins known) = (mods.drop i).any (lacksO c.wins known)) ∧ Hid (ChoAt wr w.heap.size p mw mr ma c PW) ∧ Hid (Below w.heap.size w wr)) (fun _ _ s54 _ _ => i0 - (intOf s54).toNat)
        case atStart => exact ⟨0, rfl, Nat.zero_le _, Lib.hid (by rw [List.drop_zero]), HC.out, HB.out⟩
        case round =>
          clear HC HB hwr hlt hi q3
          obtain ⟨i, rfl, hi, HA, HC, HB⟩ := hrel
          have hwr := HB.out.size
          by_cases hlt : i < i0
          · obtain ⟨x, hx⟩ : ∃ x, Y[i]? = some x := ⟨_, List.getElem?_eq_getElem (by have := HN.out; omega)⟩
            obtain ⟨b, o, rfl, e0, e1, e2, hb0⟩ := ob_cells HP.out HB.out hx
            have hxm := HMG.out i x hx
            have hat := HY.out.obj x (List.mem_of_getElem? hx)
            obtain ⟨hsl, hsn⟩ := HK.out.syms x.1 (List.mem_of_getElem? hxm)
            have HST := Lib.hid (any_drop (f := lacksO c.wins known) hxm)
            obtain ⟨qp, qa, qc, -, hqp, -, -⟩ := hat.rd.shape
            obtain ⟨sa, sc, hsv, hsc, -, hS⟩ := hat.syms.open (fun _ => rfl)
            have HS := Lib.hid hS
            have HSN := Lib.hid hsn
            obtain ⟨⟨target, parts, syms⟩, L, pv, sv⟩ := x
            dsimp only at *
            subst hqp hsv
            obtain ⟨ns, hns⟩ : ∃ n, n = syms.length := ⟨_, rfl⟩
            rw [← hns] at hsl hsc e2
            have HNS := Lib.hid hns
            have HLO : Hid (lacksO c.wins known ⟨target, parts, syms⟩ = (syms.drop 0).any (lacksS c.wins known)) := rfl
            have HXM := Lib.hid hxm
            clear hx hxm hat hS hns hsn
            go_wp2_with ((with_reducible show wpList _ _ _ (⟨none, .store _ (.tmp 12) _, _, _, _, _⟩ :: _) _ _); go_must (refine wpList_storeNew rfl rfl (by kernel_rfl) rfl (by simp [Value.oneCell']) ?_; intro w3 hh3 hb3; have HC3 := Lib.hid (HC.out.mono hb3); have HB3 := Lib.hid (HB.out.trans (hb3.mono HB.out.size)); obtain ⟨d0, d1, d2⟩ := obj_box hh3; clear hh3 hb3))
            go_loopw [14, 61] (fun _ s61 wr2 => ∃ j : Nat, s61 = .int .i64 j ∧ j ≤ ns ∧ Hid (mods.any (lacksO c.wins known) = ((syms.drop j).any (lacksS c.wins known) || (mods.drop (i + 1)).any (lacksO c.wins known))) ∧ Hid (ChoAt wr2 w.heap.size p mw mr ma c PW) ∧ Hid (Below w.heap.size w wr2)) (fun _ s61 _ => ns - (intOf s61).toNat)
            case atStart => exact ⟨0, rfl, Nat.zero_le _, Lib.hid (by rw [HA.out, HST.out, HLO.out]), HC3.out, HB3.out⟩
            case round =>
              obtain ⟨j, rfl, hj, HAj, HCj, HBj⟩ := hrel
              have hwj := HBj.out.size
              by_cases hlj : j < ns
              · obtain ⟨y, hy⟩ : ∃ y, syms[j]? = some y := ⟨_, List.getElem?_eq_getElem (by have := HNS.out; omega)⟩
                obtain ⟨b2, o2, rfl, f0, f1, f2, f3, f4, f5, hb2⟩ := sym_cells HS.out HBj.out hy
                obtain ⟨hyn, -, -⟩ := HSN.out y (List.mem_of_getElem? hy)
                obtain ⟨lk, hkl⟩ := keySL y.name hyn
                have HST2 := Lib.hid (any_drop (f := lacksS c.wins known) hy)
                have HLS : Hid (lacksS c.wins known y = (needsM y && decide ((winOf c.wins y.name).mod < 0) && !decide (y.name ∈ known))) := rfl
                have HNE := Lib.hid (fun wx => show Calls Try.prog 34 #[.agg #[.string ⟨y.name.toArray⟩, .int .i64 y.bind, .int .i64 y.typ, .int .i64 y.sec, .int .u64 (y.value : Int), .int .u64 (y.size : Int)]] wx fun e w' => e = .returned (.bool (needsM y)) ∧ Below wx.heap.size wx w' from needsR_any y wx)
                have HKI := Lib.hid (fun wx (hb : Below w.heap.size w wx) => show Calls Try.prog 35 #[.slice ka kn kc, S y.name] wx fun e w' => e = .returned (.bool (decide (y.name ∈ known))) ∧ Below wx.heap.size wx w' from (containsS_any known _ y.name wx (HKV.out.mono hb) (by have := HKN.out; omega)).mono fun e w' ⟨q1, q2⟩ => ⟨q1, by rw [q2]; exact Below.refl _ _⟩)
                have HKEY := Lib.hid (fun (hq : needsM y = true) => show y.name ∈ c.wins.map (·.1) from (HCO.out.keys y.name).2 ⟨i, j, y, ⟨_, HXM.out, hy⟩, rfl, by unfold needsM at hq; simp at hq; omega, by unfold needsM at hq; simp at hq; exact hq.2⟩)
                obtain ⟨name, bind, typ, sec, value, size⟩ := y
                dsimp only at *
                generalize needsM ⟨name, bind, typ, sec, value, size⟩ = nd at *
                generalize lacksS c.wins known ⟨name, bind, typ, sec, value, size⟩ = ls at *
                obtain ⟨kin, hkin⟩ : ∃ k, k = decide (name ∈ known) := ⟨_, rfl⟩
                rw [← hkin] at HLS HKI
                clear hy hyn hkin
                go_wp2_with ((with_reducible show wpList _ _ _ (⟨none, .store _ (.tmp 14) _, _, _, _, _⟩ :: _) _ _); go_must (refine wpList_storeNew rfl rfl (by kernel_rfl) rfl (by simp [Value.oneCell']) ?_; intro w6 hh6 hb6; have HC6 := Lib.hid (HCj.out.mono hb6); have HB6 := Lib.hid (HBj.out.trans (hb6.mono HBj.out.size)); obtain ⟨g0, g1, g2, g3, g4, g5⟩ := sym_box (s := ⟨name, bind, typ, sec, value, size⟩) hh6; have q0 := cell_rec HC6.out.box 0; simp only [List.getElem?_toArray, List.getElem?_cons_zero] at q0; clear hh6 hb6))
                go_upto_region 19 with fail
                go_cut [86] from 65 to 85 (fun s86 wx => s86 = .bool ls ∧ Hid (ChoAt wx w.heap.size p mw mr ma c PW) ∧ Hid (Below w.heap.size w wx))
                case first =>
                  clear HAj HST2 HR2 HCj HBj HC3 HB3
                  cases nd with
                  | false =>
                    have hAB := fun (x : Above w6) (b k : Nat) (h : b < w6.heap.size) => Above.cell x b k h
                    have l1 := block_lt g0
                    have l3 := block_lt q0
                    refine wp_region_walk 22 [(1, .is (.bool false))] (by kernel_rfl) (by kernel_rfl) ?_
                    simp only [List.take_succ_cons, List.take_zero, List.drop_succ_cons, List.drop_zero]
                    try go_frame
                    refine walk_quiet rfl rfl rfl ?_; intro K hK; go_big_quiet_op; go_big_quiet_on
                    refine walk_is rfl rfl (fun wx hwx _ => WpYld.callIsB (run_callL (vals := [.agg #[.string ⟨name.toArray⟩, .int .i64 bind, .int .i64 typ, .int .i64 sec, .int .u64 (value : Int), .int .u64 (size : Int)]]) Try.func34 (by kernel_rfl) rfl rfl) (HNE.out wx)) ?_
                    go_frame
                    iterate 1 (refine walk_quiet rfl rfl rfl ?_; intro K hK; go_big_quiet_op; (with_reducible refine hK _ ?_); clear hK K; try go_frame)
                    iterate 11 (refine walk_skip (by kernel_rfl) ?_; go_frame)
                    iterate 2 (refine walk_quiet rfl rfl rfl ?_; intro K hK; go_big_quiet_op; (with_reducible refine hK _ ?_); clear hK K; try go_frame)
                    iterate 5 (refine walk_skip (by kernel_rfl) ?_; go_frame)
                    iterate 1 (refine walk_quiet rfl rfl rfl ?_; intro K hK; go_big_quiet_op; (with_reducible refine hK _ ?_); clear hK K; try go_frame)
                    refine walk_nil ?_
                    intro wz hbz hF
                    have HCz := Lib.hid (HC6.out.mono hbz)
                    have HBz := Lib.hid (HB6.out.trans (hbz.mono HB6.out.size))
                    clear hF hAB hbz
                    go_wp2
                    go_meet
                    exact ⟨by rw [HLS.out]; simp, HCz, HBz⟩
                  | true =>
                    obtain ⟨pb, hmem, hlk⟩ := HC6.out.find (HKEY.out rfl)
                    have HLK := Lib.hid hlk
                    have z1 := cell_rec (HC6.out.winc _ hmem).1 1
                    simp only [List.getElem?_toArray, List.getElem?_cons_succ, List.getElem?_cons_zero] at z1
                    generalize (winOf c.wins name).mod = wm at *
                    clear hmem hlk
                    by_cases hneg : wm < 0
                    · have t5 : decide (wm < 0) = true := decide_eq_true hneg
                      rw [t5] at HLS
                      clear hneg
                      have hAB := fun (x : Above w6) (b k : Nat) (h : b < w6.heap.size) => Above.cell x b k h
                      have l1 := block_lt g0
                      have l3 := block_lt q0
                      have l4 := block_lt z1
                      refine wp_region_walk 22 [(1, .is (.bool true)), (19, .is (.bool kin))] (by kernel_rfl) (by kernel_rfl) ?_
                      simp only [List.take_succ_cons, List.take_zero, List.drop_succ_cons, List.drop_zero]
                      try go_frame
                      refine walk_quiet rfl rfl rfl ?_; intro K hK; go_big_quiet_op; go_big_quiet_on
                      refine walk_is rfl rfl (fun wx hwx _ => WpYld.callIsB (run_callL (vals := [.agg #[.string ⟨name.toArray⟩, .int .i64 bind, .int .i64 typ, .int .i64 sec, .int .u64 (value : Int), .int .u64 (size : Int)]]) Try.func34 (by kernel_rfl) rfl rfl) (HNE.out wx)) ?_
                      go_frame
                      iterate 2 (refine walk_quiet rfl rfl rfl ?_; intro K hK; go_big_quiet_op; (with_reducible refine hK _ ?_); clear hK K; try go_frame)
                      refine walk_check (by kernel_rfl) rfl rfl ?_; go_frame
                      iterate 4 (refine walk_quiet rfl rfl rfl ?_; intro K hK; go_big_quiet_op; (with_reducible refine hK _ ?_); clear hK K; try go_frame)
                      refine walk_val rfl rfl (fun wx hwx _ => run_look1 (d := some 74) (ty := 98) (pos := "resolve.go:199") (aft := #[]) TMW (HC6.out.wins.mono hwx) (zeroWp _) hkl HLK.out rfl rfl) ?_
                      go_frame
                      refine walk_check (by kernel_rfl) rfl rfl ?_; go_frame
                      iterate 5 (refine walk_quiet rfl rfl rfl ?_; intro K hK; go_big_quiet_op; (with_reducible refine hK _ ?_); clear hK K; try go_frame)
                      iterate 3 (refine walk_quiet rfl rfl rfl ?_; intro K hK; go_big_quiet_op; (with_reducible refine hK _ ?_); clear hK K; try go_frame)
                      refine walk_is rfl rfl (fun wx hwx _ => WpYld.callIsB (run_callL (vals := [.slice ka kn kc, S name]) Try.func35 (by kernel_rfl) rfl rfl) (HKI.out wx (HB6.out.trans (hwx.mono HB6.out.size)))) ?_
                      go_frame
                      iterate 2 (refine walk_quiet rfl rfl rfl ?_; intro K hK; go_big_quiet_op; (with_reducible refine hK _ ?_); clear hK K; try go_frame)
                      refine walk_nil ?_
                      intro wz hbz hF
                      have HCz := Lib.hid (HC6.out.mono hbz)
                      have HBz := Lib.hid (HB6.out.trans (hbz.mono HB6.out.size))
                      clear hF hAB hbz
                      go_wp2
                      go_meet
                      exact ⟨by rw [HLS.out]; simp, HCz, HBz⟩
                    · have t5 : decide (wm < 0) = false := decide_eq_false hneg
                      rw [t5] at HLS
                      clear hneg
                      have hAB := fun (x : Above w6) (b k : Nat) (h : b < w6.heap.size) => Above.cell x b k h
                      have l1 := block_lt g0
                      have l3 := block_lt q0
                      have l4 := block_lt z1
                      refine wp_region_walk 22 [(1, .is (.bool true))] (by kernel_rfl) (by kernel_rfl) ?_
                      simp only [List.take_succ_cons, List.take_zero, List.drop_succ_cons, List.drop_zero]
                      try go_frame
                      refine walk_quiet rfl rfl rfl ?_; intro K hK; go_big_quiet_op; go_big_quiet_on
                      refine walk_is rfl rfl (fun wx hwx _ => WpYld.callIsB (run_callL (vals := [.agg #[.string ⟨name.toArray⟩, .int .i64 bind, .int .i64 typ, .int .i64 sec, .int .u64 (value : Int), .int .u64 (size : Int)]]) Try.func34 (by kernel_rfl) rfl rfl) (HNE.out wx)) ?_
                      go_frame
                      iterate 2 (refine walk_quiet rfl rfl rfl ?_; intro K hK; go_big_quiet_op; (with_reducible refine hK _ ?_); clear hK K; try go_frame)
                      refine walk_check (by kernel_rfl) rfl rfl ?_; go_frame
                      iterate 4 (refine walk_quiet rfl rfl rfl ?_; intro K hK; go_big_quiet_op; (with_reducible refine hK _ ?_); clear hK K; try go_frame)
                      refine walk_val rfl rfl (fun wx hwx _ => run_look1 (d := some 74) (ty := 98) (pos := "resolve.go:199") (aft := #[]) TMW (HC6.out.wins.mono hwx) (zeroWp _) hkl HLK.out rfl rfl) ?_
                      go_frame
                      refine walk_check (by kernel_rfl) rfl rfl ?_; go_frame
                      iterate 5 (refine walk_quiet rfl rfl rfl ?_; intro K hK; go_big_quiet_op; (with_reducible refine hK _ ?_); clear hK K; try go_frame)
                      iterate 5 (refine walk_skip (by kernel_rfl) ?_; go_frame)
                      iterate 1 (refine walk_quiet rfl rfl rfl ?_; intro K hK; go_big_quiet_op; (with_reducible refine hK _ ?_); clear hK K; try go_frame)
                      refine walk_nil ?_
                      intro wz hbz hF
                      have HCz := Lib.hid (HC6.out.mono hbz)
                      have HBz := Lib.hid (HB6.out.trans (hbz.mono HB6.out.size))
                      clear hF hAB hbz
                      go_wp2
                      go_meet
                      exact ⟨by rw [HLS.out]; simp, HCz, HBz⟩
                case rest =>
                  clear HC6 HB6 q0 g0 g1 g2 g3 g4 g5
                  obtain ⟨rfl, HCz, HBz⟩ := hcut
                  cases ls with
                  | false =>
                    go_wp2
                    go_roundw
                    case rel => exact ⟨j + 1, by go_num, by omega, Lib.hid (by rw [HAj.out, HST2.out]; simp), HCz.out, HBz.out⟩
                    case measure => simp [intOf] <;> omega
                  | true =>
                    have HR3 := Lib.hid (show RES = ([], 18) by rw [HR2.out, if_pos (by rw [HAj.out, HST2.out]; rfl)])
                    go_wp2
                    go_ret2
                    refine ⟨⟨none, 0, 0, ?_, ?_⟩, HBz.out⟩
                    · rw [HR3.out]; rfl
                    · rw [HR3.out]; exact OwR.nil _ _ _ _ _
              · obtain rfl : j = ns := by omega
                have HA2 := Lib.hid (show mods.any (lacksO c.wins known) = (mods.drop (i + 1)).any (lacksO c.wins known) by rw [HAj.out, List.drop_eq_nil_of_le (by have := HNS.out; omega)]; rfl)
                go_wp2
                go_roundw
                case rel => exact ⟨i + 1, by go_num, by omega, HA2.out, HCj.out, HBj.out⟩
                case measure => simp [intOf] <;> omega
          · obtain rfl : i = i0 := by omega
            have HR3 := Lib.hid (show RES = (((c.wins.map (·.1)).mergeSort leB).map (winAl c), 0) by rw [HR2.out, if_neg (by rw [HA.out, List.drop_eq_nil_of_le (by have := HML.out; omega)]; simp)])
            obtain ⟨NM, hNM⟩ : ∃ l, l = c.wins.map (·.1) := ⟨_, rfl⟩
            have HNP := Lib.hid (show (PW.map fun x => (x.1, ptrV x.2.1)).map (·.1) = NM by rw [hNM, HC.out.eqw, List.map_map, List.map_map]; rfl)
            have HNL : Hid (NM.length ≤ 300000) := by
              rw [hNM, List.length_map]
              have h1 := hgr.wins
              have h2 : choNo.wins.length = 0 := rfl
              exact Lib.hid (by omega)
            have HFD := Lib.hid (fun (s : List UInt8) (hs : s ∈ NM) => show ∃ l, keyOf Try.prog 9 (S s) = some l from by
              rw [hNM] at hs
              obtain ⟨m, k, x, ⟨o, ho, hx⟩, rfl, -, -⟩ := (HCO.out.keys s).1 hs
              exact keySL x.name ((HK.out.syms o (List.mem_of_getElem? ho)).2 x (List.mem_of_getElem? hx)).1)
            have HIN := Lib.hid (fun (s : List UInt8) (hs : s ∈ NM) => show s ∈ c.wins.map (·.1) from hNM ▸ hs)
            rw [← hNM] at HR3
            have q0 := cell_rec HC.out.box 0
            simp only [List.getElem?_toArray, List.getElem?_cons_zero] at q0
            clear hNM hgr HR2 HA hi hlt HCO HKN HKV HMG HML HN HP HY HK HF0 HF HCH
            rename World => wA
            have hmA := HC.out.wins.lt
            go_wp2_with ((with_reducible show wpList _ _ _ (⟨some 93, .range _ _, _, _, _, _⟩ :: _) _ _); go_must (refine wpList_rangeM TMW.ht HC.out.wins rfl ?_; intro w0 hr0 hg0 hs0))
            go_frame
            have HRG := Lib.hid hr0
            have HW0 := Lib.hid (below_grown hg0)
            clear hr0 hg0 q0
            go_loopw [15, 16] (fun s15 _ wx => ∃ (left : List (List UInt8 × Value)) (D : List (List UInt8)), RangeIs Try.prog 9 S wx mw wA.heap.size (PW.map fun x => (x.1, ptrV x.2.1)) left ∧ Hid ((D ++ left.map (·.1)).Perm NM) ∧ Hid (Ow S 9 wx (wA.heap.size + 1) s15 D) ∧ Hid (Below wA.heap.size w0 wx)) (fun _ _ wx => wx.rangeLeft mw wA.heap.size)
            case atStart => exact ⟨_, [], HRG.out, Lib.hid (by rw [HNP.out]; exact List.Perm.refl _), Ow.nil _ _ _ _, Below.refl _ _⟩
            case round =>
              obtain ⟨left, D, hrg, HPM, HD, HBx⟩ := hrel
              have HRX := Lib.hid hrg
              have hDL : D.length ≤ 300000 := by
                have h1 := HPM.out.length_eq
                have h2 := HNL.out
                rw [List.length_append] at h1
                omega
              have hszx := HBx.out.size
              obtain ⟨vn, va, vc, HVN, rfl, -, -⟩ := HD.out.shape
              clear hrg
              go_wp2_with (first
                | (at_next; go_must (refine wpList_nextM TMW HRX.out rfl ?_ ?_); intro hl0; rotate_left; intro pe w2 hp hr1 hg1 hs2 hen; have HR1 := Lib.hid hr1; have HPE := Lib.hid hp; have HB2 := Lib.hid (HBx.out.trans (below_of_grown hg1 (Nat.le_trans (by omega) HBx.out.size) (fun k hk => by cases hk; exact Nat.le_refl _))); have HD2 := Lib.hid (HD.out.stirs (Stirs.of_grown (S := (· = wA.heap.size)) hg1 (fun k hk => by cases hk; rfl)) (fun k hk e => by have := (World.ownsRow.lt HD.out k hk).1; omega)); clear hp hr1 hg1 hs2)
                | ((with_reducible show wpList _ _ _ (⟨some 101, _, _, _, _, _⟩ :: _) _ _); go_must (refine wpList_pushE TNm HD2.out rfl rfl pe.1 rfl rfl (by omega) (by omega) (Nat.le_trans (by omega) HB2.out.size) ?_; intro v7 w7 hv7 hg7 hb7; have HD7 := Lib.hid hv7; have HG7 := Lib.hid hg7; clear hv7 hg7 hb7)))
              · have HON := Lib.hid (fun k (hk : (Value.slice va vn vc).ownBlock = some k) => (World.ownsRow.lt HD2.out k hk).1)
                have HRN := Lib.hid (HR1.out.kept HG7.out (fun e => by have := HON.out mw e.symm; omega) (fun e => by have := HON.out _ e.symm; omega))
                have HBN := Lib.hid (HB2.out.trans (below_of_grown HG7.out (Nat.le_trans (by omega) HB2.out.size) (fun k hk => by have := HON.out k hk; omega)))
                go_roundw
                case rel =>
                  refine ⟨left.filter (fun q => q.1 ≠ pe.1), D ++ [pe.1], HRN.out, Lib.hid ?_, HD7.out, HBN.out⟩
                  rw [List.append_assoc]
                  exact ((perm_out (HRX.out.nodup TMW) HPE.out).symm.append_left D).trans HPM.out
                case measure => rw [HRN.out.left_eq, HRX.out.left_eq]; exact List.length_filter_lt_length_iff_exists.2 ⟨pe, HPE.out, by simp⟩
              · have HPN := Lib.hid (show D.mergeSort leB = NM.mergeSort leB from mergeS_eq (by have h9 := HPM.out; rw [hl0] at h9; simpa using h9))
                have HBA := Lib.hid (HW0.out.trans (HBx.out.mono (Nat.le_refl _)))
                clear HPM HRX HRG hl0
                refine (sortS_any D _ _ _ HD.out (by omega)).mono ?_
                rintro e w5 ⟨rfl, hd5, hg5⟩
                obtain ⟨SN, hSN⟩ : ∃ l, l = NM.mergeSort leB := ⟨_, rfl⟩
                rw [HPN.out, ← hSN] at hd5
                rw [← hSN] at HR3
                have HSM := Lib.hid (fun s (hs : s ∈ SN) => show s ∈ NM from (mergeS_perm NM).mem_iff.1 (hSN ▸ hs))
                have HD5 := Lib.hid hd5.rd
                have HVS : Hid (vn = SN.length) := by
                  obtain ⟨_, _, e, -, -, -⟩ := hd5.rd.open []
                  cases e
                  exact Lib.hid rfl
                have hvn : vn ≤ 300000 := by
                  rw [HVS.out, hSN, (mergeS_perm NM).length_eq]
                  exact HNL.out
                have HB5 := Lib.hid (HBA.out.trans (below_of_grown hg5 (Nat.le_trans (by omega) HBx.out.size) (fun k hk => by have := (World.ownsRow.lt HD.out k hk).1; omega)))
                have HC5 := Lib.hid (HC.out.mono HB5.out)
                have HBB := Lib.hid (HB.out.trans (HB5.out.mono HB.out.size))
                have hw5 := HBB.out.size
                clear hd5 hg5 hSN HPN HBA HD HBx HB5 HW0 HVN hDL hszx hs0 hmA HC HB
                dsimp only
                go_wp2
                go_loopw [17, 19, 20, 106] (fun s17 _ _ s106 wx => ∃ k : Nat, s106 = .int .i64 k ∧ k ≤ vn ∧ Hid (OwR 6 encWin 42 wx w5.heap.size s17 ((SN.take k).map (winAl c))) ∧ Hid (Below w5.heap.size w5 wx)) (fun _ _ _ s106 _ => vn - (intOf s106).toNat)
                case atStart => exact ⟨0, rfl, Nat.zero_le _, OwR.nil _ _ _ _ _, Below.refl _ _⟩
                case round =>
                  obtain ⟨k, rfl, hk, HO, HBx⟩ := hrel
                  have hszx := HBx.out.size
                  obtain ⟨on, oa, oc, -, rfl, -, -⟩ := HO.out.shape
                  by_cases hlt : k < vn
                  · obtain ⟨nm, hx⟩ : ∃ x, SN[k]? = some x := ⟨_, List.getElem?_eq_getElem (by have := HVS.out; omega)⟩
                    obtain ⟨b, o, rfl, e0, hb0⟩ := rd_cell HD5.out HBx.out hx
                    have hnm := HSM.out nm (List.mem_of_getElem? hx)
                    obtain ⟨lk, hkl⟩ := HFD.out nm hnm
                    have HCx := Lib.hid (HC5.out.mono HBx.out)
                    obtain ⟨pb, hmem, hlk⟩ := HCx.out.find (HIN.out nm hnm)
                    have HLK := Lib.hid hlk
                    have HTK := Lib.hid (take_mapR (f := winAl c) hx)
                    have HLN : Hid (((SN.take k).map (winAl c)).length ≤ 300000) := by
                      rw [List.length_map, List.length_take]
                      exact Lib.hid (by omega)
                    obtain ⟨WN, hWN⟩ : ∃ x, x = winOf c.wins nm := ⟨_, rfl⟩
                    have HWA : Hid (winAl c nm = if (winOf c.wins nm).common = true then { winOf c.wins nm with align := alignOf c.aligns nm } else winOf c.wins nm) := rfl
                    rw [← hWN] at HWA hmem
                    obtain ⟨AV, hAV⟩ : ∃ x, x = alignOf c.aligns nm := ⟨_, rfl⟩
                    rw [← hAV] at HWA
                    have HAV : Hid (AV = (c.aligns.lookup nm).getD 0) := hAV
                    obtain ⟨z0, z1, z2, z3, z4, z5⟩ := win_box (HCx.out.winc _ hmem).1
                    have q0 := cell_rec HCx.out.box 0
                    have q2 := cell_rec HCx.out.box 2
                    simp only [List.getElem?_toArray, List.getElem?_cons_succ, List.getElem?_cons_zero] at q0 q2
                    obtain ⟨wna, wm, wsy, wco, wsz, wal⟩ := WN
                    dsimp only at *
                    clear hx hnm hlk hWN hAV hmem
                    cases wco with
                    | true =>
                      have HW2 := Lib.hid (show winAl c nm = ⟨wna, wm, wsy, true, wsz, AV⟩ by rw [HWA.out, if_pos rfl])
                      go_wp2_with (first
                        | ((with_reducible show wpList _ _ _ (⟨some 115, _, _, _, _, _⟩ :: _) _ _); go_must (refine wpList_lookM TMW HCx.out.wins (zeroWp _) hkl HLK.out rfl rfl ?_))
                        | ((with_reducible show wpList _ _ _ (⟨none, .store _ (.tmp 20) _, _, _, _, _⟩ :: _) _ _); go_must (refine wpList_storeNew rfl rfl (by kernel_rfl) rfl (by simp [Value.oneCell']) ?_; intro w6 hh6 hb6; have HC6 := Lib.hid (HCx.out.mono hb6); have HB6 := Lib.hid (HBx.out.trans (hb6.mono HBx.out.size)); have HO6 := Lib.hid (HO.out.mono hb6); have HX6 := Lib.hid hh6; have hs6 := hb6.size; obtain ⟨g0, g1, g2, g3, g4, g5⟩ := win_box (x := ⟨wna, wm, wsy, true, wsz, wal⟩) hh6; have r2 := cell_rec HC6.out.box 2; simp only [List.getElem?_toArray, List.getElem?_cons_succ, List.getElem?_cons_zero] at r2; clear hh6 hb6))
                        | ((with_reducible show wpList _ _ _ (⟨some 125, _, _, _, _, _⟩ :: _) _ _); go_must (refine wpList_lookM TMU HC6.out.aligns (zeroU6 _) hkl ((look_any (fun x : Nat => .int .u64 (x : Int)) (z := 0)).trans (by rw [← HAV.out])) rfl rfl ?_))
                        | ((with_reducible show wpList _ _ _ (⟨none, .store _ (.tmp 126) _, _, _, _, _⟩ :: _) _ _); go_must (refine wpList_setU64 HX6.out (show 5 < 6 by decide) rfl rfl (fun w => by kernel_rfl) ?_; intro w7 hh7 hs7; obtain ⟨g0', g1', g2', g3', g4', g5'⟩ := win_box (x := ⟨wna, wm, wsy, true, wsz, AV⟩) hh7; have HO7 := Lib.hid (owns_stirs HO6.out hs7 (fun k hk e => by have := (World.ownsRow.lt HO.out k hk).2; omega)); have HB7 := Lib.hid (HB6.out.trans (hs7.below HB6.out.size (fun k hk => by omega))); clear g0 g1 g2 g3 g4 g5 hh7 hs7))
                        | ((with_reducible show wpList _ _ _ (⟨some 130, _, _, _, _, _⟩ :: _) _ _); go_must (refine wpList_pushR TWin HO7.out rfl rfl (⟨wna, wm, wsy, true, wsz, AV⟩ : WinM) rfl rfl rfl (by have := HLN.out; omega) (by have := HLN.out; omega) HB7.out.size ?_; intro v8 w8 hv8 hg8 hb8; have HO8 := Lib.hid hv8; have HB8 := Lib.hid (HB7.out.trans (below_of_grown hg8 HB7.out.size (fun k hk => (World.ownsRow.lt HO7.out k hk).1))); clear hv8 hg8 hb8)))
                      go_roundw
                      case rel => exact ⟨k + 1, by go_num, by omega, Lib.hid (by rw [HTK.out, HW2.out]; exact HO8.out), HB8.out⟩
                      case measure => simp [intOf] <;> omega
                    | false =>
                      have HW2 := Lib.hid (show winAl c nm = ⟨wna, wm, wsy, false, wsz, wal⟩ by rw [HWA.out, if_neg (by simp)])
                      go_wp2_with (first
                        | ((with_reducible show wpList _ _ _ (⟨some 115, _, _, _, _, _⟩ :: _) _ _); go_must (refine wpList_lookM TMW HCx.out.wins (zeroWp _) hkl HLK.out rfl rfl ?_))
                        | ((with_reducible show wpList _ _ _ (⟨none, .store _ (.tmp 20) _, _, _, _, _⟩ :: _) _ _); go_must (refine wpList_storeNew rfl rfl (by kernel_rfl) rfl (by simp [Value.oneCell']) ?_; intro w6 hh6 hb6; have HB6 := Lib.hid (HBx.out.trans (hb6.mono HBx.out.size)); have HO6 := Lib.hid (HO.out.mono hb6); obtain ⟨g0, g1, g2, g3, g4, g5⟩ := win_box (x := ⟨wna, wm, wsy, false, wsz, wal⟩) hh6; clear hh6 hb6))
                        | ((with_reducible show wpList _ _ _ (⟨some 130, _, _, _, _, _⟩ :: _) _ _); go_must (refine wpList_pushR TWin HO6.out rfl rfl (⟨wna, wm, wsy, false, wsz, wal⟩ : WinM) rfl rfl rfl (by have := HLN.out; omega) (by have := HLN.out; omega) HB6.out.size ?_; intro v8 w8 hv8 hg8 hb8; have HO8 := Lib.hid hv8; have HB8 := Lib.hid (HB6.out.trans (below_of_grown hg8 HB6.out.size (fun k hk => (World.ownsRow.lt HO6.out k hk).1))); clear hv8 hg8 hb8)))
                      go_roundw
                      case rel => exact ⟨k + 1, by go_num, by omega, Lib.hid (by rw [HTK.out, HW2.out]; exact HO8.out), HB8.out⟩
                      case measure => simp [intOf] <;> omega
                  · obtain rfl : k = vn := by omega
                    have HOE := Lib.hid (show OwR 6 encWin 42 wr w5.heap.size (.slice oa on oc) (SN.map (winAl c)) by have h9 := HO.out; rw [List.take_of_length_le (by have := HVS.out; omega)] at h9; exact h9)
                    have HBE := Lib.hid (HBB.out.trans (HBx.out.mono hw5))
                    clear HO HBx
                    go_wp2
                    go_ret2
                    refine ⟨⟨oa, on, oc, ?_, ?_⟩, HBE.out⟩
                    · rw [HR3.out]
                      rfl
                    · rw [HR3.out]
                      exact HOE.out.rebase hw5
end Go.Proofs.Ytnhbgijecdeahaa
namespace Go.Proofs.Ytnhbgijecdeahaa
open Go.RowKit Go.Fd
theorem run_litSym0 {a : Act} {w : World} {d : Option Tmp} {ty : TypeId} {pos : String} {aft : Array Edge} {g : Option (Nat × Bool)} :
    (execOp a.eval ⟨d, .buildSlice 34 0 #[], ty, pos, aft, g⟩).run Try.prog w = .ok (.value (.slice (some ⟨w.heap.size, 0, none⟩) 0 0)) (w.alloc (.cells #[] 44)) := by
  kernel_rfl
set_option maxHeartbeats 4000000 in
set_option maxRecDepth 100000 in
theorem cloneSym_any (l : List SymM) (v : Value) (w : World) (hl : l.length ≤ 1000000) (hv : RdR 6 encSym w v l) :
    Calls Try.prog 30 #[v] w fun r w' => (∃ a n c, r = .returned (.slice a n c) ∧ OwR 6 encSym 44 w' w.heap.size (.slice a n c) l) ∧ Below w.heap.size w w' := by
  have HV := Lib.hid hv
  obtain ⟨m, ad, cap, hm, rfl, hmc, hnil⟩ := hv.shape
  have HM := Lib.hid hm.out
  clear hv
  cases ad with
  | none =>
    have h0 := hnil rfl
    have hm0 : m = 0 := by omega
    have hl0 : l = [] := List.eq_nil_of_length_eq_zero (by have := HM.out; omega)
    subst hl0 hm0 h0
    have hq := fun (w : World) (a : Option Addr) (n c : Nat) => Lib.run_eql_slice_nil (P := Try.prog) w 34 44 a n c 0 0 (by kernel_rfl)
    go_enter Try.func30, Try.ntmps30
    go_wp2
    go_ret
    exact ⟨⟨_, _, _, rfl, OwR.nil _ _ _ _ _⟩, Below.refl _ _⟩
  | some a =>
    have HO := Lib.hid (show OwR 6 encSym 44 (w.alloc (.cells #[] 44)) w.heap.size (.slice (some ⟨w.heap.size, 0, none⟩) 0 0) [] from World.ownsRow_lit (base := w.heap.size) (size := 6) w #[] 0 (Nat.le_refl _) (by unfold maxLen; omega) rfl)
    have HB := Lib.hid (below_alloc w (.cells #[] 44))
    have HS : w.heap.size < (w.alloc (.cells #[] 44)).heap.size := by rw [World.size_alloc]; omega
    obtain ⟨w1, hw1⟩ : ∃ w1, w1 = w.alloc (.cells #[] 44) := ⟨_, rfl⟩
    rw [← hw1] at HO HB HS
    have HW := Lib.hid hw1
    clear hw1 hnil
    have hq := fun (w : World) (a : Option Addr) (n c : Nat) => Lib.run_eql_slice_nil (P := Try.prog) w 34 44 a n c 0 0 (by kernel_rfl)
    go_enter Try.func30, Try.ntmps30
    go_wp2_with (first
      | ((with_reducible show wpList _ _ _ (⟨some 5, _, _, _, _, _⟩ :: _) _ _); go_must (refine wpList_val rfl run_litSym0 ?_; rw [← HW.out]))
      | ((with_reducible show wpList _ _ _ (⟨some 7, _, _, _, _, _⟩ :: _) _ _); go_must (refine wpList_cat TSymS HO.out (HV.out.mono HB.out) rfl rfl (oneSym l) (by simp; omega) (by simp; omega) (Nat.le_of_lt HS) ?_; intro v2 w2 hv2 _ hb2; have HV2 := Lib.hid (show OwR 6 encSym 44 w2 w.heap.size v2 l by (simp only [List.length_nil, Nat.zero_add, List.flatMap_nil, List.nil_append] at hv2; exact hv2)); have HB2 := Lib.hid (HB.out.trans hb2); obtain ⟨m2, a2, c2, -, rfl, -, -⟩ := HV2.out.shape; clear hv2 hb2)))
    go_ret
    exact ⟨⟨_, _, _, rfl, HV2.out⟩, HB2.out⟩
theorem run_litRela0 {a : Act} {w : World} {d : Option Tmp} {ty : TypeId} {pos : String} {aft : Array Edge} {g : Option (Nat × Bool)} :
    (execOp a.eval ⟨d, .buildSlice 68 0 #[], ty, pos, aft, g⟩).run Try.prog w = .ok (.value (.slice (some ⟨w.heap.size, 0, none⟩) 0 0)) (w.alloc (.cells #[] 86)) := by
  kernel_rfl
set_option maxHeartbeats 4000000 in
set_option maxRecDepth 100000 in
theorem cloneRela_any (l : List RelaM) (v : Value) (w : World) (hl : l.length ≤ 1000000) (hv : RdR 4 encRela w v l) :
    Calls Try.prog 32 #[v] w fun r w' => (∃ a n c, r = .returned (.slice a n c) ∧ OwR 4 encRela 86 w' w.heap.size (.slice a n c) l) ∧ Below w.heap.size w w' := by
  have HV := Lib.hid hv
  obtain ⟨m, ad, cap, hm, rfl, hmc, hnil⟩ := hv.shape
  have HM := Lib.hid hm.out
  clear hv
  cases ad with
  | none =>
    have h0 := hnil rfl
    have hm0 : m = 0 := by omega
    have hl0 : l = [] := List.eq_nil_of_length_eq_zero (by have := HM.out; omega)
    subst hl0 hm0 h0
    have hq := fun (w : World) (a : Option Addr) (n c : Nat) => Lib.run_eql_slice_nil (P := Try.prog) w 68 86 a n c 0 0 (by kernel_rfl)
    go_enter Try.func32, Try.ntmps32
    go_wp2
    go_ret
    exact ⟨⟨_, _, _, rfl, OwR.nil _ _ _ _ _⟩, Below.refl _ _⟩
  | some a =>
    have HO := Lib.hid (show OwR 4 encRela 86 (w.alloc (.cells #[] 86)) w.heap.size (.slice (some ⟨w.heap.size, 0, none⟩) 0 0) [] from World.ownsRow_lit (base := w.heap.size) (size := 4) w #[] 0 (Nat.le_refl _) (by unfold maxLen; omega) rfl)
    have HB := Lib.hid (below_alloc w (.cells #[] 86))
    have HS : w.heap.size < (w.alloc (.cells #[] 86)).heap.size := by rw [World.size_alloc]; omega
    obtain ⟨w1, hw1⟩ : ∃ w1, w1 = w.alloc (.cells #[] 86) := ⟨_, rfl⟩
    rw [← hw1] at HO HB HS
    have HW := Lib.hid hw1
    clear hw1 hnil
    have hq := fun (w : World) (a : Option Addr) (n c : Nat) => Lib.run_eql_slice_nil (P := Try.prog) w 68 86 a n c 0 0 (by kernel_rfl)
    go_enter Try.func32, Try.ntmps32
    go_wp2_with (first
      | ((with_reducible show wpList _ _ _ (⟨some 5, _, _, _, _, _⟩ :: _) _ _); go_must (refine wpList_val rfl run_litRela0 ?_; rw [← HW.out]))
      | ((with_reducible show wpList _ _ _ (⟨some 7, _, _, _, _, _⟩ :: _) _ _); go_must (refine wpList_cat TRelaS HO.out (HV.out.mono HB.out) rfl rfl (oneRela l) (by simp; omega) (by simp; omega) (Nat.le_of_lt HS) ?_; intro v2 w2 hv2 _ hb2; have HV2 := Lib.hid (show OwR 4 encRela 86 w2 w.heap.size v2 l by (simp only [List.length_nil, Nat.zero_add, List.flatMap_nil, List.nil_append] at hv2; exact hv2)); have HB2 := Lib.hid (HB.out.trans hb2); obtain ⟨m2, a2, c2, -, rfl, -, -⟩ := HV2.out.shape; clear hv2 hb2)))
    go_ret
    exact ⟨⟨_, _, _, rfl, HV2.out⟩, HB2.out⟩
end Go.Proofs.Ytnhbgijecdeahaa
namespace Go.Proofs.Ytnhbgijecdeahaa
open Go.RowKit Go.Fd
/-- A module in memory that the run made. -/
structure ObjMn (w : World) (base : Nat) (o : ObjM) (PL : List (PartM × Value × Value)) (pv sv : Value) : Prop where
  parts : o.parts = PL.map (·.1)
  po : OwR 6 encPart 70 w base pv PL
  data : ∀ p ∈ PL, OB w base p.2.1 p.1.data
  rela : ∀ p ∈ PL, OwR 4 encRela 86 w base p.2.2 p.1.relas
  so : OwR 6 encSym 44 w base sv o.syms
theorem ObjMn.at {w : World} {base : Nat} {o : ObjM} {PL : List (PartM × Value × Value)} {pv sv : Value} (h : ObjMn w base o PL pv sv) : ObjAt w o PL pv sv :=
  ⟨h.parts, h.po.rd, fun p hp => (h.data p hp).bs, fun p hp => (h.rela p hp).rd, h.so.rd⟩
theorem ObjMn.mono {w w' : World} {base : Nat} {o : ObjM} {PL : List (PartM × Value × Value)} {pv sv : Value} (h : ObjMn w base o PL pv sv) (hb : Below w.heap.size w w') : ObjMn w' base o PL pv sv :=
  ⟨h.parts, h.po.mono hb, fun p hp => (h.data p hp).mono hb, fun p hp => (h.rela p hp).mono hb, h.so.mono hb⟩
theorem ObjMn.base {w : World} {base base' : Nat} {o : ObjM} {PL : List (PartM × Value × Value)} {pv sv : Value} (h : ObjMn w base o PL pv sv) (hb : base' ≤ base) : ObjMn w base' o PL pv sv :=
  ⟨h.parts, h.po.rebase hb, fun p hp => (h.data p hp).base hb, fun p hp => (h.rela p hp).rebase hb, h.so.rebase hb⟩
theorem ObjMn.stir {w w' : World} {base r : Nat} {o : ObjM} {PL : List (PartM × Value × Value)} {pv sv : Value} {cs : Array Value} {ty : TypeId} {fr : Nat × Nat} (h : ObjMn w base o PL pv sv) (hr : w.heap[r]? = some (.cells cs ty fr)) (ht : ty ≠ 70 ∧ ty ≠ 5 ∧ ty ≠ 86 ∧ ty ≠ 44) (hs : Stirs (fun k => k = r) w w') : ObjMn w' base o PL pv sv :=
  ⟨h.parts, owns_stirs h.po hs (own_ne h.po hr ht.1), fun p hp => owns_stirs (h.data p hp) hs (own_ne (h.data p hp) hr ht.2.1), fun p hp => owns_stirs (h.rela p hp) hs (own_ne (h.rela p hp) hr ht.2.2.1), owns_stirs h.so hs (own_ne h.so hr ht.2.2.2)⟩
theorem ObjMn.grown {w w' : World} {base m n e size : Nat} {v : Value} {xs : List Value} {o : ObjM} {PL : List (PartM × Value × Value)} {pv sv : Value} (h : ObjMn w base o PL pv sv) (hr : w.ownsRow m e size v n xs) (ht : 70 ≠ e ∧ 5 ≠ e ∧ 86 ≠ e ∧ 44 ≠ e) (hg : w.grownBy w' v.ownBlock) : ObjMn w' base o PL pv sv :=
  ⟨h.parts, owns_grown h.po hg (fun _ hk hk2 => Go.Fd.own_apart h.po hr ht.1 hk hk2), fun p hp => owns_grown (h.data p hp) hg (fun _ hk hk2 => Go.Fd.own_apart (h.data p hp) hr ht.2.1 hk hk2), fun p hp => owns_grown (h.rela p hp) hg (fun _ hk hk2 => Go.Fd.own_apart (h.rela p hp) hr ht.2.2.1 hk hk2), owns_grown h.so hg (fun _ hk hk2 => Go.Fd.own_apart h.so hr ht.2.2.2 hk hk2)⟩
/-- While a module is copied: the copy stands in block g, the result's block is r, the module is in block b. -/
structure CopO (w wr : World) (g r b : Nat) (bx : Array Value) (tg : Int) (pc sv : Value) (T : List (PartM × Value × Value)) (Y : List SymM) : Prop where
  blk : wr.heap[g]? = some (.cells #[.int .i64 tg, pc, sv] 36 (0, 0))
  res : wr.heap[r]? = some (.cells objZ 36 (0, 0))
  box : wr.heap[b]? = some (.cells bx 36 (0, 0))
  po : OwR 6 encPart 70 wr w.heap.size pc T
  so : OwR 6 encSym 44 wr w.heap.size sv Y
  data : ∀ p ∈ T, OB wr w.heap.size p.2.1 p.1.data
  rela : ∀ p ∈ T, OwR 4 encRela 86 wr w.heap.size p.2.2 p.1.relas
  below : Below w.heap.size w wr
  hg : w.heap.size ≤ g
  hr : w.heap.size ≤ r
  ne : r ≠ g
  nb : b ≠ g
  nr : b ≠ r
theorem CopO.mono {w wr w' : World} {g r b : Nat} {bx : Array Value} {tg : Int} {pc sv : Value} {T : List (PartM × Value × Value)} {Y : List SymM} (h : CopO w wr g r b bx tg pc sv T Y) (hb : Below wr.heap.size wr w') : CopO w w' g r b bx tg pc sv T Y :=
  ⟨heap_below hb h.blk, heap_below hb h.res, heap_below hb h.box, h.po.mono hb, h.so.mono hb, fun p hp => (h.data p hp).mono hb, fun p hp => (h.rela p hp).mono hb, h.below.trans (hb.mono h.below.size), h.hg, h.hr, h.ne, h.nb, h.nr⟩
theorem CopO.push {w wr w1 w2 : World} {g r b : Nat} {bx : Array Value} {tg : Int} {pc pc' sv : Value} {T : List (PartM × Value × Value)} {Y : List SymM} {x : PartM × Value × Value} (h : CopO w wr g r b bx tg pc sv T Y) (ho : OwR 6 encPart 70 w1 w.heap.size pc' (T ++ [x])) (hgr : wr.grownBy w1 pc.ownBlock) (hd : OB wr w.heap.size x.2.1 x.1.data) (hr : OwR 4 encRela 86 wr w.heap.size x.2.2 x.1.relas)
    (hb : w2.heap[g]? = some (.cells (#[.int .i64 tg, pc, sv].setIfInBounds 1 pc') 36 (0, 0))) (hs : Stirs (fun k => k = g) w1 w2) : CopO w w2 g r b bx tg pc' sv (T ++ [x]) Y := by
  have hk := keeps_own h.po hgr
  have hB : Below w.heap.size w w1 := h.below.trans (below_of_grown hgr h.below.size fun k hk => (World.ownsRow.lt h.po k hk).1)
  have hblk := hk _ _ _ _ (show 36 ≠ 70 by decide) h.blk
  have hres := hk _ _ _ _ (show 36 ≠ 70 by decide) h.res
  have hbox := hk _ _ _ _ (show 36 ≠ 70 by decide) h.box
  have hso := owns_grown h.so hgr (fun k hk hk2 => Go.Fd.own_apart h.so h.po (by decide) hk hk2)
  refine ⟨hb, hs.kept hres h.ne, hs.kept hbox h.nb, owns_stirs ho hs (own_ne ho hblk (by decide)), owns_stirs hso hs (own_ne hso hblk (by decide)), fun p hp => ?_, fun p hp => ?_, hB.trans (hs.below hB.size fun k hk => by rw [hk]; exact h.hg), h.hg, h.hr, h.ne, h.nb, h.nr⟩
  · have h0 : OB wr w.heap.size p.2.1 p.1.data := by
      rcases List.mem_append.1 hp with hp | hp
      · exact h.data p hp
      · rw [List.mem_singleton] at hp; rw [hp]; exact hd
    have h1 := owns_grown h0 hgr (fun k hk hk2 => Go.Fd.own_apart h0 h.po (by decide) hk hk2)
    exact owns_stirs h1 hs (own_ne h1 hblk (by decide))
  · have h0 : OwR 4 encRela 86 wr w.heap.size p.2.2 p.1.relas := by
      rcases List.mem_append.1 hp with hp | hp
      · exact h.rela p hp
      · rw [List.mem_singleton] at hp; rw [hp]; exact hr
    have h1 := owns_grown h0 hgr (fun k hk hk2 => Go.Fd.own_apart h0 h.po (by decide) hk hk2)
    exact owns_stirs h1 hs (own_ne h1 hblk (by decide))
def YByO (B : Nat) (l : List UInt8) : Yld := ⟨Option Addr × Nat × Nat, (none, 0, 0), fun q => .slice q.1 q.2.1 q.2.2, fun q w => OB w B (.slice q.1 q.2.1 q.2.2) l, fun _ _ _ h hb => h.mono hb⟩
theorem YByO_got {B : Nat} {l : List UInt8} {a : Option Addr} {n c : Nat} {w : World} (h : (YByO B l).R (.slice a n c) w) : OB w B (.slice a n c) l := by
  obtain ⟨⟨a', n', c'⟩, e, h⟩ := h
  have e' : Value.slice a n c = .slice a' n' c' := e
  rw [e']
  exact h
def YReO (B : Nat) (l : List RelaM) : Yld := ⟨Option Addr × Nat × Nat, (none, 0, 0), fun q => .slice q.1 q.2.1 q.2.2, fun q w => OwR 4 encRela 86 w B (.slice q.1 q.2.1 q.2.2) l, fun _ _ _ h hb => h.mono hb⟩
theorem YReO_got {B : Nat} {l : List RelaM} {a : Option Addr} {n c : Nat} {w : World} (h : (YReO B l).R (.slice a n c) w) : OwR 4 encRela 86 w B (.slice a n c) l := by
  obtain ⟨⟨a', n', c'⟩, e, h⟩ := h
  have e' : Value.slice a n c = .slice a' n' c' := e
  rw [e']
  exact h
/-- The part that is copied stands in block g. -/
structure PartS (w : World) (B : Nat) (p : PartM) (d r : Value) (wx : World) : Prop where
  blk : wx.heap[B]? = some (.cells #[S p.name, S p.flags, .int .i64 p.align, .int .i64 p.size, d, r] 70 (0, 0))
  below : Below w.heap.size w wx
  lo : w.heap.size ≤ B
theorem PartS.mono {w wx wy : World} {B : Nat} {p : PartM} {d r : Value} (h : PartS w B p d r wx) (hb : Below wx.heap.size wx wy) : PartS w B p d r wy := ⟨heap_below hb h.blk, h.below.trans (hb.mono h.below.size), h.lo⟩
theorem PartS.store {w wx wy : World} {B : Nat} {p : PartM} {d r d' r' : Value} (h : PartS w B p d r wx) (hh : wy.heap[B]? = some (.cells #[S p.name, S p.flags, .int .i64 p.align, .int .i64 p.size, d', r'] 70 (0, 0))) (hs : Stirs (fun k => k = B) wx wy) : PartS w B p d' r' wy :=
  ⟨hh, h.below.trans (hs.below h.below.size fun k hk => by rw [hk]; exact h.lo), h.lo⟩
set_option maxHeartbeats 8000000 in
set_option maxRecDepth 100000 in
theorem copiedR_any (o : ObjM) (L : List (PartM × Value × Value)) (pv sv : Value) (w : World) (h : ObjAt w o L pv sv) (hp : o.parts.length ≤ 100000) (hs : o.syms.length ≤ 100000) (hd : ∀ p ∈ o.parts, p.data.length ≤ 1000000000 ∧ p.relas.length ≤ 1000000) :
    Calls Try.prog 19 #[objV o pv sv] w fun e w' => (∃ M pa pn pc sa sn sc, e = .returned (objV o (.slice pa pn pc) (.slice sa sn sc)) ∧ ObjMn w' w.heap.size o M (.slice pa pn pc) (.slice sa sn sc)) ∧ Below w.heap.size w w' := by
  have HH := Lib.hid h
  obtain ⟨pa, pc, rfl, hpc, -, hP⟩ := h.rd.open (fun _ => rfl)
  have HSY := Lib.hid h.syms
  obtain ⟨sn, sa, sc, -, rfl, -, -⟩ := h.syms.shape
  have HP := Lib.hid hP
  have hLn : L.length = o.parts.length := by rw [h.parts, List.length_map]
  have HLP := Lib.hid h.parts
  have HDD := Lib.hid hd
  have HSL := Lib.hid hs
  obtain ⟨target, parts, syms⟩ := o
  dsimp only at *
  rw [hLn] at hpc ⊢
  obtain ⟨np, hnp⟩ : ∃ n, n = parts.length := ⟨_, rfl⟩
  rw [← hnp] at hpc hp hLn ⊢
  have HNP := Lib.hid hnp
  have HLN := Lib.hid hLn
  clear h hP hLn hnp hs hd
  go_enter Try.func19, Try.ntmps19
  go_wp2_with (first
    | ((with_reducible show wpList _ _ _ (⟨some 1, .box _ _, _, _, _, _⟩ :: _) _ _); go_must (refine wpList_box rfl ?_; intro w1 hx1 hb1 hs1; have HX1 := Lib.hid hx1; have HB1 := Lib.hid hb1; clear hx1 hb1))
    | ((with_reducible show wpList _ _ _ (⟨some 2, .alloc _, _, _, _, _⟩ :: _) _ _); go_must (refine wpList_allocObj ?_; intro w2 hx2 hb2 hs2; have HR2 := Lib.hid hx2; have HX2 := Lib.hid (heap_below hb2 HX1.out); have HB2 := Lib.hid (HB1.out.trans (hb2.mono HB1.out.size)); obtain ⟨c0, c1, c2⟩ := obj_box HX2.out; clear hx2 hb2)))
  have hAB := fun (x : Above w2) (b k : Nat) (h : b < w2.heap.size) => Above.cell x b k h
  have l0 := block_lt c0
  refine wp_region_walk 7 [(4, YSyO w2.heap.size syms), (6, Yld.new w2.heap.size 36 3)] (by kernel_rfl) (by kernel_rfl) ?_
  simp only [List.take_succ_cons, List.take_zero, List.drop_succ_cons, List.drop_zero]
  iterate 4 (refine walk_quiet rfl rfl rfl ?_; intro K hK; go_big_quiet_op; go_big_quiet_on)
  refine walk_made rfl rfl (fun wx hwx _ => WpYld.call (run_callL (vals := [_]) Try.func30 (by kernel_rfl) rfl rfl) ((cloneSym_any syms _ wx (by have := HSL.out; omega) (HSY.out.mono (HB2.out.trans (hwx.mono HB2.out.size)))).mono fun r w' ⟨⟨a9, n9, c9, h1, h2⟩, h3⟩ => ⟨_, h1, ⟨(a9, n9, c9), rfl, OwR.rebase h2 hwx.size⟩, h3⟩)) ?_
  rintro ⟨ea, en, ec⟩
  show walk _ _ _ _ _ _ _ _ (Act.put _ _ (.slice ea en ec))
  go_frame
  repeat (refine walk_quiet rfl rfl rfl ?_; intro K hK; go_big_quiet_op; go_big_quiet_on)
  refine walk_new rfl rfl (fun wx hwx _ => WpYld.val run_allocObj (Yld.new_mk _ hwx).1 (Yld.new_mk _ hwx).2) (fun gb => ?_)
  go_frame
  refine walk_nil ?_
  intro wz hbz hF
  have hso := YSyO_got (hF 4 _ 10 _ rfl rfl rfl rfl)
  obtain ⟨hgb, cs, hcs, hcn⟩ := Yld.new_got (hF 6 _ 3 _ rfl rfl rfl rfl)
  clear hF hAB c0 c1 c2
  refine wpList_storeObjS hcs rfl rfl (by rw [hcn]; rfl) rfl (by simp [Value.oneCell']) ?_
  intro w3 hh3 hs3
  have hb3 := hs3.below hbz.size (B := w2.heap.size) (fun k hk => by rw [hk]; exact hgb)
  have HI := Lib.hid (show CopO w w3 gb w1.heap.size w.heap.size #[.int .i64 target, .slice pa np pc, .slice sa sn sc] target (.slice none 0 0) (.slice ea en ec) [] syms from
    ⟨hh3, heap_base hb3 (heap_below hbz HR2.out) hs2, heap_base hb3 (heap_below hbz HX2.out) l0, OwR.nil _ _ _ _ _, OwR.rebase (owns_stirs hso hs3 (own_ne hso hcs (by decide))) HB2.out.size, (fun p hp => by cases hp), (fun p hp => by cases hp), HB2.out.trans ((hbz.trans hb3).mono HB2.out.size), Nat.le_trans HB2.out.size hgb, HB1.out.size, by omega, by omega, by omega⟩)
  have hgw : w.heap.size ≤ gb := Nat.le_trans HB2.out.size hgb
  clear hcs hcn hh3 hs3 hb3 hso hbz hgb
  obtain ⟨c0, c1, c2⟩ := obj_box HI.out.box
  go_wp2
  clear c0 c1 c2
  go_loopw [15] (fun i wr => ∃ (k : Nat) (qa : Option Addr) (qn qc : Nat) (T : List (PartM × Value × Value)), i = .int .i64 k ∧ k ≤ np ∧ Hid (CopO w wr gb w1.heap.size w.heap.size #[.int .i64 target, .slice pa np pc, .slice sa sn sc] target (.slice qa qn qc) (.slice ea en ec) T syms) ∧ Hid (T.map (·.1) = parts.take k)) (fun i _ => np - (intOf i).toNat)
  case atStart => exact ⟨0, none, 0, 0, [], rfl, Nat.zero_le _, HI.out, rfl⟩
  case round =>
    obtain ⟨k, qa, qn, qc, T, rfl, hk, HIr, HTM⟩ := hrel
    have hbs := HIr.out.below.size
    obtain ⟨c0, c1, c2⟩ := obj_box HIr.out.box
    by_cases hlt : k < np
    · obtain ⟨x, hx⟩ : ∃ x, L[k]? = some x := ⟨_, List.getElem?_eq_getElem (by have := HLN.out; omega)⟩
      obtain ⟨b, o, rfl, e0, e1, e2, e3, e4, e5, hb0⟩ := part_cells HP.out HIr.out.below hx
      have hxp : parts[k]? = some x.1 := by rw [HLP.out, List.getElem?_map, hx]; rfl
      have HTK := Lib.hid (show parts.take (k + 1) = parts.take k ++ [x.1] by rw [List.take_add_one, hxp]; rfl)
      have HBD := Lib.hid (HH.out.data x (List.mem_of_getElem? hx))
      have HRD := Lib.hid (HH.out.rela x (List.mem_of_getElem? hx))
      have HDP := Lib.hid (HDD.out x.1 (List.mem_of_getElem? hxp))
      have htl : T.length ≤ 100000 := by
        have h1 := congrArg List.length HTM.out
        rw [List.length_map, List.length_take] at h1
        omega
      obtain ⟨md, ad, cd, -, hdv, -, -⟩ := HBD.out.shape
      obtain ⟨mr, ar, cr, -, hrv, -, -⟩ := HRD.out.shape
      obtain ⟨p, dv, rv⟩ := x
      dsimp only at *
      subst hdv hrv
      clear hx hxp
      go_wp2_with ((with_reducible show wpList _ _ _ (⟨none, .store _ (.tmp 5) _, _, _, _, _⟩ :: _) _ _); go_must (refine wpList_storeNew rfl rfl (by kernel_rfl) rfl (by simp [Value.oneCell']) ?_; intro w4 hh4 hb4; have HH4 := Lib.hid hh4; have HB4 := Lib.hid hb4; have hz4 := block_lt (cell_rec hh4 0 |>.trans rfl); clear hh4 hb4))
      have HP4 := Lib.hid (show PartS w wr.heap.size p (.slice ad md cd) (.slice ar mr cr) w4 from ⟨HH4.out, HIr.out.below.trans (HB4.out.mono hbs), hbs⟩)
      have HPR : Hid (∀ (wy : World), Below w.heap.size w wy → Bs wy (.slice ad md cd) p.data ∧ RdR 4 encRela wy (.slice ar mr cr) p.relas) := Lib.hid fun wy hb => ⟨HBD.out.mono hb, HRD.out.mono hb⟩
      have hAB := fun (x : Above w4) (b k : Nat) (h : b < w4.heap.size) => Above.cell x b k h
      obtain ⟨d0, d1, d2, d3, d4, d5⟩ := part_box (x := (p, .slice ad md cd, .slice ar mr cr)) HH4.out
      clear d0 d1 d2 d3
      refine wp_region_walk 7 [(2, YByO w.heap.size p.data), (5, YReO w.heap.size p.relas)] (by kernel_rfl) (by kernel_rfl) ?_
      simp only [List.take_succ_cons, List.take_zero, List.drop_succ_cons, List.drop_zero]
      try go_frame
      iterate 2 (refine walk_quiet rfl rfl rfl ?_; intro K hK; go_big_quiet_op; go_big_quiet_on)
      refine walk_made rfl rfl (fun wx hwx _ => WpYld.call (run_callL (vals := [_]) Try.func31 (by kernel_rfl) rfl rfl) ((clone_any p.data (.slice ad md cd) wx HDP.out.1 (HPR.out wx (HP4.out.mono hwx).below).1).mono fun r w' ⟨⟨u, h1, h2⟩, h3⟩ => by
        obtain ⟨m, a, c, -, rfl, -, -⟩ := h2.shape
        exact ⟨_, h1, ⟨(a, m, c), rfl, h2.base (Nat.le_trans hbs (Nat.le_of_lt (Nat.lt_of_lt_of_le hz4 hwx.size)))⟩, h3⟩)) ?_
      rintro ⟨aD, mD, cD⟩
      show walk _ _ _ _ _ _ _ _ (Act.put _ _ (.slice aD mD cD))
      go_frame
      iterate 2 (refine walk_quiet rfl rfl rfl ?_; intro K hK; go_big_quiet_op; go_big_quiet_on)
      refine walk_made rfl rfl (fun wx hwx _ => WpYld.call (run_callL (vals := [_]) Try.func32 (by kernel_rfl) rfl rfl) ((cloneRela_any p.relas (.slice ar mr cr) wx HDP.out.2 (HPR.out wx (HP4.out.mono hwx).below).2).mono fun r w' ⟨⟨a, m, c, h1, h2⟩, h3⟩ => ⟨_, h1, ⟨(a, m, c), rfl, OwR.rebase h2 (Nat.le_trans hbs (Nat.le_of_lt (Nat.lt_of_lt_of_le hz4 hwx.size)))⟩, h3⟩)) ?_
      rintro ⟨aR, mR, cR⟩
      show walk _ _ _ _ _ _ _ _ (Act.put _ _ (.slice aR mR cR))
      go_frame
      iterate 1 (refine walk_quiet rfl rfl rfl ?_; intro K hK; go_big_quiet_op; go_big_quiet_on)
      refine walk_nil ?_
      intro wz hbz hF
      have HD := Lib.hid (YByO_got (hF 2 _ 21 _ rfl rfl rfl rfl))
      have HR := Lib.hid (YReO_got (hF 5 _ 24 _ rfl rfl rfl rfl))
      have HPz := Lib.hid (HP4.out.mono hbz)
      have HBz := Lib.hid (HB4.out.trans (hbz.mono HB4.out.size))
      clear hF hAB d4 d5
      go_wp2_with (first
        | ((with_reducible show wpList _ _ _ (⟨none, .store _ (.tmp 25) _, _, _, _, _⟩ :: _) _ _); go_must (refine wpList_set HPz.out.blk (Nat.lt_of_lt_of_eq (show 4 < 6 by decide) rfl) rfl rfl (Nat.le_refl _) HBz.out.size (fun w => by kernel_rfl) ?_; intro w5 hh5 hb5 hs5; have HP5 := Lib.hid (PartS.store (d' := .slice aD mD cD) (r' := .slice ar mr cr) HPz.out hh5 hs5); have HD5 := Lib.hid (owns_stirs HD.out hs5 (own_ne HD.out HPz.out.blk (by decide))); have HR5 := Lib.hid (owns_stirs HR.out hs5 (own_ne HR.out HPz.out.blk (by decide))); have HB5 := Lib.hid (HBz.out.trans hb5); clear hh5 hb5 hs5))
        | ((with_reducible show wpList _ _ _ (⟨none, .store _ (.tmp 26) _, _, _, _, _⟩ :: _) _ _); go_must (refine wpList_set HP5.out.blk (Nat.lt_of_lt_of_eq (show 5 < 6 by decide) rfl) rfl rfl (Nat.le_refl _) HB5.out.size (fun w => by kernel_rfl) ?_; intro w6 hh6 hb6 hs6; have HP6 := Lib.hid (PartS.store (d' := .slice aD mD cD) (r' := .slice aR mR cR) HP5.out hh6 hs6); have HD6 := Lib.hid (owns_stirs HD5.out hs6 (own_ne HD5.out HP5.out.blk (by decide))); have HR6 := Lib.hid (owns_stirs HR5.out hs6 (own_ne HR5.out HP5.out.blk (by decide))); have HI8 := Lib.hid (HIr.out.mono (HB5.out.trans hb6)); obtain ⟨d0, d1, d2, d3, d4, d5⟩ := part_box (x := (p, .slice aD mD cD, .slice aR mR cR)) HP6.out.blk; obtain ⟨z0, z1, z2⟩ := obj_box HI8.out.blk; clear hh6 hb6 hs6))
        | ((with_reducible show wpList _ _ _ (⟨some 31, _, _, _, _, _⟩ :: _) _ _); go_must (refine wpList_pushR TPart HI8.out.po rfl rfl ((p, .slice aD mD cD, .slice aR mR cR) : PartM × Value × Value) rfl rfl rfl (by omega) (by omega) HI8.out.below.size ?_; intro v9 w9 hv9 hg9 hb9; have HG9 := Lib.hid hg9; have HBL := Lib.hid (keeps_own HI8.out.po hg9 _ _ _ _ (show 36 ≠ 70 by decide) HI8.out.blk); have hsz9 : w.heap.size ≤ w9.heap.size := Nat.le_trans HI8.out.below.size hb9.size; obtain ⟨m9, q9, r9, -, rfl, _, _⟩ := hv9.shape; have HVV := Lib.hid hv9; clear hv9 hg9 hb9))
        | ((with_reducible show wpList _ _ _ (⟨none, .store _ (.tmp 32) _, _, _, _, _⟩ :: _) _ _); go_must (refine wpList_set HBL.out (show 1 < 3 by decide) rfl rfl hgw hsz9 (fun w => by kernel_rfl) ?_; intro wA hhA hbA hsA; have HIA := Lib.hid (CopO.push (x := (p, .slice aD mD cD, .slice aR mR cR)) HI8.out HVV.out HG9.out HD6.out HR6.out hhA hsA); clear hhA hbA hsA)))
      go_roundw
      case rel => exact ⟨k + 1, q9, m9, r9, T ++ [(p, .slice aD mD cD, .slice aR mR cR)], by go_num, by omega, HIA, by show (T ++ _).map (·.1) = _; rw [HTK.out, List.map_append, HTM.out]; rfl⟩
      case measure => simp [intOf] <;> omega
    · obtain rfl : k = np := by omega
      have HTE : Hid (T.map (·.1) = parts) := by
        have h1 := HTM.out
        rwa [List.take_of_length_le (by have := HNP.out; omega)] at h1
      obtain ⟨z0, z1, z2⟩ := obj_box HIr.out.blk
      go_wp2_with ((with_reducible show wpList _ _ _ (⟨none, .store _ (.tmp 2) _, _, _, _, _⟩ :: _) _ _); go_must (refine wpList_storeObjS HIr.out.res rfl rfl rfl rfl (by simp [Value.oneCell']) ?_; intro w7 hh7 hs7; have HH7 := Lib.hid hh7; have HS7 := Lib.hid hs7; have HB7 := Lib.hid (HIr.out.below.trans (hs7.below HIr.out.below.size (fun k hk => by rw [hk]; exact HB1.out.size))); clear hh7 hs7))
      have HMN : Hid (ObjMn w7 w.heap.size ⟨target, parts, syms⟩ T (.slice qa qn qc) (.slice ea en ec)) := ObjMn.stir ⟨HTE.out.symm, HIr.out.po, HIr.out.data, HIr.out.rela, HIr.out.so⟩ HIr.out.res (by decide) HS7.out
      exact bodyPost_ret (results_cell_row rfl _ _ w1.heap.size _ _ _ _ rfl HH7.out rfl rfl (by kernel_rfl)) rfl ⟨⟨T, qa, qn, qc, ea, en, ec, rfl, HMN.out⟩, HB7.out⟩
end Go.Proofs.Ytnhbgijecdeahaa
