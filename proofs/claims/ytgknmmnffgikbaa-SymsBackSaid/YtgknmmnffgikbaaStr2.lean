/-
  Tables of names are built: strs.Build.
-/
import Derived.Test.YtgknmmnffgikbaaStr1
import Derived.Test.YtgknmmnffgikbaaMap
namespace Go.Proofs.Ytgknmmnffgikbaa
open Go.RowKit Go.Fd

abbrev I64 (n : Nat) : Value := .int .i64 (n : Int)
theorem TI : SliceT Try.prog 26 3 1 8 := SliceT.mk' (z := .int .i64 0) (by kernel_rfl) (by kernel_rfl) rfl (by omega)

/-- A name's place in a list of them. -/
abbrev lkp {κ ν : Type} [DecidableEq κ] (E : List (κ × ν)) (x : κ) : Option ν := @List.lookup κ ν instBEqOfDecidableEq x E

/-- A table under way: its bytes, the places of names, what is told. -/
structure Tab where
  tab : List UInt8
  at_ : List (List UInt8 × Nat)
  out : List Nat
def stepB (t : Tab) (s : List UInt8) : Tab := match lkp t.at_ s with
  | some p => ⟨t.tab, t.at_, t.out ++ [p]⟩
  | none => ⟨t.tab ++ s ++ [0], t.at_ ++ [(s, t.tab.length)], t.out ++ [t.tab.length]⟩
def startB : Tab := ⟨[0], [([], 0)], []⟩
def buildT (names : List (List UInt8)) : Tab := names.foldl stepB startB
def buildR (names : List (List UInt8)) : List UInt8 × List Nat × Int :=
  if names.all mayS = true then (if 1048576 < (buildT names).tab.length then ([], [], 6) else ((buildT names).tab, (buildT names).out, 0)) else ([], [], 7)

theorem buildT_snoc (l : List (List UInt8)) (s : List UInt8) : buildT (l ++ [s]) = stepB (buildT l) s := by simp [buildT]
theorem step_len (t : Tab) (s : List UInt8) : (stepB t s).tab.length ≤ t.tab.length + s.length + 1 ∧ (stepB t s).out.length = t.out.length + 1 ∧ (stepB t s).at_.length ≤ t.at_.length + 1 := by
  unfold stepB
  split <;> simp <;> omega
theorem buildT_len (l : List (List UInt8)) (h : ∀ s ∈ l, s.length ≤ 128) : (buildT l).tab.length ≤ 1 + 129 * l.length ∧ (buildT l).out.length = l.length ∧ (buildT l).at_.length ≤ 1 + l.length := by
  unfold buildT
  have : ∀ (l : List (List UInt8)) (t : Tab), (∀ s ∈ l, s.length ≤ 128) → (l.foldl stepB t).tab.length ≤ t.tab.length + 129 * l.length ∧ (l.foldl stepB t).out.length = t.out.length + l.length ∧ (l.foldl stepB t).at_.length ≤ t.at_.length + l.length := by
    intro l
    induction l with
    | nil => intro t _; simp
    | cons s l ih =>
      intro t h
      have h1 := step_len t s
      have h2 := ih (stepB t s) (fun x hx => h x (by simp [hx]))
      have h3 := h s (by simp)
      rw [List.foldl_cons, List.length_cons]
      omega
  have h1 := this l startB h
  have e1 : startB.tab.length = 1 := rfl
  have e2 : startB.out.length = 0 := rfl
  have e3 : startB.at_.length = 1 := rfl
  omega

def entE (p : List UInt8 × Nat) : List UInt8 × Value := (p.1, I64 p.2)
theorem lkp_map {κ ν ν' : Type} [DecidableEq κ] (f : ν → ν') (A : List (κ × ν)) (s : κ) : lkp (A.map fun p => (p.1, f p.2)) s = (lkp A s).map f := by
  induction A with
  | nil => rfl
  | cons p A ih =>
    obtain ⟨q, n⟩ := p
    unfold lkp at *
    rw [List.map_cons, List.lookup_cons, List.lookup_cons]
    by_cases h : s = q
    · simp [h]
    · rw [show (s == q) = false by simpa using h]
      exact ih
theorem lookup_ent (A : List (List UInt8 × Nat)) (s : List UInt8) : lkp (A.map entE) s = (lkp A s).map I64 := lkp_map I64 A s
theorem putE_ent {A : List (List UInt8 × Nat)} {s : List UInt8} (h : lkp A s = none) (n : Nat) : putE (A.map entE) s (I64 n) = (A ++ [(s, n)]).map entE := by
  rw [putE, if_neg, List.map_append]
  · rfl
  · intro hm
    obtain ⟨v, hv⟩ := lookup_key.2 hm
    have hv2 : lkp (A.map entE) s = some v := hv
    rw [lookup_ent, h] at hv2
    cases hv2

theorem lkp_app {κ ν : Type} [DecidableEq κ] {A : List (κ × ν)} {s : κ} (h : lkp A s = none) (n : ν) : lkp (A ++ [(s, n)]) s = some n := by
  induction A with
  | nil => simp [lkp]
  | cons p A ih =>
    obtain ⟨q, x⟩ := p
    unfold lkp at *
    rw [List.lookup_cons] at h
    rw [List.cons_append, List.lookup_cons]
    by_cases e : s = q
    · rw [show (s == q) = true by simpa using e] at h
      cases h
    · rw [show (s == q) = false by simpa using e] at h ⊢
      exact ih h
theorem own_noMap' {κ : Type} {mk : κ → Value} {w : World} {base e size n : Nat} {v : Value} {xs : List Value} {P : Program} {k : TypeId} {b : Nat} {E : List (κ × Value)} (h : w.ownsRow base e size v n xs) (hm : MapIs P k mk w b E) : some b ≠ v.ownBlock := by
  obtain ⟨es, c, hb, _⟩ := hm
  exact fun e => own_noMap h hb e.symm

theorem TMS : KeyT Try.prog 80 9 3 S := ⟨by kernel_rfl, Maps.string_keyed (by kernel_rfl), fun a b h => by simpa [S] using h⟩
theorem zeroI (w : World) : (zeroValue 3).run Try.prog w = .ok (.int .i64 0) w := by kernel_rfl
theorem keyS (s : List UInt8) (h : s.length ≤ 128) : ∃ l, keyOf Try.prog 9 (S s) = some l := ⟨_, Go.WideMaps.keyOf_string_mk (by kernel_rfl) (by rw [sizeS]; unfold maxLen; omega)⟩

set_option maxRecDepth 100000 in
set_option maxHeartbeats 1000000 in
theorem build_any (names : List (List UInt8)) (v : Value) (w : World) (hn : names.length ≤ 100000) (hv : Rd S w v names) :
    Calls Try.prog 17 #[v] w fun e w' => ∃ v1 v2, e = .returned (.tuple #[v1, v2, .int .i64 (buildR names).2.2]) ∧ OB w' w.heap.size v1 (buildR names).1 ∧ Ow I64 3 w' w.heap.size v2 (buildR names).2.1 ∧ Below w.heap.size w w' := by
  have HV := Lib.hid hv
  obtain ⟨m, ad, cap, hm, rfl, hmc, _⟩ := hv.shape
  have hm' : m ≤ 100000 := by have := hm.out; omega
  have hmm := @run_makeMap Try.prog
  obtain ⟨k0, hk0⟩ := keyS [] (by simp)
  have hmd := MapIs.made (P := Try.prog) (k := 9) (mk := S) (w.alloc (.cells #[.int .u8 0] 5))
  rw [World.size_alloc] at hmd
  have HMD := Lib.hid hmd
  clear hmd
  go_enter Try.func17, Try.ntmps17
  go_wp2_with (with_reducible show wpList _ _ _ (⟨_, .insert _ _ _ _, _, _, _, _⟩ :: _) _ _; go_must (refine wpList_insertM TMS HMD.out (by unfold maxLen; simp) (key := []) hk0 rfl rfl rfl ?_; intro w1 hm1 hg1 hs1))
  have hbm := hm1.lt
  have HB0 : Hid (Below w.heap.size w w1) := by
    refine ((below_alloc w (.cells #[.int .u8 0] 5)).trans ((below_alloc (w.alloc (.cells #[.int .u8 0] 5)) (.map #[] 0)).mono (by simp))).trans (below_of_grown hg1 (by simp; omega) fun k hk => by cases hk; omega)
  have hob : OB (w.alloc (.cells #[.int .u8 0] 5)) w.heap.size (.slice (some ⟨w.heap.size, 0, none⟩) 1 1) [0] := ob_lit w [0] _ 1 rfl rfl (by omega)
  have HOB := Lib.hid (show OB w1 w.heap.size (.slice (some ⟨w.heap.size, 0, none⟩) 1 1) [0] from owns_grown (hob.mono (below_alloc _ _)) hg1 fun k hk h => by simp only [Value.ownBlock, Option.some.injEq] at hk h; omega)
  have HM1 := Lib.hid hm1
  clear hm1 hg1 hs1 hob
  go_loopw [5, 7, 17] (fun vt vl i wr => ∃ k : Nat, i = .int .i64 k ∧ k ≤ m ∧ Hid ((names.take k).all mayS = true) ∧ Hid (OB wr w.heap.size vt (buildT (names.take k)).tab) ∧ Hid (Ow I64 3 wr w.heap.size vl (buildT (names.take k)).out) ∧
    Hid (MapIs Try.prog 9 S wr (w.heap.size + 1) ((buildT (names.take k)).at_.map entE)) ∧ Hid (Below w.heap.size w wr)) (fun _ _ i _ => m - (intOf i).toNat)
  case atStart => exact ⟨0, rfl, Nat.zero_le _, rfl, HOB.out, Ow.nil _ _ _ _, HM1.out, HB0.out⟩
  case round =>
    obtain ⟨k, rfl, hk, HALL, HOW, HOL, HMP, HB⟩ := hrel
    by_cases hlt : k < m
    · obtain ⟨ad', cap', e1, _, _, hc⟩ := (HV.out.mono HB.out).open []
      simp only [Value.slice.injEq] at e1
      obtain ⟨rfl, -, rfl⟩ := e1
      obtain ⟨b, off, rfl, hcell⟩ := hc k (by have := hm.out; omega)
      have HT := Lib.hid (take_snoc' names k (names[k]?.getD []) (by rw [List.getElem?_eq_getElem (by have := hm.out; omega)]; rfl))
      clear hc
      generalize names[k]?.getD [] = s at *
      cases hmay : mayS s with
      | false =>
        have HR := Lib.hid (show buildR names = ([], [], 7) by
          unfold buildR
          rw [if_neg]
          intro hall
          have h1 : (names.take (k + 1)).all mayS = true := by
            rw [List.all_eq_true] at hall ⊢
            exact fun x hx => hall x (List.mem_of_mem_take hx)
          rw [HT.out, List.all_append] at h1
          simp [hmay] at h1)
        have HC := Lib.hid (strsMay_any s wr)
        rw [hmay] at HC
        clear hmay
        go_wp2_with (go_at_call 54; go_must (refine HC.out.mono ?_; rintro e w2 ⟨rfl, rfl⟩))
        go_ret3
        rw [HR.out]
        exact ⟨_, _, rfl, OB.nil _ _, Ow.nil _ _ _ _, HB.out⟩
      | true =>
        have HC := Lib.hid (strsMay_any s wr)
        rw [hmay] at HC
        have HLS := Lib.hid (mayS_len hmay)
        have HALL2 := Lib.hid (show (names.take (k + 1)).all mayS = true by rw [HT.out, List.all_append, HALL.out]; simp [hmay])
        have HLEN := Lib.hid (buildT_len (names.take k) (fun x hx => mayS_len (List.all_eq_true.1 HALL.out x hx)))
        have HKL := Lib.hid (show (names.take k).length = k by rw [List.length_take]; have := hm.out; omega)
        have HBT := Lib.hid (show buildT (names.take (k + 1)) = stepB (buildT (names.take k)) s by rw [HT.out, buildT_snoc])
        clear hmay
        obtain ⟨kl, hkl⟩ := keyS s HLS.out
        generalize buildT (names.take k) = t at *
        have hlenT : t.tab.length ≤ 12900001 := by have := HLEN.out.1; have := HKL.out; omega
        have hlenO : t.out.length ≤ 100000 := by have := HLEN.out.2.1; have := HKL.out; omega
        have hlenA : (t.at_.map entE).length < maxLen := by have := HLEN.out.2.2; have := HKL.out; rw [List.length_map]; unfold maxLen; omega
        have HLA := Lib.hid hlenA
        clear hlenA
        have hls := HLS.out
        have hBw : w.heap.size ≤ wr.heap.size := HB.out.size
        cases hlk : lkp t.at_ s with
        | some p =>
          have HK1 := Lib.hid (show lkp (t.at_.map entE) s = some (I64 p) by rw [lookup_ent, hlk]; rfl)
          have HL1 : Hid (lookV true (.int .i64 0) (lkp (t.at_.map entE) s) = .tuple #[I64 p, .bool true]) := congrArg (lookV true (.int .i64 0)) HK1.out
          have HL2 : Hid (lookV false (.int .i64 0) (lkp (t.at_.map entE) s) = I64 p) := congrArg (lookV false (.int .i64 0)) HK1.out
          have HST := Lib.hid (show stepB t s = ⟨t.tab, t.at_, t.out ++ [p]⟩ by unfold stepB; rw [hlk])
          clear hlk
          go_wp2_with (first
            | (go_at_call 54; go_must (refine HC.out.mono ?_; rintro e w2 ⟨rfl, rfl⟩))
            | ((with_reducible show wpList _ _ _ (⟨some 27, _, _, _, _, _⟩ :: _) _ _); go_must (refine wpList_lookM TMS HMP.out (zeroI _) hkl HL1.out rfl rfl ?_))
            | ((with_reducible show wpList _ _ _ (⟨some 44, _, _, _, _, _⟩ :: _) _ _); go_must (refine wpList_lookM TMS HMP.out (zeroI _) hkl HL2.out rfl rfl ?_))
            | ((with_reducible show wpList _ _ _ (⟨some 46, _, _, _, _, _⟩ :: _) _ _); go_must (refine wpList_pushE TI HOL.out rfl rfl p rfl rfl (by omega) (by omega) hBw ?_; intro v3 w3 hv3 hg3 hb3)))
          have ht : buildT (names.take (k + 1)) = ⟨t.tab, t.at_, t.out ++ [p]⟩ := HBT.out.trans HST.out
          have G1 : Hid (OB w3 w.heap.size u5 (buildT (names.take (k + 1))).tab) := by rw [ht]; exact owns_grown HOW.out hg3 (fun q hq h => own_apart HOW.out HOL.out (by decide) hq h)
          have G2 : Hid (Ow I64 3 w3 w.heap.size v3 (buildT (names.take (k + 1))).out) := by rw [ht]; exact hv3
          have G3 : Hid (MapIs Try.prog 9 S w3 (w.heap.size + 1) ((buildT (names.take (k + 1))).at_.map entE)) := by rw [ht]; exact HMP.out.kept hg3 (own_noMap' HOL.out HMP.out)
          have G4 := Lib.hid (HB.out.trans hb3)
          clear ht
          go_roundw
          case rel =>
            first
              | exact ⟨k + 1, by go_num, by omega, HALL2.out, G1.out, G2.out, G3.out, G4.out⟩
              | ((repeat apply Exists.intro); exact ⟨⟨k + 1, by go_num, by omega, HALL2.out, G1.out, G2.out, G3.out, G4.out⟩, rfl⟩)
          case measure => simp [intOf] <;> omega
        | none =>
          have HK1 := Lib.hid (show lkp (t.at_.map entE) s = none by rw [lookup_ent, hlk]; rfl)
          have HL1 : Hid (lookV true (.int .i64 0) (lkp (t.at_.map entE) s) = .tuple #[.int .i64 0, .bool false]) := congrArg (lookV true (.int .i64 0)) HK1.out
          have HPE := Lib.hid (putE_ent hlk t.tab.length)
          have HK2 := Lib.hid (show lkp ((t.at_ ++ [(s, t.tab.length)]).map entE) s = some (I64 t.tab.length) by rw [lookup_ent, lkp_app hlk]; rfl)
          have HL2 : Hid (lookV false (.int .i64 0) (lkp ((t.at_ ++ [(s, t.tab.length)]).map entE) s) = I64 t.tab.length) := congrArg (lookV false (.int .i64 0)) HK2.out
          have HST := Lib.hid (show stepB t s = ⟨t.tab ++ s ++ [0], t.at_ ++ [(s, t.tab.length)], t.out ++ [t.tab.length]⟩ by unfold stepB; rw [hlk])
          obtain ⟨mt, vta, capt, hmt, rfl, _, _⟩ := HOW.out.shape
          clear hlk
          go_wp2_with (first
            | (go_at_call 54; go_must (refine HC.out.mono ?_; rintro e w2 ⟨rfl, rfl⟩))
            | ((with_reducible show wpList _ _ _ (⟨some 27, _, _, _, _, _⟩ :: _) _ _); go_must (refine wpList_lookM TMS HMP.out (zeroI _) hkl HL1.out rfl rfl ?_))
            | (at_mapUpdate; go_must (refine wpList_storeM TMS HMP.out HLA.out (key := s) (val := I64 mt) hkl rfl rfl rfl ?_; intro w3 hm3 hg3 hs3; rw [hmt.out, HPE.out] at hm3; have hb3 := below_of_grown (B := w.heap.size) hg3 hBw (fun q hq => by cases hq; omega); have HM3 := Lib.hid hm3; have HO3 := Lib.hid (show OB w3 w.heap.size (.slice vta mt capt) t.tab from owns_grown HOW.out hg3 (fun q hq h => by cases h; exact own_noMap' HOW.out HMP.out hq.symm)); have HL3 := Lib.hid (show Ow I64 3 w3 w.heap.size u7 t.out from owns_grown HOL.out hg3 (fun q hq h => by cases h; exact own_noMap' HOL.out HMP.out hq.symm)); have hB3 : w.heap.size ≤ w3.heap.size := (by omega); clear hm3 hg3 hs3))
            | ((with_reducible show wpList _ _ _ (⟨some 38, _, _, _, _, _⟩ :: _) _ _); go_must (refine wpList_catS HO3.out rfl rfl (by omega) hB3 ?_; intro v4 w4 hv4 hg4 hb4; have HO4 := Lib.hid hv4; have HL4 := Lib.hid (show Ow I64 3 w4 w.heap.size u7 t.out from owns_grown HL3.out hg4 (fun q hq h => own_apart HL3.out HO3.out (by decide) hq h)); have HM4 := Lib.hid (HM3.out.kept hg4 (own_noMap' HO3.out HM3.out)); have hB4 : w.heap.size ≤ w4.heap.size := Nat.le_trans hB3 hg4.size; clear hv4 hg4))
            | ((with_reducible show wpList _ _ _ (⟨some 40, _, _, _, _, _⟩ :: _) _ _); go_must (refine wpList_pushB HO4.out rfl rfl 0 rfl (by simp; omega) hB4 ?_; intro v5 w5 hv5 hg5 hb5; have HO5 := Lib.hid hv5; have HL5 := Lib.hid (show Ow I64 3 w5 w.heap.size u7 t.out from owns_grown HL4.out hg5 (fun q hq h => own_apart HL4.out HO4.out (by decide) hq h)); have HM5 := Lib.hid (HM4.out.kept hg5 (own_noMap' HO4.out HM4.out)); have hB5 : w.heap.size ≤ w5.heap.size := Nat.le_trans hB4 hg5.size; clear hv5 hg5))
            | ((with_reducible show wpList _ _ _ (⟨some 44, _, _, _, _, _⟩ :: _) _ _); go_must (refine wpList_lookM TMS HM5.out (zeroI _) hkl HL2.out rfl rfl ?_))
            | ((with_reducible show wpList _ _ _ (⟨some 46, _, _, _, _, _⟩ :: _) _ _); go_must (refine wpList_pushE TI HL5.out rfl rfl t.tab.length rfl rfl (by omega) (by omega) hB5 ?_; intro v6 w6 hv6 hg6 hb6)))
          have ht : buildT (names.take (k + 1)) = ⟨t.tab ++ s ++ [0], t.at_ ++ [(s, t.tab.length)], t.out ++ [t.tab.length]⟩ := HBT.out.trans HST.out
          have G1 : Hid (OB w6 w.heap.size v5 (buildT (names.take (k + 1))).tab) := by rw [ht]; exact owns_grown HO5.out hg6 (fun q hq h => own_apart HO5.out HL5.out (by decide) hq h)
          have G2 : Hid (Ow I64 3 w6 w.heap.size v6 (buildT (names.take (k + 1))).out) := by rw [ht]; exact hv6
          have G3 : Hid (MapIs Try.prog 9 S w6 (w.heap.size + 1) ((buildT (names.take (k + 1))).at_.map entE)) := by rw [ht]; exact HM5.out.kept hg6 (own_noMap' HL5.out HM5.out)
          have G4 := Lib.hid (HB.out.trans (hb3.trans (hb4.trans (hb5.trans hb6))))
          clear ht
          go_roundw
          case rel =>
            first
              | exact ⟨k + 1, by go_num, by omega, HALL2.out, G1.out, G2.out, G3.out, G4.out⟩
              | ((repeat apply Exists.intro); exact ⟨⟨k + 1, by go_num, by omega, HALL2.out, G1.out, G2.out, G3.out, G4.out⟩, rfl⟩)
          case measure => simp [intOf] <;> omega
    · have hkm : k = m := by omega
      have HKM := Lib.hid (show names.take k = names by rw [hkm, hm.out, List.take_length])
      rw [HKM.out] at HALL HOW HOL
      have HLN := Lib.hid (buildT_len names (fun x hx => mayS_len (List.all_eq_true.1 HALL.out x hx)))
      obtain ⟨mt, vta, capt, hmt, rfl, _, _⟩ := HOW.out.shape
      clear hkm
      by_cases hbig : 1048576 < mt
      · have HR := Lib.hid (show buildR names = ([], [], 6) by unfold buildR; rw [if_pos HALL.out, if_pos (by rw [← hmt.out]; exact hbig)])
        go_wp2
        go_ret3
        rw [HR.out]
        exact ⟨_, _, rfl, OB.nil _ _, Ow.nil _ _ _ _, HB.out⟩
      · have HR := Lib.hid (show buildR names = ((buildT names).tab, (buildT names).out, 0) by unfold buildR; rw [if_pos HALL.out, if_neg (by rw [← hmt.out]; exact hbig)])
        go_wp2
        go_ret3
        rw [HR.out]
        exact ⟨_, _, rfl, HOW.out, HOL.out, HB.out⟩
end Go.Proofs.Ytgknmmnffgikbaa
