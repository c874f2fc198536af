/-
  Symbols as bytes: written.
-/
import Derived.Test.YtgknmmnffgikbaaSym7
import Derived.Test.YtgknmmnffgikbaaStrBackP
namespace Go.Proofs.Ytgknmmnffgikbaa
open Go.RowKit Go.Fd

theorem TTexts : SliceT Try.prog 22 9 1 16 := SliceT.mk' (z := .string ⟨#[]⟩) (by kernel_rfl) (by kernel_rfl) rfl (by omega)

theorem ats_ok {names : List (List UInt8)} (h : (buildR names).2.2 = 0) (hl : names.length ≤ 1000) : (buildR names).2.1.length = names.length ∧ ∀ p ∈ (buildR names).2.1, p ≤ 130000 := by
  obtain ⟨h1, h2⟩ := build_ok h
  rw [List.all_eq_true] at h1
  have h3 := buildT_len names fun s hs => by have := h1 s hs; unfold mayS at this; simp at this; exact this.1
  have h4 := (build_bound names).1
  rw [h2]
  exact ⟨h3.2.1, fun p hp => by have := h4 p hp; have := h3.1; omega⟩

theorem names_step {l : List SymM} {k : Nat} {x : SymM} (h : l[k]? = some x) : (l.take (k + 1)).map (·.name) = (l.take k).map (·.name) ++ [x.name] := by
  rw [List.take_add_one, h]; simp
theorem flatz_step {l : List SymM} {m : List Nat} {k : Nat} {x : SymM} {p : Nat} (hx : l[k]? = some x) (hp : m[k]? = some p) : ((l.zip m).take (k + 1)).flatMap symB = ((l.zip m).take k).flatMap symB ++ symB (x, p) := by
  rw [zip_step hx hp]; simp
theorem flatz_len (L : List (SymM × Nat)) : (L.flatMap symB).length = L.length * 24 := flat_len' symB_len L

theorem shl4_run {w : World} {x y : Operand} {b : Int} (h0 : 0 ≤ b) (h2 : b ≤ 2) : (do eqGuard .shl 3 x y (.int .i64 b) (.int .u64 4); binOp .shl 3 (.int .i64 b) (.int .u64 4) : Sem Value).run Try.prog w = .ok (.int .i64 (16 * b)) w := by
  obtain rfl | rfl | rfl : b = 0 ∨ b = 1 ∨ b = 2 := by omega
  all_goals kernel_rfl
theorem or_run {w : World} {x y : Operand} {b t : Int} (h0 : 0 ≤ b) (h2 : b ≤ 2) (h3 : 0 ≤ t) (h4 : t ≤ 6) : (do eqGuard .or 3 x y (.int .i64 (16 * b)) (.int .i64 t); binOp .or 3 (.int .i64 (16 * b)) (.int .i64 t) : Sem Value).run Try.prog w = .ok (.int .i64 (16 * b + t)) w := by
  obtain rfl | rfl | rfl : b = 0 ∨ b = 1 ∨ b = 2 := by omega
  all_goals
    obtain rfl | rfl | rfl | rfl | rfl | rfl | rfl : t = 0 ∨ t = 1 ∨ t = 2 ∨ t = 3 ∨ t = 4 ∨ t = 5 ∨ t = 6 := by omega
    all_goals kernel_rfl
theorem info_u8 {s : SymM} (h0 : 0 ≤ s.bind) (h2 : s.bind ≤ 2) (h3 : 0 ≤ s.typ) (h4 : s.typ ≤ 6) : 16 * s.bind + s.typ = ((infoB s).toNat : Int) := by
  unfold infoB
  rw [u8_of]
  omega

/-- 'append(v, c1, c2, ..)', bytes written out. -/
theorem wpList_pushLit {ops : Array Oper} {rest : List Oper} {Q : Exit → Act → World → Prop} {a : Act} {w : World} {d : Option Tmp} {ty : TypeId} {pos : String} {aft : Array Edge} {s x : Operand} {v : Value} {base : Nat} {l : List UInt8} (hown : OB w base v l) (m : List UInt8) {n : Nat} {cs : Array Value}
    (hs : a.eval s = v) (hx : a.eval x = .slice (some ⟨w.heap.size, 0, none⟩) n n) (hcs : cs = (m.map B).toArray) (hm : n = m.length) (hn : l.length + m.length ≤ 140737488355328) (hb : base ≤ w.heap.size)
    (h : ∀ v' w', OB w' base v' (l ++ m) → Keeps 5 w w' → Below base w w' → wpList Try.prog ops Q rest (a.put d v') w') :
    wpList Try.prog ops Q (⟨d, .call { callee := .builtin .append, args := #[s, x], argTypes := #[23, 23] }, ty, pos, aft, none⟩ :: rest) a (w.alloc (.cells cs 5)) := by
  have h1 := hown.mono (below_alloc w (.cells cs 5))
  refine wpList_catB h1 (bs_lit w m cs n hcs hm) hs hx hn (by simp; omega) fun v' w' h2 h3 h4 => h v' w' h2 ((keeps_below (below_alloc w _)).trans (keeps_own h1 h3)) ((below_alloc w _).mono hb |>.trans h4)

set_option maxHeartbeats 4000000 in
set_option maxRecDepth 100000 in
theorem symsWrite_any (l : List SymM) (v : Value) (w : World) (hl : l.length ≤ 1000) (hwf : ∀ s ∈ l, s.value < 18446744073709551616 ∧ s.size < 18446744073709551616) (hv : RdR 6 encSym w v l) :
    Calls Try.prog 27 #[v] w fun e w' => ∃ v1 v2, e = .returned (.tuple #[v1, v2, .int .i64 ((symW l).2.2.1 : Nat), .int .i64 (symW l).2.2.2]) ∧ OB w' w.heap.size v1 (symW l).1 ∧ OB w' w.heap.size v2 (symW l).2.1 ∧ Below w.heap.size w w' ∧ (∀ k, v1.ownBlock = some k → v2.ownBlock ≠ some k) := by
  obtain ⟨a, ca, rfl, hca, -, hc⟩ := hv.open (fun _ => rfl)
  have HV := Lib.hid hv
  have HC := Lib.hid hc
  have HWF := Lib.hid hwf
  obtain ⟨nl, hnl⟩ : ∃ n, n = l.length := ⟨_, rfl⟩
  rw [← hnl] at hl hca HV ⊢
  have HL := Lib.hid hnl
  clear hc hv hnl hwf
  go_enter Try.func27, Try.ntmps27
  go_wp2
  go_loopw [6, 16] (fun tx i wr => ∃ k : Nat, i = .int .i64 k ∧ k ≤ nl ∧ Hid ((l.take k).any symBad = false) ∧ Hid (Ow S 9 wr w.heap.size tx ((l.take k).map (·.name))) ∧ Hid (Below w.heap.size w wr)) (fun _ i _ => nl - (intOf i).toNat)
  case atStart => exact ⟨0, rfl, Nat.zero_le _, by simp [Hid], Ow.nil _ _ _ _, Below.refl _ _⟩
  case round =>
    obtain ⟨k, rfl, hk, HT, HO, HB⟩ := hrel
    by_cases hlt : k < nl
    · have X1 := Lib.hid (show l[k]? = some (l[k]'(by have := HL.out; omega)) from List.getElem?_eq_getElem _)
      generalize l[k]'(by have := HL.out; omega) = x at *
      obtain ⟨b1, o1, ha, hc1⟩ := HC.out k x X1.out (by decide)
      subst ha
      have hd1 : ∀ c v, (encSym x)[c]? = some v → wr.cell? ⟨b1, o1 + k * 6 + c, none⟩ = some v := fun c v h => by
        have h6 : c < 6 := (List.getElem?_eq_some_iff.1 h).1
        have := (hc1 c h6).trans h
        rw [← Nat.add_assoc] at this
        exact (HB.out.cell (block_lt this)).trans this
      have c10 := hd1 0 _ rfl
      have c11 := hd1 1 _ rfl
      have c12 := hd1 2 _ rfl
      have c13 := hd1 3 _ rfl
      have c14 := hd1 4 _ rfl
      have c15 := hd1 5 _ rfl
      rw [Nat.add_zero] at c10
      clear hc1 hd1
      have HNS := Lib.hid (names_step X1.out)
      have HTL := Lib.hid (show ((l.take k).map (·.name)).length ≤ 1000 by rw [List.length_map, List.length_take]; omega)
      have hbs := HB.out.size
      have KC := Lib.hid (fun w => kind_any x.bind x.typ w)
      cases hb : symBad x with
      | true =>
        have HR := Lib.hid (symW_bad (bad_yes X1.out hb))
        have HBAD := Lib.hid hb
        clear hb
        cases hk1 : kindB x.bind x.typ with
        | false =>
          rw [hk1] at KC
          have HK1 := Lib.hid hk1
          clear hk1
          go_wp2_with (first
            | ((with_reducible show wpList _ _ _ (⟨none, .store _ _ _, _, _, _, _⟩ :: _) _ _); go_must (refine wpList_storeNew rfl rfl (by kernel_rfl) rfl (by simp [Value.oneCell']) ?_; intro w1 hh1 hb1; have e1 := cell_rec hh1 1; have e2 := cell_rec hh1 2; have e3 := cell_rec hh1 3; simp only [List.getElem?_toArray, List.getElem?_cons_succ, List.getElem?_cons_zero] at e1 e2 e3))
            | (go_at_call 58; refine (KC.out _).mono ?_; rintro e w2 ⟨rfl, rfl⟩))
          refine bodyPost_ret (v := .tuple #[.slice none 0 0, .slice none 0 0, .int .i64 0, .int .i64 1]) (by simp [results, Try.results27, go_sem]) rfl ?_
          exact ⟨_, _, by rw [HR.out]; rfl, by rw [HR.out]; exact OB.nil _ _, by rw [HR.out]; exact OB.nil _ _, HB.out.trans (hb1.mono HB.out.size), fun k h => by cases h⟩
        | true =>
          rw [hk1] at KC
          have hsec : x.sec < 0 ∨ 65535 < x.sec := by
            have := HBAD.out
            unfold symBad at this
            simpa [hk1] using this
          have HK1 := Lib.hid hk1
          clear hk1
          rcases hsec with hsec | hsec
          all_goals
            go_wp2_with (first
              | ((with_reducible show wpList _ _ _ (⟨none, .store _ _ _, _, _, _, _⟩ :: _) _ _); go_must (refine wpList_storeNew rfl rfl (by kernel_rfl) rfl (by simp [Value.oneCell']) ?_; intro w1 hh1 hb1; have e1 := cell_rec hh1 1; have e2 := cell_rec hh1 2; have e3 := cell_rec hh1 3; simp only [List.getElem?_toArray, List.getElem?_cons_succ, List.getElem?_cons_zero] at e1 e2 e3))
              | (go_at_call 58; refine (KC.out _).mono ?_; rintro e w2 ⟨rfl, rfl⟩))
            refine bodyPost_ret (v := .tuple #[.slice none 0 0, .slice none 0 0, .int .i64 0, .int .i64 1]) (by simp [results, Try.results27, go_sem]) rfl ?_
            exact ⟨_, _, by rw [HR.out]; rfl, by rw [HR.out]; exact OB.nil _ _, by rw [HR.out]; exact OB.nil _ _, HB.out.trans (hb1.mono HB.out.size), fun k h => by cases h⟩
      | false =>
        have HN := Lib.hid (bad_step X1.out HT.out hb)
        have hk1 : kindB x.bind x.typ = true ∧ ¬ x.sec < 0 ∧ ¬ 65535 < x.sec := by
          unfold symBad at hb
          simp at hb
          exact ⟨hb.1.1, by omega, by omega⟩
        clear hb
        obtain ⟨hk1, hs1, hs2⟩ := hk1
        rw [hk1] at KC
        have HK1 := Lib.hid hk1
        clear hk1
        go_wp2_with (first
          | ((with_reducible show wpList _ _ _ (⟨none, .store _ _ _, _, _, _, _⟩ :: _) _ _); go_must (refine wpList_storeNew rfl rfl (by kernel_rfl) rfl (by simp [Value.oneCell']) ?_; intro w1 hh1 hb1; have e0 := cell_rec hh1 0; have e1 := cell_rec hh1 1; have e2 := cell_rec hh1 2; have e3 := cell_rec hh1 3; simp only [List.getElem?_toArray, List.getElem?_cons_succ, List.getElem?_cons_zero] at e0 e1 e2 e3; have HO1 := Lib.hid (HO.out.mono hb1); have HB1 := Lib.hid (HB.out.trans (hb1.mono HB.out.size)); clear hb1))
          | (go_at_call 58; refine (KC.out _).mono ?_; rintro e w2 ⟨rfl, rfl⟩)
          | ((with_reducible show wpList _ _ _ (⟨some 40, _, _, _, _, _⟩ :: _) _ _); go_must (refine wpList_pushE TTexts HO1.out rfl rfl x.name rfl rfl (by have := HTL.out; omega) (by omega) HB1.out.size ?_; intro v3 w3 hv3 _ hb3; have HO3 := Lib.hid (show Ow S 9 w3 w.heap.size v3 ((l.take (k + 1)).map (·.name)) by rw [HNS.out]; exact hv3); have HB3 := Lib.hid (HB1.out.trans hb3); clear hv3 hb3)))
        clear hh1 e0 e1 e2 e3
        go_roundw
        case rel =>
          first
            | exact ⟨k + 1, by go_num, by omega, HN.out, HO3.out, HB3.out⟩
            | ((repeat apply Exists.intro); exact ⟨⟨k + 1, by go_num, by omega, HN.out, HO3.out, HB3.out⟩, rfl⟩)
        case measure => simp [intOf] <;> omega
    · have hkn : l.length ≤ k := by have := HL.out; omega
      have HBF := Lib.hid (bad_all hkn HT.out)
      have HO1 : Hid (Ow S 9 wr w.heap.size u6 (l.map (·.name))) := by
        have := HO.out
        rw [List.take_of_length_le hkn] at this
        exact this
      clear HT HO hkn
      have HOC := Lib.hid (ordered_any l (.slice a nl ca) wr (by have := HL.out; omega) (HV.out.mono HB.out))
      have HLL := Lib.hid (show (l.map (·.name)).length ≤ 1000 by rw [List.length_map]; have := HL.out; omega)
      cases ho : ordB l with
      | false =>
        have HR := Lib.hid (symW_ord HBF.out ho)
        rw [ordR_bad ho] at HOC
        clear ho
        go_wp2_with fail
        refine HOC.out.mono ?_
        rintro e w1 ⟨rfl, hb1⟩
        go_wp2
        refine bodyPost_ret (v := .tuple #[.slice none 0 0, .slice none 0 0, .int .i64 0, .int .i64 24]) (by simp [results, Try.results27, go_sem]) rfl ?_
        exact ⟨_, _, by rw [HR.out]; rfl, by rw [HR.out]; exact OB.nil _ _, by rw [HR.out]; exact OB.nil _ _, HB.out.trans (hb1.mono HB.out.size), fun k h => by cases h⟩
      | true =>
        rw [ordR_ok ho] at HOC
        have HW1 : Hid ((buildR (l.map (·.name))).2.2 ≠ 0 → symW l = ([], [], 0, (buildR (l.map (·.name))).2.2)) := symW_err HBF.out ho
        have HW2 : Hid ((buildR (l.map (·.name))).2.2 = 0 → symW l = (symsB l (buildR (l.map (·.name))).2.1, (buildR (l.map (·.name))).1, locs l + 1, 0)) := symW_ok HBF.out ho
        have HAT : Hid ((buildR (l.map (·.name))).2.2 = 0 → (buildR (l.map (·.name))).2.1.length = (l.map (·.name)).length ∧ ∀ p ∈ (buildR (l.map (·.name))).2.1, p ≤ 130000) := fun h => ats_ok h HLL.out
        have hlocs : locs l ≤ 1000 := by have := locs_le l l.length; rw [List.take_length] at this; have := HL.out; omega
        clear ho
        go_wp2_with fail
        refine HOC.out.mono ?_
        rintro e w1 ⟨rfl, hb1⟩
        have HB1 := Lib.hid (HB.out.trans (hb1.mono HB.out.size))
        have HBU := Lib.hid (build_any (l.map (·.name)) u6 w1 (by have := HLL.out; omega) (HO1.out.rd.mono hb1))
        clear hb1
        generalize locs l = nloc at *
        generalize buildR (l.map (·.name)) = r at *
        obtain ⟨tb, ats, z⟩ := r
        go_wp2_with fail
        refine HBU.out.mono ?_
        rintro e w2 ⟨v1, v2, rfl, ob1, ow2, hb2⟩
        have OB1 := Lib.hid ob1
        have OW2 := Lib.hid ow2
        have HB2 := Lib.hid (HB1.out.trans (hb2.mono HB1.out.size))
        have HS12 := Lib.hid (HB1.out.size)
        clear ob1 ow2 hb2
        by_cases hz : z = 0
        · have HR := Lib.hid (HW2.out hz)
          have HA := Lib.hid (HAT.out hz)
          clear HW1 HW2 HAT
          subst hz
          obtain ⟨aa, cca, rfl, hmac, _, hac⟩ := (show Rd I64 w2 v2 ats from OW2.out.rd).open 0
          have hal : ats.length = nl := by have h1 := HA.out.1; rw [List.length_map] at h1; have := HL.out; omega
          rw [hal] at hmac ⊢
          have HAL := Lib.hid hal
          have HAC := Lib.hid hac
          clear hal hac HBU
          go_wp2_with (((with_reducible show wpList _ _ _ (⟨some 63, _, _, _, _, _⟩ :: _) _ _); go_must (refine wpList_makeB 24 rfl rfl rfl rfl (by omega) ?_; intro vt w3 hvt hb3)))
          have HVT := Lib.hid hvt
          have HB3 := Lib.hid hb3
          clear hvt hb3
          have HRX : Hid (symsB l ats = List.replicate 24 0 ++ ((l.zip ats).take nl).flatMap symB) := by
            unfold symsB
            rw [List.take_of_length_le (by rw [List.length_zip]; have := HL.out; omega)]
            rfl
          go_loopw [2, 66] (fun t i wr => ∃ k : Nat, i = .int .i64 k ∧ k ≤ nl ∧ Hid (OB wr w2.heap.size t (List.replicate 24 0 ++ ((l.zip ats).take k).flatMap symB)) ∧ Hid (Below w2.heap.size w2 wr)) (fun _ i _ => nl - (intOf i).toNat)
          case atStart => exact ⟨0, rfl, Nat.zero_le _, by have := HVT.out; simpa [Hid] using this, HB3.out⟩
          case round =>
            obtain ⟨k, rfl, hk, HO, HB⟩ := hrel
            by_cases hlt : k < nl
            · have X1 := Lib.hid (show l[k]? = some (l[k]'(by have := HL.out; omega)) from List.getElem?_eq_getElem _)
              generalize l[k]'(by have := HL.out; omega) = x at *
              have X2 := Lib.hid (show ats[k]? = some (ats[k]'(by have := HAL.out; omega)) from List.getElem?_eq_getElem _)
              obtain ⟨bA, oA, hA1, cA⟩ := HAC.out k (by have := HAL.out; omega)
              rw [X2.out] at cA
              generalize ats[k]'(by have := HAL.out; omega) = p at *
              have hp : p ≤ 130000 := HA.out.2 p (List.mem_of_getElem? X2.out)
              simp only [Option.getD_some] at cA
              replace cA := (HB.out.cell (block_lt cA)).trans cA
              subst hA1
              obtain ⟨b1, o1, ha, hc1⟩ := HC.out k x X1.out (by decide)
              subst ha
              have hd1 : ∀ c v, (encSym x)[c]? = some v → wr.cell? ⟨b1, o1 + k * 6 + c, none⟩ = some v := fun c v h => by
                have h6 : c < 6 := (List.getElem?_eq_some_iff.1 h).1
                have := (hc1 c h6).trans h
                rw [← Nat.add_assoc] at this
                have h2 := (HB2.out.cell (block_lt this)).trans this
                exact (HB.out.cell (block_lt h2)).trans h2
              have c10 := hd1 0 _ rfl
              have c11 := hd1 1 _ rfl
              have c12 := hd1 2 _ rfl
              have c13 := hd1 3 _ rfl
              have c14 := hd1 4 _ rfl
              have c15 := hd1 5 _ rfl
              rw [Nat.add_zero] at c10
              clear hc1 hd1
              have HF := Lib.hid (flatz_step X1.out X2.out)
              have HTL := Lib.hid (show (List.replicate 24 (0 : UInt8) ++ ((l.zip ats).take k).flatMap symB).length ≤ 30000 by rw [List.length_append, List.length_replicate, flatz_len, List.length_take]; omega)
              have HOF := Lib.hid (HWF.out x (List.mem_of_getElem? X1.out))
              have hgood : kindB x.bind x.typ = true ∧ ¬ x.sec < 0 ∧ ¬ 65535 < x.sec := by
                have := List.any_eq_false.1 HBF.out x (List.mem_of_getElem? X1.out)
                unfold symBad at this
                simp at this
                exact ⟨this.1.1, by omega, by omega⟩
              obtain ⟨hg1, hg2, hg3⟩ := hgood
              obtain ⟨hg4, hg5, hg6, hg7⟩ := kindB_pos hg1
              have HG1 := Lib.hid hg1
              have HI := Lib.hid (info_u8 (s := x) hg4 hg5 hg6 hg7)
              have HT1 := Lib.hid (show x.sec = ((u64of x.sec : Nat) : Int) by unfold u64of; omega)
              have hbs := HB.out.size
              clear hg1
              generalize hT0 : List.replicate 24 (0 : UInt8) ++ ((l.zip ats).take k).flatMap symB = T at *
              have HE0 := Lib.hid hT0
              clear hT0
              go_wp2_with (first
                | ((with_reducible show wpList _ _ _ (⟨none, .store _ _ _, _, _, _, _⟩ :: _) _ _); go_must (refine wpList_storeNew rfl rfl (by kernel_rfl) rfl (by simp [Value.oneCell']) ?_; intro w4 hh1 hb1; have cA1 := (hb1.cell (block_lt cA)).trans cA))
                | fail)
              have HO1 := Lib.hid (HO.out.mono hb1)
              have HB4 := Lib.hid (HB.out.trans (hb1.mono HB.out.size))
              have HH1 := Lib.hid hh1
              have HCA1 := Lib.hid cA1
              clear hh1 hb1 cA1 cA c10 c11 c12 c13 c14 c15
              refine (put4_any T p u2 w4 w2.heap.size rfl (Nat.le_trans HTL.out (by decide)) (by omega) HO1.out HB4.out.size).mono ?_
              rintro e w5 ⟨v5, rfl, ho5, hb5, hk5⟩
              have HH5 := Lib.hid (hk5 _ _ _ _ (by decide) HH1.out)
              have HO5 := Lib.hid ho5
              have HB5 := Lib.hid (HB4.out.trans hb5)
              have HL5 := Lib.hid (show (T ++ fixed p 4).length ≤ 30004 by rw [List.length_append, length_fixed]; have := HTL.out; omega)
              clear ho5 hb5 hk5
              generalize hT5 : T ++ fixed p 4 = T5 at *
              have HE5 := Lib.hid hT5
              clear hT5
              have e1 := cell_rec HH5.out 1
              have e2 := cell_rec HH5.out 2
              simp only [List.getElem?_toArray, List.getElem?_cons_succ, List.getElem?_cons_zero] at e1 e2
              go_wp2_with (first
                | ((with_reducible show wpList _ _ _ (⟨some 81, _, _, _, _, _⟩ :: _) _ _); go_must (refine wpList_val rfl (run_bin rfl rfl (shl4_run hg4 hg5)) ?_))
                | ((with_reducible show wpList _ _ _ (⟨some 84, _, _, _, _, _⟩ :: _) _ _); go_must (refine wpList_val rfl (run_bin rfl rfl (or_run hg4 hg5 hg6 hg7)) ?_))
                | ((with_reducible show wpList _ _ _ (⟨some 87, _, _, _, _, _⟩ :: _) _ _); go_must (refine wpList_pushLit HO5.out [infoB x, 0] rfl rfl (by rw [HI.out]; rfl) rfl (by have := HL5.out; simp; omega) HB5.out.size ?_; intro v6 w6 ho6 hk6 hb6; have HH6 := Lib.hid (hk6 _ _ _ _ (by decide) HH5.out); have e3 := cell_rec HH6.out 3; simp only [List.getElem?_toArray, List.getElem?_cons_succ, List.getElem?_cons_zero] at e3)))
              have HO6 := Lib.hid ho6
              have HB6 := Lib.hid (HB5.out.trans hb6)
              have HL6 := Lib.hid (show (T5 ++ [infoB x, 0]).length ≤ 30006 by rw [List.length_append]; have := HL5.out; simp; omega)
              clear ho6 hk6 hb6 e1 e2
              generalize hT6 : T5 ++ [infoB x, 0] = T6 at *
              have HE6 := Lib.hid hT6
              clear hT6
              refine (put2_any T6 (u64of x.sec) v6 w6 w2.heap.size HT1.out (Nat.le_trans HL6.out (by decide)) (u64of_lt _) HO6.out HB6.out.size).mono ?_
              rintro e w7 ⟨v7, rfl, ho7, hb7, hk7⟩
              have HO7 := Lib.hid ho7
              have HB7 := Lib.hid (HB6.out.trans hb7)
              have HH7 := Lib.hid (hk7 _ _ _ _ (by decide) HH6.out)
              have HL7 := Lib.hid (show (T6 ++ fixed (u64of x.sec) 2).length ≤ 30008 by rw [List.length_append, length_fixed]; have := HL6.out; omega)
              clear ho7 hb7 hk7 e3
              generalize hT7 : T6 ++ fixed (u64of x.sec) 2 = T7 at *
              have HE7 := Lib.hid hT7
              clear hT7
              have f4 := cell_rec HH7.out 4
              have f5 := cell_rec HH7.out 5
              simp only [List.getElem?_toArray, List.getElem?_cons_succ, List.getElem?_cons_zero] at f4 f5
              go_wp2
              have HC4 := Lib.hid (fun w' (hO : OB w' w2.heap.size v7 T7) (hb : w2.heap.size ≤ w'.heap.size) => put8_any T7 x.value v7 w' w2.heap.size rfl (Nat.le_trans HL7.out (by decide)) HOF.out.1 hO hb)
              have HC5 := Lib.hid (fun w' v3 (hO : OB w' w2.heap.size v3 (T7 ++ fixed x.value 8)) (hb : w2.heap.size ≤ w'.heap.size) => put8_any (T7 ++ fixed x.value 8) x.size v3 w' w2.heap.size rfl (by rw [List.length_append, length_fixed]; have := HL7.out; omega) HOF.out.2 hO hb)
              go_region_with (first
                  | (go_at_call_of 60 v7; refine (HC4.out w7.drew HO7.out HB7.out.size).mono ?_; rintro e w8 ⟨v8, rfl, ho8, hb8, hk8⟩; have HH8 := Lib.hid (hk8 _ _ _ _ (by decide) HH7.out); have g4 := cell_rec HH8.out 4; have g5 := cell_rec HH8.out 5; simp only [List.getElem?_toArray, List.getElem?_cons_succ, List.getElem?_cons_zero] at g4 g5)
                  | (go_at_call_of 60 v8; refine (HC5.out w8 v8 ho8 (Nat.le_trans HB7.out.size hb8.size)).mono ?_; rintro e w9 ⟨v9, rfl, ho9, hb9, hk9⟩))
              all_goals
                have HB8 := Lib.hid (show Below w2.heap.size w7 w8 from ⟨hb8.os, hb8.tape, hb8.output, hb8.size, hb8.block⟩)
                have HB9 := Lib.hid (HB7.out.trans (HB8.out.trans hb9))
                have HO9 := Lib.hid ho9
                clear ho8 ho9 hb8 hb9 hk8 hk9 f4 f5 g4 g5 HC4 HC5
                have G1 : Hid (OB w9 w2.heap.size v9 (List.replicate 24 0 ++ ((l.zip ats).take (k + 1)).flatMap symB)) := by
                  rw [HF.out, ← List.append_assoc, HE0.out]
                  show OB w9 w2.heap.size v9 (T ++ symB (x, p))
                  have := HO9.out
                  rw [← HE7.out, ← HE6.out, ← HE5.out] at this
                  unfold symB
                  simpa [List.append_assoc] using this
                clear HO9
                go_wp2
                go_roundw
                case rel =>
                  first
                    | exact ⟨k + 1, by go_num, by omega, G1.out, HB9.out⟩
                    | ((repeat apply Exists.intro); exact ⟨⟨k + 1, by go_num, by omega, G1.out, HB9.out⟩, rfl⟩)
                case measure => simp [intOf] <;> omega
            · have hkn : k = nl := by omega
              have HAP : Hid (∀ k, u2.ownBlock = some k → v1.ownBlock ≠ some k) := fun k h1 h2 => by
                have := (World.ownsRow.lt HO.out k h1).1
                have := (World.ownsRow.lt OB1.out k h2).2
                omega
              have HE : Hid (OB wr w.heap.size u2 (symsB l ats)) := by
                have := HO.out
                rw [hkn, ← HRX.out] at this
                exact this.base HB2.out.size
              clear HO hkn
              go_wp2
              refine bodyPost_ret (v := .tuple #[u2, v1, .int .i64 ((nloc : Int) + 1), .int .i64 0]) (by simp [results, Try.results27, go_sem]) rfl ?_
              exact ⟨_, _, by rw [HR.out]; rfl, by rw [HR.out]; exact HE.out, by rw [HR.out]; exact (OB1.out.mono HB.out).base HB1.out.size, HB2.out.trans (HB.out.mono HB2.out.size), HAP.out⟩
        · have hz2 : (z != 0) = true := by simpa using hz
          have HR := Lib.hid (HW1.out hz)
          have HZ := Lib.hid hz
          clear HW1 HW2 HAT hz
          go_wp2
          refine bodyPost_ret (v := .tuple #[.slice none 0 0, .slice none 0 0, .int .i64 0, .int .i64 z]) (by simp [results, Try.results27, go_sem]) rfl ?_
          exact ⟨_, _, by rw [HR.out]; rfl, by rw [HR.out]; exact OB.nil _ _, by rw [HR.out]; exact OB.nil _ _, HB2.out, fun k h => by cases h⟩
end Go.Proofs.Ytgknmmnffgikbaa
