/-
  Part 2 of 6: laws and walks for resolve_all; no condition of its own.
-/
import Derived.Test.YtnhbgijecdeahaaRw1
import Derived.Laws.Bits64b
import Derived.Deep.RegionLaw
import Derived.Defers
import Derived.Recover
import Derived.Laws.ResultCell
import Derived.Laws.OwnMore
import Derived.WalkSpells
import Derived.Lib.SliceRun
import Derived.Sort.KeysCollected
import Derived.OrdersHeld
import Derived.Sort.Walk0
import Derived.Shelf.Abstract
namespace Go.Proofs.Ytnhbgijecdeahaa
open Go.RowKit Go.Fd
theorem TTexts : SliceT Try.prog 26 9 1 16 := SliceT.mk' (z := .string ⟨#[]⟩) (by kernel_rfl) (by kernel_rfl) rfl (by omega)
theorem ats_ok {names : List (List UInt8)} (h : (buildR names).2.2 = 0) (hl : names.length ≤ 1000) : (buildR names).2.1.length = names.length ∧ ∀ p ∈ (buildR names).2.1, p ≤ 130000 := by
  obtain ⟨h1, h2⟩ := build_ok h
  rw [List.all_eq_true] at h1
  have h3 := buildT_len names fun s hs => by have := h1 s hs; unfold mayS at this; simp at this; exact this.1
  have h4 := (build_bound names).1
  rw [h2]
  exact ⟨h3.2.1, fun p hp => by have := h4 p hp; have := h3.1; omega⟩
theorem names_step {l : List SymM} {k : Nat} {x : SymM} (h : l[k]? = some x) : (l.take (k + 1)).map (·.name) = (l.take k).map (·.name) ++ [x.name] := by
  rw [List.take_add_one, h]; simp
theorem flatz_step {l : List SymM} {m : List Nat} {k : Nat} {x : SymM} {p : Nat} (hx : l[k]? = some x) (hp : m[k]? = some p) : ((l.zip m).take (k + 1)).flatMap symB = ((l.zip m).take k).flatMap symB ++ symB (x, p) := by
  rw [zip_step hx hp]; simp
theorem flatz_len (L : List (SymM × Nat)) : (L.flatMap symB).length = L.length * 24 := flat_len' symB_len L
theorem shl4_run {w : World} {x y : Operand} {b : Int} (h0 : 0 ≤ b) (h2 : b ≤ 2) : (do eqGuard .shl 3 x y (.int .i64 b) (.int .u64 4); binOp .shl 3 (.int .i64 b) (.int .u64 4) : Sem Value).run Try.prog w = .ok (.int .i64 (16 * b)) w := by
  obtain rfl | rfl | rfl : b = 0 ∨ b = 1 ∨ b = 2 := by omega
  all_goals kernel_rfl
theorem or_run {w : World} {x y : Operand} {b t : Int} (h0 : 0 ≤ b) (h2 : b ≤ 2) (h3 : 0 ≤ t) (h4 : t ≤ 6) : (do eqGuard .or 3 x y (.int .i64 (16 * b)) (.int .i64 t); binOp .or 3 (.int .i64 (16 * b)) (.int .i64 t) : Sem Value).run Try.prog w = .ok (.int .i64 (16 * b + t)) w := by
  obtain rfl | rfl | rfl : b = 0 ∨ b = 1 ∨ b = 2 := by omega
  all_goals
    obtain rfl | rfl | rfl | rfl | rfl | rfl | rfl : t = 0 ∨ t = 1 ∨ t = 2 ∨ t = 3 ∨ t = 4 ∨ t = 5 ∨ t = 6 := by omega
    all_goals kernel_rfl
theorem info_u8 {s : SymM} (h0 : 0 ≤ s.bind) (h2 : s.bind ≤ 2) (h3 : 0 ≤ s.typ) (h4 : s.typ ≤ 6) : 16 * s.bind + s.typ = ((infoB s).toNat : Int) := by
  unfold infoB
  rw [u8_of]
  omega
/-- 'append(v, c1, c2, ..)', bytes written out. -/
theorem wpList_pushLit {ops : Array Oper} {rest : List Oper} {Q : Exit → Act → World → Prop} {a : Act} {w : World} {d : Option Tmp} {ty : TypeId} {pos : String} {aft : Array Edge} {s x : Operand} {v : Value} {base : Nat} {l : List UInt8} (hown : OB w base v l) (m : List UInt8) {n : Nat} {cs : Array Value}
    (hs : a.eval s = v) (hx : a.eval x = .slice (some ⟨w.heap.size, 0, none⟩) n n) (hcs : cs = (m.map B).toArray) (hm : n = m.length) (hn : l.length + m.length ≤ 140737488355328) (hb : base ≤ w.heap.size)
    (h : ∀ v' w', OB w' base v' (l ++ m) → Keeps 5 w w' → Below base w w' → wpList Try.prog ops Q rest (a.put d v') w') :
    wpList Try.prog ops Q (⟨d, .call { callee := .builtin .append, args := #[s, x], argTypes := #[67, 67] }, ty, pos, aft, none⟩ :: rest) a (w.alloc (.cells cs 5)) := by
  have h1 := hown.mono (below_alloc w (.cells cs 5))
  refine wpList_catB h1 (bs_lit w m cs n hcs hm) hs hx hn (by simp; omega) fun v' w' h2 h3 h4 => h v' w' h2 ((keeps_below (below_alloc w _)).trans (keeps_own h1 h3)) ((below_alloc w _).mono hb |>.trans h4)
set_option maxHeartbeats 4000000 in
set_option maxRecDepth 100000 in
theorem symsWrite_any (l : List SymM) (v : Value) (w : World) (hl : l.length ≤ 1000) (hwf : ∀ s ∈ l, s.value < 18446744073709551616 ∧ s.size < 18446744073709551616) (hv : RdR 6 encSym w v l) :
    Calls Try.prog 28 #[v] w fun e w' => ∃ v1 v2, e = .returned (.tuple #[v1, v2, .int .i64 ((symW l).2.2.1 : Nat), .int .i64 (symW l).2.2.2]) ∧ OB w' w.heap.size v1 (symW l).1 ∧ OB w' w.heap.size v2 (symW l).2.1 ∧ Below w.heap.size w w' ∧ (∀ k, v1.ownBlock = some k → v2.ownBlock ≠ some k) := by
  obtain ⟨a, ca, rfl, hca, -, hc⟩ := hv.open (fun _ => rfl)
  have HV := Lib.hid hv
  have HC := Lib.hid hc
  have HWF := Lib.hid hwf
  obtain ⟨nl, hnl⟩ : ∃ n, n = l.length := ⟨_, rfl⟩
  rw [← hnl] at hl hca HV ⊢
  have HL := Lib.hid hnl
  clear hc hv hnl hwf
  go_enter Try.func28, Try.ntmps28
  go_wp2
  go_loopw [6, 16] (fun tx i wr => ∃ k : Nat, i = .int .i64 k ∧ k ≤ nl ∧ Hid ((l.take k).any symBad = false) ∧ Hid (Ow S 9 wr w.heap.size tx ((l.take k).map (·.name))) ∧ Hid (Below w.heap.size w wr)) (fun _ i _ => nl - (intOf i).toNat)
  case atStart => exact ⟨0, rfl, Nat.zero_le _, by simp [Hid], Ow.nil _ _ _ _, Below.refl _ _⟩
  case round =>
    obtain ⟨k, rfl, hk, HT, HO, HB⟩ := hrel
    by_cases hlt : k < nl
    · have X1 := Lib.hid (show l[k]? = some (l[k]'(by have := HL.out; omega)) from List.getElem?_eq_getElem _)
      generalize l[k]'(by have := HL.out; omega) = x at *
      obtain ⟨b1, o1, ha, hc1⟩ := HC.out k x X1.out (by decide)
      subst ha
      have hd1 : ∀ c v, (encSym x)[c]? = some v → wr.cell? ⟨b1, o1 + k * 6 + c, none⟩ = some v := fun c v h => by
        have h6 : c < 6 := (List.getElem?_eq_some_iff.1 h).1
        have := (hc1 c h6).trans h
        rw [← Nat.add_assoc] at this
        exact (HB.out.cell (block_lt this)).trans this
      have c10 := hd1 0 _ rfl
      have c11 := hd1 1 _ rfl
      have c12 := hd1 2 _ rfl
      have c13 := hd1 3 _ rfl
      have c14 := hd1 4 _ rfl
      have c15 := hd1 5 _ rfl
      rw [Nat.add_zero] at c10
      clear hc1 hd1
      have HNS := Lib.hid (names_step X1.out)
      have HTL := Lib.hid (show ((l.take k).map (·.name)).length ≤ 1000 by rw [List.length_map, List.length_take]; omega)
      have hbs := HB.out.size
      have KC := Lib.hid (fun w => kind_any x.bind x.typ w)
      cases hb : symBad x with
      | true =>
        have HR := Lib.hid (symW_bad (bad_yes X1.out hb))
        have HBAD := Lib.hid hb
        clear hb
        cases hk1 : kindB x.bind x.typ with
        | false =>
          rw [hk1] at KC
          have HK1 := Lib.hid hk1
          clear hk1
          go_wp2_with (first
            | ((with_reducible show wpList _ _ _ (⟨none, .store _ _ _, _, _, _, _⟩ :: _) _ _); go_must (refine wpList_storeNew rfl rfl (by kernel_rfl) rfl (by simp [Value.oneCell']) ?_; intro w1 hh1 hb1; have e1 := cell_rec hh1 1; have e2 := cell_rec hh1 2; have e3 := cell_rec hh1 3; simp only [List.getElem?_toArray, List.getElem?_cons_succ, List.getElem?_cons_zero] at e1 e2 e3))
            | (go_at_call 42; refine (KC.out _).mono ?_; rintro e w2 ⟨rfl, rfl⟩))
          refine bodyPost_ret (v := .tuple #[.slice none 0 0, .slice none 0 0, .int .i64 0, .int .i64 1]) (by simp [results, Try.results28, go_sem]) rfl ?_
          exact ⟨_, _, by rw [HR.out]; rfl, by rw [HR.out]; exact OB.nil _ _, by rw [HR.out]; exact OB.nil _ _, HB.out.trans (hb1.mono HB.out.size), fun k h => by cases h⟩
        | true =>
          rw [hk1] at KC
          have hsec : x.sec < 0 ∨ 65535 < x.sec := by
            have := HBAD.out
            unfold symBad at this
            simpa [hk1] using this
          have HK1 := Lib.hid hk1
          clear hk1
          rcases hsec with hsec | hsec
          all_goals
            go_wp2_with (first
              | ((with_reducible show wpList _ _ _ (⟨none, .store _ _ _, _, _, _, _⟩ :: _) _ _); go_must (refine wpList_storeNew rfl rfl (by kernel_rfl) rfl (by simp [Value.oneCell']) ?_; intro w1 hh1 hb1; have e1 := cell_rec hh1 1; have e2 := cell_rec hh1 2; have e3 := cell_rec hh1 3; simp only [List.getElem?_toArray, List.getElem?_cons_succ, List.getElem?_cons_zero] at e1 e2 e3))
              | (go_at_call 42; refine (KC.out _).mono ?_; rintro e w2 ⟨rfl, rfl⟩))
            refine bodyPost_ret (v := .tuple #[.slice none 0 0, .slice none 0 0, .int .i64 0, .int .i64 1]) (by simp [results, Try.results28, go_sem]) rfl ?_
            exact ⟨_, _, by rw [HR.out]; rfl, by rw [HR.out]; exact OB.nil _ _, by rw [HR.out]; exact OB.nil _ _, HB.out.trans (hb1.mono HB.out.size), fun k h => by cases h⟩
      | false =>
        have HN := Lib.hid (bad_step X1.out HT.out hb)
        have hk1 : kindB x.bind x.typ = true ∧ ¬ x.sec < 0 ∧ ¬ 65535 < x.sec := by
          unfold symBad at hb
          simp at hb
          exact ⟨hb.1.1, by omega, by omega⟩
        clear hb
        obtain ⟨hk1, hs1, hs2⟩ := hk1
        rw [hk1] at KC
        have HK1 := Lib.hid hk1
        clear hk1
        go_wp2_with (first
          | ((with_reducible show wpList _ _ _ (⟨none, .store _ _ _, _, _, _, _⟩ :: _) _ _); go_must (refine wpList_storeNew rfl rfl (by kernel_rfl) rfl (by simp [Value.oneCell']) ?_; intro w1 hh1 hb1; have e0 := cell_rec hh1 0; have e1 := cell_rec hh1 1; have e2 := cell_rec hh1 2; have e3 := cell_rec hh1 3; simp only [List.getElem?_toArray, List.getElem?_cons_succ, List.getElem?_cons_zero] at e0 e1 e2 e3; have HO1 := Lib.hid (HO.out.mono hb1); have HB1 := Lib.hid (HB.out.trans (hb1.mono HB.out.size)); clear hb1))
          | (go_at_call 42; refine (KC.out _).mono ?_; rintro e w2 ⟨rfl, rfl⟩)
          | ((with_reducible show wpList _ _ _ (⟨some 40, _, _, _, _, _⟩ :: _) _ _); go_must (refine wpList_pushE TTexts HO1.out rfl rfl x.name rfl rfl (by have := HTL.out; omega) (by omega) HB1.out.size ?_; intro v3 w3 hv3 _ hb3; have HO3 := Lib.hid (show Ow S 9 w3 w.heap.size v3 ((l.take (k + 1)).map (·.name)) by rw [HNS.out]; exact hv3); have HB3 := Lib.hid (HB1.out.trans hb3); clear hv3 hb3)))
        clear hh1 e0 e1 e2 e3
        go_roundw
        case rel =>
          first
            | exact ⟨k + 1, by go_num, by omega, HN.out, HO3.out, HB3.out⟩
            | ((repeat apply Exists.intro); exact ⟨⟨k + 1, by go_num, by omega, HN.out, HO3.out, HB3.out⟩, rfl⟩)
        case measure => simp [intOf] <;> omega
    · have hkn : l.length ≤ k := by have := HL.out; omega
      have HBF := Lib.hid (bad_all hkn HT.out)
      have HO1 : Hid (Ow S 9 wr w.heap.size u6 (l.map (·.name))) := by
        have := HO.out
        rw [List.take_of_length_le hkn] at this
        exact this
      clear HT HO hkn
      have HOC := Lib.hid (ordered_any l (.slice a nl ca) wr (by have := HL.out; omega) (HV.out.mono HB.out))
      have HLL := Lib.hid (show (l.map (·.name)).length ≤ 1000 by rw [List.length_map]; have := HL.out; omega)
      cases ho : ordB l with
      | false =>
        have HR := Lib.hid (symW_ord HBF.out ho)
        rw [ordR_bad ho] at HOC
        clear ho
        go_wp2_with fail
        refine HOC.out.mono ?_
        rintro e w1 ⟨rfl, hb1⟩
        go_wp2
        refine bodyPost_ret (v := .tuple #[.slice none 0 0, .slice none 0 0, .int .i64 0, .int .i64 24]) (by simp [results, Try.results28, go_sem]) rfl ?_
        exact ⟨_, _, by rw [HR.out]; rfl, by rw [HR.out]; exact OB.nil _ _, by rw [HR.out]; exact OB.nil _ _, HB.out.trans (hb1.mono HB.out.size), fun k h => by cases h⟩
      | true =>
        rw [ordR_ok ho] at HOC
        have HW1 : Hid ((buildR (l.map (·.name))).2.2 ≠ 0 → symW l = ([], [], 0, (buildR (l.map (·.name))).2.2)) := symW_err HBF.out ho
        have HW2 : Hid ((buildR (l.map (·.name))).2.2 = 0 → symW l = (symsB l (buildR (l.map (·.name))).2.1, (buildR (l.map (·.name))).1, locs l + 1, 0)) := symW_ok HBF.out ho
        have HAT : Hid ((buildR (l.map (·.name))).2.2 = 0 → (buildR (l.map (·.name))).2.1.length = (l.map (·.name)).length ∧ ∀ p ∈ (buildR (l.map (·.name))).2.1, p ≤ 130000) := fun h => ats_ok h HLL.out
        have hlocs : locs l ≤ 1000 := by have := locs_le l l.length; rw [List.take_length] at this; have := HL.out; omega
        clear ho
        go_wp2_with fail
        refine HOC.out.mono ?_
        rintro e w1 ⟨rfl, hb1⟩
        have HB1 := Lib.hid (HB.out.trans (hb1.mono HB.out.size))
        have HBU := Lib.hid (build_any (l.map (·.name)) u6 w1 (by have := HLL.out; omega) (HO1.out.rd.mono hb1))
        clear hb1
        generalize locs l = nloc at *
        generalize buildR (l.map (·.name)) = r at *
        obtain ⟨tb, ats, z⟩ := r
        go_wp2_with fail
        refine HBU.out.mono ?_
        rintro e w2 ⟨v1, v2, rfl, ob1, ow2, hb2⟩
        have OB1 := Lib.hid ob1
        have OW2 := Lib.hid ow2
        have HB2 := Lib.hid (HB1.out.trans (hb2.mono HB1.out.size))
        have HS12 := Lib.hid (HB1.out.size)
        clear ob1 ow2 hb2
        by_cases hz : z = 0
        · have HR := Lib.hid (HW2.out hz)
          have HA := Lib.hid (HAT.out hz)
          clear HW1 HW2 HAT
          subst hz
          obtain ⟨aa, cca, rfl, hmac, _, hac⟩ := (show Rd I64 w2 v2 ats from OW2.out.rd).open 0
          have hal : ats.length = nl := by have h1 := HA.out.1; rw [List.length_map] at h1; have := HL.out; omega
          rw [hal] at hmac ⊢
          have HAL := Lib.hid hal
          have HAC := Lib.hid hac
          clear hal hac HBU
          go_wp2_with (((with_reducible show wpList _ _ _ (⟨some 63, _, _, _, _, _⟩ :: _) _ _); go_must (refine wpList_makeB 24 rfl rfl rfl rfl (by omega) ?_; intro vt w3 hvt hb3)))
          have HVT := Lib.hid hvt
          have HB3 := Lib.hid hb3
          clear hvt hb3
          have HRX : Hid (symsB l ats = List.replicate 24 0 ++ ((l.zip ats).take nl).flatMap symB) := by
            unfold symsB
            rw [List.take_of_length_le (by rw [List.length_zip]; have := HL.out; omega)]
            rfl
          go_loopw [2, 66] (fun t i wr => ∃ k : Nat, i = .int .i64 k ∧ k ≤ nl ∧ Hid (OB wr w2.heap.size t (List.replicate 24 0 ++ ((l.zip ats).take k).flatMap symB)) ∧ Hid (Below w2.heap.size w2 wr)) (fun _ i _ => nl - (intOf i).toNat)
          case atStart => exact ⟨0, rfl, Nat.zero_le _, by have := HVT.out; simpa [Hid] using this, HB3.out⟩
          case round =>
            obtain ⟨k, rfl, hk, HO, HB⟩ := hrel
            by_cases hlt : k < nl
            · have X1 := Lib.hid (show l[k]? = some (l[k]'(by have := HL.out; omega)) from List.getElem?_eq_getElem _)
              generalize l[k]'(by have := HL.out; omega) = x at *
              have X2 := Lib.hid (show ats[k]? = some (ats[k]'(by have := HAL.out; omega)) from List.getElem?_eq_getElem _)
              obtain ⟨bA, oA, hA1, cA⟩ := HAC.out k (by have := HAL.out; omega)
              rw [X2.out] at cA
              generalize ats[k]'(by have := HAL.out; omega) = p at *
              have hp : p ≤ 130000 := HA.out.2 p (List.mem_of_getElem? X2.out)
              simp only [Option.getD_some] at cA
              replace cA := (HB.out.cell (block_lt cA)).trans cA
              subst hA1
              obtain ⟨b1, o1, ha, hc1⟩ := HC.out k x X1.out (by decide)
              subst ha
              have hd1 : ∀ c v, (encSym x)[c]? = some v → wr.cell? ⟨b1, o1 + k * 6 + c, none⟩ = some v := fun c v h => by
                have h6 : c < 6 := (List.getElem?_eq_some_iff.1 h).1
                have := (hc1 c h6).trans h
                rw [← Nat.add_assoc] at this
                have h2 := (HB2.out.cell (block_lt this)).trans this
                exact (HB.out.cell (block_lt h2)).trans h2
              have c10 := hd1 0 _ rfl
              have c11 := hd1 1 _ rfl
              have c12 := hd1 2 _ rfl
              have c13 := hd1 3 _ rfl
              have c14 := hd1 4 _ rfl
              have c15 := hd1 5 _ rfl
              rw [Nat.add_zero] at c10
              clear hc1 hd1
              have HF := Lib.hid (flatz_step X1.out X2.out)
              have HTL := Lib.hid (show (List.replicate 24 (0 : UInt8) ++ ((l.zip ats).take k).flatMap symB).length ≤ 30000 by rw [List.length_append, List.length_replicate, flatz_len, List.length_take]; omega)
              have HOF := Lib.hid (HWF.out x (List.mem_of_getElem? X1.out))
              have hgood : kindB x.bind x.typ = true ∧ ¬ x.sec < 0 ∧ ¬ 65535 < x.sec := by
                have := List.any_eq_false.1 HBF.out x (List.mem_of_getElem? X1.out)
                unfold symBad at this
                simp at this
                exact ⟨this.1.1, by omega, by omega⟩
              obtain ⟨hg1, hg2, hg3⟩ := hgood
              obtain ⟨hg4, hg5, hg6, hg7⟩ := kindB_pos hg1
              have HG1 := Lib.hid hg1
              have HI := Lib.hid (info_u8 (s := x) hg4 hg5 hg6 hg7)
              have HT1 := Lib.hid (show x.sec = ((u64of x.sec : Nat) : Int) by unfold u64of; omega)
              have hbs := HB.out.size
              clear hg1
              generalize hT0 : List.replicate 24 (0 : UInt8) ++ ((l.zip ats).take k).flatMap symB = T at *
              have HE0 := Lib.hid hT0
              clear hT0
              go_wp2_with (first
                | ((with_reducible show wpList _ _ _ (⟨none, .store _ _ _, _, _, _, _⟩ :: _) _ _); go_must (refine wpList_storeNew rfl rfl (by kernel_rfl) rfl (by simp [Value.oneCell']) ?_; intro w4 hh1 hb1; have cA1 := (hb1.cell (block_lt cA)).trans cA))
                | fail)
              have HO1 := Lib.hid (HO.out.mono hb1)
              have HB4 := Lib.hid (HB.out.trans (hb1.mono HB.out.size))
              have HH1 := Lib.hid hh1
              have HCA1 := Lib.hid cA1
              clear hh1 hb1 cA1 cA c10 c11 c12 c13 c14 c15
              refine (put4_any T p u2 w4 w2.heap.size rfl (Nat.le_trans HTL.out (by decide)) (by omega) HO1.out HB4.out.size).mono ?_
              rintro e w5 ⟨v5, rfl, ho5, hb5, hk5⟩
              have HH5 := Lib.hid (hk5 _ _ _ _ (by decide) HH1.out)
              have HO5 := Lib.hid ho5
              have HB5 := Lib.hid (HB4.out.trans hb5)
              have HL5 := Lib.hid (show (T ++ fixed p 4).length ≤ 30004 by rw [List.length_append, length_fixed]; have := HTL.out; omega)
              clear ho5 hb5 hk5
              generalize hT5 : T ++ fixed p 4 = T5 at *
              have HE5 := Lib.hid hT5
              clear hT5
              have e1 := cell_rec HH5.out 1
              have e2 := cell_rec HH5.out 2
              simp only [List.getElem?_toArray, List.getElem?_cons_succ, List.getElem?_cons_zero] at e1 e2
              go_wp2_with (first
                | ((with_reducible show wpList _ _ _ (⟨some 81, _, _, _, _, _⟩ :: _) _ _); go_must (refine wpList_val rfl (run_bin rfl rfl (shl4_run hg4 hg5)) ?_))
                | ((with_reducible show wpList _ _ _ (⟨some 84, _, _, _, _, _⟩ :: _) _ _); go_must (refine wpList_val rfl (run_bin rfl rfl (or_run hg4 hg5 hg6 hg7)) ?_))
                | ((with_reducible show wpList _ _ _ (⟨some 87, _, _, _, _, _⟩ :: _) _ _); go_must (refine wpList_pushLit HO5.out [infoB x, 0] rfl rfl (by rw [HI.out]; rfl) rfl (by have := HL5.out; simp; omega) HB5.out.size ?_; intro v6 w6 ho6 hk6 hb6; have HH6 := Lib.hid (hk6 _ _ _ _ (by decide) HH5.out); have e3 := cell_rec HH6.out 3; simp only [List.getElem?_toArray, List.getElem?_cons_succ, List.getElem?_cons_zero] at e3)))
              have HO6 := Lib.hid ho6
              have HB6 := Lib.hid (HB5.out.trans hb6)
              have HL6 := Lib.hid (show (T5 ++ [infoB x, 0]).length ≤ 30006 by rw [List.length_append]; have := HL5.out; simp; omega)
              clear ho6 hk6 hb6 e1 e2
              generalize hT6 : T5 ++ [infoB x, 0] = T6 at *
              have HE6 := Lib.hid hT6
              clear hT6
              refine (put2_any T6 (u64of x.sec) v6 w6 w2.heap.size HT1.out (Nat.le_trans HL6.out (by decide)) (u64of_lt _) HO6.out HB6.out.size).mono ?_
              rintro e w7 ⟨v7, rfl, ho7, hb7, hk7⟩
              have HO7 := Lib.hid ho7
              have HB7 := Lib.hid (HB6.out.trans hb7)
              have HH7 := Lib.hid (hk7 _ _ _ _ (by decide) HH6.out)
              have HL7 := Lib.hid (show (T6 ++ fixed (u64of x.sec) 2).length ≤ 30008 by rw [List.length_append, length_fixed]; have := HL6.out; omega)
              clear ho7 hb7 hk7 e3
              generalize hT7 : T6 ++ fixed (u64of x.sec) 2 = T7 at *
              have HE7 := Lib.hid hT7
              clear hT7
              have f4 := cell_rec HH7.out 4
              have f5 := cell_rec HH7.out 5
              simp only [List.getElem?_toArray, List.getElem?_cons_succ, List.getElem?_cons_zero] at f4 f5
              go_wp2
              have HC4 := Lib.hid (fun w' (hO : OB w' w2.heap.size v7 T7) (hb : w2.heap.size ≤ w'.heap.size) => put8_any T7 x.value v7 w' w2.heap.size rfl (Nat.le_trans HL7.out (by decide)) HOF.out.1 hO hb)
              have HC5 := Lib.hid (fun w' v3 (hO : OB w' w2.heap.size v3 (T7 ++ fixed x.value 8)) (hb : w2.heap.size ≤ w'.heap.size) => put8_any (T7 ++ fixed x.value 8) x.size v3 w' w2.heap.size rfl (by rw [List.length_append, length_fixed]; have := HL7.out; omega) HOF.out.2 hO hb)
              go_region_with (first
                  | (go_at_call_of 45 v7; refine (HC4.out w7.drew HO7.out HB7.out.size).mono ?_; rintro e w8 ⟨v8, rfl, ho8, hb8, hk8⟩; have HH8 := Lib.hid (hk8 _ _ _ _ (by decide) HH7.out); have g4 := cell_rec HH8.out 4; have g5 := cell_rec HH8.out 5; simp only [List.getElem?_toArray, List.getElem?_cons_succ, List.getElem?_cons_zero] at g4 g5)
                  | (go_at_call_of 45 v8; refine (HC5.out w8 v8 ho8 (Nat.le_trans HB7.out.size hb8.size)).mono ?_; rintro e w9 ⟨v9, rfl, ho9, hb9, hk9⟩))
              all_goals
                have HB8 := Lib.hid (show Below w2.heap.size w7 w8 from ⟨hb8.os, hb8.tape, hb8.output, hb8.size, hb8.block⟩)
                have HB9 := Lib.hid (HB7.out.trans (HB8.out.trans hb9))
                have HO9 := Lib.hid ho9
                clear ho8 ho9 hb8 hb9 hk8 hk9 f4 f5 g4 g5 HC4 HC5
                have G1 : Hid (OB w9 w2.heap.size v9 (List.replicate 24 0 ++ ((l.zip ats).take (k + 1)).flatMap symB)) := by
                  rw [HF.out, ← List.append_assoc, HE0.out]
                  show OB w9 w2.heap.size v9 (T ++ symB (x, p))
                  have := HO9.out
                  rw [← HE7.out, ← HE6.out, ← HE5.out] at this
                  unfold symB
                  simpa [List.append_assoc] using this
                clear HO9
                go_wp2
                go_roundw
                case rel =>
                  first
                    | exact ⟨k + 1, by go_num, by omega, G1.out, HB9.out⟩
                    | ((repeat apply Exists.intro); exact ⟨⟨k + 1, by go_num, by omega, G1.out, HB9.out⟩, rfl⟩)
                case measure => simp [intOf] <;> omega
            · have hkn : k = nl := by omega
              have HAP : Hid (∀ k, u2.ownBlock = some k → v1.ownBlock ≠ some k) := fun k h1 h2 => by
                have := (World.ownsRow.lt HO.out k h1).1
                have := (World.ownsRow.lt OB1.out k h2).2
                omega
              have HE : Hid (OB wr w.heap.size u2 (symsB l ats)) := by
                have := HO.out
                rw [hkn, ← HRX.out] at this
                exact this.base HB2.out.size
              clear HO hkn
              go_wp2
              refine bodyPost_ret (v := .tuple #[u2, v1, .int .i64 ((nloc : Int) + 1), .int .i64 0]) (by simp [results, Try.results28, go_sem]) rfl ?_
              exact ⟨_, _, by rw [HR.out]; rfl, by rw [HR.out]; exact HE.out, by rw [HR.out]; exact (OB1.out.mono HB.out).base HB1.out.size, HB2.out.trans (HB.out.mono HB2.out.size), HAP.out⟩
        · have hz2 : (z != 0) = true := by simpa using hz
          have HR := Lib.hid (HW1.out hz)
          have HZ := Lib.hid hz
          clear HW1 HW2 HAT hz
          go_wp2
          refine bodyPost_ret (v := .tuple #[.slice none 0 0, .slice none 0 0, .int .i64 0, .int .i64 z]) (by simp [results, Try.results28, go_sem]) rfl ?_
          exact ⟨_, _, by rw [HR.out]; rfl, by rw [HR.out]; exact OB.nil _ _, by rw [HR.out]; exact OB.nil _ _, HB2.out, fun k h => by cases h⟩
end Go.Proofs.Ytnhbgijecdeahaa
namespace Go.Fd
end Go.Fd
namespace Go.Proofs.Ytnhbgijecdeahaa
open Go.RowKit Go.Fd
theorem symW_0 {l : List SymM} (h : (symW l).2.2.2 = 0) : l.any symBad = false ∧ ordB l = true ∧ (buildR (l.map (·.name))).2.2 = 0 ∧ symW l = (symsB l (buildR (l.map (·.name))).2.1, (buildR (l.map (·.name))).1, locs l + 1, 0) := by
  unfold symW at h
  split at h
  · cases h
  · next h1 =>
    split at h
    · cases h
    · next h2 =>
      split at h
      · next h3 => exact ⟨by simpa using h1, by simpa using h2, h3, symW_ok (by simpa using h1) (by simpa using h2) h3⟩
      · next h3 => exact absurd h h3
end Go.Proofs.Ytnhbgijecdeahaa
namespace Go.Fd
structure SecM where
  name : List UInt8
  typ : Nat
  flags : Nat
  addr : Nat
  align : Nat
  size : Nat
  link : Nat
  info : Nat
  ent : Nat
  data : List UInt8
deriving DecidableEq
structure SegM where
  typ : Nat
  flags : Nat
  off : Nat
  vaddr : Nat
  filesz : Nat
  memsz : Nat
  align : Nat
deriving DecidableEq
structure ElfM where
  typ : Int
  target : Int
  flags : Nat
  entry : Nat
  secs : List SecM
  segs : List SegM
deriving DecidableEq
/-- A power of 2 up to the greatest? -/
def powB (n : Nat) : Bool := decide (1 ≤ n) && decide (n ≤ 65536) && decide (n &&& (n - 1) = 0)
/-- A target's number. -/
def mach (t : Int) : Nat := if t = 1 then 62 else if t = 2 then 183 else if t = 3 then 243 else 0
/-- May a section be, but for its name's letters? -/
def fineB (s : SecM) : Bool := !decide (s.typ = 0) && powB s.align && !decide (s.name = []) && (if s.typ = 8 then decide (s.data.length = 0) && decide (s.size ≤ 1073741824) else decide (s.size = s.data.length))
def upN (n a : Nat) : Nat := (n + a - 1) / a * a
/-- Where a section begins, from the end of what is ahead on; g: are there segments? -/
def placeS (g : Bool) (p : Nat) (s : SecM) : Nat :=
  if s.typ = 8 then p else if (g && decide (s.flags &&& 2 ≠ 0)) = true then p + (s.addr + 18446744073709551616 - p) % 18446744073709551616 % 4096 else upN p s.align
def plStep (g : Bool) (p : List Nat × Nat) (s : SecM) : List Nat × Nat := (p.1 ++ [placeS g p.2 s], placeS g p.2 s + s.data.length)
/-- All places, and the end. -/
def plF (g : Bool) (n : Nat) (l : List SecM) : List Nat × Nat := l.foldl (plStep g) ([], n)
end Go.Fd
namespace Go.Proofs.Ytnhbgijecdeahaa
open Go.RowKit Go.Fd
def tabName : List UInt8 := [46, 115, 104, 115, 116, 114, 116, 97, 98]
/-- The names of all sections, and the table's own. -/
def namesOf (l : List SecM) : List (List UInt8) := l.map (·.name) ++ [tabName]
def tabOf (e : ElfM) : List UInt8 := (buildR (namesOf e.secs)).1
def segsB (e : ElfM) : Bool := decide (0 < e.segs.length)
def front (e : ElfM) : Nat := 64 + 56 * e.segs.length
def placesOf (e : ElfM) : List Nat × Nat := plF (segsB e) (front e) e.secs
def headsOf (e : ElfM) (t : Nat) : Nat := upN ((placesOf e).2 + t) 8
/-- May a file be, up to its names and its length? -/
def may1 (e : ElfM) : Bool := (decide (e.typ = 1) || decide (e.typ = 2)) && !decide (mach e.target = 0) && decide (e.secs.length ≤ 250) && decide (e.segs.length ≤ 16)
def may2 (e : ElfM) : Bool := e.secs.all (fun s => fineB s && decide (s.data.length ≤ 4194304)) && e.segs.all fun s => powB s.align
def may3 (e : ElfM) : Bool := decide ((buildR (namesOf e.secs)).2.2 = 0) && decide (headsOf e (tabOf e).length + 64 * (e.secs.length + 2) ≤ 4194304)
def mayE (e : ElfM) : Bool := may1 e && may2 e && may3 e
end Go.Proofs.Ytnhbgijecdeahaa
namespace Go.Fd
open Go.RowKit
section
variable {P : Program} {ops : Array Oper} {rest : List Oper} {Q : Exit → Act → World → Prop} {a : Act} {w : World}
/-- A struct into a block of its own. -/
theorem wpList_box {d : Option Tmp} {ty t : TypeId} {pos : String} {aft : Array Edge} {x : Operand} {c : Array Value} (hx : a.eval x = .agg c)
    (h : ∀ w1, w1.heap[w.heap.size]? = some (.cells c t (0, 0)) → Below w.heap.size w w1 → w.heap.size < w1.heap.size → wpList P ops Q rest (a.put d (.pointer (some ⟨w.heap.size, 0, none⟩))) w1) :
    wpList P ops Q (⟨d, .box t x, ty, pos, aft, none⟩ :: rest) a w := by
  refine wpList_val (w' := w.alloc (.cells c t)) (v := .pointer (some ⟨w.heap.size, 0, none⟩)) rfl ?_ (h (w.alloc (.cells c t)) (heap_alloc_last w _) (below_alloc w _) (by rw [World.size_alloc]; omega))
  simp only [execOp, hx]
  rfl
/-- A block that was there stays. -/
theorem heap_below {w w' : World} {b : Nat} {o : Obj} (h : Below w.heap.size w w') (hb : w.heap[b]? = some o) : w'.heap[b]? = some o := by
  rw [h.block b (Array.getElem?_eq_some_iff.1 hb).1]; exact hb
end
end Go.Fd
namespace Go.Proofs.Ytnhbgijecdeahaa
open Go.RowKit Go.Fd
end Go.Proofs.Ytnhbgijecdeahaa
namespace Go.Fd
open Go.RowKit
theorem walk_check {P : Program} {Up : Exit → Prop} {L r : List Oper} {M : List (Nat × Yld)} {a : Act} {w0 : World} {E : Act → Prop} {i : Nat} {d : Option Tmp} {ty : TypeId} {pos : String} {aft : Array Edge} {gd : Option (Nat × Bool)} {x : Operand} {p : Addr} (hw : Region.wanted ⟨d, .nilCheck x, ty, pos, aft, gd⟩ (yielded L.toArray a.tmps) = true) (hM : madeAt M i = none) (hp : a.eval x = .pointer (some p)) (hn : walk P Up L M w0 E (i + 1) r (a.put d (.pointer (some p)))) : walk P Up L M w0 E i (⟨d, .nilCheck x, ty, pos, aft, gd⟩ :: r) a :=
  walk_val hw hM (fun w _ _ => by simp only [execOp, hp]; rfl) hn
end Go.Fd
namespace Go.Proofs.Ytnhbgijecdeahaa
open Go.RowKit Go.Fd
theorem free_rec' {w : World} {g : Nat} {cs : Array Value} {t : TypeId} (h : w.heap[g]? = some (.cells cs t (0, 0))) (c : Nat) : w.frozen? ⟨g, c, none⟩ = false := by simp [World.frozen?, h]
end Go.Proofs.Ytnhbgijecdeahaa
namespace Go.Proofs.Ytnhbgijecdeahaa
open Go.RowKit Go.Fd
def putL (size : Nat) (ns : List Nat) : List UInt8 := ns.flatMap (fixed · size)
def headB (e : ElfM) (heads : Nat) : List UInt8 :=
  [127, 69, 76, 70, 2, 1, 1] ++ List.replicate 9 0 ++ putL 2 [u64of e.typ, mach e.target] ++ putL 4 [1] ++ putL 8 [e.entry, if segsB e = true then 64 else 0, heads] ++ putL 4 [e.flags] ++ putL 2 [64, 56, e.segs.length, 64, e.secs.length + 2, e.secs.length + 1]
end Go.Proofs.Ytnhbgijecdeahaa
namespace Go.Fd
/-- Sections' bytes behind others, each at its place. -/
def bodyF (acc : List UInt8) (l : List (SecM × Nat)) : List UInt8 := l.foldl (fun acc p => acc ++ List.replicate (p.2 - acc.length) 0 ++ p.1.data) acc
end Go.Fd
namespace Go.Proofs.Ytnhbgijecdeahaa
open Go.RowKit Go.Fd
def segBy (s : SegM) : List UInt8 := putL 4 [s.typ, s.flags] ++ putL 8 [s.off, s.vaddr, s.vaddr, s.filesz, s.memsz, s.align]
def hdrBy (name : Nat) (s : SecM) (p : Nat) : List UInt8 := putL 4 [name, s.typ] ++ putL 8 [s.flags, s.addr, p, s.size] ++ putL 4 [s.link, s.info] ++ putL 8 [s.align, s.ent]
/-- The names' places in the table. -/
def atsOf (e : ElfM) : List Nat := (buildR (namesOf e.secs)).2.1
/-- The header's and the segments' bytes. -/
def frontB (e : ElfM) : List UInt8 := headB e (headsOf e (tabOf e).length) ++ e.segs.flatMap segBy
def bodyB (e : ElfM) : List UInt8 := bodyF (frontB e) (e.secs.zip (placesOf e).1)
/-- All ahead of the sections' headers. -/
def midB (e : ElfM) : List UInt8 := bodyB e ++ tabOf e ++ List.replicate (headsOf e (tabOf e).length + 64 - ((placesOf e).2 + (tabOf e).length)) 0
def hdrsB (e : ElfM) : List UInt8 := (e.secs.zip ((atsOf e).zip (placesOf e).1)).flatMap fun p => hdrBy p.2.1 p.1 p.2.2
def tabSec (n : Nat) : SecM := ⟨[], 3, 0, 0, 1, n, 0, 0, 0, []⟩
/-- A file's bytes. -/
def fileB (e : ElfM) : List UInt8 := midB e ++ hdrsB e ++ hdrBy ((atsOf e)[e.secs.length]?.getD 0) (tabSec (tabOf e).length) (placesOf e).2
end Go.Proofs.Ytnhbgijecdeahaa
namespace Go.Proofs.Ytnhbgijecdeahaa
open Go.RowKit Go.Fd
/-- Is a stretch in the bytes? -/
def inB (l : List UInt8) (at_ size : Nat) : Bool := decide (at_ ≤ l.length) && decide (size ≤ l.length - at_)
end Go.Proofs.Ytnhbgijecdeahaa
namespace Go.Proofs.Ytnhbgijecdeahaa
open Go.RowKit Go.Fd
/-- A number at a place, and whether it is there. -/
def gN (l : List UInt8) (a s : Nat) : Nat := (getR l a s false).1
def okB (l : List UInt8) (a s : Nat) : Bool := decide ((getR l a s false).2 = 0)
end Go.Proofs.Ytnhbgijecdeahaa
namespace Go.Proofs.Ytnhbgijecdeahaa
open Go.RowKit Go.Fd
/-- A segment's header, as it is read; whether it is there. -/
def segP (l : List UInt8) (a : Nat) : SegM := ⟨gN l a 4, gN l (a + 4) 4, gN l (a + 8) 8, gN l (a + 16) 8, gN l (a + 32) 8, gN l (a + 40) 8, gN l (a + 48) 8⟩
def segOk (l : List UInt8) (a : Nat) : Bool := okB l a 4 && okB l (a + 4) 4 && okB l (a + 8) 8 && okB l (a + 16) 8 && okB l (a + 32) 8 && okB l (a + 40) 8 && okB l (a + 48) 8
end Go.Proofs.Ytnhbgijecdeahaa
namespace Go.Fd
open Go.RowKit
section
variable {P : Program} {Up : Exit → Prop} {L r : List Oper} {M : List (Nat × Yld)} {a : Act} {w0 : World} {E : Act → Prop} {i : Nat} {o : Oper}
end
end Go.Fd
namespace Go.Proofs.Ytnhbgijecdeahaa
open Go.RowKit Go.Fd
end Go.Proofs.Ytnhbgijecdeahaa
namespace Go.Proofs.Ytnhbgijecdeahaa
open Go.RowKit Go.Fd
theorem run_litB0 {a : Act} {w : World} {d : Option Tmp} {ty : TypeId} {pos : String} {aft : Array Edge} {g : Option (Nat × Bool)} :
    (execOp a.eval ⟨d, .buildSlice 67 0 #[], ty, pos, aft, g⟩).run Try.prog w = .ok (.value (.slice (some ⟨w.heap.size, 0, none⟩) 0 0)) (w.alloc (.cells #[] 5)) := by
  kernel_rfl
set_option maxRecDepth 100000 in
theorem clone_any (l : List UInt8) (v : Value) (w : World) (hl : l.length ≤ 1000000000) (hv : Bs w v l) :
    Calls Try.prog 31 #[v] w fun r w' => (∃ u, r = .returned u ∧ OB w' w.heap.size u l) ∧ Below w.heap.size w w' := by
  have HV := Lib.hid hv
  obtain ⟨m, ad, cap, hm, rfl, hmc, hnil⟩ := hv.shape
  have HM := Lib.hid hm.out
  clear hv
  cases ad with
  | none =>
    have h0 := hnil rfl
    have hl0 : l = [] := List.eq_nil_of_length_eq_zero (by have := HM.out; omega)
    have hm0 : m = 0 := by omega
    subst hl0 hm0 h0
    have hq := fun (w : World) (a : Option Addr) (n c : Nat) => Lib.run_eql_slice_nil (P := Try.prog) w 67 5 a n c 0 0 (by kernel_rfl)
    go_enter Try.func31, Try.ntmps31
    go_wp2
    go_ret
    exact ⟨⟨_, rfl, OB.nil _ _⟩, Below.refl _ _⟩
  | some a =>
    have HO := Lib.hid (show OB (w.alloc (.cells #[] 5)) w.heap.size (.slice (some ⟨w.heap.size, 0, none⟩) 0 0) [] from World.ownsRow_lit (base := w.heap.size) (size := 1) w #[] 0 (Nat.le_refl _) (by unfold maxLen; omega) rfl)
    have HB := Lib.hid (below_alloc w (.cells #[] 5))
    have HS : w.heap.size < (w.alloc (.cells #[] 5)).heap.size := by rw [World.size_alloc]; omega
    obtain ⟨w1, hw1⟩ : ∃ w1, w1 = w.alloc (.cells #[] 5) := ⟨_, rfl⟩
    rw [← hw1] at HO HB HS
    have HW := Lib.hid hw1
    clear hw1 hnil
    have hq := fun (w : World) (a : Option Addr) (n c : Nat) => Lib.run_eql_slice_nil (P := Try.prog) w 67 5 a n c 0 0 (by kernel_rfl)
    go_enter Try.func31, Try.ntmps31
    go_wp2_with (first
      | ((with_reducible show wpList _ _ _ (⟨some 5, _, _, _, _, _⟩ :: _) _ _); go_must (refine wpList_val rfl run_litB0 ?_; rw [← HW.out]))
      | ((with_reducible show wpList _ _ _ (⟨some 7, _, _, _, _, _⟩ :: _) _ _); go_must (refine wpList_catB HO.out (HV.out.mono HB.out) rfl rfl (by simp; omega) (Nat.le_of_lt HS) ?_; intro v2 w2 hv2 _ hb2; have HV2 := Lib.hid hv2; have HB2 := Lib.hid (HB.out.trans hb2); clear hv2 hb2)))
    go_ret
    exact ⟨⟨_, rfl, by have := HV2.out; rwa [List.nil_append] at this⟩, HB2.out⟩
end Go.Proofs.Ytnhbgijecdeahaa
namespace Go.Proofs.Ytnhbgijecdeahaa
open Go.RowKit Go.Fd
theorem heap_base {w w' : World} {base b : Nat} {o : Obj} (h : Below base w w') (hb : w.heap[b]? = some o) (hlt : b < base) : w'.heap[b]? = some o := by rw [h.block b hlt]; exact hb
end Go.Proofs.Ytnhbgijecdeahaa
namespace Go.Proofs.Ytnhbgijecdeahaa
open Go.RowKit Go.Fd
/-- One cell of a block that was made. -/
theorem wpList_set {P : Program} {ops : Array Oper} {rest : List Oper} {Q : Exit → Act → World → Prop} {a : Act} {w : World} {d : Option Tmp} {ty t tb : TypeId} {pos : String} {aft : Array Edge} {p x : Operand} {c : Array Value} {g j base m cap : Nat} {ad : Option Addr} (hg : w.heap[g]? = some (.cells c tb (0, 0))) (hj : j < c.size) (hp : a.eval p = .pointer (some ⟨g, j, none⟩)) (hx : a.eval x = .slice ad m cap) (hB : base ≤ g) (hBw : base ≤ w.heap.size) (hs : ∀ w, (sizeOf t).run P w = .ok 1 w)
    (h : ∀ w1, w1.heap[g]? = some (.cells (c.setIfInBounds j (.slice ad m cap)) tb (0, 0)) → Below base w w1 → Stirs (fun k => k = g) w w1 → wpList P ops Q rest (a.put d undef) w1) :
    wpList P ops Q (⟨d, .store t p x, ty, pos, aft, none⟩ :: rest) a w := by
  have hc : w.cell? ⟨g, j, none⟩ = some c[j] := (cell_rec hg j).trans (Array.getElem?_eq_getElem hj)
  have hfz := free_rec' hg j
  have hst : Stirs (fun k => k = g) w (w.setCell ⟨g, j, none⟩ (.slice ad m cap)) := stirs_setCell (S := fun k => k = g) _ g j _ rfl
  refine wpList_did (w' := w.setCell ⟨g, j, none⟩ (.slice ad m cap)) rfl ?_ (h _ ?_ ?_ hst)
  · simp only [execOp, hp, hx]
    simp [go_sem, hs, hc, hfz]
  · simp [World.setCell, Array.getElem?_modify, hg]
  · exact hst.below hBw (fun k hk => by rw [hk]; exact hB)
theorem own_kind {w : World} {base e size n : Nat} {v : Value} {xs : List Value} (h : w.ownsRow base e size v n xs) : ∀ g, v.ownBlock = some g → ∃ c fz, w.heap[g]? = some (.cells c e fz) := by
  intro g hg
  rcases h.2 with ⟨rfl, _⟩ | ⟨g', cap, cur, rfl, _, hh, _⟩
  · cases hg
  · cases hg
    exact ⟨cur, _, hh⟩
end Go.Proofs.Ytnhbgijecdeahaa
namespace Go.Proofs.Ytnhbgijecdeahaa
open Go.RowKit Go.Fd
/-- A section's header, as it is read; whether it is there, with its name and its bytes. -/
def secP (l tab : List UInt8) (a : Nat) : SecM := ⟨(atR tab (gN l a 4 : Nat)).1, gN l (a + 4) 4, gN l (a + 8) 8, gN l (a + 16) 8, gN l (a + 48) 8, gN l (a + 32) 8, gN l (a + 40) 4, gN l (a + 44) 4, gN l (a + 56) 8, if gN l (a + 4) 4 = 8 then [] else (l.drop (gN l (a + 24) 8)).take (gN l (a + 32) 8)⟩
def secOk (l tab : List UInt8) (a : Nat) : Bool := decide (a + 64 ≤ l.length) && decide ((atR tab (gN l a 4 : Nat)).2 = 0) && (decide (gN l (a + 4) 4 = 8) || inB l (gN l (a + 24) 8) (gN l (a + 32) 8))
/-- A whole struct into a block that was made; what else stays. -/
theorem wpList_storeRowS {P : Program} {ops : Array Oper} {rest : List Oper} {Q : Exit → Act → World → Prop} {a : Act} {w : World} {d : Option Tmp} {ty t : TypeId} {pos : String} {aft : Array Edge} {p x : Operand} {c c' : Array Value} {g : Nat} (hg : w.heap[g]? = some (.cells c t (0, 0))) (hp : a.eval p = .pointer (some ⟨g, 0, none⟩)) (hx : a.eval x = .agg c')
    (ho : c.size = c'.size) (hs : (P.info? t).map (·.size) = some c'.size) (h1 : c'.all (·.oneCell') = true)
    (h : ∀ w1, w1.heap[g]? = some (.cells c' t (0, 0)) → Stirs (fun k => k = g) w w1 → wpList P ops Q rest (a.put d undef) w1) :
    wpList P ops Q (⟨d, .store t p x, ty, pos, aft, none⟩ :: rest) a w := by
  have hr : (execOp a.eval ⟨d, .store t p x, ty, pos, aft, none⟩).run P w = .ok .skip (w.setRow g c') := by
    simp only [execOp, hp, hx, Instr.storeAt, Instr.sureAddr, Sem.run_bind, Sem.run_pure, Result.andThen, run_storeVar_row w g t t c c' hg hs ho h1]
  refine wpList_did rfl hr (h _ ?_ ?_)
  · simp only [World.setRow]
    rw [Array.getElem?_modify, if_pos rfl, hg]
    rfl
  · refine ⟨rfl, rfl, rfl, by simp [World.setRow], fun k _ hk => ?_⟩
    have : g ≠ k := fun e => hk e.symm
    simp only [World.setRow]
    rw [Array.getElem?_modify, if_neg this]
attribute [local irreducible] gN okB inB atR
end Go.Proofs.Ytnhbgijecdeahaa
namespace Go.Proofs.Ytnhbgijecdeahaa
open Go.RowKit Go.Fd
def nsegsP (l : List UInt8) : Nat := gN l 56 2
def nsecsP (l : List UInt8) : Nat := gN l 60 2 - 2
def lastP (l : List UInt8) : Nat := gN l 40 8 + 64 * (nsecsP l + 1)
def tabP (l : List UInt8) : List UInt8 := (l.drop (gN l (lastP l + 24) 8)).take (gN l (lastP l + 32) 8)
def segsP (l : List UInt8) (n : Nat) : List SegM := (List.range n).map fun i => segP l (64 + 56 * i)
def secsP (l : List UInt8) (n : Nat) : List SecM := (List.range n).map fun i => secP l (tabP l) (gN l 40 8 + 64 * (i + 1))
/-- What is read of a file of a target. -/
def parseE (l : List UInt8) (target : Int) : ElfM := ⟨(gN l 16 2 : Nat), target, gN l 48 4, gN l 24 8, secsP l (nsecsP l), segsP l (nsegsP l)⟩
/-- Is all there? -/
structure OkP (l : List UInt8) : Prop where
  n1 : gN l 56 2 ≤ 16
  n2 : 2 ≤ gN l 60 2
  n3 : gN l 60 2 ≤ 252
  segs : ∀ i, i < nsegsP l → segOk l (64 + 56 * i) = true
  heads : gN l 40 8 ≤ l.length
  t1 : okB l (lastP l + 24) 8 = true
  t2 : okB l (lastP l + 32) 8 = true
  tab : inB l (gN l (lastP l + 24) 8) (gN l (lastP l + 32) 8) = true
  secs : ∀ i, i < nsecsP l → secOk l (tabP l) (gN l 40 8 + 64 * (i + 1)) = true
theorem own_ne {w : World} {base e size n : Nat} {v : Value} {xs : List Value} {g : Nat} {cs : Array Value} {t : TypeId} {fr : Nat × Nat} (h : w.ownsRow base e size v n xs) (hg : w.heap[g]? = some (.cells cs t fr)) (he : t ≠ e) : ∀ k, v.ownBlock = some k → k ≠ g := by
  rintro k hk rfl
  obtain ⟨cs1, fz1, h1⟩ := own_kind h k hk
  rw [hg] at h1
  cases h1
  exact he rfl
/-- One record in a block of its own reads. -/
theorem rd_one {α : Type} {k : Nat} {enc : α → List Value} {w : World} {g : Nat} {cs : Array Value} {t : TypeId} {fr : Nat × Nat} {x : α} (hk : (enc x).length = k) (h : w.heap[g]? = some (.cells cs t fr)) (hc : cs = (enc x).toArray) : RdR k enc w (.slice (some ⟨g, 0, none⟩) 1 1) [x] := by
  subst hc
  refine ⟨by simp [hk], _, _, rfl, Nat.le_refl _, (fun h => by cases h), fun j hj => ⟨g, 0, rfl, ?_⟩⟩
  rw [Nat.zero_add, cell_rec h j]
  simp
end Go.Proofs.Ytnhbgijecdeahaa
namespace Go.Proofs.Ytnhbgijecdeahaa
open Go.RowKit Go.Fd
def elf0 : ElfM := ⟨0, 0, 0, 0, [], []⟩
/-- The target whose number is n, up to the k-th. -/
def tgt (n : Nat) : Nat → Int
  | 0 => 0
  | k + 1 => if mach ((k : Int) + 1) = n then (k : Int) + 1 else tgt n k
def magicE : List UInt8 := [127, 69, 76, 70, 2, 1, 1]
def targetR (l : List UInt8) : Int := tgt (gN l 18 2) 3
/-- What is told of bytes by their length, their first ones and their target; 0: nothing. -/
def codeR (l : List UInt8) : Int := if 4194304 < l.length then 6 else if l.length < 64 then 2 else if l.take 7 ≠ magicE then 4 else if targetR l = 0 then 11 else 0
open Classical in
/-- What is read of bytes. -/
noncomputable def readE (l : List UInt8) : ElfM × Int :=
  if codeR l ≠ 0 then (elf0, codeR l) else if OkP l ∧ mayE (parseE l (targetR l)) = true ∧ fileB (parseE l (targetR l)) = l then (parseE l (targetR l), 0) else (elf0, 4)
attribute [local irreducible] gN okB inB atR segOk secOk segP secP tabP readE
end Go.Proofs.Ytnhbgijecdeahaa
namespace Go.Proofs.Ytnhbgijecdeahaa
open Go.RowKit Go.Fd
/-- A part. -/
structure PartM where
  name : List UInt8
  flags : List UInt8
  align : Int
  size : Int
  data : List UInt8
  relas : List RelaM
/-- A module. -/
structure ObjM where
  target : Int
  parts : List PartM
  syms : List SymM
/-- awxtn -/
def lettersM : List UInt8 := [97, 119, 120, 116, 110]
/-- Are flags letters in their order? -/
def ordF : List UInt8 → List UInt8 → Bool
  | [], _ => true
  | _ :: _, [] => false
  | c :: fs, x :: ls => if x = c then ordF fs ls else ordF (c :: fs) ls
def hasF (fs : List UInt8) (c : UInt8) : Bool := fs.any fun x => decide (x = c)
def relaN : List UInt8 := [46, 114, 101, 108, 97]
def symtabN : List UInt8 := [46, 115, 121, 109, 116, 97, 98]
def strtabN : List UInt8 := [46, 115, 116, 114, 116, 97, 98]
/-- May a part have the name? -/
def namedF (s : List UInt8) : Bool := decide ((buildR [s]).2.2 = 0) && !decide (s = []) && !decide (s = symtabN) && !decide (s = strtabN) && !decide (s = tabName) && !decide (s.take 5 = relaN)
def pow2F (n : Int) : Bool := decide (1 ≤ n) && decide (n ≤ 4096) && decide (n.toNat &&& (n.toNat - 1) = 0)
def sizedF (p : PartM) : Bool := if hasF p.flags 110 = true then decide (0 ≤ p.size) && decide (p.size ≤ 1048576) && decide (p.data = []) else decide (p.size = (p.data.length : Int))
/-- Why a part may not be. -/
def partE (p : PartM) (there : Bool) : Int :=
  if namedF p.name = false then 7 else if there = true then 8 else if ordF p.flags lettersM = false then 15 else if pow2F p.align = false then 10 else if sizedF p = false then 1 else 0
/-- The first part's error; the names ahead. -/
def partsE : List PartM → List (List UInt8) → Int
  | [], _ => 0
  | p :: ps, seen => if partE p (decide (p.name ∈ seen)) = 0 then partsE ps (seen ++ [p.name]) else partE p (decide (p.name ∈ seen))
def relE (n : Nat) (size : Int) (r : RelaM) : Int :=
  if r.sym < 0 ∨ (n : Int) < r.sym then 14 else if u64of size ≤ r.off then 5 else if r.typ < 0 ∨ 65535 < r.typ then 3 else 0
def firstE {α : Type} (f : α → Int) : List α → Int
  | [] => 0
  | x :: l => if f x = 0 then firstE f l else f x
def secE (n : Nat) (s : SymM) : Int := if (n : Int) < s.sec ∧ s.sec ≠ 65521 ∧ s.sec ≠ 65522 then 15 else 0
/-- Why a module may not be. -/
def mayO (o : ObjM) : Int :=
  if o.target < 1 ∨ 3 < o.target then 11 else
  if 100 < o.parts.length ∨ 16384 < o.syms.length then 6 else
  if partsE o.parts [] ≠ 0 then partsE o.parts [] else
  if (symW o.syms).2.2.2 ≠ 0 then (symW o.syms).2.2.2 else
  if firstE (secE o.parts.length) o.syms ≠ 0 then firstE (secE o.parts.length) o.syms else
  firstE (fun p => firstE (relE o.syms.length p.size) p.relas) o.parts
/-- ELF's flags of letters. -/
def bitsN (fs : List UInt8) : Nat := (if hasF fs 97 then 2 else 0) + (if hasF fs 119 then 1 else 0) + (if hasF fs 120 then 4 else 0) + (if hasF fs 116 then 1024 else 0)
def secPart (p : PartM) : SecM := ⟨p.name, if hasF p.flags 110 then 8 else 1, bitsN p.flags, 0, u64of p.align, u64of p.size, 0, 0, 0, p.data⟩
def hasRel (p : PartM) : Bool := decide (p.relas ≠ [])
def relSec (symtab i : Nat) (p : PartM) : SecM := ⟨relaN ++ p.name, 4, 64, 0, 8, (relaW p.relas).1.length, symtab, i + 1, 24, (relaW p.relas).1⟩
def relSecs (symtab : Nat) : Nat → List PartM → List SecM
  | _, [] => []
  | i, p :: ps => if hasRel p then relSec symtab i p :: relSecs symtab (i + 1) ps else relSecs symtab (i + 1) ps
def symtabNo (o : ObjM) : Nat := o.parts.length + o.parts.countP hasRel + 1
def symSec (o : ObjM) : SecM := ⟨symtabN, 2, 0, 0, 8, (symW o.syms).1.length, symtabNo o + 1, (symW o.syms).2.2.1, 24, (symW o.syms).1⟩
def strSec (o : ObjM) : SecM := ⟨strtabN, 3, 0, 0, 1, (symW o.syms).2.1.length, 0, 0, 0, (symW o.syms).2.1⟩
/-- A module as a file. -/
def elfO (o : ObjM) : ElfM := ⟨1, o.target, if o.target = 3 then 1 else 0, 0, o.parts.map secPart ++ relSecs (symtabNo o) 0 o.parts ++ [symSec o, strSec o], []⟩
def fileO (o : ObjM) : List UInt8 × Int := if mayO o ≠ 0 then ([], mayO o) else if mayE (elfO o) = true then (fileB (elfO o), 0) else ([], 6)
def objNo : ObjM := ⟨0, [], []⟩
end Go.Proofs.Ytnhbgijecdeahaa
namespace Go.Proofs.Ytnhbgijecdeahaa
open Go.RowKit Go.Fd
/-- A member of a library. -/
structure MemM where
  name : List UInt8
  obj : ObjM
/-- An input: a module, or a library. -/
structure InM where
  name : List UInt8
  obj : ObjM
  lib : List MemM
/-- A winner. -/
structure WinM where
  name : List UInt8
  mod : Int
  sym : Int
  common : Bool
  size : Nat
  align : Nat
deriving DecidableEq
/-- What is taken. -/
structure TakenM where
  mods : List ObjM
  names : List (List UInt8)
  wins : List WinM
def takenNo : TakenM := ⟨[], [], []⟩
def definesM (s : SymM) : Bool := !decide (s.bind = 0) && !decide (s.sec = 0) && !decide (s.name = [])
def needsM (s : SymM) : Bool := decide (s.bind = 1) && decide (s.sec = 0) && !decide (s.name = [])
/-- An input that is both. -/
def bothM (x : InM) : Bool := decide (0 < x.lib.length) && (!decide (x.obj.target = 0) || decide (0 < x.obj.parts.length) || decide (0 < x.obj.syms.length))
/-- Why inputs may not be. -/
def faultyM (l : List InM) : Int :=
  if l.any bothM = true then 1 else if 64 < l.length then 6 else if l.any (fun x => decide (64 < x.lib.length)) = true then 6 else 0
def objsI (x : InM) : List ObjM := (if x.lib = [] then [x.obj] else []) ++ x.lib.map (·.obj)
def objsM (l : List InM) : List ObjM := l.flatMap objsI
/-- A place: an input, a member; member -1: a module by itself. -/
abbrev Spot := Nat × Int
def objAt (l : List InM) (s : Spot) : ObjM :=
  match l[s.1]? with
  | none => objNo
  | some x => if s.2 < 0 then x.obj else match x.lib[s.2.toNat]? with
    | none => objNo
    | some m => m.obj
/-- A name put into a table of names, in order. -/
def insN : List (List UInt8) → List UInt8 → List (List UInt8)
  | [], s => [s]
  | t :: l, s => if s = t then t :: l else if s < t then s :: t :: l else t :: insN l s
def defN (D : List (List UInt8)) (s : SymM) : List (List UInt8) := if definesM s = true then insN D s.name else D
def defAll (D : List (List UInt8)) (l : List SymM) : List (List UInt8) := l.foldl defN D
def addS (T : List Spot) (s : Spot) : List Spot := if s ∈ T then T else T ++ [s]
/-- The first definers: a name's, if it has none yet. -/
abbrev Homes := List (List UInt8 × Spot)
def homeS (at_ : Spot) (H : Homes) (s : SymM) : Homes := if H.lookup s.name = none ∧ definesM s = true then H ++ [(s.name, at_)] else H
def homeO (at_ : Spot) (H : Homes) (o : ObjM) : Homes := o.syms.foldl (homeS at_) H
/-- A library's members, from a place on. -/
def homeL (i : Nat) : Nat → List MemM → Homes → Homes
  | _, [], H => H
  | k, m :: ms, H => homeL i (k + 1) ms (homeO (i, (k : Int)) H m.obj)
/-- What has been drawn. -/
structure Drn where
  taken : List Spot
  defd : List (List UInt8)
def takeM (l : List InM) (d : Drn) (s : Spot) : Drn := ⟨addS d.taken s, defAll d.defd (objAt l s).syms⟩
/-- Inputs as they are met: modules are taken, members' names told. -/
def startM (l : List InM) : Nat → List InM → Drn × Homes → Drn × Homes
  | _, [], d => d
  | i, x :: xs, d => startM l (i + 1) xs (if x.lib = [] then takeM l d.1 (i, -1) else d.1, homeL i 0 x.lib d.2)
def orderI (T : List Spot) (i : Nat) (x : InM) : List Spot := (if x.lib = [] then [(i, -1)] else []) ++ ((List.range x.lib.length).filter fun (k : Nat) => decide ((i, (k : Int)) ∈ T)).map fun (k : Nat) => (i, (k : Int))
def orderM : Nat → List InM → List Spot → List Spot
  | _, [], _ => []
  | i, x :: xs, T => orderI T i x ++ orderM (i + 1) xs T
def wantS (D : List (List UInt8)) (H : Homes) (s : SymM) : Option Spot := if s.name ∈ D ∨ needsM s = false then none else H.lookup s.name
/-- The member that is to be drawn next. -/
def nextM (l : List InM) (H : Homes) (d : Drn) : Option Spot := (orderM 0 l d.taken).findSome? fun s => (objAt l s).syms.findSome? (wantS d.defd H)
def drawG (l : List InM) (H : Homes) : Nat → Drn → Drn
  | 0, d => d
  | n + 1, d => match nextM l H d with
    | none => d
    | some s => drawG l H n (takeM l d s)
def memsM (l : List InM) : Nat := (l.map fun x => x.lib.length).sum
def drawnM (l : List InM) : Drn := drawG l (startM l 0 l (⟨[], []⟩, [])).2 (memsM l + 1) (startM l 0 l (⟨[], []⟩, [])).1
def rankM (s : SymM) : Int := if s.sec = 65522 then 2 else if s.bind = 2 then 1 else 3
/-- A value put into its key's place, or behind. -/
def putA {β : Type} (A : List (List UInt8 × β)) (s : List UInt8) (v : β) : List (List UInt8 × β) :=
  if s ∈ A.map (·.1) then A.map (fun p => if p.1 = s then (s, v) else p) else A ++ [(s, v)]
/-- What a chooser knows. -/
structure Cho where
  wins : List (List UInt8 × WinM)
  ranks : List (List UInt8 × Int)
  aligns : List (List UInt8 × Nat)
  twice : Bool
def choNo : Cho := ⟨[], [], [], false⟩
def winNo (s : List UInt8) : WinM := ⟨s, -1, -1, false, 0, 0⟩
def winsM (c : Cho) (s : List UInt8) : List (List UInt8 × WinM) := if s ∈ c.wins.map (·.1) then c.wins else c.wins ++ [(s, winNo s)]
def winOf (A : List (List UInt8 × WinM)) (s : List UInt8) : WinM := (A.lookup s).getD (winNo s)
def rankOf (A : List (List UInt8 × Int)) (s : List UInt8) : Int := (A.lookup s).getD 0
def alignOf (A : List (List UInt8 × Nat)) (s : List UInt8) : Nat := (A.lookup s).getD 0
/-- Does a definition lose? -/
def losesM (r was : Int) (size old : Nat) : Bool := decide (r < was) || (decide (r = was) && (!decide (r = 2) || decide (size ≤ old)))
def newWin (mod sym : Nat) (s : SymM) : WinM := ⟨s.name, mod, sym, decide (rankM s = 2), if rankM s = 2 then s.size else 0, 0⟩
def seeM (mod sym : Nat) (c : Cho) (s : SymM) : Cho :=
  if s.bind = 0 ∨ s.name = [] then c else
  if definesM s = false then { c with wins := winsM c s.name } else
  if losesM (rankM s) (rankOf c.ranks s.name) s.size (winOf (winsM c s.name) s.name).size = true then
    ⟨winsM c s.name, c.ranks, if rankM s = 2 then putA c.aligns s.name (max (alignOf c.aligns s.name) s.value) else c.aligns, c.twice || (decide (rankM s = 3) && decide (rankOf c.ranks s.name = 3))⟩
  else
    ⟨putA (winsM c s.name) s.name (newWin mod sym s), putA c.ranks s.name (rankM s), if rankM s = 2 then putA c.aligns s.name (max (alignOf c.aligns s.name) s.value) else c.aligns, c.twice || (decide (rankM s = 3) && decide (rankOf c.ranks s.name = 3))⟩
def seeS (i : Nat) : Nat → List SymM → Cho → Cho
  | _, [], c => c
  | k, s :: ss, c => seeS i (k + 1) ss (seeM i k c s)
def seeO : Nat → List ObjM → Cho → Cho
  | _, [], c => c
  | i, o :: os, c => seeO (i + 1) os (seeS i 0 o.syms c)
def lacksS (A : List (List UInt8 × WinM)) (known : List (List UInt8)) (s : SymM) : Bool := needsM s && decide ((winOf A s.name).mod < 0) && !decide (s.name ∈ known)
def lacksO (A : List (List UInt8 × WinM)) (known : List (List UInt8)) (o : ObjM) : Bool := o.syms.any (lacksS A known)
def winAl (c : Cho) (s : List UInt8) : WinM := if (winOf c.wins s).common = true then { winOf c.wins s with align := alignOf c.aligns s } else winOf c.wins s
/-- The winners of all names. -/
noncomputable def chosenM (mods : List ObjM) (known : List (List UInt8)) : List WinM × Int :=
  if (seeO 0 mods choNo).twice = true then ([], 19) else
  if mods.any (lacksO (seeO 0 mods choNo).wins known) = true then ([], 18) else
  ((((seeO 0 mods choNo).wins.map (·.1)).mergeSort leB).map (winAl (seeO 0 mods choNo)), 0)
def nameAt (l : List InM) (s : Spot) : List UInt8 :=
  match l[s.1]? with
  | none => []
  | some x => if s.2 < 0 then x.name else match x.lib[s.2.toNat]? with
    | none => x.name
    | some m => x.name ++ ([40] ++ m.name ++ [41])
noncomputable def resolveM (l : List InM) (known : List (List UInt8)) : TakenM × Int :=
  if faultyM l ≠ 0 then (takenNo, faultyM l) else
  if 256 < (orderM 0 l (drawnM l).taken).length then (takenNo, 6) else
  if firstE mayO (objsM l) ≠ 0 then (takenNo, firstE mayO (objsM l)) else
  if (objsM l).any (fun o => !decide (o.target = ((objsM l)[0]?.elim 0 (·.target)))) = true then (takenNo, 11) else
  if (chosenM ((orderM 0 l (drawnM l).taken).map (objAt l)) known).2 ≠ 0 then (takenNo, (chosenM ((orderM 0 l (drawnM l).taken).map (objAt l)) known).2) else
  (⟨(orderM 0 l (drawnM l).taken).map (objAt l), (orderM 0 l (drawnM l).taken).map (nameAt l), (chosenM ((orderM 0 l (drawnM l).taken).map (objAt l)) known).1⟩, 0)
end Go.Proofs.Ytnhbgijecdeahaa
namespace Go.Proofs.Ytnhbgijecdeahaa
open Go.RowKit Go.Fd
section
variable {β : Type}
theorem lookup_mapA (A : List (List UInt8 × β)) (s t : List UInt8) (v : β) : (A.map (fun p => if p.1 = s then (s, v) else p)).lookup t = if t = s then (if s ∈ A.map (·.1) then some v else none) else A.lookup t := by
  induction A with
  | nil => simp
  | cons p A ih =>
    obtain ⟨y, u⟩ := p
    by_cases hy : y = s
    · subst hy
      by_cases ht : t = y
      · subst ht
        simp
      · have h2 : (t == y) = false := by simpa using ht
        rw [if_neg ht] at ih ⊢
        rw [List.map_cons, List.lookup_cons, if_pos rfl, List.lookup_cons]
        rw [h2]
        exact ih
    · by_cases ht : t = s
      · subst ht
        have h2 : (t == y) = false := by simpa using fun e => hy e.symm
        rw [if_pos rfl] at ih ⊢
        have h3 : ¬ t = y := fun e => hy e.symm
        rw [List.map_cons, List.lookup_cons, if_neg hy]
        rw [h2, List.map_cons]
        refine ih.trans ?_
        by_cases hm : t ∈ A.map (·.1)
        · rw [if_pos hm, if_pos (List.mem_cons_of_mem _ hm)]
        · rw [if_neg hm, if_neg (by rw [List.mem_cons]; exact fun h => h.elim h3 hm)]
      · rw [if_neg ht] at ih ⊢
        simp only [List.map_cons, List.lookup_cons, hy, if_false, ih]
theorem lookup_snoc (A : List (List UInt8 × β)) (s t : List UInt8) (v : β) : (A ++ [(s, v)]).lookup t = match A.lookup t with
    | some x => some x
    | none => if t = s then some v else none := by
  induction A with
  | nil =>
    by_cases h : t = s
    · subst h; simp
    · have : (t == s) = false := by simpa using h
      simp [List.lookup_cons, this, h]
  | cons p A ih =>
    obtain ⟨y, u⟩ := p
    rw [List.cons_append, List.lookup_cons, List.lookup_cons]
    cases t == y with
    | true => rfl
    | false => exact ih
theorem lookup_noneA {A : List (List UInt8 × β)} {t : List UInt8} : A.lookup t = none ↔ t ∉ A.map (·.1) := by
  induction A with
  | nil => simp
  | cons p A ih =>
    obtain ⟨y, u⟩ := p
    rw [List.lookup_cons]
    by_cases h : t = y
    · subst h; simp
    · have h2 : (t == y) = false := by simpa using h
      rw [h2]
      simp only [List.map_cons, List.mem_cons, h, false_or]
      exact ih
theorem lookup_putA (A : List (List UInt8 × β)) (s t : List UInt8) (v : β) : (putA A s v).lookup t = if t = s then some v else A.lookup t := by
  unfold putA
  split
  · rename_i h
    rw [lookup_mapA, if_pos h]
  · rename_i h
    rw [lookup_snoc]
    by_cases ht : t = s
    · subst ht
      rw [lookup_noneA.2 h]
    · rw [if_neg ht, if_neg ht]
      cases A.lookup t <;> rfl
theorem keys_putA (A : List (List UInt8 × β)) (s : List UInt8) (v : β) : (putA A s v).map (·.1) = if s ∈ A.map (·.1) then A.map (·.1) else A.map (·.1) ++ [s] := by
  unfold putA
  split
  · rw [List.map_map]
    apply List.map_congr_left
    intro p _
    simp only [Function.comp_apply]
    split
    · rename_i h; exact h.symm
    · rfl
  · simp
end
theorem winOf_wins (c : Cho) (s t : List UInt8) : winOf (winsM c s) t = winOf c.wins t := by
  unfold winsM winOf
  split
  · rfl
  · rename_i h
    rw [lookup_snoc]
    by_cases ht : t = s
    · subst ht
      rw [lookup_noneA.2 h]
      simp
    · cases h2 : c.wins.lookup t <;> simp [ht]
theorem winOf_put (A : List (List UInt8 × WinM)) (s t : List UInt8) (v : WinM) : winOf (putA A s v) t = if t = s then v else winOf A t := by
  unfold winOf
  rw [lookup_putA]
  split <;> rfl
theorem rankOf_put (A : List (List UInt8 × Int)) (s t : List UInt8) (v : Int) : rankOf (putA A s v) t = if t = s then v else rankOf A t := by
  unfold rankOf
  rw [lookup_putA]
  split <;> rfl
theorem keys_wins (c : Cho) (s : List UInt8) : (winsM c s).map (·.1) = if s ∈ c.wins.map (·.1) then c.wins.map (·.1) else c.wins.map (·.1) ++ [s] := by
  unfold winsM
  split <;> simp
theorem mem_wins (c : Cho) (s : List UInt8) : s ∈ (winsM c s).map (·.1) := by
  rw [keys_wins]
  split
  · assumption
  · simp
theorem nodup_add {α : Type} [BEq α] [LawfulBEq α] {l : List α} (h : l.Nodup) (x : α) : (if x ∈ l then l else l ++ [x]).Nodup := by
  split
  · exact h
  · rename_i hx
    rw [List.nodup_append]
    refine ⟨h, by simp, fun a ha b hb e => hx ?_⟩
    rw [List.mem_singleton] at hb
    rw [← hb, ← e]
    exact ha
theorem mem_add {α : Type} [BEq α] [LawfulBEq α] {l : List α} {x y : α} : y ∈ (if x ∈ l then l else l ++ [x]) ↔ y ∈ l ∨ y = x := by
  split
  · rename_i h
    constructor
    · exact Or.inl
    · rintro (h1 | rfl)
      · exact h1
      · exact h
  · simp
/-- What a chooser knows of the symbols that it has seen. -/
structure ChoOk (P : Nat → Nat → SymM → Prop) (c : Cho) : Prop where
  nodup : (c.wins.map (·.1)).Nodup
  keys : ∀ s, s ∈ c.wins.map (·.1) ↔ ∃ m k x, P m k x ∧ x.name = s ∧ x.bind ≠ 0 ∧ s ≠ []
  name : ∀ s, (winOf c.wins s).name = s
  zero : ∀ s, rankOf c.ranks s = 0 → (winOf c.wins s).mod = -1 ∧ (winOf c.wins s).common = false
  got : ∀ s, rankOf c.ranks s ≠ 0 → ∃ m k x, P m k x ∧ x.name = s ∧ definesM x = true ∧ rankM x = rankOf c.ranks s ∧ (winOf c.wins s).mod = (m : Int) ∧ (winOf c.wins s).sym = (k : Int) ∧ (winOf c.wins s).common = decide (rankM x = 2)
  most : ∀ m k x, P m k x → definesM x = true → rankM x ≤ rankOf c.ranks x.name
theorem rankM_pos (s : SymM) : 1 ≤ rankM s ∧ rankM s ≤ 3 := by
  unfold rankM
  split
  · omega
  · split <;> omega
theorem choOk_no : ChoOk (fun _ _ _ => False) choNo where
  nodup := by simp [choNo]
  keys s := by simp [choNo]
  name s := rfl
  zero s _ := ⟨rfl, rfl⟩
  got s h := absurd rfl h
  most _ _ _ h := h.elim
theorem definesM_iff {s : SymM} : definesM s = true ↔ s.bind ≠ 0 ∧ s.sec ≠ 0 ∧ s.name ≠ [] := by
  unfold definesM
  simp [and_assoc]
theorem ChoOk.see {P : Nat → Nat → SymM → Prop} {c : Cho} (h : ChoOk P c) (i j : Nat) (y : SymM) : ChoOk (fun m k x => P m k x ∨ (m = i ∧ k = j ∧ x = y)) (seeM i j c y) := by
  unfold seeM
  by_cases h1 : y.bind = 0 ∨ y.name = []
  · rw [if_pos h1]
    have hnd : definesM y = false := by
      cases hd : definesM y with
      | false => rfl
      | true =>
        obtain ⟨a, -, b⟩ := definesM_iff.1 hd
        rcases h1 with h1 | h1
        · exact absurd h1 a
        · exact absurd h1 b
    refine ⟨h.nodup, fun s => ?_, h.name, h.zero, fun s hs => ?_, ?_⟩
    · rw [h.keys s]
      constructor
      · rintro ⟨m, k, x, hp, r⟩
        exact ⟨m, k, x, .inl hp, r⟩
      · rintro ⟨m, k, x, hp | ⟨rfl, rfl, rfl⟩, r⟩
        · exact ⟨m, k, x, hp, r⟩
        · obtain ⟨rfl, hb, hn⟩ := r
          rcases h1 with h1 | h1
          · exact absurd h1 hb
          · exact absurd h1 hn
    · obtain ⟨m, k, x, hp, r⟩ := h.got s hs
      exact ⟨m, k, x, .inl hp, r⟩
    · rintro m k x (hp | ⟨rfl, rfl, rfl⟩) hd
      · exact h.most m k x hp hd
      · rw [hnd] at hd
        cases hd
  rw [if_neg h1]
  have hb : y.bind ≠ 0 := fun e => h1 (.inl e)
  have hn : y.name ≠ [] := fun e => h1 (.inr e)
  have hkeys : ∀ (l : List (List UInt8)), l = (if y.name ∈ c.wins.map (·.1) then c.wins.map (·.1) else c.wins.map (·.1) ++ [y.name]) → ∀ s, s ∈ l ↔ ∃ m k x, (P m k x ∨ (m = i ∧ k = j ∧ x = y)) ∧ x.name = s ∧ x.bind ≠ 0 ∧ s ≠ [] := by
    rintro l rfl s
    rw [mem_add, h.keys s]
    constructor
    · rintro (⟨m, k, x, hp, r⟩ | rfl)
      · exact ⟨m, k, x, .inl hp, r⟩
      · exact ⟨i, j, y, .inr ⟨rfl, rfl, rfl⟩, rfl, hb, hn⟩
    · rintro ⟨m, k, x, hp | ⟨rfl, rfl, rfl⟩, r⟩
      · exact .inl ⟨m, k, x, hp, r⟩
      · exact .inr r.1.symm
  have hnd : ((winsM c y.name).map (·.1)).Nodup := by
    rw [keys_wins]
    exact nodup_add h.nodup _
  by_cases h2 : definesM y = false
  · rw [if_pos h2]
    refine ⟨hnd, hkeys _ (keys_wins c y.name), fun s => ?_, fun s hs => ?_, fun s hs => ?_, ?_⟩
    · dsimp only
      rw [winOf_wins]
      exact h.name s
    · dsimp only at hs ⊢
      rw [winOf_wins]
      exact h.zero s hs
    · dsimp only at hs ⊢
      rw [winOf_wins]
      obtain ⟨m, k, x, hp, r⟩ := h.got s hs
      exact ⟨m, k, x, .inl hp, r⟩
    · rintro m k x (hp | ⟨rfl, rfl, rfl⟩) hd
      · exact h.most m k x hp hd
      · rw [h2] at hd
        cases hd
  rw [if_neg h2]
  have hd : definesM y = true := by simpa using h2
  have hr := rankM_pos y
  by_cases h3 : losesM (rankM y) (rankOf c.ranks y.name) y.size (winOf (winsM c y.name) y.name).size = true
  · rw [if_pos h3]
    have hle : rankM y ≤ rankOf c.ranks y.name := by
      unfold losesM at h3
      simp only [Bool.or_eq_true, Bool.and_eq_true, decide_eq_true_eq] at h3
      omega
    refine ⟨hnd, hkeys _ (keys_wins c y.name), fun s => ?_, fun s hs => ?_, fun s hs => ?_, ?_⟩
    · dsimp only
      rw [winOf_wins]
      exact h.name s
    · dsimp only at hs ⊢
      rw [winOf_wins]
      exact h.zero s hs
    · dsimp only at hs ⊢
      rw [winOf_wins]
      obtain ⟨m, k, x, hp, r⟩ := h.got s hs
      exact ⟨m, k, x, .inl hp, r⟩
    · rintro m k x (hp | ⟨rfl, rfl, rfl⟩) hd
      · exact h.most m k x hp hd
      · exact hle
  · rw [if_neg h3]
    have hge : rankOf c.ranks y.name ≤ rankM y := by
      unfold losesM at h3
      simp only [Bool.or_eq_true, Bool.and_eq_true, decide_eq_true_eq, not_or] at h3
      omega
    have hk2 : (putA (winsM c y.name) y.name (newWin i j y)).map (·.1) = (winsM c y.name).map (·.1) := by
      rw [keys_putA, if_pos (mem_wins c y.name)]
    refine ⟨by dsimp only; rw [hk2]; exact hnd, by dsimp only; exact hkeys _ (hk2.trans (keys_wins c y.name)), fun s => ?_, fun s hs => ?_, fun s hs => ?_, ?_⟩
    · dsimp only
      rw [winOf_put, winOf_wins]
      split
      · rename_i e; exact e.symm
      · exact h.name s
    · dsimp only at hs ⊢
      rw [rankOf_put] at hs
      rw [winOf_put, winOf_wins]
      split at hs
      · omega
      · rename_i e
        rw [if_neg e]
        exact h.zero s hs
    · dsimp only at hs ⊢
      rw [rankOf_put] at hs ⊢
      rw [winOf_put, winOf_wins]
      split at hs
      · rename_i e
        rw [if_pos e, if_pos e]
        exact ⟨i, j, y, .inr ⟨rfl, rfl, rfl⟩, e.symm, hd, rfl, rfl, rfl, rfl⟩
      · rename_i e
        rw [if_neg e, if_neg e]
        obtain ⟨m, k, x, hp, r⟩ := h.got s hs
        exact ⟨m, k, x, .inl hp, r⟩
    · rintro m k x (hp | ⟨rfl, rfl, rfl⟩) hd'
      · dsimp only
        rw [rankOf_put]
        have := h.most m k x hp hd'
        split
        · rename_i e
          rw [e] at this
          omega
        · exact this
      · dsimp only
        rw [rankOf_put, if_pos rfl]
        exact Int.le_refl _
theorem ChoOk.congr {P Q : Nat → Nat → SymM → Prop} {c : Cho} (h : ChoOk P c) (e : ∀ m k x, P m k x ↔ Q m k x) : ChoOk Q c := by
  have : P = Q := by
    funext m k x
    exact propext (e m k x)
  rw [← this]
  exact h
theorem ChoOk.seeS {P : Nat → Nat → SymM → Prop} {i : Nat} : ∀ {l : List SymM} {j : Nat} {c : Cho}, ChoOk P c → ChoOk (fun m k x => P m k x ∨ (m = i ∧ j ≤ k ∧ l[k - j]? = some x)) (seeS i j l c)
  | [], j, c, h => by
    unfold Go.Proofs.Ytnhbgijecdeahaa.seeS
    exact h.congr fun m k x => by simp
  | y :: l, j, c, h => by
    rw [Go.Proofs.Ytnhbgijecdeahaa.seeS]
    refine ((h.see i j y).seeS (j := j + 1) (l := l)).congr fun m k x => ?_
    constructor
    · rintro ((h1 | ⟨rfl, rfl, rfl⟩) | ⟨rfl, h1, h2⟩)
      · exact .inl h1
      · exact .inr ⟨rfl, Nat.le_refl _, by simp⟩
      · refine .inr ⟨rfl, by omega, ?_⟩
        rw [show k - j = (k - (j + 1)) + 1 by omega, List.getElem?_cons_succ]
        exact h2
    · rintro (h1 | ⟨rfl, h1, h2⟩)
      · exact .inl (.inl h1)
      · by_cases e : k = j
        · subst e
          rw [Nat.sub_self, List.getElem?_cons_zero] at h2
          cases h2
          exact .inl (.inr ⟨rfl, rfl, rfl⟩)
        · rw [show k - j = (k - (j + 1)) + 1 by omega, List.getElem?_cons_succ] at h2
          exact .inr ⟨rfl, by omega, h2⟩
theorem ChoOk.seeO {P : Nat → Nat → SymM → Prop} : ∀ {l : List ObjM} {i : Nat} {c : Cho}, ChoOk P c → ChoOk (fun m k x => P m k x ∨ (i ≤ m ∧ ∃ o, l[m - i]? = some o ∧ o.syms[k]? = some x)) (seeO i l c)
  | [], i, c, h => by
    unfold Go.Proofs.Ytnhbgijecdeahaa.seeO
    exact h.congr fun m k x => by simp
  | y :: l, i, c, h => by
    rw [Go.Proofs.Ytnhbgijecdeahaa.seeO]
    refine ((h.seeS (i := i) (j := 0) (l := y.syms)).seeO (i := i + 1) (l := l)).congr fun m k x => ?_
    constructor
    · rintro ((h1 | ⟨rfl, h1, h2⟩) | ⟨h1, o, h2, h3⟩)
      · exact .inl h1
      · exact .inr ⟨Nat.le_refl _, y, by simp, by simpa using h2⟩
      · refine .inr ⟨by omega, o, ?_, h3⟩
        rw [show m - i = (m - (i + 1)) + 1 by omega, List.getElem?_cons_succ]
        exact h2
    · rintro (h1 | ⟨h1, o, h2, h3⟩)
      · exact .inl (.inl h1)
      · by_cases e : m = i
        · subst e
          rw [Nat.sub_self, List.getElem?_cons_zero] at h2
          cases h2
          exact .inl (.inr ⟨rfl, Nat.zero_le _, by simpa using h3⟩)
        · rw [show m - i = (m - (i + 1)) + 1 by omega, List.getElem?_cons_succ] at h2
          exact .inr ⟨by omega, o, h2, h3⟩
/-- A symbol of a module. -/
def SymAt (mods : List ObjM) (m k : Nat) (x : SymM) : Prop := ∃ o, mods[m]? = some o ∧ o.syms[k]? = some x
theorem choOk_all (mods : List ObjM) : ChoOk (SymAt mods) (seeO 0 mods choNo) :=
  (choOk_no.seeO (i := 0) (l := mods)).congr fun m k x => by
    unfold SymAt
    simp
/-- A strong definition of a name. -/
def strongM (s : SymM) (n : List UInt8) : Bool := decide (s.name = n) && decide (s.bind = 1) && !decide (s.sec = 0) && !decide (s.sec = 65522)
/-- What a winner is. -/
structure WinOk (mods : List ObjM) (w : WinM) : Prop where
  need : ∀ m k x, SymAt mods m k x → x.name = w.name → x.bind = 1 → x.sec = 0 → 0 ≤ w.mod
  lost : w.mod < 0 → w.common = false ∧ ∀ m k x, SymAt mods m k x → strongM x w.name = false
  won : 0 ≤ w.mod → ∃ m k x, SymAt mods m k x ∧ w.mod = (m : Int) ∧ w.sym = (k : Int) ∧ x.name = w.name ∧ x.bind ≠ 0 ∧ x.sec ≠ 0 ∧ w.common = decide (x.sec = 65522) ∧ ((∃ m k y, SymAt mods m k y ∧ strongM y w.name = true) → x.bind = 1 ∧ x.sec ≠ 65522)
theorem mergeS_perm (l : List (List UInt8)) : (l.mergeSort leB).Perm l := List.mergeSort_perm l leB
theorem mergeS_pair (l : List (List UInt8)) (h : l.Nodup) : (l.mergeSort leB).Pairwise (· < ·) := by
  have tr : ∀ a b c : List UInt8, leB a b = true → leB b c = true → leB a c = true := fun a b c h1 h2 => by simp only [leB, decide_eq_true_eq] at *; exact List.le_trans h1 h2
  have tto : ∀ a b : List UInt8, (leB a b || leB b a) = true := fun a b => by simp only [leB, Bool.or_eq_true, decide_eq_true_eq]; exact List.le_total a b
  have h1 := List.pairwise_mergeSort tr tto l
  have h2 : (l.mergeSort leB).Nodup := (mergeS_perm l).nodup_iff.2 h
  refine (h1.and h2).imp fun {a b} ⟨h3, h4⟩ => ?_
  simp only [leB, decide_eq_true_eq] at h3
  rcases List.le_iff_lt_or_eq.1 h3 with h | h
  · exact h
  · exact absurd h h4
theorem chosen_ok {mods : List ObjM} {known : List (List UInt8)} (h : (chosenM mods known).2 = 0) : (seeO 0 mods choNo).twice = false ∧ mods.any (lacksO (seeO 0 mods choNo).wins known) = false ∧ (chosenM mods known).1 = (((seeO 0 mods choNo).wins.map (·.1)).mergeSort leB).map (winAl (seeO 0 mods choNo)) := by
  unfold chosenM at h ⊢
  by_cases h1 : (seeO 0 mods choNo).twice = true
  · rw [if_pos h1] at h
    cases h
  · rw [if_neg h1] at h ⊢
    by_cases h2 : mods.any (lacksO (seeO 0 mods choNo).wins known) = true
    · rw [if_pos h2] at h
      cases h
    · rw [if_neg h2]
      exact ⟨by simpa using h1, by simpa using h2, rfl⟩
theorem winAl_name (c : Cho) (s : List UInt8) : (winAl c s).name = (winOf c.wins s).name ∧ (winAl c s).mod = (winOf c.wins s).mod ∧ (winAl c s).sym = (winOf c.wins s).sym ∧ (winAl c s).common = (winOf c.wins s).common := by
  unfold winAl
  split <;> exact ⟨rfl, rfl, rfl, rfl⟩
theorem chosen_names {mods : List ObjM} {known : List (List UInt8)} (h : (chosenM mods known).2 = 0) : ((chosenM mods known).1.map (·.name)).Pairwise (· < ·) ∧ ∀ s, s ∈ (chosenM mods known).1.map (·.name) ↔ ∃ m k x, SymAt mods m k x ∧ x.name = s ∧ x.bind ≠ 0 ∧ s ≠ [] := by
  obtain ⟨-, -, h3⟩ := chosen_ok h
  have hc := choOk_all mods
  have e : (chosenM mods known).1.map (·.name) = ((seeO 0 mods choNo).wins.map (·.1)).mergeSort leB := by
    rw [h3, List.map_map]
    have : ∀ s, ((·.name) ∘ winAl (seeO 0 mods choNo)) s = s := fun s => by
      simp only [Function.comp_apply]
      rw [(winAl_name _ s).1]
      exact hc.name s
    rw [show ((·.name) ∘ winAl (seeO 0 mods choNo)) = id from funext this, List.map_id]
  rw [e]
  refine ⟨mergeS_pair _ hc.nodup, fun s => ?_⟩
  rw [(mergeS_perm _).mem_iff]
  exact hc.keys s
theorem chosen_wins {mods : List ObjM} (h : (chosenM mods []).2 = 0) (hb : ∀ m k x, SymAt mods m k x → x.bind ≤ 2 ∧ 0 ≤ x.bind) {w : WinM} (hw : w ∈ (chosenM mods []).1) : WinOk mods w := by
  obtain ⟨-, h2, h3⟩ := chosen_ok h
  have hc := choOk_all mods
  rw [h3, List.mem_map] at hw
  obtain ⟨s, hs, rfl⟩ := hw
  rw [(mergeS_perm _).mem_iff, hc.keys s] at hs
  obtain ⟨m0, k0, x0, -, -, -, hs0⟩ := hs
  obtain ⟨e1, e2, e3, e4⟩ := winAl_name (seeO 0 mods choNo) s
  rw [hc.name s] at e1
  have hstrong : ∀ m k x, SymAt mods m k x → strongM x s = true → definesM x = true ∧ rankM x = 3 ∧ x.name = s := fun m k x _ hx => by
    unfold strongM at hx
    simp only [Bool.and_eq_true, decide_eq_true_eq, Bool.not_eq_true', decide_eq_false_iff_not] at hx
    obtain ⟨⟨⟨a, b⟩, c⟩, d⟩ := hx
    refine ⟨definesM_iff.2 ⟨by omega, c, by rw [a]; exact hs0⟩, ?_, a⟩
    unfold rankM
    rw [if_neg d, if_neg (by omega)]
  by_cases hr : rankOf (seeO 0 mods choNo).ranks s = 0
  · obtain ⟨z1, z2⟩ := hc.zero s hr
    refine ⟨fun m k x hx hn hb1 hs1 => ?_, fun _ => ⟨by rw [e4, z2], fun m k x hx => ?_⟩, fun h0 => by rw [e2, z1] at h0; omega⟩
    · exfalso
      rw [e1] at hn
      obtain ⟨o, ho, hk⟩ := hx
      rw [List.any_eq_false] at h2
      refine h2 o (List.mem_of_getElem? ho) (List.any_eq_true.2 ⟨x, List.mem_of_getElem? hk, ?_⟩)
      unfold lacksS needsM
      rw [hn, z1]
      simp [hb1, hs1, hs0]
    · rw [e1]
      cases hq : strongM x s with
      | false => rfl
      | true =>
        obtain ⟨a, b, c⟩ := hstrong m k x hx hq
        have := hc.most m k x hx a
        rw [c, hr, b] at this
        omega
  · obtain ⟨m, k, x, hx, hn, hd, hrk, q1, q2, q3⟩ := hc.got s hr
    have hm : (0 : Int) ≤ (winAl (seeO 0 mods choNo) s).mod := by rw [e2, q1]; omega
    obtain ⟨d1, d2, d3⟩ := definesM_iff.1 hd
    refine ⟨fun _ _ _ _ _ _ _ => hm, fun h0 => by omega, fun _ => ⟨m, k, x, hx, by rw [e2, q1], by rw [e3, q2], by rw [e1, hn], d1, d2, ?_, ?_⟩⟩
    · rw [e4, q3]
      congr 1
      rw [eq_iff_iff]
      unfold rankM
      split
      · simp [*]
      · split <;> simp [*]
    · rintro ⟨m', k', y, hy, hys⟩
      rw [e1] at hys
      obtain ⟨a, b, c⟩ := hstrong m' k' y hy hys
      have h5 := hc.most m' k' y hy a
      rw [c, b, ← hrk] at h5
      have h6 := hb m k x hx
      unfold rankM at h5
      split at h5
      · omega
      · split at h5
        · omega
        · exact ⟨by omega, by assumption⟩
end Go.Proofs.Ytnhbgijecdeahaa
namespace Go.Proofs.Ytnhbgijecdeahaa
open Go.RowKit Go.Fd
theorem ordF_nil (ls : List UInt8) : ordF [] ls = true := by cases ls <;> rfl
theorem ordF_miss {c : UInt8} {fs : List UInt8} : ∀ {ls : List UInt8}, Lib.indexByte ls c < 0 → ordF (c :: fs) ls = false := by
  intro ls
  induction ls with
  | nil => intro _; rfl
  | cons x ls ih =>
    intro h
    rw [Lib.indexByte] at h
    rw [ordF]
    split at h
    · omega
    · next hx =>
      have hx' : ¬ x = c := by simpa using hx
      rw [if_neg hx']
      refine ih ?_
      have := Lib.indexByte_ge ls c
      split at h
      · next h1 => have h1' := eq_of_beq h1; omega
      · omega
theorem ordF_hit {c : UInt8} {fs : List UInt8} : ∀ {ls : List UInt8} {n : Nat}, Lib.indexByte ls c = (n : Int) → n < ls.length ∧ ordF (c :: fs) ls = ordF fs (ls.drop (n + 1)) := by
  intro ls
  induction ls with
  | nil => intro n h; rw [Lib.indexByte] at h; omega
  | cons x ls ih =>
    intro n h
    rw [Lib.indexByte] at h
    rw [ordF]
    split at h
    · next hx =>
      obtain rfl : n = 0 := by omega
      rw [if_pos (by simpa using hx)]
      exact ⟨by simp, rfl⟩
    · next hx =>
      rw [if_neg (by simpa using hx)]
      split at h
      · omega
      · next h1 =>
        have h1' : ¬ Lib.indexByte ls c = -1 := by simpa using h1
        have := Lib.indexByte_ge ls c
        obtain ⟨m, rfl⟩ : ∃ m, n = m + 1 := ⟨n - 1, by omega⟩
        obtain ⟨h1, h2⟩ := ih (n := m) (by omega)
        exact ⟨by rw [List.length_cons]; omega, by rw [h2]; rfl⟩
theorem hasF_idx (fs : List UInt8) (c : UInt8) : hasF fs c = decide (0 ≤ Lib.indexByte fs c) := by
  rw [← Lib.contains_iff_indexByte]
  unfold hasF
  rw [List.contains_eq_any_beq]
  congr 1
  funext x
  rw [Bool.eq_iff_iff, decide_eq_true_iff, beq_iff_eq]
  exact eq_comm
theorem has_any (fs : List UInt8) (c : UInt8) (w : World) : Calls Try.prog 54 #[S fs, .string ⟨#[c]⟩] w fun e w' => e = .returned (.bool (hasF fs c)) ∧ w = w' := by
  refine (Try.strings_Contains_one ⟨fs.toArray⟩ c w).mono fun e w' ⟨he, hw⟩ => ⟨?_, hw.symm⟩
  rw [he, hasF_idx]
theorem indexByte_c (l : List UInt8) (c : UInt8) (w : World) : Calls Try.prog 53 #[S l, .int .u8 (c.toNat : Int)] w fun e w' => e = .returned (.int .i64 (Lib.indexByte l c)) ∧ w = w' := by
  refine (Try.strings_IndexByte ⟨l.toArray⟩ (c.toNat : Int) w).mono fun e w' ⟨he, hw⟩ => ⟨?_, hw.symm⟩
  rw [he]
  have : ((c.toNat : Int)).toNat.toUInt8 = c := by rw [Int.toNat_natCast]; exact UInt8.ofNat_toNat
  rw [this]
theorem run_idxS {l : List UInt8} {k : Nat} {c : UInt8} (h : l[k]? = some c) (w : World) : (Instr.index 9 (S l) (.int .i64 (k : Int))).run Try.prog w = .ok (.int .u8 (c.toNat : Int)) w := by
  obtain ⟨h1, h2⟩ := List.getElem?_eq_some_iff.1 h
  rw [run_index_string w _ ⟨l.toArray⟩ .i64 (k : Int) (by kernel_rfl), dif_pos ⟨by omega, by simpa [ByteArray.size] using h1⟩]
  subst h2
  rfl
theorem exec_index {P : Program} {w : World} {a : Act} {v i u : Value} {d : Option Tmp} {t ty : TypeId} {pos : String} {aft : Array Edge} {g : Option (Nat × Bool)} {x ix : Operand} (hr : (Instr.index t v i).run P w = .ok u w)
    (hx : a.eval x = v) (hi : a.eval ix = i) : (execOp a.eval ⟨d, .index t x ix, ty, pos, aft, g⟩).run P w = .ok (.value u) w := by
  simp [execOp, hx, hi, hr]
/-- letters[i:] -/
theorem run_letFrom {i : Nat} (hi : i ≤ 5) (w : World) : (Instr.sliceAt 9 (S lettersM) (some (.int .i64 (i : Int))) none none).run Try.prog w = .ok (S (lettersM.drop i)) w := by
  rcases (show i = 0 ∨ i = 1 ∨ i = 2 ∨ i = 3 ∨ i = 4 ∨ i = 5 by omega) with rfl | rfl | rfl | rfl | rfl | rfl
  all_goals kernel_rfl
set_option maxHeartbeats 1000000 in
set_option maxRecDepth 100000 in
theorem ordered6_any (fs : List UInt8) (w : World) (hs : fs.length ≤ 9223372036854775807) : Calls Try.prog 40 #[S fs] w fun e w' => e = .returned (.bool (ordF fs lettersM)) ∧ Below w.heap.size w w' := by
  obtain ⟨n, hn⟩ : ∃ n, n = fs.length := ⟨_, rfl⟩
  have HN := Lib.hid hn
  rw [← hn] at hs
  have hn9 := hs
  clear hs
  go_enter Try.func40, Try.ntmps40
  go_wp2
  rw [show ((fs.length : Nat) : Int) = (n : Int) by rw [hn]]
  clear hn
  go_loopw [3, 8] (fun x i wr => ∃ k at_ : Nat, x = .int .i64 at_ ∧ i = .int .i64 k ∧ k ≤ n ∧ at_ ≤ 5 ∧ Hid (ordF fs lettersM = ordF (fs.drop k) (lettersM.drop at_)) ∧ Hid (Below w.heap.size w wr)) (fun _ i _ => n - (intOf i).toNat)
  case atStart => exact ⟨0, 0, rfl, rfl, Nat.zero_le _, by omega, rfl, Below.refl _ _⟩
  case round =>
    obtain ⟨k, at_, rfl, rfl, hk, ha, HK, HB⟩ := hrel
    by_cases hlt : k < n
    · have HX := Lib.hid (show fs[k]? = some (fs[k]'(by have := HN.out; omega)) from List.getElem?_eq_getElem _)
      generalize fs[k]'(by have := HN.out; omega) = c at *
      have HD := Lib.hid (show fs.drop k = c :: fs.drop (k + 1) by
        obtain ⟨h1, h2⟩ := List.getElem?_eq_some_iff.1 HX.out
        rw [List.drop_eq_getElem_cons h1, h2])
      have HC := Lib.hid (fun w => indexByte_c (lettersM.drop at_) c w)
      obtain ⟨ix, hix⟩ : ∃ ix, ix = Lib.indexByte (lettersM.drop at_) c := ⟨_, rfl⟩
      rw [← hix] at HC
      have HIX := Lib.hid hix
      clear hix
      go_wp2
      refine wp_region_walk 6 [(1, .is (S (lettersM.drop at_))), (4, .is (.int .u8 (c.toNat : Int))), (5, .is (.int .i64 ix))] (by kernel_rfl) (by kernel_rfl) ?_
      simp only [List.take_succ_cons, List.take_zero, List.drop_succ_cons, List.drop_zero]
      repeat (first
        | (refine walk_quiet rfl rfl rfl ?_; intro K hK; go_big_quiet_op; go_big_quiet_on)
        | (refine walk_is rfl rfl (fun wx hwx _ => WpYld.val (exec_sliceFrom (fun w' => run_letFrom ha w') rfl rfl) Yld.is_mk (Below.refl _ _)) ?_; go_frame)
        | (refine walk_is rfl rfl (fun wx hwx _ => WpYld.val (exec_index (run_idxS HX.out _) rfl rfl) Yld.is_mk (Below.refl _ _)) ?_; go_frame)
        | (refine walk_is rfl rfl (fun wx hwx _ => WpYld.callIs (run_callL (vals := [S (lettersM.drop at_), .int .u8 (c.toNat : Int)]) Try.func53 (by kernel_rfl) rfl rfl) (HC.out wx)) ?_; go_frame))
      refine walk_nil ?_
      intro wz hbz _
      have HB1 := Lib.hid (HB.out.trans (hbz.mono HB.out.size))
      clear hbz
      by_cases hneg : ix < 0
      · have HR := Lib.hid (show ordF fs lettersM = false by rw [HK.out, HD.out, ordF_miss (by rw [← HIX.out]; exact hneg)])
        go_wp2
        go_ret
        exact ⟨by rw [HR.out]; rfl, HB1.out⟩
      · obtain ⟨m, rfl⟩ : ∃ m : Nat, ix = (m : Int) := ⟨ix.toNat, by omega⟩
        obtain ⟨h1, h2⟩ := ordF_hit (c := c) (fs := fs.drop (k + 1)) (ls := lettersM.drop at_) (n := m) HIX.out.symm
        have HR := Lib.hid (show ordF fs lettersM = ordF (fs.drop (k + 1)) (lettersM.drop (at_ + (m + 1))) by rw [HK.out, HD.out, h2, List.drop_drop])
        rw [List.length_drop] at h1
        have hm5 : at_ + m + 1 ≤ 5 := by have : lettersM.length = 5 := rfl; omega
        clear h1 h2 hneg
        go_wp2
        go_roundw
        case rel => exact ⟨k + 1, at_ + (m + 1), by go_num, by go_num, by omega, by omega, HR.out, HB1.out⟩
        case measure => simp [intOf] <;> omega
    · obtain rfl : k = n := by omega
      have HR := Lib.hid (show ordF fs lettersM = true by rw [HK.out, List.drop_eq_nil_of_le (by have := HN.out; omega), ordF_nil])
      go_wp2
      go_ret
      exact ⟨by rw [HR.out]; rfl, HB.out⟩
end Go.Proofs.Ytnhbgijecdeahaa
namespace Go.Fd
open Go.RowKit
abbrev encPart (p : Go.Proofs.Ytnhbgijecdeahaa.PartM × Value × Value) : List Value := [.string ⟨p.1.name.toArray⟩, .string ⟨p.1.flags.toArray⟩, .int .i64 p.1.align, .int .i64 p.1.size, p.2.1, p.2.2]
abbrev partV (p : Go.Proofs.Ytnhbgijecdeahaa.PartM × Value × Value) : Value := .agg #[.string ⟨p.1.name.toArray⟩, .string ⟨p.1.flags.toArray⟩, .int .i64 p.1.align, .int .i64 p.1.size, p.2.1, p.2.2]
theorem part_box {w : World} {g : Nat} {x : Go.Proofs.Ytnhbgijecdeahaa.PartM × Value × Value} {t : TypeId} {fr : Nat × Nat} (h : w.heap[g]? = some (.cells #[.string ⟨x.1.name.toArray⟩, .string ⟨x.1.flags.toArray⟩, .int .i64 x.1.align, .int .i64 x.1.size, x.2.1, x.2.2] t fr)) :
    w.cell? ⟨g, 0, none⟩ = some (.string ⟨x.1.name.toArray⟩) ∧ w.cell? ⟨g, 1, none⟩ = some (.string ⟨x.1.flags.toArray⟩) ∧ w.cell? ⟨g, 2, none⟩ = some (.int .i64 x.1.align) ∧ w.cell? ⟨g, 3, none⟩ = some (.int .i64 x.1.size) ∧ w.cell? ⟨g, 4, none⟩ = some x.2.1 ∧ w.cell? ⟨g, 5, none⟩ = some x.2.2 :=
  ⟨cell_rec h 0, cell_rec h 1, cell_rec h 2, cell_rec h 3, cell_rec h 4, cell_rec h 5⟩
end Go.Fd
namespace Go.Proofs.Ytnhbgijecdeahaa
open Go.RowKit Go.Fd
set_option maxHeartbeats 1000000 in
set_option maxRecDepth 100000 in
theorem sized6_any (p : PartM) (dv rv : Value) (w : World) (hd : Bs w dv p.data) (hcm : p.data.length ≤ 9223372036854775807) :
    Calls Try.prog 41 #[partV (p, dv, rv)] w fun e w' => e = .returned (.bool (sizedF p)) ∧ Below w.heap.size w w' := by
  obtain ⟨m, a, cap, hm, rfl, hmc, _⟩ := hd.shape
  have HF := Lib.hid (fun w => has_any p.flags 110 w)
  obtain ⟨name, flags, align, size, data, relas⟩ := p
  dsimp only at *
  clear hd
  rw [← hm.out] at hcm
  have HS : Hid (sizedF ⟨name, flags, align, size, data, relas⟩ = if hasF flags 110 = true then decide (0 ≤ size) && decide (size ≤ 1048576) && decide (m = 0) else decide (size = (m : Int))) := by
    have h1 := hm.out
    have h2 : decide (data = []) = decide (m = 0) := by rw [Bool.eq_iff_iff, decide_eq_true_iff, decide_eq_true_iff, h1, List.length_eq_zero_iff]
    unfold sizedF
    dsimp only
    rw [h2, h1]
    rfl
  generalize sizedF ⟨name, flags, align, size, data, relas⟩ = q at *
  generalize hasF flags 110 = h at *
  cases h with
  | true =>
    have HR : Hid (q = (decide (0 ≤ size) && decide (size ≤ 1048576) && decide (m = 0))) := HS.out
    clear HS
    go_enter Try.func41, Try.ntmps41
    go_wp2_with (first
      | ((with_reducible show wpList _ _ _ (⟨_, .box _ _, _, _, _, _⟩ :: _) _ _); go_must (refine wpList_box rfl ?_; intro w1 hx1 hb1 hs1; obtain ⟨c0, c1, c2, c3, c4, c5⟩ := part_box (x := (⟨name, flags, align, size, data, relas⟩, .slice a m cap, rv)) hx1))
      | (go_at_call 54; refine (HF.out _).mono ?_; rintro e w2 ⟨rfl, rfl⟩))
    all_goals go_ret
    all_goals refine ⟨?_, hb1⟩
    all_goals rw [HR.out]
    all_goals refine ret1 (bool_eq ?_)
    all_goals rw [Bool.eq_iff_iff]
    all_goals simp
    all_goals omega
  | false =>
    have HR : Hid (q = decide (size = (m : Int))) := HS.out
    clear HS
    go_enter Try.func41, Try.ntmps41
    go_wp2_with (first
      | ((with_reducible show wpList _ _ _ (⟨_, .box _ _, _, _, _, _⟩ :: _) _ _); go_must (refine wpList_box rfl ?_; intro w1 hx1 hb1 hs1; obtain ⟨c0, c1, c2, c3, c4, c5⟩ := part_box (x := (⟨name, flags, align, size, data, relas⟩, .slice a m cap, rv)) hx1))
      | (go_at_call 54; refine (HF.out _).mono ?_; rintro e w2 ⟨rfl, rfl⟩))
    go_ret
    refine ⟨?_, hb1⟩
    rw [HR.out]
    refine ret1 (bool_eq ?_)
    rw [Bool.eq_iff_iff]
    simp
theorem pre_rel (s : List UInt8) : Lib.hasPrefix s relaN = decide (s.take 5 = relaN) := by
  rw [Bool.eq_iff_iff, decide_eq_true_iff]
  unfold Lib.hasPrefix
  rw [List.isPrefixOf_iff_prefix, List.prefix_iff_eq_take]
  exact eq_comm
theorem wpList_lit1S {ops : Array Oper} {rest : List Oper} {Q : Exit → Act → World → Prop} {a : Act} {w : World} {d : Option Tmp} {ty : TypeId} {pos : String} {aft : Array Edge} {x : Operand} (s : List UInt8) (hx : a.eval x = S s)
    (h : ∀ w1, Rd S w1 (.slice (some ⟨w.heap.size, 0, none⟩) 1 1) [s] → Below w.heap.size w w1 → wpList Try.prog ops Q rest (a.put d (.slice (some ⟨w.heap.size, 0, none⟩) 1 1)) w1) :
    wpList Try.prog ops Q (⟨d, .buildSlice 26 1 #[(0, x)], ty, pos, aft, none⟩ :: rest) a w :=
  wpList_val rfl (w' := w.alloc (.cells #[S s] 9)) (by simp only [execOp, List.map_toArray, List.map_cons, List.map_nil, hx]; kernel_rfl) (h _ (rd_lit S w [s] _ 1 _ rfl rfl) (below_alloc w _))
set_option maxHeartbeats 1000000 in
set_option maxRecDepth 100000 in
theorem named6_any (s : List UInt8) (w : World) :
    Calls Try.prog 39 #[S s] w fun e w' => e = .returned (.bool (namedF s)) ∧ Below w.heap.size w w' := by
  have HBU := Lib.hid (fun v w (h : Rd S w v [s]) => build_any [s] v w (by simp) h)
  have HNM : Hid (namedF s = (decide ((buildR [s]).2.2 = 0) && !decide (s = []) && !decide (s = symtabN) && !decide (s = strtabN) && !decide (s = tabName) && !decide (s.take 5 = relaN))) := rfl
  generalize namedF s = q at *
  generalize buildR [s] = B at *
  obtain ⟨B1, B2, B3⟩ := B
  dsimp only at *
  go_enter Try.func39, Try.ntmps39
  have HPF := Lib.hid (fun w => Try.strings_HasPrefix ⟨s.toArray⟩ ⟨relaN.toArray⟩ w)
  go_wp2_with (first
    | ((with_reducible show wpList _ _ _ (⟨some 8, _, _, _, _, _⟩ :: _) _ _); go_must (refine wpList_lit1S s (by rfl) ?_; intro w1 hr1 hb1; have HR1 := Lib.hid hr1; have HB1 := Lib.hid hb1; clear hr1 hb1))
    | (go_at_call 44; refine (HBU.out _ _ HR1.out).mono ?_; rintro e w2 ⟨v1, v2, rfl, -, -, hb2⟩; have HB2 := Lib.hid (HB1.out.trans (hb2.mono HB1.out.size)); clear hb2)
    | (go_at_call 52; refine (HPF.out _).mono ?_; rintro e w3 ⟨rfl, rfl⟩))
  all_goals go_ret
  all_goals refine ⟨?_, HB2.out⟩
  all_goals rw [HNM.out]
  all_goals refine ret1 (bool_eq ?_)
  all_goals simp_all [symtabN, strtabN, tabName, pre_rel]
end Go.Proofs.Ytnhbgijecdeahaa
namespace Go.Proofs.Ytnhbgijecdeahaa
open Go.RowKit Go.Fd
set_option maxHeartbeats 1000000 in
set_option maxRecDepth 100000 in
theorem relocation6_any (r : RelaM) (p : PartM) (dv rv : Value) (n : Nat) (w : World) (hf : r.off < 18446744073709551616) :
    Calls Try.prog 29 #[.agg #[.int .u64 (r.off : Int), .int .i64 r.typ, .int .i64 r.sym, .int .i64 r.add], partV (p, dv, rv), .int .i64 (n : Int)] w fun e w' => e = .returned (.int .i64 (relE n p.size r)) ∧ Below w.heap.size w w' := by
  obtain ⟨name, flags, align, size, data, relas⟩ := p
  obtain ⟨off, typ, sym, add⟩ := r
  have HS : Hid (relE n size ⟨off, typ, sym, add⟩ = if sym < 0 ∨ (n : Int) < sym then 14 else if u64of size ≤ off then 5 else if typ < 0 ∨ 65535 < typ then 3 else 0) := rfl
  dsimp only at *
  have HU := Lib.hid (u64of_cast size)
  generalize relE n size ⟨off, typ, sym, add⟩ = q at *
  generalize u64of size = us at *
  go_enter Try.func29, Try.ntmps29
  go_wp2_with (first
    | ((with_reducible show wpList _ _ _ (⟨some 3, .box _ _, _, _, _, _⟩ :: _) _ _); go_must (refine wpList_box rfl ?_; intro w1 hx1 hb1 hs1; have HX1 := Lib.hid hx1; have HB1 := Lib.hid hb1; clear hx1 hb1))
    | ((with_reducible show wpList _ _ _ (⟨some 4, .box _ _, _, _, _, _⟩ :: _) _ _); go_must (refine wpList_box rfl ?_; intro w2 hx2 hb2 hs2; obtain ⟨c0, c1, c2, c3, c4, c5⟩ := part_box (x := (⟨name, flags, align, size, data, relas⟩, dv, rv)) hx2; have hx3 := heap_below hb2 HX1.out; have d0 := cell_rec hx3 0; have d1 := cell_rec hx3 1; have d2 := cell_rec hx3 2; simp only [List.getElem?_toArray, List.getElem?_cons_succ, List.getElem?_cons_zero] at d0 d1 d2; have HB2 := Lib.hid (HB1.out.trans (hb2.mono HB1.out.size)); clear hx3 hx2)))
  all_goals have hu := HU.out
  all_goals go_ret
  all_goals refine ⟨?_, HB2.out⟩
  all_goals rw [HS.out]
  all_goals refine ret1 (int_eq ?_)
  all_goals repeat' split
  all_goals omega
def allO (n : Nat) (p : Nat → Bool) : Bool := Nat.rec true (fun k ih => p k && ih) n
theorem allO_spec {n : Nat} {p : Nat → Bool} (h : allO n p = true) : ∀ k, k < n → p k = true := by
  induction n with
  | zero => intro k hk; omega
  | succ n ih =>
    have h' : (p n && allO n p) = true := h
    rw [Bool.and_eq_true] at h'
    intro k hk
    by_cases e : k = n
    · subst e; exact h'.1
    · exact ih h'.2 k (by omega)
theorem and_all : allO 4096 (fun a => decide (bits .and .i64 ((a + 1 : Nat) : Int) ((a : Nat) : Int) = (((a + 1) &&& a : Nat) : Int))) = true := by kernel_rfl
theorem and_i64' {a : Nat} (h1 : 1 ≤ a) (h2 : a ≤ 4096) : bits .and .i64 (a : Int) ((a : Int) - 1) = ((a &&& (a - 1) : Nat) : Int) := by
  have h := of_decide_eq_true (allO_spec and_all (a - 1) (by omega))
  rw [show a - 1 + 1 = a by omega] at h
  rw [show (a : Int) - 1 = ((a - 1 : Nat) : Int) by omega]
  exact h
set_option maxHeartbeats 1000000 in
set_option maxRecDepth 100000 in
theorem part6_any (p : PartM) (there : Bool) (dv rv : Value) (w : World) (hd : Bs w dv p.data) (hcm : p.data.length ≤ 9223372036854775807) (hfl : p.flags.length ≤ 9223372036854775807) :
    Calls Try.prog 27 #[partV (p, dv, rv), .bool there] w fun e w' => e = .returned (.int .i64 (partE p there)) ∧ Below w.heap.size w w' := by
  have HNM := Lib.hid (fun w => named6_any p.name w)
  have HOR := Lib.hid (fun w => ordered6_any p.flags w hfl)
  have HSZ := Lib.hid (fun w' (hb : Below w.heap.size w w') => sized6_any p dv rv w' (hd.mono hb) hcm)
  have HS : Hid (partE p there = if namedF p.name = false then 7 else if there = true then 8 else if ordF p.flags lettersM = false then 15 else if pow2F p.align = false then 10 else if sizedF p = false then 1 else 0) := rfl
  have HP2 : Hid (pow2F p.align = (decide (1 ≤ p.align) && decide (p.align ≤ 4096) && decide (p.align.toNat &&& (p.align.toNat - 1) = 0))) := rfl
  generalize partE p there = q at *
  generalize namedF p.name = b1 at *
  generalize ordF p.flags lettersM = b2 at *
  generalize sizedF p = b3 at *
  generalize pow2F p.align = b4 at *
  obtain ⟨name, flags, align, size, data, relas⟩ := p
  dsimp only at *
  clear hd hcm hfl
  cases b1 with
  | false =>
    go_enter Try.func27, Try.ntmps27
    go_wp2_with (first
        | ((with_reducible show wpList _ _ _ (⟨some 2, .box _ _, _, _, _, _⟩ :: _) _ _); go_must (refine wpList_box rfl ?_; intro w1 hx1 hb1 hs1; obtain ⟨c0, c1, c2, c3, c4, c5⟩ := part_box (x := (⟨name, flags, align, size, data, relas⟩, dv, rv)) hx1; have HX1 := Lib.hid hx1; have HB1 := Lib.hid hb1; clear hx1 hb1))
        | (go_at_call 39; refine (HNM.out _).mono ?_; rintro e w2 ⟨rfl, hb2⟩; have HB2 := Lib.hid (HB1.out.trans (hb2.mono HB1.out.size)); obtain ⟨c0, c1, c2, c3, c4, c5⟩ := part_box (x := (⟨name, flags, align, size, data, relas⟩, dv, rv)) (heap_below hb2 HX1.out); have HX2 := Lib.hid (heap_below hb2 HX1.out); clear hb2)
        | (go_at_call 40; refine (HOR.out _).mono ?_; rintro e w3 ⟨rfl, hb3⟩; have HB3 := Lib.hid (HB2.out.trans (hb3.mono HB2.out.size)); obtain ⟨c0, c1, c2, c3, c4, c5⟩ := part_box (x := (⟨name, flags, align, size, data, relas⟩, dv, rv)) (heap_below hb3 HX2.out); clear hb3)
        | (go_at_call 41; refine (HSZ.out _ HB3.out).mono ?_; rintro e w4 ⟨rfl, hb4⟩; have HB4 := Lib.hid (HB3.out.trans (hb4.mono HB3.out.size)); clear hb4))
    go_ret
    exact ⟨by rw [HS.out]; rfl, HB2.out⟩
  | true =>
    cases there with
    | true =>
      go_enter Try.func27, Try.ntmps27
      go_wp2_with (first
          | ((with_reducible show wpList _ _ _ (⟨some 2, .box _ _, _, _, _, _⟩ :: _) _ _); go_must (refine wpList_box rfl ?_; intro w1 hx1 hb1 hs1; obtain ⟨c0, c1, c2, c3, c4, c5⟩ := part_box (x := (⟨name, flags, align, size, data, relas⟩, dv, rv)) hx1; have HX1 := Lib.hid hx1; have HB1 := Lib.hid hb1; clear hx1 hb1))
          | (go_at_call 39; refine (HNM.out _).mono ?_; rintro e w2 ⟨rfl, hb2⟩; have HB2 := Lib.hid (HB1.out.trans (hb2.mono HB1.out.size)); obtain ⟨c0, c1, c2, c3, c4, c5⟩ := part_box (x := (⟨name, flags, align, size, data, relas⟩, dv, rv)) (heap_below hb2 HX1.out); have HX2 := Lib.hid (heap_below hb2 HX1.out); clear hb2)
          | (go_at_call 40; refine (HOR.out _).mono ?_; rintro e w3 ⟨rfl, hb3⟩; have HB3 := Lib.hid (HB2.out.trans (hb3.mono HB2.out.size)); obtain ⟨c0, c1, c2, c3, c4, c5⟩ := part_box (x := (⟨name, flags, align, size, data, relas⟩, dv, rv)) (heap_below hb3 HX2.out); clear hb3)
          | (go_at_call 41; refine (HSZ.out _ HB3.out).mono ?_; rintro e w4 ⟨rfl, hb4⟩; have HB4 := Lib.hid (HB3.out.trans (hb4.mono HB3.out.size)); clear hb4))
      go_ret
      exact ⟨by rw [HS.out]; rfl, HB2.out⟩
    | false =>
      cases b2 with
      | false =>
        go_enter Try.func27, Try.ntmps27
        go_wp2_with (first
            | ((with_reducible show wpList _ _ _ (⟨some 2, .box _ _, _, _, _, _⟩ :: _) _ _); go_must (refine wpList_box rfl ?_; intro w1 hx1 hb1 hs1; obtain ⟨c0, c1, c2, c3, c4, c5⟩ := part_box (x := (⟨name, flags, align, size, data, relas⟩, dv, rv)) hx1; have HX1 := Lib.hid hx1; have HB1 := Lib.hid hb1; clear hx1 hb1))
            | (go_at_call 39; refine (HNM.out _).mono ?_; rintro e w2 ⟨rfl, hb2⟩; have HB2 := Lib.hid (HB1.out.trans (hb2.mono HB1.out.size)); obtain ⟨c0, c1, c2, c3, c4, c5⟩ := part_box (x := (⟨name, flags, align, size, data, relas⟩, dv, rv)) (heap_below hb2 HX1.out); have HX2 := Lib.hid (heap_below hb2 HX1.out); clear hb2)
            | (go_at_call 40; refine (HOR.out _).mono ?_; rintro e w3 ⟨rfl, hb3⟩; have HB3 := Lib.hid (HB2.out.trans (hb3.mono HB2.out.size)); obtain ⟨c0, c1, c2, c3, c4, c5⟩ := part_box (x := (⟨name, flags, align, size, data, relas⟩, dv, rv)) (heap_below hb3 HX2.out); clear hb3)
            | (go_at_call 41; refine (HSZ.out _ HB3.out).mono ?_; rintro e w4 ⟨rfl, hb4⟩; have HB4 := Lib.hid (HB3.out.trans (hb4.mono HB3.out.size)); clear hb4))
        go_ret
        exact ⟨by rw [HS.out]; rfl, HB3.out⟩
      | true =>
        by_cases hlo : align < 1
        · have HR := Lib.hid (show b4 = false by rw [HP2.out, decide_eq_false (show ¬ 1 ≤ align by omega)]; rfl)
          clear HP2
          go_enter Try.func27, Try.ntmps27
          go_wp2_with (first
              | ((with_reducible show wpList _ _ _ (⟨some 2, .box _ _, _, _, _, _⟩ :: _) _ _); go_must (refine wpList_box rfl ?_; intro w1 hx1 hb1 hs1; obtain ⟨c0, c1, c2, c3, c4, c5⟩ := part_box (x := (⟨name, flags, align, size, data, relas⟩, dv, rv)) hx1; have HX1 := Lib.hid hx1; have HB1 := Lib.hid hb1; clear hx1 hb1))
              | (go_at_call 39; refine (HNM.out _).mono ?_; rintro e w2 ⟨rfl, hb2⟩; have HB2 := Lib.hid (HB1.out.trans (hb2.mono HB1.out.size)); obtain ⟨c0, c1, c2, c3, c4, c5⟩ := part_box (x := (⟨name, flags, align, size, data, relas⟩, dv, rv)) (heap_below hb2 HX1.out); have HX2 := Lib.hid (heap_below hb2 HX1.out); clear hb2)
              | (go_at_call 40; refine (HOR.out _).mono ?_; rintro e w3 ⟨rfl, hb3⟩; have HB3 := Lib.hid (HB2.out.trans (hb3.mono HB2.out.size)); obtain ⟨c0, c1, c2, c3, c4, c5⟩ := part_box (x := (⟨name, flags, align, size, data, relas⟩, dv, rv)) (heap_below hb3 HX2.out); clear hb3)
              | (go_at_call 41; refine (HSZ.out _ HB3.out).mono ?_; rintro e w4 ⟨rfl, hb4⟩; have HB4 := Lib.hid (HB3.out.trans (hb4.mono HB3.out.size)); clear hb4))
          go_ret
          exact ⟨by rw [HS.out, HR.out]; rfl, HB3.out⟩
        by_cases hhi : 4096 < align
        · have HR := Lib.hid (show b4 = false by rw [HP2.out, decide_eq_false (show ¬ align ≤ 4096 by omega)]; simp)
          clear HP2
          go_enter Try.func27, Try.ntmps27
          go_wp2_with (first
              | ((with_reducible show wpList _ _ _ (⟨some 2, .box _ _, _, _, _, _⟩ :: _) _ _); go_must (refine wpList_box rfl ?_; intro w1 hx1 hb1 hs1; obtain ⟨c0, c1, c2, c3, c4, c5⟩ := part_box (x := (⟨name, flags, align, size, data, relas⟩, dv, rv)) hx1; have HX1 := Lib.hid hx1; have HB1 := Lib.hid hb1; clear hx1 hb1))
              | (go_at_call 39; refine (HNM.out _).mono ?_; rintro e w2 ⟨rfl, hb2⟩; have HB2 := Lib.hid (HB1.out.trans (hb2.mono HB1.out.size)); obtain ⟨c0, c1, c2, c3, c4, c5⟩ := part_box (x := (⟨name, flags, align, size, data, relas⟩, dv, rv)) (heap_below hb2 HX1.out); have HX2 := Lib.hid (heap_below hb2 HX1.out); clear hb2)
              | (go_at_call 40; refine (HOR.out _).mono ?_; rintro e w3 ⟨rfl, hb3⟩; have HB3 := Lib.hid (HB2.out.trans (hb3.mono HB2.out.size)); obtain ⟨c0, c1, c2, c3, c4, c5⟩ := part_box (x := (⟨name, flags, align, size, data, relas⟩, dv, rv)) (heap_below hb3 HX2.out); clear hb3)
              | (go_at_call 41; refine (HSZ.out _ HB3.out).mono ?_; rintro e w4 ⟨rfl, hb4⟩; have HB4 := Lib.hid (HB3.out.trans (hb4.mono HB3.out.size)); clear hb4))
          go_ret
          exact ⟨by rw [HS.out, HR.out]; rfl, HB3.out⟩
        obtain ⟨m, rfl⟩ : ∃ m : Nat, align = (m : Int) := ⟨align.toNat, by omega⟩
        have HA := and_i64' (a := m) (by omega) (by omega)
        have HP3 : Hid (b4 = decide (m &&& (m - 1) = 0)) := by
          rw [HP2.out, decide_eq_true (show (1 : Int) ≤ (m : Int) by omega), decide_eq_true (show (m : Int) ≤ 4096 by omega)]
          rfl
        clear HP2
        generalize m &&& (m - 1) = z at *
        have hlo' : (1 : Int) ≤ (m : Int) := by omega
        have hhi' : (m : Int) ≤ 4096 := by omega
        have ht := (congrArg (fun x : Int => x != 0) HA).trans (show ((z : Int) != 0) = decide (z ≠ 0) by rw [Bool.eq_iff_iff]; simp)
        clear HA
        by_cases hz : z = 0
        · have HR := Lib.hid (show b4 = true by rw [HP3.out, decide_eq_true hz])
          simp only [hz, ne_eq, not_true_eq_false, decide_false] at ht
          clear HP3 hz
          cases b3 with
          | false =>
            go_enter Try.func27, Try.ntmps27
            go_wp2_with (first
                | ((with_reducible show wpList _ _ _ (⟨some 2, .box _ _, _, _, _, _⟩ :: _) _ _); go_must (refine wpList_box rfl ?_; intro w1 hx1 hb1 hs1; obtain ⟨c0, c1, c2, c3, c4, c5⟩ := part_box (x := (⟨name, flags, (m : Int), size, data, relas⟩, dv, rv)) hx1; have HX1 := Lib.hid hx1; have HB1 := Lib.hid hb1; clear hx1 hb1))
                | (go_at_call 39; refine (HNM.out _).mono ?_; rintro e w2 ⟨rfl, hb2⟩; have HB2 := Lib.hid (HB1.out.trans (hb2.mono HB1.out.size)); obtain ⟨c0, c1, c2, c3, c4, c5⟩ := part_box (x := (⟨name, flags, (m : Int), size, data, relas⟩, dv, rv)) (heap_below hb2 HX1.out); have HX2 := Lib.hid (heap_below hb2 HX1.out); clear hb2)
                | (go_at_call 40; refine (HOR.out _).mono ?_; rintro e w3 ⟨rfl, hb3⟩; have HB3 := Lib.hid (HB2.out.trans (hb3.mono HB2.out.size)); obtain ⟨c0, c1, c2, c3, c4, c5⟩ := part_box (x := (⟨name, flags, (m : Int), size, data, relas⟩, dv, rv)) (heap_below hb3 HX2.out); clear hb3)
                | (go_at_call 41; refine (HSZ.out _ HB3.out).mono ?_; rintro e w4 ⟨rfl, hb4⟩; have HB4 := Lib.hid (HB3.out.trans (hb4.mono HB3.out.size)); clear hb4))
            go_ret
            exact ⟨by rw [HS.out, HR.out]; rfl, HB4.out⟩
          | true =>
            go_enter Try.func27, Try.ntmps27
            go_wp2_with (first
                | ((with_reducible show wpList _ _ _ (⟨some 2, .box _ _, _, _, _, _⟩ :: _) _ _); go_must (refine wpList_box rfl ?_; intro w1 hx1 hb1 hs1; obtain ⟨c0, c1, c2, c3, c4, c5⟩ := part_box (x := (⟨name, flags, (m : Int), size, data, relas⟩, dv, rv)) hx1; have HX1 := Lib.hid hx1; have HB1 := Lib.hid hb1; clear hx1 hb1))
                | (go_at_call 39; refine (HNM.out _).mono ?_; rintro e w2 ⟨rfl, hb2⟩; have HB2 := Lib.hid (HB1.out.trans (hb2.mono HB1.out.size)); obtain ⟨c0, c1, c2, c3, c4, c5⟩ := part_box (x := (⟨name, flags, (m : Int), size, data, relas⟩, dv, rv)) (heap_below hb2 HX1.out); have HX2 := Lib.hid (heap_below hb2 HX1.out); clear hb2)
                | (go_at_call 40; refine (HOR.out _).mono ?_; rintro e w3 ⟨rfl, hb3⟩; have HB3 := Lib.hid (HB2.out.trans (hb3.mono HB2.out.size)); obtain ⟨c0, c1, c2, c3, c4, c5⟩ := part_box (x := (⟨name, flags, (m : Int), size, data, relas⟩, dv, rv)) (heap_below hb3 HX2.out); clear hb3)
                | (go_at_call 41; refine (HSZ.out _ HB3.out).mono ?_; rintro e w4 ⟨rfl, hb4⟩; have HB4 := Lib.hid (HB3.out.trans (hb4.mono HB3.out.size)); clear hb4))
            go_ret
            exact ⟨by rw [HS.out, HR.out]; rfl, HB4.out⟩
        · have HR := Lib.hid (show b4 = false by rw [HP3.out, decide_eq_false hz])
          simp only [hz, ne_eq, not_false_eq_true, decide_true] at ht
          clear HP3 hz
          go_enter Try.func27, Try.ntmps27
          go_wp2_with (first
              | ((with_reducible show wpList _ _ _ (⟨some 2, .box _ _, _, _, _, _⟩ :: _) _ _); go_must (refine wpList_box rfl ?_; intro w1 hx1 hb1 hs1; obtain ⟨c0, c1, c2, c3, c4, c5⟩ := part_box (x := (⟨name, flags, (m : Int), size, data, relas⟩, dv, rv)) hx1; have HX1 := Lib.hid hx1; have HB1 := Lib.hid hb1; clear hx1 hb1))
              | (go_at_call 39; refine (HNM.out _).mono ?_; rintro e w2 ⟨rfl, hb2⟩; have HB2 := Lib.hid (HB1.out.trans (hb2.mono HB1.out.size)); obtain ⟨c0, c1, c2, c3, c4, c5⟩ := part_box (x := (⟨name, flags, (m : Int), size, data, relas⟩, dv, rv)) (heap_below hb2 HX1.out); have HX2 := Lib.hid (heap_below hb2 HX1.out); clear hb2)
              | (go_at_call 40; refine (HOR.out _).mono ?_; rintro e w3 ⟨rfl, hb3⟩; have HB3 := Lib.hid (HB2.out.trans (hb3.mono HB2.out.size)); obtain ⟨c0, c1, c2, c3, c4, c5⟩ := part_box (x := (⟨name, flags, (m : Int), size, data, relas⟩, dv, rv)) (heap_below hb3 HX2.out); clear hb3)
              | (go_at_call 41; refine (HSZ.out _ HB3.out).mono ?_; rintro e w4 ⟨rfl, hb4⟩; have HB4 := Lib.hid (HB3.out.trans (hb4.mono HB3.out.size)); clear hb4))
          go_ret
          exact ⟨by rw [HS.out, HR.out]; rfl, HB3.out⟩
end Go.Proofs.Ytnhbgijecdeahaa
namespace Go.Proofs.Ytnhbgijecdeahaa
open Go.RowKit Go.Fd
theorem build_one (s : List UInt8) : decide ((buildR [s]).2.2 = 0) = mayS s := by
  cases h : mayS s with
  | false =>
    rw [decide_eq_false_iff_not]
    unfold buildR
    rw [if_neg (by simp [h])]
    decide
  | true =>
    rw [decide_eq_true_iff]
    unfold buildR
    have h1 := (buildT_len [s] (fun x hx => by rw [List.mem_singleton] at hx; subst hx; exact mayS_len h)).1
    rw [List.length_singleton] at h1
    rw [if_pos (by simp [h]), if_neg (by omega)]
theorem part_cells {w wr : World} {a : Option Addr} {L : List (PartM × Value × Value)} {x : PartM × Value × Value} {k : Nat}
    (hc : ∀ i x, L[i]? = some x → 0 < 6 → ∃ b off, a = some ⟨b, off, none⟩ ∧ ∀ c, c < 6 → w.cell? ⟨b, off + (i * 6 + c), none⟩ = (encPart x)[c]?) (hb : Below w.heap.size w wr) (hk : L[k]? = some x) :
    ∃ b o, a = some ⟨b, o, none⟩ ∧ wr.cell? ⟨b, o + k * 6, none⟩ = some (.string ⟨x.1.name.toArray⟩) ∧ wr.cell? ⟨b, o + k * 6 + 1, none⟩ = some (.string ⟨x.1.flags.toArray⟩) ∧ wr.cell? ⟨b, o + k * 6 + 2, none⟩ = some (.int .i64 x.1.align) ∧ wr.cell? ⟨b, o + k * 6 + 3, none⟩ = some (.int .i64 x.1.size) ∧ wr.cell? ⟨b, o + k * 6 + 4, none⟩ = some x.2.1 ∧ wr.cell? ⟨b, o + k * 6 + 5, none⟩ = some x.2.2 ∧ b < w.heap.size := by
  obtain ⟨b, o, ha, hcc⟩ := hc k x hk (by decide)
  have hd : ∀ c v, (encPart x)[c]? = some v → wr.cell? ⟨b, o + k * 6 + c, none⟩ = some v := fun c v h => by
    have h6 : c < 6 := (List.getElem?_eq_some_iff.1 h).1
    have := (hcc c h6).trans h
    rw [← Nat.add_assoc] at this
    exact (hb.cell (block_lt this)).trans this
  have h0 : b < w.heap.size := block_lt ((hcc 0 (by decide)).trans rfl)
  exact ⟨b, o, ha, hd 0 _ rfl, hd 1 _ rfl, hd 2 _ rfl, hd 3 _ rfl, hd 4 _ rfl, hd 5 _ rfl, h0⟩
end Go.Proofs.Ytnhbgijecdeahaa
namespace Go.Proofs.Ytnhbgijecdeahaa
open Go.RowKit Go.Fd
/-! ### Places -/
/-- A place of a member. -/
def MemAt (l : List InM) (s : Spot) (o : ObjM) : Prop := ∃ (x : InM) (k : Nat) (m : MemM), l[s.1]? = some x ∧ s.2 = (k : Int) ∧ x.lib[k]? = some m ∧ m.obj = o
theorem objAt_mem {l : List InM} {s : Spot} {o : ObjM} (h : MemAt l s o) : objAt l s = o := by
  obtain ⟨x, k, m, h1, h2, h3, h4⟩ := h
  unfold objAt
  rw [h1]
  dsimp only
  rw [if_neg (by omega), h2, Int.toNat_natCast, h3]
  exact h4
theorem mem_addS {T : List Spot} {s t : Spot} : t ∈ addS T s ↔ t ∈ T ∨ t = s := by
  unfold addS
  exact mem_add
theorem mem_insN {D : List (List UInt8)} {s t : List UInt8} : t ∈ insN D s ↔ t ∈ D ∨ t = s := by
  induction D with
  | nil => simp [insN]
  | cons x D ih =>
    rw [insN]
    split
    · rename_i h
      subst h
      constructor
      · exact Or.inl
      · rintro (h | rfl)
        · exact h
        · simp
    · split
      · simp [or_comm]
      · rw [List.mem_cons, ih, List.mem_cons, or_assoc]
theorem mem_defN {D : List (List UInt8)} {s : SymM} {t : List UInt8} : t ∈ defN D s ↔ t ∈ D ∨ definesM s = true ∧ t = s.name := by
  unfold defN
  split
  · rename_i h
    rw [mem_insN]
    simp [h]
  · rename_i h
    simp [h]
theorem mem_defAll {l : List SymM} : ∀ {D : List (List UInt8)} {t : List UInt8}, t ∈ defAll D l ↔ t ∈ D ∨ ∃ x ∈ l, definesM x = true ∧ t = x.name := by
  unfold defAll
  induction l with
  | nil => intro D t; simp
  | cons y l ih =>
    intro D t
    rw [List.foldl_cons, ih, mem_defN]
    constructor
    · rintro ((h | ⟨h1, h2⟩) | ⟨x, h1, h2⟩)
      · exact .inl h
      · exact .inr ⟨y, by simp, h1, h2⟩
      · exact .inr ⟨x, by simp [h1], h2⟩
    · rintro (h | ⟨x, h1, h2⟩)
      · exact .inl (.inl h)
      · rcases List.mem_cons.1 h1 with rfl | h1
        · exact .inl (.inr h2)
        · exact .inr ⟨x, h1, h2⟩
/-- Each home is a member that defines its name. -/
def HomesOk (l : List InM) (H : Homes) : Prop := ∀ n s, H.lookup n = some s → ∃ o, MemAt l s o ∧ ∃ y ∈ o.syms, y.name = n ∧ definesM y = true
theorem homesOk_nil (l : List InM) : HomesOk l [] := fun n s h => by simp at h
theorem HomesOk.put {l : List InM} {H : Homes} (h : HomesOk l H) {s : Spot} {o : ObjM} (hs : MemAt l s o) {y : SymM} (hy : y ∈ o.syms) : HomesOk l (homeS s H y) := by
  unfold homeS
  split
  · rename_i hc
    intro n t ht
    rw [lookup_snoc] at ht
    cases hl : H.lookup n with
    | some z =>
      rw [hl] at ht
      cases ht
      exact h n _ hl
    | none =>
      rw [hl] at ht
      dsimp only at ht
      split at ht
      · rename_i e
        cases ht
        exact ⟨o, hs, y, hy, e.symm, hc.2⟩
      · cases ht
  · exact h
theorem HomesOk.obj {l : List InM} {s : Spot} {o : ObjM} (hs : MemAt l s o) {H : Homes} (h : HomesOk l H) : HomesOk l (homeO s H o) := by
  unfold homeO
  have : ∀ (L : List SymM) (H : Homes), HomesOk l H → (∀ y ∈ L, y ∈ o.syms) → HomesOk l (L.foldl (homeS s) H) := by
    intro L
    induction L with
    | nil => intro H h _; exact h
    | cons y L ih =>
      intro H h hL
      rw [List.foldl_cons]
      exact ih _ (h.put hs (hL y (by simp))) fun z hz => hL z (by simp [hz])
  exact this _ _ h fun _ h => h
theorem HomesOk.lib {l : List InM} {i : Nat} {x : InM} (hx : l[i]? = some x) : ∀ (ms : List MemM) (k : Nat) {H : Homes}, HomesOk l H → (∀ j m, ms[j]? = some m → x.lib[k + j]? = some m) → HomesOk l (homeL i k ms H)
  | [], k, H, h, _ => h
  | m :: ms, k, H, h, hm => by
    rw [homeL]
    refine HomesOk.lib hx ms (k + 1) (h.obj ⟨x, k, m, hx, rfl, hm 0 m (by simp), rfl⟩) fun j m' hj => ?_
    rw [show k + 1 + j = k + (j + 1) by omega]
    exact hm (j + 1) m' (by simpa using hj)
/-- What is known while members are drawn. -/
structure DrnOk (l : List InM) (d : Drn) : Prop where
  defd : ∀ s ∈ d.taken, ∀ y ∈ (objAt l s).syms, definesM y = true → y.name ∈ d.defd
  inside : ∀ s ∈ d.taken, s.1 < l.length
theorem drnOk_no (l : List InM) : DrnOk l ⟨[], []⟩ := ⟨fun s h => by simp at h, fun s h => by simp at h⟩
theorem DrnOk.take {l : List InM} {d : Drn} (h : DrnOk l d) {s : Spot} (hs : s.1 < l.length) : DrnOk l (takeM l d s) := by
  unfold takeM
  refine ⟨fun t ht y hy hd => ?_, fun t ht => ?_⟩
  · dsimp only at ht ⊢
    rw [mem_defAll]
    rcases mem_addS.1 ht with ht | rfl
    · exact .inl (h.defd t ht y hy hd)
    · exact .inr ⟨y, hy, hd, rfl⟩
  · rcases mem_addS.1 ht with ht | rfl
    · exact h.inside t ht
    · exact hs
theorem start_ok {l : List InM} : ∀ (xs : List InM) (i : Nat) {d : Drn × Homes}, DrnOk l d.1 → HomesOk l d.2 → (∀ j x, xs[j]? = some x → l[i + j]? = some x) → DrnOk l (startM l i xs d).1 ∧ HomesOk l (startM l i xs d).2
  | [], i, d, h1, h2, _ => ⟨h1, h2⟩
  | x :: xs, i, d, h1, h2, hx => by
    rw [startM]
    have h0 := hx 0 x (by simp)
    rw [Nat.add_zero] at h0
    refine start_ok xs (i + 1) ?_ ?_ fun j y hj => ?_
    · dsimp only
      split
      · exact h1.take (List.getElem?_eq_some_iff.1 h0).1
      · exact h1
    · exact HomesOk.lib h0 x.lib 0 h2 fun j m hj => by rw [Nat.zero_add]; exact hj
    · rw [show i + 1 + j = i + (j + 1) by omega]
      exact hx (j + 1) y (by simpa using hj)
/-- How many members are not taken. -/
def freeI (T : List Spot) (i n : Nat) : Nat := ((List.range n).filter fun (k : Nat) => !decide ((i, (k : Int)) ∈ T)).length
def freeM : Nat → List InM → List Spot → Nat
  | _, [], _ => 0
  | i, x :: xs, T => freeI T i x.lib.length + freeM (i + 1) xs T
theorem freeI_le (T : List Spot) (i n : Nat) : freeI T i n ≤ n := by
  unfold freeI
  exact Nat.le_trans (List.length_filter_le _ _) (by simp)
theorem freeM_le : ∀ (l : List InM) (i : Nat) (T : List Spot), freeM i l T ≤ memsM l
  | [], _, _ => Nat.le_refl _
  | x :: xs, i, T => by
    have := freeM_le xs (i + 1) T
    have := freeI_le T i x.lib.length
    unfold memsM at *
    rw [freeM, List.map_cons, List.sum_cons]
    omega
theorem filter_le {α : Type} {p q : α → Bool} : ∀ (l : List α), (∀ x ∈ l, q x = true → p x = true) → (l.filter q).length ≤ (l.filter p).length
  | [], _ => Nat.le_refl _
  | x :: l, h => by
    have ih := filter_le l fun y hy => h y (by simp [hy])
    have h0 := h x (by simp)
    rw [List.filter_cons, List.filter_cons]
    cases hq : q x with
    | true => rw [h0 hq]; simp; exact ih
    | false =>
      cases p x
      · simpa using ih
      · simp; omega
theorem filter_lt {α : Type} {p q : α → Bool} {x : α} : ∀ (l : List α), (∀ x ∈ l, q x = true → p x = true) → x ∈ l → p x = true → q x = false → (l.filter q).length < (l.filter p).length
  | [], _, hx, _, _ => by cases hx
  | y :: l, h, hx, hp, hq => by
    have h0 := h y (by simp)
    have hr := fun z (hz : z ∈ l) => h z (by simp [hz])
    rw [List.filter_cons, List.filter_cons]
    rcases List.mem_cons.1 hx with rfl | hx
    · rw [hp, hq]
      have := filter_le l hr
      simp
      omega
    · have ih := filter_lt l hr hx hp hq
      cases hq' : q y with
      | true => rw [h0 hq']; simp; exact ih
      | false =>
        cases p y
        · simpa using ih
        · simp; omega
theorem freeI_mono {T T' : List Spot} (h : ∀ s ∈ T, s ∈ T') (i n : Nat) : freeI T' i n ≤ freeI T i n := by
  unfold freeI
  refine filter_le _ fun k _ hk => ?_
  simp only [Bool.not_eq_true', decide_eq_false_iff_not] at hk ⊢
  exact fun e => hk (h _ e)
theorem freeM_mono {T T' : List Spot} (h : ∀ s ∈ T, s ∈ T') : ∀ (l : List InM) (i : Nat), freeM i l T' ≤ freeM i l T
  | [], _ => Nat.le_refl _
  | x :: xs, i => by
    have := freeM_mono h xs (i + 1)
    have := freeI_mono h i x.lib.length
    rw [freeM, freeM]
    omega
theorem freeM_lt {T T' : List Spot} (h : ∀ s ∈ T, s ∈ T') {s : Spot} {x : InM} {k : Nat} (hk : s.2 = (k : Int)) (hn : s ∉ T) (hy : s ∈ T') : ∀ (l : List InM) (i j : Nat), s.1 = i + j → l[j]? = some x → k < x.lib.length → freeM i l T' < freeM i l T
  | [], _, j, _, h1, _ => by simp at h1
  | y :: ys, i, 0, he, h1, h2 => by
    rw [List.getElem?_cons_zero] at h1
    cases h1
    have := freeM_mono h ys (i + 1)
    rw [freeM, freeM]
    have hs : s = (i, (k : Int)) := Prod.ext (by omega) hk
    have : freeI T' i x.lib.length < freeI T i x.lib.length := by
      unfold freeI
      refine filter_lt (x := k) _ (fun k _ hk => ?_) (by simpa using h2) (by rw [← hs]; simpa using hn) (by rw [← hs]; simpa using hy)
      simp only [Bool.not_eq_true', decide_eq_false_iff_not] at hk ⊢
      exact fun e => hk (h _ e)
    omega
  | y :: ys, i, j + 1, he, h1, h2 => by
    rw [List.getElem?_cons_succ] at h1
    have ih := freeM_lt h hk hn hy ys (i + 1) j (by omega) h1 h2
    have := freeI_mono h i y.lib.length
    rw [freeM, freeM]
    omega
theorem wantS_some {D : List (List UInt8)} {H : Homes} {y : SymM} {s : Spot} (h : wantS D H y = some s) : y.name ∉ D ∧ needsM y = true ∧ H.lookup y.name = some s := by
  unfold wantS at h
  split at h
  · cases h
  · rename_i hc
    rw [not_or] at hc
    exact ⟨hc.1, by simpa using hc.2, h⟩
theorem next_some {l : List InM} {H : Homes} {d : Drn} {s : Spot} (h : nextM l H d = some s) : ∃ t ∈ orderM 0 l d.taken, ∃ y ∈ (objAt l t).syms, y.name ∉ d.defd ∧ needsM y = true ∧ H.lookup y.name = some s := by
  unfold nextM at h
  obtain ⟨t, ht, h1⟩ := List.exists_of_findSome?_eq_some h
  obtain ⟨y, hy, h2⟩ := List.exists_of_findSome?_eq_some h1
  exact ⟨t, ht, y, hy, wantS_some h2⟩
/-- A member that is drawn was not taken: one less is left. -/
theorem draw_step {l : List InM} {H : Homes} {d : Drn} (hd : DrnOk l d) (hH : HomesOk l H) {s : Spot} (h : nextM l H d = some s) : DrnOk l (takeM l d s) ∧ freeM 0 l (takeM l d s).taken < freeM 0 l d.taken ∧ ∃ o, MemAt l s o := by
  obtain ⟨t, -, y, -, h1, -, h2⟩ := next_some h
  obtain ⟨o, ho, z, hz, hzn, hzd⟩ := hH _ _ h2
  have hin : s.1 < l.length := by
    obtain ⟨x, k, m, h3, -⟩ := ho
    exact (List.getElem?_eq_some_iff.1 h3).1
  have hnot : s ∉ d.taken := fun e => h1 (by
    have := hd.defd s e z (by rw [objAt_mem ho]; exact hz) hzd
    rwa [hzn] at this)
  refine ⟨hd.take hin, ?_, o, ho⟩
  obtain ⟨x, k, m, h3, h4, h5, -⟩ := ho
  exact freeM_lt (T := d.taken) (T' := (takeM l d s).taken) (fun t ht => mem_addS.2 (.inl ht)) h4 hnot (mem_addS.2 (.inr rfl)) l 0 s.1 (by omega) h3 (List.getElem?_eq_some_iff.1 h5).1
theorem drawG_done {l : List InM} {H : Homes} (hH : HomesOk l H) : ∀ (n : Nat) (d : Drn), DrnOk l d → freeM 0 l d.taken < n → nextM l H (drawG l H n d) = none ∧ DrnOk l (drawG l H n d)
  | 0, d, _, h => by omega
  | n + 1, d, hd, h => by
    cases hn : nextM l H d with
    | none =>
      rw [drawG, hn]
      exact ⟨hn, hd⟩
    | some s =>
      rw [drawG, hn]
      obtain ⟨h1, h2, -⟩ := draw_step hd hH hn
      exact drawG_done hH n _ h1 (by omega)
theorem drawG_stop {l : List InM} {H : Homes} {d : Drn} (h : nextM l H d = none) : ∀ n, drawG l H n d = d
  | 0 => rfl
  | n + 1 => by rw [drawG, h]
theorem drawG_more {l : List InM} {H : Homes} : ∀ (n m : Nat) (d : Drn), nextM l H (drawG l H n d) = none → drawG l H (n + m) d = drawG l H n d
  | 0, m, d, h => by rw [Nat.zero_add]; exact drawG_stop h m
  | n + 1, m, d, h => by
    rw [show n + 1 + m = (n + m) + 1 by omega, drawG, drawG]
    rw [drawG] at h
    cases hn : nextM l H d with
    | none => rfl
    | some s =>
      rw [hn] at h
      exact drawG_more n m _ h
theorem drawG_taken {l : List InM} {H : Homes} : ∀ (n : Nat) (d : Drn), ∀ s ∈ d.taken, s ∈ (drawG l H n d).taken
  | 0, _, _, h => h
  | n + 1, d, s, h => by
    rw [drawG]
    cases hn : nextM l H d with
    | none => exact h
    | some t => exact drawG_taken n _ s (mem_addS.2 (.inl h))
theorem start_facts (l : List InM) : DrnOk l (startM l 0 l (⟨[], []⟩, [])).1 ∧ HomesOk l (startM l 0 l (⟨[], []⟩, [])).2 :=
  start_ok l 0 (drnOk_no l) (homesOk_nil l) fun j x h => by rw [Nat.zero_add]; exact h
theorem drawn_facts (l : List InM) : nextM l (startM l 0 l (⟨[], []⟩, [])).2 (drawnM l) = none ∧ DrnOk l (drawnM l) := by
  obtain ⟨h1, h2⟩ := start_facts l
  exact drawG_done h2 _ _ h1 (Nat.lt_succ_of_le (freeM_le l 0 _))
/-! ### The order -/
theorem mem_orderI {T : List Spot} {i : Nat} {x : InM} {s : Spot} : s ∈ orderI T i x ↔ (x.lib = [] ∧ s = (i, -1)) ∨ ∃ k < x.lib.length, s = (i, (k : Int)) ∧ s ∈ T := by
  unfold orderI
  rw [List.mem_append, List.mem_map]
  constructor
  · rintro (h | ⟨k, h1, rfl⟩)
    · split at h
      · rename_i hx
        exact .inl ⟨hx, by simpa using h⟩
      · cases h
    · rw [List.mem_filter, List.mem_range] at h1
      exact .inr ⟨k, h1.1, rfl, by simpa using h1.2⟩
  · rintro (⟨h1, rfl⟩ | ⟨k, h1, rfl, h2⟩)
    · rw [if_pos h1]
      exact .inl (by simp)
    · exact .inr ⟨k, by rw [List.mem_filter, List.mem_range]; exact ⟨h1, by simpa using h2⟩, rfl⟩
theorem mem_orderM {T : List Spot} {s : Spot} : ∀ {l : List InM} {i : Nat}, s ∈ orderM i l T ↔ ∃ j x, l[j]? = some x ∧ s ∈ orderI T (i + j) x
  | [], i => by simp [orderM]
  | y :: ys, i => by
    rw [orderM, List.mem_append, mem_orderM]
    constructor
    · rintro (h | ⟨j, x, h1, h2⟩)
      · exact ⟨0, y, by simp, h⟩
      · exact ⟨j + 1, x, by simpa using h1, by rw [show i + (j + 1) = i + 1 + j by omega]; exact h2⟩
    · rintro ⟨j, x, h1, h2⟩
      cases j with
      | zero =>
        rw [List.getElem?_cons_zero] at h1
        cases h1
        exact .inl h2
      | succ j =>
        exact .inr ⟨j, x, by simpa using h1, by rw [show i + 1 + j = i + (j + 1) by omega]; exact h2⟩
theorem order_mono {T T' : List Spot} (h : ∀ s ∈ T, s ∈ T') {l : List InM} {i : Nat} {s : Spot} (hs : s ∈ orderM i l T) : s ∈ orderM i l T' := by
  obtain ⟨j, x, h1, h2⟩ := mem_orderM.1 hs
  refine mem_orderM.2 ⟨j, x, h1, ?_⟩
  rcases mem_orderI.1 h2 with h3 | ⟨k, h3, h4, h5⟩
  · exact mem_orderI.2 (.inl h3)
  · exact mem_orderI.2 (.inr ⟨k, h3, h4, h _ h5⟩)
theorem order_inside {T : List Spot} {l : List InM} {s : Spot} (hs : s ∈ orderM 0 l T) : s.1 < l.length ∧ objAt l s ∈ objsM l := by
  obtain ⟨j, x, h1, h2⟩ := mem_orderM.1 hs
  rw [Nat.zero_add] at h2
  have hj := (List.getElem?_eq_some_iff.1 h1).1
  have hm := List.mem_of_getElem? h1
  rcases mem_orderI.1 h2 with ⟨h3, rfl⟩ | ⟨k, h3, rfl, h5⟩
  · refine ⟨hj, List.mem_flatMap.2 ⟨x, hm, ?_⟩⟩
    unfold objAt objsI
    rw [h1]
    simp [h3]
  · refine ⟨hj, List.mem_flatMap.2 ⟨x, hm, ?_⟩⟩
    rw [objAt_mem (o := x.lib[k].obj) ⟨x, k, x.lib[k], h1, rfl, List.getElem?_eq_getElem h3, rfl⟩]
    unfold objsI
    exact List.mem_append_right _ (List.mem_map.2 ⟨_, List.getElem_mem h3, rfl⟩)
/-- Modules by themselves are all taken. -/
def plainN (l : List InM) : Nat := l.countP fun x => decide (x.lib = [])
theorem order_plain : ∀ (l : List InM) (i : Nat) (T : List Spot), plainN l ≤ (orderM i l T).length
  | [], _, _ => Nat.le_refl _
  | x :: xs, i, T => by
    have ih := order_plain xs (i + 1) T
    unfold plainN at ih ⊢
    rw [orderM, List.length_append, List.countP_cons, orderI, List.length_append]
    by_cases h : x.lib = []
    · simp [h]; omega
    · simp [h]; omega
/-! ### One more -/
section
variable {l : List InM} {mo : InM}
theorem objAt_more {s : Spot} (h : s.1 < l.length) : objAt (l ++ [mo]) s = objAt l s := by
  unfold objAt
  rw [List.getElem?_append_left h]
theorem nameAt_more {s : Spot} (h : s.1 < l.length) : nameAt (l ++ [mo]) s = nameAt l s := by
  unfold nameAt
  rw [List.getElem?_append_left h]
theorem takeM_more {s : Spot} (h : s.1 < l.length) (d : Drn) : takeM (l ++ [mo]) d s = takeM l d s := by
  unfold takeM
  rw [objAt_more h]
theorem start_more : ∀ (xs : List InM) (i : Nat) (d : Drn × Homes), i + xs.length = l.length → mo.lib ≠ [] → startM (l ++ [mo]) i (xs ++ [mo]) d = ((startM l i xs d).1, homeL l.length 0 mo.lib (startM l i xs d).2)
  | [], i, d, h, hm => by
    have hi : i = l.length := by simpa using h
    subst hi
    simp only [List.nil_append, startM, if_neg hm]
  | x :: xs, i, d, h, hm => by
    rw [List.cons_append, startM]
    rw [List.length_cons] at h
    rw [start_more xs (i + 1) _ (by omega) hm, startM, takeM_more (by show i < l.length; omega)]
theorem order_more (T : List Spot) : ∀ (xs : List InM) (i : Nat), i + xs.length = l.length → orderM i (xs ++ [mo]) T = orderM i xs T ++ orderI T l.length mo
  | [], i, h => by
    rw [List.nil_append, orderM, orderM, orderM, show i = l.length by simpa using h]
    simp
  | x :: xs, i, h => by
    rw [List.length_cons] at h
    rw [List.cons_append, orderM, order_more T xs (i + 1) (by omega), orderM, List.append_assoc]
theorem orderI_none {T : List Spot} (h : ∀ s ∈ T, s.1 < l.length) (hm : mo.lib ≠ []) : orderI T l.length mo = [] := by
  apply List.eq_nil_iff_forall_not_mem.2
  intro s hs
  rcases mem_orderI.1 hs with ⟨h1, -⟩ | ⟨k, -, rfl, h2⟩
  · exact hm h1
  · have := h _ h2
    dsimp only at this
    omega
theorem order_same {T : List Spot} (h : ∀ s ∈ T, s.1 < l.length) (hm : mo.lib ≠ []) : orderM 0 (l ++ [mo]) T = orderM 0 l T := by
  rw [order_more (l := l) T l 0 (by omega), orderI_none h hm, List.append_nil]
end
theorem findSome_congr {α β : Type} {f g : α → Option β} : ∀ {l : List α}, (∀ x ∈ l, f x = g x) → l.findSome? f = l.findSome? g
  | [], _ => rfl
  | x :: l, h => by
    rw [List.findSome?_cons, List.findSome?_cons, h x (by simp), findSome_congr fun y hy => h y (by simp [hy])]
theorem next_more {l : List InM} {mo : InM} {H H' : Homes} {d : Drn} {ex : List UInt8} (hd : ∀ s ∈ d.taken, s.1 < l.length) (hm : mo.lib ≠ []) (hH : ∀ n, n ≠ ex → H'.lookup n = H.lookup n)
    (hn : ∀ s ∈ orderM 0 l d.taken, ∀ y ∈ (objAt l s).syms, needsM y = true → y.name ≠ ex) : nextM (l ++ [mo]) H' d = nextM l H d := by
  unfold nextM
  rw [order_same hd hm]
  refine findSome_congr fun s hs => ?_
  rw [objAt_more (order_inside hs).1]
  refine findSome_congr fun y hy => ?_
  unfold wantS
  split
  · rfl
  · rename_i hc
    rw [not_or] at hc
    exact hH _ (hn s hs y hy (by simpa using hc.2))
theorem draw_more {l : List InM} {mo : InM} {H H' : Homes} {ex : List UInt8} (hm : mo.lib ≠ []) (hok : HomesOk l H) (hH : ∀ n, n ≠ ex → H'.lookup n = H.lookup n) : ∀ (n : Nat) (d : Drn), DrnOk l d →
    (∀ s ∈ orderM 0 l (drawG l H n d).taken, ∀ y ∈ (objAt l s).syms, needsM y = true → y.name ≠ ex) → drawG (l ++ [mo]) H' n d = drawG l H n d
  | 0, _, _, _ => rfl
  | n + 1, d, hd, hn => by
    have h1 : nextM (l ++ [mo]) H' d = nextM l H d := next_more hd.inside hm hH fun s hs => hn s (order_mono (drawG_taken (n + 1) d) hs)
    rw [drawG] at hn
    rw [drawG, drawG, h1]
    cases hx : nextM l H d with
    | none => rfl
    | some s =>
      rw [hx] at hn
      dsimp only at hn ⊢
      obtain ⟨h2, -, o, ho⟩ := draw_step hd hok hx
      have hin : s.1 < l.length := by
        obtain ⟨x, k, m, h3, -⟩ := ho
        exact (List.getElem?_eq_some_iff.1 h3).1
      rw [takeM_more hin]
      exact draw_more hm hok hH n _ h2 hn
/-- The member that nobody needs. -/
def extraO (tg : Int) (ex : List UInt8) : ObjM := ⟨tg, [], [⟨ex, 1, 0, 65521, 0, 0⟩]⟩
def moreI (nm nx : List UInt8) (tg : Int) (ex : List UInt8) : InM := ⟨nm, objNo, [⟨nx, extraO tg ex⟩]⟩
theorem drawn_more {l : List InM} {nm nx ex : List UInt8} {tg : Int} (hn : ∀ s ∈ orderM 0 l (drawnM l).taken, ∀ y ∈ (objAt l s).syms, needsM y = true → y.name ≠ ex) : drawnM (l ++ [moreI nm nx tg ex]) = drawnM l := by
  have hm : (moreI nm nx tg ex).lib ≠ [] := by simp [moreI]
  obtain ⟨h1, h2⟩ := start_facts l
  have hst := start_more (l := l) (mo := moreI nm nx tg ex) l 0 (⟨[], []⟩, []) (by omega) hm
  have hH : ∀ n, n ≠ ex → (homeL l.length 0 (moreI nm nx tg ex).lib (startM l 0 l (⟨[], []⟩, [])).2).lookup n = (startM l 0 l (⟨[], []⟩, [])).2.lookup n := fun n hne => by
    simp only [moreI, homeL, homeO, extraO, List.foldl_cons, List.foldl_nil]
    unfold homeS
    split
    · rw [lookup_snoc]
      dsimp only
      rw [if_neg hne]
      cases (startM l 0 l (⟨[], []⟩, [])).2.lookup n <;> rfl
    · rfl
  have hms : memsM (l ++ [moreI nm nx tg ex]) + 1 = memsM l + 1 + 1 := by
    unfold memsM
    simp [moreI]
  have e0 : drawnM (l ++ [moreI nm nx tg ex]) = drawG (l ++ [moreI nm nx tg ex]) (homeL l.length 0 (moreI nm nx tg ex).lib (startM l 0 l (⟨[], []⟩, [])).2) (memsM l + 1 + 1) (startM l 0 l (⟨[], []⟩, [])).1 := by
    unfold drawnM
    rw [hst, hms]
  have e1 : drawG l (startM l 0 l (⟨[], []⟩, [])).2 (memsM l + 1 + 1) (startM l 0 l (⟨[], []⟩, [])).1 = drawnM l := drawG_more _ 1 _ (drawn_facts l).1
  rw [e0, draw_more hm h2 hH _ _ h1 (by rw [e1]; exact hn), e1]
theorem firstE_append {α : Type} (f : α → Int) (l m : List α) : firstE f (l ++ m) = if firstE f l = 0 then firstE f m else firstE f l := by
  induction l with
  | nil => simp [firstE]
  | cons x l ih =>
    rw [List.cons_append, firstE, firstE, ih]
    by_cases h : f x = 0
    · rw [if_pos h, if_pos h]
    · rw [if_neg h, if_neg h, if_neg h]
theorem firstE_all {α : Type} {f : α → Int} {l : List α} (h : firstE f l = 0) : ∀ x ∈ l, f x = 0 := by
  induction l with
  | nil => intro x hx; cases hx
  | cons y l ih =>
    rw [firstE] at h
    intro x hx
    by_cases hy : f y = 0
    · rw [if_pos hy] at h
      rcases List.mem_cons.1 hx with rfl | hx
      · exact hy
      · exact ih h x hx
    · rw [if_neg hy] at h
      exact absurd h hy
theorem mayO_target {o : ObjM} (h : mayO o = 0) : 1 ≤ o.target ∧ o.target ≤ 3 := by
  unfold mayO at h
  split at h
  · cases h
  · rename_i hc
    omega
theorem may_extra {tg : Int} {ex : List UInt8} (h1 : 1 ≤ tg ∧ tg ≤ 3) (hm : mayS ex = true) : mayO (extraO tg ex) = 0 := by
  have hb : (buildR [ex]).2.2 = 0 := by
    have := build_one ex
    rw [hm] at this
    simpa using this
  have hw : (symW (extraO tg ex).syms).2.2.2 = 0 := by
    rw [symW_ok]
    · simp [extraO, symBad, kindB]
    · simp [extraO, ordB]
    · exact hb
  unfold mayO
  rw [if_neg (by simp only [extraO]; omega), if_neg (by simp [extraO]), if_neg (by simp [extraO, partsE]), if_neg (by rw [hw]; simp), if_neg (by simp [extraO, firstE, secE])]
  simp [extraO, firstE]
theorem resolve_ok {l : List InM} {known : List (List UInt8)} (h : (resolveM l known).2 = 0) : faultyM l = 0 ∧ (orderM 0 l (drawnM l).taken).length ≤ 256 ∧ firstE mayO (objsM l) = 0 ∧ (objsM l).any (fun o => !decide (o.target = ((objsM l)[0]?.elim 0 (·.target)))) = false ∧ (chosenM ((orderM 0 l (drawnM l).taken).map (objAt l)) known).2 = 0 ∧
    resolveM l known = (⟨(orderM 0 l (drawnM l).taken).map (objAt l), (orderM 0 l (drawnM l).taken).map (nameAt l), (chosenM ((orderM 0 l (drawnM l).taken).map (objAt l)) known).1⟩, 0) := by
  unfold resolveM at h ⊢
  by_cases h1 : faultyM l ≠ 0
  · rw [if_pos h1] at h; exact absurd h h1
  rw [if_neg h1] at h ⊢
  by_cases h2 : 256 < (orderM 0 l (drawnM l).taken).length
  · rw [if_pos h2] at h; cases h
  rw [if_neg h2] at h ⊢
  by_cases h3 : firstE mayO (objsM l) ≠ 0
  · rw [if_pos h3] at h; exact absurd h h3
  rw [if_neg h3] at h ⊢
  by_cases h4 : (objsM l).any (fun o => !decide (o.target = ((objsM l)[0]?.elim 0 (·.target)))) = true
  · rw [if_pos h4] at h; cases h
  rw [if_neg h4] at h ⊢
  by_cases h5 : (chosenM ((orderM 0 l (drawnM l).taken).map (objAt l)) known).2 ≠ 0
  · rw [if_pos h5] at h; exact absurd h h5
  rw [if_neg h5]
  exact ⟨by simpa using h1, by omega, by simpa using h3, by simpa using h4, by simpa using h5, rfl⟩
theorem resolve_no {l : List InM} {known : List (List UInt8)} (h : (resolveM l known).2 ≠ 0) : (resolveM l known).1 = takenNo := by
  unfold resolveM at h ⊢
  by_cases h1 : faultyM l ≠ 0
  · rw [if_pos h1]
  rw [if_neg h1] at h ⊢
  by_cases h2 : 256 < (orderM 0 l (drawnM l).taken).length
  · rw [if_pos h2]
  rw [if_neg h2] at h ⊢
  by_cases h3 : firstE mayO (objsM l) ≠ 0
  · rw [if_pos h3]
  rw [if_neg h3] at h ⊢
  by_cases h4 : (objsM l).any (fun o => !decide (o.target = ((objsM l)[0]?.elim 0 (·.target)))) = true
  · rw [if_pos h4]
  rw [if_neg h4] at h ⊢
  by_cases h5 : (chosenM ((orderM 0 l (drawnM l).taken).map (objAt l)) known).2 ≠ 0
  · rw [if_pos h5]
  rw [if_neg h5] at h
  exact absurd rfl h
/-- ResolveDraws. -/
theorem draws_law {l : List InM} {nm nx ex : List UInt8} (h : (resolveM l []).2 = 0) (hl : l.length ≤ 30) {o : ObjM} (ho : (resolveM l []).1.mods[0]? = some o) (hex : ∀ w ∈ (resolveM l []).1.wins, w.name ≠ ex) (h0 : ex ≠ []) (hm : mayS ex = true) :
    resolveM (l ++ [moreI nm nx o.target ex]) [] = resolveM l [] := by
  obtain ⟨h1, h2, h3, h4, h5, h6⟩ := resolve_ok h
  rw [h6] at ho hex
  dsimp only at ho hex
  have hneed : ∀ s ∈ orderM 0 l (drawnM l).taken, ∀ y ∈ (objAt l s).syms, needsM y = true → y.name ≠ ex := fun s hs y hy hn e => by
    unfold needsM at hn
    simp only [Bool.and_eq_true, decide_eq_true_eq, Bool.not_eq_true', decide_eq_false_iff_not] at hn
    obtain ⟨k, hk⟩ := List.mem_iff_getElem?.1 hs
    obtain ⟨j, hj⟩ := List.mem_iff_getElem?.1 hy
    have hin := ((chosen_names h5).2 ex).2 ⟨k, j, y, ⟨objAt l s, by rw [List.getElem?_map, hk]; rfl, hj⟩, e, by omega, h0⟩
    rw [List.mem_map] at hin
    obtain ⟨w, hw, hwn⟩ := hin
    exact hex w hw hwn
  have hd := drawn_more (nm := nm) (nx := nx) (tg := o.target) hneed
  have hdi := (drawn_facts l).2.inside
  have hmn : (moreI nm nx o.target ex).lib ≠ [] := by simp [moreI]
  have hord : orderM 0 (l ++ [moreI nm nx o.target ex]) (drawnM (l ++ [moreI nm nx o.target ex])).taken = orderM 0 l (drawnM l).taken := by rw [hd, order_same hdi hmn]
  have hob : (orderM 0 l (drawnM l).taken).map (objAt (l ++ [moreI nm nx o.target ex])) = (orderM 0 l (drawnM l).taken).map (objAt l) := List.map_congr_left fun s hs => objAt_more (order_inside hs).1
  have hnm : (orderM 0 l (drawnM l).taken).map (nameAt (l ++ [moreI nm nx o.target ex])) = (orderM 0 l (drawnM l).taken).map (nameAt l) := List.map_congr_left fun s hs => nameAt_more (order_inside hs).1
  have hoo : o ∈ objsM l := by
    have := List.mem_of_getElem? ho
    rw [List.mem_map] at this
    obtain ⟨s, hs, rfl⟩ := this
    exact (order_inside hs).2
  have hmo := firstE_all h3 o hoo
  have hobjs : objsM (l ++ [moreI nm nx o.target ex]) = objsM l ++ [extraO o.target ex] := by
    unfold objsM
    rw [List.flatMap_append]
    simp [objsI, moreI]
  obtain ⟨o0, hh0⟩ : ∃ o0, (objsM l)[0]? = some o0 := by
    cases hq : objsM l with
    | nil => rw [hq] at hoo; cases hoo
    | cons a b => exact ⟨a, rfl⟩
  have htg : ∀ x ∈ objsM l, x.target = o0.target := fun x hx => by
    rw [List.any_eq_false] at h4
    have := h4 x hx
    rw [hh0] at this
    simp only [Option.elim_some, Bool.not_eq_true'] at this
    exact Decidable.not_not.1 (fun e => this (by simp [e]))
  have hf : faultyM (l ++ [moreI nm nx o.target ex]) = 0 := by
    unfold faultyM at h1 ⊢
    by_cases a1 : l.any bothM = true
    · rw [if_pos a1] at h1; cases h1
    rw [if_neg a1] at h1
    rw [if_neg (by omega)] at h1
    by_cases a2 : l.any (fun x => decide (64 < x.lib.length)) = true
    · rw [if_pos a2] at h1; cases h1
    rw [if_neg (by rw [List.any_append, show l.any bothM = false by simpa using a1]; simp [bothM, moreI, objNo]), if_neg (by rw [List.length_append, List.length_singleton]; omega), if_neg (by rw [List.any_append, show l.any (fun x => decide (64 < x.lib.length)) = false by simpa using a2]; simp [moreI])]
  have hfi : firstE mayO (objsM (l ++ [moreI nm nx o.target ex])) = 0 := by
    rw [hobjs, firstE_append, if_pos h3]
    simp [firstE, may_extra (mayO_target hmo) hm]
  have htt : (objsM (l ++ [moreI nm nx o.target ex])).any (fun o' => !decide (o'.target = ((objsM (l ++ [moreI nm nx o.target ex]))[0]?.elim 0 (·.target)))) = false := by
    rw [List.any_eq_false]
    intro x hx
    have e : (objsM (l ++ [moreI nm nx o.target ex]))[0]? = some o0 := by
      rw [hobjs, List.getElem?_append_left (List.getElem?_eq_some_iff.1 hh0).1, hh0]
    rw [e]
    have hxt : x.target = o0.target := by
      rw [hobjs, List.mem_append, List.mem_singleton] at hx
      rcases hx with hx | rfl
      · exact htg x hx
      · exact htg o hoo
    simp [hxt]
  rw [h6]
  unfold resolveM
  rw [hord, hob, hnm, hf, hfi, htt, h5]
  rw [if_neg (by simp), if_neg (by omega), if_neg (by simp), if_neg (by simp), if_neg (by simp)]
end Go.Proofs.Ytnhbgijecdeahaa
namespace Go.Proofs.Ytnhbgijecdeahaa
open Go.RowKit Go.Fd
/-! ### What a part that may be is -/
theorem partE_0 {p : PartM} {b : Bool} (h : partE p b = 0) : namedF p.name = true ∧ b = false ∧ ordF p.flags lettersM = true ∧ pow2F p.align = true ∧ sizedF p = true := by
  unfold partE at h
  repeat' split at h
  all_goals first | omega | skip
  next h1 h2 h3 h4 h5 => exact ⟨by simpa using h1, by simpa using h2, by simpa using h3, by simpa using h4, by simpa using h5⟩
/-! ### A section of a part tells the part -/
/-- What a module's numbers are at most. -/
structure ObjWf (o : ObjM) : Prop where
  target : -9223372036854775808 ≤ o.target ∧ o.target < 9223372036854775808
  nums : ∀ p ∈ o.parts, (-9223372036854775808 ≤ p.align ∧ p.align < 9223372036854775808) ∧ (-9223372036854775808 ≤ p.size ∧ p.size < 9223372036854775808) ∧ p.data.length < 4611686018427387904
  relas : ∀ p ∈ o.parts, p.relas.length ≤ 1000 ∧ ∀ x ∈ p.relas, x.off < 18446744073709551616 ∧ -9223372036854775808 ≤ x.add ∧ x.add < 9223372036854775808
  many : o.syms.length ≤ 1000
  syms : ∀ s ∈ o.syms, s.value < 18446744073709551616 ∧ s.size < 18446744073709551616
end Go.Proofs.Ytnhbgijecdeahaa
namespace Go.Fd
open Go.RowKit
structure FlM where
  code : Int
  a : Int
  b : Int
deriving DecidableEq
structure WSec where
  name : Nat
  typ : Nat
  addr : Nat
  align : Nat
  pl : Nat
  size : Nat
/-- Have two stretches some in common? -/
def commonB (a s b t : Nat) : Bool := if b < a then decide (0 < s) && decide (a - b < t) else decide (0 < t) && decide (b - a < s)
/-- Is a stretch within the first n? -/
def withinB (a s n : Nat) : Bool := decide (s = 0) || (decide (a ≤ n) && decide (s ≤ n - a))
def fullB (s : WSec) : Bool := !decide (s.typ = 0) && !decide (s.typ = 8)
def pow2B (n : Nat) : Bool := !decide (n = 0) && decide (n &&& (n - 1) = 0)
def namedB (s : WSec) (tab : List UInt8) : Bool := decide (s.name < tab.length) && decide ((0 : UInt8) ∈ tab.drop s.name)
end Go.Fd
namespace Go.Proofs.Ytnhbgijecdeahaa
open Go.RowKit Go.Fd
def secW (l : List UInt8) (a : Nat) : WSec := ⟨gN l a 4, gN l (a + 4) 4, gN l (a + 16) 8, gN l (a + 48) 8, gN l (a + 24) 8, gN l (a + 32) 8⟩
def secsW (l : List UInt8) (n : Nat) : List WSec := (List.range n).map fun i => secW l (gN l 40 8 + 64 * i)
/-- Does it begin as a file does? -/
def bad1 (l : List UInt8) : Bool := decide (l.length < 64) || !decide (l.take 7 = [127, 69, 76, 70, 2, 1, 1])
def bad2 (l : List UInt8) : Bool := (!decide (gN l 16 2 = 1) && !decide (gN l 16 2 = 2)) || !decide (gN l 20 4 = 1) || !decide (gN l 52 2 = 64) || (decide (0 < gN l 56 2) && !decide (gN l 54 2 = 56)) || !decide (gN l 58 2 = 64)
def bad3 (l : List UInt8) : Bool := !withinB (gN l 32 8) (gN l 56 2 * 56) l.length || !withinB (gN l 40 8) (gN l 60 2 * 64) l.length || decide (gN l 60 2 ≤ gN l 62 2)
def fl (b : Bool) (c a d : Int) : List FlM := if b = true then [⟨c, a, d⟩] else []
def headF (l : List UInt8) : List FlM := if bad1 l = true then [⟨1, 0, 0⟩] else fl (bad2 l) 2 0 0 ++ fl (bad3 l) 3 0 0
/-- The table of names. -/
def tabW (l : List UInt8) (t : WSec) : List UInt8 := if fullB t = true ∧ 0 < t.size then (l.drop t.pl).take t.size else []
/-- What a section's flaw tells. -/
def SecFl (l : List UInt8) (S : List WSec) (own : Nat) (f : FlM) : Prop :=
  (∃ (i : Nat) (s : WSec), S[i]? = some s ∧ f = ⟨4, i, 0⟩ ∧ fullB s = true ∧ withinB s.pl s.size l.length = false) ∨
  (∃ (i : Nat) (s : WSec), S[i]? = some s ∧ f = ⟨5, i, 0⟩ ∧ s.align ≠ 0 ∧ (pow2B s.align = false ∨ s.addr % s.align ≠ 0)) ∨
  (∃ (i : Nat) (s t : WSec), S[i]? = some s ∧ S[own]? = some t ∧ f = ⟨6, i, 0⟩ ∧ namedB s (tabW l t) = false) ∨
  (∃ (i k : Nat) (s t : WSec), i < k ∧ S[i]? = some s ∧ S[k]? = some t ∧ f = ⟨7, i, k⟩ ∧ fullB s = true ∧ fullB t = true ∧ commonB s.pl s.size t.pl t.size = true)
/-- What a flaw of a file with a sound header tells. -/
def FlOk (l : List UInt8) (f : FlM) : Prop := SecFl l (secsW l (gN l 60 2)) (gN l 62 2) f ∨ (8 ≤ f.code ∧ (gN l 56 2 ≠ 0 ∨ gN l 16 2 = 2))
/-- What the flaws of a file are. -/
def Checked (l : List UInt8) (F : List FlM) : Prop := (headF l ≠ [] → F = headF l) ∧ (headF l = [] → ∀ f ∈ F, FlOk l f)
end Go.Proofs.Ytnhbgijecdeahaa
namespace Go.Fd
open Go.RowKit
section
variable {P : Program} {L : List Oper} {Q : Exit → Act → World → Prop} {w0 : World} {fuel i : Nat} {listed : Array Bool} {a : Act} {w : World} {o : Oper}
abbrev SAb (w0 : World) : World → Prop := fun w => Below w0.heap.size w0 w
/-- An operation that reads, taken first. -/
theorem held_quiet (hi : L[i]? = some o) (hB : (Region.noSelect L.toArray && Region.free .any L.toArray listed i && (Region.ready .any L.toArray listed).contains i) = true) (hw : Region.wanted o (yielded L.toArray a.tmps) = true) (hv : valB o = true)
    (hQ : ∀ v c a w, Q (.panic c) (a.put o.dst v) w → Q (.panic c) a w) (hb : Below w0.heap.size w0 w)
    (h : ∀ K : Act → Prop, (∀ a, wpAnyH P .any L.toArray Q (SAb w0) fuel (listed.setIfInBounds i true) a w → K a) → o.quiet P a (fun w => ∃ x : Above w0, w = x.w) K) : wpAnyH P .any L.toArray Q (SAb w0) (fuel + 1) listed a w := by
  simp only [Bool.and_eq_true] at hB
  obtain ⟨⟨h1, h2⟩, h3⟩ := hB
  obtain ⟨v, k1, k2⟩ := h (fun a => wpAnyH P .any L.toArray Q (SAb w0) fuel (listed.setIfInBounds i true) a w) (fun _ h => h)
  refine wpAnyH_take (i := i) (oi := o) (v := v) (by simpa using hi) h1 h2 h3 (hQ v) (.inl ⟨hw, fun w' hw' => ?_⟩) hb k2
  have := k1 w' ⟨⟨w', hw'⟩, rfl⟩
  unfold Oper.quietAt at this
  generalize hr : (execOp a.eval o).run P w' = res at this
  cases res with
  | halt x w2 => exact this.elim
  | ok n w2 =>
    obtain ⟨u, rfl⟩ := valB_spec hv hr
    obtain ⟨rfl, rfl⟩ := (this : w2 = w' ∧ u = v)
    rfl
theorem wpOp_of_list {ops : Array Oper} {K : Act → World → Prop} (hi : ops[i]? = some o) (h : wpList P ops (Exit.then K Q) [o] a w) : wpOp P ops Q i K a w := by
  unfold wpOp
  rw [hi]
  simp only [wpList] at h
  split at h
  · next hw =>
    simp only [hw, if_true]
    rcases h with h | ⟨h1, a1, w1, h2⟩
    · left
      unfold Oper.wp at *
      generalize (execOp a.eval o).run P w = r at *
      cases r with
      | ok n w' =>
        cases n <;> simp only [Oper.upon] at h ⊢ <;>
          first
            | exact h
            | exact Calls.mono h (fun e w'' he => by
                cases e with
                | returned v => exact he
                | panicked c => exact he
                | outgrown => obtain ⟨a0, w0, h0⟩ := (he : LetsOut _); exact ⟨a0, w0, h0⟩)
      | halt x w' => cases x <;> simp only [Oper.upon] at h ⊢ <;> exact h
    · right
      exact ⟨h1, a1, w1, h2⟩
  · next hw =>
    simp only [hw]
    exact h
end
end Go.Fd
namespace Go.Proofs.Ytnhbgijecdeahaa
open Go.RowKit Go.Fd
theorem firstE_0 {α : Type} {f : α → Int} : ∀ {l : List α}, firstE f l = 0 → ∀ x ∈ l, f x = 0 := by
  intro l
  induction l with
  | nil => intro _ x hx; cases hx
  | cons y l ih =>
    intro h x hx
    rw [firstE] at h
    split at h
    · next h0 =>
      rcases List.mem_cons.1 hx with rfl | hx
      · exact h0
      · exact ih h x hx
    · next h0 => exact absurd h h0
structure MayO (o : ObjM) : Prop where
  target : 1 ≤ o.target ∧ o.target ≤ 3
  many : o.parts.length ≤ 100 ∧ o.syms.length ≤ 16384
  parts : partsE o.parts [] = 0
  syms : (symW o.syms).2.2.2 = 0
  secs : ∀ s ∈ o.syms, secE o.parts.length s = 0
  relas : ∀ p ∈ o.parts, ∀ r ∈ p.relas, relE o.syms.length p.size r = 0
theorem mayO_0 {o : ObjM} (h : mayO o = 0) : MayO o := by
  unfold mayO at h
  split at h
  · omega
  · next h1 =>
    split at h
    · omega
    · next h2 =>
      split at h
      · next h3 => exact absurd h h3
      · next h3 =>
        split at h
        · next h4 => exact absurd h h4
        · next h4 =>
          split at h
          · next h5 => exact absurd h h5
          · next h5 => exact ⟨by omega, by omega, Classical.not_not.1 h3, Classical.not_not.1 h4, firstE_0 (Classical.not_not.1 h5), fun p hp => firstE_0 (firstE_0 h p hp)⟩
end Go.Proofs.Ytnhbgijecdeahaa
namespace Go.Proofs.Ytnhbgijecdeahaa
open Go.RowKit Go.Fd
/-- What memory holds of a module. -/
structure ObjAt (w : World) (o : ObjM) (L : List (PartM × Value × Value)) (pv sv : Value) : Prop where
  parts : o.parts = L.map (·.1)
  rd : RdR 6 encPart w pv L
  data : ∀ p ∈ L, Bs w p.2.1 p.1.data
  rela : ∀ p ∈ L, RdR 4 encRela w p.2.2 p.1.relas
  syms : RdR 6 encSym w sv o.syms
theorem ObjAt.mono {w w' : World} {o : ObjM} {L : List (PartM × Value × Value)} {pv sv : Value} (h : ObjAt w o L pv sv) (hb : Below w.heap.size w w') : ObjAt w' o L pv sv :=
  ⟨h.parts, h.rd.mono hb, fun p hp => (h.data p hp).mono hb, fun p hp => (h.rela p hp).mono hb, h.syms.mono hb⟩
/-- What is asked of a module, so that no number in a walk is too great. -/
structure ObjOk (o : ObjM) : Prop where
  wf : ObjWf o
  many : o.parts.length ≤ 1000
  names : ∀ p ∈ o.parts, p.name.length ≤ 9223372036854775807 ∧ p.flags.length ≤ 9223372036854775807
  data : ∀ p ∈ o.parts, p.data.length ≤ 1000000
  syms : ∀ s ∈ o.syms, s.name.length ≤ 9223372036854775807
abbrev objV (o : ObjM) (pv sv : Value) : Value := .agg #[.int .i64 o.target, pv, sv]
theorem obj_box {w : World} {g : Nat} {t : Int} {pv sv : Value} {ty : TypeId} {fr : Nat × Nat} (h : w.heap[g]? = some (.cells #[.int .i64 t, pv, sv] ty fr)) :
    w.cell? ⟨g, 0, none⟩ = some (.int .i64 t) ∧ w.cell? ⟨g, 1, none⟩ = some pv ∧ w.cell? ⟨g, 2, none⟩ = some sv :=
  ⟨cell_rec h 0, cell_rec h 1, cell_rec h 2⟩
/-- One cell of a block that was made: a number. -/
theorem wpList_setN {P : Program} {ops : Array Oper} {rest : List Oper} {Q : Exit → Act → World → Prop} {a : Act} {w : World} {d : Option Tmp} {ty t tb : TypeId} {pos : String} {aft : Array Edge} {p x : Operand} {c : Array Value} {g j base : Nat} {k : IntKind} {n : Int} (hg : w.heap[g]? = some (.cells c tb (0, 0))) (hj : j < c.size) (hp : a.eval p = .pointer (some ⟨g, j, none⟩)) (hx : a.eval x = .int k n) (hB : base ≤ g) (hBw : base ≤ w.heap.size) (hs : ∀ w, (sizeOf t).run P w = .ok 1 w)
    (h : ∀ w1, w1.heap[g]? = some (.cells (c.setIfInBounds j (.int k n)) tb (0, 0)) → Below base w w1 → Stirs (fun k => k = g) w w1 → wpList P ops Q rest (a.put d undef) w1) :
    wpList P ops Q (⟨d, .store t p x, ty, pos, aft, none⟩ :: rest) a w := by
  have hc : w.cell? ⟨g, j, none⟩ = some c[j] := (cell_rec hg j).trans (Array.getElem?_eq_getElem hj)
  have hfz := free_rec' hg j
  have hst : Stirs (fun k => k = g) w (w.setCell ⟨g, j, none⟩ (.int k n)) := stirs_setCell (S := fun k => k = g) _ g j _ rfl
  refine wpList_did (w' := w.setCell ⟨g, j, none⟩ (.int k n)) rfl ?_ (h _ ?_ ?_ hst)
  · simp only [execOp, hp, hx]
    simp [go_sem, hs, hc, hfz]
  · simp [World.setCell, Array.getElem?_modify, hg]
  · exact hst.below hBw (fun k hk => by rw [hk]; exact hB)
end Go.Proofs.Ytnhbgijecdeahaa
namespace Go.Proofs.Ytnhbgijecdeahaa
open Go.RowKit Go.Fd
theorem TMB : KeyT Try.prog 81 9 4 S := ⟨by kernel_rfl, Maps.string_keyed (by kernel_rfl), fun a b h => by simpa [S] using h⟩
theorem zeroB (w : World) : (zeroValue 4).run Try.prog w = .ok (.bool false) w := by kernel_rfl
theorem keySL (s : List UInt8) (h : s.length ≤ 9223372036854775807) : ∃ l, keyOf Try.prog 9 (S s) = some l := ⟨_, Go.WideMaps.keyOf_string_mk (by kernel_rfl) (by rw [sizeS]; unfold maxLen; omega)⟩
abbrev seenE {κ : Type} (T : List κ) : List (κ × Value) := T.map fun n => (n, Value.bool true)
theorem seen_keys {κ : Type} (T : List κ) : (seenE T).map (·.1) = T := by
  rw [List.map_map]
  exact List.map_id T
theorem look_seen {κ : Type} [DecidableEq κ] (T : List κ) (n : κ) : lookV false (.bool false) ((seenE T).lookup n) = .bool (decide (n ∈ T)) := by
  by_cases h : n ∈ T
  · rw [decide_eq_true h]
    obtain ⟨v, hv⟩ := lookup_key.2 (show n ∈ (seenE T).map (·.1) by rw [seen_keys]; exact h)
    have := lookup_mem hv
    rw [List.mem_map] at this
    obtain ⟨x, -, hx⟩ := this
    cases hx
    rw [hv]
    rfl
  · rw [decide_eq_false h, lookup_none_of (show n ∉ (seenE T).map (·.1) by rw [seen_keys]; exact h)]
    rfl
theorem put_seen {κ : Type} [DecidableEq κ] {T : List κ} {n : κ} (h : n ∉ T) : putE (seenE T) n (.bool true) = seenE (T ++ [n]) := by
  unfold putE
  rw [if_neg (by rw [seen_keys]; exact h)]
  simp
def namesK (L : List (PartM × Value × Value)) (k : Nat) : List (List UInt8) := (L.take k).map (·.1.name)
theorem names_succ {L : List (PartM × Value × Value)} {k : Nat} {x : PartM × Value × Value} (h : L[k]? = some x) : namesK L (k + 1) = namesK L k ++ [x.1.name] := by
  unfold namesK
  rw [List.take_add_one, h]
  simp
theorem drop_get {α : Type} {l : List α} {k : Nat} {x : α} (h : l[k]? = some x) : l.drop k = x :: l.drop (k + 1) := by
  obtain ⟨h1, h2⟩ := List.getElem?_eq_some_iff.1 h
  rw [List.drop_eq_getElem_cons h1, h2]
def restK (L : List (PartM × Value × Value)) (k : Nat) : Int := partsE ((L.drop k).map (·.1)) (namesK L k)
theorem restK_step {L : List (PartM × Value × Value)} {k : Nat} {x : PartM × Value × Value} (h : L[k]? = some x) : restK L k = if partE x.1 (decide (x.1.name ∈ namesK L k)) = 0 then restK L (k + 1) else partE x.1 (decide (x.1.name ∈ namesK L k)) := by
  unfold restK
  rw [drop_get h, List.map_cons, partsE, names_succ h]
theorem restK_end (L : List (PartM × Value × Value)) : restK L L.length = 0 := by
  unfold restK
  rw [List.drop_length]
  rfl
def firstK {α : Type} (f : α → Int) (l : List α) (k : Nat) : Int := firstE f (l.drop k)
theorem firstK_step {α : Type} {f : α → Int} {l : List α} {k : Nat} {x : α} (h : l[k]? = some x) : firstK f l k = if f x = 0 then firstK f l (k + 1) else f x := by
  unfold firstK
  rw [drop_get h, firstE]
theorem firstK_end {α : Type} (f : α → Int) (l : List α) : firstK f l l.length = 0 := by
  unfold firstK
  rw [List.drop_length]
  rfl
abbrev partZ : Array Value := #[.string ⟨#[]⟩, .string ⟨#[]⟩, .int .i64 0, .int .i64 0, .slice none 0 0, .slice none 0 0]
theorem sym_cells {w wr : World} {a : Option Addr} {l : List SymM} {x : SymM} {k : Nat}
    (hc : ∀ i x, l[i]? = some x → 0 < 6 → ∃ b off, a = some ⟨b, off, none⟩ ∧ ∀ c, c < 6 → w.cell? ⟨b, off + (i * 6 + c), none⟩ = (encSym x)[c]?) (hb : Below w.heap.size w wr) (hk : l[k]? = some x) :
    ∃ b o, a = some ⟨b, o, none⟩ ∧ wr.cell? ⟨b, o + k * 6, none⟩ = some (.string ⟨x.name.toArray⟩) ∧ wr.cell? ⟨b, o + k * 6 + 1, none⟩ = some (.int .i64 x.bind) ∧ wr.cell? ⟨b, o + k * 6 + 2, none⟩ = some (.int .i64 x.typ) ∧ wr.cell? ⟨b, o + k * 6 + 3, none⟩ = some (.int .i64 x.sec) ∧ wr.cell? ⟨b, o + k * 6 + 4, none⟩ = some (.int .u64 (x.value : Int)) ∧ wr.cell? ⟨b, o + k * 6 + 5, none⟩ = some (.int .u64 (x.size : Int)) ∧ b < w.heap.size := by
  obtain ⟨b, o, ha, hcc⟩ := hc k x hk (by decide)
  have hd : ∀ c v, (encSym x)[c]? = some v → wr.cell? ⟨b, o + k * 6 + c, none⟩ = some v := fun c v h => by
    have h6 : c < 6 := (List.getElem?_eq_some_iff.1 h).1
    have := (hcc c h6).trans h
    rw [← Nat.add_assoc] at this
    exact (hb.cell (block_lt this)).trans this
  have h0 : b < w.heap.size := block_lt ((hcc 0 (by decide)).trans rfl)
  exact ⟨b, o, ha, hd 0 _ rfl, hd 1 _ rfl, hd 2 _ rfl, hd 3 _ rfl, hd 4 _ rfl, hd 5 _ rfl, h0⟩
theorem rela_cells {w wr : World} {a : Option Addr} {l : List RelaM} {x : RelaM} {k : Nat}
    (hc : ∀ i x, l[i]? = some x → 0 < 4 → ∃ b off, a = some ⟨b, off, none⟩ ∧ ∀ c, c < 4 → w.cell? ⟨b, off + (i * 4 + c), none⟩ = (encRela x)[c]?) (hb : Below w.heap.size w wr) (hk : l[k]? = some x) :
    ∃ b o, a = some ⟨b, o, none⟩ ∧ wr.cell? ⟨b, o + k * 4, none⟩ = some (.int .u64 (x.off : Int)) ∧ wr.cell? ⟨b, o + k * 4 + 1, none⟩ = some (.int .i64 x.typ) ∧ wr.cell? ⟨b, o + k * 4 + 2, none⟩ = some (.int .i64 x.sym) ∧ wr.cell? ⟨b, o + k * 4 + 3, none⟩ = some (.int .i64 x.add) ∧ b < w.heap.size := by
  obtain ⟨b, o, ha, hcc⟩ := hc k x hk (by decide)
  have hd : ∀ c v, (encRela x)[c]? = some v → wr.cell? ⟨b, o + k * 4 + c, none⟩ = some v := fun c v h => by
    have h6 : c < 4 := (List.getElem?_eq_some_iff.1 h).1
    have := (hcc c h6).trans h
    rw [← Nat.add_assoc] at this
    exact (hb.cell (block_lt this)).trans this
  have h0 : b < w.heap.size := block_lt ((hcc 0 (by decide)).trans rfl)
  exact ⟨b, o, ha, hd 0 _ rfl, hd 1 _ rfl, hd 2 _ rfl, hd 3 _ rfl, h0⟩
set_option maxHeartbeats 8000000 in
set_option maxRecDepth 100000 in
theorem may6_any (o : ObjM) (L : List (PartM × Value × Value)) (pv sv : Value) (w : World) (h : ObjAt w o L pv sv) (ho : ObjOk o) :
    Calls Try.prog 18 #[objV o pv sv] w fun e w' => e = .returned (.int .i64 (mayO o)) ∧ Below w.heap.size w w' := by
  have HSW := Lib.hid (fun wx (hb : Below w.heap.size w wx) => symsWrite_any o.syms _ wx ho.wf.many ho.wf.syms (h.syms.mono hb))
  have HH := Lib.hid h
  obtain ⟨pa, pc, rfl, hpc, -, hP⟩ := h.rd.open (fun _ => rfl)
  obtain ⟨sa, sc, rfl, hsc, -, hS⟩ := h.syms.open (fun _ => rfl)
  have HP := Lib.hid hP
  have HS := Lib.hid hS
  have HME : Hid (mayO o = if o.target < 1 ∨ 3 < o.target then 11 else if 100 < o.parts.length ∨ 16384 < o.syms.length then 6 else if partsE o.parts [] ≠ 0 then partsE o.parts [] else if (symW o.syms).2.2.2 ≠ 0 then (symW o.syms).2.2.2 else if firstE (secE o.parts.length) o.syms ≠ 0 then firstE (secE o.parts.length) o.syms else firstE (fun p => firstE (relE o.syms.length p.size) p.relas) o.parts) := rfl
  have hpl : o.parts.length = L.length := by rw [h.parts, List.length_map]
  have HR0 : Hid (partsE o.parts [] = restK L 0) := by rw [h.parts]; rfl
  have HF0 : Hid (firstE (fun p => firstE (relE o.syms.length p.size) p.relas) o.parts = firstK (fun x => firstE (relE o.syms.length x.1.size) x.1.relas) L 0) := by
    rw [h.parts]
    show firstE _ (L.map (·.1)) = firstE _ L
    clear HSW HH hP hS HP HS HME h ho hpl HR0 hpc
    induction L with
    | nil => rfl
    | cons x L ih => rw [List.map_cons, firstE, firstE, ih]
  have HL9 : L.length ≤ 1000 := by rw [← hpl]; exact ho.many
  have HS9 : o.syms.length ≤ 1000 := ho.wf.many
  rw [hpl] at HME
  obtain ⟨np, hnp⟩ : ∃ n, n = L.length := ⟨_, rfl⟩
  obtain ⟨ns, hns⟩ : ∃ n, n = o.syms.length := ⟨_, rfl⟩
  rw [← hnp] at HME hpc HL9 ⊢
  rw [← hns] at HME hsc HS9 HF0 HSW ⊢
  have HNP := Lib.hid hnp
  have HNS := Lib.hid hns
  have HOK := Lib.hid ho
  have HL := Lib.hid h.parts
  obtain ⟨target, parts, syms⟩ := o
  dsimp only at *
  generalize mayO ⟨target, parts, syms⟩ = q at *
  clear h hP hS hpl hnp hns ho
  by_cases ht1 : target < 1
  · have HR := Lib.hid (show q = 11 by rw [HME.out, if_pos (.inl ht1)])
    go_enter Try.func18, Try.ntmps18
    go_wp2_with (first
      | ((with_reducible show wpList _ _ _ (⟨some 1, .box _ _, _, _, _, _⟩ :: _) _ _); go_must (refine wpList_box rfl ?_; intro w1 hx1 hb1 hs1; have HX1 := Lib.hid hx1; have HB1 := Lib.hid hb1; obtain ⟨c0, c1, c2⟩ := obj_box hx1; clear hx1 hb1)))
    go_ret
    exact ⟨by rw [HR.out]; rfl, HB1.out⟩
  by_cases ht2 : 3 < target
  · have HR := Lib.hid (show q = 11 by rw [HME.out, if_pos (.inr ht2)])
    go_enter Try.func18, Try.ntmps18
    go_wp2_with (first
      | ((with_reducible show wpList _ _ _ (⟨some 1, .box _ _, _, _, _, _⟩ :: _) _ _); go_must (refine wpList_box rfl ?_; intro w1 hx1 hb1 hs1; have HX1 := Lib.hid hx1; have HB1 := Lib.hid hb1; obtain ⟨c0, c1, c2⟩ := obj_box hx1; clear hx1 hb1)))
    go_ret
    exact ⟨by rw [HR.out]; rfl, HB1.out⟩
  by_cases hl1 : 100 < np
  · have HR := Lib.hid (show q = 6 by rw [HME.out, if_neg (by omega), if_pos (.inl hl1)])
    go_enter Try.func18, Try.ntmps18
    go_wp2_with (first
      | ((with_reducible show wpList _ _ _ (⟨some 1, .box _ _, _, _, _, _⟩ :: _) _ _); go_must (refine wpList_box rfl ?_; intro w1 hx1 hb1 hs1; have HX1 := Lib.hid hx1; have HB1 := Lib.hid hb1; obtain ⟨c0, c1, c2⟩ := obj_box hx1; clear hx1 hb1)))
    go_ret
    exact ⟨by rw [HR.out]; rfl, HB1.out⟩
  have HM1 := Lib.hid (show q = if partsE parts [] ≠ 0 then partsE parts [] else if (symW syms).2.2.2 ≠ 0 then (symW syms).2.2.2 else if firstE (secE np) syms ≠ 0 then firstE (secE np) syms else firstE (fun p => firstE (relE ns p.size) p.relas) parts by rw [HME.out, if_neg (by omega), if_neg (by omega)])
  clear HME
  have hmm := @run_makeMap Try.prog
  go_enter Try.func18, Try.ntmps18
  go_wp2_with (first
    | ((with_reducible show wpList _ _ _ (⟨some 1, .box _ _, _, _, _, _⟩ :: _) _ _); go_must (refine wpList_box rfl ?_; intro w1 hx1 hb1 hs1; have HX1 := Lib.hid hx1; have HB1 := Lib.hid hb1; have HMD := Lib.hid (MapIs.made (P := Try.prog) (k := 9) (mk := S) w1); have HX2 := Lib.hid (heap_below (below_alloc w1 (.map #[] 0)) hx1); have HB2 := Lib.hid (hb1.trans ((below_alloc w1 (.map #[] 0)).mono hb1.size)); obtain ⟨c0, c1, c2⟩ := obj_box HX2.out; obtain ⟨c0, c1, c2⟩ := obj_box hx1; clear hx1 hb1)))
  go_loopw [42] (fun i wr => ∃ k : Nat, i = .int .i64 k ∧ k ≤ np ∧ Hid (partsE parts [] = restK L k) ∧ Hid (MapIs Try.prog 9 S wr w1.heap.size (seenE (namesK L k))) ∧ Hid (Below w1.heap.size w1 wr) ∧ w1.heap.size < wr.heap.size) (fun i _ => np - (intOf i).toNat)
  case atStart => exact ⟨0, rfl, Nat.zero_le _, HR0, HMD.out, below_alloc w1 _, by rw [World.size_alloc]; omega⟩
  case round =>
    obtain ⟨k, rfl, hk, HPE, HMP, HW, hsw⟩ := hrel
    have HB := Lib.hid (HB1.out.trans (HW.out.mono HB1.out.size))
    have HXr := Lib.hid (heap_below HW.out HX1.out)
    obtain ⟨c0, c1, c2⟩ := obj_box HXr.out
    by_cases hlt : k < np
    · obtain ⟨x, hx⟩ : ∃ x, L[k]? = some x := ⟨_, List.getElem?_eq_getElem (by have := HNP.out; omega)⟩
      obtain ⟨b, o, rfl, e0, e1, e2, e3, e4, e5, hb0⟩ := part_cells HP.out HB.out hx
      have HX := Lib.hid hx
      have hmem : x.1 ∈ parts := by rw [HL.out]; exact List.mem_map.2 ⟨x, List.mem_of_getElem? hx, rfl⟩
      have hnm := HOK.out.names x.1 hmem
      have HRS := Lib.hid (restK_step hx)
      have HNA := Lib.hid (names_succ hx)
      obtain ⟨l, hkl⟩ := keySL x.1.name hnm.1
      have HLK : Hid (lookV false (.bool false) (@List.lookup _ _ instBEqOfDecidableEq x.1.name (seenE (namesK L k))) = .bool (decide (x.1.name ∈ namesK L k))) := Lib.hid ((look_seen (namesK L k) x.1.name).trans (congrArg Value.bool (decide_eq_decide.2 Iff.rfl)))
      have HPT := Lib.hid (fun there wx (hb : Below w.heap.size w wx) => part6_any x.1 there x.2.1 x.2.2 wx ((HH.out.data x (List.mem_of_getElem? hx)).mono hb) (by have := HOK.out.data _ hmem; omega) (by omega))
      have HPS := Lib.hid (put_seen (T := namesK L k) (n := x.1.name))
      have HLA := Lib.hid (show (seenE (namesK L k)).length < maxLen by unfold maxLen namesK; rw [List.length_map, List.length_map, List.length_take]; omega)
      have HTRU : Hid (x.1.name ∈ namesK L k → partE x.1 (decide (x.1.name ∈ namesK L k)) ≠ 0) := Lib.hid (fun hm h0 => by
        have := (partE_0 h0).2.1
        rw [decide_eq_true hm] at this
        cases this)
      have hbs := HB.out.size
      obtain ⟨md, ad, cd, -, hdv, -, -⟩ := (HH.out.data x (List.mem_of_getElem? hx)).shape
      obtain ⟨mr, ar, cr, -, hrv, -, -⟩ := (HH.out.rela x (List.mem_of_getElem? hx)).shape
      obtain ⟨⟨name, flags, align, size, data, relas⟩, dv, rv⟩ := x
      dsimp only at *
      subst hdv hrv
      clear hx hmem hnm
      generalize hth : decide (name ∈ namesK L k) = there at *
      have HTH := Lib.hid hth
      clear hth
      generalize hpe : partE ⟨name, flags, align, size, data, relas⟩ there = pe at *
      have HPT2 := Lib.hid (fun wx (hb : Below w.heap.size w wx) => HPT.out there wx hb)
      rw [hpe] at HPT2
      clear HPT
      by_cases hp0 : pe = 0
      · subst hp0
        have hno : name ∉ namesK L k := fun hm => HTRU.out hm rfl
        have HPS2 := Lib.hid (HPS.out hno)
        have HR1 := Lib.hid (show partsE parts [] = restK L (k + 1) by rw [HPE.out, HRS.out, if_pos rfl])
        clear hno HPS HTRU HRS hpe
        go_wp2_with (first
          | ((with_reducible show wpList _ _ _ (⟨none, .store _ (.tmp 5) _, _, _, _, _⟩ :: _) _ _); go_must (refine wpList_storeNew rfl rfl (by kernel_rfl) rfl (by simp [Value.oneCell']) ?_; intro w2 hh2 hb2; have HH2 := Lib.hid hh2; have HM2 := Lib.hid (HMP.out.mono hb2); have HBB2 := Lib.hid (HW.out.trans (hb2.mono (Nat.le_of_lt hsw))); have hs2 := hb2.size; obtain ⟨d0, d1, d2, d3, d4, d5⟩ := part_box (x := (⟨name, flags, align, size, data, relas⟩, .slice ad md cd, .slice ar mr cr)) hh2; clear hh2 hb2))
          | ((with_reducible show wpList _ _ _ (⟨some 50, _, _, _, _, _⟩ :: _) _ _); go_must (refine wpList_lookM TMB HM2.out (zeroB _) hkl HLK.out rfl rfl ?_))
          | (go_at_call 27; refine (HPT2.out _ (HB1.out.trans (HBB2.out.mono HB1.out.size))).mono ?_; rintro e w3 ⟨rfl, hb3⟩; have HM3 := Lib.hid (HM2.out.mono hb3); have HBB3 := Lib.hid (HBB2.out.trans (hb3.mono HBB2.out.size)); have hs3 := hb3.size; obtain ⟨d0, d1, d2, d3, d4, d5⟩ := part_box (x := (⟨name, flags, align, size, data, relas⟩, .slice ad md cd, .slice ar mr cr)) (heap_below hb3 HH2.out); clear hb3)
          | (at_mapUpdate; go_must (refine wpList_storeM TMB HM3.out HLA.out (key := name) (val := .bool true) hkl rfl rfl rfl ?_; intro w4 hm4 hg4 hs4; rw [HPS2.out, ← HNA.out] at hm4; have HM4 := Lib.hid hm4; have HBB4 := Lib.hid (HBB3.out.trans (below_of_grown (B := w1.heap.size) hg4 HBB3.out.size (fun q hq => by cases hq; omega))); clear hm4 hg4)))
        exact ⟨⟨k + 1, rfl, by omega, HR1.out, HM4.out, HBB4.out, by omega⟩, by simp [intOf]; omega⟩
      · have HR1 := Lib.hid (show q = pe by rw [HM1.out, HPE.out, HRS.out, if_neg hp0, if_pos hp0])
        have hpb : (pe != 0) = true := bne_iff_ne.2 hp0
        clear hp0 hpe
        go_wp2_with (first
          | ((with_reducible show wpList _ _ _ (⟨none, .store _ (.tmp 5) _, _, _, _, _⟩ :: _) _ _); go_must (refine wpList_storeNew rfl rfl (by kernel_rfl) rfl (by simp [Value.oneCell']) ?_; intro w2 hh2 hb2; have HH2 := Lib.hid hh2; have HM2 := Lib.hid (HMP.out.mono hb2); have HBB2 := Lib.hid (HW.out.trans (hb2.mono (Nat.le_of_lt hsw))); have hs2 := hb2.size; obtain ⟨d0, d1, d2, d3, d4, d5⟩ := part_box (x := (⟨name, flags, align, size, data, relas⟩, .slice ad md cd, .slice ar mr cr)) hh2; clear hh2 hb2))
          | ((with_reducible show wpList _ _ _ (⟨some 50, _, _, _, _, _⟩ :: _) _ _); go_must (refine wpList_lookM TMB HM2.out (zeroB _) hkl HLK.out rfl rfl ?_))
          | (go_at_call 27; refine (HPT2.out _ (HB1.out.trans (HBB2.out.mono HB1.out.size))).mono ?_; rintro e w3 ⟨rfl, hb3⟩; have HBB3 := Lib.hid (HBB2.out.trans (hb3.mono HBB2.out.size)); clear hb3))
        go_ret
        exact ⟨by rw [HR1.out]; rfl, HB1.out.trans (HBB3.out.mono HB1.out.size)⟩
    · obtain rfl : k = np := by omega
      have HM2 := Lib.hid (show q = if (symW syms).2.2.2 ≠ 0 then (symW syms).2.2.2 else if firstE (secE k) syms ≠ 0 then firstE (secE k) syms else firstE (fun p => firstE (relE ns p.size) p.relas) parts by
        have h0 : restK L k = 0 := by rw [HNP.out]; exact restK_end L
        rw [HM1.out, HPE.out, h0, if_neg (by simp)])
      clear HM1 HPE HR0
      generalize (symW syms).2.2.2 = se at *
      by_cases hs0 : se = 0
      · subst hs0
        have HM3 := Lib.hid (show q = if firstE (secE k) syms ≠ 0 then firstE (secE k) syms else firstE (fun p => firstE (relE ns p.size) p.relas) parts by rw [HM2.out, if_neg (by simp)])
        clear HM2
        have hbs := HB.out.size
        go_wp2_with (go_at_call 28; refine (HSW.out _ HB.out).mono ?_; rintro e w5 ⟨v1, v2, rfl, -, -, hb5, -⟩; have HX5 := Lib.hid (heap_below hb5 HXr.out); have HB5 := Lib.hid (HB.out.trans (hb5.mono hbs)); obtain ⟨c0, c1, c2⟩ := obj_box HX5.out; clear hb5)
        clear HSW HMP HW HXr HMD HX1 HX2 HB2
        go_loopw [73] (fun i wr => ∃ j : Nat, i = .int .i64 j ∧ j ≤ ns ∧ Hid (firstE (secE k) syms = firstK (secE k) syms j) ∧ Hid (Below w5.heap.size w5 wr)) (fun i _ => ns - (intOf i).toNat)
        case atStart => exact ⟨0, rfl, Nat.zero_le _, rfl, Below.refl _ _⟩
        case round =>
          obtain ⟨j, rfl, hj, HFE, HWj⟩ := hrel
          have HBj := Lib.hid (HB5.out.trans (HWj.out.mono HB5.out.size))
          have HXj := Lib.hid (heap_below HWj.out HX5.out)
          obtain ⟨c0, c1, c2⟩ := obj_box HXj.out
          have hsj := HWj.out.size
          by_cases hlt2 : j < ns
          · obtain ⟨x, hx⟩ : ∃ x, syms[j]? = some x := ⟨_, List.getElem?_eq_getElem (by have := HNS.out; omega)⟩
            obtain ⟨b, o, rfl, e0, e1, e2, e3, e4, e5, hb0⟩ := sym_cells HS.out HBj.out hx
            have HFS := Lib.hid (firstK_step (f := secE k) hx)
            have HSE : Hid (secE k x = if (k : Int) < x.sec ∧ x.sec ≠ 65521 ∧ x.sec ≠ 65522 then 15 else 0) := rfl
            obtain ⟨name, bind, typ, sec, value, size⟩ := x
            dsimp only at *
            clear hx
            by_cases hbad : (k : Int) < sec ∧ sec ≠ 65521 ∧ sec ≠ 65522
            · have HR1 := Lib.hid (show q = 15 by
                have h1 : firstE (secE k) syms = 15 := by rw [HFE.out, HFS.out, HSE.out, if_pos hbad]; rfl
                rw [HM3.out, h1]; rfl)
              obtain ⟨g1, g2, g3⟩ := hbad
              have t2 : (sec != 65521) = true := bne_iff_ne.2 g2
              have t3 : (sec != 65522) = true := bne_iff_ne.2 g3
              clear HM3 HFE HFS HSE
              go_wp2_with (first
                | ((with_reducible show wpList _ _ _ (⟨none, .store _ (.tmp 12) _, _, _, _, _⟩ :: _) _ _); go_must (refine wpList_storeNew rfl rfl (by kernel_rfl) rfl (by simp [Value.oneCell']) ?_; intro w6 hh6 hb6; have HB6 := Lib.hid (HBj.out.trans (hb6.mono HBj.out.size)); obtain ⟨c0, c1, c2⟩ := obj_box (heap_below hb6 HXj.out); have d3 := cell_rec hh6 3; simp only [List.getElem?_toArray, List.getElem?_cons_succ, List.getElem?_cons_zero] at d3; clear hh6 hb6)))
              go_ret
              exact ⟨by rw [HR1.out]; rfl, HB6.out⟩
            · have HN1 := Lib.hid (show firstE (secE k) syms = firstK (secE k) syms (j + 1) by rw [HFE.out, HFS.out, HSE.out, if_neg hbad, if_pos rfl])
              have HBAD := Lib.hid hbad
              clear HFE HFS HSE hbad
              by_cases g1 : (k : Int) < sec
              · by_cases g2 : sec = 65521
                · have t2 : (sec != 65521) = false := by rw [g2]; rfl
                  clear g2
                  go_wp2_with (first
                    | ((with_reducible show wpList _ _ _ (⟨none, .store _ (.tmp 12) _, _, _, _, _⟩ :: _) _ _); go_must (refine wpList_storeNew rfl rfl (by kernel_rfl) rfl (by simp [Value.oneCell']) ?_; intro w6 hh6 hb6; have HB6 := Lib.hid (HWj.out.trans (hb6.mono HWj.out.size)); obtain ⟨c0, c1, c2⟩ := obj_box (heap_below hb6 HXj.out); have d3 := cell_rec hh6 3; simp only [List.getElem?_toArray, List.getElem?_cons_succ, List.getElem?_cons_zero] at d3; clear hh6 hb6)))
                  exact ⟨⟨j + 1, rfl, by omega, HN1.out, HB6.out⟩, by simp [intOf]; omega⟩
                · have g3 : sec = 65522 := by
                    rcases Classical.em (sec = 65522) with h | h
                    · exact h
                    · exact absurd ⟨g1, g2, h⟩ HBAD.out
                  have t2 : (sec != 65521) = true := bne_iff_ne.2 g2
                  have t3 : (sec != 65522) = false := by rw [g3]; rfl
                  clear g2 g3
                  go_wp2_with (first
                    | ((with_reducible show wpList _ _ _ (⟨none, .store _ (.tmp 12) _, _, _, _, _⟩ :: _) _ _); go_must (refine wpList_storeNew rfl rfl (by kernel_rfl) rfl (by simp [Value.oneCell']) ?_; intro w6 hh6 hb6; have HB6 := Lib.hid (HWj.out.trans (hb6.mono HWj.out.size)); obtain ⟨c0, c1, c2⟩ := obj_box (heap_below hb6 HXj.out); have d3 := cell_rec hh6 3; simp only [List.getElem?_toArray, List.getElem?_cons_succ, List.getElem?_cons_zero] at d3; clear hh6 hb6)))
                  exact ⟨⟨j + 1, rfl, by omega, HN1.out, HB6.out⟩, by simp [intOf]; omega⟩
              · go_wp2_with (first
                  | ((with_reducible show wpList _ _ _ (⟨none, .store _ (.tmp 12) _, _, _, _, _⟩ :: _) _ _); go_must (refine wpList_storeNew rfl rfl (by kernel_rfl) rfl (by simp [Value.oneCell']) ?_; intro w6 hh6 hb6; have HB6 := Lib.hid (HWj.out.trans (hb6.mono HWj.out.size)); obtain ⟨c0, c1, c2⟩ := obj_box (heap_below hb6 HXj.out); have d3 := cell_rec hh6 3; simp only [List.getElem?_toArray, List.getElem?_cons_succ, List.getElem?_cons_zero] at d3; clear hh6 hb6)))
                exact ⟨⟨j + 1, rfl, by omega, HN1.out, HB6.out⟩, by simp [intOf]; omega⟩
          · obtain rfl : j = ns := by omega
            have HM4 := Lib.hid (show q = firstK (fun x => firstE (relE j x.1.size) x.1.relas) L 0 by
              have h0 : firstK (secE k) syms j = 0 := by rw [HNS.out]; exact firstK_end _ _
              rw [HM3.out, HFE.out, h0, if_neg (by simp), HF0.out])
            clear HM3 HFE HF0
            go_wp2
            go_loopw [97] (fun i wr => ∃ n : Nat, i = .int .i64 n ∧ n ≤ k ∧ Hid (q = firstK (fun x => firstE (relE j x.1.size) x.1.relas) L n) ∧ Hid (Below w5.heap.size w5 wr)) (fun i _ => k - (intOf i).toNat)
            case atStart => exact ⟨0, rfl, Nat.zero_le _, HM4.out, HWj.out⟩
            case round =>
              obtain ⟨n, rfl, hn, HQ, HWn⟩ := hrel
              have HBn := Lib.hid (HB5.out.trans (HWn.out.mono HB5.out.size))
              have HXn := Lib.hid (heap_below HWn.out HX5.out)
              obtain ⟨c0, c1, c2⟩ := obj_box HXn.out
              have hsn := HWn.out.size
              by_cases hlt3 : n < k
              · obtain ⟨x, hx⟩ : ∃ x, L[n]? = some x := ⟨_, List.getElem?_eq_getElem (by have := HNP.out; omega)⟩
                obtain ⟨b, o, rfl, e0, e1, e2, e3, e4, e5, hb0⟩ := part_cells HP.out HBn.out hx
                have hmem : x.1 ∈ parts := by rw [HL.out]; exact List.mem_map.2 ⟨x, List.mem_of_getElem? hx, rfl⟩
                have HFS := Lib.hid (firstK_step (f := fun x : PartM × Value × Value => firstE (relE j x.1.size) x.1.relas) hx)
                obtain ⟨md, ad, cd, -, hdv, -, -⟩ := (HH.out.data x (List.mem_of_getElem? hx)).shape
                obtain ⟨ar, cr, hrv, hrc, -, hR⟩ := (HH.out.rela x (List.mem_of_getElem? hx)).open (fun _ => rfl)
                have hrw := HOK.out.wf.relas x.1 hmem
                obtain ⟨mr, hmr⟩ : ∃ m, m = x.1.relas.length := ⟨_, rfl⟩
                rw [← hmr] at hrv hrc hrw
                have hmr9 := hrw.1
                have HOF := Lib.hid hrw.2
                have HMR := Lib.hid hmr
                have HRC := Lib.hid hR
                have HRL := Lib.hid (fun r wx (hr : r ∈ x.1.relas) => relocation6_any r x.1 (.slice ad md cd) (.slice ar mr cr) j wx (HOF.out r hr).1)
                obtain ⟨⟨name, flags, align, size, data, relas⟩, dv, rv⟩ := x
                dsimp only at *
                subst hdv hrv
                clear hx hmem hrw hmr hR
                go_wp2_with (first
                  | ((with_reducible show wpList _ _ _ (⟨none, .store _ (.tmp 14) _, _, _, _, _⟩ :: _) _ _); go_must (refine wpList_storeNew rfl rfl (by kernel_rfl) rfl (by simp [Value.oneCell']) ?_; intro w6 hh6 hb6; have HH6 := Lib.hid hh6; have HB6 := Lib.hid (HWn.out.trans (hb6.mono HWn.out.size)); have hs6 : wr.heap.size < w6.heap.size := block_lt (cell_rec hh6 0 |>.trans rfl); obtain ⟨c0, c1, c2⟩ := obj_box (heap_below hb6 HXn.out); obtain ⟨d0, d1, d2, d3, d4, d5⟩ := part_box (x := (⟨name, flags, align, size, data, relas⟩, .slice ad md cd, .slice ar mr cr)) hh6; clear hh6 hb6)))
                go_loopw [104] (fun i wr => ∃ m : Nat, i = .int .i64 m ∧ m ≤ mr ∧ Hid (firstE (relE j size) relas = firstK (relE j size) relas m) ∧ Hid (Below w6.heap.size w6 wr)) (fun i _ => mr - (intOf i).toNat)
                case atStart => exact ⟨0, rfl, Nat.zero_le _, rfl, Below.refl _ _⟩
                case round =>
                  obtain ⟨m, rfl, hm, HFR, HWm⟩ := hrel
                  have HW6m := Lib.hid (HB6.out.trans (HWm.out.mono HB6.out.size))
                  have HBm := Lib.hid (HB5.out.trans (HW6m.out.mono HB5.out.size))
                  have HXm := Lib.hid (heap_below HW6m.out HX5.out)
                  obtain ⟨c0, c1, c2⟩ := obj_box HXm.out
                  have HHm := Lib.hid (heap_below HWm.out HH6.out)
                  obtain ⟨d0, d1, d2, d3, d4, d5⟩ := part_box (x := (⟨name, flags, align, size, data, relas⟩, .slice ad md cd, .slice ar mr cr)) HHm.out
                  have hsm := HWm.out.size
                  by_cases hlt4 : m < mr
                  · obtain ⟨r, hr⟩ : ∃ r, relas[m]? = some r := ⟨_, List.getElem?_eq_getElem (by have := HMR.out; omega)⟩
                    obtain ⟨b', o', rfl, f0, f1, f2, f3, hb0'⟩ := rela_cells HRC.out HBm.out hr
                    have HRS := Lib.hid (firstK_step (f := relE j size) hr)
                    have HRLr := Lib.hid (fun wx => HRL.out r wx (List.mem_of_getElem? hr))
                    clear hr
                    obtain ⟨off, typ, sym, add⟩ := r
                    dsimp only at *
                    generalize relE j size ⟨off, typ, sym, add⟩ = re at *
                    by_cases hr0 : re = 0
                    · subst hr0
                      have HN1 := Lib.hid (show firstE (relE j size) relas = firstK (relE j size) relas (m + 1) by rw [HFR.out, HRS.out, if_pos rfl])
                      go_wp2_with (first
                        | ((with_reducible show wpList _ _ _ (⟨none, .store _ (.tmp 16) _, _, _, _, _⟩ :: _) _ _); go_must (refine wpList_storeNew rfl rfl (by kernel_rfl) rfl (by simp [Value.oneCell']) ?_; intro w7 hh7 hb7; have HB7 := Lib.hid (HWm.out.trans (hb7.mono HWm.out.size)); obtain ⟨c0, c1, c2⟩ := obj_box (heap_below hb7 HXm.out); obtain ⟨d0, d1, d2, d3, d4, d5⟩ := part_box (x := (⟨name, flags, align, size, data, relas⟩, .slice ad md cd, .slice (some ⟨b', o', none⟩) mr cr)) (heap_below hb7 HHm.out); have g0 := cell_rec hh7 0; have g1 := cell_rec hh7 1; have g2 := cell_rec hh7 2; have g3 := cell_rec hh7 3; simp only [List.getElem?_toArray, List.getElem?_cons_succ, List.getElem?_cons_zero] at g0 g1 g2 g3; clear hh7 hb7))
                        | (go_at_call 29; refine (HRLr.out _).mono ?_; rintro e w8 ⟨rfl, hb8⟩; have HB8 := Lib.hid (HB7.out.trans (hb8.mono HB7.out.size)); clear hb8))
                      exact ⟨⟨m + 1, rfl, by omega, HN1.out, HB8.out⟩, by simp [intOf]; omega⟩
                    · have HR1 := Lib.hid (show q = re by rw [HQ.out, HFS.out, HFR.out, HRS.out, if_neg hr0, if_neg hr0])
                      have hrb : (re != 0) = true := bne_iff_ne.2 hr0
                      clear hr0
                      go_wp2_with (first
                        | ((with_reducible show wpList _ _ _ (⟨none, .store _ (.tmp 16) _, _, _, _, _⟩ :: _) _ _); go_must (refine wpList_storeNew rfl rfl (by kernel_rfl) rfl (by simp [Value.oneCell']) ?_; intro w7 hh7 hb7; have HB7 := Lib.hid (HBm.out.trans (hb7.mono HBm.out.size)); obtain ⟨c0, c1, c2⟩ := obj_box (heap_below hb7 HXm.out); obtain ⟨d0, d1, d2, d3, d4, d5⟩ := part_box (x := (⟨name, flags, align, size, data, relas⟩, .slice ad md cd, .slice (some ⟨b', o', none⟩) mr cr)) (heap_below hb7 HHm.out); have g0 := cell_rec hh7 0; have g1 := cell_rec hh7 1; have g2 := cell_rec hh7 2; have g3 := cell_rec hh7 3; simp only [List.getElem?_toArray, List.getElem?_cons_succ, List.getElem?_cons_zero] at g0 g1 g2 g3; clear hh7 hb7))
                        | (go_at_call 29; refine (HRLr.out _).mono ?_; rintro e w8 ⟨rfl, hb8⟩; have HB8 := Lib.hid (HB7.out.trans (hb8.mono HB7.out.size)); clear hb8))
                      go_ret
                      exact ⟨by rw [HR1.out]; rfl, HB8.out⟩
                  · obtain rfl : m = mr := by omega
                    have HN1 := Lib.hid (show q = firstK (fun x => firstE (relE j x.1.size) x.1.relas) L (n + 1) by
                      have h0 : firstE (relE j size) relas = 0 := by rw [HFR.out, HMR.out]; exact firstK_end _ _
                      rw [HQ.out, HFS.out, if_pos h0])
                    go_wp2
                    exact ⟨⟨n + 1, rfl, by omega, HN1.out, HW6m.out⟩, by simp [intOf]; omega⟩
              · obtain rfl : n = k := by omega
                have HR1 := Lib.hid (show q = 0 by rw [HQ.out, HNP.out]; exact firstK_end _ _)
                go_wp2
                go_ret
                exact ⟨by rw [HR1.out]; rfl, HBn.out⟩
      · have HR1 := Lib.hid (show q = se by rw [HM2.out, if_pos hs0])
        have hsb : (se != 0) = true := bne_iff_ne.2 hs0
        clear hs0
        have hbs := HB.out.size
        go_wp2_with (go_at_call 28; refine (HSW.out _ HB.out).mono ?_; rintro e w5 ⟨v1, v2, rfl, -, -, hb5, -⟩; have HB5 := Lib.hid (HB.out.trans (hb5.mono hbs)); clear hb5)
        go_ret
        exact ⟨by rw [HR1.out]; rfl, HB5.out⟩
end Go.Proofs.Ytnhbgijecdeahaa
namespace Go.Proofs.Ytnhbgijecdeahaa
open Go.RowKit Go.Fd
def cmpS (x y : List UInt8) : Int := if x < y then -1 else if x = y then 0 else 1
theorem sNaN_any (x : List UInt8) (w : World) : Calls Try.prog 80 #[S x] w fun e w' => e = .returned (.bool false) ∧ w' = w := by
  go_enter Try.func80, Try.ntmps80
  go_wp2
  go_ret
  exact ⟨by simp, rfl⟩
theorem sCompare_any (x y : List UInt8) (w : World) : Calls Try.prog 69 #[S x, S y] w fun e w' => e = .returned (.int .i64 (cmpS x y)) ∧ w' = w := by
  have hL := Go.Proofs.bytesLess_eq x y
  by_cases h1 : x < y
  · have e : cmpS x y = -1 := by unfold cmpS; rw [if_pos h1]
    rw [decide_eq_true h1] at hL
    rw [e]
    go_enter Try.func69, Try.ntmps69
    go_wp2_with (go_at_call 80; refine (sNaN_any _ _).mono ?_; rintro e w' ⟨rfl, rfl⟩)
    go_ret
    exact ⟨rfl, rfl⟩
  · rw [decide_eq_false h1] at hL
    by_cases h2 : x = y
    · have e : cmpS x y = 0 := by unfold cmpS; rw [if_neg h1, if_pos h2]
      have h3 : (x == y) = true := by simpa using h2
      rw [e]
      clear h1 h2 e
      go_enter Try.func69, Try.ntmps69
      go_wp2_with (go_at_call 80; refine (sNaN_any _ _).mono ?_; rintro e w' ⟨rfl, rfl⟩)
      go_ret
      exact ⟨rfl, rfl⟩
    · have e : cmpS x y = 1 := by unfold cmpS; rw [if_neg h1, if_neg h2]
      have h3 : (x == y) = false := by simpa using h2
      rw [e]
      go_enter Try.func69, Try.ntmps69
      go_wp2_with (go_at_call 80; refine (sNaN_any _ _).mono ?_; rintro e w' ⟨rfl, rfl⟩)
      go_ret
      exact ⟨rfl, rfl⟩
abbrev PrM := List UInt8 × Int
def encPr (p : PrM) : List Value := [S p.1, .int .i64 p.2]
abbrev prV (p : PrM) : Value := .agg #[S p.1, .int .i64 p.2]
theorem find1_any (p : PrM) (k : List UInt8) (w : World) : Calls Try.prog 68 #[prV p, S k] w fun e w' => e = .returned (.int .i64 (cmpS p.1 k)) ∧ Below w.heap.size w w' := by
  go_enter Try.func68, Try.ntmps68
  go_wp2_with (first
    | ((with_reducible show wpList _ _ _ (⟨some 2, .box _ _, _, _, _, _⟩ :: _) _ _); go_must (refine wpList_box rfl ?_; intro w1 hx1 hb1 hs1; have HB1 := Lib.hid hb1; have c0 := cell_rec hx1 0; clear hx1 hb1))
    | (go_at_call 69; refine (sCompare_any _ _ _).mono ?_; rintro e w' ⟨rfl, rfl⟩))
  go_ret
  exact ⟨rfl, HB1.out⟩
/-- Keys rise. -/
abbrev Srt (L : List PrM) : Prop := L.Pairwise (fun a b => a.1 < b.1)
/-- Where a key stands, or would. -/
def lowK (L : List PrM) (k : List UInt8) : Nat := L.countP fun p => decide (p.1 < k)
def foundK (L : List PrM) (k : List UInt8) : Bool := match L[lowK L k]? with
  | some p => decide (p.1 = k)
  | none => false
theorem lowK_le (L : List PrM) (k : List UInt8) : lowK L k ≤ L.length := List.countP_le_length
theorem lowK_iff {k : List UInt8} : ∀ {L : List PrM}, Srt L → ∀ {i : Nat} {p : PrM}, L[i]? = some p → (p.1 < k ↔ i < lowK L k)
  | [], _, i, p, h => by simp at h
  | x :: L, hs, i, p, h => by
    have hx := (List.pairwise_cons.1 hs).1
    have ih := fun {i p} (h : L[i]? = some p) => lowK_iff (k := k) (List.pairwise_cons.1 hs).2 h
    unfold lowK at ih ⊢
    rw [List.countP_cons]
    by_cases h1 : x.1 < k
    · rw [if_pos (decide_eq_true h1)]
      cases i with
      | zero =>
        rw [List.getElem?_cons_zero] at h
        cases h
        simp [h1]
      | succ i =>
        rw [List.getElem?_cons_succ] at h
        rw [ih h]
        omega
    · rw [if_neg (by simpa using h1)]
      have h0 : L.countP (fun p => decide (p.1 < k)) = 0 := by
        rw [List.countP_eq_zero]
        intro y hy
        simp only [decide_eq_true_eq]
        exact fun h2 => h1 (List.lt_trans (hx y hy) h2)
      rw [h0]
      cases i with
      | zero =>
        rw [List.getElem?_cons_zero] at h
        cases h
        simp [h1]
      | succ i =>
        rw [List.getElem?_cons_succ] at h
        rw [ih h, h0]
        omega
theorem foundK_iff {L : List PrM} (hs : Srt L) (k : List UInt8) : foundK L k = true ↔ k ∈ L.map (·.1) := by
  unfold foundK
  constructor
  · intro h
    split at h
    · rename_i p hp
      exact List.mem_map.2 ⟨p, List.mem_of_getElem? hp, by simpa using h⟩
    · cases h
  · intro h
    obtain ⟨p, hp, rfl⟩ := List.mem_map.1 h
    obtain ⟨i, hi⟩ := List.mem_iff_getElem?.1 hp
    have h1 := lowK_iff (k := p.1) hs hi
    have h2 : ¬ i < lowK L p.1 := fun e => List.lt_irrefl _ (h1.2 e)
    have h3 : ¬ lowK L p.1 < i := fun e => by
      obtain ⟨q, hq⟩ : ∃ q, L[lowK L p.1]? = some q := ⟨_, List.getElem?_eq_getElem (by have := (List.getElem?_eq_some_iff.1 hi).1; omega)⟩
      have h4 := lowK_iff (k := p.1) hs hq
      have h5 : q.1 < p.1 := by
        have := List.pairwise_iff_getElem.1 hs _ _ (List.getElem?_eq_some_iff.1 hq).1 (List.getElem?_eq_some_iff.1 hi).1 e
        rw [(List.getElem?_eq_some_iff.1 hq).2, (List.getElem?_eq_some_iff.1 hi).2] at this
        exact this
      exact Nat.lt_irrefl _ (h4.1 h5)
    have h4 : lowK L p.1 = i := by omega
    rw [h4, hi]
    simp
theorem encPr_len (x : PrM) : (encPr x).length = 2 := rfl
theorem pr_cells {w wr : World} {a : Option Addr} {l : List PrM} {x : PrM} {k : Nat}
    (hc : ∀ i x, l[i]? = some x → 0 < 2 → ∃ b off, a = some ⟨b, off, none⟩ ∧ ∀ c, c < 2 → w.cell? ⟨b, off + (i * 2 + c), none⟩ = (encPr x)[c]?) (hb : Below w.heap.size w wr) (hk : l[k]? = some x) :
    ∃ b o, a = some ⟨b, o, none⟩ ∧ wr.cell? ⟨b, o + k * 2, none⟩ = some (S x.1) ∧ wr.cell? ⟨b, o + k * 2 + 1, none⟩ = some (.int .i64 x.2) ∧ b < w.heap.size := by
  obtain ⟨b, o, ha, hcc⟩ := hc k x hk (by decide)
  have h0 := hcc 0 (by decide)
  have h1 := hcc 1 (by decide)
  have hlt : b < w.heap.size := block_lt (v := S x.1) (by rw [h0]; rfl)
  refine ⟨b, o, ha, ?_, ?_, hlt⟩
  · rw [hb.cell (p := ⟨b, o + k * 2, none⟩) hlt]
    exact h0
  · rw [Nat.add_assoc, hb.cell (p := ⟨b, o + (k * 2 + 1), none⟩) hlt]
    exact h1
theorem cmpS_neg (x y : List UInt8) : decide (cmpS x y < 0) = decide (x < y) := by
  unfold cmpS
  split
  · rename_i h; simp [h]
  · rename_i h; split <;> simp [h]
theorem cmpS_zero (x y : List UInt8) : (cmpS x y == 0) = decide (x = y) := by
  unfold cmpS
  split
  · rename_i h
    have : x ≠ y := fun e => List.lt_irrefl _ (e ▸ h)
    simp [this]
  · split <;> simp [*]
set_option maxHeartbeats 2000000 in
set_option maxRecDepth 100000 in
theorem search_any (L : List PrM) (k : List UInt8) (lv : Value) (w : World) (h : RdR 2 encPr w lv L) (hs : Srt L) (hn : L.length ≤ 1000000) :
    Calls Try.prog 67 #[lv, S k, .func (.func 68) #[] #[]] w fun e w' => e = .returned (.tuple #[.int .i64 (lowK L k : Nat), .bool (foundK L k)]) ∧ Below w.heap.size w w' := by
  have HLE := lowK_le L k
  have HIF := Lib.hid (fun i p h => lowK_iff (k := k) hs (i := i) (p := p) h)
  have HFK : Hid (foundK L k = match L[lowK L k]? with | some p => decide (p.1 = k) | none => false) := rfl
  obtain ⟨a, cap, rfl, hcap, -, hP⟩ := h.open encPr_len
  have HP := Lib.hid hP
  obtain ⟨n, hN⟩ : ∃ n, n = L.length := ⟨_, rfl⟩
  rw [← hN] at hcap hn HLE ⊢
  have HN := Lib.hid hN
  generalize lowK L k = low at *
  generalize foundK L k = fk at *
  clear h hP hN hs
  have e68 := enters_of Try.func68 (by kernel_rfl) rfl
  go_enter Try.func67, Try.ntmps67
  go_wp2
  go_loopw [9, 10, 11] (fun x y _ wr => ∃ i j : Nat, x = .int .i64 (i : Int) ∧ y = .int .i64 (j : Int) ∧ i ≤ low ∧ low ≤ j ∧ j ≤ n ∧ Hid (Below w.heap.size w wr)) (fun x y _ _ => (intOf y).toNat - (intOf x).toNat)
  case atStart => exact ⟨0, n, rfl, rfl, Nat.zero_le _, HLE, Nat.le_refl _, Below.refl _ _⟩
  case round =>
    obtain ⟨i, j, rfl, rfl, hi, hj, hjn, HW⟩ := hrel
    by_cases hlt : i < j
    · have d1 : decide (i < j) = true := decide_eq_true hlt
      have d2 : decide ((i : Int) < (j : Int)) = true := by simp; exact hlt
      obtain ⟨m, hm⟩ : ∃ m, m = (i + j) / 2 := ⟨_, rfl⟩
      obtain ⟨p, hp⟩ : ∃ p, L[m]? = some p := ⟨_, List.getElem?_eq_getElem (by have := HN.out; omega)⟩
      obtain ⟨b, o, rfl, e0, e1, hb0⟩ := pr_cells HP.out HW.out hp
      have hmi : (((i : Int) + (j : Int)) / 2) = (m : Int) := by omega
      have HIP := Lib.hid (HIF.out m p hp)
      have HM := Lib.hid hm
      clear hm hp
      have HC := Lib.hid (find1_any p k)
      have HQ := cmpS_neg p.1 k
      generalize cmpS p.1 k = q at *
      by_cases hpk : p.1 < k
      · have hml : m < low := HIP.out.1 hpk
        rw [decide_eq_true hpk] at HQ
        clear hpk
        go_wp2_with (go_at_call 68; refine (HC.out _).mono ?_; rintro e w2 ⟨rfl, hb2⟩; have HW2 := Lib.hid (HW.out.trans (hb2.mono HW.out.size)); clear hb2)
        go_roundw
        case rel => exact ⟨m + 1, j, by go_num, rfl, by omega, by omega, by omega, HW2.out⟩
        case measure => have := HM.out; simp [intOf] <;> omega
      · have hml : low ≤ m := Nat.le_of_not_lt fun h => hpk (HIP.out.2 h)
        rw [decide_eq_false hpk] at HQ
        clear hpk
        go_wp2_with (go_at_call 68; refine (HC.out _).mono ?_; rintro e w2 ⟨rfl, hb2⟩; have HW2 := Lib.hid (HW.out.trans (hb2.mono HW.out.size)); clear hb2)
        go_roundw
        case rel => exact ⟨i, m, rfl, rfl, by omega, by omega, by have := HM.out; omega, HW2.out⟩
        case measure => have := HM.out; simp [intOf] <;> omega
    · obtain rfl : i = low := by omega
      obtain rfl : j = i := by omega
      have d1 : decide (j < j) = false := decide_eq_false (Nat.lt_irrefl _)
      have d2 : decide ((j : Int) < (j : Int)) = false := by simp
      by_cases hin : j < n
      · have d3 : decide (j < n) = true := decide_eq_true hin
        have d4 : decide ((j : Int) < (n : Int)) = true := by simp; exact hin
        obtain ⟨p, hp⟩ : ∃ p, L[j]? = some p := ⟨_, List.getElem?_eq_getElem (by have := HN.out; omega)⟩
        obtain ⟨b, o, rfl, e0, e1, hb0⟩ := pr_cells HP.out HW.out hp
        have HC := Lib.hid (find1_any p k)
        have HQ := cmpS_zero p.1 k
        have hfk : fk = decide (p.1 = k) := by rw [HFK.out, hp]
        rw [← hfk] at HQ
        generalize cmpS p.1 k = q at *
        clear hp hfk
        go_wp2_with (go_at_call 68; refine (HC.out _).mono ?_; rintro e w2 ⟨rfl, hb2⟩; have HW2 := Lib.hid (HW.out.trans (hb2.mono HW.out.size)); clear hb2)
        go_ret2
        exact ⟨rfl, HW2.out⟩
      · have d3 : decide (j < n) = false := decide_eq_false hin
        have d4 : decide ((j : Int) < (n : Int)) = false := by simp; omega
        have hfk : fk = false := by rw [HFK.out, List.getElem?_eq_none (by have := HN.out; omega)]
        subst hfk
        go_wp2
        go_ret2
        exact ⟨rfl, HW.out⟩
end Go.Proofs.Ytnhbgijecdeahaa
