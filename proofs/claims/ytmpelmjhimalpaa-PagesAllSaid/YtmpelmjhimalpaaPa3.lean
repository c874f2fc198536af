/-
  PagesAll holds: any calls on a memory, one behind the other, answer as the document has it. No condition.
-/
import Derived.Test.YtmpelmjhimalpaaPa2
import Derived.Test.YtmpelmjhimalpaaRows
import Derived.ProofKit
import Derived.SizedLaws
import Derived.OpenShut
import Derived.Lib.SmallJoins
import Derived.Deep.Fields
import Derived.SliceStrings
import Derived.Deep.Slices
namespace Go.Proofs.Ytmpelmjhimalpaa
open Go.RowKit Go.Fd
theorem TPg : SliceT Try.prog 54 62 3 40 := SliceT.mk' (z := .agg #[.int .u64 0, .int .i64 0, .slice none 0 0]) (by kernel_rfl) (by kernel_rfl) rfl (by omega)
theorem flat_set3 {α : Type} {k : Nat} {enc : α → List Value} (hk : ∀ x, (enc x).length = k) (l : List α) : ∀ (i c : Nat) (x y : α) (u : Value), l[i]? = some x → c < k → enc y = (enc x).set c u → (l.flatMap enc).set (i * k + c) u = (l.set i y).flatMap enc := by
  induction l with
  | nil => intro i c x y u h; simp at h
  | cons z zs ih =>
    intro i c x y u h hc hy
    rw [List.flatMap_cons]
    cases i with
    | zero =>
      simp at h
      subst h
      rw [Nat.zero_mul, Nat.zero_add, List.set_append_left _ _ (by rw [hk]; exact hc), ← hy, List.set_cons_zero, List.flatMap_cons]
    | succ i =>
      rw [List.set_append_right _ _ (by rw [hk, Nat.add_mul]; omega), hk, show (i + 1) * k + c - k = i * k + c by rw [Nat.add_mul]; omega, ih i c x y u (by simpa using h) hc hy, List.set_cons_succ, List.flatMap_cons]
theorem wpList_storeRights {ops : Array Oper} {rest : List Oper} {Q : Exit → Act → World → Prop} {a : Act} {w : World} {d : Option Tmp} {ty : TypeId} {pos : String} {aft : Array Edge} {p x : Operand} {g i m cap base : Nat} {L : List (Pg × Value)} {y : Pg × Value} (ho : OwR 3 encPg 62 w base (.slice (some ⟨g, 0, none⟩) m cap) L) (hi : L[i]? = some y) (hp : a.eval p = .pointer (some ⟨g, i * 3 + 1, none⟩)) (r : Nat) (hx : a.eval x = .int .i64 (r : Int))
    (h : ∀ w1, OwR 3 encPg 62 w1 base (.slice (some ⟨g, 0, none⟩) m cap) (L.set i ((y.1.1, r, y.1.2.2), y.2)) → Stirs (fun k => k = g) w w1 → wpList Try.prog ops Q rest (a.put d undef) w1) :
    wpList Try.prog ops Q (⟨d, .store 3 p x, ty, pos, aft, none⟩ :: rest) a w := by
  have ho' := ho
  unfold OwR at ho'
  obtain ⟨m', a', c', hm', e1, -, -⟩ := ho.shape
  have hm : m = L.length := by
    have e2 := e1
    simp only [Value.slice.injEq] at e2
    exact e2.2.1.trans hm'.out
  subst hm
  have hil : i < L.length := (List.getElem?_eq_some_iff.1 hi).1
  have hc0 := World.ownsRow.cellAt ho' (i * 3 + 1) (by omega)
  have hf0 := ho'.frozenAt (i * 3 + 1)
  have hst := World.ownsRow.stored ho' (i * 3 + 1) (.int .i64 (r : Int))
  have hs := flat_set3 (k := 3) (enc := encPg) (fun _ => rfl) L i 1 y ((y.1.1, r, y.1.2.2), y.2) (.int .i64 (r : Int)) hi (by decide) rfl
  have hfg := flat_get (k := 3) (enc := encPg) (fun _ => rfl) L i 1 y hi (by decide)
  rw [hfg, show (encPg y)[1]? = some (.int .i64 (y.1.2.1 : Int)) from rfl] at hc0
  have hsi : Stirs (fun k => k = g) w (w.setCell ⟨g, i * 3 + 1, none⟩ (.int .i64 (r : Int))) := stirs_setCell (S := fun k => k = g) _ g (i * 3 + 1) _ rfl
  refine wpList_did (w' := w.setCell ⟨g, i * 3 + 1, none⟩ (.int .i64 (r : Int))) rfl ?_ (h _ ?_ hsi)
  · simp only [execOp, hp, hx]
    simp [go_sem, hc0, hf0]
  · unfold OwR
    rw [← hs, List.length_set]
    exact hst.1
theorem wpList_setSl2 {P : Program} {ops : Array Oper} {rest : List Oper} {Q : Exit → Act → World → Prop} {a : Act} {w : World} {d : Option Tmp} {ty t tb : TypeId} {pos : String} {aft : Array Edge} {p x : Operand} {c : Array Value} {g j m q : Nat} {ad : Option Addr} (hg : w.heap[g]? = some (.cells c tb (0, 0))) (hj : j < c.size) (hp : a.eval p = .pointer (some ⟨g, j, none⟩)) (hx : a.eval x = .slice ad m q) (hs : ∀ w, (sizeOf t).run P w = .ok 1 w)
    (h : ∀ w1, w1.heap[g]? = some (.cells (c.setIfInBounds j (.slice ad m q)) tb (0, 0)) → Stirs (fun k => k = g) w w1 → wpList P ops Q rest (a.put d undef) w1) :
    wpList P ops Q (⟨d, .store t p x, ty, pos, aft, none⟩ :: rest) a w := by
  have hc : w.cell? ⟨g, j, none⟩ = some c[j] := (cell_rec hg j).trans (Array.getElem?_eq_getElem hj)
  have hfz := free_rec' hg j
  have hst : Stirs (fun k => k = g) w (w.setCell ⟨g, j, none⟩ (.slice ad m q)) := stirs_setCell (S := fun k => k = g) _ g j _ rfl
  refine wpList_did (w' := w.setCell ⟨g, j, none⟩ (.slice ad m q)) rfl ?_ (h _ ?_ hst)
  · simp only [execOp, hp, hx]
    simp [go_sem, hs, hc, hfz]
  · simp [World.setCell, Array.getElem?_modify, hg]
set_option maxHeartbeats 4000000 in
set_option maxRecDepth 100000 in
theorem own_at {w : World} {base e size n m c : Nat} {a : Option Addr} {xs : List Value} (h : w.ownsRow base e size (.slice a m c) n xs) (hn : 0 < n) : ∃ g, a = some ⟨g, 0, none⟩ := by
  rcases h.2 with ⟨h1, h2⟩ | ⟨g, cap, cur, h1, -⟩
  · omega
  · simp only [Value.slice.injEq] at h1
    exact ⟨g, h1.1⟩
/-- What Map comes to, in memory. -/
def MapPost (w : World) (base g : Nat) (V' : Vw) (w' : World) : Prop := (∃ lv' L', RefIs w' base g lv' L' ∧ L'.map (·.1) = V') ∧ Stirs (pgS w base g) w w'
theorem mapR_arg {V : Vw} {a n : Nat} {r : Int} (h : r < 1 ∨ 7 < r ∨ n = 0 ∨ 18446744073709551616 < a + n) : mapR V a n r = (V, 1) := by unfold mapR; rw [if_pos h]
set_option maxHeartbeats 8000000 in
set_option maxRecDepth 100000 in
theorem refMap_arg {g : Nat} (w : World) (a n : Nat) (r : Int) (ha : a < 18446744073709551616) (hn : n < 18446744073709551616) (hbad : r < 1 ∨ 7 < r ∨ n = 0 ∨ 18446744073709551616 < a + n) :
    Calls Try.prog 33 #[ptr g, .int .u64 (a : Int), .int .u64 (n : Int), .int .i64 r] w fun e w' => e = .returned (.int .i64 1) ∧ w = w' := by
  by_cases t1 : r < 1
  · have d1 : decide (r < 1) = true := decide_eq_true t1
    clear hbad ha hn
    go_enter Try.func33, Try.ntmps33
    go_wp2
    go_ret
    exact ⟨rfl, rfl⟩
  have d1 : decide (r < 1) = false := decide_eq_false t1
  by_cases t2 : 7 < r
  · have d2 : decide (7 < r) = true := decide_eq_true t2
    clear hbad ha hn
    go_enter Try.func33, Try.ntmps33
    go_wp2
    go_ret
    exact ⟨rfl, rfl⟩
  have d2 : decide (7 < r) = false := decide_eq_false t2
  by_cases t3 : n = 0
  · have d3 : ((n : Int) == 0) = true := by simpa using t3
    subst t3
    clear hbad ha hn
    go_enter Try.func33, Try.ntmps33
    go_wp2
    go_ret
    exact ⟨rfl, rfl⟩
  have d3 : ((n : Int) == 0) = false := by simpa using t3
  have e1 : IntKind.u64.wrap ((n : Int) - 1) = (n : Int) - 1 := by rw [IntKind.wrap_u64]; omega
  have e4 : IntKind.u64.wrap (18446744073709551615 - (a : Int)) = 18446744073709551615 - (a : Int) := by rw [IntKind.wrap_u64]; omega
  have d4 : decide (18446744073709551615 - (a : Int) < (n : Int) - 1) = true := decide_eq_true (by omega)
  clear hbad ha hn t1 t2 t3
  go_enter Try.func33, Try.ntmps33
  go_wp2
  go_ret
  exact ⟨rfl, rfl⟩
set_option maxHeartbeats 8000000 in
set_option maxRecDepth 100000 in
theorem refMap_ok {base g : Nat} {lv : Value} {L : List (Pg × Value)} (w : World) (h : RefIs w base g lv L) (hb : base ≤ w.heap.size) (hL9 : L.length ≤ 900000) (a n r : Nat) (hr1 : 1 ≤ r) (hr7 : r ≤ 7) (hn1 : 1 ≤ n) (hov : a + n ≤ 18446744073709551616) :
    Calls Try.prog 33 #[ptr g, .int .u64 (a : Int), .int .u64 (n : Int), .int .i64 (r : Int)] w fun e w' => e = .returned (.int .i64 (mapR (L.map (·.1)) a n r).2) ∧ MapPost w base g (mapR (L.map (·.1)) a n r).1 w' := by
  have H := Lib.hid h
  have HBA := Lib.hid hb
  have hL : L.length ≤ 1000000 := by omega
  have hr8 : r < 8 := by omega
  have HMR := Lib.hid (show mapR (L.map (·.1)) a n r = if clashV (L.map (·.1)) (a / 4096) ((a + n - 1) / 4096) r = true then (L.map (·.1), 21) else if longV (L.map (·.1)) (a / 4096) ((a + n - 1) / 4096) = true then (L.map (·.1), 6) else (mapV r (L.map (·.1)) (a / 4096) ((a + n - 1) / 4096 + 1 - a / 4096), 0) by
    unfold mapR
    rw [if_neg (by omega), Int.toNat_natCast])
  have d1 : decide ((r : Int) < 1) = false := decide_eq_false (by omega)
  have d2 : decide (7 < (r : Int)) = false := decide_eq_false (by omega)
  have d3 : ((n : Int) == 0) = false := by simp; omega
  have e1 : IntKind.u64.wrap ((n : Int) - 1) = (n : Int) - 1 := by rw [IntKind.wrap_u64]; omega
  have e4 : IntKind.u64.wrap (18446744073709551615 - (a : Int)) = 18446744073709551615 - (a : Int) := by rw [IntKind.wrap_u64]; omega
  have d4 : decide (18446744073709551615 - (a : Int) < (n : Int) - 1) = false := decide_eq_false (by omega)
  have e5 : IntKind.u64.wrap ((a : Int) + ((n : Int) - 1)) = ((a + n - 1 : Nat) : Int) := by rw [IntKind.wrap_u64]; omega
  have q1 : (a : Int) / 4096 = ((a / 4096 : Nat) : Int) := by omega
  have q2 : IntKind.u64.wrap ((a : Int).tdiv 4096) = ((a / 4096 : Nat) : Int) := by rw [Int.tdiv_eq_ediv_of_nonneg (by omega), IntKind.wrap_u64]; omega
  have q3 : IntKind.u64.wrap ((a / 4096 : Nat) : Int) = ((a / 4096 : Nat) : Int) := by rw [IntKind.wrap_u64]; omega
  have p1 : ((a + n - 1 : Nat) : Int) / 4096 = (((a + n - 1) / 4096 : Nat) : Int) := by omega
  have p2 : IntKind.u64.wrap (((a + n - 1 : Nat) : Int).tdiv 4096) = (((a + n - 1) / 4096 : Nat) : Int) := by rw [Int.tdiv_eq_ediv_of_nonneg (by omega), IntKind.wrap_u64]; omega
  have p3 : IntKind.u64.wrap (((a + n - 1) / 4096 : Nat) : Int) = (((a + n - 1) / 4096 : Nat) : Int) := by rw [IntKind.wrap_u64]; omega
  have hfl : a / 4096 ≤ (a + n - 1) / 4096 := Nat.div_le_div_right (by omega)
  have hl9 : (a + n - 1) / 4096 ≤ 4503599627370495 := by omega
  generalize a + n - 1 = an at *
  generalize a / 4096 = f at *
  generalize an / 4096 = l at *
  have e6 : IntKind.u64.wrap ((l : Int) - (f : Int)) = ((l - f : Nat) : Int) := by rw [IntKind.wrap_u64]; omega
  have hfd : f < 4503599627370496 := by omega
  clear hov hn1
  by_cases hfar : 4096 ≤ l - f
  · have d5 : decide ((4096 : Int) ≤ ((l - f : Nat) : Int)) = true := decide_eq_true (by omega)
    have d5n : decide (4096 ≤ l - f) = true := decide_eq_true hfar
    have HF := Lib.hid (refFar_any w h f l r hr8 hL)
    have HRES := Lib.hid (show mapR (L.map (·.1)) a n r = (L.map (·.1), farR (L.map (·.1)) f l r) by
      rw [HMR.out]
      unfold farR
      cases hc : clashV (L.map (·.1)) f l r with
      | true => rfl
      | false =>
        have : longV (L.map (·.1)) f l = true := by unfold longV; rw [decide_eq_true hfar]; rfl
        rw [this]
        rfl)
    clear h hb hL hL9 hfar HMR hl9 hfd
    generalize l - f = lf at *
    go_enter Try.func33, Try.ntmps33
    go_wp2_with fail
    refine HF.out.mono ?_
    rintro e w1 ⟨rfl, rfl⟩
    go_wp2
    go_ret
    rw [HRES.out]
    exact ⟨rfl, ⟨_, L, H.out, rfl⟩, Stirs.refl _ _⟩
  · have d5 : decide ((4096 : Int) ≤ ((l - f : Nat) : Int)) = false := decide_eq_false (by omega)
    have d5n : decide (4096 ≤ l - f) = false := decide_eq_false hfar
    have HFD := Lib.hid (fun (wx : World) (k : Nat) (hx : RefIs wx base g lv L) => refFind_any wx hx k hL)
    have HLF := Lib.hid (long_fresh h.ok.nd hfl (by omega))
    have HOK := Lib.hid h.ok
    have HFL := Lib.hid hfl
    obtain ⟨lm, la, lc, hlm, rfl, _, _⟩ := h.own.shape
    have HLM := Lib.hid hlm.out
    have hlm9 : lm ≤ 900000 := by have := hlm.out; omega
    have hlf : l + 1 - f ≤ 4096 := by omega
    have hb3 := both_i8 hr8
    have HL := Lib.hid hL
    clear h hb hL hL9 hfar hlm
    have HLFE := Lib.hid (show l - f + 1 = l + 1 - f by omega)
    generalize l - f = lf at *
    go_enter Try.func33, Try.ntmps33
    go_wp2
    clear d1 d2 d3 e1 e4 d4 e5 q1 q2 q3 p1 p2 p3 d5 d5n e6
    go_loopw [11, 12] (fun fv kv wr => ∃ k : Nat, kv = .int .u64 (k : Int) ∧ f ≤ k ∧ k ≤ l + 1 ∧ fv = .int .i64 ((freshN (L.map (·.1)) f (k - f) : Nat) : Int) ∧ Hid (∀ j, f ≤ j → j < k → bothAt (L.map (·.1)) r j = false) ∧ Hid (RefIs wr base g (.slice la lm lc) L) ∧ Hid (Stirs (fun j => j = g) w wr)) (fun _ kv _ => l + 1 - (intOf kv).toNat)
    case atStart => exact ⟨f, rfl, Nat.le_refl _, by omega, by rw [Nat.sub_self]; rfl, (fun j h1 h2 => by omega), H.out, Stirs.refl _ _⟩
    case round =>
      obtain ⟨k, rfl, hk1, hk2, rfl, HNO, HR, HS⟩ := hrel
      have hfr := freshN_le (L.map (·.1)) f (k - f)
      by_cases hlt : k ≤ l
      · have e7 : IntKind.u64.wrap ((k : Int) + 1) = (k : Int) + 1 := by rw [IntKind.wrap_u64]; omega
        have HFS := Lib.hid (show freshN (L.map (·.1)) f (k + 1 - f) = freshN (L.map (·.1)) f (k - f) + (if (findV (L.map (·.1)) k).isSome then 0 else 1) by
          rw [show k + 1 - f = (k - f) + 1 by omega, freshN, show f + (k - f) = k by omega])
        have HNX := Lib.hid (show bothAt (L.map (·.1)) r k = false → ∀ j, f ≤ j → j < k + 1 → bothAt (L.map (·.1)) r j = false from fun hc j h1 h2 => by
          by_cases e : j = k
          · rw [e]; exact hc
          · exact HNO.out j h1 (by omega))
        have HCL := Lib.hid (show bothAt (L.map (·.1)) r k = true → mapR (L.map (·.1)) a n r = (L.map (·.1), 21) from fun hc => by rw [HMR.out, if_pos (clash_at hk1 hlt hc)])
        generalize freshN (L.map (·.1)) f (k - f) = fr at *
        go_wp2_with fail
        refine (HFD.out wr k HR.out).mono ?_
        rintro e w1 ⟨⟨z, rfl, hz1⟩, hr1, hs1⟩
        have HR1 := Lib.hid hr1
        have HS1 := Lib.hid (HS.out.trans hs1 (fun _ _ h => h))
        clear hs1
        rcases hz1 with ⟨rfl, hn1⟩ | ⟨i, x, rfl, hx, hf1⟩
        · have HBA2 := Lib.hid (show bothAt (L.map (·.1)) r k = bothB r by unfold bothAt; rw [hn1])
          rw [hn1] at HFS
          cases hbr : bothB r with
          | true =>
            have hb4 := hb3
            rw [hbr] at hb4
            have HRES := Lib.hid (HCL.out (HBA2.out.trans hbr))
            clear hbr hb3 hr1 hn1
            go_wp2
            go_ret
            rw [HRES.out]
            exact ⟨rfl, ⟨_, L, HR1.out, rfl⟩, HS1.out.sub (fun k _ hk => .inl hk)⟩
          | false =>
            have hb4 := hb3
            rw [hbr] at hb4
            have HNY := Lib.hid (HNX.out (HBA2.out.trans hbr))
            clear hbr hb3 hr1 hn1
            go_wp2
            go_roundw
            case rel =>
              first
                | exact ⟨k + 1, by go_num, by omega, by omega, by rw [HFS.out]; go_num, HNY.out, HR1.out, HS1.out⟩
                | ((repeat apply Exists.intro); exact ⟨⟨k + 1, by go_num, by omega, by omega, by rw [HFS.out]; go_num, HNY.out, HR1.out, HS1.out⟩, rfl⟩)
            case measure => simp [intOf] <;> omega
        · have HBA2 := Lib.hid (show bothAt (L.map (·.1)) r k = bothB (x.1.2.1 ||| r) by unfold bothAt; rw [hf1])
          rw [hf1] at HFS
          have hq := (HOK.out.pg x.1 (List.mem_map.2 ⟨x, List.mem_of_getElem? hx, rfl⟩)).2.1
          obtain ⟨b, o, rfl, -, v1, -⟩ := pg_cells hr1.own.rd hx
          obtain ⟨last, hg1⟩ := hr1.hd
          have c0 := cell_rec hg1 0
          simp only [List.getElem?_toArray, List.getElem?_cons_zero] at c0
          have hil : i < lm := by rw [HLM.out]; exact (List.getElem?_eq_some_iff.1 hx).1
          have hor := or_i8 hr8 hq
          have hcm := or_comm8 ⟨r, hr8⟩ ⟨x.1.2.1, hq⟩
          have hb2 := both_i8 (or_lt8 hr8 hq)
          simp only at hcm
          rw [hcm] at hor hb2
          clear hr1 hx hf1 hg1 hcm hq
          generalize x.1.2.1 ||| r = P at *
          cases hbr : bothB P with
          | true =>
            rw [hbr] at hb2
            have HRES := Lib.hid (HCL.out (HBA2.out.trans hbr))
            clear hbr hb3
            go_wp2
            go_ret
            rw [HRES.out]
            exact ⟨rfl, ⟨_, L, HR1.out, rfl⟩, HS1.out.sub (fun k _ hk => .inl hk)⟩
          | false =>
            rw [hbr] at hb2
            have HNY := Lib.hid (HNX.out (HBA2.out.trans hbr))
            clear hbr
            go_wp2
            go_roundw
            case rel =>
              first
                | exact ⟨k + 1, by go_num, by omega, by omega, by rw [HFS.out]; go_num, HNY.out, HR1.out, HS1.out⟩
                | ((repeat apply Exists.intro); exact ⟨⟨k + 1, by go_num, by omega, by omega, by rw [HFS.out]; go_num, HNY.out, HR1.out, HS1.out⟩, rfl⟩)
            case measure => simp [intOf] <;> omega
      · obtain rfl : k = l + 1 := by omega
        have HCN := Lib.hid (clash_no HOK.out hr8 HFL.out (fun k h1 h2 => HNO.out k h1 (by omega)))
        have HLG := Lib.hid (show longV (L.map (·.1)) f l = decide (4096 < lm + freshN (L.map (·.1)) f (l + 1 - f)) by
          rw [HLF.out, List.length_map, ← HLM.out, HLFE.out])
        generalize hFRS : freshN (L.map (·.1)) f (l + 1 - f) = fr at *
        obtain ⟨last, hg1⟩ := HR.out.hd
        have c0 := cell_rec hg1 0
        simp only [List.getElem?_toArray, List.getElem?_cons_zero] at c0
        clear hg1 hFRS hb3
        by_cases hlong : 4096 < lm + fr
        · have d7 : decide ((4096 : Int) < (lm : Int) + (fr : Int)) = true := decide_eq_true (by omega)
          have d7n : decide (4096 < lm + fr) = true := decide_eq_true hlong
          have HRES := Lib.hid (show mapR (L.map (·.1)) a n r = (L.map (·.1), 6) by rw [HMR.out, HCN.out, HLG.out, d7n]; rfl)
          clear hlong
          go_wp2
          go_ret
          rw [HRES.out]
          exact ⟨rfl, ⟨_, L, HR.out, rfl⟩, HS.out.sub (fun k _ hk => .inl hk)⟩
        · have d7 : decide ((4096 : Int) < (lm : Int) + (fr : Int)) = false := decide_eq_false (by omega)
          have d7n : decide (4096 < lm + fr) = false := decide_eq_false hlong
          have HRES := Lib.hid (show mapR (L.map (·.1)) a n r = (mapV r (L.map (·.1)) f (l + 1 - f), 0) by rw [HMR.out, HCN.out, HLG.out, d7n]; rfl)
          have HS2 := Lib.hid (HS.out.sub (S' := pgS w base g) (fun k _ hk => .inl hk))
          clear hlong
          go_wp2
          clear d7 d7n c0
          go_loopw [15] (fun kv wr => ∃ (k : Nat) (lv' : Value) (L' : List (Pg × Value)), kv = .int .u64 (k : Int) ∧ f ≤ k ∧ k ≤ l + 1 ∧ Hid (RefIs wr base g lv' L') ∧ Hid (L'.map (·.1) = mapV r (L.map (·.1)) f (k - f)) ∧ Hid (L'.length ≤ lm + (k - f)) ∧ Hid (Stirs (pgS w base g) w wr)) (fun kv _ => l + 1 - (intOf kv).toNat)
          case atStart => exact ⟨f, _, L, rfl, Nat.le_refl _, by omega, HR.out, by rw [Nat.sub_self]; rfl, (by have := HLM.out; show L.length ≤ _; omega), HS2.out⟩
          case round =>
            obtain ⟨k, lv2, M, rfl, hk1, hk2, HRM, HVM, HML, HSM⟩ := hrel
            clear HR HS HS2
            have hz := HSM.out.size
            by_cases hlt : k ≤ l
            · have e7 : IntKind.u64.wrap ((k : Int) + 1) = (k : Int) + 1 := by rw [IntKind.wrap_u64]; omega
              have hml9 : M.length ≤ 904096 := by have := HML.out; omega
              have HVS := Lib.hid (show mapV r (L.map (·.1)) f (k + 1 - f) = addP (M.map (·.1)) k r by
                rw [show k + 1 - f = (k - f) + 1 by omega, mapV_snoc, ← HVM.out, show f + (k - f) = k by omega])
              have HFM := Lib.hid (refFind_any wr HRM.out k (by omega))
              go_wp2_with fail
              refine HFM.out.mono ?_
              rintro e w1 ⟨⟨z, rfl, hz1⟩, hr1, hs1⟩
              have HR1 := Lib.hid hr1
              have HS1 := Lib.hid (HSM.out.trans hs1 (fun _ _ h => .inl h))
              have hzz := hs1.size
              clear hs1
              obtain ⟨last, hg1⟩ := hr1.hd
              have HG1 := Lib.hid hg1
              obtain ⟨mm, ma, mc, hmm, rfl, _, _⟩ := hr1.own.shape
              have HMM := Lib.hid hmm.out
              have c0 := cell_rec hg1 0
              simp only [List.getElem?_toArray, List.getElem?_cons_zero] at c0
              have hgl := (Array.getElem?_eq_some_iff.1 hg1).1
              clear hmm hg1
              rcases hz1 with ⟨rfl, hn1⟩ | ⟨i, x, rfl, hx, hf1⟩
              · have HVS2 := Lib.hid (HVS.out.trans (addP_new hn1))
                have HN1 := Lib.hid hn1
                clear hn1 hr1
                go_wp2
                let Sx : World → Prop := fun wx => Stirs (fun j => j = g ∨ (Value.slice ma mm mc).ownBlock = some j) w1 wx
                have hb0 : Stirs (fun j => j = g ∨ (Value.slice ma mm mc).ownBlock = some j) w1 { w1 with drawn := w1.drawn + 1 } := Stirs.of_below (Below.refl _ _).drew
                have hne : Nonempty (Of (fun wx => Stirs (fun j => j = g ∨ (Value.slice ma mm mc).ownBlock = some j) w1 wx)) := ⟨⟨_, hb0⟩⟩
                refine wp_region_held (S := fun wx => Stirs (fun j => j = g ∨ (Value.slice ma mm mc).ownBlock = some j) w1 wx) (by kernel_rfl) ?_
                change wpAnyH _ _ _ _ _ 14 _ _ _
                refine heldS_quiet (i := 0) rfl (by kernel_rfl) rfl rfl (fun _ _ _ _ h => h) hb0 ?_
                intro K hK
                go_big_quiet_op
                go_big_quiet_on
                refine heldS_quiet (i := 1) rfl (by kernel_rfl) rfl rfl (fun _ _ _ _ h => h) hb0 ?_
                intro K hK
                go_big_quiet_op
                go_big_quiet_on
                refine heldS_check (i := 2) rfl (by kernel_rfl) rfl rfl rfl (fun _ _ _ _ h => h) hb0 ?_
                go_frame
                refine heldS_quiet (i := 3) rfl (by kernel_rfl) rfl rfl (fun _ _ _ _ h => h) hb0 ?_
                intro K hK
                go_big_quiet_op
                go_big_quiet_on
                refine heldS_quiet (i := 5) rfl (by kernel_rfl) rfl rfl (fun _ _ _ _ h => h) hb0 ?_
                intro K hK
                go_big_quiet_op
                go_big_quiet_on
                refine heldS_quiet (i := 6) rfl (by kernel_rfl) rfl rfl (fun _ _ _ _ h => h) hb0 ?_
                intro K hK
                go_big_quiet_op
                go_big_quiet_on
                refine wpAnyH_all (rs := [4, 7]) (by kernel_rfl) (by simp) ?_
                intro i hi
                simp only [List.mem_cons, List.not_mem_nil, or_false] at hi
                rcases hi with hi | hi
                · subst hi
                  refine wpOp_of_list (i := 4) rfl ?_
                  go_wp2
                  refine ⟨hb0, ?_⟩
                  refine heldS_one (i := 7) (by kernel_rfl) rfl ?_
                  refine wpList_makeB 4096 rfl rfl rfl rfl (by decide) ?_
                  intro bv wB hbv hbB
                  obtain ⟨bm, ba, bc, -, rfl, _, _⟩ := hbv.shape
                  have HBV := Lib.hid hbv
                  have HSB := Lib.hid (hb0.thenBelow hbB)
                  have HGB := Lib.hid (heap_below hbB (show ({ w1 with drawn := w1.drawn + 1 } : World).heap[g]? = _ from HG1.out))
                  have HBB := Lib.hid hbB
                  have hzB := hbB.size
                  clear hbv hbB
                  refine ⟨HSB.out, ?_⟩
                  refine heldS_one (i := 8) (by kernel_rfl) rfl ?_
                  go_wp2
                  refine ⟨HSB.out, ?_⟩
                  refine heldS_one (i := 9) (by kernel_rfl) rfl ?_
                  go_wp2
                  refine ⟨(HSB.out.thenBelow (below_alloc wB (.cells #[.int .u64 (k : Int), .int .i64 (r : Int), .slice ba bm bc] 62)) : Stirs _ w1 _), ?_⟩
                  show wpAnyH _ _ _ _ _ _ _ _ (World.alloc wB (.cells #[.int .u64 (k : Int), .int .i64 (r : Int), .slice ba bm bc] 62))
                  refine heldS_one (i := 10) (by kernel_rfl) rfl ?_
                  show wpList _ _ _ _ _ (World.alloc wB (.cells #[.int .u64 (k : Int), .int .i64 (r : Int), .slice ba bm bc] 62))
                  have HOB := Lib.hid (show OwR 3 encPg 62 wB base (.slice ma mm mc) M from (show OwR 3 encPg 62 ({ w1 with drawn := w1.drawn + 1 } : World) base (.slice ma mm mc) M from HR1.out.own).mono HBB.out)
                  refine wpList_pushR TPg HOB.out rfl rfl ((k, r, zs), .slice ba bm bc) rfl rfl (by simp [Value.oneCell']) (by omega) (by omega) (by have := HBA.out; have : w1.heap.size ≤ wB.heap.size := hzB; omega) ?_
                  intro v3 w3 hv3 hg3 hb3
                  have HV3 := Lib.hid hv3
                  have HST3 := Lib.hid (Stirs.of_grown (S := fun j => (Value.slice ma mm mc).ownBlock = some j) hg3 (fun j hj => hj))
                  have HS3 := Lib.hid (HSB.out.trans HST3.out (fun j _ hj => .inr hj))
                  have HG3 := Lib.hid (HST3.out.kept HGB.out (fun e => ows_ne HR1.out.own HG1.out (by decide) g e rfl))
                  obtain ⟨m3, a3, q3, -, rfl, _, _⟩ := hv3.shape
                  clear hv3 hg3 hb3
                  refine ⟨HS3.out, ?_⟩
                  refine heldS_one (i := 11) (by kernel_rfl) rfl ?_
                  go_wp2
                  refine ⟨HS3.out, ?_⟩
                  refine heldS_one (i := 12) (by kernel_rfl) rfl ?_
                  go_wp2
                  refine ⟨HS3.out, ?_⟩
                  refine heldS_one (i := 13) (by kernel_rfl) rfl ?_
                  refine wpList_setSl2 HG3.out (show 0 < 2 by decide) rfl rfl (fun w => by kernel_rfl) ?_
                  intro w4 hh4 hs4
                  have HS4 := Lib.hid (HS3.out.trans hs4 (fun j _ hj => .inl hj))
                  refine ⟨HS4.out, ?_⟩
                  have HG4 := Lib.hid (show w4.heap[g]? = some (.cells #[.slice a3 m3 q3, .int .i64 (last : Int)] 56 (0, 0)) by simpa using hh4)
                  have HO4 := Lib.hid (show OwR 3 encPg 62 w4 base (.slice a3 m3 q3) (M ++ [((k, r, zs), .slice ba bm bc)]) from owns_stirs HV3.out hs4 (ows_ne HV3.out HG3.out (by decide)))
                  have HBV3 := Lib.hid (show OB w3 w1.heap.size (.slice ba bm bc) zs from owns_stirs (show OB wB w1.heap.size (.slice ba bm bc) zs from HBV.out) HST3.out (fun j hj e => own_apart HBV.out HOB.out (by decide) hj e))
                  have HBV4 := Lib.hid (show OB w4 w1.heap.size (.slice ba bm bc) zs from owns_stirs HBV3.out hs4 (ows_ne HBV3.out HG3.out (by decide)))
                  have HP4 := Lib.hid (show ∀ p ∈ M, OB w4 base p.2 p.1.2.2 from fun p hp => by
                    have h1 : OB wB base p.2 p.1.2.2 := OB.mono (show OB ({ w1 with drawn := w1.drawn + 1 } : World) base p.2 p.1.2.2 from HR1.out.pages p hp) HBB.out
                    have h2 : OB w3 base p.2 p.1.2.2 := owns_stirs h1 HST3.out (fun j hj e => own_apart h1 HOB.out (by decide) hj e)
                    exact owns_stirs h2 hs4 (ows_ne h2 HG3.out (by decide)))
                  have HR4 := Lib.hid (HR1.out.add (Nat.le_trans HBA.out (Nat.le_trans hz hzz)) HG4.out HO4.out HBV4.out HP4.out (by omega) hr8 HN1.out)
                  have HSW := Lib.hid (HS1.out.trans HS4.out (fun j hj hS => hS.elim (fun e => .inl e) (fun e => HR1.out.rowS HS1.out j hj e)))
                  have HV4 := Lib.hid (show (M ++ [((k, r, zs), Value.slice ba bm bc)]).map (·.1) = mapV r (L.map (·.1)) f (k + 1 - f) by rw [List.map_append, HVS2.out]; rfl)
                  have HL4 := Lib.hid (show (M ++ [((k, r, zs), Value.slice ba bm bc)]).length ≤ lm + (k + 1 - f) by rw [List.length_append]; have := HML.out; simp; omega)
                  clear hh4 hs4
                  refine wpAnyH_done (by kernel_rfl) ?_ _
                  clear c0 hb0
                  go_wp2
                  go_roundw
                  case rel =>
                    first
                      | exact ⟨k + 1, _, _, by go_num, by omega, by omega, HR4.out, HV4.out, HL4.out, HSW.out⟩
                      | ((repeat apply Exists.intro); exact ⟨⟨k + 1, _, _, by go_num, by omega, by omega, HR4.out, HV4.out, HL4.out, HSW.out⟩, rfl⟩)
                  case measure => simp [intOf] <;> omega
                · subst hi
                  refine wpOp_of_list (i := 7) rfl ?_
                  refine wpList_makeB 4096 rfl rfl rfl rfl (by decide) ?_
                  intro bv wB hbv hbB
                  obtain ⟨bm, ba, bc, -, rfl, _, _⟩ := hbv.shape
                  have HBV := Lib.hid hbv
                  have HSB := Lib.hid (hb0.thenBelow hbB)
                  have HGB := Lib.hid (heap_below hbB (show ({ w1 with drawn := w1.drawn + 1 } : World).heap[g]? = _ from HG1.out))
                  have HBB := Lib.hid hbB
                  have hzB := hbB.size
                  clear hbv hbB
                  refine ⟨HSB.out, ?_⟩
                  refine wpAnyH_all (rs := [4, 8]) (by kernel_rfl) (by simp) ?_
                  intro i hi
                  simp only [List.mem_cons, List.not_mem_nil, or_false] at hi
                  rcases hi with hi | hi
                  · subst hi
                    refine wpOp_of_list (i := 4) rfl ?_
                    have c1 := cell_rec HGB.out 0
                    simp only [List.getElem?_toArray, List.getElem?_cons_zero] at c1
                    go_wp2
                    refine ⟨HSB.out, ?_⟩
                    clear c1
                    refine heldS_one (i := 8) (by kernel_rfl) rfl ?_
                    go_wp2
                    refine ⟨HSB.out, ?_⟩
                    refine heldS_one (i := 9) (by kernel_rfl) rfl ?_
                    go_wp2
                    refine ⟨(HSB.out.thenBelow (below_alloc wB (.cells #[.int .u64 (k : Int), .int .i64 (r : Int), .slice ba bm bc] 62)) : Stirs _ w1 _), ?_⟩
                    show wpAnyH _ _ _ _ _ _ _ _ (World.alloc wB (.cells #[.int .u64 (k : Int), .int .i64 (r : Int), .slice ba bm bc] 62))
                    refine heldS_one (i := 10) (by kernel_rfl) rfl ?_
                    show wpList _ _ _ _ _ (World.alloc wB (.cells #[.int .u64 (k : Int), .int .i64 (r : Int), .slice ba bm bc] 62))
                    have HOB := Lib.hid (show OwR 3 encPg 62 wB base (.slice ma mm mc) M from (show OwR 3 encPg 62 ({ w1 with drawn := w1.drawn + 1 } : World) base (.slice ma mm mc) M from HR1.out.own).mono HBB.out)
                    refine wpList_pushR TPg HOB.out rfl rfl ((k, r, zs), .slice ba bm bc) rfl rfl (by simp [Value.oneCell']) (by omega) (by omega) (by have := HBA.out; have : w1.heap.size ≤ wB.heap.size := hzB; omega) ?_
                    intro v3 w3 hv3 hg3 hb3
                    have HV3 := Lib.hid hv3
                    have HST3 := Lib.hid (Stirs.of_grown (S := fun j => (Value.slice ma mm mc).ownBlock = some j) hg3 (fun j hj => hj))
                    have HS3 := Lib.hid (HSB.out.trans HST3.out (fun j _ hj => .inr hj))
                    have HG3 := Lib.hid (HST3.out.kept HGB.out (fun e => ows_ne HR1.out.own HG1.out (by decide) g e rfl))
                    obtain ⟨m3, a3, q3, -, rfl, _, _⟩ := hv3.shape
                    clear hv3 hg3 hb3
                    refine ⟨HS3.out, ?_⟩
                    refine heldS_one (i := 11) (by kernel_rfl) rfl ?_
                    go_wp2
                    refine ⟨HS3.out, ?_⟩
                    refine heldS_one (i := 12) (by kernel_rfl) rfl ?_
                    go_wp2
                    refine ⟨HS3.out, ?_⟩
                    refine heldS_one (i := 13) (by kernel_rfl) rfl ?_
                    refine wpList_setSl2 HG3.out (show 0 < 2 by decide) rfl rfl (fun w => by kernel_rfl) ?_
                    intro w4 hh4 hs4
                    have HS4 := Lib.hid (HS3.out.trans hs4 (fun j _ hj => .inl hj))
                    refine ⟨HS4.out, ?_⟩
                    have HG4 := Lib.hid (show w4.heap[g]? = some (.cells #[.slice a3 m3 q3, .int .i64 (last : Int)] 56 (0, 0)) by simpa using hh4)
                    have HO4 := Lib.hid (show OwR 3 encPg 62 w4 base (.slice a3 m3 q3) (M ++ [((k, r, zs), .slice ba bm bc)]) from owns_stirs HV3.out hs4 (ows_ne HV3.out HG3.out (by decide)))
                    have HBV3 := Lib.hid (show OB w3 w1.heap.size (.slice ba bm bc) zs from owns_stirs (show OB wB w1.heap.size (.slice ba bm bc) zs from HBV.out) HST3.out (fun j hj e => own_apart HBV.out HOB.out (by decide) hj e))
                    have HBV4 := Lib.hid (show OB w4 w1.heap.size (.slice ba bm bc) zs from owns_stirs HBV3.out hs4 (ows_ne HBV3.out HG3.out (by decide)))
                    have HP4 := Lib.hid (show ∀ p ∈ M, OB w4 base p.2 p.1.2.2 from fun p hp => by
                      have h1 : OB wB base p.2 p.1.2.2 := OB.mono (show OB ({ w1 with drawn := w1.drawn + 1 } : World) base p.2 p.1.2.2 from HR1.out.pages p hp) HBB.out
                      have h2 : OB w3 base p.2 p.1.2.2 := owns_stirs h1 HST3.out (fun j hj e => own_apart h1 HOB.out (by decide) hj e)
                      exact owns_stirs h2 hs4 (ows_ne h2 HG3.out (by decide)))
                    have HR4 := Lib.hid (HR1.out.add (Nat.le_trans HBA.out (Nat.le_trans hz hzz)) HG4.out HO4.out HBV4.out HP4.out (by omega) hr8 HN1.out)
                    have HSW := Lib.hid (HS1.out.trans HS4.out (fun j hj hS => hS.elim (fun e => .inl e) (fun e => HR1.out.rowS HS1.out j hj e)))
                    have HV4 := Lib.hid (show (M ++ [((k, r, zs), Value.slice ba bm bc)]).map (·.1) = mapV r (L.map (·.1)) f (k + 1 - f) by rw [List.map_append, HVS2.out]; rfl)
                    have HL4 := Lib.hid (show (M ++ [((k, r, zs), Value.slice ba bm bc)]).length ≤ lm + (k + 1 - f) by rw [List.length_append]; have := HML.out; simp; omega)
                    clear hh4 hs4
                    refine wpAnyH_done (by kernel_rfl) ?_ _
                    clear c0 hb0
                    go_wp2
                    go_roundw
                    case rel =>
                      first
                        | exact ⟨k + 1, _, _, by go_num, by omega, by omega, HR4.out, HV4.out, HL4.out, HSW.out⟩
                        | ((repeat apply Exists.intro); exact ⟨⟨k + 1, _, _, by go_num, by omega, by omega, HR4.out, HV4.out, HL4.out, HSW.out⟩, rfl⟩)
                    case measure => simp [intOf] <;> omega
                  · subst hi
                    refine wpOp_of_list (i := 8) rfl ?_
                    go_wp2
                    refine ⟨HSB.out, ?_⟩
                    refine wpAnyH_all (rs := [4, 9]) (by kernel_rfl) (by simp) ?_
                    intro i hi
                    simp only [List.mem_cons, List.not_mem_nil, or_false] at hi
                    rcases hi with hi | hi
                    · subst hi
                      refine wpOp_of_list (i := 4) rfl ?_
                      have c1 := cell_rec HGB.out 0
                      simp only [List.getElem?_toArray, List.getElem?_cons_zero] at c1
                      go_wp2
                      refine ⟨HSB.out, ?_⟩
                      clear c1
                      refine heldS_one (i := 9) (by kernel_rfl) rfl ?_
                      go_wp2
                      refine ⟨(HSB.out.thenBelow (below_alloc wB (.cells #[.int .u64 (k : Int), .int .i64 (r : Int), .slice ba bm bc] 62)) : Stirs _ w1 _), ?_⟩
                      show wpAnyH _ _ _ _ _ _ _ _ (World.alloc wB (.cells #[.int .u64 (k : Int), .int .i64 (r : Int), .slice ba bm bc] 62))
                      refine heldS_one (i := 10) (by kernel_rfl) rfl ?_
                      show wpList _ _ _ _ _ (World.alloc wB (.cells #[.int .u64 (k : Int), .int .i64 (r : Int), .slice ba bm bc] 62))
                      have HOB := Lib.hid (show OwR 3 encPg 62 wB base (.slice ma mm mc) M from (show OwR 3 encPg 62 ({ w1 with drawn := w1.drawn + 1 } : World) base (.slice ma mm mc) M from HR1.out.own).mono HBB.out)
                      refine wpList_pushR TPg HOB.out rfl rfl ((k, r, zs), .slice ba bm bc) rfl rfl (by simp [Value.oneCell']) (by omega) (by omega) (by have := HBA.out; have : w1.heap.size ≤ wB.heap.size := hzB; omega) ?_
                      intro v3 w3 hv3 hg3 hb3
                      have HV3 := Lib.hid hv3
                      have HST3 := Lib.hid (Stirs.of_grown (S := fun j => (Value.slice ma mm mc).ownBlock = some j) hg3 (fun j hj => hj))
                      have HS3 := Lib.hid (HSB.out.trans HST3.out (fun j _ hj => .inr hj))
                      have HG3 := Lib.hid (HST3.out.kept HGB.out (fun e => ows_ne HR1.out.own HG1.out (by decide) g e rfl))
                      obtain ⟨m3, a3, q3, -, rfl, _, _⟩ := hv3.shape
                      clear hv3 hg3 hb3
                      refine ⟨HS3.out, ?_⟩
                      refine heldS_one (i := 11) (by kernel_rfl) rfl ?_
                      go_wp2
                      refine ⟨HS3.out, ?_⟩
                      refine heldS_one (i := 12) (by kernel_rfl) rfl ?_
                      go_wp2
                      refine ⟨HS3.out, ?_⟩
                      refine heldS_one (i := 13) (by kernel_rfl) rfl ?_
                      refine wpList_setSl2 HG3.out (show 0 < 2 by decide) rfl rfl (fun w => by kernel_rfl) ?_
                      intro w4 hh4 hs4
                      have HS4 := Lib.hid (HS3.out.trans hs4 (fun j _ hj => .inl hj))
                      refine ⟨HS4.out, ?_⟩
                      have HG4 := Lib.hid (show w4.heap[g]? = some (.cells #[.slice a3 m3 q3, .int .i64 (last : Int)] 56 (0, 0)) by simpa using hh4)
                      have HO4 := Lib.hid (show OwR 3 encPg 62 w4 base (.slice a3 m3 q3) (M ++ [((k, r, zs), .slice ba bm bc)]) from owns_stirs HV3.out hs4 (ows_ne HV3.out HG3.out (by decide)))
                      have HBV3 := Lib.hid (show OB w3 w1.heap.size (.slice ba bm bc) zs from owns_stirs (show OB wB w1.heap.size (.slice ba bm bc) zs from HBV.out) HST3.out (fun j hj e => own_apart HBV.out HOB.out (by decide) hj e))
                      have HBV4 := Lib.hid (show OB w4 w1.heap.size (.slice ba bm bc) zs from owns_stirs HBV3.out hs4 (ows_ne HBV3.out HG3.out (by decide)))
                      have HP4 := Lib.hid (show ∀ p ∈ M, OB w4 base p.2 p.1.2.2 from fun p hp => by
                        have h1 : OB wB base p.2 p.1.2.2 := OB.mono (show OB ({ w1 with drawn := w1.drawn + 1 } : World) base p.2 p.1.2.2 from HR1.out.pages p hp) HBB.out
                        have h2 : OB w3 base p.2 p.1.2.2 := owns_stirs h1 HST3.out (fun j hj e => own_apart h1 HOB.out (by decide) hj e)
                        exact owns_stirs h2 hs4 (ows_ne h2 HG3.out (by decide)))
                      have HR4 := Lib.hid (HR1.out.add (Nat.le_trans HBA.out (Nat.le_trans hz hzz)) HG4.out HO4.out HBV4.out HP4.out (by omega) hr8 HN1.out)
                      have HSW := Lib.hid (HS1.out.trans HS4.out (fun j hj hS => hS.elim (fun e => .inl e) (fun e => HR1.out.rowS HS1.out j hj e)))
                      have HV4 := Lib.hid (show (M ++ [((k, r, zs), Value.slice ba bm bc)]).map (·.1) = mapV r (L.map (·.1)) f (k + 1 - f) by rw [List.map_append, HVS2.out]; rfl)
                      have HL4 := Lib.hid (show (M ++ [((k, r, zs), Value.slice ba bm bc)]).length ≤ lm + (k + 1 - f) by rw [List.length_append]; have := HML.out; simp; omega)
                      clear hh4 hs4
                      refine wpAnyH_done (by kernel_rfl) ?_ _
                      clear c0 hb0
                      go_wp2
                      go_roundw
                      case rel =>
                        first
                          | exact ⟨k + 1, _, _, by go_num, by omega, by omega, HR4.out, HV4.out, HL4.out, HSW.out⟩
                          | ((repeat apply Exists.intro); exact ⟨⟨k + 1, _, _, by go_num, by omega, by omega, HR4.out, HV4.out, HL4.out, HSW.out⟩, rfl⟩)
                      case measure => simp [intOf] <;> omega
                    · subst hi
                      refine wpOp_of_list (i := 9) rfl ?_
                      go_wp2
                      refine ⟨(HSB.out.thenBelow (below_alloc wB (.cells #[.int .u64 (k : Int), .int .i64 (r : Int), .slice ba bm bc] 62)) : Stirs _ w1 _), ?_⟩
                      refine heldS_one (i := 4) (by kernel_rfl) rfl ?_
                      have c1 := cell_rec (heap_below (below_alloc wB (.cells #[.int .u64 (k : Int), .int .i64 (r : Int), .slice ba bm bc] 62)) HGB.out) 0
                      simp only [List.getElem?_toArray, List.getElem?_cons_zero] at c1
                      go_wp2
                      refine ⟨(HSB.out.thenBelow (below_alloc wB (.cells #[.int .u64 (k : Int), .int .i64 (r : Int), .slice ba bm bc] 62)) : Stirs _ w1 _), ?_⟩
                      clear c1
                      show wpAnyH _ _ _ _ _ _ _ _ (World.alloc wB (.cells #[.int .u64 (k : Int), .int .i64 (r : Int), .slice ba bm bc] 62))
                      refine heldS_one (i := 10) (by kernel_rfl) rfl ?_
                      show wpList _ _ _ _ _ (World.alloc wB (.cells #[.int .u64 (k : Int), .int .i64 (r : Int), .slice ba bm bc] 62))
                      have HOB := Lib.hid (show OwR 3 encPg 62 wB base (.slice ma mm mc) M from (show OwR 3 encPg 62 ({ w1 with drawn := w1.drawn + 1 } : World) base (.slice ma mm mc) M from HR1.out.own).mono HBB.out)
                      refine wpList_pushR TPg HOB.out rfl rfl ((k, r, zs), .slice ba bm bc) rfl rfl (by simp [Value.oneCell']) (by omega) (by omega) (by have := HBA.out; have : w1.heap.size ≤ wB.heap.size := hzB; omega) ?_
                      intro v3 w3 hv3 hg3 hb3
                      have HV3 := Lib.hid hv3
                      have HST3 := Lib.hid (Stirs.of_grown (S := fun j => (Value.slice ma mm mc).ownBlock = some j) hg3 (fun j hj => hj))
                      have HS3 := Lib.hid (HSB.out.trans HST3.out (fun j _ hj => .inr hj))
                      have HG3 := Lib.hid (HST3.out.kept HGB.out (fun e => ows_ne HR1.out.own HG1.out (by decide) g e rfl))
                      obtain ⟨m3, a3, q3, -, rfl, _, _⟩ := hv3.shape
                      clear hv3 hg3 hb3
                      refine ⟨HS3.out, ?_⟩
                      refine heldS_one (i := 11) (by kernel_rfl) rfl ?_
                      go_wp2
                      refine ⟨HS3.out, ?_⟩
                      refine heldS_one (i := 12) (by kernel_rfl) rfl ?_
                      go_wp2
                      refine ⟨HS3.out, ?_⟩
                      refine heldS_one (i := 13) (by kernel_rfl) rfl ?_
                      refine wpList_setSl2 HG3.out (show 0 < 2 by decide) rfl rfl (fun w => by kernel_rfl) ?_
                      intro w4 hh4 hs4
                      have HS4 := Lib.hid (HS3.out.trans hs4 (fun j _ hj => .inl hj))
                      refine ⟨HS4.out, ?_⟩
                      have HG4 := Lib.hid (show w4.heap[g]? = some (.cells #[.slice a3 m3 q3, .int .i64 (last : Int)] 56 (0, 0)) by simpa using hh4)
                      have HO4 := Lib.hid (show OwR 3 encPg 62 w4 base (.slice a3 m3 q3) (M ++ [((k, r, zs), .slice ba bm bc)]) from owns_stirs HV3.out hs4 (ows_ne HV3.out HG3.out (by decide)))
                      have HBV3 := Lib.hid (show OB w3 w1.heap.size (.slice ba bm bc) zs from owns_stirs (show OB wB w1.heap.size (.slice ba bm bc) zs from HBV.out) HST3.out (fun j hj e => own_apart HBV.out HOB.out (by decide) hj e))
                      have HBV4 := Lib.hid (show OB w4 w1.heap.size (.slice ba bm bc) zs from owns_stirs HBV3.out hs4 (ows_ne HBV3.out HG3.out (by decide)))
                      have HP4 := Lib.hid (show ∀ p ∈ M, OB w4 base p.2 p.1.2.2 from fun p hp => by
                        have h1 : OB wB base p.2 p.1.2.2 := OB.mono (show OB ({ w1 with drawn := w1.drawn + 1 } : World) base p.2 p.1.2.2 from HR1.out.pages p hp) HBB.out
                        have h2 : OB w3 base p.2 p.1.2.2 := owns_stirs h1 HST3.out (fun j hj e => own_apart h1 HOB.out (by decide) hj e)
                        exact owns_stirs h2 hs4 (ows_ne h2 HG3.out (by decide)))
                      have HR4 := Lib.hid (HR1.out.add (Nat.le_trans HBA.out (Nat.le_trans hz hzz)) HG4.out HO4.out HBV4.out HP4.out (by omega) hr8 HN1.out)
                      have HSW := Lib.hid (HS1.out.trans HS4.out (fun j hj hS => hS.elim (fun e => .inl e) (fun e => HR1.out.rowS HS1.out j hj e)))
                      have HV4 := Lib.hid (show (M ++ [((k, r, zs), Value.slice ba bm bc)]).map (·.1) = mapV r (L.map (·.1)) f (k + 1 - f) by rw [List.map_append, HVS2.out]; rfl)
                      have HL4 := Lib.hid (show (M ++ [((k, r, zs), Value.slice ba bm bc)]).length ≤ lm + (k + 1 - f) by rw [List.length_append]; have := HML.out; simp; omega)
                      clear hh4 hs4
                      refine wpAnyH_done (by kernel_rfl) ?_ _
                      clear c0 hb0
                      go_wp2
                      go_roundw
                      case rel =>
                        first
                          | exact ⟨k + 1, _, _, by go_num, by omega, by omega, HR4.out, HV4.out, HL4.out, HSW.out⟩
                          | ((repeat apply Exists.intro); exact ⟨⟨k + 1, _, _, by go_num, by omega, by omega, HR4.out, HV4.out, HL4.out, HSW.out⟩, rfl⟩)
                      case measure => simp [intOf] <;> omega
              · have HK1 := Lib.hid (findV_some hf1).2
                have HVS2 := Lib.hid (HVS.out.trans (addP_old HR1.out.ok.nd (show (M.map (·.1))[i]? = some x.1 by rw [List.getElem?_map, hx]; rfl) HK1.out))
                have hq := (HR1.out.ok.pg x.1 (List.mem_map.2 ⟨x, List.mem_of_getElem? hx, rfl⟩)).2.1
                have hil : i < mm := by rw [HMM.out]; exact (List.getElem?_eq_some_iff.1 hx).1
                obtain ⟨rb, rfl⟩ := own_at hr1.own (by rw [← HMM.out]; omega)
                obtain ⟨b, o, hbo, -, v1, -⟩ := pg_cells hr1.own.rd hx
                cases hbo
                rw [Nat.zero_add] at v1
                have hbl := block_lt v1
                have hor := or_i8 hq hr8
                have hP8 := or_lt8 hq hr8
                have HX := Lib.hid hx
                clear hx hf1 hr1 hq
                obtain ⟨⟨xn, xr, xc⟩, bv⟩ := x
                simp only at v1 hor hP8 HVS2
                generalize hP : xr ||| r = P at *
                clear hP
                have hAB := fun (x : Above w1) (b k : Nat) (h : b < w1.heap.size) => Above.cell x b k h
                go_wp2
                refine wp_region_walk 17 [] (by kernel_rfl) (by kernel_rfl) ?_
                simp only [List.take_succ_cons, List.take_zero, List.drop_succ_cons, List.drop_zero]
                refine walk_quiet rfl rfl rfl ?_; intro K hK; go_big_quiet_op; go_big_quiet_on
                refine walk_check (by kernel_rfl) rfl rfl ?_
                go_frame
                iterate 4 (refine walk_quiet rfl rfl rfl ?_; intro K hK; go_big_quiet_op; go_big_quiet_on)
                refine walk_check (by kernel_rfl) rfl rfl ?_
                go_frame
                iterate 10 (refine walk_quiet rfl rfl rfl ?_; intro K hK; go_big_quiet_op; go_big_quiet_on)
                refine walk_nil ?_
                intro wz hbz hF
                have HRZ := Lib.hid (HR1.out.mono hbz)
                have HSZ := Lib.hid (HS1.out.thenBelow hbz)
                clear hF hAB
                refine wpList_storeRights HRZ.out.own HX.out rfl P rfl ?_
                intro w2 ho2 hs2
                have HR2 := Lib.hid (HRZ.out.rights (r := P) HX.out hP8 (hs2.sub (fun k _ hk => by rw [hk]; rfl)) ho2)
                have HS2 := Lib.hid (HSZ.out.trans hs2 (fun j hj e => HRZ.out.rowS HSZ.out j hj (by rw [e]; rfl)))
                have HV2 := Lib.hid (show (M.set i ((xn, P, xc), bv)).map (·.1) = mapV r (L.map (·.1)) f (k + 1 - f) by rw [List.map_set, HVS2.out])
                have HL2 := Lib.hid (show (M.set i ((xn, P, xc), bv)).length ≤ lm + (k + 1 - f) by rw [List.length_set]; have := HML.out; omega)
                clear ho2 hs2 hbz v1 c0
                go_wp2
                go_roundw
                case rel =>
                  first
                    | exact ⟨k + 1, _, _, by go_num, by omega, by omega, HR2.out, HV2.out, HL2.out, HS2.out⟩
                    | ((repeat apply Exists.intro); exact ⟨⟨k + 1, _, _, by go_num, by omega, by omega, HR2.out, HV2.out, HL2.out, HS2.out⟩, rfl⟩)
                case measure => simp [intOf] <;> omega
            · obtain rfl : k = l + 1 := by omega
              go_wp2
              go_ret
              rw [HRES.out]
              exact ⟨rfl, ⟨_, M, HRM.out, HVM.out⟩, HSM.out⟩
end Go.Proofs.Ytmpelmjhimalpaa
namespace Go.Proofs.Ytmpelmjhimalpaa
open Go.RowKit Go.Fd
theorem refMap_any {base g : Nat} {lv : Value} {L : List (Pg × Value)} (w : World) (h : RefIs w base g lv L) (hb : base ≤ w.heap.size) (hL : L.length ≤ 900000) (a n : Nat) (r : Int) (ha : a < 18446744073709551616) (hn : n < 18446744073709551616) :
    Calls Try.prog 33 #[ptr g, .int .u64 (a : Int), .int .u64 (n : Int), .int .i64 r] w fun e w' => e = .returned (.int .i64 (mapR (L.map (·.1)) a n r).2) ∧ MapPost w base g (mapR (L.map (·.1)) a n r).1 w' := by
  by_cases hbad : r < 1 ∨ 7 < r ∨ n = 0 ∨ 18446744073709551616 < a + n
  · rw [mapR_arg hbad]
    refine (refMap_arg w a n r ha hn hbad).mono ?_
    rintro e w' ⟨rfl, rfl⟩
    exact ⟨rfl, ⟨_, L, h, rfl⟩, Stirs.refl _ _⟩
  · obtain ⟨m, rfl⟩ := Int.eq_ofNat_of_zero_le (by omega : 0 ≤ r)
    exact refMap_ok w h hb hL a n m (by omega) (by omega) (by omega) (by omega)
theorem findV_perm {V W : Vw} (hp : V.Perm W) (hn : (V.map (·.1)).Nodup) (k : Nat) : findV V k = findV W k := by
  have hw : (W.map (·.1)).Nodup := (hp.map _).nodup_iff.1 hn
  cases hv : findV V k with
  | none =>
    unfold findV at *
    rw [eq_comm, List.find?_eq_none]
    intro x hx
    exact List.find?_eq_none.1 hv x (hp.mem_iff.2 hx)
  | some x =>
    obtain ⟨hm, hk⟩ := findV_some hv
    obtain ⟨i, hi⟩ := List.mem_iff_getElem?.1 (hp.mem_iff.1 hm)
    exact (findV_at hw hi hk).symm
theorem mayV_perm {V W : Vw} (h : ∀ k, findV V k = findV W k) (a n r : Nat) : mayV V a n r = mayV W a n r := by
  rw [Bool.eq_iff_iff, mayV_iff, mayV_iff]
  simp only [h]
theorem getV_perm {V W : Vw} (h : ∀ k, findV V k = findV W k) (a : Nat) : getV V a = getV W a := by unfold getV; rw [h]
theorem bytesV_perm {V W : Vw} (h : ∀ k, findV V k = findV W k) (a n : Nat) : bytesV V a n = bytesV W a n := by
  unfold bytesV
  exact List.map_congr_left fun i _ => getV_perm h _
theorem loadR_perm {V W : Vw} (h : ∀ k, findV V k = findV W k) (a : Nat) (n : Int) : loadR V a n = loadR W a n := by unfold loadR; rw [mayV_perm h, bytesV_perm h]
theorem bytesR_perm {V W : Vw} (h : ∀ k, findV V k = findV W k) (a : Nat) (n : Int) : bytesR V a n = bytesR W a n := by unfold bytesR; rw [mayV_perm h, bytesV_perm h]
theorem fetchK_perm {V W : Vw} (h : ∀ k, findV V k = findV W k) (a : Nat) : ∀ n, fetchK V a n = fetchK W a n
  | 0 => rfl
  | n + 1 => by rw [fetchK, fetchK, fetchK_perm h a n, mayV_perm h]
theorem fetchR_perm {V W : Vw} (h : ∀ k, findV V k = findV W k) (a : Nat) (n : Int) : fetchR V a n = fetchR W a n := by unfold fetchR; rw [fetchK_perm h, bytesV_perm h]
theorem rightsV_perm {V W : Vw} (h : ∀ k, findV V k = findV W k) (k : Nat) : rightsV V k = rightsV W k := by unfold rightsV; rw [h]
theorem setBV_perm {V W : Vw} (hp : V.Perm W) (a : Nat) (c : UInt8) : (setBV V a c).Perm (setBV W a c) := by unfold setBV; exact hp.map _
theorem setV_perm (l : List UInt8) : ∀ {V W : Vw} (_ : V.Perm W) (a : Nat), (setV V a l).Perm (setV W a l) := by
  induction l with
  | nil => intro V W hp a; exact hp
  | cons x l ih => intro V W hp a; exact ih (setBV_perm hp a x) _
theorem setR_perm {V W : Vw} (hp : V.Perm W) (hn : (V.map (·.1)).Nodup) (a : Nat) (l : List UInt8) : (setR V a l).2 = (setR W a l).2 ∧ (setR V a l).1.Perm (setR W a l).1 := by
  unfold setR
  rw [mayV_perm (findV_perm hp hn)]
  split
  · exact ⟨rfl, setV_perm l hp a⟩
  · exact ⟨rfl, hp⟩
theorem storeR_perm {V W : Vw} (hp : V.Perm W) (hn : (V.map (·.1)).Nodup) (a : Nat) (n : Int) (x : Nat) : (storeR V a n x).2 = (storeR W a n x).2 ∧ (storeR V a n x).1.Perm (storeR W a n x).1 := by
  unfold storeR
  rw [mayV_perm (findV_perm hp hn)]
  split
  · split
    · exact ⟨rfl, setV_perm _ hp a⟩
    · exact ⟨rfl, hp⟩
  · exact ⟨rfl, hp⟩
theorem addP_perm {V W : Vw} (hp : V.Perm W) (k r : Nat) : (addP V k r).Perm (addP W k r) := by
  unfold addP
  have : k ∈ V.map (·.1) ↔ k ∈ W.map (·.1) := (hp.map _).mem_iff
  by_cases h : k ∈ V.map (·.1)
  · rw [if_pos h, if_pos (this.1 h)]
    exact hp.map _
  · rw [if_neg h, if_neg (fun h2 => h (this.2 h2))]
    exact hp.append_right _
theorem mapV_perm (r : Nat) : ∀ (n : Nat) {V W : Vw} (_ : V.Perm W) (k : Nat), (mapV r V k n).Perm (mapV r W k n)
  | 0, _, _, hp, _ => hp
  | n + 1, _, _, hp, k => mapV_perm r n (addP_perm hp k r) (k + 1)
theorem any_perm {α : Type} {V W : List α} (hp : V.Perm W) (f : α → Bool) : V.any f = W.any f := by
  rw [Bool.eq_iff_iff, List.any_eq_true, List.any_eq_true]
  constructor
  · rintro ⟨x, h1, h2⟩; exact ⟨x, hp.mem_iff.1 h1, h2⟩
  · rintro ⟨x, h1, h2⟩; exact ⟨x, hp.mem_iff.2 h1, h2⟩
theorem mapR_perm {V W : Vw} (hp : V.Perm W) (a n : Nat) (r : Int) : (mapR V a n r).2 = (mapR W a n r).2 ∧ (mapR V a n r).1.Perm (mapR W a n r).1 := by
  unfold mapR
  have h1 : ∀ f l r, clashV V f l r = clashV W f l r := fun f l r => by unfold clashV; rw [any_perm hp]
  have h2 : ∀ f l, longV V f l = longV W f l := fun f l => by unfold longV thereV; rw [hp.length_eq, hp.countP_eq]
  rw [h1, h2]
  split
  · exact ⟨rfl, hp⟩
  · split
    · exact ⟨rfl, hp⟩
    · split
      · exact ⟨rfl, hp⟩
      · exact ⟨rfl, mapV_perm _ _ hp _⟩
/-- What lies at a block of either memory. -/
theorem rfoot_type {w : World} {base g : Nat} {lv : Value} {L : List (Pg × Value)} (h : RefIs w base g lv L) {k : Nat} (hk : rfoot g lv L k) : ∃ c t fr, w.heap[k]? = some (.cells c t fr) ∧ (t = 56 ∨ t = 62 ∨ t = 5) := by
  have key : ∀ {e size n : Nat} {v : Value} {xs : List Value} {b : Nat}, w.ownsRow b e size v n xs → v.ownBlock = some k → ∃ c fr, w.heap[k]? = some (.cells c e fr) := by
    intro e size n v xs b ho hb
    rcases ho.2 with ⟨rfl, _⟩ | ⟨g1, cap, cur, rfl, _, hh, _⟩
    · cases hb
    · simp only [Value.ownBlock, Option.some.injEq] at hb
      subst hb
      exact ⟨_, _, hh⟩
  rcases hk with rfl | hk | ⟨p, hp, hk⟩
  · obtain ⟨last, h1⟩ := h.hd
    exact ⟨_, _, _, h1, .inl rfl⟩
  · obtain ⟨c, fr, h1⟩ := key h.own hk
    exact ⟨_, _, _, h1, .inr (.inl rfl)⟩
  · obtain ⟨c, fr, h1⟩ := key (h.pages p hp) hk
    exact ⟨_, _, _, h1, .inr (.inr rfl)⟩
theorem foot_type {w : World} {base bp bm : Nat} {L : List Ent} (h : PagesIs w base bp bm L) {k : Nat} (hk : foot bp bm L k) {c : Array Value} {t : TypeId} {fr : Nat × Nat} (hh : w.heap[k]? = some (.cells c t fr)) : t ≠ 56 ∧ t ≠ 62 ∧ t ≠ 5 ∧ t ≠ 58 := by
  rcases hk with rfl | rfl | hk
  · have h1 := h.hp
    rw [hh] at h1
    cases h1
    decide
  · obtain ⟨es, clock, hb, _⟩ := h.hm
    rw [hh] at hb
    cases hb
  · obtain ⟨e, he, rfl⟩ := List.mem_map.1 hk
    have h1 := (h.pg e he).1
    rw [hh] at h1
    cases h1
    decide
end Go.Proofs.Ytmpelmjhimalpaa
namespace Go.Proofs.Ytmpelmjhimalpaa
open Go.RowKit Go.Fd
/-- A block of the reference's kinds. -/
def refT (w : World) (k : Nat) : Prop := ∃ c t fr, w.heap[k]? = some (.cells c t fr) ∧ (t = 56 ∨ t = 62 ∨ t = 5)
/-- A block of a call's. -/
def opT (w : World) (k : Nat) : Prop := ∃ c fr, w.heap[k]? = some (.cells c 58 fr)
/-- What the program's memory may lie in. -/
def pF (w : World) (b k : Nat) : Prop := b ≤ k ∧ k < w.heap.size ∧ ¬ refT w k ∧ ¬ opT w k
/-- What the reference's memory may lie in. -/
def pG (w : World) (b k : Nat) : Prop := b ≤ k ∧ k < w.heap.size ∧ refT w k
theorem pFG {w : World} {b k : Nat} (h : pF w b k) : ¬ pG w b k := fun hg => h.2.2.1 hg.2.2
theorem pGF {w : World} {b k : Nat} (h : pG w b k) : ¬ pF w b k := fun hg => hg.2.2.1 h.2.2
theorem ref_not_op {w : World} {k : Nat} (h : refT w k) : ¬ opT w k := by
  rintro ⟨c, fr, h2⟩
  obtain ⟨c1, t, fr1, h1, ht⟩ := h
  rw [h1] at h2
  cases h2
  revert ht
  decide
/-- Both memories. -/
def Duo (w : World) (b bp g : Nat) (V W : Vw) : Prop := Mem w b bp (fun _ => True) V ∧ RefMem w b g (fun _ => True) W
/-- What a play may turn: no call's block, nothing below. -/
def Moves (b : Nat) (w w' : World) : Prop := Stirs (fun k => b ≤ k ∧ ¬ opT w k) w w'
theorem Moves.refl (b : Nat) (w : World) : Moves b w w := Stirs.refl _ _
theorem Moves.trans {b : Nat} {w w1 w2 : World} (h : Moves b w w1) (k : Moves b w1 w2) : Moves b w w2 :=
  Stirs.trans h k fun i _ hi => ⟨hi.1, fun ho => hi.2 (by
    obtain ⟨c, fr, h1⟩ := ho
    exact ⟨c, fr, h.kept h1 fun hn => hn.2 ⟨c, fr, h1⟩⟩)⟩
theorem Moves.below {b : Nat} {w w1 : World} (h : Moves b w w1) (hb : b ≤ w.heap.size) : Below b w w1 := Stirs.below h hb fun _ hk => hk.1
theorem Moves.of_below {b : Nat} {w w1 : World} (h : Below w.heap.size w w1) : Moves b w w1 := Stirs.of_below h
theorem Moves.of_F {b : Nat} {w w1 : World} (h : Stirs (pF w b) w w1) : Moves b w w1 := h.sub fun _ _ hk => ⟨hk.1, hk.2.2.2⟩
theorem Moves.of_G {b : Nat} {w w1 : World} (h : Stirs (pG w b) w w1) : Moves b w w1 := h.sub fun _ _ hk => ⟨hk.1, ref_not_op hk.2.2⟩
/-- A call's block stands. -/
theorem Moves.op {b k : Nat} {w w1 : World} (h : Moves b w w1) {c : Array Value} {fr : Nat × Nat} (hk : w.heap[k]? = some (.cells c 58 fr)) : w1.heap[k]? = some (.cells c 58 fr) := h.kept hk fun hn => hn.2 ⟨c, fr, hk⟩
theorem foot_F {w : World} {base bp bm : Nat} {L : List Ent} (h : PagesIs w base bp bm L) {k : Nat} (hk : foot bp bm L k) : pF w base k := by
  refine ⟨(foot_base h k hk).1, (foot_base h k hk).2, ?_, ?_⟩
  · rintro ⟨c, t, fr, h1, h2⟩
    obtain ⟨a1, a2, a3, -⟩ := foot_type h hk h1
    rcases h2 with e | e | e
    · exact a1 e
    · exact a2 e
    · exact a3 e
  · rintro ⟨c, fr, h1⟩
    exact (foot_type h hk h1).2.2.2 rfl
section
variable {w w1 w2 : World} {b bp g : Nat} {V W : Vw} {F G : Nat → Prop} {c : Array Value} {fr : Nat × Nat}
theorem Duo.mem (h : Duo w b bp g V W) : Mem w b bp (pF w b) V := by
  obtain ⟨⟨bm, L, h1, h2, -⟩, -⟩ := h
  exact ⟨bm, L, h1, h2, fun k hk => foot_F h1 hk⟩
theorem Duo.ref (h : Duo w b bp g V W) : RefMem w b g (pG w b) W := by
  obtain ⟨-, ⟨lv, L, h1, h2, -⟩⟩ := h
  exact ⟨lv, L, h1, h2, fun k hk => ⟨(h1.foot k hk).1, (h1.foot k hk).2, rfoot_type h1 hk⟩⟩
theorem duo_mk (h1 : Mem w b bp F V) (h2 : RefMem w b g G W) : Duo w b bp g V W := by
  obtain ⟨bm, L, a1, a2, -⟩ := h1
  obtain ⟨lv, R, c1, c2, -⟩ := h2
  exact ⟨⟨bm, L, a1, a2, fun _ _ => trivial⟩, ⟨lv, R, c1, c2, fun _ _ => trivial⟩⟩
/-- The reference's memory stands where the program's is turned. -/
theorem ref_side (h : RefMem w b g (pG w b) W) (hs : Stirs (pF w b) w w1) : RefMem w1 b g (pG w b) W := h.stirs hs fun _ hk => pGF hk
/-- The program's memory stands where the reference's is turned. -/
theorem mem_side (h : Mem w1 b bp (more (pF w b) w) V) (hs : Stirs (pG w b) w1 w2) : Mem w2 b bp (more (pF w b) w) V := h.stirs hs fun _ hk hg => by
  rcases hk with hk | hk
  · exact pFG hk hg
  · have := hg.2.1; omega
theorem mem_more (h : Mem w1 b bp F V) : Mem w1 b bp (more F w) V := by
  obtain ⟨bm, L, h1, h2, h3⟩ := h
  exact ⟨bm, L, h1, h2, fun k hk => .inl (h3 k hk)⟩
/-- The program's memory stands where the reference's maps. -/
theorem mem_map (h : Mem w1 b bp F V) (hg : w1.heap[g]? = some (.cells c 56 fr)) (hs : Stirs (pgS w1 b g) w1 w2) : Mem w2 b bp F V := by
  obtain ⟨bm, L, h1, h2, h3⟩ := h
  refine ⟨bm, L, h1.stirs hs fun k hk hp => ?_, h2, h3⟩
  rcases hp with rfl | ⟨-, c1, fr1, hh⟩
  · exact (foot_type h1 hk hg).1 rfl
  · exact (foot_type h1 hk hh).2.1 rfl
theorem Moves.of_map (hb : b ≤ g) (hg : w.heap[g]? = some (.cells c 56 fr)) (hs : Stirs (pgS w b g) w w1) : Moves b w w1 := hs.sub fun k _ hp => by
  rcases hp with rfl | ⟨h1, c1, fr1, hh⟩
  · exact ⟨hb, ref_not_op ⟨_, _, _, hg, .inl rfl⟩⟩
  · exact ⟨h1, ref_not_op ⟨_, _, _, hh, .inr (.inl rfl)⟩⟩
theorem Duo.below (h : Duo w b bp g V W) (hb : Below w.heap.size w w1) : Duo w1 b bp g V W := duo_mk (h.mem.mono hb) (h.ref.mono hb)
/-- The reference maps, in terms of both memories. -/
theorem map_ref (h : Duo w b bp g V W) (hb : b ≤ w.heap.size) (hL : W.length ≤ 900000) (a n : Nat) (r : Int) (ha : a < 18446744073709551616) (hn : n < 18446744073709551616) :
    Calls Try.prog 33 #[ptr g, .int .u64 (a : Int), .int .u64 (n : Int), .int .i64 r] w fun e w' => e = .returned (.int .i64 (mapR W a n r).2) ∧ Duo w' b bp g V (mapR W a n r).1 ∧ Moves b w w' := by
  have hm := h.mem
  obtain ⟨-, ⟨lv, L, h1, h2, -⟩⟩ := h
  obtain ⟨last, hg⟩ := h1.hd
  have hlo := h1.lo
  subst h2
  refine (refMap_any w h1 hb (by simpa using hL) a n r ha hn).mono ?_
  rintro e w' ⟨e1, ⟨lv', L', e2, e3⟩, e4⟩
  exact ⟨e1, duo_mk (mem_map hm hg e4) ⟨lv', L', e2, e3, fun _ h => h⟩, Moves.of_map hlo hg e4⟩
/-- The program maps. -/
theorem map_prog (h : Duo w b bp g V W) (hb : b ≤ w.heap.size) (hL : V.length ≤ 1000000) (a n : Nat) (r : Int) (ha : a < 18446744073709551616) (hn : n < 18446744073709551616) :
    Calls Try.prog 32 #[ptr bp, .int .u64 a, .int .u64 n, .int .i64 r] w fun e w' => e = .returned (.int .i64 (mapR V a n r).2) ∧ Duo w' b bp g (mapR V a n r).1 W ∧ Moves b w w' := by
  refine (map_mem w h.mem hb hL a n r ha hn).mono ?_
  rintro e w' ⟨e1, e2, e3⟩
  exact ⟨e1, duo_mk e2 (ref_side h.ref e3), Moves.of_F e3⟩
end
end Go.Proofs.Ytmpelmjhimalpaa
namespace Go.Proofs.Ytmpelmjhimalpaa
open Go.RowKit Go.Fd
/-- Pages are old ones, or such as lie within 2^64 bytes. -/
def KeyOk (W0 W : Vw) : Prop := ∀ x ∈ W, x.1 < 4503599627370496 ∨ x.1 ∈ W0.map (·.1)
theorem keyOk_refl (W : Vw) : KeyOk W W := fun _ hx => .inr (List.mem_map_of_mem hx)
theorem keyOk_of {W0 W : Vw} (h : W.map (·.1) = W0.map (·.1)) : KeyOk W0 W := fun _ hx => .inr (by rw [← h]; exact List.mem_map_of_mem hx)
theorem mem_addP {V : Vw} {k r j : Nat} (h : j ∈ (addP V k r).map (·.1)) : j ∈ V.map (·.1) ∨ j = k := by
  unfold addP at h
  split at h
  · obtain ⟨x, hx, rfl⟩ := List.mem_map.1 h
    obtain ⟨y, hy, rfl⟩ := List.mem_map.1 hx
    refine .inl (List.mem_map.2 ⟨y, hy, ?_⟩)
    split <;> rfl
  · rw [List.map_append, List.mem_append] at h
    rcases h with h | h
    · exact .inl h
    · simp at h
      exact .inr h
theorem mem_mapV {r : Nat} : ∀ {n : Nat} {V : Vw} {k j : Nat}, j ∈ (mapV r V k n).map (·.1) → j ∈ V.map (·.1) ∨ (k ≤ j ∧ j < k + n)
  | 0, _, _, _, h => .inl h
  | n + 1, V, k, j, h => by
    rw [mapV] at h
    rcases mem_mapV h with h | h
    · rcases mem_addP h with h | h
      · exact .inl h
      · exact .inr (by omega)
    · exact .inr (by omega)
theorem keyOk_map (W : Vw) (a n : Nat) (r : Int) : KeyOk W (mapR W a n r).1 := by
  unfold mapR
  split
  · exact keyOk_refl W
  · rename_i h
    split
    · exact keyOk_refl W
    · split
      · exact keyOk_refl W
      · intro x hx
        rcases mem_mapV (List.mem_map_of_mem (f := (·.1)) hx) with h1 | h1
        · exact .inr h1
        · exact .inl (by omega)
theorem key_setBV (V : Vw) (a : Nat) (c : UInt8) : (setBV V a c).map (·.1) = V.map (·.1) := by
  unfold setBV
  rw [List.map_map]
  refine List.map_congr_left fun x _ => ?_
  simp only [Function.comp_apply]
  split <;> rfl
theorem key_setV : ∀ (l : List UInt8) (V : Vw) (a : Nat), (setV V a l).map (·.1) = V.map (·.1)
  | [], _, _ => rfl
  | x :: l, V, a => by rw [setV, key_setV l, key_setBV]
theorem keyOk_set (W : Vw) (a : Nat) (l : List UInt8) : KeyOk W (setR W a l).1 := by
  unfold setR
  split
  · exact keyOk_of (key_setV _ _ _)
  · exact keyOk_refl W
theorem keyOk_store (W : Vw) (a : Nat) (n : Int) (x : Nat) : KeyOk W (storeR W a n x).1 := by
  unfold storeR
  split
  · split
    · exact keyOk_of (key_setV _ _ _)
    · exact keyOk_refl W
  · exact keyOk_refl W
/-- What a play leaves. -/
def PlayPost (w : World) (b g : Nat) (W0 : Vw) (e : Ending) (w' : World) : Prop := ∃ bp V W, e = .returned (.tuple #[ptr bp, .bool true]) ∧ Duo w' b bp g V W ∧ V.Perm W ∧ Moves b w w' ∧ KeyOk W0 W
/-- A call's cells. -/
def opC (k : Int) (a n : Nat) (s y : Int) (v : Value) : Array Value := #[.int .i64 k, .int .u64 (a : Int), .int .u64 (n : Int), .int .i64 s, .int .i64 y, v]
theorem op_box {w : World} {q : Nat} {k : Int} {a n : Nat} {s y : Int} {v : Value} {t : TypeId} {fr : Nat × Nat} (h : w.heap[q]? = some (.cells (opC k a n s y v) t fr)) :
    w.cell? ⟨q, 0, none⟩ = some (.int .i64 k) ∧ w.cell? ⟨q, 1, none⟩ = some (.int .u64 (a : Int)) ∧ w.cell? ⟨q, 2, none⟩ = some (.int .u64 (n : Int)) ∧ w.cell? ⟨q, 3, none⟩ = some (.int .i64 s) ∧ w.cell? ⟨q, 4, none⟩ = some (.int .i64 y) ∧ w.cell? ⟨q, 5, none⟩ = some v :=
  ⟨cell_rec h 0, cell_rec h 1, cell_rec h 2, cell_rec h 3, cell_rec h 4, cell_rec h 5⟩
theorem phI0 {i j t : Nat} (hij : i ≠ j) (h : phI [i, j] i t) : t = 0 := by
  have h1 := h (by simp)
  rcases t with _ | _ | t
  · rfl
  · simp at h1; exact absurd h1.symm hij
  · simp at h1
theorem phI1 {i j t : Nat} (hij : i ≠ j) (h : phI [i, j] j t) : t = 1 := by
  have h1 := h (by simp)
  rcases t with _ | _ | t
  · simp at h1; exact absurd h1 hij
  · rfl
  · simp at h1
/-- Two writing steps of both memories. -/
def phD (b bp g : Nat) (w0 : World) (C : List Nat) (V0 W0 V1 W1 V2 W2 : Vw) : Ph := ⟨fun t wx => ((t = 0 → Duo wx b bp g V0 W0) ∧ (t = 1 → Duo wx b bp g V1 W1) ∧ (t = 2 → Duo wx b bp g V2 W2)) ∧ Moves b w0 wx, Moves b, C, fun _ _ => False⟩
theorem phD_ok (b bp g : Nat) (w0 : World) (C : List Nat) (V0 W0 V1 W1 V2 W2 : Vw) : (phD b bp g w0 C V0 W0 V1 W1 V2 W2).Ok :=
  ⟨fun _ _ _ h hb => ⟨⟨fun e => (h.1.1 e).below hb, fun e => (h.1.2.1 e).below hb, fun e => (h.1.2.2 e).below hb⟩, h.2.trans (Moves.of_below hb)⟩, fun _ _ hb => Moves.of_below hb⟩
set_option maxHeartbeats 4000000 in
set_option maxRecDepth 100000 in
theorem plays_map {w : World} {b bp g : Nat} {V W : Vw} (h : Duo w b bp g V W) (hp : V.Perm W) (hb : b ≤ w.heap.size) (hL : W.length ≤ 900000) (a n : Nat) (s y : Int) (v : Value) (ha : a < 18446744073709551616) (hn : n < 18446744073709551616) :
    Calls Try.prog 17 #[ptr bp, ptr g, .agg (opC 0 a n s y v)] w fun e w' => PlayPost w b g W e w' := by
  have HB := Lib.hid hb
  have HP := Lib.hid (mapR_perm hp a n s)
  have HV := Lib.hid (show V.length ≤ 1000000 by rw [hp.length_eq]; omega)
  have HL := Lib.hid hL
  have HA := Lib.hid ha
  have HN := Lib.hid hn
  have H := Lib.hid h
  clear hb hp hL ha hn h
  go_enter Try.func17, Try.ntmps17
  go_wp2_with (first
    | ((with_reducible show wpList _ _ _ (⟨_, .box _ _, _, _, _, _⟩ :: _) _ _); go_must (refine wpList_box rfl ?_; intro w1 hx1 hb1 hs1; obtain ⟨k0, k1, k2, k3, -, -⟩ := op_box hx1)))
  have HX := Lib.hid hx1
  have HD := Lib.hid (H.out.below hb1)
  have HM := Lib.hid (show Moves b w w1 from Moves.of_below hb1)
  have HB1 := Lib.hid (show b ≤ w1.heap.size from by have := HB.out; omega)
  have HSZ := Lib.hid hs1
  clear hx1 hb1 hs1 k0 k1 k2 k3
  generalize hq : w.heap.size = q at *
  have HQ := Lib.hid hq
  clear hq
  let F : Ph := phD b bp g w1 [8, 16] V W (mapR V a n s).1 W (mapR V a n s).1 (mapR W a n s).1
  have HF : Hid F.Ok := Lib.hid (phD_ok _ _ _ _ _ _ _ _ _ _ _)
  have hne : Nonempty (In F) := ⟨⟨w1, 0, ⟨fun _ => HD.out, fun e => absurd e (by decide), fun e => absurd e (by decide)⟩, Moves.refl _ _⟩⟩
  have kk : ∀ (z : In F), z.w.heap[q]? = some (.cells (opC 0 a n s y v) 58 (0, 0)) := fun z => z.h.2.op HX.out
  have k1 : ∀ (z : In F), z.w.cell? ⟨q, 1, none⟩ = some (.int .u64 (a : Int)) := fun z => (op_box (kk z)).2.1
  have k2 : ∀ (z : In F), z.w.cell? ⟨q, 2, none⟩ = some (.int .u64 (n : Int)) := fun z => (op_box (kk z)).2.2.1
  have k3 : ∀ (z : In F), z.w.cell? ⟨q, 3, none⟩ = some (.int .i64 s) := fun z => (op_box (kk z)).2.2.2.1
  clear kk
  have HC1 := Lib.hid (show ∀ (tz : Nat) (wz : World), phI F.C 8 tz → F.I tz wz → Calls Try.prog 32 #[ptr bp, .int .u64 (a : Int), .int .u64 (n : Int), .int .i64 s] wz fun r w' => (∃ v, r = .returned v ∧ (YldT.is F (.int .i64 (mapR V a n s).2)).R v w' ∧ F.T wz w' ∧ F.I (nxI F.C 8 tz) w') ∨ (∃ c, r = .panicked c ∧ F.Up (.panic c) w') from fun tz wz hph hz => by
    obtain rfl := phI0 (by decide) hph
    refine (map_prog (hz.1.1 rfl) (Nat.le_trans HB1.out hz.2.size) HV.out a n s HA.out HN.out).mono ?_
    rintro r w' ⟨h1, h2, h3⟩
    exact .inl ⟨_, h1, YldT.is_mk, h3, ⟨fun e => absurd (show (1 : Nat) = 0 from e) (by decide), fun _ => h2, fun e => absurd (show (1 : Nat) = 2 from e) (by decide)⟩, hz.2.trans h3⟩)
  have HC2 := Lib.hid (show ∀ (tz : Nat) (wz : World), phI F.C 16 tz → F.I tz wz → Calls Try.prog 33 #[ptr g, .int .u64 (a : Int), .int .u64 (n : Int), .int .i64 s] wz fun r w' => (∃ v, r = .returned v ∧ (YldT.is F (.int .i64 (mapR V a n s).2)).R v w' ∧ F.T wz w' ∧ F.I (nxI F.C 16 tz) w') ∨ (∃ c, r = .panicked c ∧ F.Up (.panic c) w') from fun tz wz hph hz => by
    obtain rfl := phI1 (by decide) hph
    refine (map_ref (hz.1.2.1 rfl) (Nat.le_trans HB1.out hz.2.size) HL.out a n s HA.out HN.out).mono ?_
    rintro r w' ⟨h1, h2, h3⟩
    rw [← HP.out.1] at h1
    exact .inl ⟨_, h1, YldT.is_mk, h3, ⟨fun e => absurd (show (2 : Nat) = 0 from e) (by decide), fun e => absurd (show (2 : Nat) = 1 from e) (by decide), fun _ => h2⟩, hz.2.trans h3⟩)
  generalize hR : (mapR V a n s).2 = R at *
  have HR := Lib.hid hR
  clear hR
  have hRR : (R == R) = true := by simp
  refine wp_region_walkT F HF.out 20 [(8, .is F (.int .i64 R)), (16, .is F (.int .i64 R))] (by kernel_rfl) (by kernel_rfl) (by kernel_rfl) ⟨⟨fun _ => HD.out, fun e => absurd e (by decide), fun e => absurd e (by decide)⟩, Moves.refl _ _⟩ (fun _ _ _ h => h.elim) ?_
  simp only [List.take_succ_cons, List.take_zero, List.drop_succ_cons, List.drop_zero]
  try go_frame
  iterate 8 (refine walkT_quiet rfl rfl rfl rfl ?_; intro K hK; go_big_quiet_op; go_big_quiet_on)
  refine walkT_is rfl rfl (fun tz wz hph hz _ => WpT.call (run_callL (vals := [_, _, _, _]) Try.func32 (by kernel_rfl) rfl rfl) (HC1.out tz wz hph hz)) ?_
  go_frame
  iterate 7 (refine walkT_quiet rfl rfl rfl rfl ?_; intro K hK; go_big_quiet_op; go_big_quiet_on)
  refine walkT_is rfl rfl (fun tz wz hph hz _ => WpT.call (run_callL (vals := [_, _, _, _]) Try.func33 (by kernel_rfl) rfl rfl) (HC2.out tz wz hph hz)) ?_
  go_frame
  iterate 3 (refine walkT_quiet rfl rfl rfl rfl ?_; intro K hK; go_big_quiet_op; go_big_quiet_on)
  refine walkT_nil ?_
  intro wz hiz hFz
  have HIZ := Lib.hid hiz
  clear hiz hFz k1 k2 k3
  go_wp2
  go_ret2
  exact ⟨bp, _, _, rfl, HIZ.out.1.2.2 rfl, HP.out.2, HM.out.trans HIZ.out.2, keyOk_map _ _ _ _⟩
end Go.Proofs.Ytmpelmjhimalpaa
namespace Go.Proofs.Ytmpelmjhimalpaa
open Go.RowKit Go.Fd
section
variable {w : World} {b bp g : Nat} {V W : Vw}
theorem Duo.nd (h : Duo w b bp g V W) (hp : V.Perm W) : (V.map (·.1)).Nodup := ((hp.map _).nodup_iff).2 h.ref.ok.nd
theorem store_prog (h : Duo w b bp g V W) (a : Nat) (s : Int) (n : Nat) (ha : a < 18446744073709551616) :
    Calls Try.prog 11 #[ptr bp, .int .u64 a, .int .i64 s, .int .u64 n] w fun e w' => e = .returned (.int .i64 (storeR V a s n).2) ∧ Duo w' b bp g (storeR V a s n).1 W ∧ Moves b w w' := by
  refine (store_mem w h.mem a ha s n).mono ?_
  rintro e w' ⟨e1, e2, e3⟩
  exact ⟨e1, duo_mk e2 (ref_side h.ref e3), Moves.of_F e3⟩
theorem store_ref (h : Duo w b bp g V W) (hL : W.length ≤ 1000000) (a : Nat) (s : Int) (n : Nat) (ha : a < 18446744073709551616) (hn : n < 18446744073709551616) :
    Calls Try.prog 39 #[ptr g, .int .u64 (a : Int), .int .i64 s, .int .u64 (n : Int)] w fun e w' => e = .returned (.int .i64 (storeR W a s n).2) ∧ Duo w' b bp g V (storeR W a s n).1 ∧ Moves b w w' := by
  refine (refStore_any w h.ref a ha s n hn hL fun k hk => hk.2.1).mono ?_
  rintro e w' ⟨e1, e2, e3⟩
  exact ⟨e1, duo_mk (mem_side (mem_more h.mem) e3) e2, Moves.of_G e3⟩
theorem load_ref (h : Duo w b bp g V W) (hL : W.length ≤ 1000000) (a : Nat) (s : Int) (ha : a < 18446744073709551616) :
    Calls Try.prog 38 #[ptr g, .int .u64 (a : Int), .int .i64 s] w fun e w' => e = .returned (.tuple #[.int .u64 ((loadR W a s).1 : Int), .int .i64 (loadR W a s).2]) ∧ Duo w' b bp g V W ∧ Moves b w w' := by
  refine (refLoad_any w h.ref a ha s hL fun k hk => hk.2.1).mono ?_
  rintro e w' ⟨e1, e2, e3⟩
  exact ⟨e1, duo_mk (mem_side (mem_more h.mem) e3) e2, Moves.of_G e3⟩
end
set_option maxHeartbeats 4000000 in
set_option maxRecDepth 100000 in
theorem plays_store {w : World} {b bp g : Nat} {V W : Vw} (h : Duo w b bp g V W) (hp : V.Perm W) (hb : b ≤ w.heap.size) (hL : W.length ≤ 900000) (a n : Nat) (s y : Int) (v : Value) (ha : a < 18446744073709551616) (hn : n < 18446744073709551616) :
    Calls Try.prog 17 #[ptr bp, ptr g, .agg (opC 3 a n s y v)] w fun e w' => PlayPost w b g W e w' := by
  have HB := Lib.hid hb
  have HP := Lib.hid (storeR_perm hp (h.nd hp) a s n)
  have HV := Lib.hid (show V.length ≤ 1000000 by rw [hp.length_eq]; omega)
  have HL := Lib.hid hL
  have HA := Lib.hid ha
  have HN := Lib.hid hn
  have H := Lib.hid h
  clear hb hp hL ha hn h
  go_enter Try.func17, Try.ntmps17
  go_wp2_with (first
    | ((with_reducible show wpList _ _ _ (⟨_, .box _ _, _, _, _, _⟩ :: _) _ _); go_must (refine wpList_box rfl ?_; intro w1 hx1 hb1 hs1; obtain ⟨k0, k1, k2, k3, -, -⟩ := op_box hx1)))
  have HX := Lib.hid hx1
  have HD := Lib.hid (H.out.below hb1)
  have HM := Lib.hid (show Moves b w w1 from Moves.of_below hb1)
  have HB1 := Lib.hid (show b ≤ w1.heap.size from by have := HB.out; omega)
  have HSZ := Lib.hid hs1
  clear hx1 hb1 hs1 k0 k1 k2 k3
  generalize hq : w.heap.size = q at *
  have HQ := Lib.hid hq
  clear hq
  let F : Ph := phD b bp g w1 [8, 16] V W (storeR V a s n).1 W (storeR V a s n).1 (storeR W a s n).1
  have HF : Hid F.Ok := Lib.hid (phD_ok _ _ _ _ _ _ _ _ _ _ _)
  have hne : Nonempty (In F) := ⟨⟨w1, 0, ⟨fun _ => HD.out, fun e => absurd e (by decide), fun e => absurd e (by decide)⟩, Moves.refl _ _⟩⟩
  have kk : ∀ (z : In F), z.w.heap[q]? = some (.cells (opC 3 a n s y v) 58 (0, 0)) := fun z => z.h.2.op HX.out
  have k1 : ∀ (z : In F), z.w.cell? ⟨q, 1, none⟩ = some (.int .u64 (a : Int)) := fun z => (op_box (kk z)).2.1
  have k2 : ∀ (z : In F), z.w.cell? ⟨q, 2, none⟩ = some (.int .u64 (n : Int)) := fun z => (op_box (kk z)).2.2.1
  have k3 : ∀ (z : In F), z.w.cell? ⟨q, 3, none⟩ = some (.int .i64 s) := fun z => (op_box (kk z)).2.2.2.1
  clear kk
  have HC1 := Lib.hid (show ∀ (tz : Nat) (wz : World), phI F.C 8 tz → F.I tz wz → Calls Try.prog 11 #[ptr bp, .int .u64 (a : Int), .int .i64 s, .int .u64 (n : Int)] wz fun r w' => (∃ v, r = .returned v ∧ (YldT.is F (.int .i64 (storeR V a s n).2)).R v w' ∧ F.T wz w' ∧ F.I (nxI F.C 8 tz) w') ∨ (∃ c, r = .panicked c ∧ F.Up (.panic c) w') from fun tz wz hph hz => by
    obtain rfl := phI0 (by decide) hph
    refine (store_prog (hz.1.1 rfl) a s n HA.out).mono ?_
    rintro r w' ⟨h1, h2, h3⟩
    exact .inl ⟨_, h1, YldT.is_mk, h3, ⟨fun e => absurd (show (1 : Nat) = 0 from e) (by decide), fun _ => h2, fun e => absurd (show (1 : Nat) = 2 from e) (by decide)⟩, hz.2.trans h3⟩)
  have HC2 := Lib.hid (show ∀ (tz : Nat) (wz : World), phI F.C 16 tz → F.I tz wz → Calls Try.prog 39 #[ptr g, .int .u64 (a : Int), .int .i64 s, .int .u64 (n : Int)] wz fun r w' => (∃ v, r = .returned v ∧ (YldT.is F (.int .i64 (storeR V a s n).2)).R v w' ∧ F.T wz w' ∧ F.I (nxI F.C 16 tz) w') ∨ (∃ c, r = .panicked c ∧ F.Up (.panic c) w') from fun tz wz hph hz => by
    obtain rfl := phI1 (by decide) hph
    refine (store_ref (hz.1.2.1 rfl) (Nat.le_trans HL.out (by decide)) a s n HA.out HN.out).mono ?_
    rintro r w' ⟨h1, h2, h3⟩
    rw [← HP.out.1] at h1
    exact .inl ⟨_, h1, YldT.is_mk, h3, ⟨fun e => absurd (show (2 : Nat) = 0 from e) (by decide), fun e => absurd (show (2 : Nat) = 1 from e) (by decide), fun _ => h2⟩, hz.2.trans h3⟩)
  generalize hR : (storeR V a s n).2 = R at *
  have HR := Lib.hid hR
  clear hR
  have hRR : (R == R) = true := by simp
  refine wp_region_walkT F HF.out 20 [(8, .is F (.int .i64 R)), (16, .is F (.int .i64 R))] (by kernel_rfl) (by kernel_rfl) (by kernel_rfl) ⟨⟨fun _ => HD.out, fun e => absurd e (by decide), fun e => absurd e (by decide)⟩, Moves.refl _ _⟩ (fun _ _ _ h => h.elim) ?_
  simp only [List.take_succ_cons, List.take_zero, List.drop_succ_cons, List.drop_zero]
  try go_frame
  iterate 8 (refine walkT_quiet rfl rfl rfl rfl ?_; intro K hK; go_big_quiet_op; go_big_quiet_on)
  refine walkT_is rfl rfl (fun tz wz hph hz _ => WpT.call (run_callL (vals := [_, _, _, _]) Try.func11 (by kernel_rfl) rfl rfl) (HC1.out tz wz hph hz)) ?_
  go_frame
  iterate 7 (refine walkT_quiet rfl rfl rfl rfl ?_; intro K hK; go_big_quiet_op; go_big_quiet_on)
  refine walkT_is rfl rfl (fun tz wz hph hz _ => WpT.call (run_callL (vals := [_, _, _, _]) Try.func39 (by kernel_rfl) rfl rfl) (HC2.out tz wz hph hz)) ?_
  go_frame
  iterate 3 (refine walkT_quiet rfl rfl rfl rfl ?_; intro K hK; go_big_quiet_op; go_big_quiet_on)
  refine walkT_nil ?_
  intro wz hiz hFz
  have HIZ := Lib.hid hiz
  clear hiz hFz k1 k2 k3
  go_wp2
  go_ret2
  exact ⟨bp, _, _, rfl, HIZ.out.1.2.2 rfl, HP.out.2, HM.out.trans HIZ.out.2, keyOk_store _ _ _ _⟩
end Go.Proofs.Ytmpelmjhimalpaa
namespace Go.Proofs.Ytmpelmjhimalpaa
open Go.RowKit Go.Fd
set_option maxHeartbeats 4000000 in
set_option maxRecDepth 100000 in
theorem plays_load {w : World} {b bp g : Nat} {V W : Vw} (h : Duo w b bp g V W) (hp : V.Perm W) (hL : W.length ≤ 900000) (a n : Nat) (s y : Int) (v : Value) (ha : a < 18446744073709551616) :
    Calls Try.prog 17 #[ptr bp, ptr g, .agg (opC 2 a n s y v)] w fun e w' => PlayPost w b g W e w' := by
  have HP := Lib.hid hp
  have HE := Lib.hid (loadR_perm (findV_perm hp (h.nd hp)) a s)
  have HL := Lib.hid (show W.length ≤ 1000000 by omega)
  have HA := Lib.hid ha
  have H := Lib.hid h
  clear hp hL ha h
  go_enter Try.func17, Try.ntmps17
  go_wp2_with (first
    | ((with_reducible show wpList _ _ _ (⟨_, .box _ _, _, _, _, _⟩ :: _) _ _); go_must (refine wpList_box rfl ?_; intro w1 hx1 hb1 hs1; obtain ⟨k0, k1, k2, k3, -, -⟩ := op_box hx1)))
  have HX := Lib.hid hx1
  have HD := Lib.hid (H.out.below hb1)
  have HM := Lib.hid (show Moves b w w1 from Moves.of_below hb1)
  clear hx1 hb1 hs1
  refine (load_mem w1 HD.out.mem a HA.out s).mono ?_
  rintro e wx ⟨rfl, rfl⟩
  have HR := Lib.hid (load_ref HD.out HL.out a s HA.out)
  rw [← HE.out] at HR
  clear HE
  generalize (loadR V a s).1 = x1 at *
  generalize (loadR V a s).2 = x2 at *
  have e1 : ((x1 : Int) == (x1 : Int)) = true := by simp
  have e2 : (x2 == x2) = true := by simp
  go_wp2_with fail
  refine HR.out.mono ?_
  rintro e w2 ⟨rfl, h2, h3⟩
  have H2 := Lib.hid h2
  have H3 := Lib.hid h3
  clear h2 h3 k0 k1 k2 k3
  go_wp2
  go_ret2
  exact ⟨bp, _, _, rfl, H2.out, HP.out, HM.out.trans H3.out, keyOk_refl _⟩
end Go.Proofs.Ytmpelmjhimalpaa
namespace Go.Proofs.Ytmpelmjhimalpaa
open Go.RowKit Go.Fd
set_option maxHeartbeats 1000000 in
set_option maxRecDepth 100000 in
/-- Rights, with the row told. -/
theorem refRights_is {base g : Nat} {lv : Value} {L : List (Pg × Value)} (w : World) (h1 : RefIs w base g lv L) (a : Nat) (ha : a < 18446744073709551616) (hL : L.length ≤ 1000000) :
    Calls Try.prog 45 #[ptr g, .int .u64 (a : Int)] w fun e w' => e = .returned (.int .i64 ((rightsV (L.map (·.1)) (a / 4096) : Nat) : Int)) ∧ RefIs w' base g lv L ∧ Stirs (fun k => k = g) w w' := by
  have HF := Lib.hid (refFind_any w h1 (a / 4096) (by simpa using hL))
  have hq1 : (a : Int) / 4096 = ((a / 4096 : Nat) : Int) := by omega
  have hq2 : IntKind.u64.wrap ((a : Int).tdiv 4096) = ((a / 4096 : Nat) : Int) := by rw [Int.tdiv_eq_ediv_of_nonneg (by omega), IntKind.wrap_u64]; omega
  have hq3 : IntKind.u64.wrap ((a / 4096 : Nat) : Int) = ((a / 4096 : Nat) : Int) := by rw [IntKind.wrap_u64]; omega
  obtain ⟨lm, la, lc, hlm, rfl, _, _⟩ := h1.own.shape
  have HLM := Lib.hid hlm.out
  generalize a / 4096 = Q at *
  clear h1 ha hL hlm
  go_enter Try.func45, Try.ntmps45
  go_wp2_with fail
  refine HF.out.mono ?_
  rintro e w1 ⟨⟨z, rfl, hz1⟩, hr1, hs1⟩
  have HR1 := Lib.hid hr1
  have HS1 := Lib.hid hs1
  clear hs1 hq1 hq2 hq3
  rcases hz1 with ⟨rfl, hn1⟩ | ⟨i, x, rfl, hx, hf1⟩
  · have HRES := Lib.hid (show rightsV (L.map (·.1)) Q = 0 by unfold rightsV; rw [hn1])
    clear hr1 hn1
    go_wp2
    go_ret
    rw [HRES.out]
    exact ⟨rfl, HR1.out, HS1.out⟩
  · have HRES := Lib.hid (show rightsV (L.map (·.1)) Q = x.1.2.1 by unfold rightsV; rw [hf1])
    obtain ⟨b, o, rfl, -, v1, -⟩ := pg_cells hr1.own.rd hx
    obtain ⟨last, hg1⟩ := hr1.hd
    have c0 := cell_rec hg1 0
    simp only [List.getElem?_toArray, List.getElem?_cons_zero] at c0
    have hil : i < lm := by rw [HLM.out]; exact (List.getElem?_eq_some_iff.1 hx).1
    clear hr1 hx hf1 hg1
    go_wp2
    go_ret
    rw [HRES.out]
    exact ⟨rfl, HR1.out, HS1.out⟩
set_option maxHeartbeats 4000000 in
set_option maxRecDepth 100000 in
theorem plays_rights {w : World} {b bp g : Nat} {V W : Vw} (h : Duo w b bp g V W) (hp : V.Perm W) (hL : W.length ≤ 900000) (k : Int) (hk : (k == 0) = false ∧ (k == 1) = false ∧ (k == 2) = false ∧ (k == 3) = false ∧ (k == 4) = false ∧ (k == 5) = false ∧ (k == 7) = false) (a n : Nat) (s y : Int) (v : Value) (ha : a < 18446744073709551616) :
    Calls Try.prog 17 #[ptr bp, ptr g, .agg (opC k a n s y v)] w fun e w' => PlayPost w b g W e w' := by
  obtain ⟨q0, q1, q2, q3, q4, q5, q7⟩ := hk
  have HP := Lib.hid hp
  have HE := Lib.hid (rightsV_perm (findV_perm hp (h.nd hp)) (a / 4096))
  have HL := Lib.hid (show W.length ≤ 1000000 by omega)
  have HVL := Lib.hid hp.length_eq
  have HA := Lib.hid ha
  have H := Lib.hid h
  clear hp hL ha h
  go_enter Try.func17, Try.ntmps17
  go_wp2_with (first
    | ((with_reducible show wpList _ _ _ (⟨_, .box _ _, _, _, _, _⟩ :: _) _ _); go_must (refine wpList_box rfl ?_; intro w1 hx1 hb1 hs1; obtain ⟨k0, k1, k2, k3, -, -⟩ := op_box hx1)))
  have HX := Lib.hid hx1
  have HD := Lib.hid (H.out.below hb1)
  have HM := Lib.hid (show Moves b w w1 from Moves.of_below hb1)
  clear hx1 hb1 hs1 k0 k1 k2 k3 q0 q1 q2 q3 q4 q5 q7
  generalize hq : w.heap.size = q at *
  clear hq
  obtain ⟨lv, L, r1, r2, -⟩ := HD.out.ref
  obtain ⟨lm, la, lc, hlm, rfl, _, _⟩ := r1.own.shape
  have hlm2 : lm = V.length := by rw [HVL.out, ← r2, List.length_map]; exact hlm.out
  have HRI := Lib.hid r1
  have HPM := Lib.hid HD.out.mem
  have HGD := Lib.hid (show ∀ k, k = g → pG w1 b k from fun k hk => by
    subst hk
    obtain ⟨last, hg⟩ := r1.hd
    exact ⟨r1.lo, (Array.getElem?_eq_some_iff.1 hg).1, _, _, _, hg, .inl rfl⟩)
  have HLL := Lib.hid (show L.length ≤ 1000000 by have := HL.out; rw [← r2] at this; simpa using this)
  have HR2 := Lib.hid r2
  have HLM := Lib.hid hlm2
  clear r1 r2 hlm hlm2
  let F : Ph := ⟨fun _ wx => (RefIs wx b g (.slice la lm lc) L ∧ Mem wx b bp (pF w1 b) V) ∧ Moves b w1 wx, Moves b, [8], fun _ _ => False⟩
  have HF : Hid F.Ok := Lib.hid ⟨fun _ _ _ h hb => ⟨⟨h.1.1.mono hb, h.1.2.mono hb⟩, h.2.trans (Moves.of_below hb)⟩, fun _ _ hb => Moves.of_below hb⟩
  have hne : Nonempty (In F) := ⟨⟨w1, 0, ⟨HRI.out, HPM.out⟩, Moves.refl _ _⟩⟩
  have k1 : ∀ (z : In F), z.w.cell? ⟨q, 1, none⟩ = some (.int .u64 (a : Int)) := fun z => (op_box (z.h.2.op HX.out)).2.1
  have k2 : ∀ (z : In F), z.w.cell? ⟨g, 0, none⟩ = some (.slice la lm lc) := fun z => by
    obtain ⟨l2, hg2⟩ := z.h.1.1.hd
    exact cell_rec hg2 0
  have HC1 := Lib.hid (show ∀ (tz : Nat) (wz : World), F.I tz wz → Calls Try.prog 13 #[ptr bp, .int .u64 (a : Int)] wz fun r w' => (∃ v, r = .returned v ∧ (YldT.is F (.int .i64 ((rightsV V (a / 4096) : Nat) : Int))).R v w' ∧ F.T wz w' ∧ F.I tz w') ∨ (∃ c, r = .panicked c ∧ F.Up (.panic c) w') from fun tz wz hz => by
    refine (rights_mem wz hz.1.2 a HA.out).mono ?_
    rintro r w' ⟨h1, rfl⟩
    exact .inl ⟨_, h1, YldT.is_mk, Moves.refl _ _, hz⟩)
  have HC2 := Lib.hid (show ∀ (tz : Nat) (wz : World), F.I tz wz → Calls Try.prog 45 #[ptr g, .int .u64 (a : Int)] wz fun r w' => (∃ v, r = .returned v ∧ (YldT.is F (.int .i64 ((rightsV V (a / 4096) : Nat) : Int))).R v w' ∧ F.T wz w' ∧ F.I (nxI F.C 8 tz) w') ∨ (∃ c, r = .panicked c ∧ F.Up (.panic c) w') from fun tz wz hz => by
    refine (refRights_is wz hz.1.1 a HA.out HLL.out).mono ?_
    rintro r w' ⟨h1, h2, h3⟩
    rw [HR2.out, ← HE.out] at h1
    have hs : Stirs (pG w1 b) wz w' := h3.sub fun k _ hk => HGD.out k hk
    have hm : Moves b wz w' := h3.sub fun k _ hk => by
      subst hk
      obtain ⟨l2, hg2⟩ := hz.1.1.hd
      exact ⟨hz.1.1.lo, ref_not_op ⟨_, _, _, hg2, .inl rfl⟩⟩
    exact .inl ⟨_, h1, YldT.is_mk, hm, ⟨h2, hz.1.2.stirs hs fun _ hk => pFG hk⟩, hz.2.trans hm⟩)
  have HC3 := Lib.hid (show ∀ (tz : Nat) (wz : World), F.I tz wz → Calls Try.prog 18 #[ptr bp] wz fun r w' => (∃ v, r = .returned v ∧ (YldT.is F (.int .i64 (lm : Int))).R v w' ∧ F.T wz w' ∧ F.I tz w') ∨ (∃ c, r = .panicked c ∧ F.Up (.panic c) w') from fun tz wz hz => by
    refine (count_mem wz hz.1.2).mono ?_
    rintro r w' ⟨h1, rfl⟩
    rw [← HLM.out] at h1
    exact .inl ⟨_, h1, YldT.is_mk, Moves.refl _ _, hz⟩)
  generalize rightsV V (a / 4096) = R at *
  have hRR : ((R : Int) == (R : Int)) = true := by simp
  have hLLL : ((lm : Int) == (lm : Int)) = true := by simp
  refine wp_region_walkT F HF.out 22 [(4, .is F (.int .i64 (R : Int))), (8, .is F (.int .i64 (R : Int))), (12, .is F (.int .i64 (lm : Int)))] (by kernel_rfl) (by kernel_rfl) (by kernel_rfl) ⟨⟨HRI.out, HPM.out⟩, Moves.refl _ _⟩ (fun _ _ _ h => h.elim) ?_
  simp only [List.take_succ_cons, List.take_zero, List.drop_succ_cons, List.drop_zero]
  try go_frame
  iterate 4 (refine walkT_quiet rfl rfl rfl rfl ?_; intro K hK; go_big_quiet_op; go_big_quiet_on)
  refine walkT_is rfl rfl (fun tz wz hph hz _ => WpT.call (run_callL (vals := [_, _]) Try.func13 (by kernel_rfl) rfl rfl) (HC1.out tz wz hz)) ?_
  go_frame
  iterate 3 (refine walkT_quiet rfl rfl rfl rfl ?_; intro K hK; go_big_quiet_op; go_big_quiet_on)
  refine walkT_is rfl rfl (fun tz wz hph hz _ => WpT.call (run_callL (vals := [_, _]) Try.func45 (by kernel_rfl) rfl rfl) (HC2.out tz wz hz)) ?_
  go_frame
  iterate 3 (refine walkT_quiet rfl rfl rfl rfl ?_; intro K hK; go_big_quiet_op; go_big_quiet_on)
  refine walkT_is rfl rfl (fun tz wz hph hz _ => WpT.call (run_callL (vals := [_]) Try.func18 (by kernel_rfl) rfl rfl) (HC3.out tz wz hz)) ?_
  go_frame
  iterate 1 (refine walkT_quiet rfl rfl rfl rfl ?_; intro K hK; go_big_quiet_op; go_big_quiet_on)
  refine walkT_check (by kernel_rfl) rfl rfl rfl ?_
  go_frame
  iterate 7 (refine walkT_quiet rfl rfl rfl rfl ?_; intro K hK; go_big_quiet_op; go_big_quiet_on)
  refine walkT_nil ?_
  intro wz hiz hFz
  have HIZ := Lib.hid hiz
  clear hiz hFz k1 k2
  go_wp2
  go_ret2
  exact ⟨bp, _, _, rfl, duo_mk HIZ.out.1.2 ⟨_, L, HIZ.out.1.1, HR2.out, fun _ h => h⟩, HP.out, HM.out.trans HIZ.out.2, keyOk_refl _⟩
end Go.Proofs.Ytmpelmjhimalpaa
namespace Go.Proofs.Ytmpelmjhimalpaa
open Go.RowKit Go.Fd
set_option maxHeartbeats 4000000 in
set_option maxRecDepth 100000 in
theorem plays_copy {w : World} {b bp g : Nat} {V W : Vw} (h : Duo w b bp g V W) (hp : V.Perm W) (hb : b ≤ w.heap.size) (hL : W.length ≤ 900000) (a n : Nat) (s y : Int) (v : Value) (ha : a < 18446744073709551616) :
    Calls Try.prog 17 #[ptr bp, ptr g, .agg (opC 7 a n s y v)] w fun e w' => PlayPost w b g W e w' := by
  have HB := Lib.hid hb
  have HP := Lib.hid hp
  have HL := Lib.hid (show V.length ≤ 900000 by rw [hp.length_eq]; exact hL)
  have HA := Lib.hid ha
  have H := Lib.hid h
  clear hp hL ha h hb
  go_enter Try.func17, Try.ntmps17
  go_wp2_with (first
    | ((with_reducible show wpList _ _ _ (⟨_, .box _ _, _, _, _, _⟩ :: _) _ _); go_must (refine wpList_box rfl ?_; intro w1 hx1 hb1 hs1; obtain ⟨k0, k1, -, -, -, -⟩ := op_box hx1)))
  have HX := Lib.hid hx1
  have HD := Lib.hid (H.out.below hb1)
  have HM := Lib.hid (show Moves b w w1 from Moves.of_below hb1)
  have HB1 := Lib.hid (show b ≤ w1.heap.size from by have := HB.out; omega)
  clear hx1 hb1 hs1
  obtain ⟨bm, L, h1, h2, h3⟩ := HD.out.mem
  have HPI := Lib.hid h1
  have HVW := Lib.hid h2
  have HC := Lib.hid (copy_is w1 h1 (by have := HL.out; rw [← h2] at this; simp only [vw, List.length_map] at this; omega))
  clear h1 h2 h3
  refine HC.out.mono ?_
  rintro e w2 ⟨bp2, bm2, D, rfl, hD, hpD, hb2⟩
  have HPD := Lib.hid hD
  have HDV := Lib.hid hpD
  have HB2 := Lib.hid hb2
  have HR2 := Lib.hid (HD.out.ref.mono hb2)
  have HM2 := Lib.hid (HD.out.mem.mono hb2)
  have j1 : w2.cell? ⟨w.heap.size, 1, none⟩ = some (.int .u64 (a : Int)) := (op_box (heap_below hb2 HX.out)).2.1
  have HMP := Lib.hid (show Calls Try.prog 32 #[ptr bp, .int .u64 (a : Int), .int .u64 1, .int .i64 6] w2 fun e w' => ∃ z, e = .returned (.int .i64 z) ∧ ∃ V3, Mem w' b bp (more (pF w1 b) w2) V3 ∧ Stirs (pF w1 b) w2 w' from (map_mem w2 HM2.out (Nat.le_trans HB1.out HB2.out.size) (Nat.le_trans HL.out (by decide)) a 1 6 HA.out (by decide)).mono fun r w' ⟨e1, e2, e3⟩ => ⟨_, e1, _, e2, e3⟩)
  clear hD hpD hb2 k0 k1
  go_wp2_with fail
  refine HMP.out.mono ?_
  rintro e w3 ⟨z, rfl, V3, h3, h4⟩
  have HM3 := Lib.hid h3
  have HS3 := Lib.hid h4
  have HX3 := Lib.hid (h4.kept (heap_below HB2.out HX.out) fun hk => hk.2.2.2 ⟨_, _, HX.out⟩)
  have i1 : w3.cell? ⟨w.heap.size, 1, none⟩ = some (.int .u64 (a : Int)) := (op_box HX3.out).2.1
  have HST := Lib.hid (show Calls Try.prog 11 #[ptr bp, .int .u64 (a : Int), .int .i64 1, .int .u64 238] w3 fun e w' => ∃ z, e = .returned (.int .i64 z) ∧ Stirs (more (pF w1 b) w2) w3 w' from (store_mem w3 h3 a HA.out 1 238).mono fun r w' ⟨e1, _, e3⟩ => ⟨_, e1, e3⟩)
  clear h3 h4 j1
  go_wp2_with fail
  refine HST.out.mono ?_
  rintro e w4 ⟨z4, rfl, h5⟩
  have HS4 := Lib.hid h5
  clear h5 i1
  go_wp2
  go_ret2
  have hfd := foot_base HPD.out
  have hd4 : PagesIs w4 w1.heap.size bp2 bm2 D := (HPD.out.stirs HS3.out fun k hk hf => by have := (hfd k hk).1; have := hf.2.1; omega).stirs HS4.out fun k hk hf => by
    have h6 := hfd k hk
    rcases hf with hf | hf
    · have := hf.2.1; omega
    · omega
  have hr4 : RefMem w4 b g (pG w1 b) W := (HR2.out.stirs HS3.out fun _ hk => pGF hk).stirs HS4.out fun k hk hf => by
    rcases hf with hf | hf
    · exact pGF hk hf
    · have := hk.2.1; have := HB2.out.size; omega
  have hm : Stirs (pF w1 b) w1 w4 := ((Stirs.of_below (S := pF w1 b) HB2.out).trans HS3.out fun _ _ h => h).trans HS4.out fun k hk hf => by
    rcases hf with hf | hf
    · exact hf
    · have := HB2.out.size; omega
  exact ⟨bp2, _, _, rfl, ⟨⟨bm2, D, ⟨hd4.hp, hd4.hm, Nat.le_trans HB1.out hd4.bp, Nat.le_trans HB1.out hd4.bm, fun e he => ⟨(hd4.pg e he).1, (hd4.pg e he).2.1, Nat.le_trans HB1.out (hd4.pg e he).2.2.1, (hd4.pg e he).2.2.2⟩, hd4.nd⟩, rfl, fun _ _ => trivial⟩, hr4.weak fun _ _ _ _ => trivial⟩, HDV.out.trans (by rw [HVW.out]; exact HP.out), HM.out.trans (Moves.of_F hm), keyOk_refl _⟩
end Go.Proofs.Ytmpelmjhimalpaa
namespace Go.Proofs.Ytmpelmjhimalpaa
open Go.RowKit Go.Fd
theorem fetchR_len (V : Vw) (a : Nat) (n : Int) : (fetchR V a n).1.length ≤ 1000000000 := by
  unfold fetchR
  split
  · simp
  · rename_i h
    split
    · simp
    · simp only [bytesV_len]
      have := fetchK_le V a n.toNat
      omega
theorem bytesR_len (V : Vw) (a : Nat) (n : Int) : (bytesR V a n).1.length ≤ 1000000000 := by
  unfold bytesR
  split
  · simp
  · split
    · simp only [bytesV_len]
      omega
    · simp
set_option maxHeartbeats 4000000 in
set_option maxRecDepth 100000 in
theorem plays_fetch {w : World} {b bp g : Nat} {V W : Vw} (h : Duo w b bp g V W) (hp : V.Perm W) (hL : W.length ≤ 900000) (a n : Nat) (s y : Int) (v : Value) (ha : a < 18446744073709551616) :
    Calls Try.prog 17 #[ptr bp, ptr g, .agg (opC 4 a n s y v)] w fun e w' => PlayPost w b g W e w' := by
  have HP := Lib.hid hp
  have HE := Lib.hid (fetchR_perm (findV_perm hp (h.nd hp)) a s)
  have HLN := Lib.hid (fetchR_len V a s)
  have HL := Lib.hid (show W.length ≤ 1000000 by omega)
  have HA := Lib.hid ha
  have H := Lib.hid h
  clear hp hL ha h
  go_enter Try.func17, Try.ntmps17
  go_wp2_with (first
    | ((with_reducible show wpList _ _ _ (⟨_, .box _ _, _, _, _, _⟩ :: _) _ _); go_must (refine wpList_box rfl ?_; intro w1 hx1 hb1 hs1; obtain ⟨k0, k1, -, k3, k4, -⟩ := op_box hx1)))
  have HX := Lib.hid hx1
  have HD := Lib.hid (H.out.below hb1)
  have HM := Lib.hid (show Moves b w w1 from Moves.of_below hb1)
  clear hx1 hb1 hs1
  refine (fetch_mem w1 HD.out.mem a HA.out s).mono ?_
  rintro e w2 ⟨v2, rfl, hv2, hb2⟩
  have HV2 := Lib.hid hv2
  have HB2 := Lib.hid hb2
  have HR := Lib.hid (refFetch_any w2 (HD.out.ref.mono hb2) a HA.out s HL.out fun k hk => Nat.lt_of_lt_of_le hk.2.1 hb2.size)
  rw [← HE.out] at HR
  obtain ⟨-, j1, -, j3, j4, -⟩ := op_box (heap_below hb2 HX.out)
  clear HE hv2 hb2 k0 k1 k3 k4
  generalize (fetchR V a s).1 = l at *
  generalize (fetchR V a s).2 = x at *
  have e2 : (x == x) = true := by simp
  go_wp2_with fail
  refine HR.out.mono ?_
  rintro e w3 ⟨v3, rfl, hv3, hr3, hs3⟩
  have HS3 := Lib.hid hs3
  have HR3 := Lib.hid hr3
  have HV23 := Lib.hid (show OB w3 w1.heap.size v2 l from owns_stirs HV2.out hs3 fun k hk hg => by have := ows_ge HV2.out k hk; have := hg.2.1; omega)
  have hk1 := run_str HV23.out.bs
  have hk2 := run_str hv3.bs
  clear hv3 hr3 hs3 j1 j3 j4
  have HSP := Lib.hid (spoil_any l _ v2 w3 HLN.out HV23.out)
  go_wp2_with fail
  refine HSP.out.mono ?_
  rintro e w4 ⟨rfl, hg4⟩
  have HS4 := Lib.hid (show Stirs (fun k => v2.ownBlock = some k) w3 w4 from Stirs.of_grown hg4 fun _ h => h)
  clear hg4 hk1 hk2
  go_wp2
  go_ret2
  have hge := ows_ge HV2.out
  have hm3 : Mem w3 b bp (pF w1 b) V := (HD.out.mem.mono HB2.out).stirs HS3.out fun _ hk => pFG hk
  have hm4 : Mem w4 b bp (pF w1 b) V := hm3.stirs HS4.out fun k hk hv => by have := hge k hv; have := hk.2.1; omega
  have hr4 : RefMem w4 b g (pG w1 b) W := HR3.out.stirs HS4.out fun k hk hv => by have := hge k hv; have := hk.2.1; omega
  have hs : Stirs (pG w1 b) w1 w4 := ((Stirs.of_below (S := pG w1 b) HB2.out).trans HS3.out fun _ _ h => h).trans HS4.out fun k hk hv => by have := hge k hv; omega
  exact ⟨bp, _, _, by simp, duo_mk hm4 hr4, HP.out, HM.out.trans (Moves.of_G hs), keyOk_refl _⟩
set_option maxHeartbeats 4000000 in
set_option maxRecDepth 100000 in
theorem plays_bytes {w : World} {b bp g : Nat} {V W : Vw} (h : Duo w b bp g V W) (hp : V.Perm W) (hL : W.length ≤ 900000) (a n : Nat) (s y : Int) (v : Value) (ha : a < 18446744073709551616) :
    Calls Try.prog 17 #[ptr bp, ptr g, .agg (opC 5 a n s y v)] w fun e w' => PlayPost w b g W e w' := by
  have HP := Lib.hid hp
  have HE := Lib.hid (bytesR_perm (findV_perm hp (h.nd hp)) a y)
  have HLN := Lib.hid (bytesR_len V a y)
  have HL := Lib.hid (show W.length ≤ 1000000 by omega)
  have HA := Lib.hid ha
  have H := Lib.hid h
  clear hp hL ha h
  go_enter Try.func17, Try.ntmps17
  go_wp2_with (first
    | ((with_reducible show wpList _ _ _ (⟨_, .box _ _, _, _, _, _⟩ :: _) _ _); go_must (refine wpList_box rfl ?_; intro w1 hx1 hb1 hs1; obtain ⟨k0, k1, -, k3, k4, -⟩ := op_box hx1)))
  have HX := Lib.hid hx1
  have HD := Lib.hid (H.out.below hb1)
  have HM := Lib.hid (show Moves b w w1 from Moves.of_below hb1)
  clear hx1 hb1 hs1
  refine (bytes_mem w1 HD.out.mem a HA.out y).mono ?_
  rintro e w2 ⟨v2, rfl, hv2, hb2⟩
  have HV2 := Lib.hid hv2
  have HB2 := Lib.hid hb2
  have HR := Lib.hid (refBytes_any w2 (HD.out.ref.mono hb2) a HA.out y HL.out fun k hk => Nat.lt_of_lt_of_le hk.2.1 hb2.size)
  rw [← HE.out] at HR
  obtain ⟨-, j1, -, j3, j4, -⟩ := op_box (heap_below hb2 HX.out)
  clear HE hv2 hb2 k0 k1 k3 k4
  generalize (bytesR V a y).1 = l at *
  generalize (bytesR V a y).2 = x at *
  have e2 : (x == x) = true := by simp
  go_wp2_with fail
  refine HR.out.mono ?_
  rintro e w3 ⟨v3, rfl, hv3, hr3, hs3⟩
  have HS3 := Lib.hid hs3
  have HR3 := Lib.hid hr3
  have HV23 := Lib.hid (show OB w3 w1.heap.size v2 l from owns_stirs HV2.out hs3 fun k hk hg => by have := ows_ge HV2.out k hk; have := hg.2.1; omega)
  have hk1 := run_str HV23.out.bs
  have hk2 := run_str hv3.bs
  clear hv3 hr3 hs3 j1 j3 j4
  have HSP := Lib.hid (spoil_any l _ v2 w3 HLN.out HV23.out)
  go_wp2_with fail
  refine HSP.out.mono ?_
  rintro e w4 ⟨rfl, hg4⟩
  have HS4 := Lib.hid (show Stirs (fun k => v2.ownBlock = some k) w3 w4 from Stirs.of_grown hg4 fun _ h => h)
  clear hg4 hk1 hk2
  go_wp2
  go_ret2
  have hge := ows_ge HV2.out
  have hm3 : Mem w3 b bp (pF w1 b) V := (HD.out.mem.mono HB2.out).stirs HS3.out fun _ hk => pFG hk
  have hm4 : Mem w4 b bp (pF w1 b) V := hm3.stirs HS4.out fun k hk hv => by have := hge k hv; have := hk.2.1; omega
  have hr4 : RefMem w4 b g (pG w1 b) W := HR3.out.stirs HS4.out fun k hk hv => by have := hge k hv; have := hk.2.1; omega
  have hs : Stirs (pG w1 b) w1 w4 := ((Stirs.of_below (S := pG w1 b) HB2.out).trans HS3.out fun _ _ h => h).trans HS4.out fun k hk hv => by have := hge k hv; omega
  exact ⟨bp, _, _, by simp, duo_mk hm4 hr4, HP.out, HM.out.trans (Moves.of_G hs), keyOk_refl _⟩
end Go.Proofs.Ytmpelmjhimalpaa
namespace Go.Proofs.Ytmpelmjhimalpaa
open Go.RowKit Go.Fd
theorem Twined.stirs {w w' : World} {base : Nat} {t : Value} {l : List UInt8} {S : Nat → Prop} (h : Twined w base t l) (hs : Stirs S w w') (hS : ∀ k, base ≤ k → ¬ S k) : Twined w' base t l := by
  obtain ⟨g, cap, h1, h2, h3, h4⟩ := h
  exact ⟨g, cap, h1, h2, h3, owns_stirs h4 hs fun k hk => hS k (ows_ge h4 k hk)⟩
theorem Twined.ge {w : World} {base : Nat} {t : Value} {l : List UInt8} (h : Twined w base t l) : ∀ k, t.ownBlock = some k → base ≤ k := by
  obtain ⟨g, cap, rfl, h2, h3, h4⟩ := h
  intro k hk
  exact ows_ge h4 k (by simpa [Value.ownBlock] using hk)
/-- What a Set may turn. -/
def pS (w : World) (b k : Nat) : Prop := pF w b k ∨ pG w b k
theorem Moves.of_S {b : Nat} {w w1 : World} (h : Stirs (pS w b) w w1) : Moves b w w1 := h.sub fun _ _ hk => by
  rcases hk with hk | hk
  · exact ⟨hk.1, hk.2.2.2⟩
  · exact ⟨hk.1, ref_not_op hk.2.2⟩
set_option maxHeartbeats 4000000 in
set_option maxRecDepth 100000 in
theorem plays_set {w : World} {b bp g : Nat} {V W : Vw} (h : Duo w b bp g V W) (hp : V.Perm W) (hL : W.length ≤ 900000) (a n : Nat) (s y : Int) (v : Value) (l : List UInt8) (hv : Bs w v l) (hl : l.length ≤ 100000) (hvb : l = [] ∨ ∀ k, v.ownBlock = some k → k < b) (ha : a < 18446744073709551616) :
    Calls Try.prog 17 #[ptr bp, ptr g, .agg (opC 1 a n s y v)] w fun e w' => PlayPost w b g W e w' := by
  have HP := Lib.hid (setR_perm hp (h.nd hp) a l)
  have HL := Lib.hid (show W.length ≤ 1000000 by omega)
  have HA := Lib.hid ha
  have HLB := Lib.hid hl
  have HVB := Lib.hid hvb
  have HV := Lib.hid hv
  have H := Lib.hid h
  clear hp hL ha h hl hvb hv
  go_enter Try.func17, Try.ntmps17
  go_wp2_with (first
    | ((with_reducible show wpList _ _ _ (⟨_, .box _ _, _, _, _, _⟩ :: _) _ _); go_must (refine wpList_box rfl ?_; intro w1 hx1 hb1 hs1; obtain ⟨k0, -, -, -, -, k5⟩ := op_box hx1)))
  have HX := Lib.hid hx1
  have HD := Lib.hid (H.out.below hb1)
  have HM := Lib.hid (show Moves b w w1 from Moves.of_below hb1)
  have HV1 := Lib.hid (HV.out.mono hb1)
  clear hx1 hb1 hs1
  refine (twin_any l v w1 (Nat.le_trans HLB.out (by decide)) HV1.out).mono ?_
  rintro e w2 ⟨t, rfl, ht, hb2⟩
  have HT := Lib.hid ht
  have HB2 := Lib.hid hb2
  have HX2 := Lib.hid (heap_below hb2 HX.out)
  have HV2 := Lib.hid (HV1.out.mono hb2)
  have HM2 := Lib.hid (HD.out.mem.mono hb2)
  have HR2 := Lib.hid (HD.out.ref.mono hb2)
  clear ht hb2 k0 k5
  generalize hq : w.heap.size = q at *
  clear hq
  go_wp2
  let F : Ph := ⟨fun t wx => ((t = 0 → Mem wx b bp (pF w1 b) V ∧ RefMem wx b g (pG w1 b) W) ∧ (t = 1 → Mem wx b bp (pF w1 b) (setR V a l).1 ∧ RefMem wx b g (pG w1 b) W) ∧ (t = 2 → Mem wx b bp (pF w1 b) (setR V a l).1 ∧ RefMem wx b g (pG w1 b) (setR W a l).1)) ∧ Stirs (pS w1 b) w2 wx, Stirs (pS w1 b), [5, 11], fun _ _ => False⟩
  have HF : Hid F.Ok := Lib.hid ⟨fun _ _ _ h hb => ⟨⟨fun e => ⟨(h.1.1 e).1.mono hb, (h.1.1 e).2.mono hb⟩, fun e => ⟨(h.1.2.1 e).1.mono hb, (h.1.2.1 e).2.mono hb⟩, fun e => ⟨(h.1.2.2 e).1.mono hb, (h.1.2.2 e).2.mono hb⟩⟩, h.2.thenBelow hb⟩, fun _ _ hb => Stirs.of_below hb⟩
  have HI0 : Hid (F.I 0 w2) := Lib.hid ⟨⟨fun _ => ⟨HM2.out, HR2.out⟩, fun e => absurd e (by decide), fun e => absurd e (by decide)⟩, Stirs.refl _ _⟩
  have hne : Nonempty (In F) := ⟨⟨w2, 0, HI0.out⟩⟩
  have kk : ∀ (z : In F), z.w.heap[q]? = some (.cells (opC 1 a n s y v) 58 (0, 0)) := fun z => z.h.2.kept HX2.out fun hk => by
    rcases hk with hk | hk
    · exact hk.2.2.2 ⟨_, _, HX.out⟩
    · exact ref_not_op hk.2.2 ⟨_, _, HX.out⟩
  have k1 : ∀ (z : In F), z.w.cell? ⟨q, 1, none⟩ = some (.int .u64 (a : Int)) := fun z => (op_box (kk z)).2.1
  have k5 : ∀ (z : In F), z.w.cell? ⟨q, 5, none⟩ = some v := fun z => (op_box (kk z)).2.2.2.2.2
  clear kk
  have HTW := Lib.hid (show ∀ (tz : Nat) (wz : World), F.I tz wz → Twined wz w1.heap.size t l ∧ Bs wz v l from fun tz wz hz => ⟨HT.out.stirs hz.2 fun k hk hs => by
    rcases hs with hs | hs
    · have := hs.2.1; omega
    · have := hs.2.1; omega, Bs.stirsE HV2.out hz.2 (HVB.out.imp id fun hv k hk hs => by
    have h1 := hv k hk
    rcases hs with hs | hs
    · have := hs.1; omega
    · have := hs.1; omega)⟩)
  have HC1 := Lib.hid (show ∀ (tz : Nat) (wz : World), phI F.C 5 tz → F.I tz wz → Calls Try.prog 35 #[ptr bp, .int .u64 (a : Int), t] wz fun r w' => (∃ v, r = .returned v ∧ (YldT.is F (.int .i64 (setR V a l).2)).R v w' ∧ F.T wz w' ∧ F.I (nxI F.C 5 tz) w') ∨ (∃ c, r = .panicked c ∧ F.Up (.panic c) w') from fun tz wz hph hz => by
    obtain rfl := phI0 (by decide) hph
    refine (set_mem wz (hz.1.1 rfl).1 t l (HTW.out 0 wz hz).1.bs (Nat.le_trans HLB.out (by decide)) (fun k hk hf => by have := (HTW.out 0 wz hz).1.ge k hk; have := hf.2.1; omega) a HA.out).mono ?_
    rintro r w' ⟨h1, h2, h3⟩
    exact .inl ⟨_, h1, YldT.is_mk, h3.sub fun _ _ h => .inl h, ⟨fun e => absurd (show (1 : Nat) = 0 from e) (by decide), fun _ => ⟨h2, (hz.1.1 rfl).2.stirs h3 fun _ hk => pGF hk⟩, fun e => absurd (show (1 : Nat) = 2 from e) (by decide)⟩, hz.2.trans h3 fun _ _ h => .inl h⟩)
  have HC2 := Lib.hid (show ∀ (tz : Nat) (wz : World), phI F.C 11 tz → F.I tz wz → Calls Try.prog 36 #[ptr g, .int .u64 (a : Int), v] wz fun r w' => (∃ v, r = .returned v ∧ (YldT.is F (.int .i64 (setR V a l).2)).R v w' ∧ F.T wz w' ∧ F.I (nxI F.C 11 tz) w') ∨ (∃ c, r = .panicked c ∧ F.Up (.panic c) w') from fun tz wz hph hz => by
    obtain rfl := phI1 (by decide) hph
    refine (refSet_any wz (hz.1.2.1 rfl).2 v l (HTW.out 1 wz hz).2 (Nat.le_trans HLB.out (by decide)) (HVB.out.imp id fun hv k hk hf => by have := hv k hk; have := hf.1; omega) a HA.out HL.out).mono ?_
    rintro r w' ⟨h1, h2, h3⟩
    rw [← HP.out.1] at h1
    exact .inl ⟨_, h1, YldT.is_mk, h3.sub fun _ _ h => .inr h, ⟨fun e => absurd (show (2 : Nat) = 0 from e) (by decide), fun e => absurd (show (2 : Nat) = 1 from e) (by decide), fun _ => ⟨(hz.1.2.1 rfl).1.stirs h3 fun _ hk => pFG hk, h2⟩⟩, hz.2.trans h3 fun _ _ h => .inr h⟩)
  have HC3 := Lib.hid (show ∀ (tz : Nat) (wz : World), F.I tz wz → Calls Try.prog 37 #[t, v] wz fun r w' => (∃ v, r = .returned v ∧ (YldT.is F (.bool true)).R v w' ∧ F.T wz w' ∧ F.I tz w') ∨ (∃ c, r = .panicked c ∧ F.Up (.panic c) w') from fun tz wz hz => by
    refine (kept_any l w1.heap.size t v wz (Nat.le_trans HLB.out (by decide)) (HTW.out tz wz hz).1 (HTW.out tz wz hz).2).mono ?_
    rintro r w' ⟨h1, rfl⟩
    exact .inl ⟨_, h1, YldT.is_mk, Stirs.refl _ _, hz⟩)
  generalize hR : (setR V a l).2 = R at *
  clear hR
  have hRR : (R == R) = true := by simp
  refine wp_region_walkT F HF.out 21 [(5, .is F (.int .i64 R)), (11, .is F (.int .i64 R)), (17, .is F (.bool true))] (by kernel_rfl) (by kernel_rfl) (by kernel_rfl) HI0.out (fun _ _ _ h => h.elim) ?_
  simp only [List.take_succ_cons, List.take_zero, List.drop_succ_cons, List.drop_zero]
  try go_frame
  iterate 5 (refine walkT_quiet rfl rfl rfl rfl ?_; intro K hK; go_big_quiet_op; go_big_quiet_on)
  refine walkT_is rfl rfl (fun tz wz hph hz _ => WpT.call (run_callL (vals := [_, _, _]) Try.func35 (by kernel_rfl) rfl rfl) (HC1.out tz wz hph hz)) ?_
  go_frame
  iterate 5 (refine walkT_quiet rfl rfl rfl rfl ?_; intro K hK; go_big_quiet_op; go_big_quiet_on)
  refine walkT_is rfl rfl (fun tz wz hph hz _ => WpT.call (run_callL (vals := [_, _, _]) Try.func36 (by kernel_rfl) rfl rfl) (HC2.out tz wz hph hz)) ?_
  go_frame
  iterate 5 (refine walkT_quiet rfl rfl rfl rfl ?_; intro K hK; go_big_quiet_op; go_big_quiet_on)
  refine walkT_is rfl rfl (fun tz wz hph hz _ => WpT.call (run_callL (vals := [_, _]) Try.func37 (by kernel_rfl) rfl rfl) (HC3.out tz wz hz)) ?_
  go_frame
  iterate 3 (refine walkT_quiet rfl rfl rfl rfl ?_; intro K hK; go_big_quiet_op; go_big_quiet_on)
  refine walkT_nil ?_
  intro wz hiz hFz
  have HIZ := Lib.hid hiz
  clear hiz hFz k1 k5
  go_wp2
  go_ret2
  exact ⟨bp, _, _, rfl, duo_mk (HIZ.out.1.2.2 rfl).1 (HIZ.out.1.2.2 rfl).2, HP.out.2, HM.out.trans (Moves.of_S ((Stirs.of_below (S := pS w1 b) HB2.out).trans HIZ.out.2 fun _ _ h => h)), keyOk_set _ _ _⟩
end Go.Proofs.Ytmpelmjhimalpaa
namespace Go.Proofs.Ytmpelmjhimalpaa
open Go.RowKit Go.Fd
theorem plays_any {w : World} {b bp g : Nat} {V W : Vw} (h : Duo w b bp g V W) (hp : V.Perm W) (hb : b ≤ w.heap.size) (hL : W.length ≤ 900000) (k : Int) (a n : Nat) (s y : Int) (v : Value) (l : List UInt8) (hv : Bs w v l) (hl : l.length ≤ 100000) (hvb : l = [] ∨ ∀ k, v.ownBlock = some k → k < b) (ha : a < 18446744073709551616) (hn : n < 18446744073709551616) :
    Calls Try.prog 17 #[ptr bp, ptr g, .agg (opC k a n s y v)] w fun e w' => PlayPost w b g W e w' := by
  by_cases e0 : k = 0
  · subst e0; exact plays_map h hp hb hL a n s y v ha hn
  by_cases e1 : k = 1
  · subst e1; exact plays_set h hp hL a n s y v l hv hl hvb ha
  by_cases e2 : k = 2
  · subst e2; exact plays_load h hp hL a n s y v ha
  by_cases e3 : k = 3
  · subst e3; exact plays_store h hp hb hL a n s y v ha hn
  by_cases e4 : k = 4
  · subst e4; exact plays_fetch h hp hL a n s y v ha
  by_cases e5 : k = 5
  · subst e5; exact plays_bytes h hp hL a n s y v ha
  by_cases e7 : k = 7
  · subst e7; exact plays_copy h hp hb hL a n s y v ha
  exact plays_rights h hp hL k ⟨by simpa using e0, by simpa using e1, by simpa using e2, by simpa using e3, by simpa using e4, by simpa using e5, by simpa using e7⟩ a n s y v ha
end Go.Proofs.Ytmpelmjhimalpaa
namespace Go.Proofs.Ytmpelmjhimalpaa
open Go.RowKit Go.Fd
theorem map_lit1 : mapR [] 4095 2 6 = ([(0, 6, zs), (1, 6, zs)], 0) := by kernel_rfl
def begV : Vw := (storeR [(0, 6, zs), (1, 6, zs)] 4095 2 258).1
theorem store_lit1 : (storeR [(0, 6, zs), (1, 6, zs)] 4095 2 258).2 = 0 := by decide +kernel
theorem load_lit1 : loadR begV 4095 2 = (258, 0) := by decide +kernel
theorem load_lit2 : loadR begV 8191 2 = (0, 21) := by decide +kernel
theorem begV_len : begV.length = 2 := by decide +kernel
theorem map_lit2 : (mapR begV 0 1 3).2 = 21 := by decide +kernel
set_option maxRecDepth 100000 in
theorem begun_pages (w : World) : Calls Try.prog 15 #[] w fun e w' => e = .returned (.bool true) ∧ Below w.heap.size w w' := by
  go_enter Try.func15, Try.ntmps15
  go_wp2_with fail
  refine (new_mem w).mono ?_
  rintro e w1 ⟨bp, rfl, hm1, hb1⟩
  have HP2 := Lib.hid (map_mem w1 hm1 hb1.size (by decide) 4095 2 6 (by omega) (by omega))
  rw [map_lit1] at HP2
  have HM1 := Lib.hid hm1
  clear hm1
  go_wp2_with fail
  refine HP2.out.mono ?_
  rintro e w2 ⟨rfl, hm2, hs2⟩
  have HP3 := Lib.hid (store_mem w2 hm2 4095 (by omega) 2 258)
  rw [store_lit1] at HP3
  have HM2 := Lib.hid hm2
  clear hm2
  go_wp2_with fail
  refine HP3.out.mono ?_
  rintro e w3 ⟨rfl, hm3, hs3⟩
  have HP4 := Lib.hid (load_mem w3 hm3 4095 (by omega) 2)
  have HP5 := Lib.hid (load_mem w3 hm3 8191 (by omega) 2)
  have HP6 := Lib.hid (count_mem w3 hm3)
  have hs13 := hs2.trans hs3 (fun i hi h => by
    rcases h with h | h
    · exact h
    · omega)
  have hb13 := hb1.trans (hs13.below hb1.size (fun k h => h))
  have HP7 := Lib.hid (map_mem w3 hm3 (Nat.le_trans hb1.size hs13.size) (by rw [show (storeR [(0, 6, zs), (1, 6, zs)] 4095 2 258).1 = begV from rfl, begV_len]; decide) 0 1 3 (by omega) (by omega))
  rw [show (storeR [(0, 6, zs), (1, 6, zs)] 4095 2 258).1 = begV from rfl] at HP4 HP5 HP6 HP7
  rw [load_lit1] at HP4
  rw [load_lit2] at HP5
  rw [begV_len] at HP6
  rw [map_lit2] at HP7
  have HB := Lib.hid hb13
  have HB1 := Lib.hid hb1.size
  clear hm3 hs13 hb13 hs2 hs3 hb1
  go_wp2_with fail
  refine HP4.out.mono ?_
  rintro e w4 ⟨rfl, rfl⟩
  go_wp2_with fail
  refine HP5.out.mono ?_
  rintro e w4 ⟨rfl, rfl⟩
  go_wp2_with fail
  refine HP6.out.mono ?_
  rintro e w4 ⟨rfl, rfl⟩
  go_wp2_with fail
  refine HP7.out.mono ?_
  rintro e w4 ⟨rfl, _, hs4⟩
  go_wp2
  go_ret
  exact ⟨rfl, HB.out.trans (hs4.below HB.out.size (fun k h => by
    rcases h with h | h
    · exact h
    · exact Nat.le_trans HB1.out h))⟩
end Go.Proofs.Ytmpelmjhimalpaa
namespace Go.Proofs.Ytmpelmjhimalpaa
open Go.RowKit Go.Fd
/-- A call. -/
structure OpM where
  k : Int
  a : Nat
  n : Nat
  s : Int
  y : Int
  l : List UInt8
  v : Value
def opL (o : OpM) : List Value := [.int .i64 o.k, .int .u64 (o.a : Int), .int .u64 (o.n : Int), .int .i64 o.s, .int .i64 o.y, o.v]
theorem opL_len (o : OpM) : (opL o).length = 6 := rfl
/-- What holds of a call's bytes and numbers. -/
structure OpOk (w : World) (b : Nat) (o : OpM) : Prop where
  bs : Bs w o.v o.l
  lo : o.l = [] ∨ ∀ k, o.v.ownBlock = some k → k < b
  a : o.a < 18446744073709551616
  n : o.n < 18446744073709551616
theorem OpOk.below {w w' : World} {b : Nat} {o : OpM} (h : OpOk w b o) (hb : Below b w w') (_hs : b ≤ w.heap.size) : OpOk w' b o :=
  ⟨Bs.stirsE h.bs (Stirs.of_belowB (S := fun k => b ≤ k) hb fun _ h => h) (h.lo.imp id fun hv k hk hn => by have := hv k hk; omega), h.lo, h.a, h.n⟩
theorem refIs_nil {w : World} {b g : Nat} (hg : w.heap[g]? = some (.cells #[.slice none 0 0, .int .i64 0] 56 (0, 0))) (hb : b ≤ g) : RefIs w b g (.slice none 0 0) [] :=
  ⟨⟨0, hg⟩, hb, OwR.nil _ _ _ _ _, fun p hp => (List.not_mem_nil hp).elim, fun i j p q _ hi _ => by simp at hi, ⟨by simp, fun x hx => by simp at hx⟩⟩
def opZ : Array Value := #[.int .i64 0, .int .u64 0, .int .u64 0, .int .i64 0, .int .i64 0, .slice none 0 0]
theorem run_allocOp {w : World} : (execOp (fun _ => undef) ⟨none, .alloc 58, 0, "", #[], none⟩).run Try.prog w = .ok (.value (.pointer (some ⟨w.heap.size, 0, none⟩))) (w.alloc (.cells opZ 58)) := by kernel_rfl
theorem wpList_allocOp {ops : Array Oper} {rest : List Oper} {Q : Exit → Act → World → Prop} {a : Act} {w : World} {d : Option Tmp} {ty : TypeId} {pos : String} {aft : Array Edge}
    (h : ∀ w1, w1.heap[w.heap.size]? = some (.cells opZ 58 (0, 0)) → Below w.heap.size w w1 → w.heap.size < w1.heap.size → wpList Try.prog ops Q rest (a.put d (.pointer (some ⟨w.heap.size, 0, none⟩))) w1) :
    wpList Try.prog ops Q (⟨d, .alloc 58, ty, pos, aft, none⟩ :: rest) a w :=
  wpList_val rfl run_allocOp (h (w.alloc (.cells opZ 58)) (heap_alloc_last w _) (below_alloc w _) (by rw [World.size_alloc]; omega))
set_option maxHeartbeats 4000000 in
set_option maxRecDepth 100000 in
theorem pagesAll_any (w : World) (v : Value) (ops : List OpM) (hv : RdR 6 opL w v ops) (ho : ∀ o ∈ ops, OpOk w w.heap.size o) :
    Calls Try.prog 5 #[v] w fun e w' => e = .returned (.bool true) ∧ Below w.heap.size w w' := by
  have HV := Lib.hid hv
  have HO := Lib.hid ho
  obtain ⟨m, a, cap, hm, rfl, -, -⟩ := hv.shape
  have HM := Lib.hid hm.out
  clear hv ho hm
  go_enter Try.func5, Try.ntmps5
  go_wp2_with fail
  refine (begun_pages _).mono ?_
  rintro e w1 ⟨rfl, hb1⟩
  have HB1 := Lib.hid hb1
  clear hb1
  go_wp2_with fail
  refine (new_mem _).mono ?_
  rintro e w2 ⟨bp, rfl, hm2, hb2⟩
  have HP2 := Lib.hid hm2
  have HB2 := Lib.hid hb2
  clear hm2 hb2
  go_wp2_with (first
    | ((with_reducible show wpList _ _ _ (⟨_, .box _ _, _, _, _, _⟩ :: _) _ _); go_must (refine wpList_box rfl ?_; intro w3 hx3 hb3 hs3)))
  have HR3 := Lib.hid (refIs_nil (b := w.heap.size) hx3 (Nat.le_trans HB1.out.size HB2.out.size))
  have HB3 := Lib.hid (show Below w.heap.size w w3 from HB1.out.trans ((HB2.out.trans (hb3.mono HB2.out.size)).mono HB1.out.size))
  have HS3 := Lib.hid hs3
  have HD3 := Lib.hid (show Duo w3 w.heap.size bp w2.heap.size [] [] from by
    obtain ⟨bm, L, h1, h2, -⟩ := HP2.out.mono hb3
    exact ⟨⟨bm, L, ⟨h1.hp, h1.hm, Nat.le_trans HB1.out.size h1.bp, Nat.le_trans HB1.out.size h1.bm, fun e he => ⟨(h1.pg e he).1, (h1.pg e he).2.1, Nat.le_trans HB1.out.size (h1.pg e he).2.2.1, (h1.pg e he).2.2.2⟩, h1.nd⟩, h2, fun _ _ => trivial⟩, ⟨_, [], HR3.out, rfl, fun _ _ => trivial⟩⟩)
  clear hx3 hb3 hs3 HP2 HR3 HB1 HB2
  go_loopw [3, 5] (fun pv iv wr => ∃ (bp : Nat) (V W : Vw) (i : Nat), pv = ptr bp ∧ iv = .int .i64 (i : Int) ∧ i ≤ m ∧ Hid (Duo wr w.heap.size bp w2.heap.size V W) ∧ Hid (V.Perm W) ∧ Hid (W.length ≤ 200) ∧ Hid (∀ x ∈ W, x.1 < 4503599627370496) ∧ Hid (Below w.heap.size w wr)) (fun _ iv _ => m - (intOf iv).toNat)
  case atStart => exact ⟨bp, [], [], 0, rfl, rfl, Nat.zero_le _, HD3, Lib.hid (List.Perm.refl _), Lib.hid (by decide), Lib.hid (by simp), HB3⟩
  case round =>
    obtain ⟨bp, V, W, i, rfl, rfl, hi, HD, HPE, HLE, HKW, HB⟩ := hrel
    have HS := Lib.hid HB.out.size
    by_cases him : i < m ∧ i < 150
    · obtain ⟨him, hi5⟩ := him
      obtain ⟨o, ho⟩ : ∃ o, ops[i]? = some o := ⟨_, List.getElem?_eq_getElem (by have := HM.out; omega)⟩
      obtain ⟨k, A, N, s, y, l, ov⟩ := o
      have HOK := Lib.hid ((HO.out _ (List.mem_of_getElem? ho)).below HB.out (Nat.le_refl _))
      have hbs : Bs wr ov l := HOK.out.bs
      obtain ⟨lm, la, lc, hlm, rfl, -, -⟩ := hbs.shape
      have HLM := Lib.hid hlm.out
      clear hbs hlm
      obtain ⟨a', cap', e1, -, -, hc⟩ := (HV.out.mono HB.out).open opL_len
      simp only [Value.slice.injEq] at e1
      obtain ⟨rfl, -, -⟩ := e1
      obtain ⟨b0, off, rfl, cc⟩ := hc i _ ho (by decide)
      have c0 : wr.cell? ⟨b0, off + (i * 6 + 0), none⟩ = some (.int .i64 k) := cc 0 (by decide)
      have c1 : wr.cell? ⟨b0, off + (i * 6 + 1), none⟩ = some (.int .u64 (A : Int)) := cc 1 (by decide)
      have c2 : wr.cell? ⟨b0, off + (i * 6 + 2), none⟩ = some (.int .u64 (N : Int)) := cc 2 (by decide)
      have c3 : wr.cell? ⟨b0, off + (i * 6 + 3), none⟩ = some (.int .i64 s) := cc 3 (by decide)
      have c4 : wr.cell? ⟨b0, off + (i * 6 + 4), none⟩ = some (.int .i64 y) := cc 4 (by decide)
      have c5 : wr.cell? ⟨b0, off + (i * 6 + 5), none⟩ = some (.slice la lm lc) := cc 5 (by decide)
      simp only [Nat.add_zero, ← Nat.add_assoc] at c0 c1 c2 c3 c4 c5
      clear cc hc ho
      have d1 : decide (i < m) = true := decide_eq_true him
      have d2 : decide ((i : Int) < (m : Int)) = true := by simp; exact him
      have d3 : decide (i < 150) = true := decide_eq_true hi5
      have d4 : decide ((i : Int) < 150) = true := by simp; omega
      by_cases g1 : 8192 < lm
      case' pos =>
        have g2 : decide ((lm : Int) > 8192) = true := by simp; omega
        have g3 : decide ((8192 : Int) < (lm : Int)) = true := by simp; omega
        have g4 : decide (8192 < lm) = true := decide_eq_true g1
      all_goals
        go_wp2_with (first
          | ((with_reducible show wpList _ _ _ (⟨some 6, .alloc _, _, _, _, _⟩ :: _) _ _); go_must (refine wpList_allocOp ?_; intro w4 hx4 hb4 hs4))
          | ((with_reducible show wpList _ _ _ (⟨none, .store _ _ _, _, _, _, _⟩ :: _) _ _); go_must (refine wpList_storeMade hx4 rfl rfl (by kernel_rfl) rfl (by first | kernel_rfl | simp [Value.oneCell']) (Nat.le_refl _) (Nat.le_of_lt hs4) ?_; intro w5 hx5 hb5; have hx6 : w5.heap[wr.heap.size]? = some (.cells (opC k A N s y (.slice la lm lc)) 58 (0, 0)) := hx5; obtain ⟨x0, x1, x2, x3, x4, x5⟩ := op_box hx6; have HB5 := Lib.hid (show Below w.heap.size w w5 from HB.out.trans ((hb4.trans hb5).mono HS.out)); have HD5 := Lib.hid (HD.out.below (hb4.trans hb5))))
          | (go_at_call 17; go_must (refine (plays_any HD5.out HPE.out HB5.out.size (Nat.le_trans HLE.out (by decide)) _ A N s y (.slice la lm lc) l (HOK.out.bs.mono (hb4.trans hb5)) (by have := HLM.out; omega) HOK.out.lo HOK.out.a HOK.out.n).mono ?_; rintro e w6 ⟨bp6, V6, W6, rfl, hd6, hp6, hm6, hk6⟩; have HK6 := Lib.hid (show ∀ x ∈ W6, x.1 < 4503599627370496 from fun x hx => (hk6 x hx).elim id fun h => by obtain ⟨y, hy, e⟩ := List.mem_map.1 h; have := HKW.out y hy; omega); clear hk6; have HD6 := Lib.hid hd6; have HP6 := Lib.hid hp6; have HB6 := Lib.hid (HB5.out.trans (hm6.below HB5.out.size)); obtain ⟨lv6, L6, r1, r2, -⟩ := hd6.2; obtain ⟨pm, pa, pc, hpm, rfl, -, -⟩ := r1.own.shape; have HPM := Lib.hid (show pm = W6.length by rw [← r2, List.length_map]; exact hpm.out); obtain ⟨last6, hg6⟩ := r1.hd; have y0 : w6.cell? ⟨w2.heap.size, 0, none⟩ = some (.slice pa pm pc) := cell_rec hg6 0; clear hd6 hp6 hm6 r1 r2 hpm hg6)))
        all_goals first
          | (go_ret; exact ⟨rfl, HB6.out⟩)
          | exact ⟨⟨bp6, V6, W6, i + 1, rfl, congrArg (Value.int .i64) (Int.natCast_succ i).symm, him, HD6, HP6, Lib.hid (by have := HPM.out; omega), HK6, HB6⟩, by simp only [intOf]; omega⟩
          | exact ⟨⟨bp, V, W, i + 1, rfl, congrArg (Value.int .i64) (Int.natCast_succ i).symm, him, HD5, HPE, HLE, HKW, HB5⟩, by simp only [intOf]; omega⟩
    · by_cases him2 : i < m
      · have d1 : decide (i < m) = true := decide_eq_true him2
        have d2 : decide ((i : Int) < (m : Int)) = true := by simp; exact him2
        have d3 : decide (i < 150) = false := decide_eq_false (by omega)
        have d4 : decide ((i : Int) < 150) = false := by simp; omega
        obtain ⟨lv, L, r1, r2, -⟩ := HD.out.ref
        obtain ⟨pm, pa, pc, hpm, rfl, -, -⟩ := r1.own.shape
        have HPM := Lib.hid hpm.out
        have HRI := Lib.hid r1
        have HR2 := Lib.hid r2
        have HVL := Lib.hid (show V.length = pm by rw [HPE.out.length_eq, ← r2, List.length_map]; exact hpm.out.symm)
        have HFP := Lib.hid (fun k => rightsV_perm (findV_perm HPE.out (HD.out.nd HPE.out)) k)
        have HMM := Lib.hid HD.out.mem
        have hp5 : pm ≤ 200 := by have h1 := hpm.out; have h2 := HLE.out; rw [← r2, List.length_map] at h2; omega
        clear r1 r2 hpm
        go_wp2
        go_loopw [9] (fun iv wx => ∃ j : Nat, iv = .int .i64 (j : Int) ∧ j ≤ pm ∧ Hid (Below wr.heap.size wr wx)) (fun iv _ => pm - (intOf iv).toNat)
        case atStart => exact ⟨0, rfl, Nat.zero_le _, Lib.hid (Below.refl _ _)⟩
        case round =>
          obtain ⟨j, rfl, hj, HBx⟩ := hrel
          have HBR := Lib.hid (HB.out.trans (HBx.out.mono HS.out))
          have HMQ := Lib.hid (HMM.out.mono HBx.out)
          obtain ⟨last, hg⟩ := HRI.out.hd
          have c0 := cell_rec (heap_below HBx.out hg) 0
          simp only [List.getElem?_toArray, List.getElem?_cons_zero] at c0
          clear hg
          by_cases hjm : j < pm
          · have d9 : decide (j < pm) = true := decide_eq_true hjm
            have d8 : decide ((j : Int) < (pm : Int)) = true := by simp; exact hjm
            obtain ⟨⟨⟨pn, pr, pl⟩, pv⟩, hp⟩ : ∃ p, L[j]? = some p := ⟨_, List.getElem?_eq_getElem (by have := HPM.out; omega)⟩
            obtain ⟨b1, o1, ha1, v0, v1, -⟩ := pg_cells (HRI.out.own.rd.mono HBx.out) hp
            subst ha1
            have hfind := findV_at HRI.out.ok.nd (show (L.map (·.1))[j]? = some (pn, pr, pl) by rw [List.getElem?_map, hp]; rfl) rfl
            have hkn : pn < 4503599627370496 := HKW.out (pn, pr, pl) (by rw [← HR2.out]; exact List.mem_map.2 ⟨_, List.mem_of_getElem? hp, rfl⟩)
            have hpr : pr < 8 := (HRI.out.ok.pg (pn, pr, pl) (List.mem_map.2 ⟨_, List.mem_of_getElem? hp, rfl⟩)).2.1
            have HQ := Lib.hid (fun n => rights_mem (wr.drewN n) (HMQ.out.mono (below_drewN (Below.refl _ _) n)) (pn * 4096 + 5) (by omega))
            have hq : rightsV V ((pn * 4096 + 5) / 4096) = pr := by
              rw [show (pn * 4096 + 5) / 4096 = pn by omega, HFP.out, ← HR2.out]
              unfold rightsV
              rw [hfind]
            rw [hq, show ((pn * 4096 + 5 : Nat) : Int) = (pn : Int) * 4096 + 5 by omega] at HQ
            have HQ2 := Lib.hid (fun n => (HQ.out n).mono fun e w' ⟨h1, h2⟩ => (⟨h1, h2.symm⟩ : e = _ ∧ w' = wr.drewN n))
            have hne : ((pr : Int) != (pr : Int)) = false := by simp
            clear hp hfind HQ hq
            go_wp2
            go_quiet ((go_at_call 13; exact Calls.quiet_of_same (HQ2.out _)))
            have HBY := Lib.hid (HBx.out.trans ((below_drewN (Below.refl wr.heap.size wr) nq).mono HBx.out.size))
            clear c0 v0 v1
            go_wp2
            go_roundw
            case rel => exact ⟨j + 1, by go_num, by omega, HBY⟩
            case measure => simp [intOf] <;> omega
          · obtain rfl : j = pm := by omega
            have HQ2 := Lib.hid (fun n => (count_mem (wr.drewN n) (HMQ.out.mono (below_drewN (Below.refl _ _) n))).mono fun e w' ⟨h1, h2⟩ => (⟨h1, h2.symm⟩ : e = _ ∧ w' = wr.drewN n))
            rw [HVL.out] at HQ2
            go_wp2
            go_quiet ((go_at_call 18; exact Calls.quiet_of_same (HQ2.out _)))
            have HBY := Lib.hid (HBR.out.trans ((below_drewN (Below.refl wr.heap.size wr) nq).mono HBR.out.size))
            clear c0
            go_wp2
            go_ret
            exact ⟨by simp, HBY.out⟩
      · have d1 : decide (i < m) = false := decide_eq_false him2
        have d2 : decide ((i : Int) < (m : Int)) = false := by simp; omega
        obtain ⟨lv, L, r1, r2, -⟩ := HD.out.ref
        obtain ⟨pm, pa, pc, hpm, rfl, -, -⟩ := r1.own.shape
        have HPM := Lib.hid hpm.out
        have HRI := Lib.hid r1
        have HR2 := Lib.hid r2
        have HVL := Lib.hid (show V.length = pm by rw [HPE.out.length_eq, ← r2, List.length_map]; exact hpm.out.symm)
        have HFP := Lib.hid (fun k => rightsV_perm (findV_perm HPE.out (HD.out.nd HPE.out)) k)
        have HMM := Lib.hid HD.out.mem
        have hp5 : pm ≤ 200 := by have h1 := hpm.out; have h2 := HLE.out; rw [← r2, List.length_map] at h2; omega
        clear r1 r2 hpm
        go_wp2
        go_loopw [9] (fun iv wx => ∃ j : Nat, iv = .int .i64 (j : Int) ∧ j ≤ pm ∧ Hid (Below wr.heap.size wr wx)) (fun iv _ => pm - (intOf iv).toNat)
        case atStart => exact ⟨0, rfl, Nat.zero_le _, Lib.hid (Below.refl _ _)⟩
        case round =>
          obtain ⟨j, rfl, hj, HBx⟩ := hrel
          have HBR := Lib.hid (HB.out.trans (HBx.out.mono HS.out))
          have HMQ := Lib.hid (HMM.out.mono HBx.out)
          obtain ⟨last, hg⟩ := HRI.out.hd
          have c0 := cell_rec (heap_below HBx.out hg) 0
          simp only [List.getElem?_toArray, List.getElem?_cons_zero] at c0
          clear hg
          by_cases hjm : j < pm
          · have d9 : decide (j < pm) = true := decide_eq_true hjm
            have d8 : decide ((j : Int) < (pm : Int)) = true := by simp; exact hjm
            obtain ⟨⟨⟨pn, pr, pl⟩, pv⟩, hp⟩ : ∃ p, L[j]? = some p := ⟨_, List.getElem?_eq_getElem (by have := HPM.out; omega)⟩
            obtain ⟨b1, o1, ha1, v0, v1, -⟩ := pg_cells (HRI.out.own.rd.mono HBx.out) hp
            subst ha1
            have hfind := findV_at HRI.out.ok.nd (show (L.map (·.1))[j]? = some (pn, pr, pl) by rw [List.getElem?_map, hp]; rfl) rfl
            have hkn : pn < 4503599627370496 := HKW.out (pn, pr, pl) (by rw [← HR2.out]; exact List.mem_map.2 ⟨_, List.mem_of_getElem? hp, rfl⟩)
            have hpr : pr < 8 := (HRI.out.ok.pg (pn, pr, pl) (List.mem_map.2 ⟨_, List.mem_of_getElem? hp, rfl⟩)).2.1
            have HQ := Lib.hid (fun n => rights_mem (wr.drewN n) (HMQ.out.mono (below_drewN (Below.refl _ _) n)) (pn * 4096 + 5) (by omega))
            have hq : rightsV V ((pn * 4096 + 5) / 4096) = pr := by
              rw [show (pn * 4096 + 5) / 4096 = pn by omega, HFP.out, ← HR2.out]
              unfold rightsV
              rw [hfind]
            rw [hq, show ((pn * 4096 + 5 : Nat) : Int) = (pn : Int) * 4096 + 5 by omega] at HQ
            have HQ2 := Lib.hid (fun n => (HQ.out n).mono fun e w' ⟨h1, h2⟩ => (⟨h1, h2.symm⟩ : e = _ ∧ w' = wr.drewN n))
            have hne : ((pr : Int) != (pr : Int)) = false := by simp
            clear hp hfind HQ hq
            go_wp2
            go_quiet ((go_at_call 13; exact Calls.quiet_of_same (HQ2.out _)))
            have HBY := Lib.hid (HBx.out.trans ((below_drewN (Below.refl wr.heap.size wr) nq).mono HBx.out.size))
            clear c0 v0 v1
            go_wp2
            go_roundw
            case rel => exact ⟨j + 1, by go_num, by omega, HBY⟩
            case measure => simp [intOf] <;> omega
          · obtain rfl : j = pm := by omega
            have HQ2 := Lib.hid (fun n => (count_mem (wr.drewN n) (HMQ.out.mono (below_drewN (Below.refl _ _) n))).mono fun e w' ⟨h1, h2⟩ => (⟨h1, h2.symm⟩ : e = _ ∧ w' = wr.drewN n))
            rw [HVL.out] at HQ2
            go_wp2
            go_quiet ((go_at_call 18; exact Calls.quiet_of_same (HQ2.out _)))
            have HBY := Lib.hid (HBR.out.trans ((below_drewN (Below.refl wr.heap.size wr) nq).mono HBR.out.size))
            clear c0
            go_wp2
            go_ret
            exact ⟨by simp, HBY.out⟩
end Go.Proofs.Ytmpelmjhimalpaa
namespace Go.Proofs.Ytmpelmjhimalpaa
open Go.ChangeShapes Go.WideShapes Go.ChangeAt Go.RowKit Go.Fd
theorem Try.own : ownKnob Try.prog.godebug = none := by kernel_rfl
theorem Try.laidOut : laidOutB Try.prog = true := by kernel_rfl
/-- All arguments read behind the call as they read before it. -/
theorem belowAll {H : Type} {enc : TypeId × Value → H} {W W' : World} (hb : Below W.heap.size W W') : ∀ {ts : List TypeId} {vs : List Value} {ds : List (DataW H)} {ps : List MemPlace},
    DataW.TrodAll enc Try.prog W 0 (fun _ => true) true ts vs ds ps → (∀ x ∈ ps, x.block < W.heap.size) → (∀ t ∈ ts, Try.prog.readableRec t = true ∧ t < Try.prog.types.size) →
    DataW.TrodAll enc Try.prog W' 0 (fun b => decide (b < W.heap.size)) true ts vs ds ps
  | [], vs, ds, ps, h, _, _ => by obtain ⟨rfl, rfl, rfl⟩ := trodAll_nil h; exact trodAll_mk0
  | t :: ts, vs, ds, ps, h, hlt, ht => by
    obtain ⟨v, vs', d, ds', p, q, rfl, rfl, rfl, h0, h1⟩ := trodAll_cons h
    exact trodAll_cons_mk (Below.trod Try.laidOut (ht t (by simp)).1 (ht t (by simp)).2 h0 hb fun x hx => hlt x (by simp [hx]))
      (belowAll hb h1 (fun x hx => hlt x (by simp [hx])) fun u hu => ht u (by simp [hu]))
/-- The same, the types asked as one closed fact. -/
theorem belowAllB {H : Type} {enc : TypeId × Value → H} {W W' : World} {ts : List TypeId} (ht : (ts.all fun t => Try.prog.readableRec t && decide (t < Try.prog.types.size)) = true) (hb : Below W.heap.size W W') {vs : List Value} {ds : List (DataW H)} {ps : List MemPlace}
    (h : DataW.TrodAll enc Try.prog W 0 (fun _ => true) true ts vs ds ps) (hlt : ∀ x ∈ ps, x.block < W.heap.size) : DataW.TrodAll enc Try.prog W' 0 (fun b => decide (b < W.heap.size)) true ts vs ds ps :=
  belowAll hb h hlt fun t htm => by
    have := List.all_eq_true.1 ht t htm
    simp only [Bool.and_eq_true, decide_eq_true_eq] at this
    exact this
theorem wf_u64 {x : Int} (h : (Lit.int .u64 x).wf = true) : 0 ≤ x ∧ x < 18446744073709551616 := by
  simp [Lit.wf, IntKind.min, IntKind.max, IntKind.signed, IntKind.bits] at h
  exact ⟨by omega, by omega⟩
theorem len_6 {α : Type} : ∀ {l : List α}, l.length = 6 → ∃ a0 a1 a2 a3 a4 a5, l = [a0, a1, a2, a3, a4, a5]
  | [a0, a1, a2, a3, a4, a5], _ => ⟨a0, a1, a2, a3, a4, a5, rfl⟩
end Go.Proofs.Ytmpelmjhimalpaa
namespace Go.Fd
end Go.Fd
namespace Go.Proofs.Ytmpelmjhimalpaa
open Go.ChangeMaps Go.ChangeShapes Go.WideShapes Go.ChangeAt Go.RowKit Go.Fd
set_option maxRecDepth 100000 in
/-- A slice of records, as it is read. -/
theorem reads_recs {H : Type} {enc : TypeId × Value → H} {W : World} {base : Nat} {v : Value} {d : DataW H} {p : List MemPlace} {α : Type} {k : Nat} {ec : α → List Value} {good : α → Prop} {t e : TypeId}
    (ht : Try.prog.underlying t = some (.slice e)) (hc : Try.prog.cellsOf e = k) (hk0 : 0 < k) (hlen : ∀ x, (ec x).length = k)
    (hstep : ∀ n cs y, DataW.trod enc Try.prog W 0 (fun _ => true) true n e cs = some y → cs.length = k → ∃ x, cs = ec x ∧ good x)
    (hv : Value.okWide Try.prog W .any base t v) (h : DataW.Trod enc Try.prog W 0 (fun _ => true) true t v d p) : ∃ l : List α, RdR k ec W v l ∧ ∀ x ∈ l, good x := by
  obtain ⟨a0, len, cap, rfl⟩ := okWide_slice ht hv
  obtain ⟨fuel, hf⟩ := h
  rcases Go.Deep.open_slice ht hf with ⟨hcs, hx⟩ | ⟨a, len', cap', m, n, D, Pl, hcs, _, hl, hm, hmm, _, hel⟩
  · simp [Value.cells] at hcs
    obtain ⟨rfl, rfl, rfl⟩ := hcs
    exact ⟨[], RdR.nil k ec W, fun x hx => by cases hx⟩
  · simp [Value.cells] at hcs
    obtain ⟨rfl, rfl, rfl⟩ := hcs
    simp only [hc] at hel
    have hall : ∀ n', n' ≤ len → ∃ l : List α, l.length = n' ∧ ∀ i x, l[i]? = some x → good x ∧ ∀ c, c < k → W.cell? (a.add (i * k + c)) = (ec x)[c]? := by
      intro n'
      induction n' with
      | zero => exact fun _ => ⟨[], rfl, fun i x h => by simp at h⟩
      | succ n' ih =>
        intro hn
        obtain ⟨l, h1, h2⟩ := ih (by omega)
        obtain ⟨cs', h3, h4⟩ := hel n' (by simp at hmm; omega)
        obtain ⟨-, h5, h6⟩ := World.cells?_some h3
        obtain ⟨x, rfl, hg⟩ := hstep _ _ _ h4 h5
        refine ⟨l ++ [x], by simp [h1], fun i y hi => ?_⟩
        rcases Nat.lt_or_ge i n' with hlt | hge
        · rw [List.getElem?_append_left (by omega)] at hi
          exact h2 i y hi
        · rw [List.getElem?_append_right (by omega)] at hi
          have hi0 : i - l.length = 0 := by
            have := (List.getElem?_eq_some_iff.1 hi).1
            simp at this
            omega
          rw [hi0] at hi
          cases hi
          obtain rfl : i = n' := by omega
          refine ⟨hg, fun c hc => ?_⟩
          have := h6 c hc
          rwa [Go.Deep.add_add] at this
    obtain ⟨l, h1, h2⟩ := hall len (Nat.le_refl _)
    refine ⟨l, ⟨by rw [flat_len hlen], some a, cap, by rw [h1], by omega, (fun h => by cases h), fun j hj => ?_⟩, fun x hx => ?_⟩
    · rw [flat_len hlen] at hj
      have hjk : j = j / k * k + j % k := by rw [Nat.mul_comm]; exact (Nat.div_add_mod j k).symm
      have hi : j / k < l.length := (Nat.div_lt_iff_lt_mul hk0).2 hj
      have hx : l[j / k]? = some l[j / k] := List.getElem?_eq_getElem hi
      have h3 := (h2 _ _ hx).2 (j % k) (Nat.mod_lt _ hk0)
      rw [← hjk] at h3
      have h4 := flat_get hlen l (j / k) (j % k) _ hx (Nat.mod_lt _ hk0)
      rw [← hjk] at h4
      obtain ⟨b, off, spot⟩ := a
      have hspot : spot = none := by
        have hl0 : 0 < l.length := Nat.lt_of_le_of_lt (Nat.zero_le _) hi
        have hx0 : l[0]? = some (l[0]'hl0) := List.getElem?_eq_getElem _
        have h0 := (h2 0 _ hx0).2 0 hk0
        have h5 : (ec (l[0]'hl0))[0]? = some ((ec (l[0]'hl0))[0]'(by rw [hlen]; exact hk0)) := List.getElem?_eq_getElem _
        rw [h5, Nat.zero_mul, Nat.zero_add] at h0
        simpa [Addr.add] using World.cell?_spot h0
      subst hspot
      refine ⟨b, off, rfl, ?_⟩
      rw [add_plain] at h3
      rw [h3, h4]
    · obtain ⟨i, hi⟩ := List.mem_iff_getElem?.1 hx
      exact (h2 i x hi).1
/-- A struct of cells, each field of one cell: how each reads. -/
theorem cells_struct {H : Type} {enc : TypeId × Value → H} {P : Program} {w : World} {base : Nat} {spare : Nat → Bool} {held : Bool} {t : TypeId} {fs : Array Field} {cs : List Value} {fuel : Nat} {y : DataW H × List MemPlace}
    (hs : P.underlying t = some (.struct fs)) (hone : Go.Deep.oneCellFields P fs = true) (hC : cs.length = fs.size) (h : DataW.trod enc P w base spare held fuel t cs = some y) :
    ∃ n, ∀ (j : Nat) (f : Field), fs[j]? = some f → ∃ x y, cs[j]? = some x ∧ DataW.trod enc P w base spare held n f.type [x] = some y := by
  obtain ⟨xs, n, _, hx, _, hlen, hg⟩ := DataW.trod_struct hs h
  refine ⟨n, fun j f hj => ?_⟩
  obtain ⟨o, k⟩ := Go.Deep.hone_of hone j f hj
  have hjl : j < fs.size := (Array.getElem?_eq_some_iff.1 hj).1
  have hcl : j < cs.length := by omega
  have h1 := hg j f hj
  rw [o, k] at h1
  have h2 : (List.drop j cs).take 1 = [cs[j]] := by
    rw [List.drop_eq_getElem_cons hcl]
    rfl
  rw [h2] at h1
  exact ⟨_, xs[j]'(by omega), List.getElem?_eq_getElem hcl, h1.trans (List.getElem?_eq_getElem _)⟩
end Go.Proofs.Ytmpelmjhimalpaa
namespace Go.Proofs.Ytmpelmjhimalpaa
open Go.ChangeMaps Go.ChangeShapes Go.WideShapes Go.ChangeAt Go.RowKit Go.Fd
section
variable {H : Type}
theorem bulkAll_append (xs ys : List (DataW H)) : Rows.uptoBulkAll (xs ++ ys) = Rows.uptoBulkAll xs + Rows.uptoBulkAll ys := by
  induction xs with
  | nil => simp [Rows.uptoBulkAll]
  | cons x xs ih => rw [List.cons_append, Rows.uptoBulkAll, Rows.uptoBulkAll, ih]; omega
end
set_option maxRecDepth 100000 in
/-- A slice of records, as it is read, with a measure of each. -/
theorem trod_recs {H : Type} {enc : TypeId × Value → H} {W : World} {v : Value} {y : DataW H × List MemPlace} {fuel : Nat} {α : Type} {k : Nat} {ec : α → List Value} {good : α → Prop} {μ : α → Nat} {t e : TypeId}
    (ht : Try.prog.underlying t = some (.slice e)) (hc : Try.prog.cellsOf e = k) (hk0 : 0 < k) (hlen : ∀ x, (ec x).length = k)
    (hstep : ∀ n cs y, DataW.trod enc Try.prog W 0 (fun _ => true) true n e cs = some y → cs.length = k → ∃ x, cs = ec x ∧ good x ∧ μ x ≤ Rows.uptoBulk y.1)
    (h : DataW.trod enc Try.prog W 0 (fun _ => true) true fuel t [v] = some y) : ∃ l : List α, RdR k ec W v l ∧ (∀ x ∈ l, good x) ∧ (l.map μ).sum + 1 ≤ Rows.uptoBulk y.1 := by
  rcases Go.Deep.open_slice ht h with ⟨hcs, hx⟩ | ⟨a, len, cap, m, n, D, Pl, hcs, _, hl, hm, hmm, hd, hel⟩
  · simp at hcs
    subst hcs hx
    exact ⟨[], RdR.nil k ec W, (fun x hx => by cases hx), by simp [Rows.uptoBulk]⟩
  · simp at hcs
    subst hcs hd
    simp only [hc] at hel
    have hall : ∀ n', n' ≤ len → ∃ l : List α, l.length = n' ∧ (l.map μ).sum ≤ Rows.uptoBulkAll ((List.range n').map D) ∧ ∀ i x, l[i]? = some x → good x ∧ ∀ c, c < k → W.cell? (a.add (i * k + c)) = (ec x)[c]? := by
      intro n'
      induction n' with
      | zero => exact fun _ => ⟨[], rfl, by simp, fun i x h => by simp at h⟩
      | succ n' ih =>
        intro hn
        obtain ⟨l, h1, hs, h2⟩ := ih (by omega)
        obtain ⟨cs', h3, h4⟩ := hel n' (by simp at hmm; omega)
        obtain ⟨-, h5, h6⟩ := World.cells?_some h3
        obtain ⟨x, rfl, hg, hμ⟩ := hstep _ _ _ h4 h5
        dsimp only at hμ
        refine ⟨l ++ [x], by simp [h1], ?_, fun i y hi => ?_⟩
        · rw [List.range_succ, List.map_append, List.map_append, List.sum_append, bulkAll_append]
          simp [Rows.uptoBulkAll]
          omega
        · rcases Nat.lt_or_ge i n' with hlt | hge
          · rw [List.getElem?_append_left (by omega)] at hi
            exact h2 i y hi
          · rw [List.getElem?_append_right (by omega)] at hi
            have hi0 : i - l.length = 0 := by
              have := (List.getElem?_eq_some_iff.1 hi).1
              simp at this
              omega
            rw [hi0] at hi
            cases hi
            obtain rfl : i = n' := by omega
            refine ⟨hg, fun c hc => ?_⟩
            have := h6 c hc
            rwa [Go.Deep.add_add] at this
    obtain ⟨l, h1, hs, h2⟩ := hall len (Nat.le_refl _)
    refine ⟨l, ⟨by rw [flat_len hlen], some a, cap, by rw [h1], by omega, (fun h => by cases h), fun j hj => ?_⟩, fun x hx => ?_, ?_⟩
    · rw [flat_len hlen] at hj
      have hjk : j = j / k * k + j % k := by rw [Nat.mul_comm]; exact (Nat.div_add_mod j k).symm
      have hi : j / k < l.length := (Nat.div_lt_iff_lt_mul hk0).2 hj
      have hx : l[j / k]? = some l[j / k] := List.getElem?_eq_getElem hi
      have h3 := (h2 _ _ hx).2 (j % k) (Nat.mod_lt _ hk0)
      rw [← hjk] at h3
      have h4 := flat_get hlen l (j / k) (j % k) _ hx (Nat.mod_lt _ hk0)
      rw [← hjk] at h4
      obtain ⟨b, off, spot⟩ := a
      have hspot : spot = none := by
        have hl0 : 0 < l.length := Nat.lt_of_le_of_lt (Nat.zero_le _) hi
        have hx0 : l[0]? = some (l[0]'hl0) := List.getElem?_eq_getElem _
        have h0 := (h2 0 _ hx0).2 0 hk0
        have h5 : (ec (l[0]'hl0))[0]? = some ((ec (l[0]'hl0))[0]'(by rw [hlen]; exact hk0)) := List.getElem?_eq_getElem _
        rw [h5, Nat.zero_mul, Nat.zero_add] at h0
        simpa [Addr.add] using World.cell?_spot h0
      subst hspot
      refine ⟨b, off, rfl, ?_⟩
      rw [add_plain] at h3
      rw [h3, h4]
    · obtain ⟨i, hi⟩ := List.mem_iff_getElem?.1 hx
      exact (h2 i x hi).1
    · rw [Rows.uptoBulk]
      omega
theorem flat_one {α β : Type} (f : α → β) (l : List α) : l.flatMap (fun c => [f c]) = l.map f := by
  induction l with
  | nil => rfl
  | cons x l ih => rw [List.flatMap_cons, ih]; rfl
set_option maxRecDepth 100000 in
theorem trod_bytes {H : Type} {enc : TypeId × Value → H} {W : World} {v : Value} {y : DataW H × List MemPlace} {fuel : Nat} (h : DataW.trod enc Try.prog W 0 (fun _ => true) true fuel 22 [v] = some y) :
    ∃ l : List UInt8, Bs W v l ∧ l.length + 1 ≤ Rows.uptoBulk y.1 := by
  obtain ⟨l, h1, -, h3⟩ := trod_recs (α := UInt8) (k := 1) (ec := fun c => [B c]) (good := fun _ => True) (μ := fun _ => 1) (e := 5) (by kernel_rfl) (by kernel_rfl) (by decide) (fun _ => rfl) (fun n cs y h hl => by
    obtain ⟨z, rfl, hy, hw⟩ := DataW.trod_int Try.underlying5 h
    refine ⟨UInt8.ofNat z.toNat, ?_, trivial, ?_⟩
    · simp [Lit.wf, IntKind.min, IntKind.max, IntKind.signed, IntKind.bits] at hw
      simp [B]
      omega
    · rw [hy]
      simp [Rows.uptoBulk]) h
  refine ⟨l, ?_, by rw [List.map_const', List.sum_replicate_nat] at h3; omega⟩
  have e := flat_one B l
  unfold RdR at h1
  rw [e] at h1
  exact h1
end Go.Proofs.Ytmpelmjhimalpaa
namespace Go.Proofs.Ytmpelmjhimalpaa
open Go.ChangeShapes Go.WideShapes Go.ChangeAt Go.RowKit Go.Fd
theorem op_read {H : Type} {enc : TypeId × Value → H} {W : World} {n : Nat} {cs : List Value} {y : DataW H × List MemPlace} (h : DataW.trod enc Try.prog W 0 (fun _ => true) true n 58 cs = some y) (hl : cs.length = 6) : ∃ o, cs = opL o ∧ OpOk W W.heap.size o := by
  obtain ⟨xs, n', -, rfl, -, -, -⟩ := DataW.trod_struct Try.underlying58 h
  obtain ⟨m, hf⟩ := cells_struct Try.underlying58 (by kernel_rfl) hl h
  obtain ⟨c0, c1, c2, c3, c4, c5, rfl⟩ := len_6 hl
  obtain ⟨x0, y0, e0, t0⟩ := hf 0 _ rfl
  obtain ⟨x1, y1, e1, t1⟩ := hf 1 _ rfl
  obtain ⟨x2, y2, e2, t2⟩ := hf 2 _ rfl
  obtain ⟨x3, y3, e3, t3⟩ := hf 3 _ rfl
  obtain ⟨x4, y4, e4, t4⟩ := hf 4 _ rfl
  obtain ⟨x5, y5, e5, t5⟩ := hf 5 _ rfl
  cases e0; cases e1; cases e2; cases e3; cases e4; cases e5
  obtain ⟨n0, q0, -, w0⟩ := DataW.trod_int Try.underlying3 t0
  obtain ⟨n1, q1, -, w1⟩ := DataW.trod_int Try.underlying24 t1
  obtain ⟨n2, q2, -, w2⟩ := DataW.trod_int Try.underlying24 t2
  obtain ⟨n3, q3, -, w3⟩ := DataW.trod_int Try.underlying3 t3
  obtain ⟨n4, q4, -, w4⟩ := DataW.trod_int Try.underlying3 t4
  cases q0; cases q1; cases q2; cases q3; cases q4
  obtain ⟨l, hb, -⟩ := trod_bytes t5
  obtain ⟨a1, b1⟩ := wf_u64 w1
  obtain ⟨a2, b2⟩ := wf_u64 w2
  obtain ⟨n1, rfl⟩ := Int.eq_ofNat_of_zero_le a1
  obtain ⟨n2, rfl⟩ := Int.eq_ofNat_of_zero_le a2
  refine ⟨⟨n0, n1, n2, n3, n4, l, _⟩, rfl, hb, ?_, by show n1 < _; omega, by show n2 < _; omega⟩
  cases hl' : l with
  | nil => exact .inl rfl
  | cons c l' =>
    refine .inr fun k hk => ?_
    obtain ⟨-, a, cap, hv, -, -, hc⟩ := hb
    obtain ⟨b, off, e, hcell⟩ := hc 0 (by rw [hl']; simp)
    rw [hl'] at hcell
    subst e
    have hv' : c5 = _ := hv
    simp only [hv', Value.ownBlock, Option.some.injEq] at hk
    subst hk
    exact block_lt (hcell.trans rfl)
set_option maxRecDepth 100000 in
theorem pagesAll_lifted (os : Os) (started : os.Started) (H : Type) (enc : TypeId × Value → H) :
    ReturnsInHanded {} Try.checked os 5 .any (Rows.pagesAllSpec.pre6 enc Try.prog Try.f5 Rows.pagesAllRow.domain false) (Rows.pagesAllSpec.post enc Try.prog Try.f5 false true false false) := by
  refine returnsInHanded_of_change (C := Try.checked) Try.own started (by kernel_rfl) Try.func5
    (ChangeSpec.witness6 (enc := enc) (C := Try.checked) false ⟨#[], #[.slice none 0 0], []⟩ 8 (by kernel_rfl) (by kernel_rfl) (by kernel_rfl) (by kernel_rfl)) ?_
  intro W base args ds gs before hval0 hW hcnd _
  have hval : ∀ (j : Nat) t v, Try.f5.params[j]? = some t → args[j]? = some v → Value.okWide Try.prog W .any base t v := hval0
  have hW' := hW
  obtain ⟨p, q, hA0, hV, rfl, hfz, hnd⟩ := hW
  have hA : DataW.TrodAll enc Try.prog W 0 (fun _ => true) true Try.f5.params.toList args.toList ds p := hA0
  have hlt : ∀ x ∈ p, x.block < W.heap.size := fun x hx => hW'.lt x (by simp [hx])
  have hback : ∀ W', Below W.heap.size W W' → DataW.TrodAll enc Try.prog W' 0 (fun b => decide (b < W.heap.size)) true Try.f5.params.toList args.toList ds p :=
    fun W' hb => belowAllB (by kernel_rfl) hb hA hlt
  rw [Try.params5] at hA hval
  obtain ⟨v0, vs0, d0, ds0, p0, q0, hargs, rfl, rfl, h0, r0⟩ := trodAll_cons hA
  obtain ⟨rfl, rfl, rfl⟩ := trodAll_nil r0
  obtain rfl : args = #[v0] := by
    cases args
    simp at hargs
    simp [hargs]
  clear hargs
  obtain ⟨rfl, rfl⟩ := trodVars_none hV
  have fin : ∀ (e : Ending) (W' : World), (e = .returned (.bool true) ∧ Below W.heap.size W W') → ∃ v, e = Ending.returned v ∧ Rows.pagesAllSpec.post enc Try.checked.prog Try.f5 false true false false W #[v0] v W' := by
    rintro e W' ⟨rfl, hb⟩
    exact ⟨_, rfl, _, _, _, [], _, [], hW', trodAll_mk1 (shut_bool Try.underlying4 true), hback W' hb, rfl, hb.frame _, fun h => by cases h⟩
  obtain ⟨ops, h1, h2⟩ := reads_recs (k := 6) (ec := opL) (good := OpOk W W.heap.size) (e := 58) (by kernel_rfl) (by kernel_rfl) (by decide) opL_len (fun n cs y h hl => op_read h hl) (hval 0 51 v0 rfl rfl) h0
  exact (pagesAll_any W v0 ops h1 h2).mono fin
theorem pagesAll_holds : Rows.PagesAllSaid :=
  OpenClaim.holds_of_wide 5 Try.f5 rfl rfl rfl rfl rfl rfl rfl ⟨rfl, rfl, rfl, rfl, rfl⟩ rfl rfl rfl rfl rfl (by kernel_rfl) Try.func5 (by kernel_rfl)
    (of_decide_eq_true (by kernel_rfl)) (by unfold Func.isWrapper; rw [if_neg (of_decide_eq_false (by kernel_rfl))]; exact ⟨rfl, rfl⟩)
    (fun os started H enc _ => pagesAll_lifted os started H enc)
end Go.Proofs.Ytmpelmjhimalpaa
#print axioms Go.Proofs.Ytmpelmjhimalpaa.pagesAll_holds
