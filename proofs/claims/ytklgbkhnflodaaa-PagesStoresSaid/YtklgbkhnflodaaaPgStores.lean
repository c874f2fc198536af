/-
  PagesStores walked: what is stored is loaded, and bytes about it stay.
-/
import Derived.Test.YtklgbkhnflodaaaPgLaw2
import Derived.Test.YtklgbkhnflodaaaPgRights
namespace Go.Proofs.Ytklgbkhnflodaaa
open Go.RowKit Go.Fd

theorem stores_early (a n : Nat) (l : List UInt8) (v : Value) (w : World) (hv : Bs w v l) (h : l.length ≠ 32 ∨ 1125899906842624 < a) :
    Calls Try.prog 5 #[.int .u64 a, .int .u64 n, v] w fun e w' => e = .returned (.bool true) ∧ Below w.heap.size w w' := by
  obtain ⟨m, ad, cap, hm, rfl, hmc, _⟩ := hv.shape
  have hm' : m ≠ 32 ∨ 1125899906842624 < a := by have := hm.out; omega
  by_cases h1 : m = 32
  · subst h1
    have h2 : 1125899906842624 < a := by omega
    clear hm' h
    go_enter Try.func5, Try.ntmps5
    go_wp2_with (go_at_call 8; go_must (refine (begun_pages _).mono ?_; rintro e w1 ⟨rfl, hb1⟩))
    go_ret
    exact ⟨rfl, hb1⟩
  · have h3 : ((m : Int) != 32) = true := by simp; omega
    clear hm' h h1
    go_enter Try.func5, Try.ntmps5
    go_wp2_with (go_at_call 8; go_must (refine (begun_pages _).mono ?_; rintro e w1 ⟨rfl, hb1⟩))
    go_ret
    exact ⟨rfl, hb1⟩

theorem Mem.tight {w : World} {base bp : Nat} {F : Nat → Prop} {V : Vw} (h : Mem w base bp F V) : Mem w base bp (fun k => base ≤ k ∧ k < w.heap.size) V := by
  obtain ⟨bm, L, h1, h2, h3⟩ := h
  exact ⟨bm, L, h1, h2, fun k hk => foot_base h1 k hk⟩

theorem below_drewN {B : Nat} {a w : World} (h : Below B a w) (n : Nat) : Below B a (w.drewN n) := ⟨h.os, h.tape, h.output, h.size, h.block⟩
theorem fixed_get (n : Nat) : ∀ (s j : Nat), j < s → (fixed n s)[j]?.getD 0 = UInt8.ofNat (n / 256 ^ j) := by
  intro s j hj
  have h : ∀ (s j n : Nat), j < s → (fixed n s)[j]?.getD 0 = UInt8.ofNat (n / 256 ^ j) := by
    intro s
    induction s with
    | zero => intro j n h; omega
    | succ s ih =>
      intro j n h
      cases j with
      | zero => simp [fixed]
      | succ j =>
        rw [fixed, List.getElem?_cons_succ, ih j (n / 256) (by omega), Nat.div_div_eq_div_mul, Nat.pow_succ, Nat.mul_comm]
  exact h s j n hj

set_option maxRecDepth 100000 in
set_option maxHeartbeats 2000000 in
theorem pagesStores_any (a n : Nat) (l : List UInt8) (v : Value) (w : World) (hn : n < 18446744073709551616) (hv : Bs w v l) (hl : l.length = 32) (ha : a ≤ 1125899906842624) :
    Calls Try.prog 5 #[.int .u64 a, .int .u64 n, v] w fun e w' => e = .returned (.bool true) ∧ Below w.heap.size w w' := by
  have HV := Lib.hid hv
  have HL := Lib.hid hl
  obtain ⟨m, ad, cap, hm, rfl, hmc, _⟩ := hv.shape
  obtain rfl : m = 32 := by rw [hm.out]; exact HL.out
  obtain ⟨vb, voff, hvb, hvc⟩ : ∃ vb voff, Hid (ad = some ⟨vb, voff, none⟩) ∧ Hid (∀ i, i < 32 → w.cell? ⟨vb, voff + i, none⟩ = some (.int .u8 (l[i]?.getD 0).toNat)) := by
    obtain ⟨ad', cap', e1, _, _, hc⟩ := hv.open
    have hL := HL.out
    simp only [Value.slice.injEq] at e1
    obtain ⟨rfl, _, rfl⟩ := e1
    obtain ⟨vb, voff, e2, _⟩ := hc 0 (by omega)
    refine ⟨vb, voff, e2, fun i hi => ?_⟩
    obtain ⟨vb', voff', e3, h3⟩ := hc i (by omega)
    rw [e2] at e3
    cases e3
    exact h3
  have hvlt : vb < w.heap.size := block_lt (hvc.out 0 (by omega))
  clear hv hl hm
  obtain rfl := hvb.out
  clear hvb
  have HG0 := Lib.hid (good_new a ha)
  have HM0 : Hid (mapR [] a 32 6 = (mapV 6 [] (a / 4096) ((a + 32 - 1) / 4096 + 1 - a / 4096), 0)) := mapR_none (r := 6) (n := 32) (by omega) (by omega) (by omega) (by omega) (by omega)
  generalize mapV 6 [] (a / 4096) ((a + 32 - 1) / 4096 + 1 - a / 4096) = V0 at *
  have HS0 := Lib.hid (Good.setR (V := V0) (a := a) (l := l) (by rw [HL.out]; exact HG0.out))
  have HG1 := Lib.hid (HG0.out.set l a)
  have hab : a < 18446744073709551616 := by omega
  go_enter Try.func5, Try.ntmps5
  go_wp2_with fail
  refine (begun_pages _).mono ?_
  rintro e w1 ⟨rfl, hb1⟩
  go_wp2_with fail
  refine (new_mem w1).mono ?_
  rintro e w2 ⟨bp, rfl, hm2, hb2⟩
  have HP3 := Lib.hid (map_mem w2 hm2 hb2.size (by decide) a 32 6 hab (by omega))
  rw [HM0.out] at HP3
  clear hm2
  go_wp2_with fail
  refine HP3.out.mono ?_
  rintro e w3 ⟨rfl, hm3, hs3⟩
  have hb23 := hb2.trans (hs3.below hb2.size (fun k h => h))
  have hb13 := hb1.trans (hb23.mono hb1.size)
  have HP4 := Lib.hid (set_mem w3 hm3.tight (.slice (some ⟨vb, voff, none⟩) 32 cap) l (HV.out.mono hb13) (by rw [HL.out]; omega) (fun k hk h => by simp only [Value.ownBlock, Option.some.injEq] at hk; subst hk; have := h.1; have := hb1.size; omega) a hab)
  rw [HS0.out] at HP4
  clear hm3 hs3 hb2
  go_wp2_with fail
  refine HP4.out.mono ?_
  rintro e w4 ⟨rfl, hm4, hs4⟩
  have hb14 := hb23.trans (hs4.below hb23.size (fun k h => h.1))
  have HB04 := Lib.hid (hb1.trans (hb14.mono hb1.size))
  have HMT := Lib.hid hm4.tight
  have HB1 := Lib.hid hb1.size
  have HB14 := Lib.hid hb14.size
  clear hm4 hs4 hb14 hb13 hb23 hb1 HP3 HP4
  go_wp2_with fail
  have HSB := Lib.hid (heap_alloc_new w4 (.cells #[.int .i64 1, .int .i64 2, .int .i64 4, .int .i64 8] 3))
  have HAL := Lib.hid (below_alloc w4 (.cells #[.int .i64 1, .int .i64 2, .int .i64 4, .int .i64 8] 3))
  go_loopw [9] (fun i wr => ∃ (k : Nat) (V : Vw), i = .int .i64 k ∧ k ≤ 4 ∧ Hid (Mem wr w1.heap.size bp (fun k => w1.heap.size ≤ k ∧ k < w4.heap.size) V) ∧ Hid (Good V a 32) ∧
    Hid (wr.heap[w4.heap.size]? = some (.cells #[.int .i64 1, .int .i64 2, .int .i64 4, .int .i64 8] 3)) ∧ Hid (Below w.heap.size w wr)) (fun i _ => 4 - (intOf i).toNat)
  case atStart => exact ⟨0, _, rfl, by omega, HMT.out.mono HAL.out, HG1.out, HSB.out, HB04.out.trans (HAL.out.mono (Nat.le_trans HB1.out HB14.out))⟩
  case round =>
    obtain ⟨k, V, rfl, hk, HM, HG, HS, HB⟩ := hrel
    obtain ⟨wo, rfl⟩ : ∃ wo : World, wo = wr := ⟨_, rfl⟩
    by_cases hlt : k < 4
    · obtain ⟨s, hs1, hs8, HSZ, HCE⟩ : ∃ s : Nat, 1 ≤ s ∧ s ≤ 8 ∧ Hid (szB s = true) ∧ Hid ((#[.int .i64 1, .int .i64 2, .int .i64 4, .int .i64 8] : Array Value)[k]? = some (.int .i64 (s : Int))) := by
        rcases (by omega : k = 0 ∨ k = 1 ∨ k = 2 ∨ k = 3) with rfl | rfl | rfl | rfl
        · exact ⟨1, by omega, by omega, rfl, rfl⟩
        · exact ⟨2, by omega, by omega, rfl, rfl⟩
        · exact ⟨4, by omega, by omega, rfl, rfl⟩
        · exact ⟨8, by omega, by omega, rfl, rfl⟩
      have HVo := Lib.hid (HV.out.mono HB.out)
      have HSo := Lib.hid (Good.setR (V := V) (a := a) (l := l) (by rw [HL.out]; exact HG.out))
      have HP1 := Lib.hid (set_mem wo HM.out (.slice (some ⟨vb, voff, none⟩) 32 cap) l HVo.out (by rw [HL.out]; omega) (fun k hk h => by simp only [Value.ownBlock, Option.some.injEq] at hk; subst hk; have := h.1; have := HB1.out; omega) a hab)
      rw [HSo.out] at HP1
      have HG2 := Lib.hid (HG.out.set l a)
      go_wp2_with fail
      refine HP1.out.mono ?_
      rintro e w5 ⟨rfl, hm5, hs5⟩
      have hsb5 := hs5.kept HS.out (fun h => by have := h.2; omega)
      have hc5 := (block_cell hsb5 k).trans HCE.out
      have HST := Lib.hid (Good.storeR ((HG2.out.sub 9 s (by omega))) HSZ.out n)
      have HP2 := Lib.hid (store_mem w5 hm5 (a + 9) (by omega) s n)
      rw [HST.out] at HP2
      have HSB5 := Lib.hid hsb5
      have HB5 := Lib.hid (HB.out.trans (hs5.below HB.out.size (fun k h => Nat.le_trans HB1.out h.1)))
      clear hm5 hs5 hsb5 HP1 HSo HST
      go_wp2_with fail
      refine HP2.out.mono ?_
      rintro e w6 ⟨rfl, hm6, hs6⟩
      have hsb6 := hs6.kept HSB5.out (fun h => by have := h.2; omega)
      have hc6 := (block_cell hsb6 k).trans HCE.out
      have HG6 := Lib.hid (HG2.out.set (fixed n s) (a + 9))
      have HP3 := Lib.hid (load_mem w6 hm6 (a + 9) (by omega) s)
      rw [(HG6.out.sub 9 s (by omega)).loadR HSZ.out] at HP3
      have HNUM : Hid (numLE (bytesV (setV (setV V a l) (a + 9) (fixed n s)) (a + 9) s) = n % 256 ^ s) := by
        have := bytesV_set (V := setV V a l) (a := a + 9) (l := fixed n s) (by rw [length_fixed]; exact HG2.out.sub 9 s (by omega))
        rw [length_fixed] at this
        show _ = _
        rw [this, numLE_fix]
      rw [HNUM.out] at HP3
      have HP4 := Lib.hid (bytes_mem w6 hm6 a hab ((32 : Nat) : Int))
      rw [HG6.out.bytesR (n := 32) (by omega)] at HP4
      have HBY : Hid (∀ j, j < 32 → (bytesV (setV (setV V a l) (a + 9) (fixed n s)) a 32)[j]?.getD 0 = if 9 ≤ j ∧ j < 9 + s then UInt8.ofNat (n / 256 ^ (j - 9)) else l[j]?.getD 0) := by
        intro j hj
        rw [bytesV_get _ _ _ _ hj, getV_setV (fixed n s) HG2.out.ok (a + 9) (fun i hi => (HG2.out.sub 9 s (by omega)).pg i (by rw [length_fixed] at hi; exact hi) |>.1), length_fixed]
        by_cases hin : 9 ≤ j ∧ j < 9 + s
        · rw [if_pos (by omega), if_pos hin, show a + j - (a + 9) = j - 9 by omega, fixed_get n s (j - 9) (by omega)]
        · rw [if_neg (by omega), if_neg hin, getV_setV l HG.out.ok a (fun i hi => (HG.out.pg i (by rw [HL.out] at hi; exact hi)).1), if_pos (by rw [HL.out]; omega), Nat.add_sub_cancel_left]
      have HM6 := Lib.hid hm6
      have HB6 := Lib.hid (HB5.out.trans (hs6.below HB5.out.size (fun k h => Nat.le_trans HB1.out h.1)))
      have HSB6 := Lib.hid hsb6
      clear hm6 hs6 hsb6 hc5
      have HALN := Lib.hid (bytesV_len (setV (setV V a l) (a + 9) (fixed n s)) a 32)
      generalize bytesV (setV (setV V a l) (a + 9) (fixed n s)) a 32 = al at *
      generalize hy : n % 256 ^ s = y at *
      have HY := Lib.hid hy
      clear hy
      go_wp2_with fail
      refine HP3.out.mono ?_
      rintro e w7 ⟨rfl, rfl⟩
      go_wp2_with fail
      refine HP4.out.mono ?_
      rintro e w7 ⟨va, rfl, hva, hb7⟩
      have hsb7 : w7.heap[w4.heap.size]? = _ := (hb7.block _ (Array.getElem?_eq_some_iff.1 HSB6.out).1).trans HSB6.out
      have hc7 := (block_cell hsb7 k).trans HCE.out
      have HSB7 := Lib.hid hsb7
      have hva2 := hva.open (by rw [HALN.out]; omega)
      rw [HALN.out] at hva2
      obtain ⟨g, capv, rfl, hg0, hg1, _, hac, _⟩ := hva2
      have HAC := Lib.hid hac
      have HB7 := Lib.hid (HB6.out.trans (hb7.mono HB6.out.size))
      clear hsb7 hc6 hva hac
      by_cases h8 : s < 8
      · have h8e : ((s : Int) == 8) = false := by simp; omega
        obtain ⟨p, hp, hw, hyn⟩ : ∃ p : Nat, 0 < p ∧ IntKind.u64.wrap (2 ^ (8 * s)) = (p : Int) ∧ ((y : Int) != (n : Int) % (p : Int)) = false := by
          refine ⟨256 ^ s, Nat.pow_pos (by omega), ?_, ?_⟩
          · have h1 : 256 ^ s ≤ 256 ^ 7 := Nat.pow_le_pow_right (by omega) (by omega)
            rw [show (2 : Int) ^ (8 * s) = ((256 ^ s : Nat) : Int) by rw [show (256 : Nat) = 2 ^ 8 from rfl, ← Nat.pow_mul]; simp, IntKind.wrap_u64]
            generalize 256 ^ s = p at *
            omega
          · rw [← HY.out]; simp
        go_wp2_with fail
        clear hc7
        go_loopw [14] (fun jv wr => ∃ j : Nat, jv = .int .i64 j ∧ j ≤ 32 ∧ Below w7.heap.size w7 wr) (fun jv _ => 32 - (intOf jv).toNat)
        case atStart => exact ⟨0, rfl, by omega, Below.refl _ _⟩
        case round =>
          obtain ⟨j, rfl, hj, hb⟩ := hrel
          by_cases hjl : j < 32
          · have ca := (hb.cell (block_lt (HAC.out j hjl))).trans (HAC.out j hjl)
            have cb1 := (HB7.out.cell hvlt).trans (hvc.out j hjl)
            have cb := (hb.cell (block_lt cb1)).trans cb1
            have cs1 := (block_cell HSB7.out k).trans HCE.out
            have cs := (hb.cell (block_lt cs1)).trans cs1
            have hby := HBY.out j hjl
            clear cb1 cs1
            by_cases hin : 9 ≤ j ∧ j < 9 + s
            · rw [if_pos hin] at hby
              have HBYJ := Lib.hid hby
              clear hby
              obtain ⟨t, rfl⟩ : ∃ t, j = t + 9 := ⟨j - 9, by omega⟩
              have hne : (((al[t + 9]?.getD 0).toNat : Int) != (n : Int) / 2 ^ (8 * t) % 256) = false := by
                rw [HBYJ.out, Nat.add_sub_cancel, byte_of]; simp
              generalize al[t + 9]?.getD 0 = c1 at *
              generalize l[t + 9]?.getD 0 = c2 at *
              have hd1 : decide ((9 : Int) ≤ (t : Int) + 9) = true := by simp; omega
              have hd2 : decide ((t : Int) + 9 < 9 + (s : Int)) = true := by simp; omega
              go_wp2_with fail
              have x1 : IntKind.i64.wrap ((t : Int) + 9 - 9) = t := by simp only [IntKind.wrap_i64]; omega
              have x2 : IntKind.i64.wrap (8 * (t : Int)) = 8 * (t : Int) := by simp only [IntKind.wrap_i64]; omega
              have x3 : IntKind.u64.wrap (8 * (t : Int)) = 8 * (t : Int) := by simp only [IntKind.wrap_u64]; omega
              go_quiet (fail)
              go_wp2
              go_roundw
              case rel =>
                first
                  | exact ⟨t + 9 + 1, by go_num, by omega, below_drewN hb _⟩
                  | ((repeat apply Exists.intro); exact ⟨⟨t + 9 + 1, by go_num, by omega, below_drewN hb _⟩, rfl⟩)
              case measure => simp [intOf] <;> omega
            · rw [if_neg hin] at hby
              rw [hby] at ca
              clear hby
              generalize l[j]?.getD 0 = c2 at *
              rcases (by omega : j < 9 ∨ (9 ≤ j ∧ 9 + s ≤ j)) with hin2 | hin2
              · have hd1 : decide ((9 : Int) ≤ (j : Int)) = false := by simp; omega
                go_wp2_with fail
                go_quiet (fail)
                go_wp2
                go_roundw
                case rel =>
                  first
                    | exact ⟨j + 1, by go_num, by omega, below_drewN hb _⟩
                    | ((repeat apply Exists.intro); exact ⟨⟨j + 1, by go_num, by omega, below_drewN hb _⟩, rfl⟩)
                case measure => simp [intOf] <;> omega
              · have hd1 : decide ((9 : Int) ≤ (j : Int)) = true := by simp; omega
                have hd2 : decide ((j : Int) < 9 + (s : Int)) = false := by simp; omega
                go_wp2_with fail
                go_quiet (fail)
                go_wp2
                go_roundw
                case rel =>
                  first
                    | exact ⟨j + 1, by go_num, by omega, below_drewN hb _⟩
                    | ((repeat apply Exists.intro); exact ⟨⟨j + 1, by go_num, by omega, below_drewN hb _⟩, rfl⟩)
                case measure => simp [intOf] <;> omega
          · go_wp2
            go_roundw
            case rel =>
              first
                | exact ⟨k + 1, _, by go_num, by omega, HM6.out.mono (hb7.trans (hb.mono hb7.size)), HG6.out, (hb.block _ (Array.getElem?_eq_some_iff.1 HSB7.out).1).trans HSB7.out, HB7.out.trans (hb.mono HB7.out.size)⟩
                | ((repeat apply Exists.intro); exact ⟨⟨k + 1, _, by go_num, by omega, HM6.out.mono (hb7.trans (hb.mono hb7.size)), HG6.out, (hb.block _ (Array.getElem?_eq_some_iff.1 HSB7.out).1).trans HSB7.out, HB7.out.trans (hb.mono HB7.out.size)⟩, rfl⟩)
            case measure => simp [intOf] <;> omega
      · have heq : ((s : Int) == 8) = true := by simp; omega
        have hyn : ((y : Int) != (n : Int)) = false := by
          have h1 := HY.out
          have : s = 8 := by omega
          subst this
          rw [Nat.mod_eq_of_lt (Nat.lt_of_lt_of_le hn (by decide))] at h1
          simp; omega
        go_wp2_with fail
        clear hc7
        go_loopw [14] (fun jv wr => ∃ j : Nat, jv = .int .i64 j ∧ j ≤ 32 ∧ Below w7.heap.size w7 wr) (fun jv _ => 32 - (intOf jv).toNat)
        case atStart => exact ⟨0, rfl, by omega, Below.refl _ _⟩
        case round =>
          obtain ⟨j, rfl, hj, hb⟩ := hrel
          by_cases hjl : j < 32
          · have ca := (hb.cell (block_lt (HAC.out j hjl))).trans (HAC.out j hjl)
            have cb1 := (HB7.out.cell hvlt).trans (hvc.out j hjl)
            have cb := (hb.cell (block_lt cb1)).trans cb1
            have cs1 := (block_cell HSB7.out k).trans HCE.out
            have cs := (hb.cell (block_lt cs1)).trans cs1
            have hby := HBY.out j hjl
            clear cb1 cs1
            by_cases hin : 9 ≤ j ∧ j < 9 + s
            · rw [if_pos hin] at hby
              have HBYJ := Lib.hid hby
              clear hby
              obtain ⟨t, rfl⟩ : ∃ t, j = t + 9 := ⟨j - 9, by omega⟩
              have hne : (((al[t + 9]?.getD 0).toNat : Int) != (n : Int) / 2 ^ (8 * t) % 256) = false := by
                rw [HBYJ.out, Nat.add_sub_cancel, byte_of]; simp
              generalize al[t + 9]?.getD 0 = c1 at *
              generalize l[t + 9]?.getD 0 = c2 at *
              have hd1 : decide ((9 : Int) ≤ (t : Int) + 9) = true := by simp; omega
              have hd2 : decide ((t : Int) + 9 < 9 + (s : Int)) = true := by simp; omega
              go_wp2_with fail
              have x1 : IntKind.i64.wrap ((t : Int) + 9 - 9) = t := by simp only [IntKind.wrap_i64]; omega
              have x2 : IntKind.i64.wrap (8 * (t : Int)) = 8 * (t : Int) := by simp only [IntKind.wrap_i64]; omega
              have x3 : IntKind.u64.wrap (8 * (t : Int)) = 8 * (t : Int) := by simp only [IntKind.wrap_u64]; omega
              go_quiet (fail)
              go_wp2
              go_roundw
              case rel =>
                first
                  | exact ⟨t + 9 + 1, by go_num, by omega, below_drewN hb _⟩
                  | ((repeat apply Exists.intro); exact ⟨⟨t + 9 + 1, by go_num, by omega, below_drewN hb _⟩, rfl⟩)
              case measure => simp [intOf] <;> omega
            · rw [if_neg hin] at hby
              rw [hby] at ca
              clear hby
              generalize l[j]?.getD 0 = c2 at *
              rcases (by omega : j < 9 ∨ (9 ≤ j ∧ 9 + s ≤ j)) with hin2 | hin2
              · have hd1 : decide ((9 : Int) ≤ (j : Int)) = false := by simp; omega
                go_wp2_with fail
                go_quiet (fail)
                go_wp2
                go_roundw
                case rel =>
                  first
                    | exact ⟨j + 1, by go_num, by omega, below_drewN hb _⟩
                    | ((repeat apply Exists.intro); exact ⟨⟨j + 1, by go_num, by omega, below_drewN hb _⟩, rfl⟩)
                case measure => simp [intOf] <;> omega
              · have hd1 : decide ((9 : Int) ≤ (j : Int)) = true := by simp; omega
                have hd2 : decide ((j : Int) < 9 + (s : Int)) = false := by simp; omega
                go_wp2_with fail
                go_quiet (fail)
                go_wp2
                go_roundw
                case rel =>
                  first
                    | exact ⟨j + 1, by go_num, by omega, below_drewN hb _⟩
                    | ((repeat apply Exists.intro); exact ⟨⟨j + 1, by go_num, by omega, below_drewN hb _⟩, rfl⟩)
                case measure => simp [intOf] <;> omega
          · go_wp2
            go_roundw
            case rel =>
              first
                | exact ⟨k + 1, _, by go_num, by omega, HM6.out.mono (hb7.trans (hb.mono hb7.size)), HG6.out, (hb.block _ (Array.getElem?_eq_some_iff.1 HSB7.out).1).trans HSB7.out, HB7.out.trans (hb.mono HB7.out.size)⟩
                | ((repeat apply Exists.intro); exact ⟨⟨k + 1, _, by go_num, by omega, HM6.out.mono (hb7.trans (hb.mono hb7.size)), HG6.out, (hb.block _ (Array.getElem?_eq_some_iff.1 HSB7.out).1).trans HSB7.out, HB7.out.trans (hb.mono HB7.out.size)⟩, rfl⟩)
            case measure => simp [intOf] <;> omega
    · go_wp2
      go_ret
      exact ⟨rfl, HB.out⟩
end Go.Proofs.Ytklgbkhnflodaaa
