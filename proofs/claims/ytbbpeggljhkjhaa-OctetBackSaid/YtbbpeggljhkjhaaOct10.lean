/-
  Bytes turned about in place: slices.Reverse.
-/
import Derived.Test.YtbbpeggljhkjhaaByt
import Derived.RegionTactic
import Derived.BigRegion
import Derived.ChangeAlike
namespace Go.Proofs.Ytbbpeggljhkjhaa
open Go.RowKit Go.Fd

theorem wp_alike_ob {w w' : World} {base : Nat} {v : Value} {l : List UInt8} (h : OB w base v l) (ha : w'.heap = w.heap) : OB w' base v l := by
  refine ⟨h.1, ?_⟩
  rcases h.2 with h2 | h2
  · exact .inl h2
  · refine .inr ?_
    rw [ha]
    exact h2

set_option maxRecDepth 100000 in
theorem reverse_any (l : List UInt8) (base : Nat) (v : Value) (w : World) (hl : l.length ≤ 1000000000) (hv : OB w base v l) :
    Calls Try.prog 34 #[v] w fun e w' => e = .returned (.tuple #[]) ∧ OB w' base v l.reverse ∧ Below base w w' ∧ w.heap.size = w'.heap.size := by
  by_cases h0 : l.length = 0
  · obtain rfl : l = [] := List.eq_nil_of_length_eq_zero h0
    obtain ⟨m, a, cap, hm, rfl, _⟩ := hv.shape
    obtain rfl : m = 0 := hm.out
    go_enter Try.func34, Try.ntmps34
    go_wp2
    refine wp_loop_rounds 1 ?_
    rw [rounds_succ]
    go_wp2
    go_end0
    exact ⟨rfl, by simpa using hv, Below.refl _ _, rfl⟩
  obtain ⟨g, cap, rfl, hbg, hgw, _, _, _⟩ := hv.open (by omega)
  go_enter Try.func34, Try.ntmps34
  go_wp2
  go_loopw [2, 3] (fun i j wr => ∃ (p q : Nat) (r : List UInt8), i = .int .i64 p ∧ j = .int .i64 q ∧ p ≤ l.length ∧ q < l.length ∧ Hid (p + q + 1 = l.length ∧ r.length = l.length ∧ ∀ t, t < l.length → r[t]? = if t < p ∨ q < t then l[l.length - 1 - t]? else l[t]?) ∧ OB wr base (.slice (some ⟨g, 0, none⟩) l.length cap) r ∧ Below base w wr ∧ Hid (w.heap.size = wr.heap.size))
    (fun i _ _ => l.length - (intOf i).toNat)
  case atStart => exact ⟨0, l.length - 1, l, rfl, by go_num, by omega, by omega, ⟨by omega, rfl, fun t ht => by rw [if_neg (by omega)]⟩, hv, Below.refl _ _, rfl⟩
  case round =>
    obtain ⟨p, q, r, rfl, rfl, hp, hq, HR, hown, hb, HS⟩ := hrel
    have hrl := HR.out.2.1
    rw [← hrl] at hown
    obtain ⟨g', cap', e1, _, hgw', _, hcell, hfz⟩ := hown.open (by omega)
    simp only [Value.slice.injEq, Option.some.injEq, Addr.mk.injEq, and_true, true_and] at e1
    obtain ⟨rfl, rfl⟩ := e1
    by_cases hlt : p < q
    · have hcp := hcell p (by omega)
      have hcq := hcell q (by omega)
      have hfp := hfz p
      have hfq := hfz q
      rw [hrl] at hown
      have HO := Lib.hid hown
      have HX := Lib.hid (show ∀ x, r[p]?.getD 0 = x → r[p]? = some x by rintro x rfl; rw [List.getElem?_eq_getElem (by omega)]; rfl)
      have HY := Lib.hid (show ∀ x, r[q]?.getD 0 = x → r[q]? = some x by rintro x rfl; rw [List.getElem?_eq_getElem (by omega)]; rfl)
      clear hcell hfz hown hrl
      generalize r[p]?.getD 0 = x at *
      generalize r[q]?.getD 0 = y at *
      go_wp2
      go_region
      all_goals go_wp2
      have h1 : OB ((wr.setCell ⟨g, p, none⟩ (.int .u8 y.toNat)).setCell ⟨g, q, none⟩ (.int .u8 x.toNat)) base (.slice (some ⟨g, 0, none⟩) l.length cap) ((r.set p y).set q x) := by
        have e := HO.out
        rw [← HR.out.2.1] at e
        have e1 := e.stored p y
        rw [← List.length_set (i := p) (a := y)] at e1
        have e2 := e1.stored q x
        rw [List.length_set, HR.out.2.1] at e2
        exact e2
      have h2 : Hid ((p + 1) + (q - 1) + 1 = l.length ∧ ((r.set p y).set q x).length = l.length ∧ ∀ t, t < l.length → ((r.set p y).set q x)[t]? = if t < p + 1 ∨ q - 1 < t then l[l.length - 1 - t]? else l[t]?) := by
        obtain ⟨e1, e2, e3⟩ := HR.out
        have ex := HX.out x rfl
        have ey := HY.out y rfl
        refine ⟨by omega, by simp [e2], fun t ht => ?_⟩
        rw [List.getElem?_set, List.getElem?_set, List.length_set]
        by_cases hq' : q = t
        · subst hq'
          rw [if_pos rfl, if_pos (by omega), if_pos (.inr (by omega)), show l.length - 1 - q = p by omega, ← ex, e3 p (by omega), if_neg (by omega)]
        · rw [if_neg hq']
          by_cases hp' : p = t
          · subst hp'
            rw [if_pos rfl, if_pos (by omega), if_pos (.inl (by omega)), show l.length - 1 - p = q by omega, ← ey, e3 q (by omega), if_neg (by omega)]
          · rw [if_neg hp', e3 t ht]
            by_cases hc : t < p ∨ q < t
            · rw [if_pos hc, if_pos (by omega)]
            · rw [if_neg hc, if_neg (by omega)]
      go_roundw
      case rel => exact ⟨p + 1, q - 1, (r.set p y).set q x, by go_num, by go_num, by omega, by omega, h2, h1, ((hb.setCell hbg _).setCell hbg _).drew, HS.out.trans (by show _ = _; simp)⟩
      case measure => simp [intOf] <;> omega
    · have h3 : r = l.reverse := by
        obtain ⟨e1, e2, e3⟩ := HR.out
        apply List.ext_getElem?
        intro t
        by_cases ht : t < l.length
        · rw [e3 t ht, List.getElem?_reverse ht]
          split
          · rfl
          · rw [show l.length - 1 - t = t by omega]
        · rw [List.getElem?_eq_none (by omega), List.getElem?_eq_none (by simp; omega)]
      have HE := Lib.hid h3
      clear h3 hcell hfz
      rw [hrl] at hown
      have HO := Lib.hid hown
      clear hown hrl
      go_wp2
      go_end0
      exact ⟨rfl, by rw [← HE.out]; exact HO.out, hb, HS.out⟩
end Go.Proofs.Ytbbpeggljhkjhaa
