/-
  Twin, Kept, Spoil: what the statements do with bytes.
-/
import Derived.Test.YtgknmmnffgikbaaByt
namespace Go.Proofs.Ytgknmmnffgikbaa
open Go.RowKit Go.Fd

/-- A twin: bytes in memory of their own, a mark behind. -/
def Twined (w : World) (base : Nat) (t : Value) (l : List UInt8) : Prop := ∃ g cap, t = .slice (some ⟨g, 0, none⟩) l.length cap ∧ l.length < cap ∧ base ≤ g ∧ OB w base (.slice (some ⟨g, 0, none⟩) (l.length + 1) cap) (l ++ [0x5a])

theorem Twined.mono {w w' : World} {base : Nat} {t : Value} {l : List UInt8} (h : Twined w base t l) (hb : Below w.heap.size w w') : Twined w' base t l := by
  obtain ⟨g, cap, h1, h2, h3, h4⟩ := h
  exact ⟨g, cap, h1, h2, h3, h4.mono hb⟩
theorem Twined.bs {w : World} {base : Nat} {t : Value} {l : List UInt8} (h : Twined w base t l) : Bs w t l := by
  obtain ⟨g, cap, rfl, h2, h3, h4⟩ := h
  refine ⟨by simp, _, _, rfl, by omega, (fun h => by cases h), fun j hj => ⟨g, 0, rfl, ?_⟩⟩
  have := World.ownsRow.cellAt (g := g) (cap := cap) (n := (l ++ [0x5a]).length) (by simpa [OB] using h4) j (by simp at hj ⊢; omega)
  rw [Nat.zero_add, this]
  exact List.getElem?_append_left (by simpa using hj)

theorem owned_size {w : World} {base g n cap : Nat} {l : List UInt8} (h : OB w base (.slice (some ⟨g, 0, none⟩) n cap) l) : n = l.length := by
  obtain ⟨h1, h2⟩ := h
  rcases h2 with ⟨h2, _⟩ | ⟨g', cap', cur, h2, _⟩
  · cases h2
  · simp at h2; exact h2.2.1

set_option maxRecDepth 100000 in
theorem twin_any (l : List UInt8) (v : Value) (w : World) (hl : l.length ≤ 1000000000) (hv : Bs w v l) :
    Calls Try.prog 16 #[v] w fun e w' => ∃ t, e = .returned t ∧ Twined w' w.heap.size t l ∧ Below w.heap.size w w' := by
  obtain ⟨m, a, cap, hm, rfl, hmc, _⟩ := hv.shape
  go_enter Try.func16, Try.ntmps16
  go_wp2_with (first
    | (with_reducible show wpList _ _ _ (⟨some 4, _, _, _, _, _⟩ :: _) _ _; go_must (refine wpList_catB (OB.nil _ w.heap.size) hv rfl rfl (by simp; omega) (Nat.le_refl _) ?_; intro v1 w1 hv1 _ hb1))
    | (with_reducible show wpList _ _ _ (⟨some 6, _, _, _, _, _⟩ :: _) _ _; go_must (refine wpList_pushB hv1 rfl rfl 0x5a rfl (by simp; omega) hb1.size ?_; intro v2 w2 hv2 _ hb2; obtain ⟨g, cap2, rfl, hg, _, hc2, _, _⟩ := hv2.open (by simp)))
    | (with_reducible show wpList _ _ _ (⟨some 9, _, _, _, _, _⟩ :: _) _ _; go_must (refine wpList_val rfl (exec_sliceTo (v' := .slice (some ⟨g, 0, none⟩) m cap2) (run_sliceTo_own g _ cap2 m (by have := hm.out; simp at hc2; omega)) rfl rfl) ?_)))
  go_ret
  have hm' := hm.out
  subst hm'
  simp at hc2 hv2
  exact ⟨_, rfl, ⟨g, cap2, rfl, by omega, hg, hv2⟩, hb1.trans hb2⟩

theorem grown_owns {w w' : World} {base g e size n : Nat} {v : Value} {xs : List Value} (h : w.ownsRow base e size v n xs) (hg : w.grownBy w' (some g)) (hne : ∀ k, v.ownBlock = some k → k ≠ g) : w'.ownsRow base e size v n xs := by
  refine h.kept hg ?_
  cases hv : v.ownBlock with
  | none => exact .inl rfl
  | some k => exact .inr (by have := hne k hv; intro e; exact this (Option.some.inj e))

theorem ob_push {w : World} {base g k cap : Nat} {r : List UInt8} (hk : k = r.length) (c : UInt8) (h : w.ownsRow base 5 1 (.slice (some ⟨g, 0, none⟩) (k + 1) cap) (k + 1) (r.map B ++ [B c])) : OB w base (.slice (some ⟨g, 0, none⟩) (k + 1) cap) (r ++ [c]) := by
  subst hk
  unfold OB
  simpa using h

set_option maxHeartbeats 1000000 in
set_option maxRecDepth 100000 in
theorem spoil_any (l : List UInt8) (base : Nat) (v : Value) (w : World) (hl : l.length ≤ 1000000000) (hv : OB w base v l) :
    Calls Try.prog 25 #[v] w fun e w' => e = .returned (.tuple #[]) ∧ w.grownBy w' v.ownBlock := by
  obtain ⟨m, a, cap, hm, rfl, hmc, hnil⟩ := hv.shape
  cases a with
  | none =>
    obtain rfl := hnil rfl
    obtain rfl : m = 0 := by omega
    go_enter Try.func25, Try.ntmps25
    go_wp2
    refine wp_loop_rounds 1 ?_
    rw [rounds_succ]
    go_wp2
    refine wp_loop_rounds 1 ?_
    rw [rounds_succ]
    go_wp2
    go_end0
    exact ⟨rfl, World.grownBy.refl _ _⟩
  | some ad =>
    have hown := hv
    obtain ⟨_, h2⟩ := hown
    rcases h2 with ⟨h2, _⟩ | ⟨g, cap', cur, h2, hbg, hgw, hnc, hcm, _, _⟩
    · cases h2
    simp only [Value.slice.injEq, Option.some.injEq] at h2
    obtain ⟨rfl, rfl, rfl⟩ := h2
    unfold maxLen at hcm
    clear hm
    by_cases hmin : cap ≤ l.length + 2000
    all_goals
      go_enter Try.func25, Try.ntmps25
      go_wp2
      go_loopw [0] (fun v wr => ∃ (k : Nat) (r : List UInt8), v = .slice (some ⟨g, 0, none⟩) k cap ∧ k ≤ cap ∧ Hid (k = r.length) ∧ k ≤ 2000 + l.length ∧ OB wr base (.slice (some ⟨g, 0, none⟩) k cap) r ∧ w.grownBy wr (some g)) (fun v _ => cap - lenV v)
      case atStart => exact ⟨l.length, l, rfl, hmc, rfl, by omega, hv, World.grownBy.refl _ _⟩
      case round =>
        obtain ⟨k, r, rfl, hk, HK, hk2, hown, hg⟩ := hrel
        have HO := Lib.hid (show wr.ownsRow base 5 1 (.slice (some ⟨g, 0, none⟩) k cap) k (r.map B) by have := hown; unfold OB at this; rw [← HK.out] at this; exact this)
        have HOB := Lib.hid hown
        clear hown
        by_cases hlt : k < cap ∧ k < l.length + 2000
        · obtain ⟨hlt1, hlt2⟩ := hlt
          go_wp2_with (at_builtin; go_must (refine wpList_pushFits TB HO.out rfl rfl rfl rfl hlt1 ?_; intro w1 hw1 hg1))
          go_roundw
          case rel => exact ⟨k + 1, r ++ [0], rfl, by omega, by have := HK.out; show _ = _; simp; omega, by omega, ob_push HK.out 0 hw1, grownBy_trans hg hg1⟩
          case measure => simp [lenV] <;> omega
        · have HLT := Lib.hid hlt
          have hge : cap ≤ k ∨ l.length + 2000 ≤ k := by omega
          clear hlt
          have HGE := Lib.hid hge
          first
            | (have hx : cap ≤ k := by omega)
            | (have hx : l.length + 2000 ≤ k := by omega)
          clear hge
          go_wp2
          go_loopw [3] (fun i wr => ∃ (i' : Nat) (r : List UInt8), i = .int .i64 i' ∧ i' ≤ k ∧ Hid (k = r.length) ∧ OB wr base (.slice (some ⟨g, 0, none⟩) k cap) r ∧ w.grownBy wr (some g)) (fun i _ => k - (intOf i).toNat)
          case atStart => exact ⟨0, r, rfl, Nat.zero_le _, HK, HOB.out, hg⟩
          case round =>
            obtain ⟨i, r2, rfl, hi, HK2, hown2, hg2⟩ := hrel
            by_cases hlt2 : i < k
            · have hr2 := HK2.out
              obtain ⟨g', cap', e1, _, _, _, hcell, hfz⟩ := hown2.open (by omega)
              simp only [Value.slice.injEq, Option.some.injEq, Addr.mk.injEq, and_true] at e1
              obtain ⟨rfl, _, rfl⟩ := e1
              have hci := hcell i (by omega)
              have hfi := hfz i
              have HO2 := Lib.hid hown2
              clear hcell hfz hown2 hr2
              go_wp2
              go_roundw
              case rel => exact ⟨i + 1, r2.set i 0xee, by go_num, by omega, by show _ = _; rw [List.length_set]; exact HK2.out, by have := HO2.out; rw [HK2.out] at this ⊢; exact this.stored i 0xee, grownBy_trans hg2 (grownBy_setCell _ _ _ _)⟩
              case measure => simp [intOf] <;> omega
            · go_wp2
              go_end0
              exact ⟨rfl, hg2⟩

set_option maxRecDepth 100000 in
theorem kept_any (l : List UInt8) (base : Nat) (t v : Value) (w : World) (hl : l.length ≤ 1000000000) (ht : Twined w base t l) (hv : Bs w v l) :
    Calls Try.prog 24 #[t, v] w fun e w' => e = .returned (.bool true) ∧ w = w' := by
  have hs1 := run_str ht.bs
  have hs2 := run_str hv
  obtain ⟨g, cap, rfl, h2, h3, h4⟩ := ht
  obtain ⟨m, a, cap2, hm, rfl, hmc, _⟩ := hv.shape
  have hcell : w.cell? ⟨g, m, none⟩ = some (.int .u8 90) := by
    rw [hm.out]
    have := World.ownsRow.cellAt (g := g) (cap := cap) (n := (l ++ [0x5a]).length) (by simpa [OB] using h4) l.length (by simp)
    rw [this]
    simp
  have hsl := run_sliceTo_own g l.length cap (m + 1) (by have := hm.out; omega)
  rw [show ((m + 1 : Nat) : Int) = (m : Int) + 1 by omega] at hsl
  have HSL := Lib.hid hsl
  have hmb : m ≤ 1000000000 := by have := hm.out; omega
  clear hsl h4 hv
  go_enter Try.func24, Try.ntmps24
  go_wp2_with (with_reducible show wpList _ _ _ (⟨some 15, _, _, _, _, _⟩ :: _) _ _; go_must (refine wpList_val rfl (exec_sliceTo HSL.out rfl rfl) ?_))
  go_ret
  exact ⟨rfl, rfl⟩
end Go.Proofs.Ytgknmmnffgikbaa
