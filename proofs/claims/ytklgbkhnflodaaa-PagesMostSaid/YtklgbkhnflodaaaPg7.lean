/-
  Memory of pages: bytes are set.
-/
import Derived.Test.YtklgbkhnflodaaaPg6
import Derived.Test.YtklgbkhnflodaaaNum
namespace Go.Proofs.Ytklgbkhnflodaaa
open Go.RowKit Go.Fd

def okV (r : Nat) : Option (Nat × Nat × List UInt8) → Bool
  | some x => x.2.1 &&& r == r
  | none => false
def mayFromV (V : Vw) (r : Nat) : Nat → Nat → Bool
  | _, 0 => true
  | k, n + 1 => okV r (findV V k) && mayFromV V r (k + 1) n
/-- May the bytes be used so? -/
def mayV (V : Vw) (a n r : Nat) : Bool :=
  if n = 0 then true else if 18446744073709551616 < a + n then false else mayFromV V r (a / 4096) ((a + n - 1) / 4096 + 1 - a / 4096)
theorem may_vw (L : List Ent) (a n r : Nat) : mayB L a n r = mayV (vw L) a n r := by
  unfold mayB mayV
  have : ∀ k m, mayFrom L r k m = mayFromV (vw L) r k m := by
    intro k m
    induction m generalizing k with
    | zero => rfl
    | succ m ih =>
      rw [mayFrom, mayFromV, ih, findV_vw]
      cases findE L k <;> rfl
  rw [this]

theorem mayFromV_get {V : Vw} {r : Nat} : ∀ {m k : Nat}, mayFromV V r k m = true → ∀ j, k ≤ j → j < k + m → okV r (findV V j) = true
  | 0, k, _, j, h1, h2 => by omega
  | m + 1, k, h, j, h1, h2 => by
    rw [mayFromV, Bool.and_eq_true] at h
    by_cases e : j = k
    · subst e; exact h.1
    · exact mayFromV_get h.2 j (by omega) (by omega)
theorem mayFromV_mk {V : Vw} {r : Nat} : ∀ {m k : Nat}, (∀ j, k ≤ j → j < k + m → okV r (findV V j) = true) → mayFromV V r k m = true
  | 0, k, _ => rfl
  | m + 1, k, h => by
    rw [mayFromV, h k (Nat.le_refl _) (by omega), Bool.true_and]
    exact mayFromV_mk fun j h1 h2 => h j (by omega) (by omega)
/-- Each byte lies in a page that may be used so. -/
theorem mayV_iff (V : Vw) (a n r : Nat) : mayV V a n r = true ↔ n = 0 ∨ (a + n ≤ 18446744073709551616 ∧ ∀ i, i < n → okV r (findV V ((a + i) / 4096)) = true) := by
  unfold mayV
  by_cases h0 : n = 0
  · simp [h0]
  rw [if_neg h0]
  by_cases h1 : 18446744073709551616 < a + n
  · rw [if_pos h1]
    simp; omega
  rw [if_neg h1]
  constructor
  · intro h
    refine .inr ⟨by omega, fun i hi => mayFromV_get h _ (Nat.div_le_div_right (by omega)) ?_⟩
    have : (a + i) / 4096 ≤ (a + n - 1) / 4096 := Nat.div_le_div_right (by omega)
    omega
  · rintro (h | ⟨_, h⟩)
    · exact absurd h h0
    · refine mayFromV_mk fun j h2 h3 => ?_
      have hj : j ≤ (a + n - 1) / 4096 := by omega
      by_cases e : j = a / 4096
      · have := h 0 (by omega)
        rw [Nat.add_zero, ← e] at this
        exact this
      · have := h (j * 4096 - a) (by omega)
        rw [show (a + (j * 4096 - a)) / 4096 = j by omega] at this
        exact this

/-- A byte is set. -/
def setBV (V : Vw) (a : Nat) (x : UInt8) : Vw := V.map fun p => if p.1 = a / 4096 then (p.1, p.2.1, p.2.2.set (a % 4096) x) else p
def setV : Vw → Nat → List UInt8 → Vw
  | V, _, [] => V
  | V, a, x :: l => setV (setBV V a x) (a + 1) l
theorem setV_snoc (V : Vw) (a : Nat) (l : List UInt8) (x : UInt8) : setV V a (l ++ [x]) = setBV (setV V a l) (a + l.length) x := by
  induction l generalizing V a with
  | nil => rfl
  | cons y l ih => rw [List.cons_append, setV, ih, setV, List.length_cons, Nat.add_assoc, Nat.add_comm 1]

theorem findV_set (V : Vw) (a : Nat) (x : UInt8) (k : Nat) : findV (setBV V a x) k = (findV V k).map fun p => if k = a / 4096 then (p.1, p.2.1, p.2.2.set (a % 4096) x) else p := by
  unfold findV setBV
  induction V with
  | nil => rfl
  | cons p V ih =>
    rw [List.map_cons, List.find?_cons, List.find?_cons]
    by_cases h1 : p.1 = k
    · rw [show ((if p.1 = a / 4096 then (p.1, p.2.1, p.2.2.set (a % 4096) x) else p).1 == k) = true by split <;> simpa using h1, show (p.1 == k) = true by simpa using h1]
      simp [h1]
    · rw [show ((if p.1 = a / 4096 then (p.1, p.2.1, p.2.2.set (a % 4096) x) else p).1 == k) = false by split <;> simpa using h1, show (p.1 == k) = false by simpa using h1]
      exact ih
theorem findV_setV_some (l : List UInt8) : ∀ (V : Vw) (a k : Nat), (findV (setV V a l) k).isSome = (findV V k).isSome := by
  induction l with
  | nil => intro V a k; rfl
  | cons x l ih => intro V a k; rw [setV, ih, findV_set]; simp

theorem vw_setB {L : List Ent} {a : Nat} {e0 : Ent} (hn : (L.map (·.n)).Nodup) (he : findE L (a / 4096) = some e0) (x : UInt8) : vw (setE L e0.n e0.r (e0.c.set (a % 4096) x)) = setBV (vw L) a x := by
  obtain ⟨hm, hk⟩ := findE_mem he
  unfold vw setE setBV
  rw [List.map_map, List.map_map]
  refine List.map_congr_left fun e hme => ?_
  simp only [Function.comp_apply]
  by_cases h : e.n = e0.n
  · obtain rfl := nodup_inj hn hme hm h
    simp [hk]
  · rw [if_neg h, if_neg (by rw [← hk]; exact h)]

theorem put_mem {base bp : Nat} {F : Nat → Prop} {V : Vw} (w : World) (h : Mem w base bp F V) (a : Nat) (ha : a < 18446744073709551616) (x : UInt8) (he : (findV V (a / 4096)).isSome = true) :
    Calls Try.prog 24 #[ptr bp, .int .u64 a, .int .u8 x.toNat] w fun e w' => e = .returned (.tuple #[]) ∧ Mem w' base bp F (setBV V a x) ∧ Stirs F w w' := by
  obtain ⟨bm, L, h1, rfl, h3⟩ := h
  rw [findV_vw] at he
  cases hf : findE L (a / 4096) with
  | none => rw [hf] at he; cases he
  | some e0 =>
    refine (put_is w h1 a ha x e0 hf).mono ?_
    rintro e w' ⟨h4, h5, h6, _⟩
    refine ⟨h4, ⟨bm, _, h5, vw_setB h1.nodup hf x, fun k hk => h3 k ((foot_set ..).1 hk)⟩, h6.sub fun k _ hk => ?_⟩
    subst hk
    exact h3 _ (.inr (.inr (List.mem_map.2 ⟨e0, (findE_mem hf).1, rfl⟩)))
theorem may_mem {base bp : Nat} {F : Nat → Prop} {V : Vw} (w : World) (h : Mem w base bp F V) (a n r : Nat) (ha : a < 18446744073709551616) (hn : n ≤ 1000000000) (hr : r < 8) :
    Calls Try.prog 23 #[ptr bp, .int .u64 a, .int .i64 n, .int .i64 r] w fun e w' => e = .returned (.bool (mayV V a n r)) ∧ w = w' := by
  obtain ⟨bm, L, h1, rfl, h3⟩ := h
  rw [← may_vw]
  exact may_is w h1 a n r ha hn hr
theorem none_mem {base bp : Nat} {F : Nat → Prop} {V : Vw} (w : World) (h : Mem w base bp F V) : Calls Try.prog 21 #[ptr bp] w fun e w' => e = .returned (.bool false) ∧ w = w' := by
  obtain ⟨bm, L, h1, rfl, h3⟩ := h
  exact none_is w h1

/-- Set: what there is behind it, and its error. -/
def setR (V : Vw) (a : Nat) (l : List UInt8) : Vw × Int := if mayV V a l.length 0 = true then (setV V a l, 0) else (V, 21)

theorem set_nil (v : Value) (w : World) (a : Nat) : Calls Try.prog 13 #[.pointer none, .int .u64 a, v] w fun e w' => e = .returned (.int .i64 21) ∧ w = w' := by
  go_enter Try.func13, Try.ntmps13
  go_wp2_with (go_at_call 21; go_must (refine (none_nil _).mono ?_; rintro e w1 ⟨rfl, rfl⟩))
  go_ret
  exact ⟨rfl, rfl⟩

set_option maxRecDepth 100000 in
theorem set_mem {base bp : Nat} {F : Nat → Prop} {V : Vw} (w : World) (h : Mem w base bp F V) (v : Value) (l : List UInt8) (hv : Bs w v l) (hl : l.length ≤ 1000000000) (hF : ∀ k, v.ownBlock = some k → ¬ F k) (a : Nat) (ha : a < 18446744073709551616) :
    Calls Try.prog 13 #[ptr bp, .int .u64 a, v] w fun e w' => e = .returned (.int .i64 (setR V a l).2) ∧ Mem w' base bp F (setR V a l).1 ∧ Stirs F w w' := by
  have HO := Lib.hid hv.open
  have HV := Lib.hid hv
  have HF := Lib.hid hF
  have HM := Lib.hid h
  obtain ⟨ad, cap, rfl, hcap, _, _⟩ := hv.open
  clear hF hv h
  cases hm : mayV V a l.length 0 with
  | false =>
    have HR := Lib.hid (show setR V a l = (V, 21) by unfold setR; rw [hm]; rfl)
    go_enter Try.func13, Try.ntmps13
    go_wp2_with (first
      | (go_at_call 21; go_must (refine (none_mem _ HM.out).mono ?_; rintro e w1 ⟨rfl, rfl⟩))
      | (go_at_call 23; go_must (refine (may_mem _ HM.out a l.length 0 ha hl (by omega)).mono ?_; rintro e w1 ⟨rfl, rfl⟩)))
    go_ret
    rw [HR.out]
    exact ⟨rfl, HM.out, Stirs.refl _ _⟩
  | true =>
    have HR := Lib.hid (show setR V a l = (setV V a l, 0) by unfold setR; rw [hm]; rfl)
    have hi := (mayV_iff V a l.length 0).1 hm
    have HI := Lib.hid hi
    clear hi
    go_enter Try.func13, Try.ntmps13
    go_wp2_with (first
      | (go_at_call 21; go_must (refine (none_mem _ HM.out).mono ?_; rintro e w1 ⟨rfl, rfl⟩))
      | (go_at_call 23; go_must (refine (may_mem _ HM.out a l.length 0 ha hl (by omega)).mono ?_; rintro e w1 ⟨rfl, rfl⟩)))
    clear hm
    go_loopw [21] (fun i wr => ∃ k : Nat, i = .int .i64 k ∧ k ≤ l.length ∧ Hid (Mem wr base bp F (setV V a (l.take k))) ∧ Hid (Stirs F w wr)) (fun i _ => l.length - (intOf i).toNat)
    case atStart => exact ⟨0, rfl, Nat.zero_le _, HM.out, Stirs.refl _ _⟩
    case round =>
      obtain ⟨k, rfl, hk, HK, HS⟩ := hrel
      by_cases hlt : k < l.length
      · obtain ⟨ad', cap', e1, _, _, hc⟩ := HO.out
        cases e1
        obtain ⟨b, off, rfl, hcell⟩ := hc k hlt
        have hc1 := HS.out.cell hcell (HF.out b rfl)
        have hak : a + k < 18446744073709551616 := by rcases HI.out with h | h <;> omega
        have HSM := Lib.hid (show (findV (setV V a (l.take k)) ((a + k) / 4096)).isSome = true by
          rw [findV_setV_some]
          rcases HI.out with h | h
          · omega
          · have := h.2 k hlt
            cases hf : findV V ((a + k) / 4096) with
            | none => rw [hf] at this; cases this
            | some x => rfl)
        have HT := Lib.hid (take_snoc' l k (l[k]?.getD 0) (by rw [List.getElem?_eq_getElem hlt]; rfl))
        have HTL := Lib.hid (show (l.take k).length = k by rw [List.length_take]; omega)
        clear hcell hc
        generalize l[k]?.getD 0 = x at *
        go_wp2_with (go_at_call 24; go_must (refine (put_mem _ HK.out (a + k) hak x HSM.out).mono ?_; rintro e w1 ⟨rfl, hm1, hs1⟩))
        go_roundw
        case rel => exact ⟨k + 1, by go_num, by omega, by rw [HT.out, setV_snoc, HTL.out]; exact hm1, HS.out.trans hs1 fun _ _ h => h⟩
        case measure => simp [intOf] <;> omega
      · obtain rfl : k = l.length := by omega
        go_wp2
        go_ret
        have := HK.out
        rw [List.take_length] at this
        rw [HR.out]
        exact ⟨rfl, this, HS.out⟩
end Go.Proofs.Ytklgbkhnflodaaa
