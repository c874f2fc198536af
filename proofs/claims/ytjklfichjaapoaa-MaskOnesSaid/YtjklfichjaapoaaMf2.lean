/-
  Bit masks: the four statements.
-/
import Derived.Test.YtjklfichjaapoaaMf1
import Derived.Sort.Walk13a
import Derived.Sort.AssemblyPlain
import Derived.Deep.Cut
import Derived.Deep.LoopGhost
import Derived.Test.YtjklfichjaapoaaRows
import Derived.ProofKit
import Derived.SizedLaws
import Derived.OpenShut
import Derived.Lib.SmallJoins
import Derived.Deep.Fields
namespace Go.Proofs.Ytjklfichjaapoaa
open Go.RowKit Go.Fd Go.Sort
section
variable {α : Type} [Inhabited α]
theorem scU_go (p : α → Bool) (d : Array α) (j i : Nat) (h : i ≤ j) (hp : p d[i]! = true) : scanUp p d j i = scanUp p d j (i + 1) := by rw [scanUp, if_pos (by simp [h, hp])]
theorem scU_end (p : α → Bool) (d : Array α) (j i : Nat) (h : ¬ i ≤ j ∨ p d[i]! = false) : scanUp p d j i = i := by
  rw [scanUp, if_neg]
  rcases h with h | h <;> simp [h]
theorem scD_go (p : α → Bool) (d : Array α) (i j : Nat) (h : i ≤ j) (h0 : 0 < j) (hp : p d[j]! = true) : scanDown p d i j = scanDown p d i (j - 1) := by
  cases j with
  | zero => omega
  | succ k => rw [scanDown, if_pos (by simp [h, hp])]; rfl
theorem scD_end (p : α → Bool) (d : Array α) (i j : Nat) (h : ¬ i ≤ j ∨ p d[j]! = false) : scanDown p d i j = j := by
  cases j with
  | zero => rfl
  | succ k =>
    rw [scanDown, if_neg]
    rcases h with h | h <;> simp [h]
variable (lt : α → α → Bool)
theorem pe_stop (a i j i2 j2 : Nat) (d : Array α) (h1 : scanUp (fun x => !lt d[a]! x) d j i = i2) (h2 : scanDown (fun x => lt d[a]! x) d i2 j = j2) (h : i2 > j2) : partEqLoop lt a i j d = (i2, d) := by
  subst h1 h2
  rw [partEqLoop_eq, if_pos h]
theorem pe_go (a i j i2 j2 : Nat) (d : Array α) (h1 : scanUp (fun x => !lt d[a]! x) d j i = i2) (h2 : scanDown (fun x => lt d[a]! x) d i2 j = j2) (h : ¬ i2 > j2) : partEqLoop lt a i j d = partEqLoop lt a (i2 + 1) (j2 - 1) (swp d i2 j2) := by
  subst h1 h2
  rw [partEqLoop_eq, if_neg h]
theorem pl_stop (a i j i2 j2 : Nat) (d : Array α) (h1 : scanUp (fun x => lt x d[a]!) d j i = i2) (h2 : scanDown (fun x => !lt x d[a]!) d i2 j = j2) (h : i2 > j2) : partLoop lt a i j d = (j2, d) := by
  subst h1 h2
  rw [partLoop_eq, if_pos h]
theorem pl_go (a i j i2 j2 : Nat) (d : Array α) (h1 : scanUp (fun x => lt x d[a]!) d j i = i2) (h2 : scanDown (fun x => !lt x d[a]!) d i2 j = j2) (h : ¬ i2 > j2) : partLoop lt a i j d = partLoop lt a (i2 + 1) (j2 - 1) (swp d i2 j2) := by
  subst h1 h2
  rw [partLoop_eq, if_neg h]
theorem pt_stop (a b p i2 j2 : Nat) (d : Array α) (h1 : scanUp (fun x => lt x (swp d a p)[a]!) (swp d a p) (b - 1) (a + 1) = i2) (h2 : scanDown (fun x => !lt x (swp d a p)[a]!) (swp d a p) i2 (b - 1) = j2) (h : i2 > j2) :
    partition lt d a b p = (j2, true, swp (swp d a p) j2 a) := by
  subst h1 h2
  unfold partition
  simp only []
  rw [if_pos h]
theorem pt_go (a b p i2 j2 : Nat) (d : Array α) (h1 : scanUp (fun x => lt x (swp d a p)[a]!) (swp d a p) (b - 1) (a + 1) = i2) (h2 : scanDown (fun x => !lt x (swp d a p)[a]!) (swp d a p) i2 (b - 1) = j2) (h : ¬ i2 > j2) :
    partition lt d a b p = ((partLoop lt a (i2 + 1) (j2 - 1) (swp (swp d a p) i2 j2)).1, false, swp (partLoop lt a (i2 + 1) (j2 - 1) (swp (swp d a p) i2 j2)).2 (partLoop lt a (i2 + 1) (j2 - 1) (swp (swp d a p) i2 j2)).1 a) := by
  subst h1 h2
  unfold partition
  simp only []
  rw [if_neg h]
end
set_option maxHeartbeats 4000000 in
set_option maxRecDepth 100000 in
theorem uPartEq_any (t g cap n a b p : Nat) (c : Array Value) (d : Array Int) (w : World) (h : UAt t g c w d) (hn : d.size = n) (hab : a + 1 < b) (hpa : a ≤ p) (hpb : p < b) (hb : b ≤ n) (hs : n < 1000000000) :
    Calls Try.prog 36 #[.slice (some ⟨g, 0, none⟩) n cap, .int .i64 (a : Int), .int .i64 (b : Int), .int .i64 (p : Int)] w fun e w' => e = .returned (.int .i64 ((partitionEqual ltInt d a b p).1 : Nat)) ∧ UB t g c w n w' (partitionEqual ltInt d a b p).2 := by
  have H := Lib.hid (UB.mk' h hn)
  clear h hn
  obtain ⟨x, hx⟩ : ∃ x, x = d[p]! := ⟨_, rfl⟩
  obtain ⟨y, hy⟩ : ∃ y, y = d[a]! := ⟨_, rfl⟩
  have cx := H.out.cell (show p < n by omega) hx
  have cy := H.out.cell (show a < n by omega) hy
  have fx := H.out.free p
  have fy := H.out.free a
  obtain ⟨v', cz⟩ := cell?_setCell_some (w := w) (p := ⟨g, a, none⟩) (x := .int .u64 x) (q := ⟨g, p, none⟩) cx
  have HSW1 := Lib.hid (H.out.drew.swap (i := a) (j := p) (by omega) (by omega) hx hy)
  clear hx hy
  go_enter Try.func36, Try.ntmps36
  go_wp2
  go_region
  all_goals go_wp2
  generalize hd1 : swp d a p = dd at *
  have HD1 := Lib.hid hd1
  have HU1 := HSW1
  clear hd1 cx cy fx fy cz HSW1
  have HPE := Lib.hid (show partEqLoop ltInt a (a + 1) (b - 1) dd = partitionEqual ltInt d a b p by rw [← HD1.out]; rfl)
  go_loopw [9, 10] (fun vi vj wr => ∃ (i j : Nat) (dk : Array Int), vi = .int .i64 (i : Int) ∧ vj = .int .i64 (j : Int) ∧ a < i ∧ i ≤ j + 1 ∧ j < b ∧ Hid (UB t g c w n wr dk) ∧ Hid (partEqLoop ltInt a i j dk = partitionEqual ltInt d a b p)) (fun vi vj _ => ((intOf vj).toNat + 1) - (intOf vi).toNat)
  case atStart => exact ⟨a + 1, b - 1, dd, by go_num, int_eq (by omega), by omega, by omega, by omega, HU1, HPE⟩
  case round =>
    obtain ⟨i, j, dk, rfl, rfl, hai, hij, hjb, HU, HO⟩ := hrel
    obtain ⟨va, hva⟩ : ∃ v, v = dk[a]! := ⟨_, rfl⟩
    have HVA := Lib.hid hva
    clear hva
    go_wp2
    go_loopw [9] (fun vi wx => ∃ i2 : Nat, vi = .int .i64 (i2 : Int) ∧ i ≤ i2 ∧ i2 ≤ j + 1 ∧ Hid (UB t g c w n wx dk) ∧ Hid (scanUp (fun x => !ltInt dk[a]! x) dk j i2 = scanUp (fun x => !ltInt dk[a]! x) dk j i)) (fun vi _ => j + 1 - (intOf vi).toNat)
    case atStart => exact ⟨i, rfl, Nat.le_refl _, hij, HU, Lib.hid rfl⟩
    case round =>
      obtain ⟨i2, rfl, hii, hi2, HU, HSC⟩ := hrel
      by_cases hle : i2 ≤ j
      · skip
        have l1 : decide (i2 ≤ j) = true := decide_eq_true (by omega)
        have l2 : decide ((i2 : Int) ≤ (j : Int)) = true := by simp; omega
        obtain ⟨x, hx⟩ : ∃ x, x = dk[i2]! := ⟨_, rfl⟩
        have cx := HU.out.cell (j := i2) (by omega) hx
        have cva := HU.out.cell (j := a) (by omega) HVA.out
        have HX := Lib.hid hx
        clear hx
        go_wp2
        go_quiet (first | (go_at_call 35; refine Calls.quiet_of_same (uLess_any _ _ _)))
        cases hl : ltInt va x with
        | false =>
          have HL := Lib.hid hl
          go_wp2
          go_roundw
          case rel => exact ⟨i2 + 1, by go_num, by omega, by omega, Lib.hid (HU.out.drewN nq), Lib.hid (by rw [← HSC.out]; exact (scU_go _ dk j i2 hle (by show (!ltInt dk[a]! dk[i2]!) = true; rw [← HVA.out, ← HX.out, HL.out]; rfl)).symm)⟩
          case measure => simp [intOf] <;> omega
        | true =>
          have HI := Lib.hid (show scanUp (fun x => !ltInt dk[a]! x) dk j i = i2 by rw [← HSC.out]; exact scU_end _ dk j i2 (.inr (by show (!ltInt dk[a]! dk[i2]!) = false; rw [← HVA.out, ← HX.out, hl]; rfl)))
          have HU2 := Lib.hid (HU.out.drewN nq)
          have HLX := Lib.hid (show ltInt dk[a]! dk[i2]! = true by rw [← HVA.out, ← HX.out]; exact hl)
          clear hl cx cva
          go_wp2
          generalize wr.drewN nq = wz at *
          go_loopw [10] (fun vj wx => ∃ j2 : Nat, vj = .int .i64 (j2 : Int) ∧ i2 ≤ j2 + 1 ∧ j2 ≤ j ∧ Hid (UB t g c w n wx dk) ∧ Hid (scanDown (fun x => ltInt dk[a]! x) dk i2 j2 = scanDown (fun x => ltInt dk[a]! x) dk i2 j)) (fun vj _ => (intOf vj).toNat)
          case atStart => exact ⟨j, rfl, by omega, Nat.le_refl _, HU2, Lib.hid rfl⟩
          case round =>
            obtain ⟨j2, rfl, hij2, hjj, HU, HSD⟩ := hrel
            by_cases hle2 : i2 ≤ j2
            · skip
              have l1 : decide (i2 ≤ j2) = true := decide_eq_true (by omega)
              have l2 : decide ((i2 : Int) ≤ (j2 : Int)) = true := by simp; omega
              obtain ⟨x, hx⟩ : ∃ x, x = dk[j2]! := ⟨_, rfl⟩
              have cx := HU.out.cell (j := j2) (by omega) hx
              have cva := HU.out.cell (j := a) (by omega) HVA.out
              have HX := Lib.hid hx
              clear hx
              have cy := HU.out.cell (j := i2) (by omega) rfl
              generalize hyy : dk[i2]! = y at cy
              have HY := Lib.hid hyy
              have fy := HU.out.free i2
              have fx := HU.out.free j2
              clear hyy
              go_wp2
              go_quiet (first | (go_at_call 35; refine Calls.quiet_of_same (uLess_any _ _ _)))
              cases hl : ltInt va x with
              | true =>
                have HL := Lib.hid hl
                go_wp2
                go_roundw
                case rel => exact ⟨j2 - 1, int_eq (by omega), by omega, by omega, Lib.hid (HU.out.drewN nq), Lib.hid (by rw [← HSD.out]; exact (scD_go _ dk i2 j2 hle2 (by omega) (by show ltInt dk[a]! dk[j2]! = true; rw [← HVA.out, ← HX.out]; exact HL.out)).symm)⟩
                case measure => simp [intOf] <;> omega
              | false =>
                have HJ := Lib.hid (show scanDown (fun x => ltInt dk[a]! x) dk i2 j = j2 by rw [← HSD.out]; exact scD_end _ dk i2 j2 (.inr (by show ltInt dk[a]! dk[j2]! = false; rw [← HVA.out, ← HX.out]; exact hl)))
                have hne : i2 ≠ j2 := fun e => by
                  have h1 := HLX.out
                  rw [e, ← HVA.out, ← HX.out, hl] at h1
                  cases h1
                have HG := Lib.hid (pe_go ltInt a i j i2 j2 dk HI.out HJ.out (by omega))
                have d9 : decide (i2 > j2) = false := decide_eq_false (by omega)
                have d8 : decide ((i2 : Int) > (j2 : Int)) = false := by simp; omega
                have HSW := Lib.hid (fun q => (HU.out.drewN q).swap (i := i2) (j := j2) (by omega) (by omega) HX.out HY.out.symm)
                clear hl
                go_wp2
                go_region
                all_goals go_wp2
                go_roundw
                case rel => exact ⟨i2 + 1, j2 - 1, swp dk i2 j2, by go_num, int_eq (by omega), by omega, by omega, by omega, Lib.hid (HSW.out _), Lib.hid (by rw [← HO.out]; exact HG.out.symm)⟩
                case measure => simp [intOf] <;> omega
            · skip
              have l1 : decide (i2 ≤ j2) = false := decide_eq_false (by omega)
              have l2 : decide ((i2 : Int) ≤ (j2 : Int)) = false := by simp; omega
              have HJ := Lib.hid (show scanDown (fun x => ltInt dk[a]! x) dk i2 j = j2 by rw [← HSD.out]; exact scD_end _ dk i2 j2 (.inl hle2))
              have HG := Lib.hid (pe_stop ltInt a i j i2 j2 dk HI.out HJ.out (by omega))
              have d9 : decide (i2 > j2) = true := decide_eq_true (by omega)
              have d8 : decide ((i2 : Int) > (j2 : Int)) = true := by simp; omega
              go_wp2
              go_quiet (fail)
              have HUE := Lib.hid (HU.out.drewN nq)
              go_wp2
              go_ret
              rw [← HO.out, HG.out]
              exact ⟨rfl, HUE.out⟩
      · skip
        have l1 : decide (i2 ≤ j) = false := decide_eq_false (by omega)
        have l2 : decide ((i2 : Int) ≤ (j : Int)) = false := by simp; omega
        have HI := Lib.hid (show scanUp (fun x => !ltInt dk[a]! x) dk j i = i2 by rw [← HSC.out]; exact scU_end _ dk j i2 (.inl hle))
        have HU2 := Lib.hid (HU.out.drewN 1)
        go_wp2
        go_quiet (fail)
        go_wp2
        have HU3 := Lib.hid (HU.out.drewN nq)
        go_loopw [10] (fun vj wx => ∃ j2 : Nat, vj = .int .i64 (j2 : Int) ∧ j2 = j ∧ Hid (UB t g c w n wx dk)) (fun vj _ => (intOf vj).toNat)
        case atStart => exact ⟨j, rfl, rfl, HU3⟩
        case round =>
          obtain ⟨j2, rfl, rfl, HU⟩ := hrel
          have HJ := Lib.hid (show scanDown (fun x => ltInt dk[a]! x) dk i2 j2 = j2 from scD_end _ dk i2 j2 (.inl hle))
          have HG := Lib.hid (pe_stop ltInt a i j2 i2 j2 dk HI.out HJ.out (by omega))
          have d9 : decide (i2 > j2) = true := decide_eq_true (by omega)
          have d8 : decide ((i2 : Int) > (j2 : Int)) = true := by simp; omega
          go_wp2
          go_quiet (fail)
          have HUE := Lib.hid (HU.out.drewN nq)
          go_wp2
          go_ret
          rw [← HO.out, HG.out]
          exact ⟨rfl, HUE.out⟩
set_option maxHeartbeats 4000000 in
set_option maxRecDepth 100000 in
theorem uPart_any (t g cap n a b p : Nat) (c : Array Value) (d : Array Int) (w : World) (h : UAt t g c w d) (hn : d.size = n) (hab : a + 1 < b) (_hpa : a ≤ p) (hpb : p < b) (hb : b ≤ n) (hs : n < 1000000000) :
    Calls Try.prog 37 #[.slice (some ⟨g, 0, none⟩) n cap, .int .i64 (a : Int), .int .i64 (b : Int), .int .i64 (p : Int)] w fun e w' => e = .returned (.tuple #[.int .i64 ((partition ltInt d a b p).1 : Nat), .bool (partition ltInt d a b p).2.1]) ∧ UB t g c w n w' (partition ltInt d a b p).2.2 := by
  have H := Lib.hid (UB.mk' h hn)
  clear h hn
  obtain ⟨J, hJ⟩ : ∃ J, J = b - 1 := ⟨_, rfl⟩
  have hJb : J + 1 = b := by omega
  have eJ : (b : Int) - 1 = (J : Int) := by omega
  have HJ0 := Lib.hid hJ
  clear hJ
  obtain ⟨x, hx⟩ : ∃ x, x = d[p]! := ⟨_, rfl⟩
  obtain ⟨y, hy⟩ : ∃ y, y = d[a]! := ⟨_, rfl⟩
  have cx := H.out.cell (show p < n by omega) hx
  have cy := H.out.cell (show a < n by omega) hy
  have fx := H.out.free p
  have fy := H.out.free a
  obtain ⟨v', cz⟩ := cell?_setCell_some (w := w) (p := ⟨g, a, none⟩) (x := .int .u64 x) (q := ⟨g, p, none⟩) cx
  have HSW1 := Lib.hid (H.out.drew.swap (i := a) (j := p) (by omega) (by omega) hx hy)
  clear hx hy
  go_enter Try.func37, Try.ntmps37
  go_wp2
  go_region
  all_goals go_wp2
  generalize hd1 : swp d a p = dd at *
  have HD1 := Lib.hid hd1
  have HU1 := HSW1
  clear hd1 cx cy fx fy cz HSW1
  obtain ⟨va, hva⟩ : ∃ v, v = dd[a]! := ⟨_, rfl⟩
  have HVA := Lib.hid hva
  clear hva
  go_loopw [10] (fun vi wx => ∃ i2 : Nat, vi = .int .i64 (i2 : Int) ∧ a < i2 ∧ i2 ≤ J + 1 ∧ Hid (UB t g c w n wx dd) ∧ Hid (scanUp (fun x => ltInt x dd[a]!) dd J i2 = scanUp (fun x => ltInt x dd[a]!) dd J (a + 1))) (fun vi _ => J + 1 - (intOf vi).toNat)
  case atStart => exact ⟨a + 1, by go_num, by omega, by omega, HU1, Lib.hid rfl⟩
  case round =>
    obtain ⟨i2, rfl, hii, hi2, HU, HSC⟩ := hrel
    by_cases hle : i2 ≤ J
    · skip
      have l1 : decide (i2 ≤ J) = true := decide_eq_true (by omega)
      have l2 : decide ((i2 : Int) ≤ (J : Int)) = true := by simp; omega
      obtain ⟨x, hx⟩ : ∃ x, x = dd[i2]! := ⟨_, rfl⟩
      have cx := HU.out.cell (j := i2) (by omega) hx
      have cva := HU.out.cell (j := a) (by omega) HVA.out
      have HX := Lib.hid hx
      clear hx
      go_wp2
      go_quiet (first | (go_at_call 35; refine Calls.quiet_of_same (uLess_any _ _ _)))
      cases hl : ltInt x va with
      | true =>
        have HL := Lib.hid hl
        go_wp2
        go_roundw
        case rel => exact ⟨i2 + 1, by go_num, by omega, by omega, Lib.hid (HU.out.drewN nq), Lib.hid (by rw [← HSC.out]; exact (scU_go _ dd J i2 hle (by show ltInt dd[i2]! dd[a]! = true; rw [← HVA.out, ← HX.out]; exact HL.out)).symm)⟩
        case measure => simp [intOf] <;> omega
      | false =>
        have HI := Lib.hid (show scanUp (fun x => ltInt x (swp d a p)[a]!) (swp d a p) (b - 1) (a + 1) = i2 by rw [HD1.out, ← HJ0.out, ← HSC.out]; exact scU_end _ dd J i2 (.inr (by show ltInt dd[i2]! dd[a]! = false; rw [← HVA.out, ← HX.out]; exact hl)))
        have HU2 := Lib.hid (HU.out.drewN nq)
        have HLX := Lib.hid (show ltInt dd[i2]! dd[a]! = false by rw [← HVA.out, ← HX.out]; exact hl)
        clear hl cx cva
        go_wp2
        generalize wr.drewN nq = wz at *
        go_loopw [11] (fun vj wx => ∃ j2 : Nat, vj = .int .i64 (j2 : Int) ∧ i2 ≤ j2 + 1 ∧ j2 ≤ J ∧ Hid (UB t g c w n wx dd) ∧ Hid (scanDown (fun x => !ltInt x dd[a]!) dd i2 j2 = scanDown (fun x => !ltInt x dd[a]!) dd i2 J)) (fun vj _ => (intOf vj).toNat)
        case atStart => exact ⟨J, rfl, by omega, Nat.le_refl _, HU2, Lib.hid rfl⟩
        case round =>
          obtain ⟨j2, rfl, hij2, hjj, HU, HSD⟩ := hrel
          by_cases hle2 : i2 ≤ j2
          · skip
            have l1 : decide (i2 ≤ j2) = true := decide_eq_true (by omega)
            have l2 : decide ((i2 : Int) ≤ (j2 : Int)) = true := by simp; omega
            obtain ⟨x, hx⟩ : ∃ x, x = dd[j2]! := ⟨_, rfl⟩
            have cx := HU.out.cell (j := j2) (by omega) hx
            have cva := HU.out.cell (j := a) (by omega) HVA.out
            have HX := Lib.hid hx
            clear hx
            have cy := HU.out.cell (j := i2) (by omega) rfl
            generalize hyy : dd[i2]! = y at cy
            have HY := Lib.hid hyy
            have fy := HU.out.free i2
            have fx := HU.out.free j2
            clear hyy
            go_wp2
            go_quiet (first | (go_at_call 35; refine Calls.quiet_of_same (uLess_any _ _ _)))
            cases hl : ltInt x va with
            | false =>
              have HL := Lib.hid hl
              go_wp2
              go_roundw
              case rel => exact ⟨j2 - 1, int_eq (by omega), by omega, by omega, Lib.hid (HU.out.drewN nq), Lib.hid (by rw [← HSD.out]; exact (scD_go _ dd i2 j2 hle2 (by omega) (by show (!ltInt dd[j2]! dd[a]!) = true; rw [← HVA.out, ← HX.out, HL.out]; rfl)).symm)⟩
              case measure => simp [intOf] <;> omega
            | true =>
              have HJ := Lib.hid (show scanDown (fun x => !ltInt x (swp d a p)[a]!) (swp d a p) i2 (b - 1) = j2 by rw [HD1.out, ← HJ0.out, ← HSD.out]; exact scD_end _ dd i2 j2 (.inr (by show (!ltInt dd[j2]! dd[a]!) = false; rw [← HVA.out, ← HX.out, hl]; rfl)))
              have hne : i2 ≠ j2 := fun e => by
                have h1 := HLX.out
                rw [e, ← HVA.out, ← HX.out, hl] at h1
                cases h1
              have HG := Lib.hid (pt_go ltInt a b p i2 j2 d HI.out HJ.out (by omega))
              rw [HD1.out] at HG
              have d9 : decide (i2 > j2) = false := decide_eq_false (by omega)
              have d8 : decide ((i2 : Int) > (j2 : Int)) = false := by simp; omega
              have HSW := Lib.hid (fun q => (HU.out.drewN q).swap (i := i2) (j := j2) (by omega) (by omega) HX.out HY.out.symm)
              clear hl
              go_wp2
              go_region
              all_goals go_wp2
              generalize hd2 : swp dd i2 j2 = de at *
              have HU4 := Lib.hid (HSW.out (nq + 1))
              clear hd2 HSW cx cy cva fx fy
              go_loopw [10, 11] (fun vi vj wx => ∃ (i j : Nat) (dk : Array Int), vi = .int .i64 (i : Int) ∧ vj = .int .i64 (j : Int) ∧ a < i ∧ i ≤ j + 1 ∧ j < b ∧ Hid (UB t g c w n wx dk) ∧ Hid (partLoop ltInt a i j dk = partLoop ltInt a (i2 + 1) (j2 - 1) de)) (fun vi vj _ => ((intOf vj).toNat + 1) - (intOf vi).toNat)
              case atStart => exact ⟨i2 + 1, j2 - 1, de, by go_num, int_eq (by omega), by omega, by omega, by omega, HU4, Lib.hid rfl⟩
              case round =>
                obtain ⟨i, j, dk, rfl, rfl, hai, hij, hjb, HU, HO⟩ := hrel
                obtain ⟨vb, hvb⟩ : ∃ v, v = dk[a]! := ⟨_, rfl⟩
                have HVB := Lib.hid hvb
                clear hvb
                go_wp2
                go_loopw [10] (fun vi wx => ∃ i3 : Nat, vi = .int .i64 (i3 : Int) ∧ i ≤ i3 ∧ i3 ≤ j + 1 ∧ Hid (UB t g c w n wx dk) ∧ Hid (scanUp (fun x => ltInt x dk[a]!) dk j i3 = scanUp (fun x => ltInt x dk[a]!) dk j i)) (fun vi _ => j + 1 - (intOf vi).toNat)
                case atStart => exact ⟨i, rfl, Nat.le_refl _, hij, HU, Lib.hid rfl⟩
                case round =>
                  obtain ⟨i3, rfl, hii, hi3, HU, HSC⟩ := hrel
                  by_cases hle : i3 ≤ j
                  · skip
                    have l1 : decide (i3 ≤ j) = true := decide_eq_true (by omega)
                    have l2 : decide ((i3 : Int) ≤ (j : Int)) = true := by simp; omega
                    obtain ⟨x, hx⟩ : ∃ x, x = dk[i3]! := ⟨_, rfl⟩
                    have cx := HU.out.cell (j := i3) (by omega) hx
                    have cva := HU.out.cell (j := a) (by omega) HVB.out
                    have HX := Lib.hid hx
                    clear hx
                    go_wp2
                    go_quiet (first | (go_at_call 35; refine Calls.quiet_of_same (uLess_any _ _ _)))
                    cases hl : ltInt x vb with
                    | true =>
                      have HL := Lib.hid hl
                      go_wp2
                      go_roundw
                      case rel => exact ⟨i3 + 1, by go_num, by omega, by omega, Lib.hid (HU.out.drewN nq), Lib.hid (by rw [← HSC.out]; exact (scU_go _ dk j i3 hle (by show ltInt dk[i3]! dk[a]! = true; rw [← HVB.out, ← HX.out]; exact HL.out)).symm)⟩
                      case measure => simp [intOf] <;> omega
                    | false =>
                      have HI3 := Lib.hid (show scanUp (fun x => ltInt x dk[a]!) dk j i = i3 by rw [← HSC.out]; exact scU_end _ dk j i3 (.inr (by show ltInt dk[i3]! dk[a]! = false; rw [← HVB.out, ← HX.out]; exact hl)))
                      have HU2 := Lib.hid (HU.out.drewN nq)
                      have HLX := Lib.hid (show ltInt dk[i3]! dk[a]! = false by rw [← HVB.out, ← HX.out]; exact hl)
                      clear hl cx cva
                      go_wp2
                      generalize wr.drewN nq = wy at *
                      go_loopw [11] (fun vj wx => ∃ j3 : Nat, vj = .int .i64 (j3 : Int) ∧ i3 ≤ j3 + 1 ∧ j3 ≤ j ∧ Hid (UB t g c w n wx dk) ∧ Hid (scanDown (fun x => !ltInt x dk[a]!) dk i3 j3 = scanDown (fun x => !ltInt x dk[a]!) dk i3 j)) (fun vj _ => (intOf vj).toNat)
                      case atStart => exact ⟨j, rfl, by omega, Nat.le_refl _, HU2, Lib.hid rfl⟩
                      case round =>
                        obtain ⟨j3, rfl, hij3, hjj, HU, HSD⟩ := hrel
                        by_cases hle2 : i3 ≤ j3
                        · skip
                          have l1 : decide (i3 ≤ j3) = true := decide_eq_true (by omega)
                          have l2 : decide ((i3 : Int) ≤ (j3 : Int)) = true := by simp; omega
                          obtain ⟨x, hx⟩ : ∃ x, x = dk[j3]! := ⟨_, rfl⟩
                          have cx := HU.out.cell (j := j3) (by omega) hx
                          have cva := HU.out.cell (j := a) (by omega) HVB.out
                          have HX := Lib.hid hx
                          clear hx
                          have cy := HU.out.cell (j := i3) (by omega) rfl
                          generalize hyy : dk[i3]! = y at cy
                          have HY := Lib.hid hyy
                          have fy := HU.out.free i3
                          have fx := HU.out.free j3
                          clear hyy
                          go_wp2
                          go_quiet (first | (go_at_call 35; refine Calls.quiet_of_same (uLess_any _ _ _)))
                          cases hl : ltInt x vb with
                          | false =>
                            have HL := Lib.hid hl
                            go_wp2
                            go_roundw
                            case rel => exact ⟨j3 - 1, int_eq (by omega), by omega, by omega, Lib.hid (HU.out.drewN nq), Lib.hid (by rw [← HSD.out]; exact (scD_go _ dk i3 j3 hle2 (by omega) (by show (!ltInt dk[j3]! dk[a]!) = true; rw [← HVB.out, ← HX.out, HL.out]; rfl)).symm)⟩
                            case measure => simp [intOf] <;> omega
                          | true =>
                            have HJ3 := Lib.hid (show scanDown (fun x => !ltInt x dk[a]!) dk i3 j = j3 by rw [← HSD.out]; exact scD_end _ dk i3 j3 (.inr (by show (!ltInt dk[j3]! dk[a]!) = false; rw [← HVB.out, ← HX.out, hl]; rfl)))
                            have hne3 : i3 ≠ j3 := fun e => by
                              have h1 := HLX.out
                              rw [e, ← HVB.out, ← HX.out, hl] at h1
                              cases h1
                            have HGL := Lib.hid (pl_go ltInt a i j i3 j3 dk HI3.out HJ3.out (by omega))
                            have e9 : decide (i3 > j3) = false := decide_eq_false (by omega)
                            have e8 : decide ((i3 : Int) > (j3 : Int)) = false := by simp; omega
                            have HSW := Lib.hid (fun q => (HU.out.drewN q).swap (i := i3) (j := j3) (by omega) (by omega) HX.out HY.out.symm)
                            clear hl
                            go_wp2
                            go_region
                            all_goals go_wp2
                            go_roundw
                            case rel => exact ⟨i3 + 1, j3 - 1, swp dk i3 j3, by go_num, int_eq (by omega), by omega, by omega, by omega, Lib.hid (HSW.out _), Lib.hid (by rw [← HO.out]; exact HGL.out.symm)⟩
                            case measure => simp [intOf] <;> omega
                        · skip
                          have l1 : decide (i3 ≤ j3) = false := decide_eq_false (by omega)
                          have l2 : decide ((i3 : Int) ≤ (j3 : Int)) = false := by simp; omega
                          have HJ3 := Lib.hid (show scanDown (fun x => !ltInt x dk[a]!) dk i3 j = j3 by rw [← HSD.out]; exact scD_end _ dk i3 j3 (.inl hle2))
                          have HGL := Lib.hid (pl_stop ltInt a i j i3 j3 dk HI3.out HJ3.out (by omega))
                          have e9 : decide (i3 > j3) = true := decide_eq_true (by omega)
                          have e8 : decide ((i3 : Int) > (j3 : Int)) = true := by simp; omega
                          go_wp2
                          go_quiet (fail)
                          have HUZ := Lib.hid (HU.out.drewN nq)
                          generalize wr.drewN nq = wz at *
                          obtain ⟨x, hx⟩ : ∃ x, x = dk[a]! := ⟨_, rfl⟩
                          obtain ⟨y, hy⟩ : ∃ y, y = dk[j3]! := ⟨_, rfl⟩
                          have cx := HUZ.out.cell (j := a) (by omega) hx
                          have cy := HUZ.out.cell (j := j3) (by omega) hy
                          have fx := HUZ.out.free a
                          have fy := HUZ.out.free j3
                          obtain ⟨v', cz⟩ := cell?_setCell_some (w := wz) (p := ⟨g, j3, none⟩) (x := .int .u64 x) (q := ⟨g, a, none⟩) cx
                          have HSW := Lib.hid (fun q => (HUZ.out.drewN q).swap (i := j3) (j := a) (by omega) (by omega) hx hy)
                          clear hx hy
                          go_wp2
                          go_region
                          all_goals go_wp2
                          go_ret2
                          rw [HG.out, ← HO.out, HGL.out]
                          exact ⟨rfl, HSW.out 1⟩
                  · skip
                    have l1 : decide (i3 ≤ j) = false := decide_eq_false (by omega)
                    have l2 : decide ((i3 : Int) ≤ (j : Int)) = false := by simp; omega
                    have HI3 := Lib.hid (show scanUp (fun x => ltInt x dk[a]!) dk j i = i3 by rw [← HSC.out]; exact scU_end _ dk j i3 (.inl hle))
                    go_wp2
                    go_quiet (fail)
                    go_wp2
                    have HU3 := Lib.hid (HU.out.drewN nq)
                    go_loopw [11] (fun vj wx => ∃ j3 : Nat, vj = .int .i64 (j3 : Int) ∧ j3 = j ∧ Hid (UB t g c w n wx dk)) (fun vj _ => (intOf vj).toNat)
                    case atStart => exact ⟨j, rfl, rfl, HU3⟩
                    case round =>
                      obtain ⟨j3, rfl, rfl, HU⟩ := hrel
                      have HJ3 := Lib.hid (show scanDown (fun x => !ltInt x dk[a]!) dk i3 j3 = j3 from scD_end _ dk i3 j3 (.inl hle))
                      have HGL := Lib.hid (pl_stop ltInt a i j3 i3 j3 dk HI3.out HJ3.out (by omega))
                      have e9 : decide (i3 > j3) = true := decide_eq_true (by omega)
                      have e8 : decide ((i3 : Int) > (j3 : Int)) = true := by simp; omega
                      go_wp2
                      go_quiet (fail)
                      have HUZ := Lib.hid (HU.out.drewN nq)
                      generalize wr.drewN nq = wz at *
                      obtain ⟨x, hx⟩ : ∃ x, x = dk[a]! := ⟨_, rfl⟩
                      obtain ⟨y, hy⟩ : ∃ y, y = dk[j3]! := ⟨_, rfl⟩
                      have cx := HUZ.out.cell (j := a) (by omega) hx
                      have cy := HUZ.out.cell (j := j3) (by omega) hy
                      have fx := HUZ.out.free a
                      have fy := HUZ.out.free j3
                      obtain ⟨v', cz⟩ := cell?_setCell_some (w := wz) (p := ⟨g, j3, none⟩) (x := .int .u64 x) (q := ⟨g, a, none⟩) cx
                      have HSW := Lib.hid (fun q => (HUZ.out.drewN q).swap (i := j3) (j := a) (by omega) (by omega) hx hy)
                      clear hx hy
                      go_wp2
                      go_region
                      all_goals go_wp2
                      go_ret2
                      rw [HG.out, ← HO.out, HGL.out]
                      exact ⟨rfl, HSW.out 1⟩
          · skip
            have l1 : decide (i2 ≤ j2) = false := decide_eq_false (by omega)
            have l2 : decide ((i2 : Int) ≤ (j2 : Int)) = false := by simp; omega
            have HJ := Lib.hid (show scanDown (fun x => !ltInt x (swp d a p)[a]!) (swp d a p) i2 (b - 1) = j2 by rw [HD1.out, ← HJ0.out, ← HSD.out]; exact scD_end _ dd i2 j2 (.inl hle2))
            have HG := Lib.hid (pt_stop ltInt a b p i2 j2 d HI.out HJ.out (by omega))
            rw [HD1.out] at HG
            have d9 : decide (i2 > j2) = true := decide_eq_true (by omega)
            have d8 : decide ((i2 : Int) > (j2 : Int)) = true := by simp; omega
            go_wp2
            go_quiet (fail)
            have HUZ := Lib.hid (HU.out.drewN nq)
            generalize wr.drewN nq = wz at *
            obtain ⟨x, hx⟩ : ∃ x, x = dd[a]! := ⟨_, rfl⟩
            obtain ⟨y, hy⟩ : ∃ y, y = dd[j2]! := ⟨_, rfl⟩
            have cx := HUZ.out.cell (j := a) (by omega) hx
            have cy := HUZ.out.cell (j := j2) (by omega) hy
            have fx := HUZ.out.free a
            have fy := HUZ.out.free j2
            obtain ⟨v', cz⟩ := cell?_setCell_some (w := wz) (p := ⟨g, j2, none⟩) (x := .int .u64 x) (q := ⟨g, a, none⟩) cx
            have HSW := Lib.hid (fun q => (HUZ.out.drewN q).swap (i := j2) (j := a) (by omega) (by omega) hx hy)
            clear hx hy
            go_wp2
            go_region
            all_goals go_wp2
            go_ret2
            rw [HG.out]
            exact ⟨rfl, HSW.out 1⟩
    · skip
      have l1 : decide (i2 ≤ J) = false := decide_eq_false (by omega)
      have l2 : decide ((i2 : Int) ≤ (J : Int)) = false := by simp; omega
      have HI := Lib.hid (show scanUp (fun x => ltInt x (swp d a p)[a]!) (swp d a p) (b - 1) (a + 1) = i2 by rw [HD1.out, ← HJ0.out, ← HSC.out]; exact scU_end _ dd J i2 (.inl hle))
      go_wp2
      go_quiet (fail)
      go_wp2
      have HU3 := Lib.hid (HU.out.drewN nq)
      go_loopw [11] (fun vj wx => ∃ j2 : Nat, vj = .int .i64 (j2 : Int) ∧ j2 = J ∧ Hid (UB t g c w n wx dd)) (fun vj _ => (intOf vj).toNat)
      case atStart => exact ⟨J, rfl, rfl, HU3⟩
      case round =>
        obtain ⟨j2, rfl, rfl, HU⟩ := hrel
        have HJ := Lib.hid (show scanDown (fun x => !ltInt x (swp d a p)[a]!) (swp d a p) i2 (b - 1) = j2 by rw [HD1.out, ← HJ0.out]; exact scD_end _ dd i2 j2 (.inl hle))
        have HG := Lib.hid (pt_stop ltInt a b p i2 j2 d HI.out HJ.out (by omega))
        rw [HD1.out] at HG
        have d9 : decide (i2 > j2) = true := decide_eq_true (by omega)
        have d8 : decide ((i2 : Int) > (j2 : Int)) = true := by simp; omega
        go_wp2
        go_quiet (fail)
        have HUZ := Lib.hid (HU.out.drewN nq)
        generalize wr.drewN nq = wz at *
        obtain ⟨x, hx⟩ : ∃ x, x = dd[a]! := ⟨_, rfl⟩
        obtain ⟨y, hy⟩ : ∃ y, y = dd[j2]! := ⟨_, rfl⟩
        have cx := HUZ.out.cell (j := a) (by omega) hx
        have cy := HUZ.out.cell (j := j2) (by omega) hy
        have fx := HUZ.out.free a
        have fy := HUZ.out.free j2
        obtain ⟨v', cz⟩ := cell?_setCell_some (w := wz) (p := ⟨g, j2, none⟩) (x := .int .u64 x) (q := ⟨g, a, none⟩) cx
        have HSW := Lib.hid (fun q => (HUZ.out.drewN q).swap (i := j2) (j := a) (by omega) (by omega) hx hy)
        clear hx hy
        go_wp2
        go_region
        all_goals go_wp2
        go_ret2
        rw [HG.out]
        exact ⟨rfl, HSW.out 1⟩
end Go.Proofs.Ytjklfichjaapoaa
namespace Go.Fd
open Go.Sort
/-- One round: the values that it comes by, and what follows. -/
structure Rnd (dk : Array Int) (a b lim : Nat) (wb wp : Bool) (d1 : Array Int) (l1 cc : Nat) (ch : Hint) (d2 : Array Int) (pv : Nat) (hh : Hint) (d3 : Array Int) (pf : Bool) : Prop where
  brk : wb = false → d1 = breakPatterns dk a b ∧ l1 = lim - 1
  nbrk : wb = true → d1 = dk ∧ l1 = lim
  cho : choosePivot ltInt d1 a b = (cc, ch)
  dec : ch = .decreasing → d2 = reverseRange d1 a b ∧ pv = (b - 1) - (cc - a) ∧ hh = .increasing
  ndec : ch ≠ .decreasing → d2 = d1 ∧ pv = cc ∧ hh = ch
  yes : (wb && wp && decide (hh = .increasing)) = true → partialInsertionSort ltInt d2 a b = (d3, pf)
  no : (wb && wp && decide (hh = .increasing)) = false → d3 = d2 ∧ pf = false
  s1 : d1.size = dk.size
  cr : a ≤ cc ∧ cc < b
  s2 : d2.size = dk.size
  pr : a ≤ pv ∧ pv < b
  s3 : d3.size = dk.size
  le : l1 ≤ lim
  done : pf = true → pdq ltInt dk a b lim wb wp = d3
  eq : pf = false → (decide (a > 0) && !ltInt d3[a - 1]! d3[pv]!) = true → ∀ mid d4, partitionEqual ltInt d3 a b pv = (mid, d4) →
    a < mid ∧ mid ≤ b ∧ d4.size = dk.size ∧ Sort.Below ltInt mid b d4 ∧ pdq ltInt dk a b lim wb wp = pdq ltInt d4 mid b l1 wb wp
  part : pf = false → (decide (a > 0) && !ltInt d3[a - 1]! d3[pv]!) = false → ∀ mid ap d4, partition ltInt d3 a b pv = (mid, ap, d4) →
    (a ≤ mid ∧ mid < b ∧ d4.size = dk.size ∧ Sort.Below ltInt a mid d4 ∧ Sort.Below ltInt (mid + 1) b d4) ∧
    (mid - a < b - mid → Sort.Below ltInt (mid + 1) b (pdq ltInt d4 a mid l1 true true) ∧ (pdq ltInt d4 a mid l1 true true).size = dk.size ∧
      pdq ltInt dk a b lim wb wp = pdq ltInt (pdq ltInt d4 a mid l1 true true) (mid + 1) b l1 (decide (mid - a ≥ (b - a) / 8)) ap) ∧
    (¬ mid - a < b - mid → Sort.Below ltInt a mid (pdq ltInt d4 (mid + 1) b l1 true true) ∧ (pdq ltInt d4 (mid + 1) b l1 true true).size = dk.size ∧
      pdq ltInt dk a b lim wb wp = pdq ltInt (pdq ltInt d4 (mid + 1) b l1 true true) a mid l1 (decide (b - mid ≥ (b - a) / 8)) ap)
theorem rnd_there (dk : Array Int) (a b lim : Nat) (wb wp : Bool) (h12 : ¬ b - a ≤ 12) (h0 : ¬ lim = 0) (hb : b ≤ dk.size) (hB : Sort.Below ltInt a b dk) : ∃ d1 l1 cc ch d2 pv hh d3 pf, Rnd dk a b lim wb wp d1 l1 cc ch d2 pv hh d3 pf := by
  obtain ⟨s1, -, hc1, s2, -, hpv, s3, B3⟩ := rd_facts (limit := lim) (wb := wb) (wp := wp) swo_ltInt partialInsertionSort_holds reverseRange_holds (show a < b by omega) hb hB
  refine ⟨(rd ltInt dk a b lim wb wp).d1, (rd ltInt dk a b lim wb wp).lim, (rd ltInt dk a b lim wb wp).c.1, (rd ltInt dk a b lim wb wp).c.2, (rd ltInt dk a b lim wb wp).d2, (rd ltInt dk a b lim wb wp).pivot, (rd ltInt dk a b lim wb wp).hint, (rd ltInt dk a b lim wb wp).pi.1, (rd ltInt dk a b lim wb wp).pi.2, ?_⟩
  refine ⟨fun e => by subst e; exact rd_false, fun e => by subst e; exact rd_true, rd_c.symm, rd_dec, rd_not, fun e => (rd_pi_yes e).symm, fun e => ⟨by rw [rd_pi_no e], by rw [rd_pi_no e]⟩, s1, hc1, s2, hpv, s3, rd_lim_le, fun e => pdq_done h12 h0 e, fun e c mid d4 hx => ?_, fun e c mid ap d4 hx => ?_⟩
  · have c' := c
    simp only [Bool.and_eq_true, decide_eq_true_eq, Bool.not_eq_true'] at c'
    obtain ⟨r1, r2, r3, r4, -⟩ := round_eq swo_ltInt (partitionEqual_holds ltInt) c'.1 hpv.1 hpv.2 (by rw [s3]; exact hb) B3 c'.2 hx
    exact ⟨r1, r2, r3.trans s3, r4, by rw [pdq_eq h12 h0 e c (by rw [hx]; exact ⟨r1, r2⟩), hx]⟩
  · obtain ⟨r1, r2, r3, r4, r5, r6, r7⟩ := round_part swo_ltInt (partition_holds ltInt) hpv.1 hpv.2 (by rw [s3]; exact hb) B3 hx
    refine ⟨⟨r1, r2, r3.trans s3, r4, r5⟩, fun h4 => ?_, fun h4 => ?_⟩
    · obtain ⟨pL, sL⟩ := pdq_sorts ltInt swo_ltInt d4 a mid (rd ltInt dk a b lim wb wp).lim true true (by omega) (by rw [r3, s3]; omega) r4
      exact ⟨(r6 _ pL sL).1, pL.1.trans (r3.trans s3), by rw [pdq_left h12 h0 e c (by rw [hx]; exact ⟨r1, r2⟩) (by rw [hx]; exact h4), hx]⟩
    · obtain ⟨pL, sL⟩ := pdq_sorts ltInt swo_ltInt d4 (mid + 1) b (rd ltInt dk a b lim wb wp).lim true true (by omega) (by rw [r3, s3]; omega) r5
      exact ⟨(r7 _ pL sL).1, pL.1.trans (r3.trans s3), by rw [pdq_right h12 h0 e c (by rw [hx]; exact ⟨r1, r2⟩) (by rw [hx]; exact h4), hx]⟩
end Go.Fd
namespace Go.Proofs.Ytjklfichjaapoaa
open Go.RowKit Go.Fd Go.Sort
theorem hintN_two {h : Hint} (e : hintN h = 2) : h = .decreasing := by cases h <;> simp [hintN] at e ⊢
theorem eighth_of {x y p q : Nat} (h1 : q ≤ p) (h2 : y ≤ x) : decide (((x : Int) - (y : Int)) / 8 ≤ (p : Int) - (q : Int)) = decide (p - q ≥ (x - y) / 8) :=
  decide_eq_decide.2 ⟨fun h => by omega, fun h => by omega⟩
set_option maxHeartbeats 6400000 in
set_option maxRecDepth 1000000 in
theorem uPdq_any (N : Nat) : ∀ (t g cap n a b limit : Nat) (c : Array Value) (d : Array Int) (w : World), b - a < N → UAt t g c w d → d.size = n → a ≤ b → b ≤ n → n < 1000000000 → limit < 1000000000 → Sort.Below ltInt a b d →
    Calls Try.prog 26 #[.slice (some ⟨g, 0, none⟩) n cap, .int .i64 (a : Int), .int .i64 (b : Int), .int .i64 (limit : Int)] w fun e w' => e = .returned (.tuple #[]) ∧ UB t g c w n w' (pdq ltInt d a b limit true true) := by
  induction N with
  | zero => intro _ _ _ _ _ _ _ _ _ _ h; exact absurd h (Nat.not_lt_zero _)
  | succ N ih =>
    intro t g cap n a b limit c d w hN h hn hab hb hs hlim0 hBel0
    have H := Lib.hid (UB.mk' h hn)
    have HIH := Lib.hid ih
    have HBE := Lib.hid hBel0
    clear h hn ih hBel0
    go_enter Try.func26, Try.ntmps26
    go_wp2
    go_loopg [1, 2, 3, 8, 9] (b - a) (fun k s1 s2 s3 s8 s9 wr => ∃ (a' b' lim : Nat) (wb wp : Bool) (dk : Array Int), s1 = .int .i64 (a' : Int) ∧ s2 = .int .i64 (b' : Int) ∧ s3 = .int .i64 (lim : Int) ∧ s8 = .bool wb ∧ s9 = .bool wp ∧
      a' ≤ b' ∧ b' ≤ n ∧ b' - a' ≤ k ∧ k ≤ b - a ∧ lim ≤ limit ∧ Hid (UB t g c w n wr dk) ∧ Hid (Sort.Below ltInt a' b' dk) ∧ Hid (pdq ltInt dk a' b' lim wb wp = pdq ltInt d a b limit true true))
    case atStart => exact ⟨a, b, limit, true, true, d, rfl, rfl, rfl, rfl, rfl, hab, hb, Nat.le_refl _, Nat.le_refl _, Nat.le_refl _, H, HBE, Lib.hid rfl⟩
    case round =>
      obtain ⟨a', b', lim, wb, wp, dk, rfl, rfl, rfl, rfl, rfl, hab', hb', hk, hkN, hlim, HU, HBel, HO⟩ := hrel
      by_cases h12 : b' - a' ≤ 12
      · have h12z : (b' : Int) - (a' : Int) ≤ 12 := by omega
        have HC := Lib.hid (uInsertion_any t g cap n a' b' c dk wr HU.out.at_ HU.out.sz hab' hb' hs)
        go_wp2_with (go_at_call 29; refine HC.out.mono ?_; rintro e w1 ⟨rfl, hw1⟩; have HW1 := Lib.hid hw1; clear hw1)
        (try simp only [Exit.inBlock, Exit.then]); refine bodyPost_ret (results_none rfl _ _ _) rfl ?_
        exact ⟨rfl, by rw [← HO.out, pdq_small h12]; exact HU.out.then HW1.out⟩
      · have h12z : ¬ ((b' : Int) - (a' : Int) ≤ 12) := by omega
        by_cases hl0 : lim = 0
        · subst hl0
          have HC := Lib.hid (uHeap_any t g cap n a' b' c dk wr HU.out.at_ HU.out.sz (by omega) hb' hs)
          go_wp2_with (go_at_call 30; refine HC.out.mono ?_; rintro e w1 ⟨rfl, hw1⟩; have HW1 := Lib.hid hw1; clear hw1)
          (try simp only [Exit.inBlock, Exit.then]); refine bodyPost_ret (results_none rfl _ _ _) rfl ?_
          exact ⟨rfl, by rw [← HO.out, pdq_heap h12 rfl]; exact HU.out.then HW1.out⟩
        · have hl0z : ¬ ((lim : Int) = 0) := by omega
          obtain ⟨d1, l1, cc, ch, d2, pv, hh, d3, pf, hR⟩ := rnd_there dk a' b' lim wb wp h12 hl0 (by rw [HU.out.sz]; exact hb') HBel.out
          have HR := Lib.hid hR
          have hcr := hR.cr
          have hpr := hR.pr
          have hl1 := hR.le
          have HS1 := Lib.hid (hR.s1.trans HU.out.sz)
          have HS2 := Lib.hid (hR.s2.trans HU.out.sz)
          have HS3 := Lib.hid (hR.s3.trans HU.out.sz)
          clear hR
          go_upto_if 35 with fail
          go_cut [3] from 19 (fun s3 wc => s3 = .int .i64 (l1 : Int) ∧ Hid (UB t g c w n wc d1))
          case first =>
            cases wb
            · have HC := Lib.hid (uBreak_any t g cap n a' b' c dk wr HU.out.at_ HU.out.sz (by omega) hb' hs)
              go_wp2_with (go_at_call 31; refine HC.out.mono ?_; rintro e w1 ⟨rfl, hw1⟩; have HW1 := Lib.hid hw1; clear hw1)
              go_meet
              case rel => exact ⟨int_eq (by rw [(HR.out.brk rfl).2]; omega), Lib.hid (by rw [(HR.out.brk rfl).1]; exact HU.out.then HW1.out)⟩
            · go_wp2_with fail
              go_meet
              case rel => exact ⟨int_eq (by rw [(HR.out.nbrk rfl).2]), Lib.hid (by rw [(HR.out.nbrk rfl).1]; exact HU.out)⟩
          case rest =>
            obtain ⟨rfl, HU1⟩ := hcut
            have HC := Lib.hid (uChoose_any t g cap n a' b' c d1 wc HU1.out.at_ HU1.out.sz hab' hb' hs)
            rw [HR.out.cho] at HC
            go_upto_if 50 with (go_at_call 32; refine HC.out.mono ?_; rintro e w2 ⟨rfl, hw2⟩; have HW2 := Lib.hid hw2; clear hw2)
            have HU2 := Lib.hid (show UB t g c w n w2 d1 from ⟨HU1.out.at_.mono HW2.out, HU1.out.st.thenBelow HW2.out, HU1.out.sz⟩)
            clear HC
            go_cut [11, 12] from 19 (fun s11 s12 wc => s11 = .int .i64 (pv : Int) ∧ s12 = .int .i64 ((hintN hh : Nat) : Int) ∧ Hid (UB t g c w n wc d2))
            case first =>
              by_cases hd : ch = .decreasing
              · have hcode : hintN ch = 2 := by rw [hd]; rfl
                have hcode2 : ((hintN ch : Nat) : Int) = 2 := by rw [hcode]; rfl
                have HD := Lib.hid (HR.out.dec hd)
                have HC := Lib.hid (uReverse_any t g cap n a' b' c d1 w2 HU2.out.at_ HU2.out.sz (by omega) hb' hs)
                go_wp2_with (go_at_call 33; refine HC.out.mono ?_; rintro e w3 ⟨rfl, hw3⟩; have HW3 := Lib.hid hw3; clear hw3)
                go_meet
                case rel => exact ⟨int_eq (by rw [HD.out.2.1]; omega), by rw [HD.out.2.2]; rfl, Lib.hid (by rw [HD.out.1]; exact HU2.out.then HW3.out)⟩
              · have hcode : ¬ (hintN ch = 2) := fun e => hd (hintN_two e)
                have hcode2 : ¬ ((hintN ch : Nat) : Int) = 2 := by omega
                have HD := Lib.hid (HR.out.ndec hd)
                go_wp2_with fail
                go_meet
                case rel => exact ⟨by rw [HD.out.2.1], by rw [HD.out.2.2], Lib.hid (by rw [HD.out.1]; exact HU2.out)⟩
            case rest =>
              obtain ⟨rfl, rfl, HU3⟩ := hcut
              go_upto_region 15 with fail
              go_cut [68] from 19 (fun s68 wx => s68 = .bool (wb && wp && decide (hh = .increasing)) ∧ wx = wc)
              case first =>
                cases wb <;> cases wp <;> cases hh <;>
                  (go_wp2_with fail
                   go_meet
                   exact ⟨by simp [hintN], rfl⟩)
              case rest =>
                obtain ⟨rfl, rfl⟩ := hcut
                go_upto_if 68 with fail
                go_cut [] from 19 (fun wx => pf = false ∧ Hid (UB t g c w n wx d3))
                case first =>
                  cases h68 : (wb && wp && decide (hh = .increasing))
                  · have HP := Lib.hid (HR.out.no h68)
                    go_wp2_with fail
                    go_meet
                    case rel => exact ⟨HP.out.2, Lib.hid (by rw [HP.out.1]; exact HU3.out)⟩
                  · have HC := Lib.hid (uPartial_any t g cap n a' b' c d2 wc HU3.out.at_ HU3.out.sz (by omega) hb' hs)
                    rw [HR.out.yes h68] at HC
                    cases pf with
                    | false =>
                      go_wp2_with (go_at_call 34; refine HC.out.mono ?_; rintro e w4 ⟨rfl, hw4⟩; have HW4 := Lib.hid hw4; clear hw4)
                      go_meet
                      case rel => exact ⟨trivial, Lib.hid (HU3.out.then HW4.out)⟩
                    | true =>
                      have HDN := Lib.hid (HR.out.done rfl)
                      go_wp2_with (go_at_call 34; refine HC.out.mono ?_; rintro e w4 ⟨rfl, hw4⟩; have HW4 := Lib.hid hw4; clear hw4)
                      (try simp only [Exit.inBlock, Exit.then]); refine bodyPost_ret (results_none rfl _ _ _) rfl ?_
                      exact ⟨rfl, by rw [← HO.out, HDN.out]; exact HU3.out.then HW4.out⟩
                case rest =>
                  obtain ⟨rfl, HU5⟩ := hcut
                  obtain ⟨x, hx⟩ : ∃ x, x = d3[a' - 1]! := ⟨_, rfl⟩
                  obtain ⟨y, hy⟩ : ∃ y, y = d3[pv]! := ⟨_, rfl⟩
                  have cx := HU5.out.cell (show a' - 1 < n by omega) hx
                  have cy := HU5.out.cell (show pv < n by omega) hy
                  have HX := Lib.hid hx
                  have HY := Lib.hid hy
                  clear hx hy
                  go_upto_region 17 with fail
                  go_cut [87] from 19 (fun s87 wx => s87 = .bool (decide (a' > 0) && !ltInt x y) ∧ Hid (UB t g c w n wx d3))
                  case first =>
                    rcases Nat.eq_zero_or_pos a' with ha0 | ha0
                    · have ha0z : decide ((a' : Int) > 0) = false := decide_eq_false (by omega)
                      go_quiet (first | (go_at_call 35; refine Calls.quiet_of_same (uLess_any _ _ _)))
                      go_wp2_with fail
                      go_meet
                      case rel => exact ⟨by simp [ha0], Lib.hid (HU5.out.drewN nq)⟩
                    · have ha0z : (a' : Int) > 0 := by omega
                      go_quiet (first | (go_at_call 35; refine Calls.quiet_of_same (uLess_any _ _ _)))
                      go_wp2_with fail
                      go_meet
                      case rel => exact ⟨by simp [ha0], Lib.hid (HU5.out.drewN nq)⟩
                  case rest =>
                    obtain ⟨rfl, HU6⟩ := hcut
                    clear cx cy
                    cases h87 : (decide (a' > 0) && !ltInt x y)
                    · have HPA := Lib.hid (HR.out.part rfl (by rw [← HX.out, ← HY.out]; exact h87))
                      have HC := Lib.hid (uPart_any t g cap n a' b' pv c d3 wc HU6.out.at_ HU6.out.sz (by omega) hpr.1 hpr.2 hb' hs)
                      generalize hpt : partition ltInt d3 a' b' pv = pt at HC
                      obtain ⟨mid, ap, d4⟩ := pt
                      obtain ⟨⟨r1, r2, r3, r4, r5⟩, rL, rR⟩ := HPA.out mid ap d4 hpt
                      have HR3 := Lib.hid r3
                      have HR4 := Lib.hid r4
                      have HR5 := Lib.hid r5
                      have HRL := Lib.hid rL
                      have HRR := Lib.hid rR
                      clear hpt r3 r4 r5 rL rR HPA
                      go_upto_if 113 with (go_at_call 37; refine HC.out.mono ?_; rintro e w7 ⟨rfl, hw7⟩; have HW7 := Lib.hid hw7; clear hw7)
                      have HU7 := Lib.hid (HU6.out.then HW7.out)
                      clear HC
                      by_cases h4 : mid - a' < b' - mid
                      · have h4z : (mid : Int) - (a' : Int) < (b' : Int) - (mid : Int) := by omega
                        have HC := Lib.hid (HIH.out t g cap n a' mid l1 c d4 w7 (by omega) HU7.out.at_ HU7.out.sz (by omega) (by omega) hs (by omega) HR4.out)
                        obtain ⟨q1, q2, q3⟩ := HRL.out h4
                        have HQ1 := Lib.hid q1
                        have HQ3 := Lib.hid q3
                        clear q1 q2 q3
                        go_wp2_with (go_at_call 26; refine HC.out.mono ?_; rintro e w8 ⟨rfl, hw8⟩; have HW8 := Lib.hid hw8; clear hw8)
                        go_roundg (b' - (mid + 1))
                        case measure => omega
                        case rel => exact ⟨mid + 1, b', l1, decide (mid - a' ≥ (b' - a') / 8), ap, pdq ltInt d4 a' mid l1 true true, by simp, rfl, rfl, congrArg Value.bool (eighth_of (by omega) (by omega)), rfl, by omega, by omega, Nat.le_refl _, by omega, by omega, Lib.hid (HU7.out.then HW8.out), HQ1, Lib.hid (by rw [← HO.out, HQ3.out])⟩
                      · have h4z : ¬ ((mid : Int) - (a' : Int) < (b' : Int) - (mid : Int)) := by omega
                        have HC := Lib.hid (HIH.out t g cap n (mid + 1) b' l1 c d4 w7 (by omega) HU7.out.at_ HU7.out.sz (by omega) (by omega) hs (by omega) HR5.out)
                        rw [show ((mid + 1 : Nat) : Int) = (mid : Int) + 1 by omega] at HC
                        obtain ⟨q1, q2, q3⟩ := HRR.out h4
                        have HQ1 := Lib.hid q1
                        have HQ3 := Lib.hid q3
                        clear q1 q2 q3
                        go_wp2_with (go_at_call 26; refine HC.out.mono ?_; rintro e w8 ⟨rfl, hw8⟩; have HW8 := Lib.hid hw8; clear hw8)
                        go_roundg (mid - a')
                        case measure => omega
                        case rel => exact ⟨a', mid, l1, decide (b' - mid ≥ (b' - a') / 8), ap, pdq ltInt d4 (mid + 1) b' l1 true true, rfl, rfl, rfl, congrArg Value.bool (eighth_of (by omega) (by omega)), rfl, by omega, by omega, Nat.le_refl _, by omega, by omega, Lib.hid (HU7.out.then HW8.out), HQ1, Lib.hid (by rw [← HO.out, HQ3.out])⟩
                    · have HPE := Lib.hid (HR.out.eq rfl (by rw [← HX.out, ← HY.out]; exact h87))
                      have HC := Lib.hid (uPartEq_any t g cap n a' b' pv c d3 wc HU6.out.at_ HU6.out.sz (by omega) hpr.1 hpr.2 hb' hs)
                      generalize hpt : partitionEqual ltInt d3 a' b' pv = pt at HC
                      obtain ⟨mid, d4⟩ := pt
                      obtain ⟨r1, r2, r3, r4, r5⟩ := HPE.out mid d4 hpt
                      have HR4 := Lib.hid r4
                      have HR5 := Lib.hid r5
                      clear hpt r3 r4 r5 HPE
                      go_wp2_with (go_at_call 36; refine HC.out.mono ?_; rintro e w7 ⟨rfl, hw7⟩; have HW7 := Lib.hid hw7; clear hw7)
                      go_roundg (b' - mid)
                      case measure => omega
                      case rel => exact ⟨mid, b', l1, wb, wp, d4, rfl, rfl, rfl, rfl, rfl, r2, hb', Nat.le_refl _, by omega, by omega, Lib.hid (HU6.out.then HW7.out), HR4, Lib.hid (by rw [← HO.out, HR5.out])⟩
set_option maxRecDepth 100000 in
/-- slices.Sort: the numbers as Sort.sort has them. -/
theorem uSort_any (t g cap n : Nat) (c : Array Value) (d : Array Int) (w : World) (h : UAt t g c w d) (hn : d.size = n) (hs : n < 1000000000) :
    Calls Try.prog 24 #[.slice (some ⟨g, 0, none⟩) n cap] w fun e w' => e = .returned (.tuple #[]) ∧ UB t g c w n w' (Sort.sort ltInt d) := by
  have HP := Lib.hid (uPdq_any (n + 1) t g cap n 0 n (bitsLen n) c d w (by omega) h hn (Nat.zero_le _) (Nat.le_refl _) hs (Nat.lt_of_le_of_lt (bitsLen_30 hs) (by decide)) (.inl rfl))
  have HE := Lib.hid (show Sort.sort ltInt d = pdq ltInt d 0 n (bitsLen n) true true by unfold Sort.sort; rw [hn])
  have HL := Lib.hid (fun w => uLen_any n w hs)
  have e5 : IntKind.u64.wrap (n : Int) = (n : Int) := by rw [IntKind.wrap_u64]; omega
  rw [HE.out]
  clear h hn
  go_enter Try.func24, Try.ntmps24
  go_wp2_with (first
    | (go_at_call 25; refine (HL.out _).mono ?_; rintro e w' ⟨rfl, rfl⟩)
    | (go_at_call 26; refine HP.out.mono ?_; rintro e w5 ⟨rfl, h5⟩; have H5 := Lib.hid h5; clear h5))
  go_end0
  exact ⟨rfl, H5.out⟩
end Go.Proofs.Ytjklfichjaapoaa
namespace Go.Fd
open Go.RowKit Go.Sort
def UV (n : Nat) : Value := .int .u64 (n : Int)
def arrI (l : List Nat) : Array Int := (l.map fun n : Nat => (n : Int)).toArray
/-- All masks, rising. -/
def allS : List Nat := (Sort.sort ltInt (arrI (allL 8192))).toList.map Int.toNat
theorem arrI_size (l : List Nat) : (arrI l).size = l.length := by simp [arrI]
theorem arrI_get (l : List Nat) (j : Nat) (h : j < l.length) : (arrI l)[j]! = ((l[j] : Nat) : Int) := by
  rw [getElem!_pos (arrI l) j (by rw [arrI_size]; exact h)]
  simp [arrI]
theorem sort_perm (d : Array Int) : (Sort.sort ltInt d).toList.Perm d.toList := by
  have h := (sort_sorts ltInt swo_ltInt d).1
  have h1 := h.1
  have h2 := h.2.2
  rw [← h1] at h2
  rw [Array.extract_size] at h2
  rw [h1, Array.extract_size] at h2
  exact h2
theorem sortI_nat (l : List Nat) : ∃ l' : List Nat, (Sort.sort ltInt (arrI l)).toList = l'.map (fun n : Nat => (n : Int)) ∧ l'.Perm l := by
  have hp := sort_perm (arrI l)
  refine ⟨(Sort.sort ltInt (arrI l)).toList.map Int.toNat, ?_, ?_⟩
  · rw [List.map_map]
    have : ∀ x ∈ (Sort.sort ltInt (arrI l)).toList, ((fun n : Nat => (n : Int)) ∘ Int.toNat) x = id x := fun x hx => by
      have := (hp.mem_iff).1 hx
      simp only [arrI] at this
      obtain ⟨n, -, rfl⟩ := List.mem_map.1 this
      simp
    rw [List.map_congr_left this, List.map_id]
  · have h2 := hp.map Int.toNat
    have : (arrI l).toList.map Int.toNat = l := by
      simp only [arrI]
      rw [List.map_map]
      have : ∀ x ∈ l, (Int.toNat ∘ fun n : Nat => (n : Int)) x = id x := fun x _ => by simp
      rw [List.map_congr_left this, List.map_id]
    rwa [this] at h2
theorem allS_eq : (Sort.sort ltInt (arrI (allL 8192))).toList = allS.map (fun n : Nat => (n : Int)) := by
  obtain ⟨l', h1, -⟩ := sortI_nat (allL 8192)
  unfold allS
  rw [h1, List.map_map, List.map_map]
  exact List.map_congr_left fun x _ => by simp
theorem allS_perm : allS.Perm (allL 8192) := by
  obtain ⟨l', h1, h2⟩ := sortI_nat (allL 8192)
  have : allS = l' := by
    unfold allS
    rw [h1, List.map_map]
    have : ∀ x ∈ l', (Int.toNat ∘ fun n : Nat => (n : Int)) x = id x := fun x _ => by simp
    rw [List.map_congr_left this, List.map_id]
  rw [this]
  exact h2
theorem allS_len : allS.length = 5334 := allS_perm.length_eq.trans len_all
theorem allS_arr : Sort.sort ltInt (arrI (allL 8192)) = arrI allS := Array.toList_inj.1 (by rw [allS_eq]; rfl)
/-- They rise. -/
theorem allS_up {i j : Nat} (hij : i < j) (hj : j < allS.length) : allS[i]'(Nat.lt_trans hij hj) < allS[j] := by
  have hs := (sort_sorts ltInt swo_ltInt (arrI (allL 8192))).2
  rw [allS_arr] at hs
  have hz : (arrI (allL 8192)).size = allS.length := by rw [arrI_size, allS_perm.length_eq]
  have h1 := hs i j (Nat.zero_le _) hij (by rw [hz]; exact hj)
  rw [arrI_get _ _ hj, arrI_get _ _ (Nat.lt_trans hij hj)] at h1
  have hle : allS[i]'(Nat.lt_trans hij hj) ≤ allS[j] := by
    unfold ltInt at h1
    have := of_decide_eq_false h1
    omega
  have hnd : allS.Nodup := allS_perm.nodup_iff.2 all_nodup
  have hne : allS[i]'(Nat.lt_trans hij hj) ≠ allS[j] := List.pairwise_iff_getElem.1 (List.nodup_iff_pairwise_ne.1 hnd) i j _ hj hij
  omega
/-- An owned row of numbers as what slices.Sort asks. -/
theorem ow_uat {e base : Nat} {w : World} {v : Value} {l : List Nat} (h : Ow UV e w base v l) (hl : 0 < l.length) : ∃ g cap cur, v = .slice (some ⟨g, 0, none⟩) l.length cap ∧ base ≤ g ∧ UAt e g cur w (arrI l) ∧ l.length ≤ cap ∧ cap ≤ maxLen ∧ cur.size = cap := by
  obtain ⟨h1, h2⟩ := h
  rcases h2 with ⟨rfl, h0⟩ | ⟨g, cap, cur, rfl, hb, hg, hn, hc, hs, ht⟩
  · omega
  · refine ⟨g, cap, cur, rfl, hb, ⟨?_, by rw [arrI_size]; omega⟩, hn, hc, by omega⟩
    have : putCells (Value.int .u64) 0 (arrI l) cur = cur := by
      apply Array.ext_getElem?
      intro k
      unfold putCells
      rw [Array.getElem?_mapIdx]
      by_cases hk : k < l.length
      · have h3 : cur.toList[k]? = some (UV (l[k])) := by
          have h4 : (cur.toList.take (l.length * 1))[k]? = cur.toList[k]? := by
            rw [List.getElem?_take, if_pos (by omega)]
          rw [← h4, ht, List.getElem?_map, List.getElem?_eq_getElem hk]
          rfl
        rw [Array.getElem?_toList] at h3
        rw [h3, Option.map_some, if_pos (by rw [arrI_size]; omega), Nat.sub_zero, arrI_get l k hk]
        rfl
      · cases cur[k]? with
        | none => rfl
        | some y => rw [Option.map_some, if_neg (by rw [arrI_size]; omega)]
    rw [this]
    exact hg
theorem uat_ow {e base g cap : Nat} {cur : Array Value} {w : World} {l : List Nat} (h : UAt e g cur w (arrI l)) (hb : base ≤ g) (hn : l.length ≤ cap) (hc : cap ≤ maxLen) (hs : cur.size = cap) : Ow UV e w base (.slice (some ⟨g, 0, none⟩) l.length cap) l := by
  refine ⟨by simp, .inr ⟨g, cap, _, rfl, hb, h.1, hn, hc, by simp [putCells, hs], ?_⟩⟩
  apply List.ext_getElem?
  intro k
  rw [List.getElem?_take]
  by_cases hk : k < l.length
  · rw [if_pos (by omega), List.getElem?_map, List.getElem?_eq_getElem hk, Array.getElem?_toList]
    unfold putCells
    rw [Array.getElem?_mapIdx, Array.getElem?_eq_getElem (show k < cur.size by omega), Option.map_some, if_pos (by rw [arrI_size]; omega), Nat.sub_zero, arrI_get l k hk]
    rfl
  · rw [if_neg (by omega), List.getElem?_map, List.getElem?_eq_none (by omega)]
    rfl
end Go.Fd
namespace Go.Proofs.Ytjklfichjaapoaa
open Go.RowKit Go.Fd Go.Sort
theorem TW8 : SliceT Try.prog 22 26 1 8 := SliceT.mk' (z := .int .u64 0) (by kernel_rfl) (by kernel_rfl) rfl (by omega)
set_option maxHeartbeats 1000000 in
set_option maxRecDepth 100000 in
theorem mkAll_any (w : World) : Calls Try.prog 12 #[] w fun q w' => ∃ v, q = .returned v ∧ Ow UV 26 w' w.heap.size v allS ∧ Below w.heap.size w w' := by
  go_enter Try.func12, Try.ntmps12
  go_wp2
  go_loopw [7, 1] (fun vn vl wr => ∃ n : Nat, vn = .int .i64 (n : Int) ∧ n ≤ 2 ∧ Hid (Ow UV 26 wr w.heap.size vl (allL (n * 4096))) ∧ Hid (Below w.heap.size w wr)) (fun vn _ _ => 2 - (intOf vn).toNat)
  case atStart => exact ⟨0, rfl, by omega, Lib.hid (Ow.nil _ _ _ _), Lib.hid (Below.refl _ _)⟩
  case round =>
    obtain ⟨n, rfl, hn, HO, HB⟩ := hrel
    by_cases hn2 : n < 2
    · have d1 : decide (n < 2) = true := decide_eq_true hn2
      have d2 : decide ((n : Int) < 2) = true := by simp; omega
      go_wp2
      go_loopw [10, 1] (fun vi vl wx => ∃ i : Nat, vi = .int .i64 (i : Int) ∧ i ≤ 64 ∧ Hid (Ow UV 26 wx w.heap.size vl (allL (n * 4096 + i * 64))) ∧ Hid (Below w.heap.size w wx)) (fun vi _ _ => 64 - (intOf vi).toNat)
      case atStart => exact ⟨0, rfl, by omega, HO, HB⟩
      case round =>
        obtain ⟨i, rfl, hi, HO, HB⟩ := hrel
        by_cases hi2 : i < 64
        · have d3 : decide (i < 64) = true := decide_eq_true hi2
          have d4 : decide ((i : Int) < 64) = true := by simp; omega
          go_wp2
          go_loopw [13, 1] (fun vr vl wy => ∃ r : Nat, vr = .int .i64 (r : Int) ∧ r ≤ 64 ∧ Hid (Ow UV 26 wy w.heap.size vl (allL (n * 4096 + i * 64 + r))) ∧ Hid (Below w.heap.size w wy)) (fun vr _ _ => 64 - (intOf vr).toNat)
          case atStart => exact ⟨0, rfl, by omega, HO, HB⟩
          case round =>
            obtain ⟨r, rfl, hr, HO, HB⟩ := hrel
            by_cases hr2 : r < 64
            · have d5 : decide (r < 64) = true := decide_eq_true hr2
              have d6 : decide ((r : Int) < 64) = true := by simp; omega
              have HA := Lib.hid (mkAt_in n r i hn2 hr2 hi2)
              have HS := Lib.hid (allL_succ (n * 4096 + i * 64 + r))
              rw [show (n * 4096 + i * 64 + r) / 4096 = n by omega, show (n * 4096 + i * 64 + r) % 64 = r by omega, show (n * 4096 + i * 64 + r) / 64 % 64 = i by omega] at HS
              have HLL := Lib.hid (show (allL (n * 4096 + i * 64 + r)).length ≤ 8192 from Nat.le_trans (len_le _) (by omega))
              generalize atM n r i = am at *
              obtain ⟨m, ok⟩ := am
              cases ok with
              | true =>
                rw [if_pos rfl] at HS
                go_wp2_with fail
                refine (HA.out _).mono ?_
                rintro q w1 ⟨rfl, hb1⟩
                have HO1 := Lib.hid (HO.out.mono (hb1.mono (Nat.le_refl _)))
                have HB1 := Lib.hid (HB.out.trans (hb1.mono HB.out.size))
                clear hb1
                go_wp2_with ((with_reducible show wpList _ _ _ (⟨some 27, _, _, _, _, _⟩ :: _) _ _); go_must (refine wpList_pushE TW8 HO1.out rfl rfl m rfl rfl (by have := HLL.out; omega) (by omega) HB1.out.size ?_; intro v3 w3 hv3 _ hb3; have HO3 := Lib.hid (show Ow UV 26 w3 w.heap.size v3 (allL (n * 4096 + i * 64 + r + 1)) by rw [HS.out]; exact hv3); have HB3 := Lib.hid (HB1.out.trans hb3); clear hv3 hb3))
                go_roundw
                case rel => exact ⟨r + 1, by go_num, by omega, HO3, HB3⟩
                case measure => simp [intOf] <;> omega
              | false =>
                rw [if_neg (by exact Bool.false_ne_true)] at HS
                go_wp2_with fail
                refine (HA.out _).mono ?_
                rintro q w1 ⟨rfl, hb1⟩
                have HO1 := Lib.hid (show Ow UV 26 w1 w.heap.size _ (allL (n * 4096 + i * 64 + r + 1)) by rw [HS.out]; exact HO.out.mono (hb1.mono (Nat.le_refl _)))
                have HB1 := Lib.hid (HB.out.trans (hb1.mono HB.out.size))
                clear hb1
                go_wp2
                go_roundw
                case rel => exact ⟨r + 1, by go_num, by omega, HO1, HB1⟩
                case measure => simp [intOf] <;> omega
            · obtain rfl : r = 64 := by omega
              go_wp2
              go_roundw
              case rel => exact ⟨i + 1, by go_num, by omega, Lib.hid (by rw [show n * 4096 + (i + 1) * 64 = n * 4096 + i * 64 + 64 by omega]; exact HO.out), HB⟩
              case measure => simp [intOf] <;> omega
        · obtain rfl : i = 64 := by omega
          go_wp2
          go_roundw
          case rel => exact ⟨n + 1, by go_num, by omega, Lib.hid (by rw [show (n + 1) * 4096 = n * 4096 + 64 * 64 by omega]; exact HO.out), HB⟩
          case measure => simp [intOf] <;> omega
    · obtain rfl : n = 2 := by omega
      obtain ⟨g, cap, cur, rfl, hgb, hu, hcap, hmax, hsz⟩ := ow_uat HO.out (by rw [len_all]; decide)
      have HSO := Lib.hid (uSort_any 26 g cap (allL (2 * 4096)).length cur (arrI (allL (2 * 4096))) wr hu (arrI_size _) (by rw [len_all]; decide))
      have HFIN := Lib.hid (fun (w5 : World) (h5 : UB 26 g cur wr (allL (2 * 4096)).length w5 (Sort.sort ltInt (arrI (allL (2 * 4096))))) => show Ow UV 26 w5 w.heap.size (.slice (some ⟨g, 0, none⟩) (allL (2 * 4096)).length cap) allS ∧ Below w.heap.size w w5 from by
        have h6 := h5.at_
        rw [show (2 * 4096) = 8192 from rfl, allS_arr] at h6
        refine ⟨?_, HB.out.trans (h5.st.below HB.out.size fun k hk => by rw [hk]; exact hgb)⟩
        have := uat_ow h6 hgb (by rw [allS_perm.length_eq]; exact hcap) hmax hsz
        rwa [allS_perm.length_eq] at this)
      generalize (allL (2 * 4096)).length = nn at *
      clear hu hcap hmax hsz
      go_wp2_with fail
      refine HSO.out.mono ?_
      rintro q w5 ⟨rfl, h5⟩
      have HF := Lib.hid (HFIN.out w5 h5)
      clear h5
      go_wp2
      go_ret
      exact ⟨_, rfl, HF.out.1, HF.out.2⟩
end Go.Proofs.Ytjklfichjaapoaa
namespace Go.Fd
open Go.RowKit
theorem of_255 : ofM 255 = (1, 0, 7, true) := by kernel_rfl
theorem at_60 : atM 0 0 60 = (6148914691236517205, true) := by kernel_rfl
theorem cntL_le (m : Nat) : ∀ k, cntLM m k ≤ k
  | 0 => Nat.le_refl _
  | k + 1 => by
    have h1 := cntL_le m k
    have h2 : Nat.land (m / 2 ^ k) 1 ≤ 1 := Nat.and_le_right
    rw [cntLM]
    omega
theorem relM_lt {e c r : Nat} : ∀ k, k ≤ 64 → relM e c r k < 2 ^ k
  | 0, _ => by simp [relM]
  | k + 1, h => by
    have h1 := relM_lt (e := e) (c := c) (r := r) k (by omega)
    have h2 : 2 ^ k < 2 ^ (k + 1) := Nat.pow_lt_pow_right (by decide) (by omega)
    rw [relM]
    split
    · exact Nat.or_lt_two_pow (by omega) h2
    · omega
theorem rel_lt64 {e c r k : Nat} (h : k ≤ 64) : relM e c r k < 18446744073709551616 := Nat.lt_of_lt_of_le (relM_lt k h) (Nat.pow_le_pow_right (n := 2) (by decide) h)
theorem two_wrap {k : Nat} (h : k ≤ 63) : IntKind.u64.wrap ((2 : Int) ^ k) = ((2 ^ k : Nat) : Int) := by
  have h1 : (2 : Nat) ^ k ≤ 2 ^ 63 := Nat.pow_le_pow_right (by decide) h
  rw [IntKind.wrap_u64, show (2 : Int) ^ k = ((2 ^ k : Nat) : Int) by push_cast; rfl]
  generalize (2 : Nat) ^ k = p at *
  omega
theorem high_le (e : Nat) : highM e ≤ 60 := by
  unfold highM
  split
  · omega
  · split
    · omega
    · split
      · omega
      · split <;> omega
end Go.Fd
namespace Go.Proofs.Ytjklfichjaapoaa
open Go.RowKit Go.Fd Go.Sort
set_option maxHeartbeats 1000000 in
set_option maxRecDepth 100000 in
theorem begun10_any (w : World) : Calls Try.prog 7 #[] w fun q w' => q = .returned (.bool true) ∧ Below w.heap.size w w' := by
  have H1 := Lib.hid (mkOf_any 255 (by decide))
  rw [of_255] at H1
  have H2 := Lib.hid (mkAt_in 0 0 60 (by decide) (by decide) (by decide))
  rw [at_60] at H2
  have H3 : Hid (∀ w : World, Calls Try.prog 12 #[] w fun q w' => ∃ a cap, q = .returned (.slice a 5334 cap) ∧ Below w.heap.size w w') := Lib.hid (fun w => (mkAll_any w).mono (by
    rintro q w' ⟨v, rfl, h1, h2⟩
    obtain ⟨m, a, cap, hm, rfl, -, -⟩ := h1.shape
    obtain rfl : m = 5334 := hm.out.trans allS_len
    exact ⟨a, cap, rfl, h2⟩))
  go_enter Try.func7, Try.ntmps7
  go_wp2_with fail
  refine (H1.out _).mono ?_
  rintro q w1 ⟨rfl, hb1⟩
  have HB1 := Lib.hid hb1
  clear hb1
  go_wp2_with fail
  refine (H2.out _).mono ?_
  rintro q w2 ⟨rfl, hb2⟩
  have HB2 := Lib.hid (HB1.out.trans (hb2.mono HB1.out.size))
  clear hb2
  go_wp2_with fail
  refine (H3.out _).mono ?_
  rintro q w3 ⟨a, cap, rfl, hb3⟩
  have HB3 := Lib.hid (HB2.out.trans (hb3.mono HB2.out.size))
  clear hb3
  go_wp2
  go_ret
  exact ⟨rfl, HB3.out⟩
set_option maxRecDepth 100000 in
theorem lawCount_any (m : Nat) (hm : m < 18446744073709551616) (w : World) : Calls Try.prog 14 #[.int .u64 (m : Int)] w fun q w' => q = .returned (.int .i64 ((cntLM m 64 : Nat) : Int)) ∧ w' = w := by
  have HM := Lib.hid hm
  clear hm
  go_enter Try.func14, Try.ntmps14
  go_wp2
  go_loopw [3, 4] (fun vn vi wr => ∃ i : Nat, vn = .int .i64 ((cntLM m i : Nat) : Int) ∧ vi = .int .i64 (i : Int) ∧ i ≤ 64 ∧ wr = w) (fun _ vi _ => 64 - (intOf vi).toNat)
  case atStart => exact ⟨0, rfl, rfl, by omega, rfl⟩
  case round =>
    obtain ⟨i, rfl, rfl, hi, rfl⟩ := hrel
    by_cases hi2 : i < 64
    · have d1 : decide (i < 64) = true := decide_eq_true hi2
      have d2 : decide ((i : Int) < 64) = true := by simp; omega
      have e0 : IntKind.u64.wrap (i : Int) = (i : Int) := by rw [IntKind.wrap_u64]; omega
      have e1 : min i 64 = i := Nat.min_eq_left (by omega)
      obtain ⟨s, hs⟩ : ∃ s, s = m / 2 ^ i := ⟨_, rfl⟩
      have e2 : (m : Int) / 2 ^ i = (s : Int) := by rw [hs]; exact shr64 m i
      have ls : s < 18446744073709551616 := by rw [hs]; exact Nat.lt_of_le_of_lt (Nat.div_le_self _ _) HM.out
      obtain ⟨b, hb⟩ : ∃ b, b = Nat.land s 1 := ⟨_, rfl⟩
      have hb1 : b ≤ 1 := by rw [hb]; exact Nat.and_le_right
      have e3 : bits .and .u64 (s : Int) 1 = (b : Int) := by rw [hb]; exact band64 (b := 1) ls (by decide)
      have HC := Lib.hid (show cntLM m (i + 1) = cntLM m i + b by rw [cntLM, hb, hs])
      have hle := cntL_le m i
      generalize cntLM m i = n at *
      clear hs hb ls
      go_wp2
      go_roundw
      case rel => exact ⟨i + 1, by rw [HC.out]; exact int_eq (by omega), by go_num, by omega, trivial⟩
      case measure => simp [intOf] <;> omega
    · obtain rfl : i = 64 := by omega
      go_wp2
      go_ret
      exact ⟨rfl, rfl⟩
set_option maxRecDepth 100000 in
theorem rHigh_any (e : Nat) (w : World) : Calls Try.prog 19 #[.int .i64 (e : Int)] w fun q w' => q = .returned (.int .i64 ((highM e : Nat) : Int)) ∧ w' = w := by
  by_cases h16 : e = 16
  · subst h16
    go_enter Try.func19, Try.ntmps19
    go_wp2
    go_ret
    exact ⟨rfl, rfl⟩
  have d16 : ((e : Int) == 16) = false := by simp; omega
  by_cases h8 : e = 8
  · subst h8
    go_enter Try.func19, Try.ntmps19
    go_wp2
    go_ret
    exact ⟨rfl, rfl⟩
  have d8 : ((e : Int) == 8) = false := by simp; omega
  by_cases h4 : e = 4
  · subst h4
    go_enter Try.func19, Try.ntmps19
    go_wp2
    go_ret
    exact ⟨rfl, rfl⟩
  have d4 : ((e : Int) == 4) = false := by simp; omega
  by_cases h2 : e = 2
  · subst h2
    go_enter Try.func19, Try.ntmps19
    go_wp2
    go_ret
    exact ⟨rfl, rfl⟩
  have d2 : ((e : Int) == 2) = false := by simp; omega
  have HR := Lib.hid (show highM e = 0 by unfold highM; rw [if_neg h16, if_neg h8, if_neg h4, if_neg h2])
  go_enter Try.func19, Try.ntmps19
  go_wp2
  go_ret
  rw [HR.out]
  exact ⟨rfl, rfl⟩
set_option maxRecDepth 100000 in
theorem rSize_any (n i : Nat) (w : World) : Calls Try.prog 22 #[.int .i64 (n : Int), .int .i64 (i : Int)] w fun q w' => q = .returned (.int .i64 ((sizeM n i : Nat) : Int)) ∧ w' = w := by
  by_cases h1 : n = 1
  · subst h1
    go_enter Try.func22, Try.ntmps22
    go_wp2
    go_ret
    exact ⟨rfl, rfl⟩
  have d1 : ((n : Int) == 1) = false := by simp; omega
  by_cases c1 : i < 32
  · have f1 : decide ((i : Int) < 32) = true := by simp; omega
    have HR := Lib.hid (show sizeM n i = 32 by unfold sizeM; rw [if_neg h1, if_pos c1])
    go_enter Try.func22, Try.ntmps22
    go_wp2
    go_ret
    rw [HR.out]
    exact ⟨rfl, rfl⟩
  have f1 : decide ((i : Int) < 32) = false := by simp; omega
  by_cases c2 : i < 48
  · have f2 : decide ((i : Int) < 48) = true := by simp; omega
    have HR := Lib.hid (show sizeM n i = 16 by unfold sizeM; rw [if_neg h1, if_neg c1, if_pos c2])
    go_enter Try.func22, Try.ntmps22
    go_wp2
    go_ret
    rw [HR.out]
    exact ⟨rfl, rfl⟩
  have f2 : decide ((i : Int) < 48) = false := by simp; omega
  by_cases c3 : i < 56
  · have f3 : decide ((i : Int) < 56) = true := by simp; omega
    have HR := Lib.hid (show sizeM n i = 8 by unfold sizeM; rw [if_neg h1, if_neg c1, if_neg c2, if_pos c3])
    go_enter Try.func22, Try.ntmps22
    go_wp2
    go_ret
    rw [HR.out]
    exact ⟨rfl, rfl⟩
  have f3 : decide ((i : Int) < 56) = false := by simp; omega
  by_cases c4 : i < 60
  · have f4 : decide ((i : Int) < 60) = true := by simp; omega
    have HR := Lib.hid (show sizeM n i = 4 by unfold sizeM; rw [if_neg h1, if_neg c1, if_neg c2, if_neg c3, if_pos c4])
    go_enter Try.func22, Try.ntmps22
    go_wp2
    go_ret
    rw [HR.out]
    exact ⟨rfl, rfl⟩
  have f4 : decide ((i : Int) < 60) = false := by simp; omega
  by_cases c5 : i < 62
  · have f5 : decide ((i : Int) < 62) = true := by simp; omega
    have HR := Lib.hid (show sizeM n i = 2 by unfold sizeM; rw [if_neg h1, if_neg c1, if_neg c2, if_neg c3, if_neg c4, if_pos c5])
    go_enter Try.func22, Try.ntmps22
    go_wp2
    go_ret
    rw [HR.out]
    exact ⟨rfl, rfl⟩
  have f5 : decide ((i : Int) < 62) = false := by simp; omega
  have HR := Lib.hid (show sizeM n i = 0 by unfold sizeM; rw [if_neg h1, if_neg c1, if_neg c2, if_neg c3, if_neg c4, if_neg c5])
  go_enter Try.func22, Try.ntmps22
  go_wp2
  go_ret
  rw [HR.out]
  exact ⟨rfl, rfl⟩
set_option maxRecDepth 100000 in
theorem rElem_any (e c r : Nat) (he : 1 ≤ e) (he2 : e ≤ 64) (_hc : c ≤ 100) (hr : r ≤ 100) (w : World) : Calls Try.prog 23 #[.int .i64 (e : Int), .int .i64 (c : Int), .int .i64 (r : Int)] w fun q w' => q = .returned (.int .u64 ((relM e c r 64 : Nat) : Int)) ∧ w' = w := by
  go_enter Try.func23, Try.ntmps23
  go_wp2
  go_loopw [7, 8, 9] (fun vx vi _ wr => ∃ i : Nat, vx = .int .u64 ((relM e c r i : Nat) : Int) ∧ vi = .int .i64 (i : Int) ∧ i ≤ 64 ∧ wr = w) (fun _ vi _ _ => 64 - (intOf vi).toNat)
  case atStart => exact ⟨0, rfl, rfl, by omega, rfl⟩
  case round =>
    obtain ⟨i, rfl, rfl, hi, rfl⟩ := hrel
    by_cases hi2 : i < 64
    · have d1 : decide (i < 64) = true := decide_eq_true hi2
      have d2 : decide ((i : Int) < 64) = true := by simp; omega
      obtain ⟨k, hk⟩ : ∃ k, k = (i + r) % e := ⟨_, rfl⟩
      have hke : k < e := by rw [hk]; exact Nat.mod_lt _ he
      have e1 : ((i : Int) + (r : Int)).tmod (e : Int) = (k : Int) := by
        rw [show (i : Int) + (r : Int) = ((i + r : Nat) : Int) by omega, hk, Int.tmod_eq_emod_of_nonneg (by omega)]
        exact (Int.natCast_emod _ _).symm
      have e1' : ((i : Int) + (r : Int)) % (e : Int) = (k : Int) := by
        rw [show (i : Int) + (r : Int) = ((i + r : Nat) : Int) by omega, hk]
        exact (Int.natCast_emod _ _).symm
      have hne : ((e : Int) == 0) = false := by simp; omega
      have HL := Lib.hid (rel_lt64 (e := e) (c := c) (r := r) (k := i) (by omega))
      by_cases hkc : k < c
      · have d3 : decide ((k : Int) < (c : Int)) = true := by simp; exact hkc
        have d4 : decide (k < c) = true := decide_eq_true hkc
        have e0 : IntKind.u64.wrap (i : Int) = (i : Int) := by rw [IntKind.wrap_u64]; omega
        have em : min i 64 = i := Nat.min_eq_left (by omega)
        obtain ⟨p, hp⟩ : ∃ p, p = 2 ^ i := ⟨_, rfl⟩
        have e2 : IntKind.u64.wrap ((2 : Int) ^ i) = (p : Int) := by rw [hp]; exact two_wrap (by omega)
        have lp : p < 18446744073709551616 := by rw [hp]; exact Nat.lt_of_lt_of_le (Nat.pow_lt_pow_right (n := 64) (by decide) hi2) (by decide)
        obtain ⟨v, hv⟩ : ∃ v, v = Nat.lor (relM e c r i) p := ⟨_, rfl⟩
        have HC := Lib.hid (show relM e c r (i + 1) = v by rw [relM, ← hk, if_pos hkc, hv, hp])
        have e3 : bits .or .u64 ((relM e c r i : Nat) : Int) (p : Int) = (v : Int) := by rw [hv]; exact bor64 HL.out lp
        generalize relM e c r i = n at *
        clear hk hp hv lp HL
        go_wp2
        go_roundw
        case rel => exact ⟨i + 1, by rw [HC.out], by go_num, by omega, trivial⟩
        case measure => simp [intOf] <;> omega
      · have d3 : decide ((k : Int) < (c : Int)) = false := by simp; omega
        have d4 : decide (k < c) = false := decide_eq_false hkc
        have HC := Lib.hid (show relM e c r (i + 1) = relM e c r i by rw [relM, ← hk, if_neg hkc])
        generalize relM e c r i = n at *
        clear hk HL
        go_wp2
        go_roundw
        case rel => exact ⟨i + 1, by rw [HC.out], by go_num, by omega, trivial⟩
        case measure => simp [intOf] <;> omega
    · obtain rfl : i = 64 := by omega
      go_wp2
      go_ret
      exact ⟨rfl, rfl⟩
end Go.Proofs.Ytjklfichjaapoaa
namespace Go.Fd
open Go.RowKit
def ratI (n r i : Int) : Nat × Bool := if inRg n r i then ratM n.toNat r.toNat i.toNat else (0, false)
theorem rat_ati (n r i : Int) : ratI n r i = atI n r i := by
  unfold ratI atI
  split
  · rename_i h
    obtain ⟨h1, h2, h3, h4, h5, h6⟩ := h
    exact rat_at (by omega) (by omega)
  · rfl
theorem size_cases (n i : Nat) : sizeM n i = 0 ∨ sizeM n i ∈ Es := by
  unfold sizeM
  repeat' split
  all_goals first | exact .inl rfl | exact .inr (by decide)
theorem high_imms {n i : Nat} (hn : n < 2) (hi : i < 64) : highM (sizeM n i) ≤ i ∨ sizeM n i = 0 := by
  have : (allB 2 fun n => allB 64 fun i => Nat.ble (highM (sizeM n i)) i || Nat.beq (sizeM n i) 0) = true := by kernel_rfl
  have := allB_spec (allB_spec this n hn) i hi
  simpa using this
theorem turn1_64 (x e : Nat) : turn1M x e < 18446744073709551616 := Nat.lt_of_le_of_lt Nat.and_le_right (ones_lt e)
end Go.Fd
namespace Go.Proofs.Ytjklfichjaapoaa
open Go.RowKit Go.Fd Go.Sort
set_option maxHeartbeats 1000000 in
set_option maxRecDepth 100000 in
theorem rAt_in (n r i : Nat) (hn : n < 2) (hr : r < 64) (hi : i < 64) (w : World) : Calls Try.prog 11 #[.int .i64 (n : Int), .int .i64 (r : Int), .int .i64 (i : Int)] w fun q w' => q = .returned (.tuple #[.int .u64 ((ratM n r i).1 : Nat), .bool (ratM n r i).2]) ∧ w' = w := by
  have HS := Lib.hid (rSize_any n i)
  have HSC := Lib.hid (size_cases n i)
  have HHI := Lib.hid (high_imms hn hi)
  have HA := Lib.hid (show ratM n r i = if sizeM n i = 0 ∨ sizeM n i ≤ r then (0, false) else if sizeM n i ≤ i - highM (sizeM n i) + 1 then (0, false) else (relM (sizeM n i) (i - highM (sizeM n i) + 1) r 64, true) from rfl)
  generalize sizeM n i = e at *
  have z1 : decide ((n : Int) > 1) = false := by simp; omega
  have z2 : decide ((r : Int) > 63) = false := by simp; omega
  have z3 : decide ((i : Int) > 63) = false := by simp; omega
  have z4 : decide ((n : Int) < 0) = false := by simp
  have z5 : decide ((r : Int) < 0) = false := by simp
  have z6 : decide ((i : Int) < 0) = false := by simp
  by_cases h0 : e = 0
  · have HR := Lib.hid (show ratM n r i = (0, false) by rw [HA.out, if_pos (.inl h0)])
    have d0 : ((e : Int) == 0) = true := by simp; omega
    go_enter Try.func11, Try.ntmps11
    go_wp2_with fail
    refine (HS.out _).mono ?_
    rintro q w1 ⟨rfl, rfl⟩
    go_wp2
    go_ret2
    rw [HR.out]
    exact ⟨rfl, rfl⟩
  have d0 : ((e : Int) == 0) = false := by simp; omega
  have hes := HSC.out.resolve_left h0
  have hhi := HHI.out.resolve_right h0
  have hle := es_le hes
  clear hes
  by_cases hre : e ≤ r
  · have HR := Lib.hid (show ratM n r i = (0, false) by rw [HA.out, if_pos (.inr hre)])
    have d1 : decide ((r : Int) ≥ (e : Int)) = true := by simp; omega
    go_enter Try.func11, Try.ntmps11
    go_wp2_with fail
    refine (HS.out _).mono ?_
    rintro q w1 ⟨rfl, rfl⟩
    go_wp2
    go_ret2
    rw [HR.out]
    exact ⟨rfl, rfl⟩
  have d1 : decide ((r : Int) ≥ (e : Int)) = false := by simp; omega
  have HH := Lib.hid (rHigh_any e)
  generalize highM e = hg at *
  obtain ⟨c, hc⟩ : ∃ c, c = i - hg + 1 := ⟨_, rfl⟩
  have e1 : (i : Int) - (hg : Int) + 1 = (c : Int) := by omega
  rw [← hc] at HA
  have hc100 : c ≤ 100 := by omega
  clear hc
  by_cases hce : e ≤ c
  · have HR := Lib.hid (show ratM n r i = (0, false) by rw [HA.out, if_neg (by omega), if_pos hce])
    have d2 : decide ((c : Int) ≥ (e : Int)) = true := by simp; omega
    go_enter Try.func11, Try.ntmps11
    go_wp2_with fail
    refine (HS.out _).mono ?_
    rintro q w1 ⟨rfl, rfl⟩
    go_wp2_with fail
    refine (HH.out _).mono ?_
    rintro q w1 ⟨rfl, rfl⟩
    go_wp2
    go_ret2
    rw [HR.out]
    exact ⟨rfl, rfl⟩
  · have HR := Lib.hid (show ratM n r i = (relM e c r 64, true) by rw [HA.out, if_neg (by omega), if_neg hce])
    have d2 : decide ((c : Int) ≥ (e : Int)) = false := by simp; omega
    have HE := Lib.hid (rElem_any e c r (by omega) hle.2 hc100 (by omega))
    go_enter Try.func11, Try.ntmps11
    go_wp2_with fail
    refine (HS.out _).mono ?_
    rintro q w1 ⟨rfl, rfl⟩
    go_wp2_with fail
    refine (HH.out _).mono ?_
    rintro q w1 ⟨rfl, rfl⟩
    go_wp2_with fail
    refine (HE.out _).mono ?_
    rintro q w1 ⟨rfl, rfl⟩
    go_wp2
    go_ret2
    rw [HR.out]
    exact ⟨rfl, rfl⟩
set_option maxHeartbeats 1000000 in
set_option maxRecDepth 100000 in
theorem rAt_any (n r i : Int) (w : World) : Calls Try.prog 11 #[.int .i64 n, .int .i64 r, .int .i64 i] w fun q w' => q = .returned (.tuple #[.int .u64 ((ratI n r i).1 : Nat), .bool (ratI n r i).2]) ∧ Below w.heap.size w w' := by
  by_cases h : inRg n r i
  · have hk := h
    obtain ⟨h1, h2, h3, h4, h5, h6⟩ := h
    obtain ⟨n, rfl⟩ := Int.eq_ofNat_of_zero_le h1
    obtain ⟨r, rfl⟩ := Int.eq_ofNat_of_zero_le h3
    obtain ⟨i, rfl⟩ := Int.eq_ofNat_of_zero_le h5
    have := rAt_in n r i (by omega) (by omega) (by omega) w
    unfold ratI
    rw [if_pos hk]
    exact this.mono fun q w' ⟨a, b⟩ => ⟨a, b ▸ Below.refl _ _⟩
  · have HR := Lib.hid (show ratI n r i = (0, false) by unfold ratI; rw [if_neg h])
    rw [HR.out]
    unfold inRg at h
    by_cases c0 : n < 0
    · have d0 : decide (n < 0) = true := decide_eq_true c0
      go_enter Try.func11, Try.ntmps11
      go_wp2
      go_ret2
      exact ⟨rfl, Below.refl _ _⟩
    have d0 : decide (n < 0) = false := decide_eq_false c0
    by_cases c1 : n > 1
    · have d1 : decide (n > 1) = true := decide_eq_true c1
      go_enter Try.func11, Try.ntmps11
      go_wp2
      go_ret2
      exact ⟨rfl, Below.refl _ _⟩
    have d1 : decide (n > 1) = false := decide_eq_false c1
    by_cases c2 : r < 0
    · have d2 : decide (r < 0) = true := decide_eq_true c2
      go_enter Try.func11, Try.ntmps11
      go_wp2
      go_ret2
      exact ⟨rfl, Below.refl _ _⟩
    have d2 : decide (r < 0) = false := decide_eq_false c2
    by_cases c3 : r > 63
    · have d3 : decide (r > 63) = true := decide_eq_true c3
      go_enter Try.func11, Try.ntmps11
      go_wp2
      go_ret2
      exact ⟨rfl, Below.refl _ _⟩
    have d3 : decide (r > 63) = false := decide_eq_false c3
    by_cases c4 : i < 0
    · have d4 : decide (i < 0) = true := decide_eq_true c4
      go_enter Try.func11, Try.ntmps11
      go_wp2
      go_ret2
      exact ⟨rfl, Below.refl _ _⟩
    have d4 : decide (i < 0) = false := decide_eq_false c4
    have c5 : i > 63 := by omega
    have d5 : decide (i > 63) = true := decide_eq_true c5
    go_enter Try.func11, Try.ntmps11
    go_wp2
    go_ret2
    exact ⟨rfl, Below.refl _ _⟩
set_option maxHeartbeats 1000000 in
set_option maxRecDepth 100000 in
theorem rTurn_any (x e : Nat) (hx : x < 18446744073709551616) (he : 1 ≤ e) (he2 : e ≤ 64) (w : World) : Calls Try.prog 20 #[.int .u64 (x : Int), .int .i64 (e : Int)] w fun q w' => q = .returned (.int .u64 ((turn1M x e : Nat) : Int)) ∧ w' = w := by
  obtain ⟨d, rfl⟩ : ∃ d, e = d + 1 := ⟨e - 1, by omega⟩
  obtain ⟨a, ha⟩ : ∃ a, a = x * 2 % 18446744073709551616 := ⟨_, rfl⟩
  obtain ⟨b, hb⟩ : ∃ b, b = x / 2 ^ d := ⟨_, rfl⟩
  obtain ⟨c, hc⟩ : ∃ c, c = Nat.lor a b := ⟨_, rfl⟩
  obtain ⟨o, ho⟩ : ∃ o, o = onesM (d + 1) := ⟨_, rfl⟩
  obtain ⟨v, hv⟩ : ∃ v, v = Nat.land c o := ⟨_, rfl⟩
  have la : a < 18446744073709551616 := by rw [ha]; exact Nat.mod_lt _ (by decide)
  have lb : b < 18446744073709551616 := by rw [hb]; exact Nat.lt_of_le_of_lt (Nat.div_le_self _ _) hx
  have lc : c < 18446744073709551616 := by rw [hc]; exact or_lt la lb
  have lo : o < 18446744073709551616 := by rw [ho]; exact ones_lt _
  have e1 : IntKind.u64.wrap ((x : Int) * 2) = (a : Int) := by rw [IntKind.wrap_u64]; omega
  have e2 : (x : Int) / 2 ^ d = (b : Int) := by rw [hb]; exact shr64 x d
  have e3 : bits .or .u64 (a : Int) (b : Int) = (c : Int) := by rw [hc]; exact bor64 la lb
  have e4 : bits .and .u64 (c : Int) (o : Int) = (v : Int) := by rw [hv]; exact band64 lc lo
  have e5 : min d 64 = d := Nat.min_eq_left (by omega)
  have e6 : (d : Int) + 1 - 1 = (d : Int) := by omega
  have e7 : IntKind.u64.wrap (d : Int) = (d : Int) := by rw [IntKind.wrap_u64]; omega
  have e8 : IntKind.u64.wrap ((d : Int) + 1) = (d : Int) + 1 := by rw [IntKind.wrap_u64]; omega
  have HV := Lib.hid (show turn1M x (d + 1) = v by rw [hv, hc, ho, ha, hb]; rfl)
  rw [show ((d + 1 : Nat) : Int) = (d : Int) + 1 by omega]
  by_cases h64 : d = 63
  · have ho2 : o = 18446744073709551615 := by rw [ho, h64]; rfl
    subst ho2
    subst h64
    have e2' : (x : Int) / 9223372036854775808 = (b : Int) := by rw [hb]; omega
    have e4' : bits .and .u64 (c : Int) 18446744073709551615 = (v : Int) := e4
    clear ha hb hc ho hv la lb lc lo hx
    go_enter Try.func20, Try.ntmps20
    go_wp2
    go_ret
    rw [HV.out]
    exact ⟨rfl, rfl⟩
  · have d1 : ((d : Int) + 1 == 64) = false := by simp; omega
    obtain ⟨p, hp⟩ : ∃ p, p = 2 ^ (d + 1) := ⟨_, rfl⟩
    have hp1 : 1 ≤ p := by rw [hp]; exact Nat.two_pow_pos _
    have hp2 : p ≤ 9223372036854775808 := by rw [hp]; exact (Nat.pow_le_pow_right (by decide) (show d + 1 ≤ 63 by omega) : 2 ^ (d + 1) ≤ 2 ^ 63)
    have e9 : IntKind.u64.wrap ((2 : Int) ^ (d + 1)) = (p : Int) := by rw [hp]; exact two_wrap (by omega)
    have e10 : min (d + 1) 64 = d + 1 := Nat.min_eq_left (by omega)
    have e11 : (p : Int) - 1 = (o : Int) := by
      have : o = p - 1 := by rw [ho, hp]; unfold onesM; rw [if_neg (by omega)]
      omega
    have e12 : IntKind.u64.wrap ((p : Int) - 1) = (o : Int) := by rw [e11, IntKind.wrap_u64]; omega
    have e13 : ((d : Int) + 1).toNat = d + 1 := by omega
    have e14 : IntKind.u64.wrap (o : Int) = (o : Int) := by rw [IntKind.wrap_u64]; omega
    clear ha hb hc ho hv la lb lc lo hx hp h64 hp2
    go_enter Try.func20, Try.ntmps20
    go_wp2
    go_ret
    rw [HV.out]
    exact ⟨rfl, rfl⟩
end Go.Proofs.Ytjklfichjaapoaa
namespace Go.Fd
open Go.RowKit
theorem low_hit {x e c : Nat} (h1 : 1 ≤ c) (h2 : c < e) (hx : x = 2 ^ c - 1) : lowM x e = some c := by
  have h0 : 0 < 2 ^ c := Nat.two_pow_pos c
  have h3 : x + 1 = 2 ^ c := by omega
  unfold lowM
  rw [h3, Nat.log2_two_pow, if_pos]
  simp [h1, h2]
theorem low_none {x e : Nat} (h : ∀ c, 1 ≤ c → c < e → x ≠ 2 ^ c - 1) : lowM x e = none := by
  cases hl : lowM x e with
  | none => rfl
  | some c =>
    obtain ⟨h1, h2, h3⟩ := low_some hl
    exact absurd h3 (h c h1 h2)
def rnxt (o : Option Nat) (e r : Nat) (z : Fld) : Fld := match o with
  | some c => (if e = 64 then 1 else 0, r, highM e + c - 1, true)
  | none => z
theorem rfind_succ (e f r x : Nat) : rfindM e (f + 1) r x = rnxt (lowM x e) e r (rfindM e f (r + 1) (turn1M x e)) := by
  rw [rfindM]
  cases lowM x e <;> rfl
theorem es_div {e : Nat} (h : e ∈ Es) : e * (64 / e) = 64 := es_all (p := fun e => e * (64 / e) = 64) (by decide) (by decide) (by decide) (by decide) (by decide) (by decide) e h
theorem es_dbl {e : Nat} (h : e ∈ Es) (h2 : e < 64) : e * 2 ∈ Es := es_all (p := fun e => e < 64 → e * 2 ∈ Es) (by decide) (by decide) (by decide) (by decide) (by decide) (by decide) e h h2
theorem beq_nat (a b : Nat) : ((a : Int) == (b : Int)) = Nat.beq a b := by
  rw [Bool.eq_iff_iff, Nat.beq_eq, beq_iff_eq]
  omega
end Go.Fd
namespace Go.Proofs.Ytjklfichjaapoaa
open Go.RowKit Go.Fd Go.Sort
set_option maxHeartbeats 4000000 in
set_option maxRecDepth 100000 in
theorem rOf_any (m : Nat) (hm : m < 18446744073709551616) (w : World) : Calls Try.prog 9 #[.int .u64 (m : Int)] w fun q w' => q = .returned (.tuple #[.int .i64 ((rofM 6 2 m).1 : Nat), .int .i64 ((rofM 6 2 m).2.1 : Nat), .int .i64 ((rofM 6 2 m).2.2.1 : Nat), .bool (rofM 6 2 m).2.2.2]) ∧ w' = w := by
  have HM := Lib.hid hm
  clear hm
  go_enter Try.func9, Try.ntmps9
  go_wp2
  go_loopg [6] 200 (fun gg ve wr => ∃ e f : Nat, ve = .int .i64 (e : Int) ∧ gg + e = 202 ∧ 2 ≤ e ∧ e ≤ 128 ∧ Hid (e ∈ Es ∨ e = 128) ∧ Hid (128 ≤ e * 2 ^ f) ∧ Hid (rofM f e m = rofM 6 2 m) ∧ wr = w)
  case atStart => exact ⟨2, 6, rfl, by omega, by omega, by omega, Lib.hid (.inl (by decide)), Lib.hid (by decide), Lib.hid rfl, rfl⟩
  case round =>
    obtain ⟨e, f, rfl, hgg, he2, he128, HE, HF, HR, rfl⟩ := hrel
    by_cases hle : e ≤ 64
    · have d1 : decide (e ≤ 64) = true := decide_eq_true hle
      have d2 : decide ((e : Int) ≤ 64) = true := by simp; omega
      have HES := Lib.hid (show e ∈ Es from HE.out.resolve_right (by omega))
      obtain ⟨f, rfl⟩ : ∃ f', f = f' + 1 := by
        cases f with
        | zero => exact absurd HF.out (by simp; omega)
        | succ f => exact ⟨f, rfl⟩
      obtain ⟨o, ho⟩ : ∃ o, o = onesM e := ⟨_, rfl⟩
      have lo : o < 18446744073709551616 := by rw [ho]; exact ones_lt e
      have HLO := Lib.hid lo
      have HOE := Lib.hid ho
      have e0 : IntKind.u64.wrap (e : Int) = (e : Int) := by rw [IntKind.wrap_u64]; omega
      have e1 : min e 64 = e := Nat.min_eq_left hle
      obtain ⟨p, hp⟩ : ∃ p, p = 2 ^ e % 18446744073709551616 := ⟨_, rfl⟩
      have e9 : IntKind.u64.wrap ((2 : Int) ^ e) = (p : Int) := by
        have := shl64 1 e
        rw [Nat.one_mul, ← hp] at this
        rw [← this]
        congr 1
        omega
      have e12 : IntKind.u64.wrap ((p : Int) - 1) = (o : Int) := by
        by_cases h64 : e = 64
        · subst h64
          rw [hp, ho]
          decide
        · have h2 : (2 : Nat) ^ e ≤ 2 ^ 63 := Nat.pow_le_pow_right (by decide) (by omega)
          have h3 : 0 < (2 : Nat) ^ e := Nat.two_pow_pos e
          have : o = 2 ^ e - 1 := by rw [ho]; unfold onesM; rw [if_neg (by omega)]
          rw [IntKind.wrap_u64]
          generalize (2 : Nat) ^ e = q at *
          omega
      clear ho hp lo
      go_upto_if 23 with fail
      go_cut [7] from 24 (fun s7 wc => s7 = .int .u64 (o : Int) ∧ wc = wr)
      case first =>
        by_cases h64 : e = 64
        · have d3 : ((e : Int) == 64) = true := by simp; omega
          have ho2 : o = 18446744073709551615 := by rw [HOE.out, h64]; rfl
          clear h64
          go_wp2_with fail
          go_meet
          case rel => exact ⟨int_eq (by rw [ho2]; rfl), rfl⟩
        · have d3 : ((e : Int) == 64) = false := by simp; omega
          go_wp2_with fail
          go_meet
          case rel => exact ⟨rfl, rfl⟩
      case rest =>
        obtain ⟨rfl, rfl⟩ := hcut
        clear e9 e12 e0 e1
        obtain ⟨x, hx⟩ : ∃ x, x = Nat.land m o := ⟨_, rfl⟩
        have ex : bits .and .u64 (m : Int) (o : Int) = (x : Int) := by rw [hx]; exact band64 HM.out HLO.out
        have HX := Lib.hid (show x = Nat.land m (onesM e) by rw [hx, HOE.out])
        have HXL := Lib.hid (show x < 18446744073709551616 by rw [hx]; exact and_lt HM.out)
        obtain ⟨q, hq⟩ : ∃ q, q = 64 / e := ⟨_, rfl⟩
        have HQ := Lib.hid (show e * q = 64 by rw [hq]; exact es_div HES.out)
        have HSTEP := Lib.hid (show rofM (f + 1) e m = if againM m e x q = true then rfindM e e 0 x else rofM f (e * 2) m by
          rw [rofM, if_neg (by omega), ← HX.out, ← hq])
        clear hx hq
        go_wp2
        go_loopw [9, 10] (fun vb vk wx => ∃ (j k : Nat) (b : Bool), vb = .bool b ∧ vk = .int .i64 (k : Int) ∧ j ≤ q ∧ Hid (k = e * j) ∧ k ≤ 64 ∧ Hid (b = againM m e x j) ∧ wx = wc) (fun _ vk _ => 64 - (intOf vk).toNat)
        case atStart => exact ⟨0, 0, true, rfl, rfl, by omega, Lib.hid (by simp), by omega, Lib.hid rfl, rfl⟩
        case round =>
          obtain ⟨j, k, b, rfl, rfl, hjq, HKJ, hk64, HBB, rfl⟩ := hrel
          by_cases hk : k < 64
          · have d4 : decide (k < 64) = true := decide_eq_true hk
            have d5 : decide ((k : Int) < 64) = true := by simp; omega
            have hj : j < q := by
              rcases Nat.lt_or_ge j q with h | h
              · exact h
              · have h1 := Nat.mul_le_mul_left e h
                have h2 := HKJ.out
                have h3 := HQ.out
                omega
            have hke : k + e ≤ 64 := by
              have h1 := Nat.mul_le_mul_left e (show j + 1 ≤ q from hj)
              rw [Nat.mul_add, Nat.mul_one] at h1
              have h2 := HKJ.out
              have h3 := HQ.out
              omega
            have HKJ2 := Lib.hid (show k + e = e * (j + 1) by rw [Nat.mul_add, Nat.mul_one, HKJ.out])
            cases b with
            | true =>
              have e2 : IntKind.u64.wrap (k : Int) = (k : Int) := by rw [IntKind.wrap_u64]; omega
              have e3 : min k 64 = k := Nat.min_eq_left (by omega)
              obtain ⟨s, hs⟩ : ∃ s, s = m / 2 ^ k := ⟨_, rfl⟩
              have e4 : (m : Int) / 2 ^ k = (s : Int) := by rw [hs]; exact shr64 m k
              have ls : s < 18446744073709551616 := by rw [hs]; exact Nat.lt_of_le_of_lt (Nat.div_le_self _ _) HM.out
              obtain ⟨c, hc⟩ : ∃ c, c = Nat.land s o := ⟨_, rfl⟩
              have e5 : bits .and .u64 (s : Int) (o : Int) = (c : Int) := by rw [hc]; exact band64 ls HLO.out
              have e6 := beq_nat c x
              have HB2 := Lib.hid (show Nat.beq c x = againM m e x (j + 1) by
                rw [againM, ← HBB.out, Bool.true_and, hc, hs, HKJ.out, HOE.out, Nat.mul_comm e j])
              clear hs hc ls
              go_wp2
              go_roundw
              case rel => exact ⟨j + 1, k + e, Nat.beq c x, rfl, by go_num, by omega, HKJ2, by omega, HB2, trivial⟩
              case measure => simp [intOf] <;> omega
            | false =>
              have HB2 := Lib.hid (show false = againM m e x (j + 1) by rw [againM, ← HBB.out, Bool.false_and])
              go_wp2
              go_roundw
              case rel => exact ⟨j + 1, k + e, false, rfl, by go_num, by omega, HKJ2, by omega, HB2, trivial⟩
              case measure => simp [intOf] <;> omega
          · have d4 : decide (k < 64) = false := decide_eq_false hk
            have d5 : decide ((k : Int) < 64) = false := by simp; omega
            have hjq2 : j = q := by
              rcases Nat.lt_or_ge j q with h | h
              · have h1 := Nat.mul_le_mul_left e (show j + 1 ≤ q from h)
                rw [Nat.mul_add, Nat.mul_one] at h1
                have h2 := HKJ.out
                have h3 := HQ.out
                omega
              · omega
            cases b with
            | false =>
              have HN := Lib.hid (show rofM f (e * 2) m = rofM 6 2 m by
                rw [← HR.out, HSTEP.out, ← hjq2, ← HBB.out, if_neg Bool.false_ne_true])
              have HF2 := Lib.hid (show 128 ≤ e * 2 * 2 ^ f by have := HF.out; rw [Nat.pow_succ, Nat.mul_comm (2 ^ f), ← Nat.mul_assoc] at this; exact this)
              have HE2 := Lib.hid (show e * 2 ∈ Es ∨ e * 2 = 128 by
                by_cases h : e < 64
                · exact .inl (es_dbl HES.out h)
                · exact .inr (by omega))
              clear hjq2
              go_wp2
              go_roundg (202 - e * 2)
              case measure => omega
              case rel => exact ⟨e * 2, f, int_eq (by omega), by omega, by omega, by omega, HE2, HF2, HN, rfl⟩
            | true =>
              have HRF := Lib.hid (show rofM 6 2 m = rfindM e e 0 x by
                rw [← HR.out, HSTEP.out, ← hjq2, ← HBB.out, if_pos rfl])
              clear hjq2
              go_wp2
              go_loopw [8, 11] (fun vx vr wx => ∃ r y : Nat, vx = .int .u64 (y : Int) ∧ vr = .int .i64 (r : Int) ∧ r ≤ e ∧ Hid (y < 18446744073709551616) ∧ Hid (rfindM e (e - r) r y = rfindM e e 0 x) ∧ wx = wr) (fun _ vr _ => e - (intOf vr).toNat)
              case atStart => exact ⟨0, x, rfl, rfl, by omega, HXL, Lib.hid rfl, rfl⟩
              case round =>
                obtain ⟨r, y, rfl, rfl, hr, HY, HRR, rfl⟩ := hrel
                by_cases hre : r < e
                · have d6 : decide (r < e) = true := decide_eq_true hre
                  have d7 : decide ((r : Int) < (e : Int)) = true := by simp; omega
                  obtain ⟨t, ht⟩ : ∃ t, e - r = t + 1 := ⟨e - r - 1, by omega⟩
                  have HRS := Lib.hid (show rfindM e e 0 x = rnxt (lowM y e) e r (rfindM e t (r + 1) (turn1M y e)) by rw [← HRR.out, ht, rfind_succ])
                  go_wp2
                  go_loopw [12] (fun vc wx => ∃ c : Nat, vc = .int .i64 (c : Int) ∧ 1 ≤ c ∧ c ≤ e ∧ Hid (∀ c', 1 ≤ c' → c' < c → y ≠ 2 ^ c' - 1) ∧ wx = wr) (fun vc _ => e - (intOf vc).toNat)
                  case atStart => exact ⟨1, rfl, by omega, by omega, Lib.hid (fun c' h1 h2 => by omega), rfl⟩
                  case round =>
                    obtain ⟨c, rfl, hc1, hce, HNO, rfl⟩ := hrel
                    by_cases hcl : c < e
                    · have d8 : decide (c < e) = true := decide_eq_true hcl
                      have d9 : decide ((c : Int) < (e : Int)) = true := by simp; omega
                      have e2 : IntKind.u64.wrap (c : Int) = (c : Int) := by rw [IntKind.wrap_u64]; omega
                      have e3 : min c 64 = c := Nat.min_eq_left (by omega)
                      obtain ⟨P, hP⟩ : ∃ P, P = 2 ^ c := ⟨_, rfl⟩
                      have hP1 : 1 ≤ P := by rw [hP]; exact Nat.two_pow_pos c
                      have hP2 : P ≤ 9223372036854775808 := by rw [hP]; exact (Nat.pow_le_pow_right (by decide) (show c ≤ 63 by omega) : 2 ^ c ≤ 2 ^ 63)
                      have e4 : IntKind.u64.wrap ((2 : Int) ^ c) = (P : Int) := by rw [hP]; exact two_wrap (by omega)
                      obtain ⟨Q, hQ⟩ : ∃ Q, Q = P - 1 := ⟨_, rfl⟩
                      have e5 : (P : Int) - 1 = (Q : Int) := by omega
                      have e6 : IntKind.u64.wrap (Q : Int) = (Q : Int) := by rw [IntKind.wrap_u64]; omega
                      by_cases hyq : y = Q
                      · have e7 : ((y : Int) == (Q : Int)) = true := by simp; omega
                        have HLO2 := Lib.hid (low_hit hc1 hcl (show y = 2 ^ c - 1 by rw [hyq, hQ, hP]))
                        have HRES := Lib.hid (show rofM 6 2 m = (if e = 64 then 1 else 0, r, highM e + c - 1, true) by rw [HRF.out, HRS.out, HLO2.out]; rfl)
                        have HHI := Lib.hid (rHigh_any e)
                        have hhl := high_le e
                        generalize highM e = hg at *
                        clear hP hQ hyq hP2
                        by_cases h64 : e = 64
                        · have d3 : ((e : Int) == 64) = true := by simp; omega
                          rw [if_pos h64] at HRES
                          clear h64
                          go_wp2_with fail
                          refine (HHI.out _).mono ?_
                          rintro z w1 ⟨rfl, rfl⟩
                          go_wp2
                          (try simp only [Exit.inBlock, Exit.then])
                          refine bodyPost_ret (results_tmp4 rfl _ _ _) rfl ?_
                          rw [HRES.out]
                          exact ⟨ret4 rfl rfl (int_eq (by show (hg : Int) + (c : Int) - 1 = ((hg + c - 1 : Nat) : Int); omega)) rfl, rfl⟩
                        · have d3 : ((e : Int) == 64) = false := by simp; omega
                          rw [if_neg h64] at HRES
                          clear h64
                          go_wp2_with fail
                          refine (HHI.out _).mono ?_
                          rintro z w1 ⟨rfl, rfl⟩
                          go_wp2
                          (try simp only [Exit.inBlock, Exit.then])
                          refine bodyPost_ret (results_tmp4 rfl _ _ _) rfl ?_
                          rw [HRES.out]
                          exact ⟨ret4 rfl rfl (int_eq (by show (hg : Int) + (c : Int) - 1 = ((hg + c - 1 : Nat) : Int); omega)) rfl, rfl⟩
                      · have e7 : ((y : Int) == (Q : Int)) = false := by simp; omega
                        have HNO2 := Lib.hid (show ∀ c', 1 ≤ c' → c' < c + 1 → y ≠ 2 ^ c' - 1 from fun c' h1 h2 => by
                          by_cases h : c' = c
                          · rw [h, ← hP, ← hQ]; exact hyq
                          · exact HNO.out c' h1 (by omega))
                        clear hP hQ hyq hP2
                        go_wp2
                        go_roundw
                        case rel => exact ⟨c + 1, by go_num, by omega, by omega, HNO2, trivial⟩
                        case measure => simp [intOf] <;> omega
                    · obtain rfl : c = e := by omega
                      have HTU := Lib.hid (rTurn_any y c HY.out (by omega) hle)
                      have HNX := Lib.hid (show rfindM c t (r + 1) (turn1M y c) = rfindM c c 0 x by rw [HRS.out, low_none HNO.out]; rfl)
                      have HTL := Lib.hid (turn1_64 y c)
                      have HT2 := Lib.hid (show c - (r + 1) = t by omega)
                      generalize turn1M y c = y2 at *
                      go_wp2_with fail
                      refine (HTU.out _).mono ?_
                      rintro z w1 ⟨rfl, rfl⟩
                      go_wp2
                      go_roundw
                      case rel => exact ⟨r + 1, y2, rfl, by go_num, by omega, HTL, Lib.hid (by rw [HT2.out]; exact HNX.out), trivial⟩
                      case measure => simp [intOf] <;> omega
                · obtain rfl : r = e := by omega
                  have HRES := Lib.hid (show rofM 6 2 m = noFld by rw [HRF.out, ← HRR.out, Nat.sub_self]; rfl)
                  go_wp2
                  (try simp only [Exit.inBlock, Exit.then])
                  refine bodyPost_ret (results_tmp4 rfl _ _ _) rfl ?_
                  rw [HRES.out]
                  exact ⟨rfl, rfl⟩
    · have d1 : decide (e ≤ 64) = false := decide_eq_false hle
      have d2 : decide ((e : Int) ≤ 64) = false := by simp; omega
      have HRES := Lib.hid (show rofM 6 2 m = noFld by
        rw [← HR.out]
        cases f with
        | zero => rfl
        | succ f => rw [rofM, if_pos (by omega)])
      go_wp2
      (try simp only [Exit.inBlock, Exit.then])
      refine bodyPost_ret (results_tmp4 rfl _ _ _) rfl ?_
      rw [HRES.out]
      exact ⟨rfl, rfl⟩
end Go.Proofs.Ytjklfichjaapoaa
namespace Go.Fd
open Go.RowKit
theorem not64 {m : Nat} (h : m < 18446744073709551616) : bits .xor .u64 IntKind.u64.max (m : Int) = ((18446744073709551615 - m : Nat) : Int) := by
  have h1 := bits_xor_u64_nat 18446744073709551615 m (by decide) h
  refine Eq.trans (show _ = bits .xor .u64 ((18446744073709551615 : Nat) : Int) (m : Int) from rfl) (h1.trans ?_)
  have h2 : (BitVec.allOnes 64 ^^^ BitVec.ofNat 64 m).toNat = 18446744073709551615 ^^^ m := by
    rw [BitVec.toNat_xor, BitVec.toNat_allOnes, BitVec.toNat_ofNat, Nat.mod_eq_of_lt (by omega)]
  rw [← h2, BitVec.allOnes_xor, BitVec.toNat_not, BitVec.toNat_ofNat, Nat.mod_eq_of_lt (by omega)]
theorem rot_zero {m : Nat} (h : m < 18446744073709551616) : rotM m 0 = m := by
  unfold rotM
  rw [Nat.pow_zero, Nat.mul_one, Nat.mod_eq_of_lt h, show m / 2 ^ (64 - 0) = 0 from Nat.div_eq_of_lt (by simpa using h)]
  exact Nat.or_zero m
theorem atI_cases (n r i : Int) : (∃ (n' r' i' e c : Nat), n = n' ∧ r = r' ∧ i = i' ∧ Par e c r' ∧ atI n r i = (maskM e c r', true) ∧ fldM e c r' = (n', r', i', true)) ∨ atI n r i = (0, false) := by
  unfold atI
  by_cases h : inRg n r i
  · rw [if_pos h]
    obtain ⟨h1, h2, h3, h4, h5, h6⟩ := h
    rcases at_cases (n := n.toNat) (immr := r.toNat) (imms := i.toNat) (by omega) (by omega) with ⟨e, c, hp, ha, hf⟩ | ha
    · exact .inl ⟨n.toNat, r.toNat, i.toNat, e, c, by omega, by omega, by omega, hp, ha, hf⟩
    · exact .inr ha
  · rw [if_neg h]
    exact .inr rfl
end Go.Fd
namespace Go.Proofs.Ytjklfichjaapoaa
open Go.RowKit Go.Fd Go.Sort
set_option maxHeartbeats 1000000 in
set_option maxRecDepth 100000 in
theorem maskTurns_any (m b : Nat) (hm : m < 18446744073709551616) (hb : b < 256) (w : World) : Calls Try.prog 5 #[.int .u64 (m : Int), .int .u8 (b : Int)] w fun q w' => q = .returned (.bool true) ∧ Below w.heap.size w w' := by
  obtain ⟨k, hk⟩ : ∃ k, k = b % 64 := ⟨_, rfl⟩
  have hk64 : k < 64 := by omega
  have e1 : IntKind.u64.wrap (b : Int) = (b : Int) := by rw [IntKind.wrap_u64]; omega
  have e2 : (b : Int).tmod 64 = (k : Int) := by rw [Int.tmod_eq_emod_of_nonneg (by omega)]; omega
  have e2' : (b : Int) % 64 = (k : Int) := by omega
  have HO := Lib.hid (mkOf_any m hm)
  have HT := Lib.hid (mkOf_any (rotM m k) (rot_lt hm (by omega)))
  have HN := Lib.hid (mkOf_any (18446744073709551615 - m) (by omega))
  have HTK := Lib.hid (ok_rot (k := k) hm (by omega))
  have HNK := Lib.hid (ok_neg hm)
  have e3 := not64 hm
  generalize ofM (18446744073709551615 - m) = f3 at *
  generalize 18446744073709551615 - m = nm at *
  generalize ofM m = f1 at *
  generalize ofM (rotM m k) = f2 at *
  obtain ⟨a1, b1, c1, ok⟩ := f1
  obtain ⟨a2, b2, c2, ok2⟩ := f2
  obtain ⟨a3, b3, c3, ok3⟩ := f3
  obtain rfl : ok2 = ok := HTK.out
  obtain rfl : ok3 = ok2 := HNK.out
  have e4 : (ok3 == ok3) = true := by simp
  by_cases hk0 : k = 0
  · have HRZ := Lib.hid (show rotM m k = m by rw [hk0]; exact rot_zero hm)
    rw [HRZ.out] at HT
    have d1 : decide ((k : Int) > 0) = false := by simp; omega
    have d1' : ¬ 0 < k := by omega
    have d1'' : decide (0 < k) = false := decide_eq_false d1'
    clear hk hk0 hm
    go_enter Try.func5, Try.ntmps5
    go_wp2_with fail
    refine (begun10_any _).mono ?_
    rintro q w1 ⟨rfl, hb1⟩
    have HB1 := Lib.hid hb1
    clear hb1
    go_wp2_with fail
    refine (HO.out _).mono ?_
    rintro q w2 ⟨rfl, hb2⟩
    have HB2 := Lib.hid (HB1.out.trans (hb2.mono HB1.out.size))
    clear hb2
    go_wp2_with fail
    refine (HT.out _).mono ?_
    rintro q w3 ⟨rfl, hb3⟩
    have HB3 := Lib.hid (HB2.out.trans (hb3.mono HB2.out.size))
    clear hb3
    go_wp2_with fail
    refine (HN.out _).mono ?_
    rintro q w4 ⟨rfl, hb4⟩
    have HB4 := Lib.hid (HB3.out.trans (hb4.mono HB3.out.size))
    clear hb4
    go_wp2
    go_ret
    exact ⟨by simp, HB4.out⟩
  · have d1 : decide ((k : Int) > 0) = true := by simp; omega
    have d1' : 0 < k := by omega
    have d1'' : decide (0 < k) = true := decide_eq_true d1'
    obtain ⟨d, hd⟩ : ∃ d, d = 64 - k := ⟨_, rfl⟩
    obtain ⟨x, hx⟩ : ∃ x, x = m * 2 ^ k % 18446744073709551616 := ⟨_, rfl⟩
    obtain ⟨y, hy⟩ : ∃ y, y = m / 2 ^ d := ⟨_, rfl⟩
    have lx : x < 18446744073709551616 := by rw [hx]; exact Nat.mod_lt _ (by decide)
    have ly : y < 18446744073709551616 := by rw [hy]; exact Nat.lt_of_le_of_lt (Nat.div_le_self _ _) hm
    have HRV := Lib.hid (show rotM m k = Nat.lor x y by rw [hx, hy, hd]; rfl)
    have e5 : min k 64 = k := Nat.min_eq_left (by omega)
    have e6 : min d 64 = d := Nat.min_eq_left (by omega)
    have e7 : IntKind.u64.wrap ((m : Int) * 2 ^ k) = (x : Int) := by rw [hx]; exact shl64 m k
    have e8 : (64 : Int) - (k : Int) = (d : Int) := by omega
    have e9 : (m : Int) / 2 ^ d = (y : Int) := by rw [hy]; exact shr64 m d
    have e10 : bits .or .u64 (x : Int) (y : Int) = ((rotM m k : Nat) : Int) := by rw [HRV.out]; exact bor64 lx ly
    have e11 : IntKind.u64.wrap (d : Int) = (d : Int) := by rw [IntKind.wrap_u64]; omega
    have hd64 : d < 65 := by omega
    generalize rotM m k = t at *
    clear hk hk0 hm hd hx hy lx ly
    go_enter Try.func5, Try.ntmps5
    go_wp2_with fail
    refine (begun10_any _).mono ?_
    rintro q w1 ⟨rfl, hb1⟩
    have HB1 := Lib.hid hb1
    clear hb1
    go_wp2_with fail
    refine (HO.out _).mono ?_
    rintro q w2 ⟨rfl, hb2⟩
    have HB2 := Lib.hid (HB1.out.trans (hb2.mono HB1.out.size))
    clear hb2
    go_wp2_with fail
    refine (HT.out _).mono ?_
    rintro q w3 ⟨rfl, hb3⟩
    have HB3 := Lib.hid (HB2.out.trans (hb3.mono HB2.out.size))
    clear hb3
    go_wp2_with fail
    refine (HN.out _).mono ?_
    rintro q w4 ⟨rfl, hb4⟩
    have HB4 := Lib.hid (HB3.out.trans (hb4.mono HB3.out.size))
    clear hb4
    go_wp2
    go_ret
    exact ⟨by simp, HB4.out⟩
set_option maxHeartbeats 1000000 in
set_option maxRecDepth 100000 in
theorem maskAll_any (w : World) (v : Value) (ms : List Nat) (hv : Rd UV w v ms) (hms : ∀ m ∈ ms, m < 18446744073709551616) (n r i : Int) : Calls Try.prog 3 #[v, .int .i64 n, .int .i64 r, .int .i64 i] w fun q w' => q = .returned (.bool true) ∧ Below w.heap.size w w' := by
  have HV := Lib.hid hv
  have HMS := Lib.hid hms
  obtain ⟨lm, la, lc, hlm, rfl, -, -⟩ := hv.shape
  have HLM := Lib.hid hlm.out
  clear hv hms hlm
  have HA := Lib.hid (mkAt_any n r i)
  have HRA := Lib.hid (rAt_any n r i)
  rw [rat_ati] at HRA
  generalize atI n r i = at_ at *
  obtain ⟨am, aok⟩ := at_
  go_enter Try.func3, Try.ntmps3
  go_wp2_with fail
  refine (begun10_any _).mono ?_
  rintro q w1 ⟨rfl, hb1⟩
  have HB1 := Lib.hid hb1
  clear hb1
  go_wp2
  go_loopw [9, 10, 11, 12, 13, 14, 15, 16, 17] (fun vi _ _ _ _ _ _ _ _ wr => ∃ k : Nat, vi = .int .i64 (k : Int) ∧ k ≤ lm ∧ k ≤ 60 ∧ Hid (Below w.heap.size w wr)) (fun vi _ _ _ _ _ _ _ _ _ => 60 - (intOf vi).toNat)
  case atStart => exact ⟨0, rfl, by omega, by omega, HB1⟩
  case round =>
    obtain ⟨k, rfl, hk1, hk2, HB⟩ := hrel
    by_cases hkl : k < lm ∧ k < 60
    · obtain ⟨h1, h2⟩ := hkl
      have d1 : decide (k < lm) = true := decide_eq_true h1
      have d2 : decide ((k : Int) < (lm : Int)) = true := by simp; omega
      have d3 : decide ((k : Int) < 60) = true := by simp; omega
      have d4 : decide (k < 60) = true := decide_eq_true h2
      obtain ⟨m, hm⟩ : ∃ m, ms[k]? = some m := ⟨_, List.getElem?_eq_getElem (by have := HLM.out; omega)⟩
      obtain ⟨a', cap', e1, -, -, hc⟩ := (Rd.mono HV.out HB.out).open 0
      simp only [Value.slice.injEq] at e1
      obtain ⟨rfl, -, -⟩ := e1
      obtain ⟨b, off, rfl, hcell⟩ := hc k (by have := HLM.out; omega)
      have cm : wr.cell? ⟨b, off + k, none⟩ = some (.int .u64 (m : Int)) := by rw [hcell, hm]; rfl
      have hm64 := HMS.out m (List.mem_of_getElem? hm)
      have HO := Lib.hid (mkOf_any m hm64)
      have HRO := Lib.hid (rOf_any m hm64)
      rw [← of_rof hm64] at HRO
      have HCM := Lib.hid (fun (wx : World) (hb : Below wr.heap.size wr wx) => show wx.cell? ⟨b, off + k, none⟩ = some (.int .u64 (m : Int)) from (hb.cell (p := ⟨b, off + k, none⟩) (block_lt cm)).trans cm)
      clear hc hcell hm hm64
      generalize ofM m = F at *
      obtain ⟨a1, a2, a3, ok⟩ := F
      have f1 : ((a1 : Int) != (a1 : Int)) = false := by simp
      have f2 : ((a2 : Int) != (a2 : Int)) = false := by simp
      have f3 : ((a3 : Int) != (a3 : Int)) = false := by simp
      have f4 : (ok != ok) = false := by simp
      go_wp2_with fail
      refine (HO.out _).mono ?_
      rintro q w2 ⟨rfl, hb2⟩
      have HB2 := Lib.hid (HB.out.trans (hb2.mono HB.out.size))
      have cm2 := HCM.out w2 hb2
      clear hb2 cm
      go_wp2_with fail
      refine (HRO.out _).mono ?_
      rintro q w3 ⟨rfl, rfl⟩
      go_wp2
      go_roundw
      case rel => exact ⟨k + 1, by go_num, by omega, by omega, HB2⟩
      case measure => simp [intOf] <;> omega
    · by_cases h1 : k < lm
      · have d1 : decide (k < lm) = true := decide_eq_true h1
        have d2 : decide ((k : Int) < (lm : Int)) = true := by simp; omega
        have d3 : decide ((k : Int) < 60) = false := by simp; omega
        have d4 : decide (k < 60) = false := decide_eq_false (by omega)
        go_wp2_with fail
        refine (HA.out _).mono ?_
        rintro q w2 ⟨rfl, hb2⟩
        have HB2 := Lib.hid (HB.out.trans (hb2.mono HB.out.size))
        clear hb2
        go_wp2_with fail
        refine (HRA.out _).mono ?_
        rintro q w3 ⟨rfl, hb3⟩
        have HB3 := Lib.hid (HB2.out.trans (hb3.mono HB2.out.size))
        clear hb3
        go_wp2
        go_ret
        exact ⟨by simp, HB3.out⟩
      · have d1 : decide (k < lm) = false := decide_eq_false h1
        have d2 : decide ((k : Int) < (lm : Int)) = false := by simp; omega
        go_wp2_with fail
        refine (HA.out _).mono ?_
        rintro q w2 ⟨rfl, hb2⟩
        have HB2 := Lib.hid (HB.out.trans (hb2.mono HB.out.size))
        clear hb2
        go_wp2_with fail
        refine (HRA.out _).mono ?_
        rintro q w3 ⟨rfl, hb3⟩
        have HB3 := Lib.hid (HB2.out.trans (hb3.mono HB2.out.size))
        clear hb3
        go_wp2
        go_ret
        exact ⟨by simp, HB3.out⟩
set_option maxHeartbeats 1000000 in
set_option maxRecDepth 100000 in
theorem maskOnes_any (n r i : Int) (w : World) : Calls Try.prog 6 #[.int .i64 n, .int .i64 r, .int .i64 i] w fun q w' => q = .returned (.bool true) ∧ Below w.heap.size w w' := by
  have HA := Lib.hid (mkAt_any n r i)
  rcases atI_cases n r i with ⟨n, r, i, e, c, rfl, rfl, rfl, hp, ha, hf⟩ | ha
  · rw [ha] at HA
    have HPER := Lib.hid (per_mask hp)
    have HCNT := Lib.hid (cnt_mask hp)
    have HOF := Lib.hid (show ofM (maskM e c r) = (n, r, i, true) by rw [of_mask hp, hf])
    have him := imms_mask hp hf
    have hle := es_le hp.es
    have hre := hp.r
    have hmb := mask_bounds hp
    have hc64 : c < 65 := by have := hp.c2; omega
    have HM := Lib.hid (show maskM e c r < 18446744073709551616 by omega)
    have hdv := es_div hp.es
    generalize maskM e c r = m at *
    have HO := Lib.hid (mkOf_any m HM.out)
    rw [HOF.out] at HO
    have HLC := Lib.hid (lawCount_any m HM.out)
    rw [HCNT.out] at HLC
    obtain ⟨q, hq⟩ : ∃ q, q = 64 / e := ⟨_, rfl⟩
    rw [← hq] at hdv HLC
    have g1 : (i : Int).tmod (e : Int) = (c : Int) - 1 := by
      rw [Int.tmod_eq_emod_of_nonneg (by omega), ← Int.natCast_emod]
      omega
    have g1' : (i : Int) % (e : Int) = (c : Int) - 1 := by
      rw [← Int.natCast_emod]
      omega
    have g2 : (64 : Int).tdiv (e : Int) = (q : Int) := by
      rw [hq, Int.tdiv_eq_ediv_of_nonneg (by omega)]
      exact (Int.natCast_ediv 64 e).symm
    have g2' : (64 : Int) / (e : Int) = (q : Int) := by
      rw [hq]
      exact (Int.natCast_ediv 64 e).symm
    have hq64 : q ≤ 64 := by rw [hq]; exact Nat.div_le_self _ _
    have hcq : c * q ≤ 64 * 64 := Nat.mul_le_mul (by omega) hq64
    obtain ⟨z, hz⟩ : ∃ z, z = c * q := ⟨_, rfl⟩
    rw [← hz] at hcq HLC
    have g3 : (c : Int) * (q : Int) = (z : Int) := by rw [hz]; push_cast; rfl
    have g4 : ((z : Int) == (z : Int)) = true := by simp
    have g5 : ((n : Int) == (n : Int)) = true := by simp
    have g6 : ((r : Int) == (r : Int)) = true := by simp
    have g7 : ((i : Int) == (i : Int)) = true := by simp
    have g8 : decide ((r : Int) < (e : Int)) = true := by simp; omega
    have g8' : decide (r < e) = true := decide_eq_true hre
    have g9 : ((n : Int) == 1) = ((e : Int) == 64) := by
      rw [Bool.eq_iff_iff, beq_iff_eq, beq_iff_eq]
      have := him.2
      omega
    have HG9 := Lib.hid g9
    have gne : ((e : Int) == 0) = false := by simp; omega
    have g10 : (c : Int) - 1 + 1 = (c : Int) := by omega
    clear him hp ha hf hmb hdv hq hz g9
    go_enter Try.func6, Try.ntmps6
    go_wp2_with fail
    refine (begun10_any _).mono ?_
    rintro q' w1 ⟨rfl, hb1⟩
    have HB1 := Lib.hid hb1
    clear hb1
    go_wp2_with fail
    refine (HA.out _).mono ?_
    rintro q' w2 ⟨rfl, hb2⟩
    have HB2 := Lib.hid (HB1.out.trans (hb2.mono HB1.out.size))
    clear hb2
    go_wp2
    go_loopw [9, 10] (fun ve vk wr => ∃ ev k f : Nat, ve = .int .i64 (ev : Int) ∧ vk = .int .i64 (k : Int) ∧ 2 ≤ k ∧ k ≤ 126 ∧ Hid (64 ≤ k * 2 ^ f) ∧ Hid ((ev = 64 ∧ perRM m f k = e) ∨ (ev ≠ 64 ∧ ev = e)) ∧ wr = w2) (fun _ vk _ => 64 - (intOf vk).toNat)
    case atStart => exact ⟨64, 2, 5, rfl, rfl, by omega, by omega, Lib.hid (by decide), Lib.hid (.inl ⟨rfl, HPER.out⟩), rfl⟩
    case round =>
      obtain ⟨ev, k, f, rfl, rfl, hk1, hk2, HF, HE, rfl⟩ := hrel
      by_cases hk : k < 64
      · have d1 : decide (k < 64) = true := decide_eq_true hk
        have d2 : decide ((k : Int) < 64) = true := by simp; omega
        obtain ⟨f, rfl⟩ : ∃ f', f = f' + 1 := by
          cases f with
          | zero => exact absurd HF.out (by simp; omega)
          | succ f => exact ⟨f, rfl⟩
        have HF2 := Lib.hid (show 64 ≤ 2 * k * 2 ^ f by have := HF.out; rw [Nat.pow_succ, Nat.mul_comm (2 ^ f), ← Nat.mul_assoc, Nat.mul_comm k 2] at this; exact this)
        by_cases hev : ev = 64
        · have d3 : ((ev : Int) == 64) = true := by simp; omega
          obtain ⟨d, hd⟩ : ∃ d, d = 64 - k := ⟨_, rfl⟩
          obtain ⟨x, hx⟩ : ∃ x, x = m * 2 ^ k % 18446744073709551616 := ⟨_, rfl⟩
          obtain ⟨y, hy⟩ : ∃ y, y = m / 2 ^ d := ⟨_, rfl⟩
          have lx : x < 18446744073709551616 := by rw [hx]; exact Nat.mod_lt _ (by decide)
          have ly : y < 18446744073709551616 := by rw [hy]; exact Nat.lt_of_le_of_lt (Nat.div_le_self _ _) HM.out
          have HRV := Lib.hid (show rotM m k = Nat.lor x y by rw [hx, hy, hd]; rfl)
          have e5 : min k 64 = k := Nat.min_eq_left (by omega)
          have e6 : min d 64 = d := Nat.min_eq_left (by omega)
          have e7 : IntKind.u64.wrap ((m : Int) * 2 ^ k) = (x : Int) := by rw [hx]; exact shl64 m k
          have e8 : (64 : Int) - (k : Int) = (d : Int) := by omega
          have e9 : (m : Int) / 2 ^ d = (y : Int) := by rw [hy]; exact shr64 m d
          have e10 : bits .or .u64 (x : Int) (y : Int) = ((rotM m k : Nat) : Int) := by rw [HRV.out]; exact bor64 lx ly
          have e11 : IntKind.u64.wrap (d : Int) = (d : Int) := by rw [IntKind.wrap_u64]; omega
          have e12 : IntKind.u64.wrap (k : Int) = (k : Int) := by rw [IntKind.wrap_u64]; omega
          have HPE := Lib.hid (show (if rotM m k = m then k else perRM m f (k * 2)) = e by
            rcases HE.out with ⟨-, h2⟩ | ⟨h2, -⟩
            · rw [perRM, if_pos hk] at h2
              exact h2
            · exact absurd hev h2)
          generalize rotM m k = t at *
          have hd64 : d < 65 := by omega
          clear hd hx hy lx ly
          by_cases htm : t = m
          · have e13 : ((t : Int) == (m : Int)) = true := by simp; omega
            have HE2 := Lib.hid (show (k = 64 ∧ perRM m f (2 * k) = e) ∨ (k ≠ 64 ∧ k = e) from .inr ⟨by omega, by have := HPE.out; rwa [if_pos htm] at this⟩)
            clear htm hev
            go_wp2
            go_roundw
            case rel => exact ⟨k, 2 * k, f, rfl, int_eq (by omega), by omega, by omega, HF2, HE2, trivial⟩
            case measure => simp [intOf] <;> omega
          · have e13 : ((t : Int) == (m : Int)) = false := by simp; omega
            have HE2 := Lib.hid (show (ev = 64 ∧ perRM m f (2 * k) = e) ∨ (ev ≠ 64 ∧ ev = e) from .inl ⟨hev, by have := HPE.out; rw [if_neg htm] at this; rw [Nat.mul_comm]; exact this⟩)
            clear htm hev
            go_wp2
            go_roundw
            case rel => exact ⟨ev, 2 * k, f, rfl, int_eq (by omega), by omega, by omega, HF2, HE2, trivial⟩
            case measure => simp [intOf] <;> omega
        · have d3 : ((ev : Int) == 64) = false := by simp; omega
          have HE2 := Lib.hid (show (ev = 64 ∧ perRM m f (2 * k) = e) ∨ (ev ≠ 64 ∧ ev = e) from .inr ⟨hev, by
            rcases HE.out with ⟨h2, -⟩ | ⟨-, h2⟩
            · exact absurd h2 hev
            · exact h2⟩)
          clear hev
          go_wp2
          go_roundw
          case rel => exact ⟨ev, 2 * k, f, rfl, int_eq (by omega), by omega, by omega, HF2, HE2, trivial⟩
          case measure => simp [intOf] <;> omega
      · have d1 : decide (k < 64) = false := decide_eq_false hk
        have d2 : decide ((k : Int) < 64) = false := by simp; omega
        obtain rfl : ev = e := by
          rcases HE.out with ⟨h1, h2⟩ | ⟨-, h2⟩
          · rw [h1, ← h2]
            cases f with
            | zero => rfl
            | succ f => rw [perRM, if_neg hk]
          · exact h2
        go_wp2_with fail
        refine (HO.out _).mono ?_
        rintro q' w3 ⟨rfl, hb3⟩
        have HB3 := Lib.hid (HB2.out.trans (hb3.mono HB2.out.size))
        clear hb3
        cases hb64 : ((ev : Int) == 64) with
        | true =>
          have g9 := HG9.out
          rw [hb64] at g9
          go_wp2
          go_quiet (first | (go_at_call 14; exact Calls.quiet_of_same (HLC.out _)))
          have HB4 := Lib.hid (HB3.out.trans (below_drewN (Below.refl _ _) nq |>.mono HB3.out.size))
          go_wp2
          go_ret
          exact ⟨by simp, HB4.out⟩
        | false =>
          have g9 := HG9.out
          rw [hb64] at g9
          go_wp2
          go_quiet (first | (go_at_call 14; exact Calls.quiet_of_same (HLC.out _)))
          have HB4 := Lib.hid (HB3.out.trans (below_drewN (Below.refl _ _) nq |>.mono HB3.out.size))
          go_wp2
          go_ret
          exact ⟨by simp, HB4.out⟩
  · rw [ha] at HA
    clear ha
    go_enter Try.func6, Try.ntmps6
    go_wp2_with fail
    refine (begun10_any _).mono ?_
    rintro q w1 ⟨rfl, hb1⟩
    have HB1 := Lib.hid hb1
    clear hb1
    go_wp2_with fail
    refine (HA.out _).mono ?_
    rintro q w2 ⟨rfl, hb2⟩
    have HB2 := Lib.hid (HB1.out.trans (hb2.mono HB1.out.size))
    clear hb2
    go_wp2
    go_ret
    exact ⟨by simp, HB2.out⟩
end Go.Proofs.Ytjklfichjaapoaa
namespace Go.Proofs.Ytjklfichjaapoaa
open Go.ChangeShapes Go.WideShapes Go.ChangeAt Go.RowKit Go.Fd
theorem Try.own : ownKnob Try.prog.godebug = none := by kernel_rfl
theorem Try.laidOut : laidOutB Try.prog = true := by kernel_rfl
/-- All arguments read behind the call as they read before it. -/
theorem belowAll {H : Type} {enc : TypeId × Value → H} {W W' : World} (hb : Below W.heap.size W W') : ∀ {ts : List TypeId} {vs : List Value} {ds : List (DataW H)} {ps : List MemPlace},
    DataW.TrodAll enc Try.prog W 0 (fun _ => true) true ts vs ds ps → (∀ x ∈ ps, x.block < W.heap.size) → (∀ t ∈ ts, Try.prog.readableRec t = true ∧ t < Try.prog.types.size) →
    DataW.TrodAll enc Try.prog W' 0 (fun b => decide (b < W.heap.size)) true ts vs ds ps
  | [], vs, ds, ps, h, _, _ => by obtain ⟨rfl, rfl, rfl⟩ := trodAll_nil h; exact trodAll_mk0
  | t :: ts, vs, ds, ps, h, hlt, ht => by
    obtain ⟨v, vs', d, ds', p, q, rfl, rfl, rfl, h0, h1⟩ := trodAll_cons h
    exact trodAll_cons_mk (Below.trod Try.laidOut (ht t (by simp)).1 (ht t (by simp)).2 h0 hb fun x hx => hlt x (by simp [hx]))
      (belowAll hb h1 (fun x hx => hlt x (by simp [hx])) fun u hu => ht u (by simp [hu]))
/-- The same, the types asked as one closed fact. -/
theorem belowAllB {H : Type} {enc : TypeId × Value → H} {W W' : World} {ts : List TypeId} (ht : (ts.all fun t => Try.prog.readableRec t && decide (t < Try.prog.types.size)) = true) (hb : Below W.heap.size W W') {vs : List Value} {ds : List (DataW H)} {ps : List MemPlace}
    (h : DataW.TrodAll enc Try.prog W 0 (fun _ => true) true ts vs ds ps) (hlt : ∀ x ∈ ps, x.block < W.heap.size) : DataW.TrodAll enc Try.prog W' 0 (fun b => decide (b < W.heap.size)) true ts vs ds ps :=
  belowAll hb h hlt fun t htm => by
    have := List.all_eq_true.1 ht t htm
    simp only [Bool.and_eq_true, decide_eq_true_eq] at this
    exact this
set_option maxRecDepth 100000 in
/-- A slice of integers, as it is read. -/
theorem reads_ints {H : Type} {enc : TypeId × Value → H} {W : World} {base : Nat} {t e : TypeId} {k : IntKind} {v : Value} {d : DataW H} {p : List MemPlace} (ht : Try.prog.underlying t = some (.slice e)) (he : Try.prog.underlying e = some (.int k)) (hc : Try.prog.cellsOf e = 1)
    (hv : Value.okWide Try.prog W .any base t v) (h : DataW.Trod enc Try.prog W 0 (fun _ => true) true t v d p) : ∃ zs : List Int, Reads W 1 v zs.length (zs.map (Value.int k)) ∧ ∀ n ∈ zs, (Lit.int k n).wf = true := by
  obtain ⟨a0, len, cap, rfl⟩ := okWide_slice ht hv
  obtain ⟨fuel, hf⟩ := h
  rcases open_ints ht he hc hf with ⟨hcs, hx⟩ | ⟨a, len', cap', zs, hcs, _, hl, hm, hz, hx, hcell, hwz⟩
  · simp [Value.cells] at hcs
    obtain ⟨rfl, rfl, rfl⟩ := hcs
    exact ⟨[], Reads.nil W 1, fun n hn => by cases hn⟩
  · simp [Value.cells] at hcs
    obtain ⟨rfl, rfl, rfl⟩ := hcs
    simp only [if_true] at hz
    refine ⟨zs.take len, ⟨by simp, some a, cap, by rw [List.length_take]; congr 1; omega, by rw [List.length_take]; omega, (fun h => by cases h), fun j hj => ?_⟩, fun n hn => hwz n (List.mem_of_mem_take hn)⟩
    simp only [List.length_map, List.length_take] at hj
    obtain ⟨b, off, spot⟩ := a
    have h0 := hcell 0 (by omega)
    have hspot : spot = none := by simpa [Addr.add] using World.cell?_spot h0
    subst hspot
    refine ⟨b, off, rfl, ?_⟩
    have := hcell j (by omega)
    rw [add_plain] at this
    rw [this, List.getElem?_map, List.getElem?_take, if_pos (by omega), List.getD_eq_getElem?_getD, List.getElem?_eq_getElem (by omega)]
    rfl
theorem wf_u64 {x : Int} (h : (Lit.int .u64 x).wf = true) : 0 ≤ x ∧ x < 18446744073709551616 := by
  simp [Lit.wf, IntKind.min, IntKind.max, IntKind.signed, IntKind.bits] at h
  exact ⟨by omega, by omega⟩
theorem wf_u8' {x : Int} (h : (Lit.int .u8 x).wf = true) : 0 ≤ x ∧ x < 256 := by
  simp [Lit.wf, IntKind.min, IntKind.max, IntKind.signed, IntKind.bits] at h
  exact ⟨by omega, by omega⟩
end Go.Proofs.Ytjklfichjaapoaa
namespace Go.Proofs.Ytjklfichjaapoaa
open Go.ChangeShapes Go.WideShapes Go.ChangeAt Go.RowKit Go.Fd
theorem reads_u64s {H : Type} {enc : TypeId × Value → H} {W : World} {base : Nat} {v : Value} {d : DataW H} {p : List MemPlace} (hv : Value.okWide Try.prog W .any base 22 v) (h : DataW.Trod enc Try.prog W 0 (fun _ => true) true 22 v d p) :
    ∃ l : List Nat, Rd UV W v l ∧ ∀ m ∈ l, m < 18446744073709551616 := by
  obtain ⟨zs, h1, h2⟩ := reads_ints (k := .u64) (e := 26) (by kernel_rfl) (by kernel_rfl) (by kernel_rfl) hv h
  have hz : ∀ n ∈ zs, 0 ≤ n ∧ n < 18446744073709551616 := fun n hn => wf_u64 (h2 n hn)
  refine ⟨zs.map Int.toNat, ?_, fun m hm => ?_⟩
  · have e : (zs.map Int.toNat).map UV = zs.map (Value.int .u64) := by
      rw [List.map_map]
      refine List.map_congr_left fun n hn => ?_
      show Value.int .u64 ((n.toNat : Nat) : Int) = _
      congr 1
      have := hz n hn
      omega
    unfold Rd
    rw [e, List.length_map]
    exact h1
  · obtain ⟨n, hn, rfl⟩ := List.mem_map.1 hm
    have := hz n hn
    omega
set_option maxRecDepth 100000 in
theorem maskAll_lifted (os : Os) (started : os.Started) (H : Type) (enc : TypeId × Value → H) :
    ReturnsInHanded {} Try.checked os 3 .any (Rows.maskAllSpec.pre6 enc Try.prog Try.f3 Rows.maskAllRow.domain false) (Rows.maskAllSpec.post enc Try.prog Try.f3 false true false false) := by
  refine returnsInHanded_of_change (C := Try.checked) Try.own started (by kernel_rfl) Try.func3
    (ChangeSpec.witness6 (enc := enc) (C := Try.checked) false ⟨#[], #[.slice none 0 0, .int .i64 0, .int .i64 0, .int .i64 0], []⟩ 8 (by kernel_rfl) (by kernel_rfl) (by kernel_rfl) (by kernel_rfl)) ?_
  intro W base args ds gs before hval0 hW hcnd _
  have hval : ∀ (j : Nat) t v, Try.f3.params[j]? = some t → args[j]? = some v → Value.okWide Try.prog W .any base t v := hval0
  have hW' := hW
  obtain ⟨p, q, hA0, hV, rfl, hfz, hnd⟩ := hW
  have hA : DataW.TrodAll enc Try.prog W 0 (fun _ => true) true Try.f3.params.toList args.toList ds p := hA0
  have hlt : ∀ x ∈ p, x.block < W.heap.size := fun x hx => hW'.lt x (by simp [hx])
  have hback : ∀ W', Below W.heap.size W W' → DataW.TrodAll enc Try.prog W' 0 (fun b => decide (b < W.heap.size)) true Try.f3.params.toList args.toList ds p :=
    fun W' hb => belowAllB (by kernel_rfl) hb hA hlt
  rw [Try.params3] at hA hval
  obtain ⟨v0, vs0, d0, ds0, p0, q0, hargs, rfl, rfl, h0, r0⟩ := trodAll_cons hA
  obtain ⟨v1, vs1, d1, ds1, p1, q1, rfl, rfl, rfl, h1, r1⟩ := trodAll_cons r0
  obtain ⟨v2, vs2, d2, ds2, p2, q2, rfl, rfl, rfl, h2, r2⟩ := trodAll_cons r1
  obtain ⟨v3, vs3, d3, ds3, p3, q3, rfl, rfl, rfl, h3, r3⟩ := trodAll_cons r2
  obtain ⟨rfl, rfl, rfl⟩ := trodAll_nil r3
  obtain rfl : args = #[v0, v1, v2, v3] := by
    cases args
    simp at hargs
    simp [hargs]
  clear hargs
  obtain ⟨rfl, rfl⟩ := trodVars_none hV
  have fin : ∀ (e : Ending) (W' : World), (e = .returned (.bool true) ∧ Below W.heap.size W W') → ∃ v, e = Ending.returned v ∧ Rows.maskAllSpec.post enc Try.checked.prog Try.f3 false true false false W #[v0, v1, v2, v3] v W' := by
    rintro e W' ⟨rfl, hb⟩
    exact ⟨_, rfl, _, _, _, [], _, [], hW', trodAll_mk1 (shut_bool Try.underlying4 true), hback W' hb, rfl, hb.frame _, fun h => by cases h⟩
  obtain ⟨ms, h5, h6⟩ := reads_u64s (hval 0 22 v0 rfl rfl) h0
  obtain ⟨n, rfl, rfl, rfl, g0⟩ := open_int Try.underlying3 (hval 1 3 v1 rfl rfl) h1
  obtain ⟨r, rfl, rfl, rfl, g1⟩ := open_int Try.underlying3 (hval 2 3 v2 rfl rfl) h2
  obtain ⟨i, rfl, rfl, rfl, g2⟩ := open_int Try.underlying3 (hval 3 3 v3 rfl rfl) h3
  exact (maskAll_any W v0 ms h5 h6 n r i).mono fin
theorem maskAll_holds : Rows.MaskAllSaid :=
  OpenClaim.holds_of_wide 3 Try.f3 rfl rfl rfl rfl rfl rfl rfl ⟨rfl, rfl, rfl, rfl, rfl⟩ rfl rfl rfl rfl rfl (by kernel_rfl) Try.func3 (by kernel_rfl)
    (of_decide_eq_true (by kernel_rfl)) (by unfold Func.isWrapper; rw [if_neg (of_decide_eq_false (by kernel_rfl))]; exact ⟨rfl, rfl⟩)
    (fun os started H enc _ => maskAll_lifted os started H enc)
end Go.Proofs.Ytjklfichjaapoaa
namespace Go.Fd
open Go.RowKit
abbrev MkR := Nat × Nat × Nat × Nat
def encMk (x : MkR) : List Value := [.int .u64 (x.1 : Int), .int .i64 (x.2.1 : Int), .int .i64 (x.2.2.1 : Int), .int .i64 (x.2.2.2 : Int)]
theorem encMk_len (x : MkR) : (encMk x).length = 4 := rfl
def recM (e c r : Nat) : MkR := (maskM e c r, (fldM e c r).1, r, (fldM e c r).2.2.1)
theorem rec_eq {e c r : Nat} (h : Par e c r) : recM e c r = (relM e c r 64, if e = 64 then 1 else 0, r, highM e + c - 1) := by
  have h1 := mask_rel h
  simp only [chk_rel, Nat.beq_eq] at h1
  have h2 : (fldM e c r).1 = if e = 64 then 1 else 0 := by unfold fldM; split <;> rfl
  have h3 : (fldM e c r).2.2.1 = highM e + c - 1 := by
    unfold fldM
    split
    · rename_i h64
      rw [h64]
      show c - 1 = 0 + c - 1
      omega
    · rename_i h64
      show 64 - 2 * e + c - 1 = highM e + c - 1
      have : 64 - 2 * e = highM e := es_all (p := fun e => e ≠ 64 → 64 - 2 * e = highM e) (by decide) (by decide) (by decide) (by decide) (by decide) (by decide) e h.es h64
      rw [this]
  unfold recM
  rw [h1, h2, h3]
def offM (e : Nat) : Nat := if e = 2 then 0 else if e = 4 then 2 else if e = 8 then 14 else if e = 16 then 70 else if e = 32 then 310 else if e = 64 then 1302 else 5334
theorem off_next {e : Nat} (h : e ∈ Es) : offM (2 * e) = offM e + (e - 1) * e := es_all (p := fun e => offM (2 * e) = offM e + (e - 1) * e) (by decide) (by decide) (by decide) (by decide) (by decide) (by decide) e h
theorem off_le (e : Nat) : offM e ≤ 5334 := by
  unfold offM
  repeat' split
  all_goals omega
/-- The reference's masks: each one, and how many. -/
def RecsOk (l : List MkR) : Prop := ∀ x ∈ l, ∃ e c r, Par e c r ∧ x = recM e c r
end Go.Fd
namespace Go.Proofs.Ytjklfichjaapoaa
open Go.RowKit Go.Fd Go.Sort
theorem TMk : SliceT Try.prog 31 34 4 32 := SliceT.mk' (z := .agg #[.int .u64 0, .int .i64 0, .int .i64 0, .int .i64 0]) (by kernel_rfl) (by kernel_rfl) rfl (by omega)
theorem run_allocMk {w : World} : (execOp (fun _ => undef) ⟨none, .alloc 34, 0, "", #[], none⟩).run Try.prog w = .ok (.value (.pointer (some ⟨w.heap.size, 0, none⟩))) (w.alloc (.cells #[.int .u64 0, .int .i64 0, .int .i64 0, .int .i64 0] 34)) := by kernel_rfl
theorem wpList_allocMk {ops : Array Oper} {rest : List Oper} {Q : Exit → Act → World → Prop} {a : Act} {w : World} {d : Option Tmp} {ty : TypeId} {pos : String} {aft : Array Edge}
    (h : ∀ w1, w1.heap[w.heap.size]? = some (.cells #[.int .u64 0, .int .i64 0, .int .i64 0, .int .i64 0] 34 (0, 0)) → Below w.heap.size w w1 → w.heap.size < w1.heap.size → wpList Try.prog ops Q rest (a.put d (.pointer (some ⟨w.heap.size, 0, none⟩))) w1) :
    wpList Try.prog ops Q (⟨d, .alloc 34, ty, pos, aft, none⟩ :: rest) a w :=
  wpList_val rfl run_allocMk (h _ (heap_alloc_last w _) (below_alloc w _) (by rw [World.size_alloc]; omega))
theorem mk_box {w : World} {g : Nat} {a b c d : Value} {t : TypeId} {fr : Nat × Nat} (h : w.heap[g]? = some (.cells #[a, b, c, d] t fr)) : w.cell? ⟨g, 0, none⟩ = some a ∧ w.cell? ⟨g, 1, none⟩ = some b ∧ w.cell? ⟨g, 2, none⟩ = some c ∧ w.cell? ⟨g, 3, none⟩ = some d :=
  ⟨cell_rec h 0, cell_rec h 1, cell_rec h 2, cell_rec h 3⟩
theorem wpList_set1 {ops : Array Oper} {rest : List Oper} {Q : Exit → Act → World → Prop} {a : Act} {w : World} {d : Option Tmp} {ty tb : TypeId} {pos : String} {aft : Array Edge} {p x : Operand} {v0 v1 v2 v3 : Value} {g B : Nat} {n : Int} (hg : w.heap[g]? = some (.cells #[v0, v1, v2, v3] tb (0, 0))) (hp : a.eval p = .pointer (some ⟨g, 1, none⟩)) (hx : a.eval x = .int .i64 n) (hB : B ≤ g) (hBw : B ≤ w.heap.size)
    (h : ∀ w1, w1.heap[g]? = some (.cells #[v0, .int .i64 n, v2, v3] tb (0, 0)) → Below B w w1 → wpList Try.prog ops Q rest (a.put d undef) w1) :
    wpList Try.prog ops Q (⟨d, .store 3 p x, ty, pos, aft, none⟩ :: rest) a w := by
  have hc : w.cell? ⟨g, 1, none⟩ = some v1 := cell_rec hg 1
  have hfz : w.frozen? ⟨g, 1, none⟩ = false := by simp [World.frozen?, hg]
  refine wpList_did (w' := w.setCell ⟨g, 1, none⟩ (.int .i64 n)) rfl ?_ (h _ ?_ ((stirs_setCell (S := fun k => k = g) _ g 1 _ rfl).below hBw fun k hk => by rw [hk]; exact hB))
  · simp only [execOp, hp, hx]
    simp [go_sem, hc, hfz]
  · simp [World.setCell, Array.getElem?_modify, hg]
set_option maxHeartbeats 4000000 in
set_option maxRecDepth 100000 in
theorem rAll_any (w : World) : Calls Try.prog 13 #[] w fun q w' => ∃ v l, q = .returned v ∧ OwR 4 encMk 34 w' w.heap.size v l ∧ RecsOk l ∧ l.length = 5334 ∧ Below w.heap.size w w' := by
  go_enter Try.func13, Try.ntmps13
  go_wp2
  go_loopw [1, 2, 3, 4, 5] (fun vl ve _ _ _ wr => ∃ (e : Nat) (l : List MkR), ve = .int .i64 (e : Int) ∧ 2 ≤ e ∧ e ≤ 128 ∧ Hid (e ∈ Es ∨ e = 128) ∧ Hid (OwR 4 encMk 34 wr w.heap.size vl l) ∧ Hid (RecsOk l) ∧ Hid (l.length = offM e) ∧ Hid (Below w.heap.size w wr)) (fun _ ve _ _ _ _ => 128 - (intOf ve).toNat)
  case atStart => exact ⟨2, [], rfl, by omega, by omega, Lib.hid (.inl (by decide)), Lib.hid (OwR.nil _ _ _ _ _), Lib.hid (fun x hx => by cases hx), Lib.hid rfl, Lib.hid (Below.refl _ _)⟩
  case round =>
    obtain ⟨e, l, rfl, he2, he128, HE, HO, HK, HLN, HB⟩ := hrel
    by_cases hle : e ≤ 64
    · have d1 : decide (e ≤ 64) = true := decide_eq_true hle
      have d2 : decide ((e : Int) ≤ 64) = true := by simp; omega
      have HES := Lib.hid (show e ∈ Es from HE.out.resolve_right (by omega))
      have HHI := Lib.hid (rHigh_any e)
      have hhl := high_le e
      obtain ⟨hg, hgg⟩ : ∃ hg, hg = highM e := ⟨_, rfl⟩
      have HHG := Lib.hid hgg
      rw [← hgg] at HHI hhl
      clear hgg
      go_wp2
      go_loopw [1, 3, 4, 5] (fun vl vc _ _ wx => ∃ (c : Nat) (l : List MkR), vc = .int .i64 (c : Int) ∧ 1 ≤ c ∧ c ≤ e ∧ Hid (OwR 4 encMk 34 wx w.heap.size vl l) ∧ Hid (RecsOk l) ∧ Hid (l.length = offM e + (c - 1) * e) ∧ Hid (Below w.heap.size w wx)) (fun _ vc _ _ _ => e - (intOf vc).toNat)
      case atStart => exact ⟨1, l, rfl, by omega, by omega, HO, HK, Lib.hid (by rw [HLN.out]; simp), HB⟩
      case round =>
        obtain ⟨c, l, rfl, hc1, hce, HO, HK, HLN, HB⟩ := hrel
        by_cases hcl : c < e
        · have d3 : decide (c < e) = true := decide_eq_true hcl
          have d4 : decide ((c : Int) < (e : Int)) = true := by simp; omega
          go_wp2
          go_loopw [1, 4, 5] (fun vl vr _ wy => ∃ (r : Nat) (l : List MkR), vr = .int .i64 (r : Int) ∧ r ≤ e ∧ Hid (OwR 4 encMk 34 wy w.heap.size vl l) ∧ Hid (RecsOk l) ∧ Hid (l.length = offM e + (c - 1) * e + r) ∧ Hid (Below w.heap.size w wy)) (fun _ vr _ _ => e - (intOf vr).toNat)
          case atStart => exact ⟨0, l, rfl, by omega, HO, HK, HLN, HB⟩
          case round =>
            obtain ⟨r, l, rfl, hr, HO, HK, HLN, HB⟩ := hrel
            by_cases hre : r < e
            · have d5 : decide (r < e) = true := decide_eq_true hre
              have d6 : decide ((r : Int) < (e : Int)) = true := by simp; omega
              have HEL := Lib.hid (rElem_any e c r (by omega) hle (by omega) (by omega))
              have HREC := Lib.hid (rec_eq (e := e) (c := c) (r := r) ⟨HES.out, hc1, hcl, hre⟩)
              have HPAR := Lib.hid (show Par e c r from ⟨HES.out, hc1, hcl, hre⟩)
              rw [← HHG.out] at HREC
              have hlb : l.length < 100000 := by
                have h1 := off_le e
                have h2 : (c - 1) * e ≤ 64 * 64 := Nat.mul_le_mul (by omega) hle
                have h3 := HLN.out
                omega
              have HS := Lib.hid HB.out.size
              generalize relM e c r 64 = M at *
              obtain ⟨I, hI⟩ : ∃ I, I = hg + c - 1 := ⟨_, rfl⟩
              have eI : (hg : Int) + (c : Int) - 1 = (I : Int) := by omega
              rw [← hI] at HREC
              clear hI
              by_cases h64 : e = 64
              · have d7 : ((e : Int) == 64) = true := by simp; omega
                rw [if_pos h64] at HREC
                clear h64
                go_wp2_with fail
                refine (HEL.out _).mono ?_
                rintro q w1 ⟨rfl, rfl⟩
                go_wp2_with fail
                refine (HHI.out _).mono ?_
                rintro q w1 ⟨rfl, rfl⟩
                go_wp2_with (first
                  | ((with_reducible show wpList _ _ _ (⟨some 5, .alloc _, _, _, _, _⟩ :: _) _ _); go_must (refine wpList_allocMk ?_; intro w2 hx2 hb2 hs2))
                  | ((with_reducible show wpList _ _ _ (⟨none, .store 34 _ _, _, _, _, _⟩ :: _) _ _); go_must (refine wpList_storeMade hx2 rfl rfl (by kernel_rfl) rfl (by first | kernel_rfl | simp [Value.oneCell']) (Nat.le_refl _) (Nat.le_of_lt hs2) ?_; intro w3 hx3 hb3; have hb23 := hb2.trans hb3; have hs3 := Nat.lt_of_lt_of_le hs2 hb3.size))
                  | ((with_reducible show wpList _ _ _ (⟨none, .store 3 _ _, _, _, _, _⟩ :: _) _ _); go_must (refine wpList_set1 hx3 rfl rfl (Nat.le_refl _) (Nat.le_of_lt hs3) ?_; intro w4 hx4 hb4; obtain ⟨x0, x1, x2, x3⟩ := mk_box hx4; have HBB := Lib.hid (hb23.trans hb4); have HO4 := Lib.hid (HO.out.mono HBB.out); have HB4 := Lib.hid (HB.out.trans (HBB.out.mono HS.out))))
                  | ((with_reducible show wpList _ _ _ (⟨some 37, _, _, _, _, _⟩ :: _) _ _); go_must (refine wpList_pushR TMk HO4.out rfl rfl (recM e c r) (by rw [HREC.out]; rfl) rfl rfl (by omega) (by omega) HB4.out.size ?_; intro v5 w5 hv5 _ hb5; have HO5 := Lib.hid hv5; have HB5 := Lib.hid (HB4.out.trans hb5); clear hv5 hb5)))
                go_roundw
                case rel => exact ⟨r + 1, l ++ [recM e c r], by go_num, by omega, HO5, Lib.hid (fun x hx => by
                  rcases List.mem_append.1 hx with h | h
                  · exact HK.out x h
                  · rw [List.mem_singleton] at h; exact ⟨e, c, r, HPAR.out, h⟩), Lib.hid (by rw [List.length_append, HLN.out]; rfl), HB5⟩
                case measure => simp [intOf] <;> omega
              · have d7 : ((e : Int) == 64) = false := by simp; omega
                rw [if_neg h64] at HREC
                clear h64
                go_wp2_with fail
                refine (HEL.out _).mono ?_
                rintro q w1 ⟨rfl, rfl⟩
                go_wp2_with fail
                refine (HHI.out _).mono ?_
                rintro q w1 ⟨rfl, rfl⟩
                go_wp2_with (first
                  | ((with_reducible show wpList _ _ _ (⟨some 5, .alloc _, _, _, _, _⟩ :: _) _ _); go_must (refine wpList_allocMk ?_; intro w2 hx2 hb2 hs2))
                  | ((with_reducible show wpList _ _ _ (⟨none, .store 34 _ _, _, _, _, _⟩ :: _) _ _); go_must (refine wpList_storeMade hx2 rfl rfl (by kernel_rfl) rfl (by first | kernel_rfl | simp [Value.oneCell']) (Nat.le_refl _) (Nat.le_of_lt hs2) ?_; intro w3 hx3 hb3; obtain ⟨x0, x1, x2, x3⟩ := mk_box hx3; have HBB := Lib.hid (hb2.trans hb3); have HO4 := Lib.hid (HO.out.mono HBB.out); have HB4 := Lib.hid (HB.out.trans (HBB.out.mono HS.out))))
                  | ((with_reducible show wpList _ _ _ (⟨some 37, _, _, _, _, _⟩ :: _) _ _); go_must (refine wpList_pushR TMk HO4.out rfl rfl (recM e c r) (by rw [HREC.out]; rfl) rfl rfl (by omega) (by omega) HB4.out.size ?_; intro v5 w5 hv5 _ hb5; have HO5 := Lib.hid hv5; have HB5 := Lib.hid (HB4.out.trans hb5); clear hv5 hb5)))
                go_roundw
                case rel => exact ⟨r + 1, l ++ [recM e c r], by go_num, by omega, HO5, Lib.hid (fun x hx => by
                  rcases List.mem_append.1 hx with h | h
                  · exact HK.out x h
                  · rw [List.mem_singleton] at h; exact ⟨e, c, r, HPAR.out, h⟩), Lib.hid (by rw [List.length_append, HLN.out]; rfl), HB5⟩
                case measure => simp [intOf] <;> omega
            · obtain rfl : r = e := by omega
              have HL2 := Lib.hid (show l.length = offM r + (c + 1 - 1) * r by
                rw [HLN.out, Nat.add_assoc]
                congr 1
                obtain ⟨c', rfl⟩ : ∃ c', c = c' + 1 := ⟨c - 1, by omega⟩
                simp [Nat.add_mul])
              go_wp2
              go_roundw
              case rel => exact ⟨c + 1, l, by go_num, by omega, by omega, HO, HK, HL2, HB⟩
              case measure => simp [intOf] <;> omega
        · obtain rfl : c = e := by omega
          have HL2 := Lib.hid (show l.length = offM (2 * c) by rw [HLN.out, off_next HES.out])
          have HE2 := Lib.hid (show 2 * c ∈ Es ∨ 2 * c = 128 by
            by_cases h : c < 64
            · exact .inl (by rw [Nat.mul_comm]; exact es_dbl HES.out h)
            · exact .inr (by omega))
          go_wp2
          go_roundw
          case rel => exact ⟨2 * c, l, int_eq (by omega), by omega, by omega, HE2, HO, HK, HL2, HB⟩
          case measure => simp [intOf] <;> omega
    · have d1 : decide (e ≤ 64) = false := decide_eq_false hle
      have d2 : decide ((e : Int) ≤ 64) = false := by simp; omega
      have hE : e = 128 := by
        rcases HE.out with h | h
        · have := (es_le h).2; omega
        · exact h
      have HL2 := Lib.hid (show l.length = 5334 by rw [HLN.out, hE]; rfl)
      clear hE
      go_wp2
      go_ret
      exact ⟨_, l, rfl, HO.out, HK.out, HL2.out, HB.out⟩
end Go.Proofs.Ytjklfichjaapoaa
namespace Go.Fd
open Go.RowKit
theorem allS_has {e c r : Nat} (h : Par e c r) : ∃ t : Nat, ∃ ht : t < allS.length, allS[t] = maskM e c r := by
  obtain ⟨t, ht, h2⟩ := List.getElem_of_mem (allS_perm.mem_iff.2 (ins_all h))
  exact ⟨t, ht, h2⟩
theorem fld_tuple {e c r : Nat} (_ : Par e c r) : fldM e c r = ((fldM e c r).1, r, (fldM e c r).2.2.1, true) := by
  unfold fldM
  split <;> rfl
end Go.Fd
namespace Go.Proofs.Ytjklfichjaapoaa
open Go.RowKit Go.Fd Go.Sort
set_option maxHeartbeats 4000000 in
set_option maxRecDepth 100000 in
theorem maskEach_any (z : Int) (w : World) : Calls Try.prog 4 #[.int .i64 z] w fun q w' => q = .returned (.bool true) ∧ Below w.heap.size w w' := by
  by_cases hz : z < 0
  · have d1 : decide (z < 0) = true := decide_eq_true hz
    go_enter Try.func4, Try.ntmps4
    go_wp2_with fail
    refine (begun10_any _).mono ?_
    rintro q w1 ⟨rfl, hb1⟩
    have HB1 := Lib.hid hb1
    clear hb1
    go_wp2
    go_ret
    exact ⟨rfl, HB1.out⟩
  · obtain ⟨z, rfl⟩ := Int.eq_ofNat_of_zero_le (show 0 ≤ z by omega)
    have d1 : decide ((z : Int) < 0) = false := by simp
    obtain ⟨k, hk⟩ : ∃ k, k = z % 5334 := ⟨_, rfl⟩
    have hk5 : k < 5334 := by omega
    have e1 : (z : Int).tmod 5334 = (k : Int) := by rw [Int.tmod_eq_emod_of_nonneg (by omega)]; omega
    have e1' : (z : Int) % 5334 = (k : Int) := by omega
    clear hk hz
    go_enter Try.func4, Try.ntmps4
    go_wp2_with fail
    refine (begun10_any _).mono ?_
    rintro q w1 ⟨rfl, hb1⟩
    have HB1 := Lib.hid hb1
    clear hb1
    go_wp2_with fail
    refine (mkAll_any _).mono ?_
    rintro q w2 ⟨v, rfl, hv, hb2⟩
    have HB2 := Lib.hid (HB1.out.trans (hb2.mono HB1.out.size))
    have HOV := Lib.hid hv
    clear hb2
    obtain ⟨g, cap, rfl, hgb, -, -, -, -⟩ := hv.open 0 (by rw [allS_len]; decide)
    rw [allS_len]
    clear hv
    go_wp2_with fail
    refine (rAll_any _).mono ?_
    rintro q w3 ⟨v2, L, rfl, hv2, hrec, hlen, hb3⟩
    have HB3 := Lib.hid (HB2.out.trans (hb3.mono HB2.out.size))
    have HOV3 := Lib.hid (HOV.out.mono hb3)
    obtain ⟨x, hx⟩ : ∃ x, L[k]? = some x := ⟨_, List.getElem?_eq_getElem (by rw [hlen]; exact hk5)⟩
    obtain ⟨e, c, r, hp, rfl⟩ := hrec x (List.mem_of_getElem? hx)
    have HOW2 := Lib.hid hv2
    have HPAR := Lib.hid hp
    have hAp : ∀ kk, (Value.slice (some ⟨g, 0, none⟩) allS.length cap).ownBlock = some kk → v2.ownBlock ≠ some kk := fun kk => own_apart HOV3.out hv2 (by decide)
    obtain ⟨ad, cap2, hv2e, -, -, hcells⟩ := hv2.rd.open encMk_len
    rw [hlen] at hv2e
    subst hv2e
    obtain ⟨b, off, rfl, hc⟩ := hcells k _ hx (by decide)
    have hbg : b ≠ g := fun e => hAp g rfl (by rw [e]; rfl)
    have HBG := Lib.hid hbg
    obtain ⟨t0, ht0, htv⟩ := allS_has hp
    have ht5 : t0 < 5334 := by rw [← allS_len]; exact ht0
    have hrM : recM e c r = (maskM e c r, (fldM e c r).1, r, (fldM e c r).2.2.1) := rfl
    obtain ⟨hN, -, hI, hat⟩ := at_fld hp
    have hr64 : r < 64 := Nat.lt_of_lt_of_le hp.r (es_le hp.es).2
    have hof : ofM (maskM e c r) = ((fldM e c r).1, r, (fldM e c r).2.2.1, true) := by rw [of_mask hp]; exact fld_tuple hp
    have hm64 : maskM e c r < 18446744073709551616 := by have := (mask_bounds hp).2; omega
    have hc0 : w3.cell? ⟨b, off + (k * 4 + 0), none⟩ = some (.int .u64 ((maskM e c r : Nat) : Int)) := hc 0 (by decide)
    have hc1 : w3.cell? ⟨b, off + (k * 4 + 1), none⟩ = some (.int .i64 (((fldM e c r).1 : Nat) : Int)) := hc 1 (by decide)
    have hc2 : w3.cell? ⟨b, off + (k * 4 + 2), none⟩ = some (.int .i64 (r : Int)) := hc 2 (by decide)
    have hc3 : w3.cell? ⟨b, off + (k * 4 + 3), none⟩ = some (.int .i64 (((fldM e c r).2.2.1 : Nat) : Int)) := hc 3 (by decide)
    have HTV := Lib.hid (show allS[t0]? = some (maskM e c r) by rw [List.getElem?_eq_getElem ht0, htv])
    have HOF := Lib.hid (mkOf_any (maskM e c r) hm64)
    rw [hof] at HOF
    have HAT := Lib.hid (mkAt_dr (fldM e c r).1 r (fldM e c r).2.2.1 hN hr64 hI)
    rw [hat] at HAT
    clear hcells hc hx hrec hlen hb3 hv2 hAp hbg hp hat hof hm64 htv ht0 hrM hN hI hr64 HOW2 HPAR
    generalize maskM e c r = M at *
    generalize (fldM e c r).1 = N at *
    generalize (fldM e c r).2.2.1 = I at *
    simp only [Nat.add_zero, ← Nat.add_assoc] at hc0 hc1 hc2 hc3
    -- the cells behind later draws
    have HC := Lib.hid (fun (wx : World) (hb : Below w3.heap.size w3 wx) => show (wx.cell? ⟨b, off + k * 4, none⟩ = some (.int .u64 (M : Int)) ∧ wx.cell? ⟨b, off + k * 4 + 1, none⟩ = some (.int .i64 (N : Int))) ∧ wx.cell? ⟨b, off + k * 4 + 2, none⟩ = some (.int .i64 (r : Int)) ∧ wx.cell? ⟨b, off + k * 4 + 3, none⟩ = some (.int .i64 (I : Int)) from
      ⟨⟨(hb.cell (p := ⟨b, off + k * 4, none⟩) (block_lt hc0)).trans hc0, (hb.cell (p := ⟨b, off + k * 4 + 1, none⟩) (block_lt hc1)).trans hc1⟩, (hb.cell (p := ⟨b, off + k * 4 + 2, none⟩) (block_lt hc2)).trans hc2, (hb.cell (p := ⟨b, off + k * 4 + 3, none⟩) (block_lt hc3)).trans hc3⟩)
    have HL := Lib.hid (fun (wx : World) (hb : Below w3.heap.size w3 wx) (i x : Nat) (hi : allS[i]? = some x) => show wx.cell? ⟨g, i, none⟩ = some (.int .u64 (x : Int)) by
      obtain ⟨g', cap', e', -, -, -, h1, -⟩ := (HOV3.out.mono hb).open 0 (by rw [allS_len]; decide)
      injection e' with e1 e2 e3
      injection e1 with e1
      injection e1 with e1
      subst e1
      have := h1 i (List.getElem?_eq_some_iff.1 hi).1
      rw [this, hi]
      rfl)
    clear hc0 hc1 hc2 hc3
    go_wp2
    go_loopw [6, 7] (fun vb vi wr => ∃ (i : Nat) (bb : Bool), vb = .bool bb ∧ vi = .int .i64 (i : Int) ∧ i ≤ 5334 ∧ Hid (t0 < i → bb = true) ∧ Hid (Below w3.heap.size w3 wr)) (fun _ vi _ => 5334 - (intOf vi).toNat)
    case atStart => exact ⟨0, false, rfl, rfl, by omega, Lib.hid (fun h => by omega), Lib.hid (Below.refl _ _)⟩
    case round =>
      obtain ⟨i, bb, rfl, rfl, hi, HT, HB⟩ := hrel
      by_cases hi5 : i < 5334
      · have d2 : decide (i < 5334) = true := decide_eq_true hi5
        have d3 : decide ((i : Int) < 5334) = true := by simp; omega
        obtain ⟨x2, hx2⟩ : ∃ x, allS[i]? = some x := ⟨_, List.getElem?_eq_getElem (by rw [allS_len]; exact hi5)⟩
        have c2 := HL.out wr HB.out i x2 hx2
        have HX2 := Lib.hid hx2
        clear hx2
        by_cases hi0 : 0 < i
        · obtain ⟨x1, hx1⟩ : ∃ x, allS[i - 1]? = some x := ⟨_, List.getElem?_eq_getElem (by rw [allS_len]; omega)⟩
          have c1 := HL.out wr HB.out (i - 1) x1 hx1
          have hlt : x1 < x2 := by
            obtain ⟨q1, q2⟩ := List.getElem?_eq_some_iff.1 hx1
            obtain ⟨q3, q4⟩ := List.getElem?_eq_some_iff.1 HX2.out
            have := allS_up (i := i - 1) (j := i) (by omega) q3
            omega
          have d4 : decide ((i : Int) > 0) = true := by simp; omega
          have d4' : decide (0 < i) = true := decide_eq_true hi0
          have d5 : decide ((x1 : Int) ≥ (x2 : Int)) = false := by simp; omega
          have d5' : decide (x2 ≤ x1) = false := decide_eq_false (by omega)
          clear hx1
          go_wp2
          go_quiet (fail)
          have HB2 := Lib.hid (HB.out.trans (below_drewN (Below.refl _ _) nq |>.mono HB.out.size))
          generalize wr.drewN nq = wz at *
          clear c1 c2
          obtain ⟨⟨a0, -⟩, -⟩ := HC.out wz HB2.out
          have c3 := HL.out wz HB2.out i x2 HX2.out
          cases bb with
          | true =>
            go_wp2
            go_quiet (fail)
            have HB3' := Lib.hid (HB2.out.trans (below_drewN (Below.refl _ _) nq |>.mono HB2.out.size))
            go_wp2
            go_roundw
            case rel => exact ⟨i + 1, true, rfl, by go_num, by omega, Lib.hid (fun _ => rfl), HB3'⟩
            case measure => simp [intOf] <;> omega
          | false =>
            have HTT := Lib.hid (show t0 < i + 1 → ((x2 : Int) == (M : Int)) = true from fun h => by
              have h1 : ¬ t0 < i := fun h2 => by have := HT.out h2; cases this
              have h2 : t0 = i := by omega
              have h3 := HTV.out
              rw [h2, HX2.out] at h3
              cases h3
              simp)
            go_wp2
            go_quiet (fail)
            have HB3' := Lib.hid (HB2.out.trans (below_drewN (Below.refl _ _) nq |>.mono HB2.out.size))
            go_wp2
            go_roundw
            case rel => exact ⟨i + 1, ((x2 : Int) == (M : Int)), rfl, by go_num, by omega, HTT, HB3'⟩
            case measure => simp [intOf] <;> omega
        · have d4 : decide ((i : Int) > 0) = false := by simp; omega
          have d4' : decide (0 < i) = false := decide_eq_false hi0
          have d4'' : ¬ 0 < i := hi0
          go_wp2
          go_quiet (fail)
          have HB2 := Lib.hid (HB.out.trans (below_drewN (Below.refl _ _) nq |>.mono HB.out.size))
          generalize wr.drewN nq = wz at *
          clear c2
          obtain ⟨⟨a0, -⟩, -⟩ := HC.out wz HB2.out
          have c3 := HL.out wz HB2.out i x2 HX2.out
          cases bb with
          | true =>
            go_wp2
            go_quiet (fail)
            have HB3' := Lib.hid (HB2.out.trans (below_drewN (Below.refl _ _) nq |>.mono HB2.out.size))
            go_wp2
            go_roundw
            case rel => exact ⟨i + 1, true, rfl, by go_num, by omega, Lib.hid (fun _ => rfl), HB3'⟩
            case measure => simp [intOf] <;> omega
          | false =>
            have HTT := Lib.hid (show t0 < i + 1 → ((x2 : Int) == (M : Int)) = true from fun h => by
              have h1 : ¬ t0 < i := fun h2 => by have := HT.out h2; cases this
              have h2 : t0 = i := by omega
              have h3 := HTV.out
              rw [h2, HX2.out] at h3
              cases h3
              simp)
            go_wp2
            go_quiet (fail)
            have HB3' := Lib.hid (HB2.out.trans (below_drewN (Below.refl _ _) nq |>.mono HB2.out.size))
            go_wp2
            go_roundw
            case rel => exact ⟨i + 1, ((x2 : Int) == (M : Int)), rfl, by go_num, by omega, HTT, HB3'⟩
            case measure => simp [intOf] <;> omega
      · obtain rfl : i = 5334 := by omega
        obtain rfl : bb = true := HT.out ht5
        have d2 : decide ((5334 : Nat) < 5334) = false := by decide
        obtain ⟨x0, hx0⟩ : ∃ x, allS[0]? = some x := ⟨_, List.getElem?_eq_getElem (by rw [allS_len]; decide)⟩
        have HX0 := Lib.hid hx0
        have HST := Lib.hid (fun (wx : World) (hb : Below w3.heap.size w3 wx) => show (wx.cell? ⟨g, 0, none⟩ = some (.int .u64 (x0 : Int)) ∧ wx.frozen? ⟨g, 0, none⟩ = false) ∧ Below w.heap.size w (wx.setCell ⟨g, 0, none⟩ (.int .u64 5)) from by
          obtain ⟨g', cap', e', hbb, -, -, -, h2⟩ := (HOV3.out.mono hb).open 0 (by rw [allS_len]; decide)
          injection e' with e1 e2 e3
          injection e1 with e1
          injection e1 with e1
          subst e1
          have hba := HB1.out.size
          exact ⟨⟨HL.out wx hb 0 x0 HX0.out, h2 0⟩, (HB3.out.trans (hb.mono HB3.out.size)).trans ((stirs_setCell (S := fun k => k = g) wx g 0 (.int .u64 5) rfl).below (by have := (HB3.out.trans (hb.mono HB3.out.size)).size; exact this) fun k hk => by rw [hk]; omega)⟩)
        clear hx0
        obtain ⟨⟨a0, a1⟩, a2, a3⟩ := HC.out wr HB.out
        go_wp2_with fail
        refine (HOF.out _).mono ?_
        rintro q w4 ⟨rfl, hb4⟩
        have HB4 := Lib.hid (HB.out.trans (hb4.mono HB.out.size))
        clear hb4 a0 a1 a2 a3
        obtain ⟨⟨a0, a1⟩, a2, a3⟩ := HC.out w4 HB4.out
        go_wp2
        go_quiet (first | (go_at_call 10; exact Calls.quiet_of (HAT.out _)))
        have HB5 := Lib.hid (HB4.out.trans (below_drewN (Below.refl _ _) nq |>.mono HB4.out.size))
        generalize w4.drewN nq = w5 at *
        clear a0 a1 a2 a3
        obtain ⟨⟨a0, a1⟩, a2, a3⟩ := HC.out w5 HB5.out
        obtain ⟨⟨s1, s2⟩, s3⟩ := HST.out w5 HB5.out
        have hbg := HBG.out
        have HB6 := Lib.hid s3
        have HA0 := Lib.hid a0
        have HA1 := Lib.hid a1
        have HA2 := Lib.hid a2
        have HA3 := Lib.hid a3
        have HC6 := Lib.hid (fun (oo : Nat) (vv : Value) (h : w5.cell? ⟨b, oo, none⟩ = some vv) => show (w5.setCell ⟨g, 0, none⟩ (.int .u64 5)).cell? ⟨b, oo, none⟩ = some vv from (stirs_setCell (S := fun k => k = g) w5 g 0 (.int .u64 5) rfl).cell h hbg)
        have b0 := HC6.out _ _ a0
        have b1 := HC6.out _ _ a1
        have b2 := HC6.out _ _ a2
        have b3 := HC6.out _ _ a3
        clear s3 hbg
        have f1 : ((M : Int) == (M : Int)) = true := by simp
        have f2 : ((N : Int) == (N : Int)) = true := by simp
        have f3 : ((r : Int) == (r : Int)) = true := by simp
        have f4 : ((I : Int) == (I : Int)) = true := by simp
        have f5 : ((x0 : Int) == (x0 : Int)) = true := by simp
        go_wp2_with fail
        refine (mkAll_any _).mono ?_
        rintro q w7 ⟨v7, rfl, hv7, hb7⟩
        obtain ⟨g7, cap7, rfl, -, -, hcap7, h7, -⟩ := hv7.open 0 (by rw [allS_len]; decide)
        have k7 : w7.cell? ⟨g7, 0, none⟩ = some (.int .u64 (x0 : Int)) := by
          rw [h7 0 (by rw [allS_len]; decide), HX0.out]
          rfl
        have HB7 := Lib.hid (HB6.out.trans (hb7.mono HB6.out.size))
        rw [allS_len]
        clear h7 hv7 hb7 b0 b1 b2 b3 a0 a1 a2 a3
        go_wp2
        go_ret
        exact ⟨by simp, HB7.out⟩
end Go.Proofs.Ytjklfichjaapoaa
namespace Go.Proofs.Ytjklfichjaapoaa
open Go.ChangeShapes Go.WideShapes Go.ChangeAt Go.RowKit Go.Fd
set_option maxRecDepth 100000 in
theorem maskEach_lifted (os : Os) (started : os.Started) (H : Type) (enc : TypeId × Value → H) :
    ReturnsInHanded {} Try.checked os 4 .any (Rows.maskEachSpec.pre6 enc Try.prog Try.f4 Rows.maskEachRow.domain false) (Rows.maskEachSpec.post enc Try.prog Try.f4 false true false false) := by
  refine returnsInHanded_of_change (C := Try.checked) Try.own started (by kernel_rfl) Try.func4
    (ChangeSpec.witness6 (enc := enc) (C := Try.checked) false ⟨#[], #[.int .i64 0], []⟩ 8 (by kernel_rfl) (by kernel_rfl) (by kernel_rfl) (by kernel_rfl)) ?_
  intro W base args ds gs before hval0 hW hcnd _
  have hval : ∀ (j : Nat) t v, Try.f4.params[j]? = some t → args[j]? = some v → Value.okWide Try.prog W .any base t v := hval0
  have hW' := hW
  obtain ⟨p, q, hA0, hV, rfl, hfz, hnd⟩ := hW
  have hA : DataW.TrodAll enc Try.prog W 0 (fun _ => true) true Try.f4.params.toList args.toList ds p := hA0
  have hlt : ∀ x ∈ p, x.block < W.heap.size := fun x hx => hW'.lt x (by simp [hx])
  have hback : ∀ W', Below W.heap.size W W' → DataW.TrodAll enc Try.prog W' 0 (fun b => decide (b < W.heap.size)) true Try.f4.params.toList args.toList ds p :=
    fun W' hb => belowAllB (by kernel_rfl) hb hA hlt
  rw [Try.params4] at hA hval
  obtain ⟨v0, vs0, d0, ds0, p0, q0, hargs, rfl, rfl, h0, r0⟩ := trodAll_cons hA
  obtain ⟨rfl, rfl, rfl⟩ := trodAll_nil r0
  obtain rfl : args = #[v0] := by
    cases args
    simp at hargs
    simp [hargs]
  clear hargs
  obtain ⟨rfl, rfl⟩ := trodVars_none hV
  have fin : ∀ (e : Ending) (W' : World), (e = .returned (.bool true) ∧ Below W.heap.size W W') → ∃ v, e = Ending.returned v ∧ Rows.maskEachSpec.post enc Try.checked.prog Try.f4 false true false false W #[v0] v W' := by
    rintro e W' ⟨rfl, hb⟩
    exact ⟨_, rfl, _, _, _, [], _, [], hW', trodAll_mk1 (shut_bool Try.underlying4 true), hback W' hb, rfl, hb.frame _, fun h => by cases h⟩
  obtain ⟨z, rfl, rfl, rfl, g0⟩ := open_int Try.underlying3 (hval 0 3 v0 rfl rfl) h0
  exact (maskEach_any z W).mono fin
theorem maskEach_holds : Rows.MaskEachSaid :=
  OpenClaim.holds_of_wide 4 Try.f4 rfl rfl rfl rfl rfl rfl rfl ⟨rfl, rfl, rfl, rfl, rfl⟩ rfl rfl rfl rfl rfl (by kernel_rfl) Try.func4 (by kernel_rfl)
    (of_decide_eq_true (by kernel_rfl)) (by unfold Func.isWrapper; rw [if_neg (of_decide_eq_false (by kernel_rfl))]; exact ⟨rfl, rfl⟩)
    (fun os started H enc _ => maskEach_lifted os started H enc)
end Go.Proofs.Ytjklfichjaapoaa
namespace Go.Proofs.Ytjklfichjaapoaa
open Go.ChangeShapes Go.WideShapes Go.ChangeAt Go.RowKit Go.Fd
set_option maxRecDepth 100000 in
theorem maskTurns_lifted (os : Os) (started : os.Started) (H : Type) (enc : TypeId × Value → H) :
    ReturnsInHanded {} Try.checked os 5 .any (Rows.maskTurnsSpec.pre6 enc Try.prog Try.f5 Rows.maskTurnsRow.domain false) (Rows.maskTurnsSpec.post enc Try.prog Try.f5 false true false false) := by
  refine returnsInHanded_of_change (C := Try.checked) Try.own started (by kernel_rfl) Try.func5
    (ChangeSpec.witness6 (enc := enc) (C := Try.checked) false ⟨#[], #[.int .u64 0, .int .u8 0], []⟩ 8 (by kernel_rfl) (by kernel_rfl) (by kernel_rfl) (by kernel_rfl)) ?_
  intro W base args ds gs before hval0 hW hcnd _
  have hval : ∀ (j : Nat) t v, Try.f5.params[j]? = some t → args[j]? = some v → Value.okWide Try.prog W .any base t v := hval0
  have hW' := hW
  obtain ⟨p, q, hA0, hV, rfl, hfz, hnd⟩ := hW
  have hA : DataW.TrodAll enc Try.prog W 0 (fun _ => true) true Try.f5.params.toList args.toList ds p := hA0
  have hlt : ∀ x ∈ p, x.block < W.heap.size := fun x hx => hW'.lt x (by simp [hx])
  have hback : ∀ W', Below W.heap.size W W' → DataW.TrodAll enc Try.prog W' 0 (fun b => decide (b < W.heap.size)) true Try.f5.params.toList args.toList ds p :=
    fun W' hb => belowAllB (by kernel_rfl) hb hA hlt
  rw [Try.params5] at hA hval
  obtain ⟨v0, vs0, d0, ds0, p0, q0, hargs, rfl, rfl, h0, r0⟩ := trodAll_cons hA
  obtain ⟨v1, vs1, d1, ds1, p1, q1, rfl, rfl, rfl, h1, r1⟩ := trodAll_cons r0
  obtain ⟨rfl, rfl, rfl⟩ := trodAll_nil r1
  obtain rfl : args = #[v0, v1] := by
    cases args
    simp at hargs
    simp [hargs]
  clear hargs
  obtain ⟨rfl, rfl⟩ := trodVars_none hV
  have fin : ∀ (e : Ending) (W' : World), (e = .returned (.bool true) ∧ Below W.heap.size W W') → ∃ v, e = Ending.returned v ∧ Rows.maskTurnsSpec.post enc Try.checked.prog Try.f5 false true false false W #[v0, v1] v W' := by
    rintro e W' ⟨rfl, hb⟩
    exact ⟨_, rfl, _, _, _, [], _, [], hW', trodAll_mk1 (shut_bool Try.underlying4 true), hback W' hb, rfl, hb.frame _, fun h => by cases h⟩
  obtain ⟨m, rfl, rfl, rfl, g0⟩ := open_int Try.underlying26 (hval 0 26 v0 rfl rfl) h0
  obtain ⟨b, rfl, rfl, rfl, g1⟩ := open_int Try.underlying5 (hval 1 5 v1 rfl rfl) h1
  obtain ⟨a0, b0⟩ := wf_u64 g0
  obtain ⟨a1, b1⟩ := wf_u8' g1
  obtain ⟨m, rfl⟩ := Int.eq_ofNat_of_zero_le a0
  obtain ⟨b, rfl⟩ := Int.eq_ofNat_of_zero_le a1
  exact (maskTurns_any m b (by omega) (by omega) W).mono fin
theorem maskTurns_holds : Rows.MaskTurnsSaid :=
  OpenClaim.holds_of_wide 5 Try.f5 rfl rfl rfl rfl rfl rfl rfl ⟨rfl, rfl, rfl, rfl, rfl⟩ rfl rfl rfl rfl rfl (by kernel_rfl) Try.func5 (by kernel_rfl)
    (of_decide_eq_true (by kernel_rfl)) (by unfold Func.isWrapper; rw [if_neg (of_decide_eq_false (by kernel_rfl))]; exact ⟨rfl, rfl⟩)
    (fun os started H enc _ => maskTurns_lifted os started H enc)
end Go.Proofs.Ytjklfichjaapoaa
namespace Go.Proofs.Ytjklfichjaapoaa
open Go.ChangeShapes Go.WideShapes Go.ChangeAt Go.RowKit Go.Fd
set_option maxRecDepth 100000 in
theorem maskOnes_lifted (os : Os) (started : os.Started) (H : Type) (enc : TypeId × Value → H) :
    ReturnsInHanded {} Try.checked os 6 .any (Rows.maskOnesSpec.pre6 enc Try.prog Try.f6 Rows.maskOnesRow.domain false) (Rows.maskOnesSpec.post enc Try.prog Try.f6 false true false false) := by
  refine returnsInHanded_of_change (C := Try.checked) Try.own started (by kernel_rfl) Try.func6
    (ChangeSpec.witness6 (enc := enc) (C := Try.checked) false ⟨#[], #[.int .i64 0, .int .i64 0, .int .i64 0], []⟩ 8 (by kernel_rfl) (by kernel_rfl) (by kernel_rfl) (by kernel_rfl)) ?_
  intro W base args ds gs before hval0 hW hcnd _
  have hval : ∀ (j : Nat) t v, Try.f6.params[j]? = some t → args[j]? = some v → Value.okWide Try.prog W .any base t v := hval0
  have hW' := hW
  obtain ⟨p, q, hA0, hV, rfl, hfz, hnd⟩ := hW
  have hA : DataW.TrodAll enc Try.prog W 0 (fun _ => true) true Try.f6.params.toList args.toList ds p := hA0
  have hlt : ∀ x ∈ p, x.block < W.heap.size := fun x hx => hW'.lt x (by simp [hx])
  have hback : ∀ W', Below W.heap.size W W' → DataW.TrodAll enc Try.prog W' 0 (fun b => decide (b < W.heap.size)) true Try.f6.params.toList args.toList ds p :=
    fun W' hb => belowAllB (by kernel_rfl) hb hA hlt
  rw [Try.params6] at hA hval
  obtain ⟨v0, vs0, d0, ds0, p0, q0, hargs, rfl, rfl, h0, r0⟩ := trodAll_cons hA
  obtain ⟨v1, vs1, d1, ds1, p1, q1, rfl, rfl, rfl, h1, r1⟩ := trodAll_cons r0
  obtain ⟨v2, vs2, d2, ds2, p2, q2, rfl, rfl, rfl, h2, r2⟩ := trodAll_cons r1
  obtain ⟨rfl, rfl, rfl⟩ := trodAll_nil r2
  obtain rfl : args = #[v0, v1, v2] := by
    cases args
    simp at hargs
    simp [hargs]
  clear hargs
  obtain ⟨rfl, rfl⟩ := trodVars_none hV
  have fin : ∀ (e : Ending) (W' : World), (e = .returned (.bool true) ∧ Below W.heap.size W W') → ∃ v, e = Ending.returned v ∧ Rows.maskOnesSpec.post enc Try.checked.prog Try.f6 false true false false W #[v0, v1, v2] v W' := by
    rintro e W' ⟨rfl, hb⟩
    exact ⟨_, rfl, _, _, _, [], _, [], hW', trodAll_mk1 (shut_bool Try.underlying4 true), hback W' hb, rfl, hb.frame _, fun h => by cases h⟩
  obtain ⟨n, rfl, rfl, rfl, g0⟩ := open_int Try.underlying3 (hval 0 3 v0 rfl rfl) h0
  obtain ⟨r, rfl, rfl, rfl, g1⟩ := open_int Try.underlying3 (hval 1 3 v1 rfl rfl) h1
  obtain ⟨i, rfl, rfl, rfl, g2⟩ := open_int Try.underlying3 (hval 2 3 v2 rfl rfl) h2
  exact (maskOnes_any n r i W).mono fin
theorem maskOnes_holds : Rows.MaskOnesSaid :=
  OpenClaim.holds_of_wide 6 Try.f6 rfl rfl rfl rfl rfl rfl rfl ⟨rfl, rfl, rfl, rfl, rfl⟩ rfl rfl rfl rfl rfl (by kernel_rfl) Try.func6 (by kernel_rfl)
    (of_decide_eq_true (by kernel_rfl)) (by unfold Func.isWrapper; rw [if_neg (of_decide_eq_false (by kernel_rfl))]; exact ⟨rfl, rfl⟩)
    (fun os started H enc _ => maskOnes_lifted os started H enc)
end Go.Proofs.Ytjklfichjaapoaa
namespace Go.Proofs.Ytjklfichjaapoaa
theorem mask_four : (Rows.MaskAllSaid ∧ Rows.MaskEachSaid) ∧ Rows.MaskTurnsSaid ∧ Rows.MaskOnesSaid := ⟨⟨maskAll_holds, maskEach_holds⟩, maskTurns_holds, maskOnes_holds⟩
end Go.Proofs.Ytjklfichjaapoaa
#print axioms Go.Proofs.Ytjklfichjaapoaa.mask_four
