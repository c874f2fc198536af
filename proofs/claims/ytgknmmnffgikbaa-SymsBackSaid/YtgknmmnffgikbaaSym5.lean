/-
  Relocations out of bytes.
-/
import Derived.Test.YtgknmmnffgikbaaSym4
namespace Go.Proofs.Ytgknmmnffgikbaa
open Go.RowKit Go.Fd

theorem TRela : SliceT Try.prog 40 84 4 32 := SliceT.mk' (z := .agg #[.int .u64 0, .int .i64 0, .int .i64 0, .int .i64 0]) (by kernel_rfl) (by kernel_rfl) rfl (by omega)

theorem uAt_any (l : List UInt8) (a s : Nat) {z y : Int} (v : Value) (w : World) (hz : z = (a : Int)) (hy : y = (s : Int)) (hs : Sized s) (hin : a + s ≤ l.length) (hl : l.length ≤ 1000000000) (hv : Bs w v l) :
    Calls Try.prog 64 #[v, .int .i64 z, .int .i64 y] w fun e w' => e = .returned (.int .u64 (numLE ((l.drop a).take s))) ∧ w = w' := by
  subst hz hy
  have h := u_any l a s v w hl hv
  rw [getR_in l a s hs hin] at h
  exact h

theorem numLE_cut (l : List UInt8) (a s : Nat) : numLE ((l.drop a).take s) < 256 ^ s := numLE_lt' _ s (by rw [List.length_take]; omega)
theorem i64_small {n : Nat} (h : n < 4294967296) : IntKind.i64.wrap (n : Int) = (n : Int) := by
  simp [IntKind.wrap, IntKind.bits, IntKind.signed]
  omega

/-- The relocation at place k. -/
def recR (b : List UInt8) (k : Nat) : RelaM := ⟨numLE ((b.drop (24 * k)).take 8), numLE ((b.drop (24 * k + 8)).take 4), numLE ((b.drop (24 * k + 12)).take 4), wrap64 (numLE ((b.drop (24 * k + 16)).take 8) : Int)⟩
def stepRela (b : List UInt8) (k : Nat) (L : List RelaM) : Except Int (List RelaM) := if 2147483647 < (recR b k).sym then .error 3 else .ok (L ++ [recR b k])
def relaRd (b : List UInt8) : List RelaM × Int := if b.length % 24 = 0 then (match foldU (stepRela b) (b.length / 24) with | .ok L => (L, 0) | .error e => ([], e)) else ([], 4)

theorem foldRela_len (b : List UInt8) : ∀ k L, foldU (stepRela b) k = .ok L → L.length = k := by
  intro k
  induction k with
  | zero => intro L h; cases h; rfl
  | succ k ih =>
    intro L h
    rw [foldU] at h
    cases hk : foldU (stepRela b) k with
    | error e => rw [hk] at h; cases h
    | ok L0 =>
      rw [hk] at h
      have h' : stepRela b k L0 = .ok L := h
      unfold stepRela at h'
      split at h'
      · cases h'
      · cases h'
        rw [List.length_append, ih L0 hk]; rfl
theorem relaRd_err {b : List UInt8} {k : Nat} {L : List RelaM} (h0 : b.length % 24 = 0) (hk : k < b.length / 24) (h : foldU (stepRela b) k = .ok L) (hs : 2147483647 < (recR b k).sym) : relaRd b = ([], 3) := by
  unfold relaRd
  rw [if_pos h0, foldU_err h (by unfold stepRela; rw [if_pos hs]) _ hk]
theorem relaRd_step {b : List UInt8} {k : Nat} {L : List RelaM} (h : foldU (stepRela b) k = .ok L) (hs : ¬ 2147483647 < (recR b k).sym) : foldU (stepRela b) (k + 1) = .ok (L ++ [recR b k]) := foldU_ok h (by unfold stepRela; rw [if_neg hs])
theorem relaRd_ok {b : List UInt8} {k : Nat} {L : List RelaM} (h0 : b.length % 24 = 0) (hk : k = b.length / 24) (h : foldU (stepRela b) k = .ok L) : relaRd b = (L, 0) := by
  unfold relaRd
  rw [if_pos h0, ← hk, h]
theorem relaRd_form {b : List UInt8} (h0 : ¬ b.length % 24 = 0) : relaRd b = ([], 4) := by
  unfold relaRd
  rw [if_neg h0]

set_option maxHeartbeats 1000000 in
set_option maxRecDepth 100000 in
theorem readRela_any (b : List UInt8) (v : Value) (w : World) (hl : b.length ≤ 6000) (hv : Bs w v b) :
    Calls Try.prog 32 #[v] w fun e w' => ∃ v', e = .returned (.tuple #[v', .int .i64 (relaRd b).2]) ∧ OwR 4 encRela 84 w' w.heap.size v' (relaRd b).1 ∧ Below w.heap.size w w' := by
  have HV := Lib.hid hv
  obtain ⟨a, cap, rfl, hcap, _, _⟩ := hv.open
  obtain ⟨n, hn⟩ : ∃ n, n = b.length := ⟨_, rfl⟩
  rw [← hn] at hl hcap HV ⊢
  have HN := Lib.hid hn
  clear hv hn
  by_cases h0 : n % 24 = 0
  · obtain ⟨m, rfl⟩ : ∃ m, n = 24 * m := ⟨n / 24, by omega⟩
    have HD : Hid (b.length % 24 = 0 ∧ m = b.length / 24) := by have := HN.out; exact ⟨by omega, by omega⟩
    have hm : m ≤ 250 := by omega
    clear h0
    go_enter Try.func32, Try.ntmps32
    go_wp2
    go_loopw [4, 5] (fun v i wr => ∃ (k : Nat) (L : List RelaM), i = .int .i64 (24 * (k : Int)) ∧ k ≤ m ∧ Hid (foldU (stepRela b) k = .ok L) ∧ Hid (OwR 4 encRela 84 wr w.heap.size v L) ∧ Hid (Below w.heap.size w wr)) (fun _ i _ => 24 * m - (intOf i).toNat)
    case atStart => exact ⟨0, [], rfl, Nat.zero_le _, rfl, OwR.nil _ _ _ _ _, Below.refl _ _⟩
    case round =>
      obtain ⟨k, L, rfl, hk, HF, HO, HB⟩ := hrel
      by_cases hlt : k < m
      · have HBS := Lib.hid (show Bs wr (.slice a (24 * m) cap) b by have := HV.out.mono HB.out; exact this)
        have HU0 := Lib.hid (uAt_any b (24 * k) 8 (z := 24 * (k : Int)) (y := 8) _ wr (by omega) rfl (by decide) (by have := HN.out; omega) (by have := HN.out; omega) HBS.out)
        have HU1 := Lib.hid (uAt_any b (24 * k + 8) 4 (z := 24 * (k : Int) + 8) (y := 4) _ wr (by omega) rfl (by decide) (by have := HN.out; omega) (by have := HN.out; omega) HBS.out)
        have HU2 := Lib.hid (uAt_any b (24 * k + 12) 4 (z := 24 * (k : Int) + 12) (y := 4) _ wr (by omega) rfl (by decide) (by have := HN.out; omega) (by have := HN.out; omega) HBS.out)
        have HU3 := Lib.hid (uAt_any b (24 * k + 16) 8 (z := 24 * (k : Int) + 16) (y := 8) _ wr (by omega) rfl (by decide) (by have := HN.out; omega) (by have := HN.out; omega) HBS.out)
        have HR : Hid (recR b k = ⟨numLE ((b.drop (24 * k)).take 8), numLE ((b.drop (24 * k + 8)).take 4), numLE ((b.drop (24 * k + 12)).take 4), wrap64 (numLE ((b.drop (24 * k + 16)).take 8) : Int)⟩) := rfl
        have hw1 := i64_small (numLE_cut b (24 * k + 8) 4)
        have hw2 := i64_small (numLE_cut b (24 * k + 12) 4)
        have HLL := Lib.hid (foldRela_len b k L HF.out)
        have HBs := Lib.hid HB.out.size
        generalize numLE ((b.drop (24 * k)).take 8) = n0 at *
        generalize numLE ((b.drop (24 * k + 8)).take 4) = n1 at *
        generalize numLE ((b.drop (24 * k + 12)).take 4) = n2 at *
        generalize numLE ((b.drop (24 * k + 16)).take 8) = n3 at *
        go_wp2_with fail
        refine HU0.out.mono ?_
        rintro e w1 ⟨rfl, rfl⟩
        go_wp2_with fail
        refine HU1.out.mono ?_
        rintro e w1 ⟨rfl, rfl⟩
        go_wp2_with fail
        refine HU2.out.mono ?_
        rintro e w1 ⟨rfl, rfl⟩
        go_wp2_with fail
        refine HU3.out.mono ?_
        rintro e w1 ⟨rfl, rfl⟩
        by_cases hbad : 2147483647 < (n2 : Int)
        · have HE := Lib.hid (relaRd_err HD.out.1 (by rw [← HD.out.2]; exact hlt) HF.out (by rw [HR.out]; exact hbad))
          go_wp2_with (((with_reducible show wpList _ _ _ (⟨none, .store _ _ _, _, _, _, _⟩ :: _) _ _); go_must (refine wpList_storeNew rfl rfl (by kernel_rfl) rfl (by simp [Value.oneCell']) ?_; intro w1 hh1 hb1; have e2 := cell_rec hh1 2; simp only [List.getElem?_toArray, List.getElem?_cons_succ, List.getElem?_cons_zero] at e2)))
          go_ret2
          exact ⟨_, by rw [HE.out]; rfl, by rw [HE.out]; exact OwR.nil _ _ _ _ _, HB.out.trans (hb1.mono HB.out.size)⟩
        · have HE := Lib.hid (relaRd_step HF.out (by rw [HR.out]; exact hbad))
          rw [HR.out] at HE
          go_wp2_with (first
            | ((with_reducible show wpList _ _ _ (⟨none, .store _ _ _, _, _, _, _⟩ :: _) _ _); go_must (refine wpList_storeNew rfl rfl (by kernel_rfl) rfl (by simp [Value.oneCell']) ?_; intro w1 hh1 hb1; have e0 := cell_rec hh1 0; have e1 := cell_rec hh1 1; have e2 := cell_rec hh1 2; have e3 := cell_rec hh1 3; simp only [List.getElem?_toArray, List.getElem?_cons_succ, List.getElem?_cons_zero] at e0 e1 e2 e3; have HO1 := Lib.hid (HO.out.mono hb1); have HB1 := Lib.hid (HB.out.trans (hb1.mono HB.out.size))))
            | ((with_reducible show wpList _ _ _ (⟨some 48, _, _, _, _, _⟩ :: _) _ _); go_must (refine wpList_pushR TRela HO1.out rfl rfl ⟨n0, n1, n2, wrap64 n3⟩ rfl rfl (by simp [Value.oneCell']) (by have := HLL.out; omega) (by have := HLL.out; omega) HB1.out.size ?_; intro v2 w2 hv2 _ hb2; have HO2 := Lib.hid hv2; have HB2 := Lib.hid (HB1.out.trans hb2); clear hv2 hb2 hh1 hb1 e0 e1 e2 e3)))
          go_roundw
          case rel =>
            first
              | exact ⟨k + 1, _, by go_num, by omega, HE.out, HO2.out, HB2.out⟩
              | ((repeat apply Exists.intro); exact ⟨⟨k + 1, _, by go_num, by omega, HE.out, HO2.out, HB2.out⟩, rfl⟩)
          case measure => simp [intOf] <;> omega
      · have hkm : k = m := by omega
        have HRD := Lib.hid (relaRd_ok HD.out.1 (hkm.trans HD.out.2) HF.out)
        clear HF hkm
        go_wp2
        go_ret2
        exact ⟨_, by rw [HRD.out]; rfl, by rw [HRD.out]; exact HO.out, HB.out⟩
  · have HR := Lib.hid (relaRd_form (b := b) (by rw [← HN.out]; exact h0))
    have hz : ((n : Int) % 24 == 0) = false := by simp; omega
    have hz2 : ((n : Int) % 24 != 0) = true := by simp; omega
    go_enter Try.func32, Try.ntmps32
    go_wp2
    go_ret2
    exact ⟨_, by rw [HR.out]; rfl, by rw [HR.out]; exact OwR.nil _ _ _ _ _, Below.refl _ _⟩
end Go.Proofs.Ytgknmmnffgikbaa
