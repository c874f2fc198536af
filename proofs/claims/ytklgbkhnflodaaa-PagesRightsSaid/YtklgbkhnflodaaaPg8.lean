/-
  Memory of pages: numbers are stored and loaded, bytes handed out.
-/
import Derived.Test.YtklgbkhnflodaaaPg7
namespace Go.Proofs.Ytklgbkhnflodaaa
open Go.RowKit Go.Fd

theorem szB_iff (n : Int) : szB n = true ↔ n = 1 ∨ n = 2 ∨ n = 4 ∨ n = 8 := by unfold szB; rw [decide_eq_true_iff]
theorem length_fixed' (x : Nat) (s : Nat) : (fixed x s).length = s := length_fixed x s

/-- Store: what there is behind it, and its error. -/
def storeR (V : Vw) (a : Nat) (n : Int) (x : Nat) : Vw × Int := if szB n = true then (if mayV V a n.toNat 2 = true then (setV V a (fixed x n.toNat), 0) else (V, 21)) else (V, 1)

theorem store_bad (v : Value) (w : World) (a : Nat) (n : Int) (x : Nat) (h : szB n = false) : Calls Try.prog 14 #[v, .int .u64 a, .int .i64 n, .int .u64 x] w fun e w' => e = .returned (.int .i64 1) ∧ w = w' := by
  go_enter Try.func14, Try.ntmps14
  go_wp2_with (go_at_call 25; go_must (refine (sized_any n _).mono ?_; rintro e w1 ⟨rfl, rfl⟩))
  go_ret
  exact ⟨rfl, rfl⟩
theorem store_nil (w : World) (a : Nat) (n : Int) (x : Nat) (h : szB n = true) : Calls Try.prog 14 #[.pointer none, .int .u64 a, .int .i64 n, .int .u64 x] w fun e w' => e = .returned (.int .i64 21) ∧ w = w' := by
  go_enter Try.func14, Try.ntmps14
  go_wp2_with (first
    | (go_at_call 25; go_must (refine (sized_any n _).mono ?_; rintro e w1 ⟨rfl, rfl⟩))
    | (go_at_call 21; go_must (refine (none_nil _).mono ?_; rintro e w1 ⟨rfl, rfl⟩)))
  go_ret
  exact ⟨rfl, rfl⟩
theorem load_bad (v : Value) (w : World) (a : Nat) (n : Int) (h : szB n = false) : Calls Try.prog 15 #[v, .int .u64 a, .int .i64 n] w fun e w' => e = .returned (.tuple #[.int .u64 0, .int .i64 1]) ∧ w = w' := by
  go_enter Try.func15, Try.ntmps15
  go_wp2_with (go_at_call 25; go_must (refine (sized_any n _).mono ?_; rintro e w1 ⟨rfl, rfl⟩))
  go_ret2
  exact ⟨rfl, rfl⟩
theorem load_nil (w : World) (a : Nat) (n : Int) (h : szB n = true) : Calls Try.prog 15 #[.pointer none, .int .u64 a, .int .i64 n] w fun e w' => e = .returned (.tuple #[.int .u64 0, .int .i64 21]) ∧ w = w' := by
  go_enter Try.func15, Try.ntmps15
  go_wp2_with (first
    | (go_at_call 25; go_must (refine (sized_any n _).mono ?_; rintro e w1 ⟨rfl, rfl⟩))
    | (go_at_call 21; go_must (refine (none_nil _).mono ?_; rintro e w1 ⟨rfl, rfl⟩)))
  go_ret2
  exact ⟨rfl, rfl⟩
theorem bytes_bad (v : Value) (w : World) (a : Nat) (n : Int) (h : n < 0 ∨ 1048576 < n) : Calls Try.prog 16 #[v, .int .u64 a, .int .i64 n] w fun e w' => e = .returned (.tuple #[.slice none 0 0, .int .i64 1]) ∧ w = w' := by
  by_cases h1 : n < 0
  all_goals
    go_enter Try.func16, Try.ntmps16
    go_wp2
    go_ret2
    exact ⟨rfl, rfl⟩
theorem bytes_nil (w : World) (a : Nat) (n : Int) (h1 : 0 ≤ n) (h2 : n ≤ 1048576) : Calls Try.prog 16 #[.pointer none, .int .u64 a, .int .i64 n] w fun e w' => e = .returned (.tuple #[.slice none 0 0, .int .i64 21]) ∧ w = w' := by
  go_enter Try.func16, Try.ntmps16
  go_wp2_with (first
    | (go_at_call 21; go_must (refine (none_nil _).mono ?_; rintro e w1 ⟨rfl, rfl⟩)))
  go_ret2
  exact ⟨rfl, rfl⟩

theorem byte_of (x k : Nat) : (((UInt8.ofNat (x / 256 ^ k)).toNat : Nat) : Int) = (x : Int) / 2 ^ (8 * k) % 256 := by
  rw [u8_of, show (2 : Int) ^ (8 * k) = ((256 ^ k : Nat) : Int) by rw [show (256 : Nat) = 2 ^ 8 from rfl, ← Nat.pow_mul]; simp]
  omega

set_option maxRecDepth 100000 in
theorem store_mem {base bp : Nat} {F : Nat → Prop} {V : Vw} (w : World) (h : Mem w base bp F V) (a : Nat) (ha : a < 18446744073709551616) (n : Int) (x : Nat) :
    Calls Try.prog 14 #[ptr bp, .int .u64 a, .int .i64 n, .int .u64 x] w fun e w' => e = .returned (.int .i64 (storeR V a n x).2) ∧ Mem w' base bp F (storeR V a n x).1 ∧ Stirs F w w' := by
  cases hs : szB n with
  | false =>
    have hr : storeR V a n x = (V, 1) := by unfold storeR; rw [hs]; rfl
    rw [hr]
    exact (store_bad _ w a n x hs).mono fun e w' ⟨he, hw⟩ => ⟨he, hw ▸ h, hw ▸ Stirs.refl _ _⟩
  | true =>
  have hn := (szB_iff n).1 hs
  obtain ⟨n, rfl⟩ := Int.eq_ofNat_of_zero_le (by omega : 0 ≤ n)
  have hn8 : n ≤ 8 := by omega
  clear hn
  have HM := Lib.hid h
  have HSZ := Lib.hid (sized_any n w)
  rw [hs] at HSZ
  clear h
  cases hm : mayV V a n 2 with
  | false =>
    have HR := Lib.hid (show storeR V a n x = (V, 21) by unfold storeR; rw [if_pos hs, Int.toNat_natCast, hm]; rfl)
    clear hs
    go_enter Try.func14, Try.ntmps14
    go_wp2_with (first
      | (go_at_call 25; go_must (refine HSZ.out.mono ?_; rintro e w1 ⟨rfl, rfl⟩))
      | (go_at_call 21; go_must (refine (none_mem _ HM.out).mono ?_; rintro e w1 ⟨rfl, rfl⟩))
      | (go_at_call 23; go_must (refine (may_mem _ HM.out a n 2 ha (by omega) (by omega)).mono ?_; rintro e w1 ⟨rfl, rfl⟩)))
    go_ret
    rw [HR.out]
    exact ⟨rfl, HM.out, Stirs.refl _ _⟩
  | true =>
    have HR := Lib.hid (show storeR V a n x = (setV V a (fixed x n), 0) by unfold storeR; rw [if_pos hs, Int.toNat_natCast, if_pos hm])
    have HI := Lib.hid ((mayV_iff V a n 2).1 hm)
    clear hs
    go_enter Try.func14, Try.ntmps14
    go_wp2_with (first
      | (go_at_call 25; go_must (refine HSZ.out.mono ?_; rintro e w1 ⟨rfl, rfl⟩))
      | (go_at_call 21; go_must (refine (none_mem _ HM.out).mono ?_; rintro e w1 ⟨rfl, rfl⟩))
      | (go_at_call 23; go_must (refine (may_mem _ HM.out a n 2 ha (by omega) (by omega)).mono ?_; rintro e w1 ⟨rfl, rfl⟩)))
    clear hm
    go_loopw [25] (fun i wr => ∃ k : Nat, i = .int .i64 k ∧ k ≤ n ∧ Hid (Mem wr base bp F (setV V a (fixed x k))) ∧ Hid (Stirs F w wr)) (fun i _ => n - (intOf i).toNat)
    case atStart => exact ⟨0, rfl, Nat.zero_le _, HM.out, Stirs.refl _ _⟩
    case round =>
      obtain ⟨k, rfl, hk, HK, HS⟩ := hrel
      by_cases hlt : k < n
      · have hak : a + k < 18446744073709551616 := by rcases HI.out with h | h <;> omega
        have HSM := Lib.hid (show (findV (setV V a (fixed x k)) ((a + k) / 4096)).isSome = true by
          rw [findV_setV_some]
          rcases HI.out with h | h
          · omega
          · have := h.2 k hlt
            cases hf : findV V ((a + k) / 4096) with
            | none => rw [hf] at this; cases this
            | some x => rfl)
        have HP := Lib.hid (put_mem wr HK.out (a + k) hak (UInt8.ofNat (x / 256 ^ k)) HSM.out)
        rw [byte_of] at HP
        have HFX := Lib.hid (fixed_snoc x k)
        have HL := Lib.hid (length_fixed x k)
        go_wp2_with (go_at_call 24; go_must (refine HP.out.mono ?_; rintro e w1 ⟨rfl, hm1, hs1⟩))
        go_roundw
        case rel => exact ⟨k + 1, by go_num, by omega, by rw [HFX.out, setV_snoc, HL.out]; exact hm1, HS.out.trans hs1 fun _ _ h => h⟩
        case measure => simp [intOf] <;> omega
      · obtain rfl : k = n := by omega
        go_wp2
        go_ret
        rw [HR.out]
        exact ⟨rfl, HK.out, HS.out⟩

/-- A byte of the memory. -/
def getV (V : Vw) (a : Nat) : UInt8 := match findV V (a / 4096) with
  | some x => x.2.2[a % 4096]?.getD 0
  | none => 0
def bytesV (V : Vw) (a n : Nat) : List UInt8 := (List.range n).map fun i => getV V (a + i)
theorem bytesV_len (V : Vw) (a n : Nat) : (bytesV V a n).length = n := by simp [bytesV]
theorem bytesV_succ (V : Vw) (a n : Nat) : bytesV V a (n + 1) = bytesV V a n ++ [getV V (a + n)] := by simp [bytesV, List.range_succ]
theorem bytesV_get (V : Vw) (a n k : Nat) (h : k < n) : (bytesV V a n)[k]?.getD 0 = getV V (a + k) := by simp [bytesV, h]

theorem get_mem {base bp : Nat} {F : Nat → Prop} {V : Vw} (w : World) (h : Mem w base bp F V) (a : Nat) (ha : a < 18446744073709551616) (he : (findV V (a / 4096)).isSome = true) :
    Calls Try.prog 26 #[ptr bp, .int .u64 a] w fun e w' => e = .returned (.int .u8 (getV V a).toNat) ∧ w = w' := by
  obtain ⟨bm, L, h1, rfl, h3⟩ := h
  have hg : getV (vw L) a = match findE L (a / 4096) with | some e => e.c[a % 4096]?.getD 0 | none => 0 := by
    unfold getV
    rw [findV_vw]
    cases findE L (a / 4096) <;> rfl
  rw [findV_vw] at he
  cases hf : findE L (a / 4096) with
  | none => rw [hf] at he; cases he
  | some e0 =>
    rw [hg, hf]
    exact get_is w h1 a ha e0 hf

theorem may_some {V : Vw} {a n r : Nat} (h : mayV V a n r = true) {k : Nat} (hk : k < n) : a + n ≤ 18446744073709551616 ∧ (findV V ((a + k) / 4096)).isSome = true := by
  rcases (mayV_iff V a n r).1 h with h | ⟨h1, h2⟩
  · omega
  · refine ⟨h1, ?_⟩
    have := h2 k hk
    cases hf : findV V ((a + k) / 4096) with
    | none => rw [hf] at this; cases this
    | some x => rfl

def loadR (V : Vw) (a : Nat) (n : Int) : Nat × Int := if szB n = true then (if mayV V a n.toNat 4 = true then (numLE (bytesV V a n.toNat), 0) else (0, 21)) else (0, 1)

set_option maxRecDepth 100000 in
theorem load_mem {base bp : Nat} {F : Nat → Prop} {V : Vw} (w : World) (h : Mem w base bp F V) (a : Nat) (ha : a < 18446744073709551616) (n : Int) :
    Calls Try.prog 15 #[ptr bp, .int .u64 a, .int .i64 n] w fun e w' => e = .returned (.tuple #[.int .u64 (loadR V a n).1, .int .i64 (loadR V a n).2]) ∧ w = w' := by
  cases hs : szB n with
  | false =>
    have hr : loadR V a n = (0, 1) := by unfold loadR; rw [hs]; rfl
    rw [hr]
    exact load_bad _ w a n hs
  | true =>
  have hn := (szB_iff n).1 hs
  obtain ⟨n, rfl⟩ := Int.eq_ofNat_of_zero_le (by omega : 0 ≤ n)
  have hn8 : n ≤ 8 := by omega
  clear hn
  have HM := Lib.hid h
  have HSZ := Lib.hid (sized_any n w)
  rw [hs] at HSZ
  clear h
  cases hm : mayV V a n 4 with
  | false =>
    have HR := Lib.hid (show loadR V a n = (0, 21) by unfold loadR; rw [if_pos hs, Int.toNat_natCast, hm]; rfl)
    clear hs
    go_enter Try.func15, Try.ntmps15
    go_wp2_with (first
      | (go_at_call 25; go_must (refine HSZ.out.mono ?_; rintro e w1 ⟨rfl, rfl⟩))
      | (go_at_call 21; go_must (refine (none_mem _ HM.out).mono ?_; rintro e w1 ⟨rfl, rfl⟩))
      | (go_at_call 23; go_must (refine (may_mem _ HM.out a n 4 ha (by omega) (by omega)).mono ?_; rintro e w1 ⟨rfl, rfl⟩)))
    go_ret2
    rw [HR.out]
    exact ⟨rfl, rfl⟩
  | true =>
    have HR := Lib.hid (show loadR V a n = (numLE (bytesV V a n), 0) by unfold loadR; rw [if_pos hs, Int.toNat_natCast, if_pos hm])
    have HI := Lib.hid (fun (k : Nat) (hk : k < n) => may_some hm hk)
    clear hs
    go_enter Try.func15, Try.ntmps15
    go_wp2_with (first
      | (go_at_call 25; go_must (refine HSZ.out.mono ?_; rintro e w1 ⟨rfl, rfl⟩))
      | (go_at_call 21; go_must (refine (none_mem _ HM.out).mono ?_; rintro e w1 ⟨rfl, rfl⟩))
      | (go_at_call 23; go_must (refine (may_mem _ HM.out a n 4 ha (by omega) (by omega)).mono ?_; rintro e w1 ⟨rfl, rfl⟩)))
    clear hm
    go_loop [8, 9] (fun x i => ∃ k : Nat, k ≤ n ∧ i = .int .i64 ((k : Int) - 1) ∧ x = .int .u64 (numLE ((bytesV V a n).drop k))) (fun _ i => (intOf i + 1).toNat)
    case atStart => exact ⟨n, Nat.le_refl _, rfl, by rw [List.drop_of_length_le (by rw [bytesV_len]; exact Nat.le_refl _)]; rfl⟩
    case round =>
      obtain ⟨k, hk, rfl, rfl⟩ := hrel
      by_cases h : 0 < k
      · obtain ⟨k, rfl⟩ : ∃ j, k = j + 1 := ⟨k - 1, by omega⟩
        have hi := HI.out k (by omega)
        have hak : a + k < 18446744073709551616 := by omega
        have HG := Lib.hid (get_mem w HM.out (a + k) hak hi.2)
        have hb : numLE ((bytesV V a n).drop (k + 1)) < 256 ^ 7 := numLE_lt' _ 7 (by rw [List.length_drop, bytesV_len]; omega)
        have HB := Lib.hid (numLE_drop (bytesV V a n) k (by rw [bytesV_len]; omega))
        rw [bytesV_get V a n k (by omega)] at HB
        have HO := Lib.hid (or_byte (numLE ((bytesV V a n).drop (k + 1))) (getV V (a + k)) hb)
        have hb' : (numLE ((bytesV V a n).drop (k + 1)) : Int) < 72057594037927936 := by omega
        have hu := (getV V (a + k)).toNat_lt
        clear hi hb
        generalize numLE ((bytesV V a n).drop (k + 1)) = m at *
        generalize getV V (a + k) = c at *
        go_wp2_with (go_at_call 26; go_must (refine HG.out.mono ?_; rintro e w1 ⟨rfl, rfl⟩))
        go_round
        case rel => exact ⟨k, by omega, by go_num, by rw [HB.out, ← HO.out]⟩
        case measure => simp [intOf] <;> omega
      · obtain rfl : k = 0 := by omega
        go_wp2
        go_ret2
        rw [HR.out]
        exact ⟨rfl, rfl⟩

def bytesR (V : Vw) (a : Nat) (n : Int) : List UInt8 × Int := if n < 0 ∨ 1048576 < n then ([], 1) else if mayV V a n.toNat 4 = true then (bytesV V a n.toNat, 0) else ([], 21)

theorem set_fill (A : List UInt8) (k n : Nat) (h : k < n) (hA : A.length = k) (x : UInt8) : (A ++ List.replicate (n - k) 0).set k x = A ++ [x] ++ List.replicate (n - (k + 1)) 0 := by
  subst hA
  rw [List.set_append_right _ _ (Nat.le_refl _), Nat.sub_self, show n - A.length = (n - (A.length + 1)) + 1 by omega, List.replicate_succ, List.set_cons_zero, List.append_assoc]
  rfl

set_option maxRecDepth 100000 in
theorem bytes_mem {base bp : Nat} {F : Nat → Prop} {V : Vw} (w : World) (h : Mem w base bp F V) (a : Nat) (ha : a < 18446744073709551616) (n : Int) :
    Calls Try.prog 16 #[ptr bp, .int .u64 a, .int .i64 n] w fun e w' => ∃ v, e = .returned (.tuple #[v, .int .i64 (bytesR V a n).2]) ∧ OB w' w.heap.size v (bytesR V a n).1 ∧ Below w.heap.size w w' := by
  by_cases hbad : n < 0 ∨ 1048576 < n
  · have hr : bytesR V a n = ([], 1) := by unfold bytesR; rw [if_pos hbad]
    rw [hr]
    exact (bytes_bad _ w a n hbad).mono fun e w' ⟨he, hw⟩ => ⟨_, he, OB.nil _ _, hw ▸ Below.refl _ _⟩
  obtain ⟨n, rfl⟩ := Int.eq_ofNat_of_zero_le (by omega : 0 ≤ n)
  have hn : n ≤ 1048576 := by omega
  have HM := Lib.hid h
  clear h
  cases hm : mayV V a n 4 with
  | false =>
    have HR := Lib.hid (show bytesR V a n = ([], 21) by unfold bytesR; rw [if_neg hbad, Int.toNat_natCast, hm]; rfl)
    clear hbad
    go_enter Try.func16, Try.ntmps16
    go_wp2_with (first
      | (go_at_call 21; go_must (refine (none_mem _ HM.out).mono ?_; rintro e w1 ⟨rfl, rfl⟩))
      | (go_at_call 23; go_must (refine (may_mem _ HM.out a n 4 ha (by omega) (by omega)).mono ?_; rintro e w1 ⟨rfl, rfl⟩)))
    go_ret2
    rw [HR.out]
    exact ⟨_, rfl, OB.nil _ _, Below.refl _ _⟩
  | true =>
    have HR := Lib.hid (show bytesR V a n = (bytesV V a n, 0) by unfold bytesR; rw [if_neg hbad, Int.toNat_natCast, if_pos hm])
    have HI := Lib.hid (fun (k : Nat) (hk : k < n) => may_some hm hk)
    clear hbad
    go_enter Try.func16, Try.ntmps16
    go_wp2_with (first
      | (go_at_call 21; go_must (refine (none_mem _ HM.out).mono ?_; rintro e w1 ⟨rfl, rfl⟩))
      | (go_at_call 23; go_must (refine (may_mem _ HM.out a n 4 ha (by omega) (by omega)).mono ?_; rintro e w1 ⟨rfl, rfl⟩))
      | (with_reducible show wpList _ _ _ (⟨some 28, _, _, _, _, _⟩ :: _) _ _; go_must (refine wpList_makeB n rfl rfl rfl rfl (by omega) ?_; intro v1 w1 hv1 hb1; obtain ⟨m, ad, cap, hmn, rfl, _, _⟩ := hv1.shape)))
    have hmn' : m = n := by have := hmn.out; rw [List.length_replicate] at this; exact this
    subst hmn'
    clear hm
    have HV1 := Lib.hid hv1
    clear hv1
    go_loopw [31] (fun i wr => ∃ k : Nat, i = .int .i64 k ∧ k ≤ m ∧ Hid (OB wr w.heap.size (.slice ad m cap) (bytesV V a k ++ List.replicate (m - k) 0)) ∧ Below w.heap.size w wr) (fun i _ => m - (intOf i).toNat)
    case atStart => exact ⟨0, rfl, Nat.zero_le _, by simpa [bytesV, Hid] using HV1.out, hb1⟩
    case round =>
      obtain ⟨k, rfl, hk, HK, hb⟩ := hrel
      by_cases hlt : k < m
      · have hi := HI.out k hlt
        have hak : a + k < 18446744073709551616 := by omega
        have HG := Lib.hid (get_mem wr (HM.out.mono hb) (a + k) hak hi.2)
        have HBS := Lib.hid (bytesV_succ V a k)
        have hlen : (bytesV V a k ++ List.replicate (m - k) 0).length = m := by rw [List.length_append, bytesV_len, List.length_replicate]; omega
        obtain ⟨g, cap', e1, hg0, hg1, _, _, hfz⟩ := HK.out.open (by omega)
        rw [hlen] at e1
        simp only [Value.slice.injEq, true_and] at e1
        obtain ⟨rfl, rfl⟩ := e1
        have hk1 := HK.out
        obtain ⟨v0, hc0⟩ : ∃ v0, wr.cell? ⟨g, k, none⟩ = some v0 := by
          have := HK.out.open (by omega)
          rw [hlen] at this
          obtain ⟨g', cap'', e2, _, _, _, hc, _⟩ := this
          simp only [Value.slice.injEq, true_and, Option.some.injEq, Addr.mk.injEq, and_true] at e2
          obtain ⟨rfl, rfl⟩ := e2
          exact ⟨_, hc k hlt⟩
        have hf0 := hfz k
        have HLEN := Lib.hid hlen
        clear hlen hfz hk1 hi
        generalize hc : getV V (a + k) = c at *
        clear hc
        go_wp2_with (go_at_call 26; go_must (refine HG.out.mono ?_; rintro e w1 ⟨rfl, rfl⟩))
        go_roundw
        case rel =>
          refine ⟨k + 1, by go_num, by omega, ?_, hb.setCell hg0 _⟩
          have h2 := OB.stored (l := bytesV V a k ++ List.replicate (m - k) 0) (w := wr) (base := w.heap.size) (g := g) (cap := cap) (by rw [HLEN.out]; exact HK.out) k c
          rw [HLEN.out, set_fill _ _ _ hlt (bytesV_len V a k), ← HBS.out] at h2
          exact h2
        case measure => simp [intOf] <;> omega
      · obtain rfl : k = m := by omega
        go_wp2
        go_ret2
        rw [HR.out]
        have := HK.out
        rw [Nat.sub_self, List.replicate_zero, List.append_nil] at this
        exact ⟨_, rfl, this, hb⟩
end Go.Proofs.Ytklgbkhnflodaaa
