/-
  Part 4 of 7: laws and walks for objectBackUpto_holds; no condition of its own.
-/
import Derived.Test.YtimnbnomaajmmaaOz3
import Derived.OrdersHeld
namespace Go.Proofs.Ytimnbnomaajmmaa
open Go.RowKit Go.Fd
def elf0 : ElfM := ⟨0, 0, 0, 0, [], []⟩
/-- The target whose number is n, up to the k-th. -/
def tgt (n : Nat) : Nat → Int
  | 0 => 0
  | k + 1 => if mach ((k : Int) + 1) = n then (k : Int) + 1 else tgt n k
def magicE : List UInt8 := [127, 69, 76, 70, 2, 1, 1]
def targetR (l : List UInt8) : Int := tgt (gN l 18 2) 3
/-- What is told of bytes by their length, their first ones and their target; 0: nothing. -/
def codeR (l : List UInt8) : Int := if 4194304 < l.length then 6 else if l.length < 64 then 2 else if l.take 7 ≠ magicE then 4 else if targetR l = 0 then 11 else 0
open Classical in
/-- What is read of bytes. -/
noncomputable def readE (l : List UInt8) : ElfM × Int :=
  if codeR l ≠ 0 then (elf0, codeR l) else if OkP l ∧ mayE (parseE l (targetR l)) = true ∧ fileB (parseE l (targetR l)) = l then (parseE l (targetR l), 0) else (elf0, 4)
theorem tgt_le (n : Nat) : ∀ k, 0 ≤ tgt n k ∧ tgt n k ≤ k := by
  intro k
  induction k with
  | zero => exact ⟨Int.le_refl _, Int.le_refl _⟩
  | succ k ih =>
    unfold tgt
    split
    · omega
    · omega
theorem atR_len (tab : List UInt8) (a : Int) : (atR tab a).1.length ≤ 128 := by
  unfold atR
  split
  · simp
  · split
    · simp
    · split
      · simp
      · next g _ hg => exact Nat.not_lt.1 hg
theorem secsP_get {l : List UInt8} {n i : Nat} {s : SecM} (h : (secsP l n)[i]? = some s) : s = secP l (tabP l) (gN l 40 8 + 64 * (i + 1)) := by
  unfold secsP at h
  rw [List.getElem?_map] at h
  rcases Nat.lt_or_ge i n with hi | hi
  · rw [List.getElem?_range hi] at h
    simpa using h.symm
  · rw [List.getElem?_eq_none (by simpa using hi)] at h
    cases h
theorem secP_name (l tab : List UInt8) (a : Nat) : (secP l tab a).name.length ≤ 9223372036854775807 := by
  unfold secP
  dsimp only
  have := atR_len tab ((gN l a 4 : Nat) : Int)
  omega
theorem secP_fits (l tab : List UInt8) (a : Nat) : (secP l tab a).fits := ⟨gN4 _ _, gN8 _ _, gN8 _ _, gN8 _ _, gN8 _ _, gN4 _ _, gN4 _ _, gN8 _ _⟩
theorem secP_data (l tab : List UInt8) (a : Nat) : (secP l tab a).data.length ≤ l.length := by
  show (if _ then _ else _ : List UInt8).length ≤ _
  split
  · simp
  · rw [List.length_take, List.length_drop]; omega
theorem dsum_le {l : List SecM} {m : Nat} (h : ∀ s ∈ l, s.data.length ≤ m) : dsum l ≤ l.length * m := by
  unfold dsum
  induction l with
  | nil => simp
  | cons x l ih =>
    rw [List.map_cons, List.sum_cons, List.length_cons, Nat.succ_mul]
    have := h x (by simp)
    have := ih fun s hs => h s (by simp [hs])
    omega
theorem parse_ok {l : List UInt8} (hl : l.length ≤ 4194304) (h : OkP l) : ElfOk (parseE l (targetR l)) := by
  have hs : ∀ s ∈ secsP l (nsecsP l), ∃ a, s = secP l (tabP l) a := fun s hs => by
    obtain ⟨i, hi⟩ := List.mem_iff_getElem?.1 hs
    exact ⟨_, secsP_get hi⟩
  have hg : ∀ s ∈ segsP l (nsegsP l), s.fits := fun s hs => by
    unfold segsP at hs
    obtain ⟨i, -, rfl⟩ := List.mem_map.1 hs
    exact segP_fits _ _
  have h1 := gN2 l 16
  have h2 := tgt_le (gN l 18 2) 3
  have hn : nsecsP l ≤ 250 := by have := h.n3; unfold nsecsP; omega
  have hm : nsegsP l ≤ 16 := h.n1
  refine ⟨⟨?_, ?_, gN4 _ _, gN8 _ _, fun s h => ?_, hg⟩, ?_, fun s h => ?_, ?_, ?_⟩
  · show -9223372036854775808 ≤ ((gN l 16 2 : Nat) : Int) ∧ ((gN l 16 2 : Nat) : Int) < 9223372036854775808
    omega
  · show -9223372036854775808 ≤ targetR l ∧ targetR l < 9223372036854775808
    unfold targetR; omega
  · obtain ⟨a, rfl⟩ := hs s h
    exact secP_fits _ _ _
  · show dsum (secsP l (nsecsP l)) ≤ _
    have := dsum_le (l := secsP l (nsecsP l)) (m := 4194304) fun s h => by
      obtain ⟨a, rfl⟩ := hs s h
      exact Nat.le_trans (secP_data _ _ _) hl
    rw [secsP_len] at this
    have := Nat.mul_le_mul_right 4194304 hn
    omega
  · obtain ⟨a, rfl⟩ := hs s h
    exact secP_name _ _ _
  · show (secsP l (nsecsP l)).length ≤ _
    rw [secsP_len]; omega
  · show (segsP l (nsegsP l)).length ≤ _
    rw [segsP_len]; omega
/-- The same, and no two sections' bytes lie in one block. -/
def RdResA (l : List UInt8) (base : Nat) (r : Ending) (w : World) : Prop := ∃ L sv gv, r = .returned (.tuple #[elfV (readE l).1 sv gv, .int .i64 (readE l).2]) ∧ ElfOwn w base (readE l).1 L sv gv ∧ ApartS L
theorem ElfOwn.zero (w : World) (base : Nat) : ElfOwn w base elf0 [] (.slice none 0 0) (.slice none 0 0) := ⟨rfl, OwR.nil _ _ _ _ _, OwR.nil _ _ _ _ _, fun p hp => by cases hp⟩
set_option maxRecDepth 100000 in
theorem RdResA.code {l : List UInt8} {base : Nat} {w : World} {x : Int} (h : readE l = (elf0, x)) : RdResA l base (.returned (.tuple #[.agg elfZ, .int .i64 x])) w := by
  refine ⟨[], .slice none 0 0, .slice none 0 0, ?_, ?_⟩
  · rw [h]
    rfl
  · rw [h]
    exact ⟨ElfOwn.zero _ _, List.Pairwise.nil⟩
/-- A block of one error's number. -/
theorem wpList_allocErr {ops : Array Oper} {rest : List Oper} {Q : Exit → Act → World → Prop} {a : Act} {w : World} {d : Option Tmp} {ty : TypeId} {pos : String} {aft : Array Edge}
    (h : ∀ w1, w1.heap[w.heap.size]? = some (.cells #[.int .i64 0] 30 (0, 0)) → Below w.heap.size w w1 → w.heap.size < w1.heap.size → wpList Try.prog ops Q rest (a.put d (.pointer (some ⟨w.heap.size, 0, none⟩))) w1) :
    wpList Try.prog ops Q (⟨d, .alloc 30, ty, pos, aft, none⟩ :: rest) a w :=
  wpList_val rfl (by kernel_rfl) (h (w.alloc (.cells #[.int .i64 0] 30)) (heap_alloc_last w _) (below_alloc w _) (by rw [World.size_alloc]; omega))
theorem Bs.take {w : World} {ad : Option Addr} {m cap k : Nat} {l : List UInt8} (h : Bs w (.slice ad m cap) l) (hk : k ≤ m) : Bs w (.slice ad k cap) (l.take k) := by
  obtain ⟨h1, a, c, h2, h3, h0, h4⟩ := h
  injection h2 with e1 e2 e3
  subst e1 e3
  refine ⟨by simp, ad, cap, by rw [List.length_take, Nat.min_eq_left (by omega)], by rw [List.length_take]; omega, h0, fun j hj => ?_⟩
  have hj' : j < k ∧ j < l.length := by rw [List.length_map, List.length_take] at hj; omega
  obtain ⟨b, off, e, hc⟩ := h4 j (by simpa using hj'.2)
  refine ⟨b, off, e, hc.trans ?_⟩
  rw [List.map_take, List.getElem?_take, if_pos hj'.1]
attribute [local irreducible] gN okB inB atR segOk secOk segP secP tabP readE
set_option maxHeartbeats 8000000 in
set_option maxRecDepth 100000 in
theorem readEA_any (l : List UInt8) (v : Value) (w : World) (hl : l.length ≤ 1000000000) (hv : Bs w v l) :
    Calls Try.prog 30 #[v] w fun r w' => RdResA l w.heap.size r w' ∧ Below w.heap.size w w' := by
  have HV := Lib.hid hv
  obtain ⟨m, ad, cap, hm, rfl, hmc, _⟩ := hv.shape
  have HL9 := Lib.hid hl
  have hm9 : m ≤ 1000000000 := by have := hm.out; omega
  have HC6 := Lib.hid (show 4194304 < m → readE l = (elf0, 6) from fun h => by
    have h1 := hm.out
    unfold readE codeR
    simp only [if_pos (show 4194304 < l.length by omega)]
    rw [if_pos (by decide)])
  have HC2 := Lib.hid (show ¬ 4194304 < m → m < 64 → readE l = (elf0, 2) from fun h h' => by
    have h1 := hm.out
    unfold readE codeR
    simp only [if_neg (show ¬ 4194304 < l.length by omega), if_pos (show l.length < 64 by omega)]
    rw [if_pos (by decide)])
  have HC4 := Lib.hid (show ¬ 4194304 < m → ¬ m < 64 → ¬ l.take 7 = magicE → readE l = (elf0, 4) from fun h h' h'' => by
    have h1 := hm.out
    unfold readE codeR
    simp only [if_neg (show ¬ 4194304 < l.length by omega), if_neg (show ¬ l.length < 64 by omega)]
    rw [if_pos h'']
    rw [if_pos (by decide)])
  clear hv
  by_cases h6 : 4194304 < m
  · have HR := Lib.hid (HC6.out h6)
    have d1 : decide ((4194304 : Int) < (m : Int)) = true := by simp; omega
    clear HC6
    go_enter_defers Try.func30, Try.ntmps30
    go_wp2_with (first
      | ((with_reducible show wpList _ _ _ (⟨some 2, .alloc _, _, _, _, _⟩ :: _) _ _); go_must (refine wpList_allocElf ?_; intro w1 hx1 hb1 hs1; have HX1 := Lib.hid hx1; have HB1 := Lib.hid hb1; clear hx1 hb1))
      | ((with_reducible show wpList _ _ _ (⟨some 3, .alloc _, _, _, _, _⟩ :: _) _ _); go_must (refine wpList_allocErr ?_; intro w2 hx2 hb2 hs2; have HX2 := Lib.hid hx2; have HX12 := Lib.hid (heap_below hb2 HX1.out); have HB2 := Lib.hid (HB1.out.trans (hb2.mono HB1.out.size)); clear hx2 hb2))
      | ((with_reducible show wpList _ _ _ (⟨none, .store _ (.tmp 2) _, _, _, _, _⟩ :: _) _ _); go_must (refine wpList_storeElfS HX12.out rfl rfl rfl rfl (by simp [Value.oneCell']) ?_; intro w3 hh3 hs3; have HH3 := Lib.hid hh3; have HX23 := Lib.hid (hs3.kept HX2.out (show ¬ w1.heap.size = w.heap.size by omega)); have HB3 := Lib.hid (HB2.out.trans (hs3.below HB2.out.size (fun j hj => by rw [hj]; exact Nat.le_refl _))); clear hh3 hs3))
      | ((with_reducible show wpList _ _ _ (⟨none, .store _ (.tmp 3) _, _, _, _, _⟩ :: _) _ _); go_must (refine wpList_setI HX23.out (show 0 < 1 by decide) rfl rfl (fun w => by kernel_rfl) ?_; intro w4 hh4 hs4; have HH4 := Lib.hid hh4; have HH34 := Lib.hid (hs4.kept HH3.out (show ¬ w.heap.size = w1.heap.size by omega)); have HB4 := Lib.hid (HB3.out.trans (hs4.below HB3.out.size (fun j hj => by rw [hj]; exact HB1.out.size))); clear hh4 hs4)))
    have c0 : w4.cell? ⟨w.heap.size, 0, none⟩ = some (.int .i64 0) := cell_rec HH34.out 0
    have c1 : w4.cell? ⟨w.heap.size, 1, none⟩ = some (.int .i64 0) := cell_rec HH34.out 1
    have c2 : w4.cell? ⟨w.heap.size, 2, none⟩ = some (.int .u32 0) := cell_rec HH34.out 2
    have c3 : w4.cell? ⟨w.heap.size, 3, none⟩ = some (.int .u64 0) := cell_rec HH34.out 3
    have c4 : w4.cell? ⟨w.heap.size, 4, none⟩ = some (.slice none 0 0) := cell_rec HH34.out 4
    have c5 : w4.cell? ⟨w.heap.size, 5, none⟩ = some (.slice none 0 0) := cell_rec HH34.out 5
    have d0 : w4.cell? ⟨w1.heap.size, 0, none⟩ = some (.int .i64 6) := cell_rec HH4.out 0
    refine leaves_cons (f := 64) (args := #[.pointer (some ⟨w.heap.size, 0, none⟩), .pointer (some ⟨w1.heap.size, 0, none⟩)]) (by simp) (by simp [go_sem]) ?_
    refine (catch_no _ _ _).mono ?_
    rintro e u' w'' ⟨rfl, rfl, rfl⟩
    simp [Leaves, settle, results, Try.results30, go_sem, c0, c1, c2, c3, c4, c5, d0]
    exact ⟨RdResA.code HR.out, HB4.out⟩
  · have d1 : decide ((4194304 : Int) < (m : Int)) = false := by simp; omega
    have hm4 : m ≤ 4194304 := Nat.not_lt.1 h6
    by_cases h2 : m < 64
    · have HR := Lib.hid (HC2.out h6 h2)
      have d2 : decide ((m : Int) < 64) = true := by simp; omega
      clear HC6 HC2 HC4 h6
      go_enter_defers Try.func30, Try.ntmps30
      go_wp2_with (first
        | ((with_reducible show wpList _ _ _ (⟨some 2, .alloc _, _, _, _, _⟩ :: _) _ _); go_must (refine wpList_allocElf ?_; intro w1 hx1 hb1 hs1; have HX1 := Lib.hid hx1; have HB1 := Lib.hid hb1; clear hx1 hb1))
        | ((with_reducible show wpList _ _ _ (⟨some 3, .alloc _, _, _, _, _⟩ :: _) _ _); go_must (refine wpList_allocErr ?_; intro w2 hx2 hb2 hs2; have HX2 := Lib.hid hx2; have HX12 := Lib.hid (heap_below hb2 HX1.out); have HB2 := Lib.hid (HB1.out.trans (hb2.mono HB1.out.size)); clear hx2 hb2))
        | ((with_reducible show wpList _ _ _ (⟨none, .store _ (.tmp 2) _, _, _, _, _⟩ :: _) _ _); go_must (refine wpList_storeElfS HX12.out rfl rfl rfl rfl (by simp [Value.oneCell']) ?_; intro w3 hh3 hs3; have HH3 := Lib.hid hh3; have HX23 := Lib.hid (hs3.kept HX2.out (show ¬ w1.heap.size = w.heap.size by omega)); have HB3 := Lib.hid (HB2.out.trans (hs3.below HB2.out.size (fun j hj => by rw [hj]; exact Nat.le_refl _))); clear hh3 hs3))
        | ((with_reducible show wpList _ _ _ (⟨none, .store _ (.tmp 3) _, _, _, _, _⟩ :: _) _ _); go_must (refine wpList_setI HX23.out (show 0 < 1 by decide) rfl rfl (fun w => by kernel_rfl) ?_; intro w4 hh4 hs4; have HH4 := Lib.hid hh4; have HH34 := Lib.hid (hs4.kept HH3.out (show ¬ w.heap.size = w1.heap.size by omega)); have HB4 := Lib.hid (HB3.out.trans (hs4.below HB3.out.size (fun j hj => by rw [hj]; exact HB1.out.size))); clear hh4 hs4)))
      have c0 : w4.cell? ⟨w.heap.size, 0, none⟩ = some (.int .i64 0) := cell_rec HH34.out 0
      have c1 : w4.cell? ⟨w.heap.size, 1, none⟩ = some (.int .i64 0) := cell_rec HH34.out 1
      have c2 : w4.cell? ⟨w.heap.size, 2, none⟩ = some (.int .u32 0) := cell_rec HH34.out 2
      have c3 : w4.cell? ⟨w.heap.size, 3, none⟩ = some (.int .u64 0) := cell_rec HH34.out 3
      have c4 : w4.cell? ⟨w.heap.size, 4, none⟩ = some (.slice none 0 0) := cell_rec HH34.out 4
      have c5 : w4.cell? ⟨w.heap.size, 5, none⟩ = some (.slice none 0 0) := cell_rec HH34.out 5
      have d0 : w4.cell? ⟨w1.heap.size, 0, none⟩ = some (.int .i64 2) := cell_rec HH4.out 0
      refine leaves_cons (f := 64) (args := #[.pointer (some ⟨w.heap.size, 0, none⟩), .pointer (some ⟨w1.heap.size, 0, none⟩)]) (by simp) (by simp [go_sem]) ?_
      refine (catch_no _ _ _).mono ?_
      rintro e u' w'' ⟨rfl, rfl, rfl⟩
      simp [Leaves, settle, results, Try.results30, go_sem, c0, c1, c2, c3, c4, c5, d0]
      exact ⟨RdResA.code HR.out, HB4.out⟩
    · have d2 : decide ((m : Int) < 64) = false := by simp; omega
      have hm64 : 64 ≤ m := Nat.not_lt.1 h2
      have HS7 : Hid (∀ wx, Below w.heap.size w wx → (convert 29 9 (.slice ad 7 cap)).run Try.prog wx = .ok (.string ⟨(l.take 7).toArray⟩) wx) := Lib.hid (fun wx hwx => run_str ((HV.out.mono hwx).take (by omega)))
      by_cases h4 : l.take 7 = magicE
      · have d4 : (l.take 7 == [127, 69, 76, 70, 2, 1, 1]) = true := by rw [beq_iff_eq]; exact h4
        have d4' : (l.take 7 != [127, 69, 76, 70, 2, 1, 1]) = false := by rw [h4]; rfl
        have HCD : Hid (codeR l = if targetR l = 0 then 11 else 0) := Lib.hid (by
          have h1 := hm.out
          unfold codeR
          rw [if_neg (show ¬ 4194304 < l.length by omega), if_neg (show ¬ l.length < 64 by omega), if_neg (fun h => h h4)])
        have HU18 : Hid (∀ wx, Below w.heap.size w wx → Calls Try.prog 66 #[.slice ad m cap, .int .i64 18, .int .i64 2] wx fun r w' => r = .returned (.int .u64 (gN l 18 2 : Nat)) ∧ wx = w') := Lib.hid (fun wx hwx => (ruN l 18 2 _ wx HL9.out (HV.out.mono hwx)).mono fun r w' ⟨hw, h⟩ => by
          have h1 := hm.out
          rw [okB_iff sz2, show decide (18 + 2 ≤ l.length) = true by simp; omega] at h
          rcases h with ⟨_, h⟩ | ⟨h, _⟩
          · exact ⟨h, hw⟩
          · cases h)
        have HTG : Hid (targetR l = tgt (gN l 18 2) 3) := rfl
        have b18 := gN2 l 18
        generalize l.take 7 = t7 at *
        clear HC6 HC2 HC4 h6 h2 h4
        go_enter_defers Try.func30, Try.ntmps30
        go_wp2_with (first
          | ((with_reducible show wpList _ _ _ (⟨some 2, .alloc _, _, _, _, _⟩ :: _) _ _); go_must (refine wpList_allocElf ?_; intro w1 hx1 hb1 hs1; have HX1 := Lib.hid hx1; have HB1 := Lib.hid hb1; clear hx1 hb1))
          | ((with_reducible show wpList _ _ _ (⟨some 3, .alloc _, _, _, _, _⟩ :: _) _ _); go_must (refine wpList_allocErr ?_; intro w2 hx2 hb2 hs2; have HX2 := Lib.hid hx2; have HX12 := Lib.hid (heap_below hb2 HX1.out); have HB2 := Lib.hid (HB1.out.trans (hb2.mono HB1.out.size)); have hs7 := HS7.out _ HB2.out; clear hx2 hb2)))
        clear hs7 d4 d4' HS7
        generalize gN l 18 2 = n18 at *
        go_loop [4, 5] (fun t i => ∃ k : Nat, i = .int .i64 ((k : Int) + 1) ∧ k ≤ 3 ∧ t = .int .i64 (tgt n18 k)) (fun _ i => 4 - (intOf i).toNat)
        case atStart => exact ⟨0, rfl, by omega, rfl⟩
        case round =>
          obtain ⟨k, rfl, hk, rfl⟩ := hrel
          by_cases hk3 : k < 3
          · have HT1 : Hid (tgt n18 (k + 1) = if mach ((k : Int) + 1) = n18 then (k : Int) + 1 else tgt n18 k) := rfl
            have HM := Lib.hid (fun wx => machine_any ((k : Int) + 1) wx)
            have hm243 := mach_le ((k : Int) + 1)
            by_cases hmk : mach ((k : Int) + 1) = n18
            · have HT2 : Hid (tgt n18 (k + 1) = (k : Int) + 1) := Lib.hid (by rw [HT1.out, if_pos hmk])
              have q1 : ((mach ((k : Int) + 1) : Nat) : Int) = (n18 : Int) := by rw [hmk]
              have q2 : (((mach ((k : Int) + 1) : Nat) : Int) == (n18 : Int)) = true := by rw [q1]; simp
              have HQ := Lib.hid hmk
              clear hmk q1
              go_wp2_with (first
                | (go_at_call 65; refine (HM.out _).mono ?_; rintro e wu ⟨rfl, rfl⟩)
                | (go_at_call 66; refine (HU18.out _ HB2.out).mono ?_; rintro e wu ⟨rfl, rfl⟩))
              go_round
              case rel => exact ⟨k + 1, by go_num, by omega, by rw [HT2.out]⟩
              case measure => simp [intOf] <;> omega
            · have HT2 : Hid (tgt n18 (k + 1) = tgt n18 k) := Lib.hid (by rw [HT1.out, if_neg hmk])
              have q2 : (((mach ((k : Int) + 1) : Nat) : Int) == (n18 : Int)) = false := by rw [beq_eq_false_iff_ne]; omega
              have HQ := Lib.hid hmk
              clear hmk
              go_wp2_with (first
                | (go_at_call 65; refine (HM.out _).mono ?_; rintro e wu ⟨rfl, rfl⟩)
                | (go_at_call 66; refine (HU18.out _ HB2.out).mono ?_; rintro e wu ⟨rfl, rfl⟩))
              go_round
              case rel => exact ⟨k + 1, by go_num, by omega, by rw [HT2.out]⟩
              case measure => simp [intOf] <;> omega
          · obtain rfl : k = 3 := by omega
            have HT3 : Hid (tgt n18 3 = targetR l) := Lib.hid HTG.out.symm
            have HTB := Lib.hid (tgt_le n18 3)
            generalize tgt n18 3 = tg at *
            by_cases ht : tg = 0
            · have HR := Lib.hid (show readE l = (elf0, 11) by
                have h1 := HCD.out
                rw [← HT3.out, if_pos ht] at h1
                unfold readE
                rw [h1, if_pos (by decide)])
              have t1 : (tg == (0 : Int)) = true := by rw [ht]; rfl
              have HZ := Lib.hid ht
              clear ht
              go_wp2_with (first
                | ((with_reducible show wpList _ _ _ (⟨none, .store _ (.tmp 2) _, _, _, _, _⟩ :: _) _ _); go_must (refine wpList_storeElfS HX12.out rfl rfl rfl rfl (by simp [Value.oneCell']) ?_; intro w3 hh3 hs3; have HH3 := Lib.hid hh3; have HX23 := Lib.hid (hs3.kept HX2.out (show ¬ w1.heap.size = w.heap.size by omega)); have HB3 := Lib.hid (HB2.out.trans (hs3.below HB2.out.size (fun j hj => by rw [hj]; exact Nat.le_refl _))); clear hh3 hs3))
                | ((with_reducible show wpList _ _ _ (⟨none, .store _ (.tmp 3) _, _, _, _, _⟩ :: _) _ _); go_must (refine wpList_setI HX23.out (show 0 < 1 by decide) rfl rfl (fun w => by kernel_rfl) ?_; intro w4 hh4 hs4; have HH4 := Lib.hid hh4; have HH34 := Lib.hid (hs4.kept HH3.out (show ¬ w.heap.size = w1.heap.size by omega)); have HB4 := Lib.hid (HB3.out.trans (hs4.below HB3.out.size (fun j hj => by rw [hj]; exact HB1.out.size))); clear hh4 hs4)))
              have c0 : w4.cell? ⟨w.heap.size, 0, none⟩ = some (.int .i64 0) := cell_rec HH34.out 0
              have c1 : w4.cell? ⟨w.heap.size, 1, none⟩ = some (.int .i64 0) := cell_rec HH34.out 1
              have c2 : w4.cell? ⟨w.heap.size, 2, none⟩ = some (.int .u32 0) := cell_rec HH34.out 2
              have c3 : w4.cell? ⟨w.heap.size, 3, none⟩ = some (.int .u64 0) := cell_rec HH34.out 3
              have c4 : w4.cell? ⟨w.heap.size, 4, none⟩ = some (.slice none 0 0) := cell_rec HH34.out 4
              have c5 : w4.cell? ⟨w.heap.size, 5, none⟩ = some (.slice none 0 0) := cell_rec HH34.out 5
              have d0 : w4.cell? ⟨w1.heap.size, 0, none⟩ = some (.int .i64 11) := cell_rec HH4.out 0
              refine leaves_cons (f := 64) (args := #[.pointer (some ⟨w.heap.size, 0, none⟩), .pointer (some ⟨w1.heap.size, 0, none⟩)]) (by simp) (by simp [go_sem]) ?_
              refine (catch_no _ _ _).mono ?_
              rintro e u' w'' ⟨rfl, rfl, rfl⟩
              simp [Leaves, settle, results, Try.results30, go_sem, c0, c1, c2, c3, c4, c5, d0]
              exact ⟨RdResA.code HR.out, HB4.out⟩
            · have HCD0 := Lib.hid (show codeR l = 0 by
                have h1 := HCD.out
                rw [← HT3.out, if_neg ht] at h1
                exact h1)
              have t1 : (tg == (0 : Int)) = false := by rw [beq_eq_false_iff_ne]; exact ht
              have HZ := Lib.hid ht
              have HROK := Lib.hid (show OkP l → mayE (parseE l tg) = true → fileB (parseE l tg) = l → readE l = (parseE l tg, 0) from fun h1 h2 h3 => by
                unfold readE
                rw [HT3.out] at h2 h3 ⊢
                rw [if_neg (fun h => h HCD0.out), if_pos ⟨h1, h2, h3⟩])
              have HRNO := Lib.hid (show ¬ (OkP l ∧ mayE (parseE l tg) = true ∧ fileB (parseE l tg) = l) → readE l = (elf0, 4) from fun h1 => by
                unfold readE
                rw [HT3.out] at h1
                rw [if_neg (fun h => h HCD0.out), if_neg h1])
              have HPOK := Lib.hid (show OkP l → ElfOk (parseE l tg) from fun h => by rw [HT3.out]; exact parse_ok (by have := hm.out; omega) h)
              have HALL := Lib.hid (show Calls Try.prog 67 #[.slice ad m cap, .int .i64 tg] w2 fun r w' => (OkP l ∧ (∃ L sv gv, r = .returned (elfV (parseE l tg) sv gv) ∧ ElfOwn w' w2.heap.size (parseE l tg) L sv gv ∧ ApartS L) ∨ ¬ OkP l ∧ r = .panicked upF) ∧ Below w2.heap.size w2 w' from all_any l tg _ w2 (by have := hm.out; omega) (by have := hm.out; omega) (HV.out.mono HB2.out))
              clear ht HCD
              generalize parseE l tg = pe at *
              go_wp2_with (fail)
              refine HALL.out.mono ?_
              rintro e wA ⟨⟨hok, L, sv, gv, rfl, hown, hap⟩ | ⟨hno, rfl⟩, hbA⟩
              all_goals try have HAP := Lib.hid hap
              · have HBA := Lib.hid hbA
                have HXA2 := Lib.hid (heap_below hbA HX12.out)
                have HXA3 := Lib.hid (heap_below hbA HX2.out)
                have HBAA := Lib.hid (HB2.out.trans (hbA.mono HB2.out.size))
                obtain ⟨sn, sa, sc, -, rfl, _, _⟩ := hown.so.shape
                obtain ⟨gn, ga, gc, -, rfl, _, _⟩ := hown.go.shape
                have HOWN := Lib.hid (show ElfOwn wA w.heap.size pe L (.slice sa sn sc) (.slice ga gn gc) from ⟨hown.secs, hown.so.rebase HB2.out.size, hown.go.rebase HB2.out.size, fun p hp => (hown.data p hp).base HB2.out.size⟩)
                have HOKP := Lib.hid hok
                clear hbA hown hok
                go_wp2_with ((with_reducible show wpList _ _ _ (⟨none, .store _ (.tmp 2) (.tmp 40), _, _, _, _⟩ :: _) _ _); go_must (refine wpList_storeElfS HXA2.out rfl rfl rfl rfl (by simp [Value.oneCell']) ?_; intro w3 hh3 hs3; have HH3 := Lib.hid hh3; have HX33 := Lib.hid (hs3.kept HXA3.out (show ¬ w1.heap.size = w.heap.size by omega)); have HB3 := Lib.hid (HBAA.out.trans (hs3.below HBAA.out.size (fun j hj => by rw [hj]; exact Nat.le_refl _))); have HS3 := Lib.hid hs3; obtain ⟨c0, c1, c2, c3, c4, c5⟩ := elf_box HH3.out; clear hh3 hs3))
                have HOW3 := Lib.hid (show ElfOwn w3 w.heap.size pe L (.slice sa sn sc) (.slice ga gn gc) from ⟨HOWN.out.secs, owns_stirs HOWN.out.so HS3.out (own_ne HOWN.out.so HXA2.out (by decide)), owns_stirs HOWN.out.go HS3.out (own_ne HOWN.out.go HXA2.out (by decide)), fun p hp => owns_stirs (HOWN.out.data p hp) HS3.out (own_ne (HOWN.out.data p hp) HXA2.out (by decide))⟩)
                have HW := writeE_any pe L _ _ w3 HOW3.out.at (HPOK.out HOKP.out)
                clear HX12 HX2 HALL
                cases hmay : mayE pe with
                | false =>
                  rw [fileW_no hmay] at HW
                  have HMAY := Lib.hid hmay
                  clear hmay
                  refine HW.mono ?_
                  rintro e wB ⟨v9, rfl, hov, hbB⟩
                  obtain ⟨vn, va, vc, -, rfl, _, _⟩ := hov.shape
                  have HBB := Lib.hid hbB
                  clear hov hbB
                  go_wp2_with (go_at_call 68; refine (must_no _).mono ?_; rintro e wu ⟨rfl, rfl⟩)
                  have HPX := Lib.hid (heap_below HBB.out HH3.out)
                  have HPY := Lib.hid (heap_below HBB.out HX33.out)
                  have HBL := Lib.hid (HB3.out.trans (HBB.out.mono HB3.out.size))
                  have HRR := Lib.hid (HRNO.out (fun h => by have := HMAY.out; rw [h.2.1] at this; cases this))
                  clear c0 c1 c2 c3 c4 c5
                  refine leaves_cons (f := 64) (args := #[.pointer (some ⟨w.heap.size, 0, none⟩), .pointer (some ⟨w1.heap.size, 0, none⟩)]) (by simp) (by simp [go_sem]) ?_
                  refine (catch_up w.heap.size w1.heap.size _ _ [] _ HPX.out rfl HPY.out (by omega)).mono ?_
                  rintro e u' wq ⟨rfl, rfl, hq1, hq2, hq3⟩
                  have c0 : wq.cell? ⟨w.heap.size, 0, none⟩ = some (.int .i64 0) := cell_rec hq1 0
                  have c1 : wq.cell? ⟨w.heap.size, 1, none⟩ = some (.int .i64 0) := cell_rec hq1 1
                  have c2 : wq.cell? ⟨w.heap.size, 2, none⟩ = some (.int .u32 0) := cell_rec hq1 2
                  have c3 : wq.cell? ⟨w.heap.size, 3, none⟩ = some (.int .u64 0) := cell_rec hq1 3
                  have c4 : wq.cell? ⟨w.heap.size, 4, none⟩ = some (.slice none 0 0) := cell_rec hq1 4
                  have c5 : wq.cell? ⟨w.heap.size, 5, none⟩ = some (.slice none 0 0) := cell_rec hq1 5
                  have d0 : wq.cell? ⟨w1.heap.size, 0, none⟩ = some (.int .i64 4) := cell_rec hq2 0
                  have HBQ := Lib.hid (HBL.out.trans (hq3.below HBL.out.size (fun j hj => by rcases hj with rfl | rfl <;> omega)))
                  clear hq1 hq2 hq3
                  simp [Leaves, settle, results, Try.results30, go_sem, c0, c1, c2, c3, c4, c5, d0]
                  exact ⟨RdResA.code HRR.out, HBQ.out⟩
                | true =>
                  rw [fileW_ok hmay] at HW
                  have HMAY := Lib.hid hmay
                  clear hmay
                  refine HW.mono ?_
                  rintro e wB ⟨v9, rfl, hov, hbB⟩
                  have HOV := Lib.hid hov
                  have HBB := Lib.hid hbB
                  have HEQ := Lib.hid (bytesEq_any _ _ _ _ wB hov.bs (HV.out.mono (HB3.out.trans (hbB.mono HB3.out.size))))
                  obtain ⟨vn, va, vc, -, rfl, _, _⟩ := hov.shape
                  clear hov hbB
                  cases hq0 : decide (fileB pe = l) with
                  | false =>
                    rw [hq0] at HEQ
                    have HNE := Lib.hid (of_decide_eq_false hq0)
                    clear hq0
                    go_wp2_with (first
                      | (go_at_call 32; refine HEQ.out.mono ?_; rintro e wu ⟨rfl, rfl⟩)
                      | (go_at_call 68; refine (must_no _).mono ?_; rintro e wu ⟨rfl, rfl⟩))
                    have HPX := Lib.hid (heap_below HBB.out HH3.out)
                    have HPY := Lib.hid (heap_below HBB.out HX33.out)
                    have HBL := Lib.hid (HB3.out.trans (HBB.out.mono HB3.out.size))
                    have HRR := Lib.hid (HRNO.out (fun h => HNE.out h.2.2))
                    clear c0 c1 c2 c3 c4 c5
                    refine leaves_cons (f := 64) (args := #[.pointer (some ⟨w.heap.size, 0, none⟩), .pointer (some ⟨w1.heap.size, 0, none⟩)]) (by simp) (by simp [go_sem]) ?_
                    refine (catch_up w.heap.size w1.heap.size _ _ [] _ HPX.out rfl HPY.out (by omega)).mono ?_
                    rintro e u' wq ⟨rfl, rfl, hq1, hq2, hq3⟩
                    have c0 : wq.cell? ⟨w.heap.size, 0, none⟩ = some (.int .i64 0) := cell_rec hq1 0
                    have c1 : wq.cell? ⟨w.heap.size, 1, none⟩ = some (.int .i64 0) := cell_rec hq1 1
                    have c2 : wq.cell? ⟨w.heap.size, 2, none⟩ = some (.int .u32 0) := cell_rec hq1 2
                    have c3 : wq.cell? ⟨w.heap.size, 3, none⟩ = some (.int .u64 0) := cell_rec hq1 3
                    have c4 : wq.cell? ⟨w.heap.size, 4, none⟩ = some (.slice none 0 0) := cell_rec hq1 4
                    have c5 : wq.cell? ⟨w.heap.size, 5, none⟩ = some (.slice none 0 0) := cell_rec hq1 5
                    have d0 : wq.cell? ⟨w1.heap.size, 0, none⟩ = some (.int .i64 4) := cell_rec hq2 0
                    have HBQ := Lib.hid (HBL.out.trans (hq3.below HBL.out.size (fun j hj => by rcases hj with rfl | rfl <;> omega)))
                    clear hq1 hq2 hq3
                    simp [Leaves, settle, results, Try.results30, go_sem, c0, c1, c2, c3, c4, c5, d0]
                    exact ⟨RdResA.code HRR.out, HBQ.out⟩
                  | true =>
                    rw [hq0] at HEQ
                    have HR := Lib.hid (HROK.out HOKP.out HMAY.out (of_decide_eq_true hq0))
                    have HX5 := Lib.hid (heap_below HBB.out HH3.out)
                    have HX6 := Lib.hid (heap_below HBB.out HX33.out)
                    have HB5 := Lib.hid (HB3.out.trans (HBB.out.mono HB3.out.size))
                    have HOW5 := Lib.hid (show ElfOwn wB w.heap.size pe L (.slice sa sn sc) (.slice ga gn gc) from ⟨HOW3.out.secs, HOW3.out.so.mono HBB.out, HOW3.out.go.mono HBB.out, fun p hp => (HOW3.out.data p hp).mono HBB.out⟩)
                    clear hq0 c0 c1 c2 c3 c4 c5
                    obtain ⟨c0, c1, c2, c3, c4, c5⟩ := elf_box HX5.out
                    go_wp2_with (first
                      | (go_at_call 32; refine HEQ.out.mono ?_; rintro e wu ⟨rfl, rfl⟩)
                      | (go_at_call 68; refine (must_ok _).mono ?_; rintro e wu ⟨rfl, rfl⟩)
                      | ((with_reducible show wpList _ _ _ (⟨none, .store _ (.tmp 2) (.tmp 54), _, _, _, _⟩ :: _) _ _); go_must (refine wpList_storeElfS HX5.out rfl rfl rfl rfl (by simp [Value.oneCell']) ?_; intro w7 hh7 hs7; have HH7 := Lib.hid hh7; have HX7 := Lib.hid (hs7.kept HX6.out (show ¬ w1.heap.size = w.heap.size by omega)); have HB7 := Lib.hid (HB5.out.trans (hs7.below HB5.out.size (fun j hj => by rw [hj]; exact Nat.le_refl _))); have HOW7 := Lib.hid (show ElfOwn w7 w.heap.size pe L (.slice sa sn sc) (.slice ga gn gc) from ⟨HOW5.out.secs, owns_stirs HOW5.out.so hs7 (own_ne HOW5.out.so HX5.out (by decide)), owns_stirs HOW5.out.go hs7 (own_ne HOW5.out.go HX5.out (by decide)), fun p hp => owns_stirs (HOW5.out.data p hp) hs7 (own_ne (HOW5.out.data p hp) HX5.out (by decide))⟩); clear hh7 hs7))
                      | ((with_reducible show wpList _ _ _ (⟨none, .store _ (.tmp 3) _, _, _, _, _⟩ :: _) _ _); go_must (refine wpList_setI HX7.out (show 0 < 1 by decide) rfl rfl (fun w => by kernel_rfl) ?_; intro w8 hh8 hs8; have HH8 := Lib.hid hh8; have HH78 := Lib.hid (hs8.kept HH7.out (show ¬ w.heap.size = w1.heap.size by omega)); have HB8 := Lib.hid (HB7.out.trans (hs8.below HB7.out.size (fun j hj => by rw [hj]; exact HB1.out.size))); have HOW8 := Lib.hid (show ElfOwn w8 w.heap.size pe L (.slice sa sn sc) (.slice ga gn gc) from ⟨HOW7.out.secs, owns_stirs HOW7.out.so hs8 (own_ne HOW7.out.so HX7.out (by decide)), owns_stirs HOW7.out.go hs8 (own_ne HOW7.out.go HX7.out (by decide)), fun p hp => owns_stirs (HOW7.out.data p hp) hs8 (own_ne (HOW7.out.data p hp) HX7.out (by decide))⟩); clear hh8 hs8)))
                    clear c0 c1 c2 c3 c4 c5
                    obtain ⟨c0, c1, c2, c3, c4, c5⟩ := elf_box HH78.out
                    have d0 : w8.cell? ⟨w1.heap.size, 0, none⟩ = some (.int .i64 0) := cell_rec HH8.out 0
                    refine leaves_cons (f := 64) (args := #[.pointer (some ⟨w.heap.size, 0, none⟩), .pointer (some ⟨w1.heap.size, 0, none⟩)]) (by simp) (by simp [go_sem]) ?_
                    refine (catch_no _ _ _).mono ?_
                    rintro e u' w'' ⟨rfl, rfl, rfl⟩
                    simp [Leaves, settle, results, Try.results30, go_sem, c0, c1, c2, c3, c4, c5, d0]
                    exact ⟨⟨L, .slice sa sn sc, .slice ga gn gc, by rw [HR.out], by rw [HR.out]; exact HOW8.out, HAP.out⟩, HB8.out⟩
              · obtain ⟨e9, hbel⟩ : True ∧ Below w.heap.size w wA := ⟨trivial, HB2.out.trans (hbA.mono HB2.out.size)⟩
                have HPX := Lib.hid (heap_below hbA HX12.out)
                have HPY := Lib.hid (heap_below hbA HX2.out)
                have HBL := Lib.hid hbel
                have HRR := Lib.hid (HRNO.out (fun h => hno h.1))
                clear e9 hbel
                refine leaves_cons (f := 64) (args := #[.pointer (some ⟨w.heap.size, 0, none⟩), .pointer (some ⟨w1.heap.size, 0, none⟩)]) (by simp) (by simp [go_sem]) ?_
                refine (catch_up w.heap.size w1.heap.size _ _ [] _ HPX.out rfl HPY.out (by omega)).mono ?_
                rintro e u' wq ⟨rfl, rfl, hq1, hq2, hq3⟩
                have c0 : wq.cell? ⟨w.heap.size, 0, none⟩ = some (.int .i64 0) := cell_rec hq1 0
                have c1 : wq.cell? ⟨w.heap.size, 1, none⟩ = some (.int .i64 0) := cell_rec hq1 1
                have c2 : wq.cell? ⟨w.heap.size, 2, none⟩ = some (.int .u32 0) := cell_rec hq1 2
                have c3 : wq.cell? ⟨w.heap.size, 3, none⟩ = some (.int .u64 0) := cell_rec hq1 3
                have c4 : wq.cell? ⟨w.heap.size, 4, none⟩ = some (.slice none 0 0) := cell_rec hq1 4
                have c5 : wq.cell? ⟨w.heap.size, 5, none⟩ = some (.slice none 0 0) := cell_rec hq1 5
                have d0 : wq.cell? ⟨w1.heap.size, 0, none⟩ = some (.int .i64 4) := cell_rec hq2 0
                have HBQ := Lib.hid (HBL.out.trans (hq3.below HBL.out.size (fun j hj => by rcases hj with rfl | rfl <;> omega)))
                clear hq1 hq2 hq3
                simp [Leaves, settle, results, Try.results30, go_sem, c0, c1, c2, c3, c4, c5, d0]
                exact ⟨RdResA.code HRR.out, HBQ.out⟩
      · have HR := Lib.hid (HC4.out h6 h2 h4)
        have d4 : (l.take 7 == [127, 69, 76, 70, 2, 1, 1]) = false := by rw [beq_eq_false_iff_ne]; exact h4
        have d4' : (l.take 7 != [127, 69, 76, 70, 2, 1, 1]) = true := by rw [bne_iff_ne]; exact h4
        generalize l.take 7 = t7 at *
        clear HC6 HC2 HC4 h6 h2 h4
        go_enter_defers Try.func30, Try.ntmps30
        go_wp2_with (first
          | ((with_reducible show wpList _ _ _ (⟨some 2, .alloc _, _, _, _, _⟩ :: _) _ _); go_must (refine wpList_allocElf ?_; intro w1 hx1 hb1 hs1; have HX1 := Lib.hid hx1; have HB1 := Lib.hid hb1; clear hx1 hb1))
          | ((with_reducible show wpList _ _ _ (⟨some 3, .alloc _, _, _, _, _⟩ :: _) _ _); go_must (refine wpList_allocErr ?_; intro w2 hx2 hb2 hs2; have HX2 := Lib.hid hx2; have HX12 := Lib.hid (heap_below hb2 HX1.out); have HB2 := Lib.hid (HB1.out.trans (hb2.mono HB1.out.size)); have hs7 := HS7.out _ HB2.out; clear hx2 hb2))
          | ((with_reducible show wpList _ _ _ (⟨none, .store _ (.tmp 2) _, _, _, _, _⟩ :: _) _ _); go_must (refine wpList_storeElfS HX12.out rfl rfl rfl rfl (by simp [Value.oneCell']) ?_; intro w3 hh3 hs3; have HH3 := Lib.hid hh3; have HX23 := Lib.hid (hs3.kept HX2.out (show ¬ w1.heap.size = w.heap.size by omega)); have HB3 := Lib.hid (HB2.out.trans (hs3.below HB2.out.size (fun j hj => by rw [hj]; exact Nat.le_refl _))); clear hh3 hs3))
          | ((with_reducible show wpList _ _ _ (⟨none, .store _ (.tmp 3) _, _, _, _, _⟩ :: _) _ _); go_must (refine wpList_setI HX23.out (show 0 < 1 by decide) rfl rfl (fun w => by kernel_rfl) ?_; intro w4 hh4 hs4; have HH4 := Lib.hid hh4; have HH34 := Lib.hid (hs4.kept HH3.out (show ¬ w.heap.size = w1.heap.size by omega)); have HB4 := Lib.hid (HB3.out.trans (hs4.below HB3.out.size (fun j hj => by rw [hj]; exact HB1.out.size))); clear hh4 hs4)))
        have c0 : w4.cell? ⟨w.heap.size, 0, none⟩ = some (.int .i64 0) := cell_rec HH34.out 0
        have c1 : w4.cell? ⟨w.heap.size, 1, none⟩ = some (.int .i64 0) := cell_rec HH34.out 1
        have c2 : w4.cell? ⟨w.heap.size, 2, none⟩ = some (.int .u32 0) := cell_rec HH34.out 2
        have c3 : w4.cell? ⟨w.heap.size, 3, none⟩ = some (.int .u64 0) := cell_rec HH34.out 3
        have c4 : w4.cell? ⟨w.heap.size, 4, none⟩ = some (.slice none 0 0) := cell_rec HH34.out 4
        have c5 : w4.cell? ⟨w.heap.size, 5, none⟩ = some (.slice none 0 0) := cell_rec HH34.out 5
        have d0 : w4.cell? ⟨w1.heap.size, 0, none⟩ = some (.int .i64 4) := cell_rec HH4.out 0
        refine leaves_cons (f := 64) (args := #[.pointer (some ⟨w.heap.size, 0, none⟩), .pointer (some ⟨w1.heap.size, 0, none⟩)]) (by simp) (by simp [go_sem]) ?_
        refine (catch_no _ _ _).mono ?_
        rintro e u' w'' ⟨rfl, rfl, rfl⟩
        simp [Leaves, settle, results, Try.results30, go_sem, c0, c1, c2, c3, c4, c5, d0]
        exact ⟨RdResA.code HR.out, HB4.out⟩
end Go.Proofs.Ytimnbnomaajmmaa
namespace Go.Proofs.Ytimnbnomaajmmaa
open Go.RowKit Go.Fd
/-- x stands in l at p. -/
def Has (l : List UInt8) (p : Nat) (x : List UInt8) : Prop := ∃ a b, l = a ++ (x ++ b) ∧ a.length = p
theorem Has.left {l x : List UInt8} {p : Nat} (h : Has l p x) (a : List UInt8) {q : Nat} (hq : q = a.length + p) : Has (a ++ l) q x := by
  obtain ⟨c, d, rfl, rfl⟩ := h
  exact ⟨a ++ c, d, by simp, by simp [hq]⟩
theorem Has.right {l x : List UInt8} {p : Nat} (h : Has l p x) (b : List UInt8) : Has (l ++ b) p x := by
  obtain ⟨c, d, rfl, rfl⟩ := h
  exact ⟨c, d ++ b, by simp, rfl⟩
theorem Has.all (x : List UInt8) : Has x 0 x := ⟨[], [], by simp, rfl⟩
theorem Has.sub {l x y : List UInt8} {p q r : Nat} (h : Has l p x) (k : Has x q y) (hr : r = p + q) : Has l r y := by
  obtain ⟨a, b, rfl, rfl⟩ := h
  obtain ⟨c, d, rfl, rfl⟩ := k
  exact ⟨a ++ c, d ++ b, by simp, by simp [hr]⟩
theorem Has.len {l x : List UInt8} {p : Nat} (h : Has l p x) : p + x.length ≤ l.length := by
  obtain ⟨a, b, rfl, rfl⟩ := h
  simp only [List.length_append]; omega
theorem Has.cut {l x : List UInt8} {p : Nat} (h : Has l p x) : (l.drop p).take x.length = x := by
  obtain ⟨a, b, rfl, rfl⟩ := h
  simp
theorem Has.num {l : List UInt8} {p n s : Nat} (h : Has l p (fixed n s)) (hs : Sized s) (hn : n < 256 ^ s) : gN l p s = n := by
  have h1 := h.len
  have h2 := h.cut
  rw [length_fixed] at h1 h2
  rw [gN_in hs h1, h2, fixed_get, Nat.mod_eq_of_lt hn]
theorem Has.flat {α : Type} {k : Nat} {f : α → List UInt8} (hk : ∀ x, (f x).length = k) {l : List α} {i : Nat} {x : α} (h : l[i]? = some x) : Has (l.flatMap f) (k * i) (f x) := by
  obtain ⟨r, hr⟩ := flat_head hk h
  refine ⟨(l.flatMap f).take (k * i), r, by rw [← hr, List.take_append_drop], ?_⟩
  have hi := (List.getElem?_eq_some_iff.1 h).1
  rw [List.length_take, flat_len' hk, Nat.min_eq_left]
  rw [Nat.mul_comm]
  exact Nat.mul_le_mul_right k (Nat.le_of_lt hi)
theorem putL_cons (s n : Nat) (ns : List Nat) : putL s (n :: ns) = fixed n s ++ putL s ns := rfl
theorem putL_nil (s : Nat) : putL s [] = [] := rfl
/-- A part of bytes that are put together of parts. -/
theorem has_part {ps : List (List UInt8)} {i p : Nat} {x : List UInt8} (h : ps[i]? = some x) (hp : p = ((ps.take i).map List.length).sum) : Has ps.flatten p x := by
  obtain ⟨hi, he⟩ := List.getElem?_eq_some_iff.1 h
  refine ⟨(ps.take i).flatten, (ps.drop (i + 1)).flatten, ?_, by rw [List.length_flatten, hp]⟩
  rw [← he, ← List.flatten_cons, ← List.flatten_append, List.getElem_cons_drop, List.take_append_drop]
theorem segBy_parts (s : SegM) : segBy s = [fixed s.typ 4, fixed s.flags 4, fixed s.off 8, fixed s.vaddr 8, fixed s.vaddr 8, fixed s.filesz 8, fixed s.memsz 8, fixed s.align 8].flatten := by
  unfold segBy
  simp [putL_cons, putL_nil]
theorem segBy_has (s : SegM) {i p : Nat} {x : List UInt8} (h : [fixed s.typ 4, fixed s.flags 4, fixed s.off 8, fixed s.vaddr 8, fixed s.vaddr 8, fixed s.filesz 8, fixed s.memsz 8, fixed s.align 8][i]? = some x) (hp : p = (([fixed s.typ 4, fixed s.flags 4, fixed s.off 8, fixed s.vaddr 8, fixed s.vaddr 8, fixed s.filesz 8, fixed s.memsz 8, fixed s.align 8].take i).map List.length).sum) : Has (segBy s) p x := by
  rw [segBy_parts]; exact has_part h hp
theorem hdrBy_parts (nm : Nat) (s : SecM) (p : Nat) : hdrBy nm s p = [fixed nm 4, fixed s.typ 4, fixed s.flags 8, fixed s.addr 8, fixed p 8, fixed s.size 8, fixed s.link 4, fixed s.info 4, fixed s.align 8, fixed s.ent 8].flatten := by
  unfold hdrBy
  simp [putL_cons, putL_nil]
theorem hdrBy_has (nm : Nat) (s : SecM) (p : Nat) {i q : Nat} {x : List UInt8} (h : [fixed nm 4, fixed s.typ 4, fixed s.flags 8, fixed s.addr 8, fixed p 8, fixed s.size 8, fixed s.link 4, fixed s.info 4, fixed s.align 8, fixed s.ent 8][i]? = some x) (hp : q = (([fixed nm 4, fixed s.typ 4, fixed s.flags 8, fixed s.addr 8, fixed p 8, fixed s.size 8, fixed s.link 4, fixed s.info 4, fixed s.align 8, fixed s.ent 8].take i).map List.length).sum) : Has (hdrBy nm s p) q x := by
  rw [hdrBy_parts]; exact has_part h hp
theorem headB_parts (e : ElfM) (h : Nat) : headB e h = [magicE, List.replicate 9 0, fixed (u64of e.typ) 2, fixed (Go.Fd.mach e.target) 2, fixed 1 4, fixed e.entry 8, fixed (if segsB e = true then 64 else 0) 8, fixed h 8, fixed e.flags 4, fixed 64 2, fixed 56 2, fixed e.segs.length 2, fixed 64 2, fixed (e.secs.length + 2) 2, fixed (e.secs.length + 1) 2].flatten := by
  unfold headB magicE
  simp [putL_cons, putL_nil]
theorem headB_has (e : ElfM) (h : Nat) {i q : Nat} {x : List UInt8} (hx : [magicE, List.replicate 9 0, fixed (u64of e.typ) 2, fixed (Go.Fd.mach e.target) 2, fixed 1 4, fixed e.entry 8, fixed (if segsB e = true then 64 else 0) 8, fixed h 8, fixed e.flags 4, fixed 64 2, fixed 56 2, fixed e.segs.length 2, fixed 64 2, fixed (e.secs.length + 2) 2, fixed (e.secs.length + 1) 2][i]? = some x) (hp : q = (([magicE, List.replicate 9 0, fixed (u64of e.typ) 2, fixed (Go.Fd.mach e.target) 2, fixed 1 4, fixed e.entry 8, fixed (if segsB e = true then 64 else 0) 8, fixed h 8, fixed e.flags 4, fixed 64 2, fixed 56 2, fixed e.segs.length 2, fixed 64 2, fixed (e.secs.length + 2) 2, fixed (e.secs.length + 1) 2].take i).map List.length).sum) : Has (headB e h) q x := by
  rw [headB_parts]; exact has_part hx hp
/-- What was ahead stays ahead. -/
theorem bodyF_pre : ∀ (l : List (SecM × Nat)) (acc : List UInt8), ∃ r, bodyF acc l = acc ++ r := by
  intro l
  induction l with
  | nil => exact fun acc => ⟨[], by simp [bodyF]⟩
  | cons x l ih =>
    intro acc
    obtain ⟨r, hr⟩ := ih (acc ++ List.replicate (x.2 - acc.length) 0 ++ x.1.data)
    exact ⟨List.replicate (x.2 - acc.length) 0 ++ x.1.data ++ r, by
      show bodyF (acc ++ List.replicate (x.2 - acc.length) 0 ++ x.1.data) l = _
      rw [hr]; simp⟩
theorem bodyF_cut (acc : List UInt8) (l : List (SecM × Nat)) (k : Nat) : bodyF acc l = bodyF (bodyF acc (l.take k)) (l.drop k) := by
  unfold bodyF
  rw [← List.foldl_append, List.take_append_drop]
section
variable {e : ElfM}
theorem atsB_ok (h : MayK e) {i : Nat} {x : List UInt8} (hi : (namesOf e.secs)[i]? = some x) : ∃ p, (atsOf e)[i]? = some p ∧ atR (tabOf e) p = (x, 0) ∧ p < (tabOf e).length := by
  obtain ⟨h1, h2⟩ := build_ok h.ok
  obtain ⟨p, e1, _, e2, e3⟩ := build_at h1 hi
  have ht : tabOf e = (buildT (namesOf e.secs)).tab := by unfold tabOf; rw [h2]
  refine ⟨p, by unfold atsOf; rw [h2]; exact e1, by rw [ht]; exact at_place e2 e3, ?_⟩
  rw [ht]
  have := e2.lt
  omega
theorem ats_len (h : MayK e) : (atsOf e).length = e.secs.length + 1 := by
  obtain ⟨h1, h2⟩ := build_ok h.ok
  unfold atsOf
  rw [h2, (build_places _).1]
  simp [namesOf]
theorem places_len (e : ElfM) : (placesOf e).1.length = e.secs.length := plF_len _
theorem hdrs_get (h : MayK e) {i : Nat} {s : SecM} (hi : e.secs[i]? = some s) : ∃ n p, (atsOf e)[i]? = some n ∧ (placesOf e).1[i]? = some p ∧ (e.secs.zip ((atsOf e).zip (placesOf e).1))[i]? = some (s, n, p) := by
  have hlt := (List.getElem?_eq_some_iff.1 hi).1
  have h1 : (atsOf e)[i]? = some ((atsOf e)[i]'(by rw [ats_len h]; omega)) := List.getElem?_eq_getElem _
  have h2 : (placesOf e).1[i]? = some ((placesOf e).1[i]'(by rw [places_len]; omega)) := List.getElem?_eq_getElem _
  refine ⟨_, _, h1, h2, ?_⟩
  rw [List.getElem?_zip_eq_some]
  exact ⟨hi, by rw [List.getElem?_zip_eq_some]; exact ⟨h1, h2⟩⟩
theorem hdrsB_len (h : MayK e) : (hdrsB e).length = 64 * e.secs.length := by
  unfold hdrsB
  rw [flat_len' fun p => hdrBy_len _ _ _, List.length_zip, List.length_zip, ats_len h, places_len]
  omega
theorem fileB_len (h : MayK e) : (fileB e).length = headsOf e (tabOf e).length + 64 * (e.secs.length + 2) := by
  unfold fileB
  rw [List.length_append, List.length_append, midB_len h, hdrsB_len h, hdrBy_len]
  omega
theorem has_mid {p : Nat} {x : List UInt8} (h : Has (bodyB e) p x) : Has (fileB e) p x := by
  unfold fileB midB
  exact (((h.right _).right _).right _).right _
theorem has_front {p : Nat} {x : List UInt8} (h : Has (frontB e) p x) : Has (fileB e) p x := by
  obtain ⟨r, hr⟩ := bodyF_pre (e.secs.zip (placesOf e).1) (frontB e)
  refine has_mid ?_
  unfold bodyB
  rw [hr]
  exact h.right _
theorem has_head {p : Nat} {x : List UInt8} (h : Has (headB e (headsOf e (tabOf e).length)) p x) : Has (fileB e) p x := by
  refine has_front ?_
  unfold frontB
  exact h.right _
theorem has_seg {i : Nat} {s : SegM} (hi : e.segs[i]? = some s) : Has (fileB e) (64 + 56 * i) (segBy s) := by
  refine has_front ?_
  unfold frontB
  exact (Has.flat segBy_len hi).left _ (by rw [headB_len])
theorem has_data (h : MayK e) {i : Nat} {s : SecM} {p : Nat} (hi : e.secs[i]? = some s) (hp : (placesOf e).1[i]? = some p) : Has (fileB e) p s.data := by
  refine has_mid ?_
  have hz : (e.secs.zip (placesOf e).1)[i]? = some (s, p) := by rw [List.getElem?_zip_eq_some]; exact ⟨hi, hp⟩
  have hlt := (List.getElem?_eq_some_iff.1 hi).1
  have hl := body_len (g := segsB e) (frontB_len e) h.pow i (Nat.le_of_lt hlt)
  have hpl : p = placeS (segsB e) (plF (segsB e) (front e) (e.secs.take i)).2 s := by
    have := plF_get (g := segsB e) (n := front e) hi
    unfold placesOf at hp
    rw [this] at hp
    exact (Option.some.inj hp).symm
  have hge := placeS_le (g := segsB e) (p := (plF (segsB e) (front e) (e.secs.take i)).2) (h.pow s (List.mem_of_getElem? hi))
  obtain ⟨r, hr⟩ := bodyF_pre ((e.secs.zip (placesOf e).1).drop (i + 1)) (bodyF (frontB e) ((e.secs.zip (placesOf e).1).take (i + 1)))
  unfold bodyB
  rw [bodyF_cut _ _ (i + 1), hr, bodyF_step hz]
  refine Has.right ?_ _
  have := (Has.all s.data).left (bodyF (frontB e) ((e.secs.zip (placesOf e).1).take i) ++ List.replicate (p - (bodyF (frontB e) ((e.secs.zip (placesOf e).1).take i)).length) 0) (q := p) (by
    rw [List.length_append, List.length_replicate]
    unfold placesOf
    rw [hl, hpl]
    omega)
  exact this
theorem has_tab (h : MayK e) : Has (fileB e) (placesOf e).2 (tabOf e) := by
  unfold fileB midB
  refine Has.right (Has.right (Has.right ?_ _) _) _
  exact (Has.all _).left _ (by rw [bodyB_len h.pow]; rfl)
theorem has_hdr (h : MayK e) {i : Nat} {s : SecM} {n p : Nat} (hz : (e.secs.zip ((atsOf e).zip (placesOf e).1))[i]? = some (s, n, p)) : Has (fileB e) (headsOf e (tabOf e).length + 64 * (i + 1)) (hdrBy n s p) := by
  unfold fileB
  refine Has.right ?_ _
  have := Has.flat (f := fun p : SecM × Nat × Nat => hdrBy p.2.1 p.1 p.2.2) (fun p => hdrBy_len _ _ _) hz
  exact this.left _ (by rw [midB_len h]; omega)
theorem has_last (h : MayK e) : ∃ n, Has (fileB e) (headsOf e (tabOf e).length + 64 * (e.secs.length + 1)) (hdrBy n (tabSec (tabOf e).length) (placesOf e).2) := by
  refine ⟨(atsOf e)[e.secs.length]?.getD 0, ?_⟩
  unfold fileB
  exact (Has.all _).left _ (by rw [List.length_append, midB_len h, hdrsB_len h]; omega)
end
theorem Has.ok {l x : List UInt8} {p q s : Nat} (h : Has l p x) (hs : Sized s) (hq : q + s ≤ x.length) : okB l (p + q) s = true := by
  rw [okB_iff hs]
  have := h.len
  simp only [decide_eq_true_eq]
  omega
theorem seg_back {l : List UInt8} {a : Nat} {s : SegM} (h : Has l a (segBy s)) (hf : s.fits) : segP l a = s ∧ segOk l a = true := by
  obtain ⟨f1, f2, f3, f4, f5, f6, f7⟩ := hf
  have hl := h.len
  rw [segBy_len] at hl
  refine ⟨?_, by rw [segOk_iff]; simpa using hl⟩
  unfold segP
  rw [(h.sub (segBy_has s (i := 0) rfl rfl) rfl : Has l a (fixed s.typ 4)).num sz4 f1, (h.sub (segBy_has s (i := 1) rfl rfl) (r := a + 4) (by simp [length_fixed]) : Has l (a + 4) (fixed s.flags 4)).num sz4 f2,
    (h.sub (segBy_has s (i := 2) rfl rfl) (r := a + 8) (by simp [length_fixed]) : Has l (a + 8) (fixed s.off 8)).num sz8 f3,
    (h.sub (segBy_has s (i := 3) rfl rfl) (r := a + 16) (by simp [length_fixed]) : Has l (a + 16) (fixed s.vaddr 8)).num sz8 f4,
    (h.sub (segBy_has s (i := 5) rfl rfl) (r := a + 32) (by simp [length_fixed]) : Has l (a + 32) (fixed s.filesz 8)).num sz8 f5,
    (h.sub (segBy_has s (i := 6) rfl rfl) (r := a + 40) (by simp [length_fixed]) : Has l (a + 40) (fixed s.memsz 8)).num sz8 f6,
    (h.sub (segBy_has s (i := 7) rfl rfl) (r := a + 48) (by simp [length_fixed]) : Has l (a + 48) (fixed s.align 8)).num sz8 f7]
theorem sec_back {l tab : List UInt8} {a n p : Nat} {s : SecM} (h : Has l a (hdrBy n s p)) (hf : s.fits) (hn : n < 4294967296) (hp : p < 18446744073709551616) (ht : atR tab n = (s.name, 0)) (hfine : fineB s = true) (hd : Has l p s.data) : secP l tab a = s ∧ secOk l tab a = true := by
  obtain ⟨f1, f2, f3, f4, f5, f6, f7, f8⟩ := hf
  have hl := h.len
  rw [hdrBy_len] at hl
  have g0 := (h.sub (hdrBy_has n s p (i := 0) rfl rfl) (r := a) (by simp) : Has l a (fixed n 4)).num sz4 hn
  have g1 := (h.sub (hdrBy_has n s p (i := 1) rfl rfl) (r := a + 4) (by simp [length_fixed]) : Has l (a + 4) (fixed s.typ 4)).num sz4 f1
  have g2 := (h.sub (hdrBy_has n s p (i := 2) rfl rfl) (r := a + 8) (by simp [length_fixed]) : Has l (a + 8) (fixed s.flags 8)).num sz8 f2
  have g3 := (h.sub (hdrBy_has n s p (i := 3) rfl rfl) (r := a + 16) (by simp [length_fixed]) : Has l (a + 16) (fixed s.addr 8)).num sz8 f3
  have g4 := (h.sub (hdrBy_has n s p (i := 4) rfl rfl) (r := a + 24) (by simp [length_fixed]) : Has l (a + 24) (fixed p 8)).num sz8 hp
  have g5 := (h.sub (hdrBy_has n s p (i := 5) rfl rfl) (r := a + 32) (by simp [length_fixed]) : Has l (a + 32) (fixed s.size 8)).num sz8 f5
  have g6 := (h.sub (hdrBy_has n s p (i := 6) rfl rfl) (r := a + 40) (by simp [length_fixed]) : Has l (a + 40) (fixed s.link 4)).num sz4 f6
  have g7 := (h.sub (hdrBy_has n s p (i := 7) rfl rfl) (r := a + 44) (by simp [length_fixed]) : Has l (a + 44) (fixed s.info 4)).num sz4 f7
  have g8 := (h.sub (hdrBy_has n s p (i := 8) rfl rfl) (r := a + 48) (by simp [length_fixed]) : Has l (a + 48) (fixed s.align 8)).num sz8 f4
  have g9 := (h.sub (hdrBy_has n s p (i := 9) rfl rfl) (r := a + 56) (by simp [length_fixed]) : Has l (a + 56) (fixed s.ent 8)).num sz8 f8
  unfold fineB at hfine
  simp only [Bool.and_eq_true, Bool.not_eq_true', decide_eq_false_iff_not] at hfine
  obtain ⟨⟨⟨_, _⟩, _⟩, hfd⟩ := hfine
  have hdl := hd.len
  have hdc := hd.cut
  constructor
  · unfold secP
    rw [g0, g1, g2, g3, g4, g5, g6, g7, g8, g9, ht]
    by_cases h8 : s.typ = 8
    · rw [if_pos h8] at hfd ⊢
      simp only [Bool.and_eq_true, decide_eq_true_eq] at hfd
      have : s.data = [] := List.eq_nil_of_length_eq_zero hfd.1
      cases s
      simp_all
    · rw [if_neg h8] at hfd ⊢
      have hsz : s.size = s.data.length := of_decide_eq_true hfd
      rw [hsz, hdc, ← hsz]
  · unfold secOk
    rw [g0, g1, g4, g5, ht]
    simp only [Bool.and_eq_true, Bool.or_eq_true, decide_eq_true_eq]
    refine ⟨⟨hl, trivial⟩, ?_⟩
    by_cases h8 : s.typ = 8
    · exact .inl h8
    · right
      rw [if_neg h8] at hfd
      have hsz : s.size = s.data.length := of_decide_eq_true hfd
      unfold inB
      simp only [Bool.and_eq_true, decide_eq_true_eq]
      omega
theorem tgt_mach {t : Int} (h : mach t ≠ 0) : tgt (mach t) 3 = t := by
  unfold mach at h ⊢
  split
  · next h1 => subst h1; decide
  · split
    · next h1 => subst h1; decide
    · split
      · next h1 => subst h1; decide
      · next h1 h2 h3 => simp [h1, h2, h3] at h
theorem target_in {t : Int} (h : mach t ≠ 0) : t = 1 ∨ t = 2 ∨ t = 3 := by
  unfold mach at h
  split at h
  · omega
  · split at h
    · omega
    · split at h
      · omega
      · exact absurd rfl h
/-- What is read of a file's bytes is the file. -/
theorem file_back {e : ElfM} (hm : mayE e = true) (hf : e.fits) : codeR (fileB e) = 0 ∧ targetR (fileB e) = e.target ∧ OkP (fileB e) ∧ parseE (fileB e) (targetR (fileB e)) = e := by
  have h := mayK hm
  have hlen := fileB_len h
  have hge := heads_ge (e := e)
  have hle := h.len
  have hsl := h.secs
  have hgl := h.segs
  have hfr : front e ≤ (placesOf e).2 := (plF_le (g := segsB e) (n := front e) h.pow).1
  have hfr2 : 64 ≤ front e := by unfold front; omega
  have hH : headsOf e (tabOf e).length < 4194304 := by omega
  have t0 := has_head (headB_has e (headsOf e (tabOf e).length) (i := 0) rfl rfl)
  have t1 := (has_head (headB_has e (headsOf e (tabOf e).length) (i := 2) (q := 16) rfl (by simp; rfl))).num sz2 (by rcases h.typ with h1 | h1 <;> rw [h1] <;> decide)
  have t2 := (has_head (headB_has e (headsOf e (tabOf e).length) (i := 3) (q := 18) rfl (by simp [length_fixed]; rfl))).num sz2 (by have := mach_le e.target; omega)
  have t3 := (has_head (headB_has e (headsOf e (tabOf e).length) (i := 5) (q := 24) rfl (by simp [length_fixed]; rfl))).num sz8 hf.entry
  have t4 := (has_head (headB_has e (headsOf e (tabOf e).length) (i := 7) (q := 40) rfl (by simp [length_fixed]; rfl))).num sz8 (by omega)
  have t5 := (has_head (headB_has e (headsOf e (tabOf e).length) (i := 8) (q := 48) rfl (by simp [length_fixed]; rfl))).num sz4 hf.flags
  have t6 := (has_head (headB_has e (headsOf e (tabOf e).length) (i := 11) (q := 56) rfl (by simp [length_fixed]; rfl))).num sz2 (by omega)
  have t7 := (has_head (headB_has e (headsOf e (tabOf e).length) (i := 13) (q := 60) rfl (by simp [length_fixed]; rfl))).num sz2 (by omega)
  have htg : targetR (fileB e) = e.target := by unfold targetR; rw [t2]; exact tgt_mach h.mach
  have hns : nsecsP (fileB e) = e.secs.length := by unfold nsecsP; rw [t7]; omega
  have hng : nsegsP (fileB e) = e.segs.length := t6
  have hla : lastP (fileB e) = headsOf e (tabOf e).length + 64 * (e.secs.length + 1) := by unfold lastP; rw [t4, hns]
  obtain ⟨nl, hlast⟩ := has_last h
  have l1 := (hlast.sub (hdrBy_has nl (tabSec (tabOf e).length) (placesOf e).2 (i := 4) rfl rfl) (r := lastP (fileB e) + 24) (by simp [length_fixed, hla]) : Has (fileB e) (lastP (fileB e) + 24) (fixed (placesOf e).2 8))
  have l2 := (hlast.sub (hdrBy_has nl (tabSec (tabOf e).length) (placesOf e).2 (i := 5) rfl rfl) (r := lastP (fileB e) + 32) (by simp [length_fixed, hla]) : Has (fileB e) (lastP (fileB e) + 32) (fixed (tabOf e).length 8))
  have n1 := l1.num sz8 (by omega)
  have n2 := l2.num sz8 (by omega)
  have htab : tabP (fileB e) = tabOf e := by
    unfold tabP
    rw [n1, n2]
    exact (has_tab h).cut
  have hseg : ∀ i s, e.segs[i]? = some s → segP (fileB e) (64 + 56 * i) = s ∧ segOk (fileB e) (64 + 56 * i) = true := fun i s hi => seg_back (has_seg hi) (hf.segs s (List.mem_of_getElem? hi))
  have hsec : ∀ i s, e.secs[i]? = some s → secP (fileB e) (tabP (fileB e)) (gN (fileB e) 40 8 + 64 * (i + 1)) = s ∧ secOk (fileB e) (tabP (fileB e)) (gN (fileB e) 40 8 + 64 * (i + 1)) = true := fun i s hi => by
    obtain ⟨n, p, a1, a2, a3⟩ := hdrs_get h hi
    have hnm : (namesOf e.secs)[i]? = some s.name := by
      unfold namesOf
      rw [List.getElem?_append_left (by rw [List.length_map]; exact (List.getElem?_eq_some_iff.1 hi).1), List.getElem?_map, hi]
      rfl
    obtain ⟨n', b1, b2, b3⟩ := atsB_ok h hnm
    rw [a1] at b1
    cases b1
    have hdt := has_data h hi a2
    rw [t4, htab]
    exact sec_back (has_hdr h a3) (hf.secs s (List.mem_of_getElem? hi)) (by omega) (by have := hdt.len; omega) b2 (h.fine s (List.mem_of_getElem? hi)) hdt
  have lsec : secsP (fileB e) e.secs.length = e.secs := by
    apply List.ext_getElem?
    intro i
    rcases Nat.lt_or_ge i e.secs.length with hi | hi
    · have hx : e.secs[i]? = some e.secs[i] := List.getElem?_eq_getElem hi
      unfold secsP
      rw [List.getElem?_map, List.getElem?_range hi, hx, Option.map_some, (hsec i _ hx).1]
    · rw [List.getElem?_eq_none (by rw [secsP_len]; exact hi), List.getElem?_eq_none hi]
  have lseg : segsP (fileB e) e.segs.length = e.segs := by
    apply List.ext_getElem?
    intro i
    rcases Nat.lt_or_ge i e.segs.length with hi | hi
    · have hx : e.segs[i]? = some e.segs[i] := List.getElem?_eq_getElem hi
      unfold segsP
      rw [List.getElem?_map, List.getElem?_range hi, hx, Option.map_some, (hseg i _ hx).1]
    · rw [List.getElem?_eq_none (by rw [segsP_len]; exact hi), List.getElem?_eq_none hi]
  refine ⟨?_, htg, ⟨by rw [t6]; exact hgl, by rw [t7]; omega, by rw [t7]; omega, fun i hi => ?_, by rw [t4]; omega, ?_, ?_, ?_, fun i hi => ?_⟩, ?_⟩
  · unfold codeR
    rw [if_neg (by omega), if_neg (by omega)]
    have : (fileB e).take 7 = magicE := by have := t0.cut; simpa [magicE] using this
    rw [if_neg (fun hh => hh this), htg, if_neg]
    rcases target_in h.mach with h1 | h1 | h1 <;> omega
  · rw [hng] at hi
    exact (hseg i _ (List.getElem?_eq_getElem hi)).2
  · have := l1.ok (q := 0) sz8 (by simp [length_fixed]); simpa using this
  · have := l2.ok (q := 0) sz8 (by simp [length_fixed]); simpa using this
  · rw [n1, n2]
    unfold inB
    simp only [Bool.and_eq_true, decide_eq_true_eq]
    omega
  · rw [hns] at hi
    exact (hsec i _ (List.getElem?_eq_getElem hi)).2
  · unfold parseE
    rw [hns, hng, lsec, lseg, htg, t1, t3, t5]
    have : ((u64of e.typ : Nat) : Int) = e.typ := by rcases h.typ with h1 | h1 <;> rw [h1] <;> decide
    rw [this]
theorem read_back {e : ElfM} (hm : mayE e = true) (hf : e.fits) : readE (fileB e) = (e, 0) := by
  obtain ⟨h1, h2, h3, h4⟩ := file_back hm hf
  unfold readE
  rw [if_neg (fun h => h h1), h4, if_pos ⟨h3, hm, rfl⟩]
end Go.Proofs.Ytimnbnomaajmmaa
namespace Go.Proofs.Ytimnbnomaajmmaa
open Go.RowKit Go.Fd
/-- A part. -/
structure PartM where
  name : List UInt8
  flags : List UInt8
  align : Int
  size : Int
  data : List UInt8
  relas : List RelaM
/-- A module. -/
structure ObjM where
  target : Int
  parts : List PartM
  syms : List SymM
/-- awxtn -/
def lettersM : List UInt8 := [97, 119, 120, 116, 110]
/-- Are flags letters in their order? -/
def ordF : List UInt8 → List UInt8 → Bool
  | [], _ => true
  | _ :: _, [] => false
  | c :: fs, x :: ls => if x = c then ordF fs ls else ordF (c :: fs) ls
def hasF (fs : List UInt8) (c : UInt8) : Bool := fs.any fun x => decide (x = c)
def relaN : List UInt8 := [46, 114, 101, 108, 97]
def symtabN : List UInt8 := [46, 115, 121, 109, 116, 97, 98]
def strtabN : List UInt8 := [46, 115, 116, 114, 116, 97, 98]
/-- May a part have the name? -/
def namedF (s : List UInt8) : Bool := decide ((buildR [s]).2.2 = 0) && !decide (s = []) && !decide (s = symtabN) && !decide (s = strtabN) && !decide (s = tabName) && !decide (s.take 5 = relaN)
def pow2F (n : Int) : Bool := decide (1 ≤ n) && decide (n ≤ 4096) && decide (n.toNat &&& (n.toNat - 1) = 0)
def sizedF (p : PartM) : Bool := if hasF p.flags 110 = true then decide (0 ≤ p.size) && decide (p.size ≤ 1048576) && decide (p.data = []) else decide (p.size = (p.data.length : Int))
/-- Why a part may not be. -/
def partE (p : PartM) (there : Bool) : Int :=
  if namedF p.name = false then 7 else if there = true then 8 else if ordF p.flags lettersM = false then 15 else if pow2F p.align = false then 10 else if sizedF p = false then 1 else 0
/-- The first part's error; the names ahead. -/
def partsE : List PartM → List (List UInt8) → Int
  | [], _ => 0
  | p :: ps, seen => if partE p (decide (p.name ∈ seen)) = 0 then partsE ps (seen ++ [p.name]) else partE p (decide (p.name ∈ seen))
def relE (n : Nat) (size : Int) (r : RelaM) : Int :=
  if r.sym < 0 ∨ (n : Int) < r.sym then 14 else if u64of size ≤ r.off then 5 else if r.typ < 0 ∨ 65535 < r.typ then 3 else 0
def firstE {α : Type} (f : α → Int) : List α → Int
  | [] => 0
  | x :: l => if f x = 0 then firstE f l else f x
def secE (n : Nat) (s : SymM) : Int := if (n : Int) < s.sec ∧ s.sec ≠ 65521 ∧ s.sec ≠ 65522 then 15 else 0
/-- Why a module may not be. -/
def mayO (o : ObjM) : Int :=
  if o.target < 1 ∨ 3 < o.target then 11 else
  if 100 < o.parts.length ∨ 16384 < o.syms.length then 6 else
  if partsE o.parts [] ≠ 0 then partsE o.parts [] else
  if (symW o.syms).2.2.2 ≠ 0 then (symW o.syms).2.2.2 else
  if firstE (secE o.parts.length) o.syms ≠ 0 then firstE (secE o.parts.length) o.syms else
  firstE (fun p => firstE (relE o.syms.length p.size) p.relas) o.parts
/-- ELF's flags of letters. -/
def bitsN (fs : List UInt8) : Nat := (if hasF fs 97 then 2 else 0) + (if hasF fs 119 then 1 else 0) + (if hasF fs 120 then 4 else 0) + (if hasF fs 116 then 1024 else 0)
/-- Letters of ELF's flags. -/
def textN (n : Nat) (bare : Bool) : List UInt8 := (if n &&& 2 ≠ 0 then [97] else []) ++ (if n &&& 1 ≠ 0 then [119] else []) ++ (if n &&& 4 ≠ 0 then [120] else []) ++ (if n &&& 1024 ≠ 0 then [116] else []) ++ (if bare then [110] else [])
def secPart (p : PartM) : SecM := ⟨p.name, if hasF p.flags 110 then 8 else 1, bitsN p.flags, 0, u64of p.align, u64of p.size, 0, 0, 0, p.data⟩
def hasRel (p : PartM) : Bool := decide (p.relas ≠ [])
def relSec (symtab i : Nat) (p : PartM) : SecM := ⟨relaN ++ p.name, 4, 64, 0, 8, (relaW p.relas).1.length, symtab, i + 1, 24, (relaW p.relas).1⟩
def relSecs (symtab : Nat) : Nat → List PartM → List SecM
  | _, [] => []
  | i, p :: ps => if hasRel p then relSec symtab i p :: relSecs symtab (i + 1) ps else relSecs symtab (i + 1) ps
def symtabNo (o : ObjM) : Nat := o.parts.length + o.parts.countP hasRel + 1
def symSec (o : ObjM) : SecM := ⟨symtabN, 2, 0, 0, 8, (symW o.syms).1.length, symtabNo o + 1, (symW o.syms).2.2.1, 24, (symW o.syms).1⟩
def strSec (o : ObjM) : SecM := ⟨strtabN, 3, 0, 0, 1, (symW o.syms).2.1.length, 0, 0, 0, (symW o.syms).2.1⟩
/-- A module as a file. -/
def elfO (o : ObjM) : ElfM := ⟨1, o.target, if o.target = 3 then 1 else 0, 0, o.parts.map secPart ++ relSecs (symtabNo o) 0 o.parts ++ [symSec o, strSec o], []⟩
def fileO (o : ObjM) : List UInt8 × Int := if mayO o ≠ 0 then ([], mayO o) else if mayE (elfO o) = true then (fileB (elfO o), 0) else ([], 6)
/-- The names that others may see. -/
def definedO (l : List SymM) : List (List UInt8) := (l.filter fun s => !decide (s.bind = 0) && !decide (s.sec = 0) && !decide (s.name = [])).map (·.name)
/-! ### Sections as a module -/
def partOf (s : SecM) : PartM := ⟨s.name, textN s.flags (decide (s.typ = 8)), wrap64 (s.align : Int), wrap64 (s.size : Int), s.data, []⟩
def setRel (ps : List PartM) (i : Nat) (l : List RelaM) : List PartM := ps.modify i fun p => { p with relas := l }
/-- Where a name's part stands: the last one of that name. -/
def putN (A : List (List UInt8 × Nat)) (s : List UInt8) (n : Nat) : List (List UInt8 × Nat) :=
  if s ∈ A.map (·.1) then A.map (fun p => if p.1 = s then (s, n) else p) else A ++ [(s, n)]
def trimRel (n : List UInt8) : List UInt8 := if n.take 5 = relaN then n.drop 5 else n
/-- The program's way: by names. -/
def modP : List SecM → List PartM → List (List UInt8 × Nat) → Option (List PartM)
  | [], ps, _ => some ps
  | s :: ss, ps, A =>
    if s.typ ≠ 4 then modP ss (ps ++ [partOf s]) (putN A s.name ps.length) else
    match lkp A (trimRel s.name) with
    | none => none
    | some i => if (relaRd s.data).2 ≠ 0 then none else modP ss (setRel ps i (relaRd s.data).1) A
/-- The document's way: by numbers. -/
def modR : List SecM → List PartM → Option (List PartM)
  | [], ps => some ps
  | s :: ss, ps =>
    if s.typ ≠ 4 then modR ss (ps ++ [partOf s]) else
    if s.info < 1 ∨ ps.length < s.info then none else
    if (relaRd s.data).2 ≠ 0 then none else modR ss (setRel ps (s.info - 1) (relaRd s.data).1)
/-- What sections tell, either way. -/
def secsO (md : List SecM → Option (List PartM)) (e : ElfM) : Option ObjM :=
  if e.secs.length < 2 then none else
  if (symRd (e.secs[e.secs.length - 2]?.elim [] (·.data)) (e.secs[e.secs.length - 1]?.elim [] (·.data))).2 ≠ 0 then none else
  (md (e.secs.take (e.secs.length - 2))).map fun ps => ⟨e.target, ps, (symRd (e.secs[e.secs.length - 2]?.elim [] (·.data)) (e.secs[e.secs.length - 1]?.elim [] (·.data))).1⟩
def objNo : ObjM := ⟨0, [], []⟩
/-- The module that a file is. -/
noncomputable def readO (md : List SecM → Option (List PartM)) (b : List UInt8) : ObjM × Int :=
  if (readE b).2 ≠ 0 then (objNo, (readE b).2) else
  match secsO md (readE b).1 with
  | none => (objNo, 4)
  | some o => if fileO o = (b, 0) then (o, 0) else (objNo, 4)
end Go.Proofs.Ytimnbnomaajmmaa
namespace Go.Proofs.Ytimnbnomaajmmaa
open Go.RowKit Go.Fd
theorem ordF_nil (ls : List UInt8) : ordF [] ls = true := by cases ls <;> rfl
theorem ordF_miss {c : UInt8} {fs : List UInt8} : ∀ {ls : List UInt8}, Lib.indexByte ls c < 0 → ordF (c :: fs) ls = false := by
  intro ls
  induction ls with
  | nil => intro _; rfl
  | cons x ls ih =>
    intro h
    rw [Lib.indexByte] at h
    rw [ordF]
    split at h
    · omega
    · next hx =>
      have hx' : ¬ x = c := by simpa using hx
      rw [if_neg hx']
      refine ih ?_
      have := Lib.indexByte_ge ls c
      split at h
      · next h1 => have h1' := eq_of_beq h1; omega
      · omega
theorem ordF_hit {c : UInt8} {fs : List UInt8} : ∀ {ls : List UInt8} {n : Nat}, Lib.indexByte ls c = (n : Int) → n < ls.length ∧ ordF (c :: fs) ls = ordF fs (ls.drop (n + 1)) := by
  intro ls
  induction ls with
  | nil => intro n h; rw [Lib.indexByte] at h; omega
  | cons x ls ih =>
    intro n h
    rw [Lib.indexByte] at h
    rw [ordF]
    split at h
    · next hx =>
      obtain rfl : n = 0 := by omega
      rw [if_pos (by simpa using hx)]
      exact ⟨by simp, rfl⟩
    · next hx =>
      rw [if_neg (by simpa using hx)]
      split at h
      · omega
      · next h1 =>
        have h1' : ¬ Lib.indexByte ls c = -1 := by simpa using h1
        have := Lib.indexByte_ge ls c
        obtain ⟨m, rfl⟩ : ∃ m, n = m + 1 := ⟨n - 1, by omega⟩
        obtain ⟨h1, h2⟩ := ih (n := m) (by omega)
        exact ⟨by rw [List.length_cons]; omega, by rw [h2]; rfl⟩
theorem hasF_idx (fs : List UInt8) (c : UInt8) : hasF fs c = decide (0 ≤ Lib.indexByte fs c) := by
  rw [← Lib.contains_iff_indexByte]
  unfold hasF
  rw [List.contains_eq_any_beq]
  congr 1
  funext x
  rw [Bool.eq_iff_iff, decide_eq_true_iff, beq_iff_eq]
  exact eq_comm
theorem has_any (fs : List UInt8) (c : UInt8) (w : World) : Calls Try.prog 35 #[S fs, .string ⟨#[c]⟩] w fun e w' => e = .returned (.bool (hasF fs c)) ∧ w = w' := by
  refine (Try.strings_Contains_one ⟨fs.toArray⟩ c w).mono fun e w' ⟨he, hw⟩ => ⟨?_, hw.symm⟩
  rw [he, hasF_idx]
theorem indexByte_c (l : List UInt8) (c : UInt8) (w : World) : Calls Try.prog 85 #[S l, .int .u8 (c.toNat : Int)] w fun e w' => e = .returned (.int .i64 (Lib.indexByte l c)) ∧ w = w' := by
  refine (Try.strings_IndexByte ⟨l.toArray⟩ (c.toNat : Int) w).mono fun e w' ⟨he, hw⟩ => ⟨?_, hw.symm⟩
  rw [he]
  have : ((c.toNat : Int)).toNat.toUInt8 = c := by rw [Int.toNat_natCast]; exact UInt8.ofNat_toNat
  rw [this]
theorem run_idxS {l : List UInt8} {k : Nat} {c : UInt8} (h : l[k]? = some c) (w : World) : (Instr.index 9 (S l) (.int .i64 (k : Int))).run Try.prog w = .ok (.int .u8 (c.toNat : Int)) w := by
  obtain ⟨h1, h2⟩ := List.getElem?_eq_some_iff.1 h
  rw [run_index_string w _ ⟨l.toArray⟩ .i64 (k : Int) (by kernel_rfl), dif_pos ⟨by omega, by simpa [ByteArray.size] using h1⟩]
  subst h2
  rfl
theorem exec_index {P : Program} {w : World} {a : Act} {v i u : Value} {d : Option Tmp} {t ty : TypeId} {pos : String} {aft : Array Edge} {g : Option (Nat × Bool)} {x ix : Operand} (hr : (Instr.index t v i).run P w = .ok u w)
    (hx : a.eval x = v) (hi : a.eval ix = i) : (execOp a.eval ⟨d, .index t x ix, ty, pos, aft, g⟩).run P w = .ok (.value u) w := by
  simp [execOp, hx, hi, hr]
/-- letters[i:] -/
theorem run_letFrom {i : Nat} (hi : i ≤ 5) (w : World) : (Instr.sliceAt 9 (S lettersM) (some (.int .i64 (i : Int))) none none).run Try.prog w = .ok (S (lettersM.drop i)) w := by
  rcases (show i = 0 ∨ i = 1 ∨ i = 2 ∨ i = 3 ∨ i = 4 ∨ i = 5 by omega) with rfl | rfl | rfl | rfl | rfl | rfl
  all_goals kernel_rfl
set_option maxHeartbeats 1000000 in
set_option maxRecDepth 100000 in
theorem ordered6_any (fs : List UInt8) (w : World) (hs : fs.length ≤ 9223372036854775807) : Calls Try.prog 59 #[S fs] w fun e w' => e = .returned (.bool (ordF fs lettersM)) ∧ Below w.heap.size w w' := by
  obtain ⟨n, hn⟩ : ∃ n, n = fs.length := ⟨_, rfl⟩
  have HN := Lib.hid hn
  rw [← hn] at hs
  have hn9 := hs
  clear hs
  go_enter Try.func59, Try.ntmps59
  go_wp2
  rw [show ((fs.length : Nat) : Int) = (n : Int) by rw [hn]]
  clear hn
  go_loopw [3, 8] (fun x i wr => ∃ k at_ : Nat, x = .int .i64 at_ ∧ i = .int .i64 k ∧ k ≤ n ∧ at_ ≤ 5 ∧ Hid (ordF fs lettersM = ordF (fs.drop k) (lettersM.drop at_)) ∧ Hid (Below w.heap.size w wr)) (fun _ i _ => n - (intOf i).toNat)
  case atStart => exact ⟨0, 0, rfl, rfl, Nat.zero_le _, by omega, rfl, Below.refl _ _⟩
  case round =>
    obtain ⟨k, at_, rfl, rfl, hk, ha, HK, HB⟩ := hrel
    by_cases hlt : k < n
    · have HX := Lib.hid (show fs[k]? = some (fs[k]'(by have := HN.out; omega)) from List.getElem?_eq_getElem _)
      generalize fs[k]'(by have := HN.out; omega) = c at *
      have HD := Lib.hid (show fs.drop k = c :: fs.drop (k + 1) by
        obtain ⟨h1, h2⟩ := List.getElem?_eq_some_iff.1 HX.out
        rw [List.drop_eq_getElem_cons h1, h2])
      have HC := Lib.hid (fun w => indexByte_c (lettersM.drop at_) c w)
      obtain ⟨ix, hix⟩ : ∃ ix, ix = Lib.indexByte (lettersM.drop at_) c := ⟨_, rfl⟩
      rw [← hix] at HC
      have HIX := Lib.hid hix
      clear hix
      go_wp2
      refine wp_region_walk 6 [(1, .is (S (lettersM.drop at_))), (4, .is (.int .u8 (c.toNat : Int))), (5, .is (.int .i64 ix))] (by kernel_rfl) (by kernel_rfl) ?_
      simp only [List.take_succ_cons, List.take_zero, List.drop_succ_cons, List.drop_zero]
      repeat (first
        | (refine walk_quiet rfl rfl rfl ?_; intro K hK; go_big_quiet_op; go_big_quiet_on)
        | (refine walk_is rfl rfl (fun wx hwx _ => WpYld.val (exec_sliceFrom (fun w' => run_letFrom ha w') rfl rfl) Yld.is_mk (Below.refl _ _)) ?_; go_frame)
        | (refine walk_is rfl rfl (fun wx hwx _ => WpYld.val (exec_index (run_idxS HX.out _) rfl rfl) Yld.is_mk (Below.refl _ _)) ?_; go_frame)
        | (refine walk_is rfl rfl (fun wx hwx _ => WpYld.callIs (run_callL (vals := [S (lettersM.drop at_), .int .u8 (c.toNat : Int)]) Try.func85 (by kernel_rfl) rfl rfl) (HC.out wx)) ?_; go_frame))
      refine walk_nil ?_
      intro wz hbz _
      have HB1 := Lib.hid (HB.out.trans (hbz.mono HB.out.size))
      clear hbz
      by_cases hneg : ix < 0
      · have HR := Lib.hid (show ordF fs lettersM = false by rw [HK.out, HD.out, ordF_miss (by rw [← HIX.out]; exact hneg)])
        go_wp2
        go_ret
        exact ⟨by rw [HR.out]; rfl, HB1.out⟩
      · obtain ⟨m, rfl⟩ : ∃ m : Nat, ix = (m : Int) := ⟨ix.toNat, by omega⟩
        obtain ⟨h1, h2⟩ := ordF_hit (c := c) (fs := fs.drop (k + 1)) (ls := lettersM.drop at_) (n := m) HIX.out.symm
        have HR := Lib.hid (show ordF fs lettersM = ordF (fs.drop (k + 1)) (lettersM.drop (at_ + (m + 1))) by rw [HK.out, HD.out, h2, List.drop_drop])
        rw [List.length_drop] at h1
        have hm5 : at_ + m + 1 ≤ 5 := by have : lettersM.length = 5 := rfl; omega
        clear h1 h2 hneg
        go_wp2
        go_roundw
        case rel => exact ⟨k + 1, at_ + (m + 1), by go_num, by go_num, by omega, by omega, HR.out, HB1.out⟩
        case measure => simp [intOf] <;> omega
    · obtain rfl : k = n := by omega
      have HR := Lib.hid (show ordF fs lettersM = true by rw [HK.out, List.drop_eq_nil_of_le (by have := HN.out; omega), ordF_nil])
      go_wp2
      go_ret
      exact ⟨by rw [HR.out]; rfl, HB.out⟩
end Go.Proofs.Ytimnbnomaajmmaa
namespace Go.Fd
open Go.RowKit
abbrev encPart (p : Go.Proofs.Ytimnbnomaajmmaa.PartM × Value × Value) : List Value := [.string ⟨p.1.name.toArray⟩, .string ⟨p.1.flags.toArray⟩, .int .i64 p.1.align, .int .i64 p.1.size, p.2.1, p.2.2]
abbrev partV (p : Go.Proofs.Ytimnbnomaajmmaa.PartM × Value × Value) : Value := .agg #[.string ⟨p.1.name.toArray⟩, .string ⟨p.1.flags.toArray⟩, .int .i64 p.1.align, .int .i64 p.1.size, p.2.1, p.2.2]
theorem part_box {w : World} {g : Nat} {x : Go.Proofs.Ytimnbnomaajmmaa.PartM × Value × Value} {t : TypeId} {fr : Nat × Nat} (h : w.heap[g]? = some (.cells #[.string ⟨x.1.name.toArray⟩, .string ⟨x.1.flags.toArray⟩, .int .i64 x.1.align, .int .i64 x.1.size, x.2.1, x.2.2] t fr)) :
    w.cell? ⟨g, 0, none⟩ = some (.string ⟨x.1.name.toArray⟩) ∧ w.cell? ⟨g, 1, none⟩ = some (.string ⟨x.1.flags.toArray⟩) ∧ w.cell? ⟨g, 2, none⟩ = some (.int .i64 x.1.align) ∧ w.cell? ⟨g, 3, none⟩ = some (.int .i64 x.1.size) ∧ w.cell? ⟨g, 4, none⟩ = some x.2.1 ∧ w.cell? ⟨g, 5, none⟩ = some x.2.2 :=
  ⟨cell_rec h 0, cell_rec h 1, cell_rec h 2, cell_rec h 3, cell_rec h 4, cell_rec h 5⟩
end Go.Fd
namespace Go.Proofs.Ytimnbnomaajmmaa
open Go.RowKit Go.Fd
set_option maxHeartbeats 1000000 in
set_option maxRecDepth 100000 in
theorem sized6_any (p : PartM) (dv rv : Value) (w : World) (hd : Bs w dv p.data) (hcm : p.data.length ≤ 9223372036854775807) :
    Calls Try.prog 60 #[partV (p, dv, rv)] w fun e w' => e = .returned (.bool (sizedF p)) ∧ Below w.heap.size w w' := by
  obtain ⟨m, a, cap, hm, rfl, hmc, _⟩ := hd.shape
  have HF := Lib.hid (fun w => has_any p.flags 110 w)
  obtain ⟨name, flags, align, size, data, relas⟩ := p
  dsimp only at *
  clear hd
  rw [← hm.out] at hcm
  have HS : Hid (sizedF ⟨name, flags, align, size, data, relas⟩ = if hasF flags 110 = true then decide (0 ≤ size) && decide (size ≤ 1048576) && decide (m = 0) else decide (size = (m : Int))) := by
    have h1 := hm.out
    have h2 : decide (data = []) = decide (m = 0) := by rw [Bool.eq_iff_iff, decide_eq_true_iff, decide_eq_true_iff, h1, List.length_eq_zero_iff]
    unfold sizedF
    dsimp only
    rw [h2, h1]
    rfl
  generalize sizedF ⟨name, flags, align, size, data, relas⟩ = q at *
  generalize hasF flags 110 = h at *
  cases h with
  | true =>
    have HR : Hid (q = (decide (0 ≤ size) && decide (size ≤ 1048576) && decide (m = 0))) := HS.out
    clear HS
    go_enter Try.func60, Try.ntmps60
    go_wp2_with (first
      | ((with_reducible show wpList _ _ _ (⟨_, .box _ _, _, _, _, _⟩ :: _) _ _); go_must (refine wpList_box rfl ?_; intro w1 hx1 hb1 hs1; obtain ⟨c0, c1, c2, c3, c4, c5⟩ := part_box (x := (⟨name, flags, align, size, data, relas⟩, .slice a m cap, rv)) hx1))
      | (go_at_call 35; refine (HF.out _).mono ?_; rintro e w2 ⟨rfl, rfl⟩))
    all_goals go_ret
    all_goals refine ⟨?_, hb1⟩
    all_goals rw [HR.out]
    all_goals refine ret1 (bool_eq ?_)
    all_goals rw [Bool.eq_iff_iff]
    all_goals simp
    all_goals omega
  | false =>
    have HR : Hid (q = decide (size = (m : Int))) := HS.out
    clear HS
    go_enter Try.func60, Try.ntmps60
    go_wp2_with (first
      | ((with_reducible show wpList _ _ _ (⟨_, .box _ _, _, _, _, _⟩ :: _) _ _); go_must (refine wpList_box rfl ?_; intro w1 hx1 hb1 hs1; obtain ⟨c0, c1, c2, c3, c4, c5⟩ := part_box (x := (⟨name, flags, align, size, data, relas⟩, .slice a m cap, rv)) hx1))
      | (go_at_call 35; refine (HF.out _).mono ?_; rintro e w2 ⟨rfl, rfl⟩))
    go_ret
    refine ⟨?_, hb1⟩
    rw [HR.out]
    refine ret1 (bool_eq ?_)
    rw [Bool.eq_iff_iff]
    simp
theorem pre_rel (s : List UInt8) : Lib.hasPrefix s relaN = decide (s.take 5 = relaN) := by
  rw [Bool.eq_iff_iff, decide_eq_true_iff]
  unfold Lib.hasPrefix
  rw [List.isPrefixOf_iff_prefix, List.prefix_iff_eq_take]
  exact eq_comm
theorem wpList_lit1S {ops : Array Oper} {rest : List Oper} {Q : Exit → Act → World → Prop} {a : Act} {w : World} {d : Option Tmp} {ty : TypeId} {pos : String} {aft : Array Edge} {x : Operand} (s : List UInt8) (hx : a.eval x = S s)
    (h : ∀ w1, Rd S w1 (.slice (some ⟨w.heap.size, 0, none⟩) 1 1) [s] → Below w.heap.size w w1 → wpList Try.prog ops Q rest (a.put d (.slice (some ⟨w.heap.size, 0, none⟩) 1 1)) w1) :
    wpList Try.prog ops Q (⟨d, .buildSlice 33 1 #[(0, x)], ty, pos, aft, none⟩ :: rest) a w :=
  wpList_val rfl (w' := w.alloc (.cells #[S s] 9)) (by simp only [execOp, List.map_toArray, List.map_cons, List.map_nil, hx]; kernel_rfl) (h _ (rd_lit S w [s] _ 1 _ rfl rfl) (below_alloc w _))
set_option maxHeartbeats 1000000 in
set_option maxRecDepth 100000 in
theorem named6_any (s : List UInt8) (w : World) :
    Calls Try.prog 58 #[S s] w fun e w' => e = .returned (.bool (namedF s)) ∧ Below w.heap.size w w' := by
  have HBU := Lib.hid (fun v w (h : Rd S w v [s]) => build_any [s] v w (by simp) h)
  have HNM : Hid (namedF s = (decide ((buildR [s]).2.2 = 0) && !decide (s = []) && !decide (s = symtabN) && !decide (s = strtabN) && !decide (s = tabName) && !decide (s.take 5 = relaN))) := rfl
  generalize namedF s = q at *
  generalize buildR [s] = B at *
  obtain ⟨B1, B2, B3⟩ := B
  dsimp only at *
  go_enter Try.func58, Try.ntmps58
  have HPF := Lib.hid (fun w => Try.strings_HasPrefix ⟨s.toArray⟩ ⟨relaN.toArray⟩ w)
  go_wp2_with (first
    | ((with_reducible show wpList _ _ _ (⟨some 8, _, _, _, _, _⟩ :: _) _ _); go_must (refine wpList_lit1S s (by rfl) ?_; intro w1 hr1 hb1; have HR1 := Lib.hid hr1; have HB1 := Lib.hid hb1; clear hr1 hb1))
    | (go_at_call 39; refine (HBU.out _ _ HR1.out).mono ?_; rintro e w2 ⟨v1, v2, rfl, -, -, hb2⟩; have HB2 := Lib.hid (HB1.out.trans (hb2.mono HB1.out.size)); clear hb2)
    | (go_at_call 84; refine (HPF.out _).mono ?_; rintro e w3 ⟨rfl, rfl⟩))
  all_goals go_ret
  all_goals refine ⟨?_, HB2.out⟩
  all_goals rw [HNM.out]
  all_goals refine ret1 (bool_eq ?_)
  all_goals simp_all [symtabN, strtabN, tabName, pre_rel]
end Go.Proofs.Ytimnbnomaajmmaa
namespace Go.Proofs.Ytimnbnomaajmmaa
open Go.RowKit Go.Fd
def bitAt : Nat → Nat
  | 0 => 2
  | 1 => 1
  | 2 => 4
  | _ => 1024
def bitsK (fs : List UInt8) : Nat → Nat
  | 0 => 0
  | k + 1 => if hasF fs (lettersM.getD k 0) = true then bitsK fs k ||| bitAt k else bitsK fs k
theorem bitAt_lt (k : Nat) : bitAt k < 2048 := by
  unfold bitAt
  split <;> omega
theorem bitsK_lt (fs : List UInt8) (k : Nat) : bitsK fs k < 2048 := by
  induction k with
  | zero => show 0 < _; omega
  | succ k ih =>
    rw [bitsK]
    split
    · exact Nat.or_lt_two_pow (n := 11) ih (bitAt_lt k)
    · exact ih
theorem or_u64 {a b : Nat} (h1 : a < 2048) (h2 : b < 2048) : bits .or .u64 (a : Int) (b : Int) = ((a ||| b : Nat) : Int) := bits_or_u64_nat a b (by omega) (by omega)
theorem bitsK_4 (fs : List UInt8) : bitsK fs 4 = bitsN fs := by
  unfold bitsN
  simp only [bitsK, lettersM, bitAt, List.getD_cons_zero, List.getD_cons_succ]
  cases hasF fs 97 <;> cases hasF fs 119 <;> cases hasF fs 120 <;> cases hasF fs 116 <;> rfl
def textK (n : Nat) : Nat → List UInt8
  | 0 => []
  | k + 1 => if n &&& bitAt k ≠ 0 then textK n k ++ [lettersM.getD k 0] else textK n k
theorem textK_4 (n : Nat) (bare : Bool) : textK n 4 ++ (if bare = true then [110] else []) = textN n bare := by
  unfold textN
  simp only [textK, lettersM, bitAt, List.getD_cons_zero, List.getD_cons_succ]
  generalize n &&& 2 = a1
  generalize n &&& 1 = a2
  generalize n &&& 4 = a3
  generalize n &&& 1024 = a4
  by_cases h1 : a1 = 0 <;> by_cases h2 : a2 = 0 <;> by_cases h3 : a3 = 0 <;> by_cases h4 : a4 = 0 <;> simp [h1, h2, h3, h4]
theorem wpList_four {ops : Array Oper} {rest : List Oper} {Q : Exit → Act → World → Prop} {a : Act} {w : World} {d : Option Tmp} {ty : TypeId} {pos : String} {aft : Array Edge}
    (h : ∀ w1, w1.cell? ⟨w.heap.size, 0, none⟩ = some (.int .u64 2) → w1.cell? ⟨w.heap.size, 1, none⟩ = some (.int .u64 1) → w1.cell? ⟨w.heap.size, 2, none⟩ = some (.int .u64 4) → w1.cell? ⟨w.heap.size, 3, none⟩ = some (.int .u64 1024) → Below w.heap.size w w1 → wpList Try.prog ops Q rest (a.put d (.slice (some ⟨w.heap.size, 0, none⟩) 4 4)) w1) :
    wpList Try.prog ops Q (⟨d, .buildSlice 102 4 #[(0, .const (.int .u64 2)), (1, .const (.int .u64 1)), (2, .const (.int .u64 4)), (3, .const (.int .u64 1024))], ty, pos, aft, none⟩ :: rest) a w :=
  wpList_val rfl (w' := w.alloc (.cells #[.int .u64 2, .int .u64 1, .int .u64 4, .int .u64 1024] 44)) (by kernel_rfl) (h _ (cell_rec (heap_alloc_last w _) 0) (cell_rec (heap_alloc_last w _) 1) (cell_rec (heap_alloc_last w _) 2) (cell_rec (heap_alloc_last w _) 3) (below_alloc w _))
set_option maxHeartbeats 1000000 in
set_option maxRecDepth 100000 in
theorem bits6_any (fs : List UInt8) (w : World) :
    Calls Try.prog 34 #[S fs] w fun e w' => e = .returned (.int .u64 ((bitsN fs : Nat) : Int)) ∧ Below w.heap.size w w' := by
  have HH := Lib.hid (fun c w => has_any fs c w)
  have HN : Hid (bitsK fs 4 = bitsN fs) := bitsK_4 fs
  go_enter Try.func34, Try.ntmps34
  go_wp2_with ((with_reducible show wpList _ _ _ (⟨some 6, _, _, _, _, _⟩ :: _) _ _); go_must (refine wpList_four ?_; intro w1 c0 c1 c2 c3 hb1))
  go_loop [3, 8] (fun x i => ∃ k : Nat, i = .int .i64 k ∧ k ≤ 4 ∧ x = .int .u64 ((bitsK fs k : Nat) : Int)) (fun _ i => 4 - (intOf i).toNat)
  case atStart => exact ⟨0, rfl, by omega, rfl⟩
  case round =>
    obtain ⟨k, rfl, hk, rfl⟩ := hrel
    by_cases hlt : k < 4
    · have HS : Hid (bitsK fs (k + 1) = if hasF fs (lettersM.getD k 0) = true then bitsK fs k ||| bitAt k else bitsK fs k) := rfl
      have HO := Lib.hid (or_u64 (bitsK_lt fs k) (bitAt_lt k))
      generalize bitsK fs k = v at *
      have HHK := Lib.hid (fun w => HH.out (lettersM.getD k 0) w)
      generalize hasF fs (lettersM.getD k 0) = h at *
      rcases (show k = 0 ∨ k = 1 ∨ k = 2 ∨ k = 3 by omega) with rfl | rfl | rfl | rfl
      all_goals cases h
      all_goals have HOO := HO.out
      all_goals simp only [bitAt] at HOO
      all_goals go_wp2_with (go_at_call 35; refine (HHK.out _).mono ?_; rintro e w2 ⟨rfl, rfl⟩)
      all_goals refine ⟨?_, by simp [intOf]⟩
      all_goals first
        | exact ⟨1, rfl, by omega, congrArg (fun x : Nat => Value.int .u64 (x : Int)) HS.out.symm⟩
        | exact ⟨2, rfl, by omega, congrArg (fun x : Nat => Value.int .u64 (x : Int)) HS.out.symm⟩
        | exact ⟨3, rfl, by omega, congrArg (fun x : Nat => Value.int .u64 (x : Int)) HS.out.symm⟩
        | exact ⟨4, rfl, by omega, congrArg (fun x : Nat => Value.int .u64 (x : Int)) HS.out.symm⟩
        | exact ⟨1, rfl, by omega, (congrArg (Value.int .u64) HOO).trans (congrArg (fun x : Nat => Value.int .u64 (x : Int)) HS.out.symm)⟩
        | exact ⟨2, rfl, by omega, (congrArg (Value.int .u64) HOO).trans (congrArg (fun x : Nat => Value.int .u64 (x : Int)) HS.out.symm)⟩
        | exact ⟨3, rfl, by omega, (congrArg (Value.int .u64) HOO).trans (congrArg (fun x : Nat => Value.int .u64 (x : Int)) HS.out.symm)⟩
        | exact ⟨4, rfl, by omega, (congrArg (Value.int .u64) HOO).trans (congrArg (fun x : Nat => Value.int .u64 (x : Int)) HS.out.symm)⟩
    · obtain rfl : k = 4 := by omega
      rw [HN.out]
      go_wp2
      go_ret
      exact ⟨rfl, hb1⟩
def bitI : Nat → Int
  | 0 => 2
  | 1 => 1
  | 2 => 4
  | _ => 1024
theorem bitI_cast (k : Nat) : bitI k = ((bitAt k : Nat) : Int) := by
  unfold bitI bitAt
  split <;> rfl
theorem cat_str (v : List UInt8) (x : ByteArray) : (⟨v.toArray⟩ : ByteArray) ++ x = ⟨(v ++ x.data.toList).toArray⟩ := by
  apply ByteArray.ext
  simp
theorem textK_len (n k : Nat) : (textK n k).length ≤ k := by
  induction k with
  | zero => exact Nat.le_refl _
  | succ k ih =>
    rw [textK]
    split
    · rw [List.length_append, List.length_singleton]; omega
    · omega
theorem and_u64' {a b : Nat} (h1 : a < 18446744073709551616) (h2 : b < 2048) : bits .and .u64 (a : Int) (b : Int) = ((a &&& b : Nat) : Int) := bits_and_u64_nat a b h1 (by omega)
set_option maxHeartbeats 1000000 in
set_option maxRecDepth 100000 in
theorem text6_any (n : Nat) (bare : Bool) (w : World) (hn : n < 18446744073709551616) :
    Calls Try.prog 70 #[.int .u64 (n : Int), .bool bare] w fun e w' => e = .returned (S (textN n bare)) ∧ Below w.heap.size w w' := by
  have HN := Lib.hid (textK_4 n bare)
  have HLT := Lib.hid hn
  clear hn
  go_enter Try.func70, Try.ntmps70
  go_wp2_with ((with_reducible show wpList _ _ _ (⟨some 8, _, _, _, _, _⟩ :: _) _ _); go_must (refine wpList_four ?_; intro w1 c0 c1 c2 c3 hb1))
  go_loop [5, 10] (fun x i => ∃ k : Nat, i = .int .i64 k ∧ k ≤ 4 ∧ x = S (textK n k)) (fun _ i => 4 - (intOf i).toNat)
  case atStart => exact ⟨0, rfl, by omega, rfl⟩
  case round =>
    obtain ⟨k, rfl, hk, rfl⟩ := hrel
    by_cases hlt : k < 4
    · have HS : Hid (textK n (k + 1) = if n &&& bitAt k ≠ 0 then textK n k ++ [lettersM.getD k 0] else textK n k) := rfl
      have HO := Lib.hid (show bits .and .u64 (n : Int) (bitI k) = _ from (bitI_cast k).symm ▸ and_u64' HLT.out (bitAt_lt k))
      have hvl := textK_len n k
      generalize textK n k = v at *
      generalize n &&& bitAt k = m at *
      rcases (show k = 0 ∨ k = 1 ∨ k = 2 ∨ k = 3 by omega) with rfl | rfl | rfl | rfl
      all_goals have HOO := HO.out
      all_goals simp only [bitI] at HOO
      all_goals have hbig : ¬ 9223372036854775807 < v.length + 1 := by omega
      all_goals have HV := Lib.hid hvl
      all_goals clear hvl
      all_goals by_cases hm : m = 0
      all_goals have ht := (congrArg (fun x : Int => x != 0) HOO).trans (show ((m : Int) != 0) = decide (m ≠ 0) by rw [Bool.eq_iff_iff]; simp)
      all_goals simp only [hm, ne_eq, not_true_eq_false, not_false_eq_true, decide_true, decide_false] at ht
      all_goals clear HOO
      all_goals have HM := Lib.hid hm
      all_goals clear hm
      all_goals go_wp2
      all_goals refine ⟨?_, by simp [intOf]⟩
      all_goals first
        | exact ⟨1, rfl, by omega, congrArg S (HS.out.trans (if_neg (fun h => h HM.out))).symm⟩
        | exact ⟨2, rfl, by omega, congrArg S (HS.out.trans (if_neg (fun h => h HM.out))).symm⟩
        | exact ⟨3, rfl, by omega, congrArg S (HS.out.trans (if_neg (fun h => h HM.out))).symm⟩
        | exact ⟨4, rfl, by omega, congrArg S (HS.out.trans (if_neg (fun h => h HM.out))).symm⟩
        | exact ⟨1, rfl, by omega, (congrArg Value.string (cat_str v _)).trans (congrArg S (HS.out.trans (if_pos HM.out)).symm)⟩
        | exact ⟨2, rfl, by omega, (congrArg Value.string (cat_str v _)).trans (congrArg S (HS.out.trans (if_pos HM.out)).symm)⟩
        | exact ⟨3, rfl, by omega, (congrArg Value.string (cat_str v _)).trans (congrArg S (HS.out.trans (if_pos HM.out)).symm)⟩
        | exact ⟨4, rfl, by omega, (congrArg Value.string (cat_str v _)).trans (congrArg S (HS.out.trans (if_pos HM.out)).symm)⟩
    · obtain rfl : k = 4 := by omega
      have hvl := textK_len n 4
      generalize textK n 4 = v at *
      have hbig : ¬ 9223372036854775807 < v.length + 1 := by omega
      have HV := Lib.hid hvl
      clear hvl
      cases bare
      · go_wp2
        go_ret
        exact ⟨by rw [← HN.out]; exact congrArg (fun l => Ending.returned (S l)) (List.append_nil v).symm, hb1⟩
      · go_wp2
        go_ret
        exact ⟨by rw [← HN.out]; exact congrArg (fun b => Ending.returned (Value.string b)) (cat_str v ⟨#[110]⟩), hb1⟩
end Go.Proofs.Ytimnbnomaajmmaa
namespace Go.Proofs.Ytimnbnomaajmmaa
open Go.RowKit Go.Fd
set_option maxHeartbeats 1000000 in
set_option maxRecDepth 100000 in
theorem relocation6_any (r : RelaM) (p : PartM) (dv rv : Value) (n : Nat) (w : World) (hf : r.off < 18446744073709551616) :
    Calls Try.prog 26 #[.agg #[.int .u64 (r.off : Int), .int .i64 r.typ, .int .i64 r.sym, .int .i64 r.add], partV (p, dv, rv), .int .i64 (n : Int)] w fun e w' => e = .returned (.int .i64 (relE n p.size r)) ∧ Below w.heap.size w w' := by
  obtain ⟨name, flags, align, size, data, relas⟩ := p
  obtain ⟨off, typ, sym, add⟩ := r
  have HS : Hid (relE n size ⟨off, typ, sym, add⟩ = if sym < 0 ∨ (n : Int) < sym then 14 else if u64of size ≤ off then 5 else if typ < 0 ∨ 65535 < typ then 3 else 0) := rfl
  dsimp only at *
  have HU := Lib.hid (u64of_cast size)
  generalize relE n size ⟨off, typ, sym, add⟩ = q at *
  generalize u64of size = us at *
  go_enter Try.func26, Try.ntmps26
  go_wp2_with (first
    | ((with_reducible show wpList _ _ _ (⟨some 3, .box _ _, _, _, _, _⟩ :: _) _ _); go_must (refine wpList_box rfl ?_; intro w1 hx1 hb1 hs1; have HX1 := Lib.hid hx1; have HB1 := Lib.hid hb1; clear hx1 hb1))
    | ((with_reducible show wpList _ _ _ (⟨some 4, .box _ _, _, _, _, _⟩ :: _) _ _); go_must (refine wpList_box rfl ?_; intro w2 hx2 hb2 hs2; obtain ⟨c0, c1, c2, c3, c4, c5⟩ := part_box (x := (⟨name, flags, align, size, data, relas⟩, dv, rv)) hx2; have hx3 := heap_below hb2 HX1.out; have d0 := cell_rec hx3 0; have d1 := cell_rec hx3 1; have d2 := cell_rec hx3 2; simp only [List.getElem?_toArray, List.getElem?_cons_succ, List.getElem?_cons_zero] at d0 d1 d2; have HB2 := Lib.hid (HB1.out.trans (hb2.mono HB1.out.size)); clear hx3 hx2)))
  all_goals have hu := HU.out
  all_goals go_ret
  all_goals refine ⟨?_, HB2.out⟩
  all_goals rw [HS.out]
  all_goals refine ret1 (int_eq ?_)
  all_goals repeat' split
  all_goals omega
def allO (n : Nat) (p : Nat → Bool) : Bool := Nat.rec true (fun k ih => p k && ih) n
theorem allO_spec {n : Nat} {p : Nat → Bool} (h : allO n p = true) : ∀ k, k < n → p k = true := by
  induction n with
  | zero => intro k hk; omega
  | succ n ih =>
    have h' : (p n && allO n p) = true := h
    rw [Bool.and_eq_true] at h'
    intro k hk
    by_cases e : k = n
    · subst e; exact h'.1
    · exact ih h'.2 k (by omega)
theorem and_all : allO 4096 (fun a => decide (bits .and .i64 ((a + 1 : Nat) : Int) ((a : Nat) : Int) = (((a + 1) &&& a : Nat) : Int))) = true := by kernel_rfl
theorem and_i64' {a : Nat} (h1 : 1 ≤ a) (h2 : a ≤ 4096) : bits .and .i64 (a : Int) ((a : Int) - 1) = ((a &&& (a - 1) : Nat) : Int) := by
  have h := of_decide_eq_true (allO_spec and_all (a - 1) (by omega))
  rw [show a - 1 + 1 = a by omega] at h
  rw [show (a : Int) - 1 = ((a - 1 : Nat) : Int) by omega]
  exact h
set_option maxHeartbeats 1000000 in
set_option maxRecDepth 100000 in
theorem part6_any (p : PartM) (there : Bool) (dv rv : Value) (w : World) (hd : Bs w dv p.data) (hcm : p.data.length ≤ 9223372036854775807) (hfl : p.flags.length ≤ 9223372036854775807) :
    Calls Try.prog 25 #[partV (p, dv, rv), .bool there] w fun e w' => e = .returned (.int .i64 (partE p there)) ∧ Below w.heap.size w w' := by
  have HNM := Lib.hid (fun w => named6_any p.name w)
  have HOR := Lib.hid (fun w => ordered6_any p.flags w hfl)
  have HSZ := Lib.hid (fun w' (hb : Below w.heap.size w w') => sized6_any p dv rv w' (hd.mono hb) hcm)
  have HS : Hid (partE p there = if namedF p.name = false then 7 else if there = true then 8 else if ordF p.flags lettersM = false then 15 else if pow2F p.align = false then 10 else if sizedF p = false then 1 else 0) := rfl
  have HP2 : Hid (pow2F p.align = (decide (1 ≤ p.align) && decide (p.align ≤ 4096) && decide (p.align.toNat &&& (p.align.toNat - 1) = 0))) := rfl
  generalize partE p there = q at *
  generalize namedF p.name = b1 at *
  generalize ordF p.flags lettersM = b2 at *
  generalize sizedF p = b3 at *
  generalize pow2F p.align = b4 at *
  obtain ⟨name, flags, align, size, data, relas⟩ := p
  dsimp only at *
  clear hd hcm hfl
  cases b1 with
  | false =>
    go_enter Try.func25, Try.ntmps25
    go_wp2_with (first
        | ((with_reducible show wpList _ _ _ (⟨some 2, .box _ _, _, _, _, _⟩ :: _) _ _); go_must (refine wpList_box rfl ?_; intro w1 hx1 hb1 hs1; obtain ⟨c0, c1, c2, c3, c4, c5⟩ := part_box (x := (⟨name, flags, align, size, data, relas⟩, dv, rv)) hx1; have HX1 := Lib.hid hx1; have HB1 := Lib.hid hb1; clear hx1 hb1))
        | (go_at_call 58; refine (HNM.out _).mono ?_; rintro e w2 ⟨rfl, hb2⟩; have HB2 := Lib.hid (HB1.out.trans (hb2.mono HB1.out.size)); obtain ⟨c0, c1, c2, c3, c4, c5⟩ := part_box (x := (⟨name, flags, align, size, data, relas⟩, dv, rv)) (heap_below hb2 HX1.out); have HX2 := Lib.hid (heap_below hb2 HX1.out); clear hb2)
        | (go_at_call 59; refine (HOR.out _).mono ?_; rintro e w3 ⟨rfl, hb3⟩; have HB3 := Lib.hid (HB2.out.trans (hb3.mono HB2.out.size)); obtain ⟨c0, c1, c2, c3, c4, c5⟩ := part_box (x := (⟨name, flags, align, size, data, relas⟩, dv, rv)) (heap_below hb3 HX2.out); clear hb3)
        | (go_at_call 60; refine (HSZ.out _ HB3.out).mono ?_; rintro e w4 ⟨rfl, hb4⟩; have HB4 := Lib.hid (HB3.out.trans (hb4.mono HB3.out.size)); clear hb4))
    go_ret
    exact ⟨by rw [HS.out]; rfl, HB2.out⟩
  | true =>
    cases there with
    | true =>
      go_enter Try.func25, Try.ntmps25
      go_wp2_with (first
          | ((with_reducible show wpList _ _ _ (⟨some 2, .box _ _, _, _, _, _⟩ :: _) _ _); go_must (refine wpList_box rfl ?_; intro w1 hx1 hb1 hs1; obtain ⟨c0, c1, c2, c3, c4, c5⟩ := part_box (x := (⟨name, flags, align, size, data, relas⟩, dv, rv)) hx1; have HX1 := Lib.hid hx1; have HB1 := Lib.hid hb1; clear hx1 hb1))
          | (go_at_call 58; refine (HNM.out _).mono ?_; rintro e w2 ⟨rfl, hb2⟩; have HB2 := Lib.hid (HB1.out.trans (hb2.mono HB1.out.size)); obtain ⟨c0, c1, c2, c3, c4, c5⟩ := part_box (x := (⟨name, flags, align, size, data, relas⟩, dv, rv)) (heap_below hb2 HX1.out); have HX2 := Lib.hid (heap_below hb2 HX1.out); clear hb2)
          | (go_at_call 59; refine (HOR.out _).mono ?_; rintro e w3 ⟨rfl, hb3⟩; have HB3 := Lib.hid (HB2.out.trans (hb3.mono HB2.out.size)); obtain ⟨c0, c1, c2, c3, c4, c5⟩ := part_box (x := (⟨name, flags, align, size, data, relas⟩, dv, rv)) (heap_below hb3 HX2.out); clear hb3)
          | (go_at_call 60; refine (HSZ.out _ HB3.out).mono ?_; rintro e w4 ⟨rfl, hb4⟩; have HB4 := Lib.hid (HB3.out.trans (hb4.mono HB3.out.size)); clear hb4))
      go_ret
      exact ⟨by rw [HS.out]; rfl, HB2.out⟩
    | false =>
      cases b2 with
      | false =>
        go_enter Try.func25, Try.ntmps25
        go_wp2_with (first
            | ((with_reducible show wpList _ _ _ (⟨some 2, .box _ _, _, _, _, _⟩ :: _) _ _); go_must (refine wpList_box rfl ?_; intro w1 hx1 hb1 hs1; obtain ⟨c0, c1, c2, c3, c4, c5⟩ := part_box (x := (⟨name, flags, align, size, data, relas⟩, dv, rv)) hx1; have HX1 := Lib.hid hx1; have HB1 := Lib.hid hb1; clear hx1 hb1))
            | (go_at_call 58; refine (HNM.out _).mono ?_; rintro e w2 ⟨rfl, hb2⟩; have HB2 := Lib.hid (HB1.out.trans (hb2.mono HB1.out.size)); obtain ⟨c0, c1, c2, c3, c4, c5⟩ := part_box (x := (⟨name, flags, align, size, data, relas⟩, dv, rv)) (heap_below hb2 HX1.out); have HX2 := Lib.hid (heap_below hb2 HX1.out); clear hb2)
            | (go_at_call 59; refine (HOR.out _).mono ?_; rintro e w3 ⟨rfl, hb3⟩; have HB3 := Lib.hid (HB2.out.trans (hb3.mono HB2.out.size)); obtain ⟨c0, c1, c2, c3, c4, c5⟩ := part_box (x := (⟨name, flags, align, size, data, relas⟩, dv, rv)) (heap_below hb3 HX2.out); clear hb3)
            | (go_at_call 60; refine (HSZ.out _ HB3.out).mono ?_; rintro e w4 ⟨rfl, hb4⟩; have HB4 := Lib.hid (HB3.out.trans (hb4.mono HB3.out.size)); clear hb4))
        go_ret
        exact ⟨by rw [HS.out]; rfl, HB3.out⟩
      | true =>
        by_cases hlo : align < 1
        · have HR := Lib.hid (show b4 = false by rw [HP2.out, decide_eq_false (show ¬ 1 ≤ align by omega)]; rfl)
          clear HP2
          go_enter Try.func25, Try.ntmps25
          go_wp2_with (first
              | ((with_reducible show wpList _ _ _ (⟨some 2, .box _ _, _, _, _, _⟩ :: _) _ _); go_must (refine wpList_box rfl ?_; intro w1 hx1 hb1 hs1; obtain ⟨c0, c1, c2, c3, c4, c5⟩ := part_box (x := (⟨name, flags, align, size, data, relas⟩, dv, rv)) hx1; have HX1 := Lib.hid hx1; have HB1 := Lib.hid hb1; clear hx1 hb1))
              | (go_at_call 58; refine (HNM.out _).mono ?_; rintro e w2 ⟨rfl, hb2⟩; have HB2 := Lib.hid (HB1.out.trans (hb2.mono HB1.out.size)); obtain ⟨c0, c1, c2, c3, c4, c5⟩ := part_box (x := (⟨name, flags, align, size, data, relas⟩, dv, rv)) (heap_below hb2 HX1.out); have HX2 := Lib.hid (heap_below hb2 HX1.out); clear hb2)
              | (go_at_call 59; refine (HOR.out _).mono ?_; rintro e w3 ⟨rfl, hb3⟩; have HB3 := Lib.hid (HB2.out.trans (hb3.mono HB2.out.size)); obtain ⟨c0, c1, c2, c3, c4, c5⟩ := part_box (x := (⟨name, flags, align, size, data, relas⟩, dv, rv)) (heap_below hb3 HX2.out); clear hb3)
              | (go_at_call 60; refine (HSZ.out _ HB3.out).mono ?_; rintro e w4 ⟨rfl, hb4⟩; have HB4 := Lib.hid (HB3.out.trans (hb4.mono HB3.out.size)); clear hb4))
          go_ret
          exact ⟨by rw [HS.out, HR.out]; rfl, HB3.out⟩
        by_cases hhi : 4096 < align
        · have HR := Lib.hid (show b4 = false by rw [HP2.out, decide_eq_false (show ¬ align ≤ 4096 by omega)]; simp)
          clear HP2
          go_enter Try.func25, Try.ntmps25
          go_wp2_with (first
              | ((with_reducible show wpList _ _ _ (⟨some 2, .box _ _, _, _, _, _⟩ :: _) _ _); go_must (refine wpList_box rfl ?_; intro w1 hx1 hb1 hs1; obtain ⟨c0, c1, c2, c3, c4, c5⟩ := part_box (x := (⟨name, flags, align, size, data, relas⟩, dv, rv)) hx1; have HX1 := Lib.hid hx1; have HB1 := Lib.hid hb1; clear hx1 hb1))
              | (go_at_call 58; refine (HNM.out _).mono ?_; rintro e w2 ⟨rfl, hb2⟩; have HB2 := Lib.hid (HB1.out.trans (hb2.mono HB1.out.size)); obtain ⟨c0, c1, c2, c3, c4, c5⟩ := part_box (x := (⟨name, flags, align, size, data, relas⟩, dv, rv)) (heap_below hb2 HX1.out); have HX2 := Lib.hid (heap_below hb2 HX1.out); clear hb2)
              | (go_at_call 59; refine (HOR.out _).mono ?_; rintro e w3 ⟨rfl, hb3⟩; have HB3 := Lib.hid (HB2.out.trans (hb3.mono HB2.out.size)); obtain ⟨c0, c1, c2, c3, c4, c5⟩ := part_box (x := (⟨name, flags, align, size, data, relas⟩, dv, rv)) (heap_below hb3 HX2.out); clear hb3)
              | (go_at_call 60; refine (HSZ.out _ HB3.out).mono ?_; rintro e w4 ⟨rfl, hb4⟩; have HB4 := Lib.hid (HB3.out.trans (hb4.mono HB3.out.size)); clear hb4))
          go_ret
          exact ⟨by rw [HS.out, HR.out]; rfl, HB3.out⟩
        obtain ⟨m, rfl⟩ : ∃ m : Nat, align = (m : Int) := ⟨align.toNat, by omega⟩
        have HA := and_i64' (a := m) (by omega) (by omega)
        have HP3 : Hid (b4 = decide (m &&& (m - 1) = 0)) := by
          rw [HP2.out, decide_eq_true (show (1 : Int) ≤ (m : Int) by omega), decide_eq_true (show (m : Int) ≤ 4096 by omega)]
          rfl
        clear HP2
        generalize m &&& (m - 1) = z at *
        have hlo' : (1 : Int) ≤ (m : Int) := by omega
        have hhi' : (m : Int) ≤ 4096 := by omega
        have ht := (congrArg (fun x : Int => x != 0) HA).trans (show ((z : Int) != 0) = decide (z ≠ 0) by rw [Bool.eq_iff_iff]; simp)
        clear HA
        by_cases hz : z = 0
        · have HR := Lib.hid (show b4 = true by rw [HP3.out, decide_eq_true hz])
          simp only [hz, ne_eq, not_true_eq_false, decide_false] at ht
          clear HP3 hz
          cases b3 with
          | false =>
            go_enter Try.func25, Try.ntmps25
            go_wp2_with (first
                | ((with_reducible show wpList _ _ _ (⟨some 2, .box _ _, _, _, _, _⟩ :: _) _ _); go_must (refine wpList_box rfl ?_; intro w1 hx1 hb1 hs1; obtain ⟨c0, c1, c2, c3, c4, c5⟩ := part_box (x := (⟨name, flags, (m : Int), size, data, relas⟩, dv, rv)) hx1; have HX1 := Lib.hid hx1; have HB1 := Lib.hid hb1; clear hx1 hb1))
                | (go_at_call 58; refine (HNM.out _).mono ?_; rintro e w2 ⟨rfl, hb2⟩; have HB2 := Lib.hid (HB1.out.trans (hb2.mono HB1.out.size)); obtain ⟨c0, c1, c2, c3, c4, c5⟩ := part_box (x := (⟨name, flags, (m : Int), size, data, relas⟩, dv, rv)) (heap_below hb2 HX1.out); have HX2 := Lib.hid (heap_below hb2 HX1.out); clear hb2)
                | (go_at_call 59; refine (HOR.out _).mono ?_; rintro e w3 ⟨rfl, hb3⟩; have HB3 := Lib.hid (HB2.out.trans (hb3.mono HB2.out.size)); obtain ⟨c0, c1, c2, c3, c4, c5⟩ := part_box (x := (⟨name, flags, (m : Int), size, data, relas⟩, dv, rv)) (heap_below hb3 HX2.out); clear hb3)
                | (go_at_call 60; refine (HSZ.out _ HB3.out).mono ?_; rintro e w4 ⟨rfl, hb4⟩; have HB4 := Lib.hid (HB3.out.trans (hb4.mono HB3.out.size)); clear hb4))
            go_ret
            exact ⟨by rw [HS.out, HR.out]; rfl, HB4.out⟩
          | true =>
            go_enter Try.func25, Try.ntmps25
            go_wp2_with (first
                | ((with_reducible show wpList _ _ _ (⟨some 2, .box _ _, _, _, _, _⟩ :: _) _ _); go_must (refine wpList_box rfl ?_; intro w1 hx1 hb1 hs1; obtain ⟨c0, c1, c2, c3, c4, c5⟩ := part_box (x := (⟨name, flags, (m : Int), size, data, relas⟩, dv, rv)) hx1; have HX1 := Lib.hid hx1; have HB1 := Lib.hid hb1; clear hx1 hb1))
                | (go_at_call 58; refine (HNM.out _).mono ?_; rintro e w2 ⟨rfl, hb2⟩; have HB2 := Lib.hid (HB1.out.trans (hb2.mono HB1.out.size)); obtain ⟨c0, c1, c2, c3, c4, c5⟩ := part_box (x := (⟨name, flags, (m : Int), size, data, relas⟩, dv, rv)) (heap_below hb2 HX1.out); have HX2 := Lib.hid (heap_below hb2 HX1.out); clear hb2)
                | (go_at_call 59; refine (HOR.out _).mono ?_; rintro e w3 ⟨rfl, hb3⟩; have HB3 := Lib.hid (HB2.out.trans (hb3.mono HB2.out.size)); obtain ⟨c0, c1, c2, c3, c4, c5⟩ := part_box (x := (⟨name, flags, (m : Int), size, data, relas⟩, dv, rv)) (heap_below hb3 HX2.out); clear hb3)
                | (go_at_call 60; refine (HSZ.out _ HB3.out).mono ?_; rintro e w4 ⟨rfl, hb4⟩; have HB4 := Lib.hid (HB3.out.trans (hb4.mono HB3.out.size)); clear hb4))
            go_ret
            exact ⟨by rw [HS.out, HR.out]; rfl, HB4.out⟩
        · have HR := Lib.hid (show b4 = false by rw [HP3.out, decide_eq_false hz])
          simp only [hz, ne_eq, not_false_eq_true, decide_true] at ht
          clear HP3 hz
          go_enter Try.func25, Try.ntmps25
          go_wp2_with (first
              | ((with_reducible show wpList _ _ _ (⟨some 2, .box _ _, _, _, _, _⟩ :: _) _ _); go_must (refine wpList_box rfl ?_; intro w1 hx1 hb1 hs1; obtain ⟨c0, c1, c2, c3, c4, c5⟩ := part_box (x := (⟨name, flags, (m : Int), size, data, relas⟩, dv, rv)) hx1; have HX1 := Lib.hid hx1; have HB1 := Lib.hid hb1; clear hx1 hb1))
              | (go_at_call 58; refine (HNM.out _).mono ?_; rintro e w2 ⟨rfl, hb2⟩; have HB2 := Lib.hid (HB1.out.trans (hb2.mono HB1.out.size)); obtain ⟨c0, c1, c2, c3, c4, c5⟩ := part_box (x := (⟨name, flags, (m : Int), size, data, relas⟩, dv, rv)) (heap_below hb2 HX1.out); have HX2 := Lib.hid (heap_below hb2 HX1.out); clear hb2)
              | (go_at_call 59; refine (HOR.out _).mono ?_; rintro e w3 ⟨rfl, hb3⟩; have HB3 := Lib.hid (HB2.out.trans (hb3.mono HB2.out.size)); obtain ⟨c0, c1, c2, c3, c4, c5⟩ := part_box (x := (⟨name, flags, (m : Int), size, data, relas⟩, dv, rv)) (heap_below hb3 HX2.out); clear hb3)
              | (go_at_call 60; refine (HSZ.out _ HB3.out).mono ?_; rintro e w4 ⟨rfl, hb4⟩; have HB4 := Lib.hid (HB3.out.trans (hb4.mono HB3.out.size)); clear hb4))
          go_ret
          exact ⟨by rw [HS.out, HR.out]; rfl, HB3.out⟩
end Go.Proofs.Ytimnbnomaajmmaa
namespace Go.Proofs.Ytimnbnomaajmmaa
open Go.RowKit Go.Fd
theorem build_one (s : List UInt8) : decide ((buildR [s]).2.2 = 0) = mayS s := by
  cases h : mayS s with
  | false =>
    rw [decide_eq_false_iff_not]
    unfold buildR
    rw [if_neg (by simp [h])]
    decide
  | true =>
    rw [decide_eq_true_iff]
    unfold buildR
    have h1 := (buildT_len [s] (fun x hx => by rw [List.mem_singleton] at hx; subst hx; exact mayS_len h)).1
    rw [List.length_singleton] at h1
    rw [if_pos (by simp [h]), if_neg (by omega)]
theorem named_may (s : List UInt8) : namedF s = (mayS s && !decide (s = []) && !decide (s = symtabN) && !decide (s = strtabN) && !decide (s = tabName) && !decide (s.take 5 = relaN)) := by
  unfold namedF
  rw [build_one]
theorem part_cells {w wr : World} {a : Option Addr} {L : List (PartM × Value × Value)} {x : PartM × Value × Value} {k : Nat}
    (hc : ∀ i x, L[i]? = some x → 0 < 6 → ∃ b off, a = some ⟨b, off, none⟩ ∧ ∀ c, c < 6 → w.cell? ⟨b, off + (i * 6 + c), none⟩ = (encPart x)[c]?) (hb : Below w.heap.size w wr) (hk : L[k]? = some x) :
    ∃ b o, a = some ⟨b, o, none⟩ ∧ wr.cell? ⟨b, o + k * 6, none⟩ = some (.string ⟨x.1.name.toArray⟩) ∧ wr.cell? ⟨b, o + k * 6 + 1, none⟩ = some (.string ⟨x.1.flags.toArray⟩) ∧ wr.cell? ⟨b, o + k * 6 + 2, none⟩ = some (.int .i64 x.1.align) ∧ wr.cell? ⟨b, o + k * 6 + 3, none⟩ = some (.int .i64 x.1.size) ∧ wr.cell? ⟨b, o + k * 6 + 4, none⟩ = some x.2.1 ∧ wr.cell? ⟨b, o + k * 6 + 5, none⟩ = some x.2.2 ∧ b < w.heap.size := by
  obtain ⟨b, o, ha, hcc⟩ := hc k x hk (by decide)
  have hd : ∀ c v, (encPart x)[c]? = some v → wr.cell? ⟨b, o + k * 6 + c, none⟩ = some v := fun c v h => by
    have h6 : c < 6 := (List.getElem?_eq_some_iff.1 h).1
    have := (hcc c h6).trans h
    rw [← Nat.add_assoc] at this
    exact (hb.cell (block_lt this)).trans this
  have h0 : b < w.heap.size := block_lt ((hcc 0 (by decide)).trans rfl)
  exact ⟨b, o, ha, hd 0 _ rfl, hd 1 _ rfl, hd 2 _ rfl, hd 3 _ rfl, hd 4 _ rfl, hd 5 _ rfl, h0⟩
end Go.Proofs.Ytimnbnomaajmmaa
namespace Go.Proofs.Ytimnbnomaajmmaa
open Go.RowKit Go.Fd
/-! ### Letters -/
/-- All lists that keep some of the letters, in their order. -/
def subsF : List UInt8 → List (List UInt8)
  | [] => [[]]
  | x :: ls => (subsF ls).map (x :: ·) ++ subsF ls
theorem ordF_subs : ∀ (ls fs : List UInt8), ordF fs ls = true → fs ∈ subsF ls := by
  intro ls
  induction ls with
  | nil =>
    intro fs h
    cases fs with
    | nil => simp [subsF]
    | cons c fs => simp [ordF] at h
  | cons x ls ih =>
    intro fs h
    cases fs with
    | nil => rw [subsF, List.mem_append]; exact .inr (ih [] (by cases ls <;> rfl))
    | cons c fs =>
      rw [ordF] at h
      rw [subsF, List.mem_append, List.mem_map]
      split at h
      · next e => exact .inl ⟨fs, ih fs h, by rw [e]⟩
      · exact .inr (ih _ h)
theorem text_bits {fs : List UInt8} (h : ordF fs lettersM = true) : textN (bitsN fs) (hasF fs 110) = fs := by
  have hall : ∀ fs ∈ subsF lettersM, textN (bitsN fs) (hasF fs 110) = fs := by decide
  exact hall fs (ordF_subs _ _ h)
theorem bits_lt (fs : List UInt8) : bitsN fs < 2048 := by
  unfold bitsN
  repeat' split
  all_goals omega
/-! ### What a part that may be is -/
theorem partE_0 {p : PartM} {b : Bool} (h : partE p b = 0) : namedF p.name = true ∧ b = false ∧ ordF p.flags lettersM = true ∧ pow2F p.align = true ∧ sizedF p = true := by
  unfold partE at h
  repeat' split at h
  all_goals first | omega | skip
  next h1 h2 h3 h4 h5 => exact ⟨by simpa using h1, by simpa using h2, by simpa using h3, by simpa using h4, by simpa using h5⟩
theorem partsE_0 : ∀ (ps : List PartM) (seen : List (List UInt8)), partsE ps seen = 0 → (∀ p ∈ ps, partE p false = 0) ∧ (ps.map (·.name)).Nodup ∧ ∀ p ∈ ps, p.name ∉ seen := by
  intro ps
  induction ps with
  | nil => intro seen _; simp
  | cons p ps ih =>
    intro seen h
    rw [partsE] at h
    split at h
    · next h0 =>
      obtain ⟨h1, h2, h3⟩ := ih _ h
      have hb := (partE_0 h0).2.1
      rw [decide_eq_false_iff_not] at hb
      refine ⟨fun q hq => ?_, ?_, fun q hq => ?_⟩
      · rcases List.mem_cons.1 hq with rfl | hq
        · rw [← h0]; congr 1; simp [hb]
        · exact h1 q hq
      · rw [List.map_cons, List.nodup_cons]
        refine ⟨fun hm => ?_, h2⟩
        obtain ⟨q, hq, he⟩ := List.mem_map.1 hm
        exact h3 q hq (by rw [he]; simp)
      · rcases List.mem_cons.1 hq with rfl | hq
        · exact hb
        · intro hs; exact h3 q hq (by simp [hs])
    · next h0 => exact absurd h h0
theorem pow2F_le {n : Int} (h : pow2F n = true) : 1 ≤ n ∧ n ≤ 4096 := by
  unfold pow2F at h
  simp only [Bool.and_eq_true, decide_eq_true_eq] at h
  exact h.1
theorem sizedF_le {p : PartM} (h : sizedF p = true) : 0 ≤ p.size ∧ (hasF p.flags 110 = true → p.size ≤ 1048576 ∧ p.data = []) ∧ (hasF p.flags 110 = false → p.size = (p.data.length : Int)) := by
  unfold sizedF at h
  split at h
  · next h0 =>
    simp only [Bool.and_eq_true, decide_eq_true_eq] at h
    exact ⟨h.1.1, fun _ => ⟨h.1.2, h.2⟩, fun e => by rw [h0] at e; cases e⟩
  · next h0 =>
    rw [decide_eq_true_eq] at h
    exact ⟨by omega, fun e => absurd e h0, fun _ => h⟩
/-! ### A section of a part tells the part -/
/-- What a module's numbers are at most. -/
structure ObjWf (o : ObjM) : Prop where
  target : -9223372036854775808 ≤ o.target ∧ o.target < 9223372036854775808
  nums : ∀ p ∈ o.parts, (-9223372036854775808 ≤ p.align ∧ p.align < 9223372036854775808) ∧ (-9223372036854775808 ≤ p.size ∧ p.size < 9223372036854775808) ∧ p.data.length < 4611686018427387904
  relas : ∀ p ∈ o.parts, p.relas.length ≤ 1000 ∧ ∀ x ∈ p.relas, x.off < 18446744073709551616 ∧ -9223372036854775808 ≤ x.add ∧ x.add < 9223372036854775808
  many : o.syms.length ≤ 1000
  syms : ∀ s ∈ o.syms, s.value < 18446744073709551616 ∧ s.size < 18446744073709551616
theorem wrap_u {x : Int} (h1 : 0 ≤ x) (h2 : x < 9223372036854775808) : wrap64 ((u64of x : Nat) : Int) = x := by
  rw [u64of_pos h1 (by omega), wrap64]; omega
theorem part_back {p : PartM} (h : partE p false = 0) (hd : p.data.length < 4611686018427387904) : partOf (secPart p) = { p with relas := [] } := by
  obtain ⟨h1, -, h3, h4, h5⟩ := partE_0 h
  have ha := pow2F_le h4
  have hs := sizedF_le h5
  unfold partOf secPart
  have hb : decide ((if hasF p.flags 110 = true then 8 else 1) = 8) = hasF p.flags 110 := by
    cases hasF p.flags 110 <;> simp
  have hsz : p.size < 9223372036854775808 := by
    cases hh : hasF p.flags 110 with
    | true => have := (hs.2.1 hh).1; omega
    | false => have := hs.2.2 hh; omega
  cases p
  dsimp only at *
  rw [hb, text_bits h3, wrap_u (by omega) (by omega), wrap_u hs.1 hsz]
theorem lkp_putN (A : List (List UInt8 × Nat)) (s : List UInt8) (n : Nat) (x : List UInt8) : lkp (putN A s n) x = if x = s then some n else lkp A x := by
  unfold putN
  split
  · next h =>
    induction A with
    | nil => simp at h
    | cons p A ih =>
      obtain ⟨q, m⟩ := p
      rw [List.map_cons]
      by_cases hq : q = s
      · subst hq
        rw [if_pos rfl, lkp_cons, lkp_cons]
        by_cases hx : x = q
        · rw [if_pos hx, if_pos hx]
        · rw [if_neg hx, if_neg hx, if_neg hx]
          -- behind it nothing that is looked for changes
          clear ih h
          induction A with
          | nil => rfl
          | cons r A ih =>
            obtain ⟨y, k⟩ := r
            rw [List.map_cons]
            dsimp only
            by_cases hy : y = q
            · subst hy; rw [if_pos rfl, lkp_cons, lkp_cons, if_neg hx, if_neg hx]; exact ih
            · rw [if_neg hy, lkp_cons, lkp_cons]
              split
              · rfl
              · exact ih
      · rw [if_neg hq, lkp_cons, lkp_cons]
        rw [List.map_cons, List.mem_cons] at h
        have h' := h.resolve_left (fun e => hq e.symm)
        rw [ih h']
        by_cases hx : x = q
        · rw [if_pos hx, if_neg (fun e => hq (hx ▸ e)), if_pos hx]
        · rw [if_neg hx, if_neg hx]
  · next h =>
    by_cases hx : x = s
    · subst hx
      rw [if_pos rfl]
      refine lkp_app ?_ n
      cases hl : lkp A x with
      | none => rfl
      | some v =>
        exfalso; apply h
        induction A with
        | nil => cases hl
        | cons r A ih =>
          obtain ⟨y, k⟩ := r
          rw [lkp_cons] at hl
          rw [List.map_cons, List.mem_cons]
          by_cases e : x = y
          · exact .inl e
          · rw [if_neg e] at hl
            rw [List.map_cons, List.mem_cons, not_or] at h
            exact .inr (ih h.2 hl)
    · rw [if_neg hx]; exact lkp_other hx _ _
theorem secPart_typ (p : PartM) : (secPart p).typ ≠ 4 := by unfold secPart; dsimp only; split <;> omega
/-! ### Sections of a module tell the module -/
def bareP (p : PartM) : PartM := { p with relas := [] }
theorem modP_parts : ∀ (ps qs : List PartM) (A : List (List UInt8 × Nat)) (R : List SecM), (∀ p ∈ ps, partE p false = 0 ∧ p.data.length < 4611686018427387904) → ((qs ++ ps).map (·.name)).Nodup → (∀ (j : Nat) (q : PartM), qs[j]? = some q → lkp A q.name = some j) →
    ∃ A', modP (ps.map secPart ++ R) qs A = modP R (qs ++ ps.map bareP) A' ∧ ∀ (j : Nat) (q : PartM), (qs ++ ps)[j]? = some q → lkp A' q.name = some j := by
  intro ps
  induction ps with
  | nil => intro qs A R _ _ h; exact ⟨A, by simp, by simpa using h⟩
  | cons p ps ih =>
    intro qs A R hp hn h
    have hb := part_back (hp p (by simp)).1 (hp p (by simp)).2
    have hnm : (bareP p).name = p.name := rfl
    have hmap : ((qs ++ [bareP p] ++ ps).map (·.name)) = ((qs ++ p :: ps).map (·.name)) := by simp [bareP]
    obtain ⟨A', e1, e2⟩ := ih (qs ++ [bareP p]) (putN A p.name qs.length) R (fun q hq => hp q (by simp [hq])) (by rw [hmap]; exact hn) (fun j q hj => by
      rw [lkp_putN]
      by_cases hlt : j < qs.length
      · rw [List.getElem?_append_left hlt] at hj
        have hne : q.name ≠ p.name := by
          intro e
          rw [List.map_append, List.nodup_append] at hn
          exact hn.2.2 q.name (List.mem_map.2 ⟨q, List.mem_of_getElem? hj, rfl⟩) p.name (by simp) e
        rw [if_neg hne]; exact h j q hj
      · rw [List.getElem?_append_right (by omega)] at hj
        have h0 : j - qs.length = 0 := by
          have := (List.getElem?_eq_some_iff.1 hj).1
          simp at this; omega
        rw [h0] at hj
        simp at hj
        rw [← hj, hnm, if_pos rfl]
        exact congrArg some (by omega))
    refine ⟨A', ?_, fun j q hj => ?_⟩
    · rw [List.map_cons, List.cons_append, modP, if_pos (secPart_typ p), show (secPart p).name = p.name from rfl, hb]
      rw [show ({ p with relas := [] } : PartM) = bareP p from rfl, e1]
      simp
    · by_cases hlt : j = qs.length
      · subst hlt
        rw [List.getElem?_append_right (by omega)] at hj
        simp at hj
        subst hj
        exact e2 qs.length (bareP p) (by simp)
      · refine e2 j q ?_
        rcases Nat.lt_or_ge j qs.length with hl | hl
        · rw [List.append_assoc, List.getElem?_append_left hl]; rwa [List.getElem?_append_left hl] at hj
        · rw [List.append_assoc, List.getElem?_append_right hl]
          rw [List.getElem?_append_right hl] at hj
          obtain ⟨m, hm⟩ : ∃ m, j - qs.length = m + 1 := ⟨j - qs.length - 1, by omega⟩
          rw [hm] at hj ⊢
          simpa using hj
theorem modR_parts : ∀ (ps qs : List PartM) (R : List SecM), (∀ p ∈ ps, partE p false = 0 ∧ p.data.length < 4611686018427387904) → modR (ps.map secPart ++ R) qs = modR R (qs ++ ps.map bareP) := by
  intro ps
  induction ps with
  | nil => intro qs R _; simp
  | cons p ps ih =>
    intro qs R hp
    have hb := part_back (hp p (by simp)).1 (hp p (by simp)).2
    rw [List.map_cons, List.cons_append, modR, if_pos (secPart_typ p), hb, ih _ _ (fun q hq => hp q (by simp [hq]))]
    rw [show ({ p with relas := [] } : PartM) = bareP p from rfl]
    simp
theorem trim_rel (n : List UInt8) : trimRel (relaN ++ n) = n := by
  unfold trimRel
  rw [if_pos (by simp [relaN])]
  simp [relaN]
theorem set_rel (qs ps : List PartM) (p : PartM) : setRel (qs ++ bareP p :: ps) qs.length p.relas = qs ++ p :: ps := by
  unfold setRel
  induction qs with
  | nil => simp [bareP]
  | cons q qs ih =>
    rw [List.cons_append, List.length_cons, List.modify_succ_cons, ih]
    rfl
theorem modP_rels (A : List (List UInt8 × Nat)) (st : Nat) : ∀ (ps qs : List PartM), (∀ p ∈ ps, relaRd (relaW p.relas).1 = (p.relas, 0)) → (∀ (j : Nat) (q : PartM), (qs ++ ps)[j]? = some q → lkp A q.name = some j) → modP (relSecs st qs.length ps) (qs ++ ps.map bareP) A = some (qs ++ ps) := by
  intro ps
  induction ps with
  | nil => intro qs _ _; simp [relSecs, modP]
  | cons p ps ih =>
    intro qs hr h
    have ih' := ih (qs ++ [p]) (fun q hq => hr q (by simp [hq])) (by simpa using h)
    rw [List.length_append, List.length_singleton, List.append_assoc, List.append_assoc] at ih'
    rw [relSecs, List.map_cons]
    by_cases hh : hasRel p = true
    · rw [if_pos hh, modP, if_neg (by simp [relSec])]
      have hl : lkp A (trimRel (relSec st qs.length p).name) = some qs.length := by
        show lkp A (trimRel (relaN ++ p.name)) = _
        rw [trim_rel]
        exact h qs.length p (by simp)
      rw [hl]
      dsimp only
      rw [show (relSec st qs.length p).data = (relaW p.relas).1 from rfl, hr p (by simp), if_neg (by simp), set_rel]
      exact ih'
    · rw [if_neg hh]
      have hb : bareP p = p := by
        unfold hasRel at hh
        simp at hh
        cases p; simp only [bareP, PartM.mk.injEq, true_and] at *; exact hh.symm
      rw [hb]
      exact ih'
theorem modR_rels (st : Nat) : ∀ (ps qs : List PartM), (∀ p ∈ ps, relaRd (relaW p.relas).1 = (p.relas, 0)) → modR (relSecs st qs.length ps) (qs ++ ps.map bareP) = some (qs ++ ps) := by
  intro ps
  induction ps with
  | nil => intro qs _; simp [relSecs, modR]
  | cons p ps ih =>
    intro qs hr
    have ih' := ih (qs ++ [p]) (fun q hq => hr q (by simp [hq]))
    rw [List.length_append, List.length_singleton, List.append_assoc, List.append_assoc] at ih'
    rw [relSecs, List.map_cons]
    by_cases hh : hasRel p = true
    · rw [if_pos hh, modR, if_neg (by simp [relSec])]
      rw [show (relSec st qs.length p).info = qs.length + 1 from rfl, if_neg (by simp)]
      rw [show (relSec st qs.length p).data = (relaW p.relas).1 from rfl, hr p (by simp), if_neg (by simp), show qs.length + 1 - 1 = qs.length from rfl, set_rel]
      exact ih'
    · rw [if_neg hh]
      have hb : bareP p = p := by
        unfold hasRel at hh
        simp at hh
        cases p; simp only [bareP, PartM.mk.injEq, true_and] at *; exact hh.symm
      rw [hb]
      exact ih'
end Go.Proofs.Ytimnbnomaajmmaa
namespace Go.Proofs.Ytimnbnomaajmmaa
open Go.RowKit Go.Fd
theorem elf0_ok : ElfOk elf0 := ⟨⟨by decide, by decide, by decide, by decide, (fun s hs => by cases hs), (fun s hs => by cases hs)⟩, by decide, (fun s hs => by cases hs), by decide, by decide⟩
end Go.Proofs.Ytimnbnomaajmmaa
namespace Go.Fd
open Go.RowKit
structure FlM where
  code : Int
  a : Int
  b : Int
deriving DecidableEq
abbrev encFl (f : FlM) : List Value := [.int .i64 f.code, .int .i64 f.a, .int .i64 f.b]
structure WSec where
  name : Nat
  typ : Nat
  addr : Nat
  align : Nat
  pl : Nat
  size : Nat
structure WSeg where
  typ : Nat
  flags : Nat
  off : Nat
  align : Nat
  pl : Nat
  psize : Nat
  mem : Nat
  msize : Nat
abbrev U6 (n : Nat) : Value := .int .u64 (n : Int)
abbrev encWS (s : WSec) : List Value := [U6 s.name, U6 s.typ, U6 s.addr, U6 s.align, U6 s.pl, U6 s.size]
abbrev encWG (s : WSeg) : List Value := [U6 s.typ, U6 s.flags, U6 s.off, U6 s.align, U6 s.pl, U6 s.psize, U6 s.mem, U6 s.msize]
/-- Have two stretches some in common? -/
def commonB (a s b t : Nat) : Bool := if b < a then decide (0 < s) && decide (a - b < t) else decide (0 < t) && decide (b - a < s)
/-- Is a stretch within the first n? -/
def withinB (a s n : Nat) : Bool := decide (s = 0) || (decide (a ≤ n) && decide (s ≤ n - a))
def fullB (s : WSec) : Bool := !decide (s.typ = 0) && !decide (s.typ = 8)
def pow2B (n : Nat) : Bool := !decide (n = 0) && decide (n &&& (n - 1) = 0)
def namedB (s : WSec) (tab : List UInt8) : Bool := decide (s.name < tab.length) && decide ((0 : UInt8) ∈ tab.drop s.name)
end Go.Fd
namespace Go.Proofs.Ytimnbnomaajmmaa
open Go.RowKit Go.Fd
def secW (l : List UInt8) (a : Nat) : WSec := ⟨gN l a 4, gN l (a + 4) 4, gN l (a + 16) 8, gN l (a + 48) 8, gN l (a + 24) 8, gN l (a + 32) 8⟩
def segW (l : List UInt8) (a : Nat) : WSeg := ⟨gN l a 4, gN l (a + 4) 4, gN l (a + 8) 8, gN l (a + 48) 8, gN l (a + 8) 8, gN l (a + 32) 8, gN l (a + 16) 8, gN l (a + 40) 8⟩
def secsW (l : List UInt8) (n : Nat) : List WSec := (List.range n).map fun i => secW l (gN l 40 8 + 64 * i)
def segsW (l : List UInt8) (n : Nat) : List WSeg := (List.range n).map fun i => segW l (gN l 32 8 + 56 * i)
theorem secsW_get {l : List UInt8} {n i : Nat} (h : i < n) : (secsW l n)[i]? = some (secW l (gN l 40 8 + 64 * i)) := by
  unfold secsW
  rw [List.getElem?_map, List.getElem?_range h]; rfl
theorem secsW_len (l : List UInt8) (n : Nat) : (secsW l n).length = n := by unfold secsW; simp
theorem segsW_len (l : List UInt8) (n : Nat) : (segsW l n).length = n := by unfold segsW; simp
theorem secsW_succ (l : List UInt8) (n : Nat) : secsW l (n + 1) = secsW l n ++ [secW l (gN l 40 8 + 64 * n)] := by
  unfold secsW; rw [List.range_succ, List.map_append]; rfl
theorem segsW_succ (l : List UInt8) (n : Nat) : segsW l (n + 1) = segsW l n ++ [segW l (gN l 32 8 + 56 * n)] := by
  unfold segsW; rw [List.range_succ, List.map_append]; rfl
/-- Does it begin as a file does? -/
def bad1 (l : List UInt8) : Bool := decide (l.length < 64) || !decide (l.take 7 = [127, 69, 76, 70, 2, 1, 1])
def bad2 (l : List UInt8) : Bool := (!decide (gN l 16 2 = 1) && !decide (gN l 16 2 = 2)) || !decide (gN l 20 4 = 1) || !decide (gN l 52 2 = 64) || (decide (0 < gN l 56 2) && !decide (gN l 54 2 = 56)) || !decide (gN l 58 2 = 64)
def bad3 (l : List UInt8) : Bool := !withinB (gN l 32 8) (gN l 56 2 * 56) l.length || !withinB (gN l 40 8) (gN l 60 2 * 64) l.length || decide (gN l 60 2 ≤ gN l 62 2)
def fl (b : Bool) (c a d : Int) : List FlM := if b = true then [⟨c, a, d⟩] else []
theorem fl_no {b : Bool} {c a d : Int} (h : b = false) : fl b c a d = [] := by rw [h]; rfl
theorem fl_yes {b : Bool} {c a d : Int} (h : b = true) : fl b c a d = [⟨c, a, d⟩] := by rw [h]; rfl
def headF (l : List UInt8) : List FlM := if bad1 l = true then [⟨1, 0, 0⟩] else fl (bad2 l) 2 0 0 ++ fl (bad3 l) 3 0 0
/-- The table of names. -/
def tabW (l : List UInt8) (t : WSec) : List UInt8 := if fullB t = true ∧ 0 < t.size then (l.drop t.pl).take t.size else []
/-- What a section's flaw tells. -/
def SecFl (l : List UInt8) (S : List WSec) (own : Nat) (f : FlM) : Prop :=
  (∃ (i : Nat) (s : WSec), S[i]? = some s ∧ f = ⟨4, i, 0⟩ ∧ fullB s = true ∧ withinB s.pl s.size l.length = false) ∨
  (∃ (i : Nat) (s : WSec), S[i]? = some s ∧ f = ⟨5, i, 0⟩ ∧ s.align ≠ 0 ∧ (pow2B s.align = false ∨ s.addr % s.align ≠ 0)) ∨
  (∃ (i : Nat) (s t : WSec), S[i]? = some s ∧ S[own]? = some t ∧ f = ⟨6, i, 0⟩ ∧ namedB s (tabW l t) = false) ∨
  (∃ (i k : Nat) (s t : WSec), i < k ∧ S[i]? = some s ∧ S[k]? = some t ∧ f = ⟨7, i, k⟩ ∧ fullB s = true ∧ fullB t = true ∧ commonB s.pl s.size t.pl t.size = true)
/-- What a flaw of a file with a sound header tells. -/
def FlOk (l : List UInt8) (f : FlM) : Prop := SecFl l (secsW l (gN l 60 2)) (gN l 62 2) f ∨ (8 ≤ f.code ∧ (gN l 56 2 ≠ 0 ∨ gN l 16 2 = 2))
/-- What the flaws of a file are. -/
def Checked (l : List UInt8) (F : List FlM) : Prop := (headF l ≠ [] → F = headF l) ∧ (headF l = [] → ∀ f ∈ F, FlOk l f)
end Go.Proofs.Ytimnbnomaajmmaa
namespace Go.Proofs.Ytimnbnomaajmmaa
open Go.RowKit Go.Fd
theorem sec_w {l : List UInt8} {a n p : Nat} {s : SecM} (h : Has l a (hdrBy n s p)) (hf : s.fits) (hn : n < 4294967296) (hp : p < 18446744073709551616) : secW l a = ⟨n, s.typ, s.addr, s.align, p, s.size⟩ := by
  obtain ⟨f1, f2, f3, f4, f5, f6, f7, f8⟩ := hf
  have g0 := (h.sub (hdrBy_has n s p (i := 0) rfl rfl) (r := a) (by simp) : Has l a (fixed n 4)).num sz4 hn
  have g1 := (h.sub (hdrBy_has n s p (i := 1) rfl rfl) (r := a + 4) (by simp [length_fixed]) : Has l (a + 4) (fixed s.typ 4)).num sz4 f1
  have g3 := (h.sub (hdrBy_has n s p (i := 3) rfl rfl) (r := a + 16) (by simp [length_fixed]) : Has l (a + 16) (fixed s.addr 8)).num sz8 f3
  have g4 := (h.sub (hdrBy_has n s p (i := 4) rfl rfl) (r := a + 24) (by simp [length_fixed]) : Has l (a + 24) (fixed p 8)).num sz8 hp
  have g5 := (h.sub (hdrBy_has n s p (i := 5) rfl rfl) (r := a + 32) (by simp [length_fixed]) : Has l (a + 32) (fixed s.size 8)).num sz8 f5
  have g8 := (h.sub (hdrBy_has n s p (i := 8) rfl rfl) (r := a + 48) (by simp [length_fixed]) : Has l (a + 48) (fixed s.align 8)).num sz8 f4
  unfold secW
  rw [g0, g1, g3, g4, g5, g8]
/-- The section that is none, ahead of all others. -/
theorem tabSec_fitsW {n : Nat} (h : n < 4294967296) : (tabSec n).fits := by
  unfold tabSec SecM.fits
  refine ⟨?_, ?_, ?_, ?_, ?_, ?_, ?_, ?_⟩ <;> simp <;> omega
/-- Zeros stand in a list. -/
theorem gN_zeros {l : List UInt8} {p n a s : Nat} (h : Has l p (List.replicate n 0)) (hs : Sized s) (h1 : p ≤ a) (h2 : a + s ≤ p + n) : gN l a s = 0 := by
  obtain ⟨x, y, rfl, rfl⟩ := h
  rw [gN_in hs (by simp only [List.length_append, List.length_replicate]; omega)]
  have e : ((x ++ (List.replicate n (0 : UInt8) ++ y)).drop a).take s = List.replicate s 0 := by
    rw [List.drop_append, List.drop_eq_nil_of_le h1, List.nil_append, List.drop_append, List.take_append]
    simp only [List.drop_replicate, List.take_replicate, List.length_replicate]
    rw [show min s (n - (a - x.length)) = s by omega, show s - (n - (a - x.length)) = 0 by omega]
    simp
  rw [e]
  clear e
  clear h2 hs
  induction s with
  | zero => rfl
  | succ s ih => rw [List.replicate_succ, numLE, ih]; rfl
theorem has_null {e : ElfM} (h : MayK e) : Has (fileB e) (headsOf e (tabOf e).length) (List.replicate 64 0) := by
  have hg := heads_ge (e := e)
  unfold fileB midB
  refine Has.right (Has.right ?_ _) _
  have hl : (bodyB e ++ tabOf e).length = (placesOf e).2 + (tabOf e).length := by rw [List.length_append, bodyB_len h.pow]
  rw [show headsOf e (tabOf e).length + 64 - ((placesOf e).2 + (tabOf e).length) = (headsOf e (tabOf e).length - ((placesOf e).2 + (tabOf e).length)) + 64 by omega, ← List.replicate_append_replicate, ← List.append_assoc]
  exact (Has.all _).left _ (by rw [List.length_append, hl, List.length_replicate]; omega)
theorem atR_zero {tab : List UInt8} {n : Nat} {x : List UInt8} (h : atR tab n = (x, 0)) : n < tab.length ∧ (0 : UInt8) ∈ tab.drop n := by
  have key : ∀ l g, upto0 l = some g → (0 : UInt8) ∈ l := by
    intro l
    induction l with
    | nil => intro g h; cases h
    | cons c l ih =>
      intro g h
      rw [upto0] at h
      split at h
      · next hc => simp_all
      · cases hr : upto0 l with
        | none => rw [hr] at h; cases h
        | some g' => exact List.mem_cons_of_mem _ (ih g' hr)
  unfold atR at h
  split at h
  · cases h
  · next h1 =>
    split at h
    · cases h
    · next g hg => exact ⟨by omega, by simpa using key _ _ hg⟩
theorem plF_mono {g : Bool} {n : Nat} {l : List SecM} (hp : ∀ s ∈ l, powB s.align = true) {i j : Nat} (hij : i ≤ j) : (plF g n (l.take i)).2 ≤ (plF g n (l.take j)).2 := by
  induction j with
  | zero => obtain rfl : i = 0 := by omega
            exact Nat.le_refl _
  | succ j ih =>
    rcases Nat.lt_or_ge j i with h3 | h3
    · obtain rfl : i = j + 1 := by omega
      exact Nat.le_refl _
    · refine Nat.le_trans (ih h3) ?_
      rcases Nat.lt_or_ge j l.length with hl | hl
      · have hx : l[j]? = some l[j] := List.getElem?_eq_getElem hl
        rw [plF_step hx]
        have := placeS_le (g := g) (p := (plF g n (l.take j)).2) (hp _ (List.mem_of_getElem? hx))
        show _ ≤ placeS _ _ _ + _
        omega
      · rw [List.take_of_length_le hl, List.take_of_length_le (by omega)]
        exact Nat.le_refl _
/-- Places rise. -/
theorem place_rise {e : ElfM} (h : MayK e) {i k : Nat} {s t : SecM} {p q : Nat} (hik : i < k) (hi : e.secs[i]? = some s) (hk : e.secs[k]? = some t) (hp : (placesOf e).1[i]? = some p) (hq : (placesOf e).1[k]? = some q) : p + s.data.length ≤ q := by
  unfold placesOf at hp hq
  rw [plF_get hi] at hp
  rw [plF_get hk] at hq
  cases hp
  cases hq
  have h1 := plF_mono (g := segsB e) (n := front e) h.pow (i := i + 1) (j := k) (by omega)
  rw [plF_step hi] at h1
  have h2 := placeS_le (g := segsB e) (p := (plF (segsB e) (front e) (e.secs.take k)).2) (h.pow _ (List.mem_of_getElem? hk))
  have h3 : placeS (segsB e) (plF (segsB e) (front e) (e.secs.take i)).2 s + s.data.length ≤ (plF (segsB e) (front e) (e.secs.take k)).2 := h1
  omega
theorem place_end {e : ElfM} (h : MayK e) {i : Nat} {s : SecM} {p : Nat} (hi : e.secs[i]? = some s) (hp : (placesOf e).1[i]? = some p) : p + s.data.length ≤ (placesOf e).2 := by
  unfold placesOf at hp
  rw [plF_get hi] at hp
  cases hp
  have h1 := plF_mono (g := segsB e) (n := front e) h.pow (i := i + 1) (j := e.secs.length) (by have := (List.getElem?_eq_some_iff.1 hi).1; omega)
  rw [plF_step hi, List.take_length] at h1
  exact h1
/-- A file's header, as it is looked at. -/
structure HeadK (e : ElfM) (l : List UInt8) : Prop where
  magic : Has l 0 [127, 69, 76, 70, 2, 1, 1]
  typ : Has l 16 (fixed (u64of e.typ) 2)
  one : Has l 20 (fixed 1 4)
  front : Has l 32 (fixed (if segsB e = true then 64 else 0) 8)
  heads : Has l 40 (fixed (headsOf e (tabOf e).length) 8)
  hsize : Has l 52 (fixed 64 2)
  gsize : Has l 54 (fixed 56 2)
  ng : Has l 56 (fixed e.segs.length 2)
  ssize : Has l 58 (fixed 64 2)
  ns : Has l 60 (fixed (e.secs.length + 2) 2)
  own : Has l 62 (fixed (e.secs.length + 1) 2)
theorem head_has (e : ElfM) : HeadK e (fileB e) := by
  have t0 := has_head (headB_has e (headsOf e (tabOf e).length) (i := 0) rfl rfl)
  exact ⟨t0, has_head (headB_has e (headsOf e (tabOf e).length) (i := 2) (q := 16) rfl (by simp; rfl)),
    has_head (headB_has e (headsOf e (tabOf e).length) (i := 4) (q := 20) rfl (by simp [length_fixed]; rfl)),
    has_head (headB_has e (headsOf e (tabOf e).length) (i := 6) (q := 32) rfl (by simp [length_fixed]; rfl)),
    has_head (headB_has e (headsOf e (tabOf e).length) (i := 7) (q := 40) rfl (by simp [length_fixed]; rfl)),
    has_head (headB_has e (headsOf e (tabOf e).length) (i := 9) (q := 52) rfl (by simp [length_fixed]; rfl)),
    has_head (headB_has e (headsOf e (tabOf e).length) (i := 10) (q := 54) rfl (by simp [length_fixed]; rfl)),
    has_head (headB_has e (headsOf e (tabOf e).length) (i := 11) (q := 56) rfl (by simp [length_fixed]; rfl)),
    has_head (headB_has e (headsOf e (tabOf e).length) (i := 12) (q := 58) rfl (by simp [length_fixed]; rfl)),
    has_head (headB_has e (headsOf e (tabOf e).length) (i := 13) (q := 60) rfl (by simp [length_fixed]; rfl)),
    has_head (headB_has e (headsOf e (tabOf e).length) (i := 14) (q := 62) rfl (by simp [length_fixed]; rfl))⟩
/-- What the header's numbers are. -/
structure HeadN (e : ElfM) (l : List UInt8) : Prop where
  len : l.length = headsOf e (tabOf e).length + 64 * (e.secs.length + 2)
  magic : l.take 7 = [127, 69, 76, 70, 2, 1, 1]
  typ : gN l 16 2 = e.typ.toNat
  one : gN l 20 4 = 1
  front : gN l 32 8 = if segsB e = true then 64 else 0
  heads : gN l 40 8 = headsOf e (tabOf e).length
  hsize : gN l 52 2 = 64
  gsize : gN l 54 2 = 56
  ng : gN l 56 2 = e.segs.length
  ssize : gN l 58 2 = 64
  ns : gN l 60 2 = e.secs.length + 2
  own : gN l 62 2 = e.secs.length + 1
theorem head_num {e : ElfM} (h : MayK e) : HeadN e (fileB e) := by
  have k := head_has e
  have hlen := fileB_len h
  have hge := heads_ge (e := e)
  have hle := h.len
  have hsl := h.secs
  have hgl := h.segs
  have hfr : front e ≤ (placesOf e).2 := (plF_le (g := segsB e) (n := front e) h.pow).1
  refine ⟨hlen, by have := k.magic.cut; simpa using this, ?_, k.one.num sz4 (by omega), k.front.num sz8 (by split <;> omega), k.heads.num sz8 (by omega), k.hsize.num sz2 (by omega), k.gsize.num sz2 (by omega), k.ng.num sz2 (by omega), k.ssize.num sz2 (by omega), k.ns.num sz2 (by omega), k.own.num sz2 (by omega)⟩
  rw [k.typ.num sz2 (by rcases h.typ with h1 | h1 <;> rw [h1] <;> decide)]
  rcases h.typ with h1 | h1 <;> rw [h1] <;> decide
theorem front_ge {e : ElfM} (h : MayK e) : 64 + 56 * e.segs.length ≤ headsOf e (tabOf e).length := by
  have hge := heads_ge (e := e)
  have hfr : front e ≤ (placesOf e).2 := (plF_le (g := segsB e) (n := front e) h.pow).1
  unfold front at hfr
  omega
theorem head_sound {e : ElfM} (h : MayK e) : headF (fileB e) = [] := by
  have n := head_num h
  have hfg := front_ge h
  have h1 : bad1 (fileB e) = false := by
    unfold bad1
    rw [n.magic, n.len]
    simp; omega
  have h2 : bad2 (fileB e) = false := by
    unfold bad2
    rw [n.typ, n.one, n.hsize, n.gsize, n.ssize]
    rcases h.typ with h1 | h1 <;> rw [h1] <;> simp
  have h3 : bad3 (fileB e) = false := by
    unfold bad3 withinB
    rw [n.front, n.ng, n.heads, n.ns, n.own, n.len]
    simp only [Bool.or_eq_false_iff, Bool.not_eq_false', Bool.or_eq_true, Bool.and_eq_true, decide_eq_true_eq, decide_eq_false_iff_not]
    refine ⟨⟨?_, ?_⟩, by omega⟩
    · right; split <;> omega
    · right; omega
  unfold headF
  rw [h1, h2, h3]
  rfl
/-- What the sections' headers are. -/
theorem secs_at {e : ElfM} (h : MayK e) (hf : e.fits) {i : Nat} {x : WSec} (hi : (secsW (fileB e) (gN (fileB e) 60 2))[i]? = some x) :
    (i = 0 ∧ x = ⟨0, 0, 0, 0, 0, 0⟩) ∨ (∃ (j : Nat) (s : SecM) (n p : Nat), i = j + 1 ∧ e.secs[j]? = some s ∧ (placesOf e).1[j]? = some p ∧ atR (tabOf e) n = (s.name, 0) ∧ p + s.data.length ≤ (fileB e).length ∧ x = ⟨n, s.typ, s.addr, s.align, p, s.size⟩) ∨
    (i = e.secs.length + 1 ∧ ∃ n : Nat, atR (tabOf e) n = (tabName, 0) ∧ x = ⟨n, 3, 0, 1, (placesOf e).2, (tabOf e).length⟩) := by
  have n := head_num h
  have hle := h.len
  have hge := heads_ge (e := e)
  rw [n.ns] at hi
  have hlt : i < e.secs.length + 2 := by have := (List.getElem?_eq_some_iff.1 hi).1; rwa [secsW_len] at this
  rw [secsW_get hlt, n.heads] at hi
  cases hi
  rcases Nat.eq_zero_or_pos i with h0 | h0
  · left
    subst h0
    refine ⟨rfl, ?_⟩
    have hz := has_null h
    unfold secW
    rw [gN_zeros (s := 4) hz sz4 (by omega) (by omega), gN_zeros (s := 4) hz sz4 (by omega) (by omega), gN_zeros (s := 8) hz sz8 (by omega) (by omega), gN_zeros (s := 8) hz sz8 (by omega) (by omega), gN_zeros (s := 8) hz sz8 (by omega) (by omega), gN_zeros (s := 8) hz sz8 (by omega) (by omega)]
  · right
    obtain ⟨j, rfl⟩ : ∃ j, i = j + 1 := ⟨i - 1, by omega⟩
    rcases Nat.lt_or_ge j e.secs.length with hj | hj
    · left
      have hx : e.secs[j]? = some e.secs[j] := List.getElem?_eq_getElem hj
      obtain ⟨m, p, a1, a2, a3⟩ := hdrs_get h hx
      have hnm : (namesOf e.secs)[j]? = some e.secs[j].name := by
        unfold namesOf
        rw [List.getElem?_append_left (by rw [List.length_map]; exact hj), List.getElem?_map, hx]
        rfl
      obtain ⟨n', b1, b2, b3⟩ := atsB_ok h hnm
      rw [a1] at b1
      cases b1
      have hdt := (has_data h hx a2).len
      exact ⟨j, _, m, p, rfl, hx, a2, b2, hdt, sec_w (has_hdr h a3) (hf.secs _ (List.mem_of_getElem? hx)) (by omega) (by have := n.len; omega)⟩
    · right
      obtain rfl : j = e.secs.length := by omega
      refine ⟨rfl, ?_⟩
      have hnm : (namesOf e.secs)[e.secs.length]? = some tabName := by
        unfold namesOf
        rw [List.getElem?_append_right (by simp)]
        simp
      obtain ⟨m, b1, b2, b3⟩ := atsB_ok h hnm
      refine ⟨m, b2, ?_⟩
      have hl : Has (fileB e) (headsOf e (tabOf e).length + 64 * (e.secs.length + 1)) (hdrBy m (tabSec (tabOf e).length) (placesOf e).2) := by
        have : (atsOf e)[e.secs.length]?.getD 0 = m := by rw [b1]; rfl
        unfold fileB
        rw [this]
        exact (Has.all _).left _ (by rw [List.length_append, midB_len h, hdrsB_len h]; omega)
      exact sec_w hl (tabSec_fitsW (by omega)) (by omega) (by omega)
theorem named_of {s : WSec} {tab : List UInt8} {x : List UInt8} (h : atR tab s.name = (x, 0)) : namedB s tab = true := by
  unfold namedB
  have := atR_zero h
  simpa using this
theorem fine_size {s : SecM} (h : fineB s = true) (h8 : s.typ ≠ 8) : s.size = s.data.length := by
  unfold fineB at h
  simp only [Bool.and_eq_true, Bool.not_eq_true', decide_eq_false_iff_not] at h
  obtain ⟨_, hfd⟩ := h
  rw [if_neg h8] at hfd
  exact of_decide_eq_true hfd
theorem pow2_of {n : Nat} (h : powB n = true) : pow2B n = true := by
  unfold powB at h
  unfold pow2B
  simp only [Bool.and_eq_true, decide_eq_true_eq, Bool.not_eq_true', decide_eq_false_iff_not] at *
  exact ⟨by omega, h.2⟩
theorem full_ne {s : WSec} (h : fullB s = true) : s.typ ≠ 0 ∧ s.typ ≠ 8 := by
  unfold fullB at h
  simpa using h
theorem common_no {a s b t : Nat} (h : a + s ≤ b) : commonB a s b t = false := by
  unfold commonB
  split
  · simp only [Bool.and_eq_false_iff, decide_eq_false_iff_not]; omega
  · simp only [Bool.and_eq_false_iff, decide_eq_false_iff_not]; omega
/-- Of a file that was written nothing but addresses, segments and the entry can be wrong. -/
theorem fl_written {e : ElfM} (hm : mayE e = true) (hf : e.fits) {f : FlM} (hfl : FlOk (fileB e) f) :
    (8 ≤ f.code ∧ (e.segs.length ≠ 0 ∨ e.typ = 2)) ∨ (f.code = 5 ∧ ∃ (j : Nat) (s : SecM), f.a = (j : Int) + 1 ∧ e.secs[j]? = some s ∧ s.align ≠ 0 ∧ s.addr % s.align ≠ 0) := by
  have h := mayK hm
  have n := head_num h
  have hle := h.len
  have hge := heads_ge (e := e)
  rcases hfl with hs | ⟨h8, hg⟩
  · right
    have hfine : ∀ {j : Nat} {s : SecM}, e.secs[j]? = some s → fineB s = true := fun hj => h.fine _ (List.mem_of_getElem? hj)
    rcases hs with ⟨i, s, hi, rfl, hfu, hw⟩ | ⟨i, s, hi, rfl, ha, hp⟩ | ⟨i, s, t, hi, ht, rfl, hnm⟩ | ⟨i, k, s, t, hik, hi, hk, rfl, hfs, hft, hc⟩
    · exfalso
      have hne := full_ne hfu
      rcases secs_at h hf hi with ⟨rfl, rfl⟩ | ⟨j, x, m, p, rfl, hj, hp, hat, hl, rfl⟩ | ⟨rfl, m, hat, rfl⟩
      · exact hne.1 rfl
      · have hsz := fine_size (hfine hj) hne.2
        unfold withinB at hw
        simp only [Bool.or_eq_false_iff, Bool.and_eq_false_iff, decide_eq_false_iff_not] at hw
        omega
      · unfold withinB at hw
        rw [n.len] at hw
        simp only [Bool.or_eq_false_iff, Bool.and_eq_false_iff, decide_eq_false_iff_not] at hw
        omega
    · rcases secs_at h hf hi with ⟨rfl, rfl⟩ | ⟨j, x, m, p, rfl, hj, hpl, hat, hl, rfl⟩ | ⟨rfl, m, hat, rfl⟩
      · exact absurd rfl ha
      · refine ⟨rfl, j, x, by simp, hj, ha, ?_⟩
        rcases hp with hp | hp
        · have h1 := pow2_of (h.pow _ (List.mem_of_getElem? hj))
          have h2 : pow2B x.align = false := hp
          rw [h1] at h2
          cases h2
        · exact hp
      · exfalso
        rcases hp with hp | hp
        · exact absurd (show pow2B 1 = false from hp) (by decide)
        · exact hp rfl
    · exfalso
      rw [n.own] at ht
      have htt : tabW (fileB e) t = tabOf e := by
        rcases secs_at h hf ht with ⟨h0, _⟩ | ⟨j, x, m, p, hj1, hj, hpl, hat, hl, rfl⟩ | ⟨_, m, hat, rfl⟩
        · omega
        · have := (List.getElem?_eq_some_iff.1 hj).1
          omega
        · have hpos : 0 < (tabOf e).length := by have := (atR_zero hat).1; omega
          unfold tabW
          rw [if_pos ⟨rfl, hpos⟩]
          exact (has_tab h).cut
      rw [htt] at hnm
      rcases secs_at h hf hi with ⟨rfl, rfl⟩ | ⟨j, x, m, p, rfl, hj, hpl, hat, hl, rfl⟩ | ⟨rfl, m, hat, rfl⟩
      · have hnm2 : (namesOf e.secs)[e.secs.length]? = some tabName := by
          unfold namesOf
          rw [List.getElem?_append_right (by simp)]
          simp
        obtain ⟨m, _, b2, _⟩ := atsB_ok h hnm2
        obtain ⟨z1, z2⟩ := atR_zero b2
        unfold namedB at hnm
        have z3 : (0 : UInt8) ∈ tabOf e := List.mem_of_mem_drop z2
        simp only [List.drop_zero, Bool.and_eq_false_iff, decide_eq_false_iff_not] at hnm
        rcases hnm with hnm | hnm
        · omega
        · exact hnm z3
      · rw [named_of (s := ⟨m, x.typ, x.addr, x.align, p, x.size⟩) hat] at hnm
        cases hnm
      · rw [named_of (s := ⟨m, 3, 0, 1, (placesOf e).2, (tabOf e).length⟩) hat] at hnm
        cases hnm
    · exfalso
      have hns := full_ne hfs
      have hnt := full_ne hft
      have : commonB s.pl s.size t.pl t.size = false := by
        rcases secs_at h hf hi with ⟨rfl, rfl⟩ | ⟨j, x, m, p, rfl, hj, hpl, hat, hl, rfl⟩ | ⟨rfl, m, hat, rfl⟩
        · exact absurd rfl hns.1
        · have hsz := fine_size (hfine hj) hns.2
          rcases secs_at h hf hk with ⟨h0, _⟩ | ⟨j2, x2, m2, p2, rfl, hj2, hpl2, hat2, hl2, rfl⟩ | ⟨rfl, m2, hat2, rfl⟩
          · omega
          · refine common_no ?_
            have := place_rise h (by omega : j < j2) hj hj2 hpl hpl2
            show p + x.size ≤ p2
            omega
          · refine common_no ?_
            have := place_end h hj hpl
            show p + x.size ≤ (placesOf e).2
            omega
        · rcases secs_at h hf hk with ⟨h0, _⟩ | ⟨j2, x2, m2, p2, rfl, hj2, hpl2, hat2, hl2, rfl⟩ | ⟨rfl, m2, hat2, rfl⟩
          · omega
          · have := (List.getElem?_eq_some_iff.1 hj2).1
            omega
          · omega
      rw [this] at hc
      cases hc
  · left
    refine ⟨h8, ?_⟩
    rw [n.ng, n.typ] at hg
    rcases hg with hg | hg
    · exact .inl hg
    · right
      rcases h.typ with h1 | h1
      · rw [h1] at hg; exact absurd hg (by decide)
      · exact h1
end Go.Proofs.Ytimnbnomaajmmaa
namespace Go.Fd
open Go.RowKit
section
variable {P : Program} {L : List Oper} {Q : Exit → Act → World → Prop} {w0 : World} {fuel i : Nat} {listed : Array Bool} {a : Act} {w : World} {o : Oper}
abbrev SAb (w0 : World) : World → Prop := fun w => Below w0.heap.size w0 w
/-- An operation that reads, taken first. -/
theorem held_quiet (hi : L[i]? = some o) (hB : (Region.noSelect L.toArray && Region.free .any L.toArray listed i && (Region.ready .any L.toArray listed).contains i) = true) (hw : Region.wanted o (yielded L.toArray a.tmps) = true) (hv : valB o = true)
    (hQ : ∀ v c a w, Q (.panic c) (a.put o.dst v) w → Q (.panic c) a w) (hb : Below w0.heap.size w0 w)
    (h : ∀ K : Act → Prop, (∀ a, wpAnyH P .any L.toArray Q (SAb w0) fuel (listed.setIfInBounds i true) a w → K a) → o.quiet P a (fun w => ∃ x : Above w0, w = x.w) K) : wpAnyH P .any L.toArray Q (SAb w0) (fuel + 1) listed a w := by
  simp only [Bool.and_eq_true] at hB
  obtain ⟨⟨h1, h2⟩, h3⟩ := hB
  obtain ⟨v, k1, k2⟩ := h (fun a => wpAnyH P .any L.toArray Q (SAb w0) fuel (listed.setIfInBounds i true) a w) (fun _ h => h)
  refine wpAnyH_take (i := i) (oi := o) (v := v) (by simpa using hi) h1 h2 h3 (hQ v) (.inl ⟨hw, fun w' hw' => ?_⟩) hb k2
  have := k1 w' ⟨⟨w', hw'⟩, rfl⟩
  unfold Oper.quietAt at this
  generalize hr : (execOp a.eval o).run P w' = res at this
  cases res with
  | halt x w2 => exact this.elim
  | ok n w2 =>
    obtain ⟨u, rfl⟩ := valB_spec hv hr
    obtain ⟨rfl, rfl⟩ := (this : w2 = w' ∧ u = v)
    rfl
theorem wpOp_of_list {ops : Array Oper} {K : Act → World → Prop} (hi : ops[i]? = some o) (h : wpList P ops (Exit.then K Q) [o] a w) : wpOp P ops Q i K a w := by
  unfold wpOp
  rw [hi]
  simp only [wpList] at h
  split at h
  · next hw =>
    simp only [hw, if_true]
    rcases h with h | ⟨h1, a1, w1, h2⟩
    · left
      unfold Oper.wp at *
      generalize (execOp a.eval o).run P w = r at *
      cases r with
      | ok n w' =>
        cases n <;> simp only [Oper.upon] at h ⊢ <;>
          first
            | exact h
            | exact Calls.mono h (fun e w'' he => by
                cases e with
                | returned v => exact he
                | panicked c => exact he
                | outgrown => obtain ⟨a0, w0, h0⟩ := (he : LetsOut _); exact ⟨a0, w0, h0⟩)
      | halt x w' => cases x <;> simp only [Oper.upon] at h ⊢ <;> exact h
    · right
      exact ⟨h1, a1, w1, h2⟩
  · next hw =>
    simp only [hw]
    exact h
end
end Go.Fd
namespace Go.Proofs.Ytimnbnomaajmmaa
open Go.RowKit Go.Fd
theorem readE_ok {l : List UInt8} (hl : l.length ≤ 4194304) : ElfOk (readE l).1 := by
  unfold readE
  split
  · exact elf0_ok
  · split
    · next h => exact parse_ok hl h.1
    · exact elf0_ok
theorem readE_data {l : List UInt8} {s : SecM} (h : s ∈ (readE l).1.secs) : s.data.length ≤ l.length := by
  unfold readE at h
  split at h
  · exact absurd h (by simp [elf0])
  · split at h
    · obtain ⟨i, hi⟩ := List.mem_iff_getElem?.1 h
      rw [secsP_get hi]
      exact secP_data _ _ _
    · exact absurd h (by simp [elf0])
attribute [local irreducible] readE
end Go.Proofs.Ytimnbnomaajmmaa
namespace Go.Proofs.Ytimnbnomaajmmaa
open Go.RowKit Go.Fd
/-! ### What is read is in its bounds -/
theorem symRd_small (b names : List UInt8) : (symRd b names).1.length ≤ b.length / 24 := by
  unfold symRd
  split
  · simp
  · split
    · next L hL => rw [foldSym_len b names _ _ hL]; omega
    · simp
theorem symRd_wf (b names : List UInt8) : ∀ x ∈ (symRd b names).1, x.value < 18446744073709551616 ∧ x.size < 18446744073709551616 := by
  have hf : ∀ k L, foldU (stepSym b names) k = .ok L → ∀ x ∈ L, x.value < 18446744073709551616 ∧ x.size < 18446744073709551616 := by
    intro k
    induction k with
    | zero => intro L h x hx; cases h; simp at hx
    | succ k ih =>
      intro L h x hx
      rw [foldU] at h
      cases hq : foldU (stepSym b names) k with
      | error e => rw [hq] at h; cases h
      | ok L0 =>
        rw [hq] at h
        have h' : stepSym b names k L0 = .ok L := h
        unfold stepSym at h'
        split at h'
        · cases h'
        · split at h'
          · cases h'
          · split at h'
            · cases h'
            · cases h'
              rw [List.mem_append, List.mem_singleton] at hx
              rcases hx with hx | rfl
              · exact ih L0 hq x hx
              · unfold recS
                exact ⟨by have := numLE_cut b (24 * (k + 1) + 8) 8; simpa using this, by have := numLE_cut b (24 * (k + 1) + 16) 8; simpa using this⟩
  unfold symRd
  split
  · simp
  · split
    · next L hL => exact hf _ _ hL
    · simp
theorem relaRd_wf (b : List UInt8) : ∀ x ∈ (relaRd b).1, x.off < 18446744073709551616 ∧ -9223372036854775808 ≤ x.add ∧ x.add < 9223372036854775808 := by
  have hf : ∀ k L, foldU (stepRela b) k = .ok L → ∀ x ∈ L, x.off < 18446744073709551616 ∧ -9223372036854775808 ≤ x.add ∧ x.add < 9223372036854775808 := by
    intro k
    induction k with
    | zero => intro L h x hx; cases h; simp at hx
    | succ k ih =>
      intro L h x hx
      rw [foldU] at h
      cases hq : foldU (stepRela b) k with
      | error e => rw [hq] at h; cases h
      | ok L0 =>
        rw [hq] at h
        have h' : stepRela b k L0 = .ok L := h
        unfold stepRela at h'
        split at h'
        · cases h'
        · cases h'
          rw [List.mem_append, List.mem_singleton] at hx
          rcases hx with hx | rfl
          · exact ih L0 hq x hx
          · have := numLE_cut b (24 * k) 8
            unfold recR
            refine ⟨by simpa using this, ?_, ?_⟩
            · dsimp only; rw [wrap64]; omega
            · dsimp only; rw [wrap64]; omega
  unfold relaRd
  split
  · split
    · next L hL => exact hf _ _ hL
    · simp
  · simp
/-- A part's numbers in their bounds. -/
structure PartWf (p : PartM) : Prop where
  align : -9223372036854775808 ≤ p.align ∧ p.align < 9223372036854775808
  size : -9223372036854775808 ≤ p.size ∧ p.size < 9223372036854775808
  data : p.data.length ≤ 24000
  many : p.relas.length ≤ 1000
  relas : ∀ x ∈ p.relas, x.off < 18446744073709551616 ∧ -9223372036854775808 ≤ x.add ∧ x.add < 9223372036854775808
theorem partOf_wf {s : SecM} (h : s.data.length ≤ 24000) : PartWf (partOf s) :=
  ⟨⟨by show _ ≤ wrap64 _; rw [wrap64]; omega, by show wrap64 _ < _; rw [wrap64]; omega⟩, ⟨by show _ ≤ wrap64 _; rw [wrap64]; omega, by show wrap64 _ < _; rw [wrap64]; omega⟩, h, Nat.zero_le _, fun x hx => by cases hx⟩
theorem setRel_wf {ps : List PartM} (h : ∀ p ∈ ps, PartWf p) (i : Nat) {b : List UInt8} (hb : b.length ≤ 24000) : ∀ p ∈ setRel ps i (relaRd b).1, PartWf p := by
  intro p hp
  unfold setRel at hp
  obtain ⟨j, hj⟩ := List.mem_iff_getElem?.1 hp
  rw [List.getElem?_modify] at hj
  cases hq : ps[j]? with
  | none => rw [hq] at hj; cases hj
  | some q =>
    rw [hq] at hj
    have hw := h q (List.mem_of_getElem? hq)
    split at hj
    · cases hj
      exact ⟨hw.align, hw.size, hw.data, by have := relaRd_len b; dsimp only; omega, relaRd_wf b⟩
    · cases hj; exact hw
theorem modP_wf : ∀ (ss : List SecM) (ps : List PartM) (A : List (List UInt8 × Nat)) (qs : List PartM), (∀ p ∈ ps, PartWf p) → (∀ s ∈ ss, s.data.length ≤ 24000) → modP ss ps A = some qs → ∀ p ∈ qs, PartWf p := by
  intro ss
  induction ss with
  | nil => intro ps A qs h _ e; cases e; exact h
  | cons s ss ih =>
    intro ps A qs h hs e
    have hs' : ∀ x ∈ ss, x.data.length ≤ 24000 := fun x hx => hs x (by simp [hx])
    rw [modP] at e
    split at e
    · refine ih _ _ _ (fun p hp => ?_) hs' e
      rcases List.mem_append.1 hp with hp | hp
      · exact h p hp
      · rw [List.mem_singleton] at hp; subst hp; exact partOf_wf (hs s (by simp))
    · split at e
      · cases e
      · split at e
        · cases e
        · exact ih _ _ _ (setRel_wf h _ (hs s (by simp))) hs' e
theorem modR_wf : ∀ (ss : List SecM) (ps qs : List PartM), (∀ p ∈ ps, PartWf p) → (∀ s ∈ ss, s.data.length ≤ 24000) → modR ss ps = some qs → ∀ p ∈ qs, PartWf p := by
  intro ss
  induction ss with
  | nil => intro ps qs h _ e; cases e; exact h
  | cons s ss ih =>
    intro ps qs h hs e
    have hs' : ∀ x ∈ ss, x.data.length ≤ 24000 := fun x hx => hs x (by simp [hx])
    rw [modR] at e
    split at e
    · refine ih _ _ (fun p hp => ?_) hs' e
      rcases List.mem_append.1 hp with hp | hp
      · exact h p hp
      · rw [List.mem_singleton] at hp; subst hp; exact partOf_wf (hs s (by simp))
    · split at e
      · cases e
      · split at e
        · cases e
        · exact ih _ _ (setRel_wf h _ (hs s (by simp))) hs' e
theorem objWf_of {o : ObjM} (h1 : -9223372036854775808 ≤ o.target ∧ o.target < 9223372036854775808) (h2 : ∀ p ∈ o.parts, PartWf p) (h3 : o.syms.length ≤ 1000) (h4 : ∀ s ∈ o.syms, s.value < 18446744073709551616 ∧ s.size < 18446744073709551616) : ObjWf o :=
  ⟨h1, fun p hp => ⟨(h2 p hp).align, (h2 p hp).size, by have := (h2 p hp).data; omega⟩, fun p hp => ⟨(h2 p hp).many, (h2 p hp).relas⟩, h3, h4⟩
theorem secsO_wf {md : List SecM → Option (List PartM)} {e : ElfM} {o : ObjM} (hm : ∀ ss qs, (∀ s ∈ ss, s.data.length ≤ 24000) → md ss = some qs → ∀ p ∈ qs, PartWf p) (he : e.fits) (hd : ∀ s ∈ e.secs, s.data.length ≤ 24000) (h : secsO md e = some o) : ObjWf o := by
  unfold secsO at h
  split at h
  · cases h
  · split at h
    · cases h
    · cases hp : md (e.secs.take (e.secs.length - 2)) with
      | none => rw [hp] at h; cases h
      | some ps =>
        rw [hp] at h
        cases h
        refine objWf_of he.target (hm _ _ (fun s hs => hd s (List.mem_of_mem_take hs)) hp) ?_ (symRd_wf _ _)
        have h1 := symRd_small (e.secs[e.secs.length - 2]?.elim [] (·.data)) (e.secs[e.secs.length - 1]?.elim [] (·.data))
        have h2 : (e.secs[e.secs.length - 2]?.elim [] (·.data) : List UInt8).length ≤ 24000 := by
          cases hx : e.secs[e.secs.length - 2]? with
          | none => simp
          | some s => exact hd s (List.mem_of_getElem? hx)
        dsimp only
        omega
/-! ### A module's file -/
theorem relSecs_mem {st : Nat} {s : SecM} : ∀ (ps : List PartM) (i : Nat), s ∈ relSecs st i ps → ∃ p ∈ ps, ∃ j, j < i + ps.length ∧ s = relSec st j p := by
  intro ps
  induction ps with
  | nil => intro i h; cases h
  | cons p ps ih =>
    intro i h
    rw [relSecs] at h
    have hrest : s ∈ relSecs st (i + 1) ps → ∃ q ∈ p :: ps, ∃ j, j < i + (p :: ps).length ∧ s = relSec st j q := fun hs => by
      obtain ⟨q, hq, j, hj, e⟩ := ih _ hs
      exact ⟨q, by simp [hq], j, by rw [List.length_cons]; omega, e⟩
    split at h
    · rcases List.mem_cons.1 h with rfl | h
      · exact ⟨p, by simp, i, by rw [List.length_cons]; omega, rfl⟩
      · exact hrest h
    · exact hrest h
theorem firstE_0 {α : Type} {f : α → Int} : ∀ {l : List α}, firstE f l = 0 → ∀ x ∈ l, f x = 0 := by
  intro l
  induction l with
  | nil => intro _ x hx; cases hx
  | cons y l ih =>
    intro h x hx
    rw [firstE] at h
    split at h
    · next h0 =>
      rcases List.mem_cons.1 hx with rfl | hx
      · exact h0
      · exact ih h x hx
    · next h0 => exact absurd h h0
structure MayO (o : ObjM) : Prop where
  target : 1 ≤ o.target ∧ o.target ≤ 3
  many : o.parts.length ≤ 100 ∧ o.syms.length ≤ 16384
  parts : partsE o.parts [] = 0
  syms : (symW o.syms).2.2.2 = 0
  secs : ∀ s ∈ o.syms, secE o.parts.length s = 0
  relas : ∀ p ∈ o.parts, ∀ r ∈ p.relas, relE o.syms.length p.size r = 0
theorem mayO_0 {o : ObjM} (h : mayO o = 0) : MayO o := by
  unfold mayO at h
  split at h
  · omega
  · next h1 =>
    split at h
    · omega
    · next h2 =>
      split at h
      · next h3 => exact absurd h h3
      · next h3 =>
        split at h
        · next h4 => exact absurd h h4
        · next h4 =>
          split at h
          · next h5 => exact absurd h h5
          · next h5 => exact ⟨by omega, by omega, Classical.not_not.1 h3, Classical.not_not.1 h4, firstE_0 (Classical.not_not.1 h5), fun p hp => firstE_0 (firstE_0 h p hp)⟩
theorem relW_0 {o : ObjM} (h : MayO o) : ∀ p ∈ o.parts, (relaW p.relas).2 = 0 := by
  intro p hp
  unfold relaW
  rw [if_neg]
  rw [Bool.not_eq_true, List.any_eq_false]
  intro r hr
  have hre := h.relas p hp r hr
  have hm := h.many
  unfold relE at hre
  unfold relaBad
  repeat' split at hre
  all_goals first | omega | skip
  simp only [Bool.or_eq_true, decide_eq_true_eq]
  omega
theorem fileO_0 {o : ObjM} {b : List UInt8} (h : fileO o = (b, 0)) : MayO o ∧ mayE (elfO o) = true ∧ b = fileB (elfO o) := by
  unfold fileO at h
  split at h
  · next h0 => rw [Prod.mk.injEq] at h; exact absurd h.2 h0
  · next h0 =>
    split at h
    · next h1 => rw [Prod.mk.injEq] at h; exact ⟨mayO_0 (Classical.not_not.1 h0), h1, h.1.symm⟩
    · rw [Prod.mk.injEq] at h; exact absurd h.2 (by omega)
theorem elfO_fits' {o : ObjM} (hw : ObjWf o) (h : MayO o) (hd : ∀ s ∈ (elfO o).secs, s.data.length ≤ 4194304) : (elfO o).fits := by
  have hst : symtabNo o ≤ 201 := by
    have h1 := h.many
    have h2 : o.parts.countP hasRel ≤ o.parts.length := List.countP_le_length
    unfold symtabNo
    omega
  refine ⟨⟨by show _ ≤ (1 : Int); omega, by show (1 : Int) < _; omega⟩, hw.target, ?_, by show 0 < _; omega, fun s hs => ?_, fun s hs => by cases hs⟩
  · show (if o.target = 3 then 1 else 0) < _; split <;> omega
  · have hds := hd s hs
    have hs' : s ∈ o.parts.map secPart ++ relSecs (symtabNo o) 0 o.parts ++ [symSec o, strSec o] := hs
    rw [List.mem_append, List.mem_append] at hs'
    rcases hs' with (hs' | hs') | hs'
    · obtain ⟨p, hp, rfl⟩ := List.mem_map.1 hs'
      have hb := bits_lt p.flags
      refine ⟨?_, by show bitsN p.flags < _; omega, by show 0 < _; omega, u64of_lt _, u64of_lt _, by show 0 < _; omega, by show 0 < _; omega, by show 0 < _; omega⟩
      show (if hasF p.flags 110 = true then 8 else 1) < _
      split <;> omega
    · obtain ⟨p, hp, j, hj, rfl⟩ := relSecs_mem _ _ hs'
      have h1 := h.many
      refine ⟨by show 4 < _; omega, by show 64 < _; omega, by show 0 < _; omega, by show 8 < _; omega, ?_, by show symtabNo o < _; omega, by show j + 1 < _; omega, by show 24 < _; omega⟩
      show (relaW p.relas).1.length < _
      have : (relaW p.relas).1.length ≤ 4194304 := hds
      omega
    · rcases List.mem_cons.1 hs' with rfl | hs'
      · refine ⟨by show 2 < _; omega, by show 0 < _; omega, by show 0 < _; omega, by show 8 < _; omega, ?_, by show symtabNo o + 1 < _; omega, ?_, by show 24 < _; omega⟩
        · show (symW o.syms).1.length < _
          have : (symW o.syms).1.length ≤ 4194304 := hds
          omega
        · show (symW o.syms).2.2.1 < _
          have h1 := hw.many
          have h2 : (symW o.syms).2.2.1 ≤ 1001 := by
            unfold symW
            have := List.countP_le_length (p := fun s : SymM => decide (s.bind = 0)) (l := o.syms)
            repeat' split
            all_goals dsimp only
            all_goals first | omega | (unfold locs; omega)
          omega
      · rcases List.mem_singleton.1 hs' with rfl
        refine ⟨by show 3 < _; omega, by show 0 < _; omega, by show 0 < _; omega, by show 1 < _; omega, ?_, by show 0 < _; omega, by show 0 < _; omega, by show 0 < _; omega⟩
        show (symW o.syms).2.1.length < _
        have : (symW o.syms).2.1.length ≤ 4194304 := hds
        omega
theorem elfO_fits {o : ObjM} (hw : ObjWf o) (h : MayO o) (hm : mayE (elfO o) = true) : (elfO o).fits := elfO_fits' hw h (by
  intro s hs
  unfold mayE may2 at hm
  simp only [Bool.and_eq_true] at hm
  have := List.all_eq_true.1 hm.1.2.1 s hs
  simp only [Bool.and_eq_true, decide_eq_true_eq] at this
  exact this.2)
theorem elfO_cut (o : ObjM) : ¬ (elfO o).secs.length < 2 ∧ (elfO o).secs.take ((elfO o).secs.length - 2) = o.parts.map secPart ++ relSecs (symtabNo o) 0 o.parts ∧ (elfO o).secs[(elfO o).secs.length - 2]? = some (symSec o) ∧ (elfO o).secs[(elfO o).secs.length - 1]? = some (strSec o) := by
  have h : (elfO o).secs = (o.parts.map secPart ++ relSecs (symtabNo o) 0 o.parts) ++ [symSec o, strSec o] := rfl
  rw [h]
  generalize o.parts.map secPart ++ relSecs (symtabNo o) 0 o.parts = L
  have hl : (L ++ [symSec o, strSec o]).length = L.length + 2 := by simp
  rw [hl]
  refine ⟨by omega, ?_, ?_, ?_⟩
  · rw [show L.length + 2 - 2 = L.length by omega, List.take_left]
  · rw [show L.length + 2 - 2 = L.length by omega, List.getElem?_append_right (by omega), Nat.sub_self]; rfl
  · rw [show L.length + 2 - 1 = L.length + 1 by omega, List.getElem?_append_right (by omega), show L.length + 1 - L.length = 1 by omega]; rfl
theorem secsO_elfO {md : List SecM → Option (List PartM)} {o : ObjM} (hw : ObjWf o) (h : MayO o) (hm : md (o.parts.map secPart ++ relSecs (symtabNo o) 0 o.parts) = some o.parts) : secsO md (elfO o) = some o := by
  obtain ⟨c1, c2, c3, c4⟩ := elfO_cut o
  unfold secsO
  rw [if_neg c1, c2, c3, c4, hm]
  have hs : symRd (symW o.syms).1 (symW o.syms).2.1 = (o.syms, 0) := sym_back h.syms hw.many hw.syms
  show (if (symRd (symW o.syms).1 (symW o.syms).2.1).2 ≠ 0 then none else some (⟨o.target, o.parts, (symRd (symW o.syms).1 (symW o.syms).2.1).1⟩ : ObjM)) = some o
  rw [hs, if_neg (by simp)]
theorem mods_back {o : ObjM} (hw : ObjWf o) (h : MayO o) : modP (o.parts.map secPart ++ relSecs (symtabNo o) 0 o.parts) [] [] = some o.parts ∧ modR (o.parts.map secPart ++ relSecs (symtabNo o) 0 o.parts) [] = some o.parts := by
  obtain ⟨p1, p2, -⟩ := partsE_0 _ _ h.parts
  have hp : ∀ p ∈ o.parts, partE p false = 0 ∧ p.data.length < 4611686018427387904 := fun p hp => ⟨p1 p hp, (hw.nums p hp).2.2⟩
  have hr : ∀ p ∈ o.parts, relaRd (relaW p.relas).1 = (p.relas, 0) := fun p hp => rela_back (relW_0 h p hp) (hw.relas p hp).2
  constructor
  · obtain ⟨A', e1, e2⟩ := modP_parts o.parts [] [] (relSecs (symtabNo o) 0 o.parts) hp (by simpa using p2) (fun j q hj => by cases hj)
    rw [e1]
    exact modP_rels A' (symtabNo o) o.parts [] hr e2
  · rw [modR_parts _ _ _ hp]
    exact modR_rels (symtabNo o) o.parts [] hr
/-- A module's file is read as the module, either way. -/
theorem obj_back {o : ObjM} {b : List UInt8} (hw : ObjWf o) (h : fileO o = (b, 0)) : readE b = (elfO o, 0) ∧ secsO (fun l => modP l [] []) (elfO o) = some o ∧ secsO (fun l => modR l []) (elfO o) = some o := by
  obtain ⟨h1, h2, rfl⟩ := fileO_0 h
  obtain ⟨m1, m2⟩ := mods_back hw h1
  exact ⟨read_back h2 (elfO_fits hw h1 h2), secsO_elfO hw h1 m1, secsO_elfO hw h1 m2⟩
theorem read_obj {o : ObjM} {b : List UInt8} (hw : ObjWf o) (h : fileO o = (b, 0)) : readO (fun l => modP l [] []) b = (o, 0) ∧ readO (fun l => modR l []) b = (o, 0) := by
  obtain ⟨h1, h2, h3⟩ := obj_back hw h
  unfold readO
  rw [h1, if_neg (by simp)]
  dsimp only
  rw [h2, h3]
  dsimp only
  rw [if_pos h]
  exact ⟨rfl, rfl⟩
end Go.Proofs.Ytimnbnomaajmmaa
namespace Go.Proofs.Ytimnbnomaajmmaa
open Go.RowKit Go.Fd
/-- What memory holds of a module. -/
structure ObjAt (w : World) (o : ObjM) (L : List (PartM × Value × Value)) (pv sv : Value) : Prop where
  parts : o.parts = L.map (·.1)
  rd : RdR 6 encPart w pv L
  data : ∀ p ∈ L, Bs w p.2.1 p.1.data
  rela : ∀ p ∈ L, RdR 4 encRela w p.2.2 p.1.relas
  syms : RdR 6 encSym w sv o.syms
theorem ObjAt.mono {w w' : World} {o : ObjM} {L : List (PartM × Value × Value)} {pv sv : Value} (h : ObjAt w o L pv sv) (hb : Below w.heap.size w w') : ObjAt w' o L pv sv :=
  ⟨h.parts, h.rd.mono hb, fun p hp => (h.data p hp).mono hb, fun p hp => (h.rela p hp).mono hb, h.syms.mono hb⟩
/-- What is asked of a module, so that no number in a walk is too great. -/
structure ObjOk (o : ObjM) : Prop where
  wf : ObjWf o
  many : o.parts.length ≤ 1000
  names : ∀ p ∈ o.parts, p.name.length ≤ 9223372036854775807 ∧ p.flags.length ≤ 9223372036854775807
  data : ∀ p ∈ o.parts, p.data.length ≤ 1000000
  syms : ∀ s ∈ o.syms, s.name.length ≤ 9223372036854775807
abbrev objV (o : ObjM) (pv sv : Value) : Value := .agg #[.int .i64 o.target, pv, sv]
theorem obj_box {w : World} {g : Nat} {t : Int} {pv sv : Value} {ty : TypeId} {fr : Nat × Nat} (h : w.heap[g]? = some (.cells #[.int .i64 t, pv, sv] ty fr)) :
    w.cell? ⟨g, 0, none⟩ = some (.int .i64 t) ∧ w.cell? ⟨g, 1, none⟩ = some pv ∧ w.cell? ⟨g, 2, none⟩ = some sv :=
  ⟨cell_rec h 0, cell_rec h 1, cell_rec h 2⟩
/-- One cell of a block that was made: a number. -/
theorem wpList_setN {P : Program} {ops : Array Oper} {rest : List Oper} {Q : Exit → Act → World → Prop} {a : Act} {w : World} {d : Option Tmp} {ty t tb : TypeId} {pos : String} {aft : Array Edge} {p x : Operand} {c : Array Value} {g j base : Nat} {k : IntKind} {n : Int} (hg : w.heap[g]? = some (.cells c tb (0, 0))) (hj : j < c.size) (hp : a.eval p = .pointer (some ⟨g, j, none⟩)) (hx : a.eval x = .int k n) (hB : base ≤ g) (hBw : base ≤ w.heap.size) (hs : ∀ w, (sizeOf t).run P w = .ok 1 w)
    (h : ∀ w1, w1.heap[g]? = some (.cells (c.setIfInBounds j (.int k n)) tb (0, 0)) → Below base w w1 → Stirs (fun k => k = g) w w1 → wpList P ops Q rest (a.put d undef) w1) :
    wpList P ops Q (⟨d, .store t p x, ty, pos, aft, none⟩ :: rest) a w := by
  have hc : w.cell? ⟨g, j, none⟩ = some c[j] := (cell_rec hg j).trans (Array.getElem?_eq_getElem hj)
  have hfz := free_rec' hg j
  have hst : Stirs (fun k => k = g) w (w.setCell ⟨g, j, none⟩ (.int k n)) := stirs_setCell (S := fun k => k = g) _ g j _ rfl
  refine wpList_did (w' := w.setCell ⟨g, j, none⟩ (.int k n)) rfl ?_ (h _ ?_ ?_ hst)
  · simp only [execOp, hp, hx]
    simp [go_sem, hs, hc, hfz]
  · simp [World.setCell, Array.getElem?_modify, hg]
  · exact hst.below hBw (fun k hk => by rw [hk]; exact hB)
set_option maxHeartbeats 4000000 in
set_option maxRecDepth 100000 in
theorem section6_any (p : PartM) (dv rv : Value) (w : World) (hd : Bs w dv p.data) :
    Calls Try.prog 19 #[partV (p, dv, rv)] w fun e w' => e = .returned (secV (secPart p, dv)) ∧ Below w.heap.size w w' := by
  have HBI := Lib.hid (fun w => bits6_any p.flags w)
  have HHA := Lib.hid (fun w => has_any p.flags 110 w)
  have HS : Hid (secPart p = ⟨p.name, if hasF p.flags 110 then 8 else 1, bitsN p.flags, 0, u64of p.align, u64of p.size, 0, 0, 0, p.data⟩) := rfl
  have hu1 := u64of_cast p.align
  have hu2 := u64of_cast p.size
  obtain ⟨m, a, cap, hm, rfl, hmc, _⟩ := hd.shape
  generalize secPart p = sp at *
  generalize bitsN p.flags = bn at *
  generalize hasF p.flags 110 = hf at *
  generalize u64of p.align = ua at *
  generalize u64of p.size = us at *
  obtain ⟨name, flags, align, size, data, relas⟩ := p
  dsimp only at *
  clear hd
  go_enter Try.func19, Try.ntmps19
  go_wp2_with (first
    | ((with_reducible show wpList _ _ _ (⟨some 1, .box _ _, _, _, _, _⟩ :: _) _ _); go_must (refine wpList_box rfl ?_; intro w1 hx1 hb1 hs1; have HX1 := Lib.hid hx1; have HB1 := Lib.hid hb1; clear hx1 hb1))
    | ((with_reducible show wpList _ _ _ (⟨some 2, .alloc _, _, _, _, _⟩ :: _) _ _); go_must (refine wpList_allocSec ?_; intro w2 hx2 hb2 hs2; have HX2 := Lib.hid hx2; have HX12 := Lib.hid (heap_below hb2 HX1.out); have HB2 := Lib.hid (HB1.out.trans (hb2.mono HB1.out.size)); clear hx2 hb2)))
  obtain ⟨c0, c1, c2, c3, c4, c5⟩ := part_box (x := (⟨name, flags, align, size, data, relas⟩, Value.slice a m cap, rv)) HX12.out
  have hAB := fun (x : Above w2) (b k : Nat) (h : b < w2.heap.size) => Above.cell x b k h
  have l0 := block_lt c0
  refine wp_region_walk 15 [(4, .is (.int .u64 (bn : Int))), (14, Yld.new w2.heap.size 54 10)] (by kernel_rfl) (by kernel_rfl) ?_
  simp only [List.take_succ_cons, List.take_zero, List.drop_succ_cons, List.drop_zero]
  repeat (refine walk_quiet rfl rfl rfl ?_; intro K hK; go_big_quiet_op; go_big_quiet_on)
  refine walk_is rfl rfl (fun wx hwx _ => WpYld.callIsB (run_callL (vals := [S flags]) Try.func34 (by kernel_rfl) rfl rfl) (HBI.out wx)) ?_
  go_frame
  repeat (refine walk_quiet rfl rfl rfl ?_; intro K hK; go_big_quiet_op; go_big_quiet_on)
  refine walk_new rfl rfl (fun wx hwx _ => WpYld.val run_allocSec (Yld.new_mk _ hwx).1 (Yld.new_mk _ hwx).2) (fun gb => ?_)
  go_frame
  refine walk_nil ?_
  intro wz hbz hF
  obtain ⟨hgb, cs, hcs, hcn⟩ := Yld.new_got (hF 14 _ 3 _ rfl rfl rfl rfl)
  clear hF hAB c0 c1 c2 c3 c4 c5
  refine wpList_storeMade hcs rfl rfl (by kernel_rfl) (by rw [hcn]; rfl) (by simp [Value.oneCell']) hgb hbz.size ?_
  intro w3 hh3 hb3
  clear hcs hcn
  have HH3 := Lib.hid hh3
  have h12 : w1.heap.size ≤ w2.heap.size := Nat.le_of_lt hs2
  have HX13 := Lib.hid (heap_base hb3 (heap_below hbz HX12.out) l0)
  have HX23 := Lib.hid (heap_base hb3 (heap_below hbz HX2.out) hs2)
  have HB23 := Lib.hid (hbz.trans hb3)
  have HB3 := Lib.hid (HB2.out.trans (HB23.out.mono HB2.out.size))
  have h3 := HB23.out.size
  clear hh3 hb3 hbz
  obtain ⟨c0, c1, c2, c3, c4, c5⟩ := part_box (x := (⟨name, flags, align, size, data, relas⟩, Value.slice a m cap, rv)) HX13.out
  obtain ⟨z0, z1, z2, z3, z4, z5, z6, z7, z8, z9⟩ := sec_box (x := (⟨name, 1, bn, 0, ua, us, 0, 0, 0, data⟩, Value.slice a m cap)) HH3.out
  cases hf with
  | false =>
    go_wp2_with (first
      | (go_at_call 35; refine (HHA.out _).mono ?_; rintro e w4 ⟨rfl, rfl⟩)
      | ((with_reducible show wpList _ _ _ (⟨none, .store _ (.tmp 2) _, _, _, _, _⟩ :: _) _ _); go_must (refine wpList_storeMade HX23.out rfl rfl (by kernel_rfl) rfl (by simp [Value.oneCell']) HB1.out.size HB3.out.size ?_; intro w6 hh6 hb6; have HH6 := Lib.hid hh6; have HB6 := Lib.hid (HB3.out.trans hb6); clear hh6 hb6)))
    refine bodyPost_ret (results_cell_row rfl _ _ w1.heap.size _ _ _ _ rfl HH6.out rfl rfl (by kernel_rfl)) rfl ⟨?_, HB6.out⟩
    rw [HS.out]
    rfl
  | true =>
    go_wp2_with (first
      | (go_at_call 35; refine (HHA.out _).mono ?_; rintro e w4 ⟨rfl, rfl⟩)
      | ((with_reducible show wpList _ _ _ (⟨none, .store _ (.tmp 21) _, _, _, _, _⟩ :: _) _ _); go_must (refine wpList_setN HH3.out (show 1 < 10 by decide) rfl rfl hgb h3 (fun w => by kernel_rfl) ?_; intro w5 hh5 hb5 hs5; have HH5 := Lib.hid (show w5.heap[gb]? = some (.cells #[.string ⟨name.toArray⟩, .int .u32 8, .int .u64 (bn : Int), .int .u64 0, .int .u64 (ua : Int), .int .u64 (us : Int), .int .u32 0, .int .u32 0, .int .u64 0, .slice a m cap] 54 (0, 0)) from hh5); obtain ⟨z0, z1, z2, z3, z4, z5, z6, z7, z8, z9⟩ := sec_box (x := (⟨name, 8, bn, 0, ua, us, 0, 0, 0, data⟩, Value.slice a m cap)) HH5.out; have HX25 := Lib.hid (heap_base hb5 HX23.out hs2); have HB5 := Lib.hid (HB3.out.trans (hb5.mono HB2.out.size)); clear hh5 hb5))
      | ((with_reducible show wpList _ _ _ (⟨none, .store _ (.tmp 2) _, _, _, _, _⟩ :: _) _ _); go_must (refine wpList_storeMade HX25.out rfl rfl (by kernel_rfl) rfl (by simp [Value.oneCell']) HB1.out.size HB5.out.size ?_; intro w6 hh6 hb6; have HH6 := Lib.hid hh6; have HB6 := Lib.hid (HB5.out.trans hb6); clear hh6 hb6)))
    refine bodyPost_ret (results_cell_row rfl _ _ w1.heap.size _ _ _ _ rfl HH6.out rfl rfl (by kernel_rfl)) rfl ⟨?_, HB6.out⟩
    rw [HS.out]
    rfl
end Go.Proofs.Ytimnbnomaajmmaa
namespace Go.Proofs.Ytimnbnomaajmmaa
open Go.RowKit Go.Fd
theorem TMB : KeyT Try.prog 62 9 4 S := ⟨by kernel_rfl, Maps.string_keyed (by kernel_rfl), fun a b h => by simpa [S] using h⟩
theorem zeroB (w : World) : (zeroValue 4).run Try.prog w = .ok (.bool false) w := by kernel_rfl
theorem keySL (s : List UInt8) (h : s.length ≤ 9223372036854775807) : ∃ l, keyOf Try.prog 9 (S s) = some l := ⟨_, Go.WideMaps.keyOf_string_mk (by kernel_rfl) (by rw [sizeS]; unfold maxLen; omega)⟩
abbrev seenE {κ : Type} (T : List κ) : List (κ × Value) := T.map fun n => (n, Value.bool true)
theorem seen_keys {κ : Type} (T : List κ) : (seenE T).map (·.1) = T := by
  rw [List.map_map]
  exact List.map_id T
theorem look_seen {κ : Type} [DecidableEq κ] (T : List κ) (n : κ) : lookV false (.bool false) ((seenE T).lookup n) = .bool (decide (n ∈ T)) := by
  by_cases h : n ∈ T
  · rw [decide_eq_true h]
    obtain ⟨v, hv⟩ := lookup_key.2 (show n ∈ (seenE T).map (·.1) by rw [seen_keys]; exact h)
    have := lookup_mem hv
    rw [List.mem_map] at this
    obtain ⟨x, -, hx⟩ := this
    cases hx
    rw [hv]
    rfl
  · rw [decide_eq_false h, lookup_none_of (show n ∉ (seenE T).map (·.1) by rw [seen_keys]; exact h)]
    rfl
theorem put_seen {κ : Type} [DecidableEq κ] {T : List κ} {n : κ} (h : n ∉ T) : putE (seenE T) n (.bool true) = seenE (T ++ [n]) := by
  unfold putE
  rw [if_neg (by rw [seen_keys]; exact h)]
  simp
def namesK (L : List (PartM × Value × Value)) (k : Nat) : List (List UInt8) := (L.take k).map (·.1.name)
theorem names_succ {L : List (PartM × Value × Value)} {k : Nat} {x : PartM × Value × Value} (h : L[k]? = some x) : namesK L (k + 1) = namesK L k ++ [x.1.name] := by
  unfold namesK
  rw [List.take_add_one, h]
  simp
theorem drop_get {α : Type} {l : List α} {k : Nat} {x : α} (h : l[k]? = some x) : l.drop k = x :: l.drop (k + 1) := by
  obtain ⟨h1, h2⟩ := List.getElem?_eq_some_iff.1 h
  rw [List.drop_eq_getElem_cons h1, h2]
def restK (L : List (PartM × Value × Value)) (k : Nat) : Int := partsE ((L.drop k).map (·.1)) (namesK L k)
theorem restK_step {L : List (PartM × Value × Value)} {k : Nat} {x : PartM × Value × Value} (h : L[k]? = some x) : restK L k = if partE x.1 (decide (x.1.name ∈ namesK L k)) = 0 then restK L (k + 1) else partE x.1 (decide (x.1.name ∈ namesK L k)) := by
  unfold restK
  rw [drop_get h, List.map_cons, partsE, names_succ h]
theorem restK_end (L : List (PartM × Value × Value)) : restK L L.length = 0 := by
  unfold restK
  rw [List.drop_length]
  rfl
def firstK {α : Type} (f : α → Int) (l : List α) (k : Nat) : Int := firstE f (l.drop k)
theorem firstK_step {α : Type} {f : α → Int} {l : List α} {k : Nat} {x : α} (h : l[k]? = some x) : firstK f l k = if f x = 0 then firstK f l (k + 1) else f x := by
  unfold firstK
  rw [drop_get h, firstE]
theorem firstK_end {α : Type} (f : α → Int) (l : List α) : firstK f l l.length = 0 := by
  unfold firstK
  rw [List.drop_length]
  rfl
abbrev partZ : Array Value := #[.string ⟨#[]⟩, .string ⟨#[]⟩, .int .i64 0, .int .i64 0, .slice none 0 0, .slice none 0 0]
theorem sym_cells {w wr : World} {a : Option Addr} {l : List SymM} {x : SymM} {k : Nat}
    (hc : ∀ i x, l[i]? = some x → 0 < 6 → ∃ b off, a = some ⟨b, off, none⟩ ∧ ∀ c, c < 6 → w.cell? ⟨b, off + (i * 6 + c), none⟩ = (encSym x)[c]?) (hb : Below w.heap.size w wr) (hk : l[k]? = some x) :
    ∃ b o, a = some ⟨b, o, none⟩ ∧ wr.cell? ⟨b, o + k * 6, none⟩ = some (.string ⟨x.name.toArray⟩) ∧ wr.cell? ⟨b, o + k * 6 + 1, none⟩ = some (.int .i64 x.bind) ∧ wr.cell? ⟨b, o + k * 6 + 2, none⟩ = some (.int .i64 x.typ) ∧ wr.cell? ⟨b, o + k * 6 + 3, none⟩ = some (.int .i64 x.sec) ∧ wr.cell? ⟨b, o + k * 6 + 4, none⟩ = some (.int .u64 (x.value : Int)) ∧ wr.cell? ⟨b, o + k * 6 + 5, none⟩ = some (.int .u64 (x.size : Int)) ∧ b < w.heap.size := by
  obtain ⟨b, o, ha, hcc⟩ := hc k x hk (by decide)
  have hd : ∀ c v, (encSym x)[c]? = some v → wr.cell? ⟨b, o + k * 6 + c, none⟩ = some v := fun c v h => by
    have h6 : c < 6 := (List.getElem?_eq_some_iff.1 h).1
    have := (hcc c h6).trans h
    rw [← Nat.add_assoc] at this
    exact (hb.cell (block_lt this)).trans this
  have h0 : b < w.heap.size := block_lt ((hcc 0 (by decide)).trans rfl)
  exact ⟨b, o, ha, hd 0 _ rfl, hd 1 _ rfl, hd 2 _ rfl, hd 3 _ rfl, hd 4 _ rfl, hd 5 _ rfl, h0⟩
theorem rela_cells {w wr : World} {a : Option Addr} {l : List RelaM} {x : RelaM} {k : Nat}
    (hc : ∀ i x, l[i]? = some x → 0 < 4 → ∃ b off, a = some ⟨b, off, none⟩ ∧ ∀ c, c < 4 → w.cell? ⟨b, off + (i * 4 + c), none⟩ = (encRela x)[c]?) (hb : Below w.heap.size w wr) (hk : l[k]? = some x) :
    ∃ b o, a = some ⟨b, o, none⟩ ∧ wr.cell? ⟨b, o + k * 4, none⟩ = some (.int .u64 (x.off : Int)) ∧ wr.cell? ⟨b, o + k * 4 + 1, none⟩ = some (.int .i64 x.typ) ∧ wr.cell? ⟨b, o + k * 4 + 2, none⟩ = some (.int .i64 x.sym) ∧ wr.cell? ⟨b, o + k * 4 + 3, none⟩ = some (.int .i64 x.add) ∧ b < w.heap.size := by
  obtain ⟨b, o, ha, hcc⟩ := hc k x hk (by decide)
  have hd : ∀ c v, (encRela x)[c]? = some v → wr.cell? ⟨b, o + k * 4 + c, none⟩ = some v := fun c v h => by
    have h6 : c < 4 := (List.getElem?_eq_some_iff.1 h).1
    have := (hcc c h6).trans h
    rw [← Nat.add_assoc] at this
    exact (hb.cell (block_lt this)).trans this
  have h0 : b < w.heap.size := block_lt ((hcc 0 (by decide)).trans rfl)
  exact ⟨b, o, ha, hd 0 _ rfl, hd 1 _ rfl, hd 2 _ rfl, hd 3 _ rfl, h0⟩
set_option maxHeartbeats 8000000 in
set_option maxRecDepth 100000 in
theorem may6_any (o : ObjM) (L : List (PartM × Value × Value)) (pv sv : Value) (w : World) (h : ObjAt w o L pv sv) (ho : ObjOk o) :
    Calls Try.prog 12 #[objV o pv sv] w fun e w' => e = .returned (.int .i64 (mayO o)) ∧ Below w.heap.size w w' := by
  have HSW := Lib.hid (fun wx (hb : Below w.heap.size w wx) => symsWrite_any o.syms _ wx ho.wf.many ho.wf.syms (h.syms.mono hb))
  have HH := Lib.hid h
  obtain ⟨pa, pc, rfl, hpc, -, hP⟩ := h.rd.open (fun _ => rfl)
  obtain ⟨sa, sc, rfl, hsc, -, hS⟩ := h.syms.open (fun _ => rfl)
  have HP := Lib.hid hP
  have HS := Lib.hid hS
  have HME : Hid (mayO o = if o.target < 1 ∨ 3 < o.target then 11 else if 100 < o.parts.length ∨ 16384 < o.syms.length then 6 else if partsE o.parts [] ≠ 0 then partsE o.parts [] else if (symW o.syms).2.2.2 ≠ 0 then (symW o.syms).2.2.2 else if firstE (secE o.parts.length) o.syms ≠ 0 then firstE (secE o.parts.length) o.syms else firstE (fun p => firstE (relE o.syms.length p.size) p.relas) o.parts) := rfl
  have hpl : o.parts.length = L.length := by rw [h.parts, List.length_map]
  have HR0 : Hid (partsE o.parts [] = restK L 0) := by rw [h.parts]; rfl
  have HF0 : Hid (firstE (fun p => firstE (relE o.syms.length p.size) p.relas) o.parts = firstK (fun x => firstE (relE o.syms.length x.1.size) x.1.relas) L 0) := by
    rw [h.parts]
    show firstE _ (L.map (·.1)) = firstE _ L
    clear HSW HH hP hS HP HS HME h ho hpl HR0 hpc
    induction L with
    | nil => rfl
    | cons x L ih => rw [List.map_cons, firstE, firstE, ih]
  have HL9 : L.length ≤ 1000 := by rw [← hpl]; exact ho.many
  have HS9 : o.syms.length ≤ 1000 := ho.wf.many
  rw [hpl] at HME
  obtain ⟨np, hnp⟩ : ∃ n, n = L.length := ⟨_, rfl⟩
  obtain ⟨ns, hns⟩ : ∃ n, n = o.syms.length := ⟨_, rfl⟩
  rw [← hnp] at HME hpc HL9 ⊢
  rw [← hns] at HME hsc HS9 HF0 HSW ⊢
  have HNP := Lib.hid hnp
  have HNS := Lib.hid hns
  have HOK := Lib.hid ho
  have HL := Lib.hid h.parts
  obtain ⟨target, parts, syms⟩ := o
  dsimp only at *
  generalize mayO ⟨target, parts, syms⟩ = q at *
  clear h hP hS hpl hnp hns ho
  by_cases ht1 : target < 1
  · have HR := Lib.hid (show q = 11 by rw [HME.out, if_pos (.inl ht1)])
    go_enter Try.func12, Try.ntmps12
    go_wp2_with (first
      | ((with_reducible show wpList _ _ _ (⟨some 1, .box _ _, _, _, _, _⟩ :: _) _ _); go_must (refine wpList_box rfl ?_; intro w1 hx1 hb1 hs1; have HX1 := Lib.hid hx1; have HB1 := Lib.hid hb1; obtain ⟨c0, c1, c2⟩ := obj_box hx1; clear hx1 hb1)))
    go_ret
    exact ⟨by rw [HR.out]; rfl, HB1.out⟩
  by_cases ht2 : 3 < target
  · have HR := Lib.hid (show q = 11 by rw [HME.out, if_pos (.inr ht2)])
    go_enter Try.func12, Try.ntmps12
    go_wp2_with (first
      | ((with_reducible show wpList _ _ _ (⟨some 1, .box _ _, _, _, _, _⟩ :: _) _ _); go_must (refine wpList_box rfl ?_; intro w1 hx1 hb1 hs1; have HX1 := Lib.hid hx1; have HB1 := Lib.hid hb1; obtain ⟨c0, c1, c2⟩ := obj_box hx1; clear hx1 hb1)))
    go_ret
    exact ⟨by rw [HR.out]; rfl, HB1.out⟩
  by_cases hl1 : 100 < np
  · have HR := Lib.hid (show q = 6 by rw [HME.out, if_neg (by omega), if_pos (.inl hl1)])
    go_enter Try.func12, Try.ntmps12
    go_wp2_with (first
      | ((with_reducible show wpList _ _ _ (⟨some 1, .box _ _, _, _, _, _⟩ :: _) _ _); go_must (refine wpList_box rfl ?_; intro w1 hx1 hb1 hs1; have HX1 := Lib.hid hx1; have HB1 := Lib.hid hb1; obtain ⟨c0, c1, c2⟩ := obj_box hx1; clear hx1 hb1)))
    go_ret
    exact ⟨by rw [HR.out]; rfl, HB1.out⟩
  have HM1 := Lib.hid (show q = if partsE parts [] ≠ 0 then partsE parts [] else if (symW syms).2.2.2 ≠ 0 then (symW syms).2.2.2 else if firstE (secE np) syms ≠ 0 then firstE (secE np) syms else firstE (fun p => firstE (relE ns p.size) p.relas) parts by rw [HME.out, if_neg (by omega), if_neg (by omega)])
  clear HME
  have hmm := @run_makeMap Try.prog
  go_enter Try.func12, Try.ntmps12
  go_wp2_with (first
    | ((with_reducible show wpList _ _ _ (⟨some 1, .box _ _, _, _, _, _⟩ :: _) _ _); go_must (refine wpList_box rfl ?_; intro w1 hx1 hb1 hs1; have HX1 := Lib.hid hx1; have HB1 := Lib.hid hb1; have HMD := Lib.hid (MapIs.made (P := Try.prog) (k := 9) (mk := S) w1); have HX2 := Lib.hid (heap_below (below_alloc w1 (.map #[] 0)) hx1); have HB2 := Lib.hid (hb1.trans ((below_alloc w1 (.map #[] 0)).mono hb1.size)); obtain ⟨c0, c1, c2⟩ := obj_box HX2.out; obtain ⟨c0, c1, c2⟩ := obj_box hx1; clear hx1 hb1)))
  go_loopw [42] (fun i wr => ∃ k : Nat, i = .int .i64 k ∧ k ≤ np ∧ Hid (partsE parts [] = restK L k) ∧ Hid (MapIs Try.prog 9 S wr w1.heap.size (seenE (namesK L k))) ∧ Hid (Below w1.heap.size w1 wr) ∧ w1.heap.size < wr.heap.size) (fun i _ => np - (intOf i).toNat)
  case atStart => exact ⟨0, rfl, Nat.zero_le _, HR0, HMD.out, below_alloc w1 _, by rw [World.size_alloc]; omega⟩
  case round =>
    obtain ⟨k, rfl, hk, HPE, HMP, HW, hsw⟩ := hrel
    have HB := Lib.hid (HB1.out.trans (HW.out.mono HB1.out.size))
    have HXr := Lib.hid (heap_below HW.out HX1.out)
    obtain ⟨c0, c1, c2⟩ := obj_box HXr.out
    by_cases hlt : k < np
    · obtain ⟨x, hx⟩ : ∃ x, L[k]? = some x := ⟨_, List.getElem?_eq_getElem (by have := HNP.out; omega)⟩
      obtain ⟨b, o, rfl, e0, e1, e2, e3, e4, e5, hb0⟩ := part_cells HP.out HB.out hx
      have HX := Lib.hid hx
      have hmem : x.1 ∈ parts := by rw [HL.out]; exact List.mem_map.2 ⟨x, List.mem_of_getElem? hx, rfl⟩
      have hnm := HOK.out.names x.1 hmem
      have HRS := Lib.hid (restK_step hx)
      have HNA := Lib.hid (names_succ hx)
      obtain ⟨l, hkl⟩ := keySL x.1.name hnm.1
      have HLK : Hid (lookV false (.bool false) (@List.lookup _ _ instBEqOfDecidableEq x.1.name (seenE (namesK L k))) = .bool (decide (x.1.name ∈ namesK L k))) := Lib.hid ((look_seen (namesK L k) x.1.name).trans (congrArg Value.bool (decide_eq_decide.2 Iff.rfl)))
      have HPT := Lib.hid (fun there wx (hb : Below w.heap.size w wx) => part6_any x.1 there x.2.1 x.2.2 wx ((HH.out.data x (List.mem_of_getElem? hx)).mono hb) (by have := HOK.out.data _ hmem; omega) (by omega))
      have HPS := Lib.hid (put_seen (T := namesK L k) (n := x.1.name))
      have HLA := Lib.hid (show (seenE (namesK L k)).length < maxLen by unfold maxLen namesK; rw [List.length_map, List.length_map, List.length_take]; omega)
      have HTRU : Hid (x.1.name ∈ namesK L k → partE x.1 (decide (x.1.name ∈ namesK L k)) ≠ 0) := Lib.hid (fun hm h0 => by
        have := (partE_0 h0).2.1
        rw [decide_eq_true hm] at this
        cases this)
      have hbs := HB.out.size
      obtain ⟨md, ad, cd, -, hdv, -, -⟩ := (HH.out.data x (List.mem_of_getElem? hx)).shape
      obtain ⟨mr, ar, cr, -, hrv, -, -⟩ := (HH.out.rela x (List.mem_of_getElem? hx)).shape
      obtain ⟨⟨name, flags, align, size, data, relas⟩, dv, rv⟩ := x
      dsimp only at *
      subst hdv hrv
      clear hx hmem hnm
      generalize hth : decide (name ∈ namesK L k) = there at *
      have HTH := Lib.hid hth
      clear hth
      generalize hpe : partE ⟨name, flags, align, size, data, relas⟩ there = pe at *
      have HPT2 := Lib.hid (fun wx (hb : Below w.heap.size w wx) => HPT.out there wx hb)
      rw [hpe] at HPT2
      clear HPT
      by_cases hp0 : pe = 0
      · subst hp0
        have hno : name ∉ namesK L k := fun hm => HTRU.out hm rfl
        have HPS2 := Lib.hid (HPS.out hno)
        have HR1 := Lib.hid (show partsE parts [] = restK L (k + 1) by rw [HPE.out, HRS.out, if_pos rfl])
        clear hno HPS HTRU HRS hpe
        go_wp2_with (first
          | ((with_reducible show wpList _ _ _ (⟨none, .store _ (.tmp 5) _, _, _, _, _⟩ :: _) _ _); go_must (refine wpList_storeNew rfl rfl (by kernel_rfl) rfl (by simp [Value.oneCell']) ?_; intro w2 hh2 hb2; have HH2 := Lib.hid hh2; have HM2 := Lib.hid (HMP.out.mono hb2); have HBB2 := Lib.hid (HW.out.trans (hb2.mono (Nat.le_of_lt hsw))); have hs2 := hb2.size; obtain ⟨d0, d1, d2, d3, d4, d5⟩ := part_box (x := (⟨name, flags, align, size, data, relas⟩, .slice ad md cd, .slice ar mr cr)) hh2; clear hh2 hb2))
          | ((with_reducible show wpList _ _ _ (⟨some 50, _, _, _, _, _⟩ :: _) _ _); go_must (refine wpList_lookM TMB HM2.out (zeroB _) hkl HLK.out rfl rfl ?_))
          | (go_at_call 25; refine (HPT2.out _ (HB1.out.trans (HBB2.out.mono HB1.out.size))).mono ?_; rintro e w3 ⟨rfl, hb3⟩; have HM3 := Lib.hid (HM2.out.mono hb3); have HBB3 := Lib.hid (HBB2.out.trans (hb3.mono HBB2.out.size)); have hs3 := hb3.size; obtain ⟨d0, d1, d2, d3, d4, d5⟩ := part_box (x := (⟨name, flags, align, size, data, relas⟩, .slice ad md cd, .slice ar mr cr)) (heap_below hb3 HH2.out); clear hb3)
          | (at_mapUpdate; go_must (refine wpList_storeM TMB HM3.out HLA.out (key := name) (val := .bool true) hkl rfl rfl rfl ?_; intro w4 hm4 hg4 hs4; rw [HPS2.out, ← HNA.out] at hm4; have HM4 := Lib.hid hm4; have HBB4 := Lib.hid (HBB3.out.trans (below_of_grown (B := w1.heap.size) hg4 HBB3.out.size (fun q hq => by cases hq; omega))); clear hm4 hg4)))
        exact ⟨⟨k + 1, rfl, by omega, HR1.out, HM4.out, HBB4.out, by omega⟩, by simp [intOf]; omega⟩
      · have HR1 := Lib.hid (show q = pe by rw [HM1.out, HPE.out, HRS.out, if_neg hp0, if_pos hp0])
        have hpb : (pe != 0) = true := bne_iff_ne.2 hp0
        clear hp0 hpe
        go_wp2_with (first
          | ((with_reducible show wpList _ _ _ (⟨none, .store _ (.tmp 5) _, _, _, _, _⟩ :: _) _ _); go_must (refine wpList_storeNew rfl rfl (by kernel_rfl) rfl (by simp [Value.oneCell']) ?_; intro w2 hh2 hb2; have HH2 := Lib.hid hh2; have HM2 := Lib.hid (HMP.out.mono hb2); have HBB2 := Lib.hid (HW.out.trans (hb2.mono (Nat.le_of_lt hsw))); have hs2 := hb2.size; obtain ⟨d0, d1, d2, d3, d4, d5⟩ := part_box (x := (⟨name, flags, align, size, data, relas⟩, .slice ad md cd, .slice ar mr cr)) hh2; clear hh2 hb2))
          | ((with_reducible show wpList _ _ _ (⟨some 50, _, _, _, _, _⟩ :: _) _ _); go_must (refine wpList_lookM TMB HM2.out (zeroB _) hkl HLK.out rfl rfl ?_))
          | (go_at_call 25; refine (HPT2.out _ (HB1.out.trans (HBB2.out.mono HB1.out.size))).mono ?_; rintro e w3 ⟨rfl, hb3⟩; have HBB3 := Lib.hid (HBB2.out.trans (hb3.mono HBB2.out.size)); clear hb3))
        go_ret
        exact ⟨by rw [HR1.out]; rfl, HB1.out.trans (HBB3.out.mono HB1.out.size)⟩
    · obtain rfl : k = np := by omega
      have HM2 := Lib.hid (show q = if (symW syms).2.2.2 ≠ 0 then (symW syms).2.2.2 else if firstE (secE k) syms ≠ 0 then firstE (secE k) syms else firstE (fun p => firstE (relE ns p.size) p.relas) parts by
        have h0 : restK L k = 0 := by rw [HNP.out]; exact restK_end L
        rw [HM1.out, HPE.out, h0, if_neg (by simp)])
      clear HM1 HPE HR0
      generalize (symW syms).2.2.2 = se at *
      by_cases hs0 : se = 0
      · subst hs0
        have HM3 := Lib.hid (show q = if firstE (secE k) syms ≠ 0 then firstE (secE k) syms else firstE (fun p => firstE (relE ns p.size) p.relas) parts by rw [HM2.out, if_neg (by simp)])
        clear HM2
        have hbs := HB.out.size
        go_wp2_with (go_at_call 21; refine (HSW.out _ HB.out).mono ?_; rintro e w5 ⟨v1, v2, rfl, -, -, hb5, -⟩; have HX5 := Lib.hid (heap_below hb5 HXr.out); have HB5 := Lib.hid (HB.out.trans (hb5.mono hbs)); obtain ⟨c0, c1, c2⟩ := obj_box HX5.out; clear hb5)
        clear HSW HMP HW HXr HMD HX1 HX2 HB2
        go_loopw [73] (fun i wr => ∃ j : Nat, i = .int .i64 j ∧ j ≤ ns ∧ Hid (firstE (secE k) syms = firstK (secE k) syms j) ∧ Hid (Below w5.heap.size w5 wr)) (fun i _ => ns - (intOf i).toNat)
        case atStart => exact ⟨0, rfl, Nat.zero_le _, rfl, Below.refl _ _⟩
        case round =>
          obtain ⟨j, rfl, hj, HFE, HWj⟩ := hrel
          have HBj := Lib.hid (HB5.out.trans (HWj.out.mono HB5.out.size))
          have HXj := Lib.hid (heap_below HWj.out HX5.out)
          obtain ⟨c0, c1, c2⟩ := obj_box HXj.out
          have hsj := HWj.out.size
          by_cases hlt2 : j < ns
          · obtain ⟨x, hx⟩ : ∃ x, syms[j]? = some x := ⟨_, List.getElem?_eq_getElem (by have := HNS.out; omega)⟩
            obtain ⟨b, o, rfl, e0, e1, e2, e3, e4, e5, hb0⟩ := sym_cells HS.out HBj.out hx
            have HFS := Lib.hid (firstK_step (f := secE k) hx)
            have HSE : Hid (secE k x = if (k : Int) < x.sec ∧ x.sec ≠ 65521 ∧ x.sec ≠ 65522 then 15 else 0) := rfl
            obtain ⟨name, bind, typ, sec, value, size⟩ := x
            dsimp only at *
            clear hx
            by_cases hbad : (k : Int) < sec ∧ sec ≠ 65521 ∧ sec ≠ 65522
            · have HR1 := Lib.hid (show q = 15 by
                have h1 : firstE (secE k) syms = 15 := by rw [HFE.out, HFS.out, HSE.out, if_pos hbad]; rfl
                rw [HM3.out, h1]; rfl)
              obtain ⟨g1, g2, g3⟩ := hbad
              have t2 : (sec != 65521) = true := bne_iff_ne.2 g2
              have t3 : (sec != 65522) = true := bne_iff_ne.2 g3
              clear HM3 HFE HFS HSE
              go_wp2_with (first
                | ((with_reducible show wpList _ _ _ (⟨none, .store _ (.tmp 12) _, _, _, _, _⟩ :: _) _ _); go_must (refine wpList_storeNew rfl rfl (by kernel_rfl) rfl (by simp [Value.oneCell']) ?_; intro w6 hh6 hb6; have HB6 := Lib.hid (HBj.out.trans (hb6.mono HBj.out.size)); obtain ⟨c0, c1, c2⟩ := obj_box (heap_below hb6 HXj.out); have d3 := cell_rec hh6 3; simp only [List.getElem?_toArray, List.getElem?_cons_succ, List.getElem?_cons_zero] at d3; clear hh6 hb6)))
              go_ret
              exact ⟨by rw [HR1.out]; rfl, HB6.out⟩
            · have HN1 := Lib.hid (show firstE (secE k) syms = firstK (secE k) syms (j + 1) by rw [HFE.out, HFS.out, HSE.out, if_neg hbad, if_pos rfl])
              have HBAD := Lib.hid hbad
              clear HFE HFS HSE hbad
              by_cases g1 : (k : Int) < sec
              · by_cases g2 : sec = 65521
                · have t2 : (sec != 65521) = false := by rw [g2]; rfl
                  clear g2
                  go_wp2_with (first
                    | ((with_reducible show wpList _ _ _ (⟨none, .store _ (.tmp 12) _, _, _, _, _⟩ :: _) _ _); go_must (refine wpList_storeNew rfl rfl (by kernel_rfl) rfl (by simp [Value.oneCell']) ?_; intro w6 hh6 hb6; have HB6 := Lib.hid (HWj.out.trans (hb6.mono HWj.out.size)); obtain ⟨c0, c1, c2⟩ := obj_box (heap_below hb6 HXj.out); have d3 := cell_rec hh6 3; simp only [List.getElem?_toArray, List.getElem?_cons_succ, List.getElem?_cons_zero] at d3; clear hh6 hb6)))
                  exact ⟨⟨j + 1, rfl, by omega, HN1.out, HB6.out⟩, by simp [intOf]; omega⟩
                · have g3 : sec = 65522 := by
                    rcases Classical.em (sec = 65522) with h | h
                    · exact h
                    · exact absurd ⟨g1, g2, h⟩ HBAD.out
                  have t2 : (sec != 65521) = true := bne_iff_ne.2 g2
                  have t3 : (sec != 65522) = false := by rw [g3]; rfl
                  clear g2 g3
                  go_wp2_with (first
                    | ((with_reducible show wpList _ _ _ (⟨none, .store _ (.tmp 12) _, _, _, _, _⟩ :: _) _ _); go_must (refine wpList_storeNew rfl rfl (by kernel_rfl) rfl (by simp [Value.oneCell']) ?_; intro w6 hh6 hb6; have HB6 := Lib.hid (HWj.out.trans (hb6.mono HWj.out.size)); obtain ⟨c0, c1, c2⟩ := obj_box (heap_below hb6 HXj.out); have d3 := cell_rec hh6 3; simp only [List.getElem?_toArray, List.getElem?_cons_succ, List.getElem?_cons_zero] at d3; clear hh6 hb6)))
                  exact ⟨⟨j + 1, rfl, by omega, HN1.out, HB6.out⟩, by simp [intOf]; omega⟩
              · go_wp2_with (first
                  | ((with_reducible show wpList _ _ _ (⟨none, .store _ (.tmp 12) _, _, _, _, _⟩ :: _) _ _); go_must (refine wpList_storeNew rfl rfl (by kernel_rfl) rfl (by simp [Value.oneCell']) ?_; intro w6 hh6 hb6; have HB6 := Lib.hid (HWj.out.trans (hb6.mono HWj.out.size)); obtain ⟨c0, c1, c2⟩ := obj_box (heap_below hb6 HXj.out); have d3 := cell_rec hh6 3; simp only [List.getElem?_toArray, List.getElem?_cons_succ, List.getElem?_cons_zero] at d3; clear hh6 hb6)))
                exact ⟨⟨j + 1, rfl, by omega, HN1.out, HB6.out⟩, by simp [intOf]; omega⟩
          · obtain rfl : j = ns := by omega
            have HM4 := Lib.hid (show q = firstK (fun x => firstE (relE j x.1.size) x.1.relas) L 0 by
              have h0 : firstK (secE k) syms j = 0 := by rw [HNS.out]; exact firstK_end _ _
              rw [HM3.out, HFE.out, h0, if_neg (by simp), HF0.out])
            clear HM3 HFE HF0
            go_wp2
            go_loopw [97] (fun i wr => ∃ n : Nat, i = .int .i64 n ∧ n ≤ k ∧ Hid (q = firstK (fun x => firstE (relE j x.1.size) x.1.relas) L n) ∧ Hid (Below w5.heap.size w5 wr)) (fun i _ => k - (intOf i).toNat)
            case atStart => exact ⟨0, rfl, Nat.zero_le _, HM4.out, HWj.out⟩
            case round =>
              obtain ⟨n, rfl, hn, HQ, HWn⟩ := hrel
              have HBn := Lib.hid (HB5.out.trans (HWn.out.mono HB5.out.size))
              have HXn := Lib.hid (heap_below HWn.out HX5.out)
              obtain ⟨c0, c1, c2⟩ := obj_box HXn.out
              have hsn := HWn.out.size
              by_cases hlt3 : n < k
              · obtain ⟨x, hx⟩ : ∃ x, L[n]? = some x := ⟨_, List.getElem?_eq_getElem (by have := HNP.out; omega)⟩
                obtain ⟨b, o, rfl, e0, e1, e2, e3, e4, e5, hb0⟩ := part_cells HP.out HBn.out hx
                have hmem : x.1 ∈ parts := by rw [HL.out]; exact List.mem_map.2 ⟨x, List.mem_of_getElem? hx, rfl⟩
                have HFS := Lib.hid (firstK_step (f := fun x : PartM × Value × Value => firstE (relE j x.1.size) x.1.relas) hx)
                obtain ⟨md, ad, cd, -, hdv, -, -⟩ := (HH.out.data x (List.mem_of_getElem? hx)).shape
                obtain ⟨ar, cr, hrv, hrc, -, hR⟩ := (HH.out.rela x (List.mem_of_getElem? hx)).open (fun _ => rfl)
                have hrw := HOK.out.wf.relas x.1 hmem
                obtain ⟨mr, hmr⟩ : ∃ m, m = x.1.relas.length := ⟨_, rfl⟩
                rw [← hmr] at hrv hrc hrw
                have hmr9 := hrw.1
                have HOF := Lib.hid hrw.2
                have HMR := Lib.hid hmr
                have HRC := Lib.hid hR
                have HRL := Lib.hid (fun r wx (hr : r ∈ x.1.relas) => relocation6_any r x.1 (.slice ad md cd) (.slice ar mr cr) j wx (HOF.out r hr).1)
                obtain ⟨⟨name, flags, align, size, data, relas⟩, dv, rv⟩ := x
                dsimp only at *
                subst hdv hrv
                clear hx hmem hrw hmr hR
                go_wp2_with (first
                  | ((with_reducible show wpList _ _ _ (⟨none, .store _ (.tmp 14) _, _, _, _, _⟩ :: _) _ _); go_must (refine wpList_storeNew rfl rfl (by kernel_rfl) rfl (by simp [Value.oneCell']) ?_; intro w6 hh6 hb6; have HH6 := Lib.hid hh6; have HB6 := Lib.hid (HWn.out.trans (hb6.mono HWn.out.size)); have hs6 : wr.heap.size < w6.heap.size := block_lt (cell_rec hh6 0 |>.trans rfl); obtain ⟨c0, c1, c2⟩ := obj_box (heap_below hb6 HXn.out); obtain ⟨d0, d1, d2, d3, d4, d5⟩ := part_box (x := (⟨name, flags, align, size, data, relas⟩, .slice ad md cd, .slice ar mr cr)) hh6; clear hh6 hb6)))
                go_loopw [104] (fun i wr => ∃ m : Nat, i = .int .i64 m ∧ m ≤ mr ∧ Hid (firstE (relE j size) relas = firstK (relE j size) relas m) ∧ Hid (Below w6.heap.size w6 wr)) (fun i _ => mr - (intOf i).toNat)
                case atStart => exact ⟨0, rfl, Nat.zero_le _, rfl, Below.refl _ _⟩
                case round =>
                  obtain ⟨m, rfl, hm, HFR, HWm⟩ := hrel
                  have HW6m := Lib.hid (HB6.out.trans (HWm.out.mono HB6.out.size))
                  have HBm := Lib.hid (HB5.out.trans (HW6m.out.mono HB5.out.size))
                  have HXm := Lib.hid (heap_below HW6m.out HX5.out)
                  obtain ⟨c0, c1, c2⟩ := obj_box HXm.out
                  have HHm := Lib.hid (heap_below HWm.out HH6.out)
                  obtain ⟨d0, d1, d2, d3, d4, d5⟩ := part_box (x := (⟨name, flags, align, size, data, relas⟩, .slice ad md cd, .slice ar mr cr)) HHm.out
                  have hsm := HWm.out.size
                  by_cases hlt4 : m < mr
                  · obtain ⟨r, hr⟩ : ∃ r, relas[m]? = some r := ⟨_, List.getElem?_eq_getElem (by have := HMR.out; omega)⟩
                    obtain ⟨b', o', rfl, f0, f1, f2, f3, hb0'⟩ := rela_cells HRC.out HBm.out hr
                    have HRS := Lib.hid (firstK_step (f := relE j size) hr)
                    have HRLr := Lib.hid (fun wx => HRL.out r wx (List.mem_of_getElem? hr))
                    clear hr
                    obtain ⟨off, typ, sym, add⟩ := r
                    dsimp only at *
                    generalize relE j size ⟨off, typ, sym, add⟩ = re at *
                    by_cases hr0 : re = 0
                    · subst hr0
                      have HN1 := Lib.hid (show firstE (relE j size) relas = firstK (relE j size) relas (m + 1) by rw [HFR.out, HRS.out, if_pos rfl])
                      go_wp2_with (first
                        | ((with_reducible show wpList _ _ _ (⟨none, .store _ (.tmp 16) _, _, _, _, _⟩ :: _) _ _); go_must (refine wpList_storeNew rfl rfl (by kernel_rfl) rfl (by simp [Value.oneCell']) ?_; intro w7 hh7 hb7; have HB7 := Lib.hid (HWm.out.trans (hb7.mono HWm.out.size)); obtain ⟨c0, c1, c2⟩ := obj_box (heap_below hb7 HXm.out); obtain ⟨d0, d1, d2, d3, d4, d5⟩ := part_box (x := (⟨name, flags, align, size, data, relas⟩, .slice ad md cd, .slice (some ⟨b', o', none⟩) mr cr)) (heap_below hb7 HHm.out); have g0 := cell_rec hh7 0; have g1 := cell_rec hh7 1; have g2 := cell_rec hh7 2; have g3 := cell_rec hh7 3; simp only [List.getElem?_toArray, List.getElem?_cons_succ, List.getElem?_cons_zero] at g0 g1 g2 g3; clear hh7 hb7))
                        | (go_at_call 26; refine (HRLr.out _).mono ?_; rintro e w8 ⟨rfl, hb8⟩; have HB8 := Lib.hid (HB7.out.trans (hb8.mono HB7.out.size)); clear hb8))
                      exact ⟨⟨m + 1, rfl, by omega, HN1.out, HB8.out⟩, by simp [intOf]; omega⟩
                    · have HR1 := Lib.hid (show q = re by rw [HQ.out, HFS.out, HFR.out, HRS.out, if_neg hr0, if_neg hr0])
                      have hrb : (re != 0) = true := bne_iff_ne.2 hr0
                      clear hr0
                      go_wp2_with (first
                        | ((with_reducible show wpList _ _ _ (⟨none, .store _ (.tmp 16) _, _, _, _, _⟩ :: _) _ _); go_must (refine wpList_storeNew rfl rfl (by kernel_rfl) rfl (by simp [Value.oneCell']) ?_; intro w7 hh7 hb7; have HB7 := Lib.hid (HBm.out.trans (hb7.mono HBm.out.size)); obtain ⟨c0, c1, c2⟩ := obj_box (heap_below hb7 HXm.out); obtain ⟨d0, d1, d2, d3, d4, d5⟩ := part_box (x := (⟨name, flags, align, size, data, relas⟩, .slice ad md cd, .slice (some ⟨b', o', none⟩) mr cr)) (heap_below hb7 HHm.out); have g0 := cell_rec hh7 0; have g1 := cell_rec hh7 1; have g2 := cell_rec hh7 2; have g3 := cell_rec hh7 3; simp only [List.getElem?_toArray, List.getElem?_cons_succ, List.getElem?_cons_zero] at g0 g1 g2 g3; clear hh7 hb7))
                        | (go_at_call 26; refine (HRLr.out _).mono ?_; rintro e w8 ⟨rfl, hb8⟩; have HB8 := Lib.hid (HB7.out.trans (hb8.mono HB7.out.size)); clear hb8))
                      go_ret
                      exact ⟨by rw [HR1.out]; rfl, HB8.out⟩
                  · obtain rfl : m = mr := by omega
                    have HN1 := Lib.hid (show q = firstK (fun x => firstE (relE j x.1.size) x.1.relas) L (n + 1) by
                      have h0 : firstE (relE j size) relas = 0 := by rw [HFR.out, HMR.out]; exact firstK_end _ _
                      rw [HQ.out, HFS.out, if_pos h0])
                    go_wp2
                    exact ⟨⟨n + 1, rfl, by omega, HN1.out, HW6m.out⟩, by simp [intOf]; omega⟩
              · obtain rfl : n = k := by omega
                have HR1 := Lib.hid (show q = 0 by rw [HQ.out, HNP.out]; exact firstK_end _ _)
                go_wp2
                go_ret
                exact ⟨by rw [HR1.out]; rfl, HBn.out⟩
      · have HR1 := Lib.hid (show q = se by rw [HM2.out, if_pos hs0])
        have hsb : (se != 0) = true := bne_iff_ne.2 hs0
        clear hs0
        have hbs := HB.out.size
        go_wp2_with (go_at_call 21; refine (HSW.out _ HB.out).mono ?_; rintro e w5 ⟨v1, v2, rfl, -, -, hb5, -⟩; have HB5 := Lib.hid (HB.out.trans (hb5.mono hbs)); clear hb5)
        go_ret
        exact ⟨by rw [HR1.out]; rfl, HB5.out⟩
end Go.Proofs.Ytimnbnomaajmmaa
