/-
  Part 6 of 7: laws and walks for objectBackUpto_holds; no condition of its own.
-/
import Derived.Test.YtimnbnomaajmmaaOz5
import Derived.Deep.DeepCutAuto
import Derived.Deep.RegionLaw
namespace Go.Proofs.Ytimnbnomaajmmaa
open Go.RowKit Go.Fd
def WSec.fits (s : WSec) : Prop := s.name < 18446744073709551616 ∧ s.typ < 18446744073709551616 ∧ s.addr < 18446744073709551616 ∧ s.align < 18446744073709551616 ∧ s.pl < 18446744073709551616 ∧ s.size < 18446744073709551616
def WSeg.fits (s : WSeg) : Prop := s.align < 18446744073709551616 ∧ s.pl < 18446744073709551616 ∧ s.psize < 18446744073709551616 ∧ s.mem < 18446744073709551616 ∧ s.msize < 18446744073709551616
theorem secW_fits (l : List UInt8) (a : Nat) : WSec.fits (secW l a) := ⟨by have := gN4 l a; show gN l a 4 < _; omega, by have := gN4 l (a + 4); show gN l (a + 4) 4 < _; omega, gN8 _ _, gN8 _ _, gN8 _ _, gN8 _ _⟩
theorem segW_fits (l : List UInt8) (a : Nat) : WSeg.fits (segW l a) := ⟨gN8 _ _, gN8 _ _, gN8 _ _, gN8 _ _, gN8 _ _⟩
theorem secsW_fits (l : List UInt8) (n : Nat) : ∀ s ∈ secsW l n, WSec.fits s := by
  intro s hs
  unfold secsW at hs
  obtain ⟨i, -, rfl⟩ := List.mem_map.1 hs
  exact secW_fits _ _
theorem segsW_fits (l : List UInt8) (n : Nat) : ∀ s ∈ segsW l n, WSeg.fits s := by
  intro s hs
  unfold segsW at hs
  obtain ⟨i, -, rfl⟩ := List.mem_map.1 hs
  exact segW_fits _ _
theorem TFl : SliceT Try.prog 74 152 3 24 := SliceT.mk' (z := .agg #[.int .i64 0, .int .i64 0, .int .i64 0]) (by kernel_rfl) (by kernel_rfl) rfl (by omega)
theorem TWS : SliceT Try.prog 120 144 6 48 := SliceT.mk' (z := .agg #[.int .u64 0, .int .u64 0, .int .u64 0, .int .u64 0, .int .u64 0, .int .u64 0]) (by kernel_rfl) (by kernel_rfl) rfl (by omega)
theorem TWG : SliceT Try.prog 121 146 8 64 := SliceT.mk' (z := .agg #[.int .u64 0, .int .u64 0, .int .u64 0, .int .u64 0, .int .u64 0, .int .u64 0, .int .u64 0, .int .u64 0]) (by kernel_rfl) (by kernel_rfl) rfl (by omega)
theorem own_len {α : Type} {k : Nat} {enc : α → List Value} {e : TypeId} {w : World} {base : Nat} {a : Option Addr} {m c : Nat} {l : List α} (h : OwR k enc e w base (.slice a m c) l) : m = l.length := by
  obtain ⟨m', a', c', hm, hv, _⟩ := h.shape
  injection hv with _ h2 _
  rw [h2]; exact hm.out
/-- What a looker knows. -/
structure Lk (w0 w : World) (p : Nat) (l : List UInt8) (bv : Value) (F : List FlM) (S : List WSec) (G : List WSeg) (fv sv gv : Value) : Prop where
  blk : w.heap[p]? = some (.cells #[bv, fv, sv, gv] 123 (0, 0))
  hp : w0.heap.size ≤ p
  below : Below w0.heap.size w0 w
  b : Bs w0 bv l
  f : OwR 3 encFl 152 w w0.heap.size fv F
  s : OwR 6 encWS 144 w w0.heap.size sv S
  g : OwR 8 encWG 146 w w0.heap.size gv G
/-- Blocks of other elements' types, but for one block, stay as they are. -/
def KeepL (p : Nat) (w w' : World) : Prop := ∀ (b : Nat) cs e fr, b ≠ p → e ≠ 152 → w.heap[b]? = some (.cells cs e fr) → w'.heap[b]? = some (.cells cs e fr)
theorem KeepL.refl (p : Nat) (w : World) : KeepL p w w := fun _ _ _ _ _ _ h => h
theorem KeepL.trans {p : Nat} {w w' w'' : World} (h : KeepL p w w') (k : KeepL p w' w'') : KeepL p w w'' := fun b cs e fr hb he hh => k b cs e fr hb he (h b cs e fr hb he hh)
theorem KeepL.below {p : Nat} {w w' : World} (h : Below w.heap.size w w') : KeepL p w w' := fun _b _cs _e _fr _ _ hh => heap_below h hh
theorem Lk.mono {w0 w w' : World} {p : Nat} {l : List UInt8} {bv : Value} {F : List FlM} {S : List WSec} {G : List WSeg} {fv sv gv : Value} (h : Lk w0 w p l bv F S G fv sv gv) (hb : Below w.heap.size w w') : Lk w0 w' p l bv F S G fv sv gv :=
  ⟨heap_below hb h.blk, h.hp, h.below.trans (hb.mono h.below.size), h.b, h.f.mono hb, h.s.mono hb, h.g.mono hb⟩
theorem Lk.bs {w0 w : World} {p : Nat} {l : List UInt8} {bv : Value} {F : List FlM} {S : List WSec} {G : List WSeg} {fv sv gv : Value} (h : Lk w0 w p l bv F S G fv sv gv) : Bs w bv l := h.b.mono h.below
/-- Its four cells. -/
theorem Lk.cells {w0 w : World} {p : Nat} {l : List UInt8} {bv : Value} {F : List FlM} {S : List WSec} {G : List WSeg} {fv sv gv : Value} (h : Lk w0 w p l bv F S G fv sv gv) :
    w.cell? ⟨p, 0, none⟩ = some bv ∧ w.cell? ⟨p, 1, none⟩ = some fv ∧ w.cell? ⟨p, 2, none⟩ = some sv ∧ w.cell? ⟨p, 3, none⟩ = some gv := ⟨cell_rec h.blk 0, cell_rec h.blk 1, cell_rec h.blk 2, cell_rec h.blk 3⟩
set_option maxRecDepth 100000 in
theorem wU_any {w0 w : World} {p : Nat} {l : List UInt8} {bv : Value} {F : List FlM} {S : List WSec} {G : List WSeg} {fv sv gv : Value} (h : Lk w0 w p l bv F S G fv sv gv) (a s : Nat) (hl : l.length ≤ 1000000000) :
    Calls Try.prog 94 #[.pointer (some ⟨p, 0, none⟩), .int .i64 a, .int .i64 s] w fun r w' => r = .returned (U6 (gN l a s)) ∧ w = w' := by
  obtain ⟨c0, -, -, -⟩ := h.cells
  obtain ⟨m, ad, cap, -, rfl, _, _⟩ := h.b.shape
  have HU := Lib.hid (octU_any l a s _ w hl h.bs)
  have HR : Hid (gN l a s = (getR l a s false).1) := rfl
  clear h
  generalize getR l a s false = q at *
  obtain ⟨q1, q2⟩ := q
  dsimp only at HU HR
  go_enter Try.func94, Try.ntmps94
  go_wp2_with (go_at_call 86; refine HU.out.mono ?_; rintro e w' ⟨rfl, rfl⟩)
  go_ret
  exact ⟨by rw [HR.out]; rfl, rfl⟩
/-- A flaw behind others: the looker's list. -/
theorem Lk.noted {w0 w w1 w2 : World} {p : Nat} {l : List UInt8} {bv : Value} {F : List FlM} {S : List WSec} {G : List WSeg} {fv sv gv fv' : Value} {x : FlM} (h : Lk w0 w p l bv F S G fv sv gv) (ho : OwR 3 encFl 152 w1 w0.heap.size fv' (F ++ [x])) (hg : w.grownBy w1 fv.ownBlock) (hb : Below w0.heap.size w w1)
    (hh : w2.heap[p]? = some (.cells #[bv, fv', sv, gv] 123 (0, 0))) (hs : Stirs (fun k => k = p) w1 w2) : Lk w0 w2 p l bv (F ++ [x]) S G fv' sv gv ∧ KeepL p w w2 := by
  have hk := keeps_own h.f hg
  have hblk := hk _ _ _ _ (show 123 ≠ 152 by decide) h.blk
  have hne : ∀ {e : TypeId} {base size n : Nat} {v : Value} {xs : List Value}, w1.ownsRow base e size v n xs → e ≠ 123 → ∀ k, v.ownBlock = some k → ¬ k = p := by
    intro e base size n v xs h1 he k hk1 hkp
    subst hkp
    obtain ⟨c, fz, hc⟩ := own_kind h1 k hk1
    rw [hblk] at hc
    cases hc
    exact he rfl
  have hs1 : OwR 6 encWS 144 w1 w0.heap.size sv S := by
    refine ⟨h.s.1, ?_⟩
    rcases h.s.2 with h2 | ⟨g, cap, cur, hv, hg2, hh2, r⟩
    · exact .inl h2
    · exact .inr ⟨g, cap, cur, hv, hg2, hk _ _ _ _ (by decide) hh2, r⟩
  have hg1 : OwR 8 encWG 146 w1 w0.heap.size gv G := by
    refine ⟨h.g.1, ?_⟩
    rcases h.g.2 with h2 | ⟨g, cap, cur, hv, hg2, hh2, r⟩
    · exact .inl h2
    · exact .inr ⟨g, cap, cur, hv, hg2, hk _ _ _ _ (by decide) hh2, r⟩
  refine ⟨⟨hh, h.hp, (h.below.trans hb).trans (hs.below (Nat.le_trans h.below.size hb.size) (fun k hk => by rw [hk]; exact h.hp)), h.b, owns_stirs ho hs (hne ho (by decide)), owns_stirs hs1 hs (hne hs1 (by decide)), owns_stirs hg1 hs (hne hg1 (by decide))⟩, ?_⟩
  intro b cs e fr hbp he hx
  exact hs.kept (hk _ _ _ _ he hx) hbp
set_option maxHeartbeats 1000000 in
set_option maxRecDepth 100000 in
theorem wFind_any {w0 w : World} {p : Nat} {l : List UInt8} {bv : Value} {F : List FlM} {S : List WSec} {G : List WSeg} {fv sv gv : Value} (h : Lk w0 w p l bv F S G fv sv gv) (is : Bool) (c a d : Int) (hF : F.length ≤ 1000000000) :
    Calls Try.prog 93 #[.pointer (some ⟨p, 0, none⟩), .bool is, .int .i64 c, .int .i64 a, .int .i64 d] w fun r w' => r = .returned (.tuple #[]) ∧ ∃ fm fa fc, Lk w0 w' p l bv (F ++ fl is c a d) S G (.slice fa fm fc) sv gv ∧ KeepL p w w' := by
  cases is with
  | false =>
    have HL := Lib.hid h
    obtain ⟨fm, fa, fc, -, rfl, _, _⟩ := h.f.shape
    clear h
    go_enter Try.func93, Try.ntmps93
    go_wp2
    go_end0
    exact ⟨rfl, fm, fa, fc, by rw [fl_no rfl, List.append_nil]; exact HL.out, KeepL.refl _ _⟩
  | true =>
    have HL := Lib.hid h
    obtain ⟨-, c1, -, -⟩ := h.cells
    obtain ⟨fm, fa, fc, -, rfl, _, _⟩ := h.f.shape
    have hFn := Lib.hid hF
    clear h hF
    go_enter Try.func93, Try.ntmps93
    go_wp2_with (first
      | ((with_reducible show wpList _ _ _ (⟨some 21, _, _, _, _, _⟩ :: _) _ _); go_must (refine wpList_pushR TFl HL.out.f rfl rfl (⟨c, a, d⟩ : FlM) rfl rfl rfl (by have := hFn.out; omega) (by have := hFn.out; omega) HL.out.below.size ?_; intro v5 w5 hv5 hg5 hb5; have HV5 := Lib.hid hv5; have HG5 := Lib.hid hg5; have HB5 := Lib.hid hb5; have HBK := Lib.hid (keeps_own HL.out.f hg5 _ _ _ _ (show 123 ≠ 152 by decide) HL.out.blk); obtain ⟨m5, a5, q5, -, rfl, _, _⟩ := hv5.shape; clear hv5 hg5 hb5))
      | ((with_reducible show wpList _ _ _ (⟨none, .store _ (.tmp 23) _, _, _, _, _⟩ :: _) _ _); go_must (refine wpList_set HBK.out (Nat.lt_of_lt_of_eq (show 1 < 4 by decide) rfl) rfl rfl HL.out.hp (Nat.le_trans HL.out.below.size HB5.out.size) (fun w => by kernel_rfl) ?_; intro w6 hh6 hb6 hs6; have HN := Lib.hid (HL.out.noted HV5.out HG5.out HB5.out hh6 hs6); clear hh6 hb6 hs6)))
    go_end0
    exact ⟨rfl, _, _, _, by rw [fl_yes rfl]; exact HN.out.1, HN.out.2⟩
set_option maxRecDepth 100000 in
theorem wNamed_any (s : WSec) (tab : List UInt8) (v : Value) (w : World) (hl : tab.length ≤ 1000000000) (hv : Bs w v tab) :
    Calls Try.prog 112 #[.agg (encWS s).toArray, v] w fun r w' => r = .returned (.bool (namedB s tab)) ∧ Below w.heap.size w w' := by
  obtain ⟨n, t, d, al, q, z⟩ := s
  have HV := Lib.hid hv
  obtain ⟨m, ad, cap, hm, rfl, _, _⟩ := hv.shape
  have HR : Hid (namedB ⟨n, t, d, al, q, z⟩ tab = (decide (n < tab.length) && decide ((0 : UInt8) ∈ tab.drop n))) := rfl
  have hm9 : m ≤ 1000000000 := by have := hm.out; omega
  clear hv
  by_cases hlt : n < tab.length
  · have hn9 : n < m := by have := hm.out; omega
    have h1 : decide ((n : Int) < (m : Int)) = true := by simp; omega
    obtain ⟨v1, hrun, hv1⟩ := run_fromB HV.out (i := (n : Int)) (k := .u64) (by omega) (by omega)
    have HRUN := Lib.hid hrun
    rw [Int.toNat_natCast] at hv1
    have HI := Lib.hid (fun w' (hb : Below w.heap.size w w') => indexByte_any (tab.drop n) 0 v1 w' (by rw [List.length_drop]; omega) (hv1.mono hb))
    have HX : Hid (decide ((0 : UInt8) ∈ tab.drop n) = decide (0 ≤ Lib.indexByte (tab.drop n) 0)) := Lib.hid (by
      rw [indexByte_upto0, Bool.eq_iff_iff, decide_eq_true_iff, decide_eq_true_iff]
      generalize tab.drop n = r
      induction r with
      | nil => simp [upto0]
      | cons c r ih =>
        rw [upto0]
        by_cases hc : c = 0
        · simp [hc]
        · rw [if_neg hc]
          rw [List.mem_cons]
          cases hu : upto0 r with
          | none => rw [hu] at ih; simp at ih; simp [ih, Ne.symm hc]
          | some g => rw [hu] at ih; exact ⟨fun _ => Int.natCast_nonneg _, fun _ => .inr (ih.2 (Int.natCast_nonneg _))⟩)
    generalize Lib.indexByte (tab.drop n) 0 = ib at *
    obtain ⟨m1, a1, k1, -, rfl, _, _⟩ := hv1.shape
    clear hrun hlt hv1
    have HXX := Lib.hid (show decide (n < tab.length) = true by have := hm.out; simp; omega)
    cases hq : decide (0 ≤ ib)
    all_goals
     have hq' : decide (ib ≥ 0) = decide (0 ≤ ib) := rfl
     rw [hq] at hq' HX
     go_enter Try.func112, Try.ntmps112
     go_wp2_with (first
       | ((with_reducible show wpList _ _ _ (⟨some 2, .box _ _, _, _, _, _⟩ :: _) _ _); go_must (refine wpList_box rfl ?_; intro w1 hx1 hb1 hs1; have HX1 := Lib.hid hx1; have HB1 := Lib.hid hb1; clear hx1 hb1; obtain ⟨c0, c1, c2, c3, c4, c5⟩ := sec6 (s := ⟨n, t, d, al, q, z⟩) HX1.out; dsimp only at c0 c1 c2 c3 c4 c5))
       | ((with_reducible show wpList _ _ _ (⟨some 15, _, _, _, _, _⟩ :: _) _ _); go_must (refine wpList_val rfl (exec_sliceFrom HRUN.out rfl rfl) ?_))
       | (go_at_call 118; refine (HI.out _ HB1.out).mono ?_; rintro e w' ⟨rfl, rfl⟩))
     go_ret
     exact ⟨by rw [HR.out, HX.out, HXX.out]; rfl, HB1.out⟩
  · have h1 : decide ((n : Int) < (m : Int)) = false := by have := hm.out; simp; omega
    have HQ := Lib.hid hlt
    have hn9 : m ≤ n := by have := hm.out; omega
    clear hlt
    go_enter Try.func112, Try.ntmps112
    go_wp2_with ((with_reducible show wpList _ _ _ (⟨some 2, .box _ _, _, _, _, _⟩ :: _) _ _); go_must (refine wpList_box rfl ?_; intro w1 hx1 hb1 hs1; have HX1 := Lib.hid hx1; have HB1 := Lib.hid hb1; clear hx1 hb1; obtain ⟨c0, c1, c2, c3, c4, c5⟩ := sec6 (s := ⟨n, t, d, al, q, z⟩) HX1.out; dsimp only at c0 c1 c2 c3 c4 c5))
    go_ret
    exact ⟨by rw [HR.out, decide_eq_false HQ.out]; rfl, HB1.out⟩
set_option maxHeartbeats 1000000 in
set_option maxRecDepth 100000 in
theorem wCommon_any (a s b t : Nat) (w : World) (ha : a < 18446744073709551616) (hb : b < 18446744073709551616) (_hs : s < 18446744073709551616) (_ht : t < 18446744073709551616) :
    Calls Try.prog 99 #[.agg #[U6 a, U6 s], .agg #[U6 b, U6 t]] w fun r w' => r = .returned (.bool (commonB a s b t)) ∧ Below w.heap.size w w' := by
  by_cases hlt : b < a
  · have h1 : decide ((a : Int) > (b : Int)) = true := by simp; omega
    have h2 : IntKind.u64.wrap ((a : Int) - (b : Int)) = ((a - b : Nat) : Int) := u64_sub' (by omega) ha
    have h3 : decide ((s : Int) > 0) = decide (0 < s) := by simp
    have h5 : IntKind.u64.wrap ((a - b : Nat) : Int) = ((a - b : Nat) : Int) := by simp [IntKind.wrap, IntKind.bits, IntKind.signed]; omega
    have HR := Lib.hid (show commonB a s b t = (decide (0 < s) && decide (a - b < t)) by unfold commonB; rw [if_pos hlt])
    have HX := Lib.hid (And.intro ha hb)
    clear ha hb h1 h3
    generalize commonB a s b t = qr at *
    rcases Nat.eq_zero_or_pos s with rfl | h0
    · have HR2 := Lib.hid (show qr = false by rw [HR.out]; rfl)
      clear HR
      go_enter Try.func99, Try.ntmps99
      go_wp2_with (first
        | ((with_reducible show wpList _ _ _ (⟨some 2, .box _ _, _, _, _, _⟩ :: _) _ _); go_must (refine wpList_box rfl ?_; intro w1 hx1 hb1 hs1; have HX1 := Lib.hid hx1; have HB1 := Lib.hid hb1; clear hx1 hb1))
        | ((with_reducible show wpList _ _ _ (⟨some 3, .box _ _, _, _, _, _⟩ :: _) _ _); go_must (refine wpList_box rfl ?_; intro w2 hx2 hb2 hs2; have HX2 := Lib.hid hx2; have HX12 := Lib.hid (heap_below hb2 HX1.out); have HB2 := Lib.hid (HB1.out.trans (hb2.mono HB1.out.size)); clear hx2 hb2; obtain ⟨c0, c1⟩ := spn2 HX12.out; obtain ⟨d0, d1⟩ := spn2 HX2.out))
        | ((with_reducible show wpList _ _ _ (⟨none, .store _ (.tmp 2) _, _, _, _, _⟩ :: _) _ _); go_must (refine wpList_storeRowS HX12.out rfl rfl rfl (by kernel_rfl) (by simp [Value.oneCell']) ?_; intro w3 hh3 hs3; have HH3 := Lib.hid hh3; have HX23 := Lib.hid (hs3.kept HX2.out (show ¬ w1.heap.size = w.heap.size by omega)); have HB3 := Lib.hid (HB2.out.trans (hs3.below HB2.out.size (fun j hj => by rw [hj]; exact Nat.le_refl _))); clear hh3 hs3 c0 c1 d0 d1))
        | ((with_reducible show wpList _ _ _ (⟨none, .store _ (.tmp 3) _, _, _, _, _⟩ :: _) _ _); go_must (refine wpList_storeRowS HX23.out rfl rfl rfl (by kernel_rfl) (by simp [Value.oneCell']) ?_; intro w4 hh4 hs4; have HB4 := Lib.hid (HB3.out.trans (hs4.below HB3.out.size (fun j hj => by rw [hj]; omega))); obtain ⟨d0, d1⟩ := spn2 hh4; obtain ⟨c0, c1⟩ := spn2 (hs4.kept HH3.out (show ¬ w.heap.size = w1.heap.size by omega)); clear hh4 hs4)))
      go_ret
      exact ⟨by rw [HR2.out]; rfl, HB4.out⟩
    · have HR2 := Lib.hid (show qr = decide (a - b < t) by rw [HR.out, decide_eq_true h0]; rfl)
      clear HR
      go_enter Try.func99, Try.ntmps99
      go_wp2_with (first
        | ((with_reducible show wpList _ _ _ (⟨some 2, .box _ _, _, _, _, _⟩ :: _) _ _); go_must (refine wpList_box rfl ?_; intro w1 hx1 hb1 hs1; have HX1 := Lib.hid hx1; have HB1 := Lib.hid hb1; clear hx1 hb1))
        | ((with_reducible show wpList _ _ _ (⟨some 3, .box _ _, _, _, _, _⟩ :: _) _ _); go_must (refine wpList_box rfl ?_; intro w2 hx2 hb2 hs2; have HX2 := Lib.hid hx2; have HX12 := Lib.hid (heap_below hb2 HX1.out); have HB2 := Lib.hid (HB1.out.trans (hb2.mono HB1.out.size)); clear hx2 hb2; obtain ⟨c0, c1⟩ := spn2 HX12.out; obtain ⟨d0, d1⟩ := spn2 HX2.out))
        | ((with_reducible show wpList _ _ _ (⟨none, .store _ (.tmp 2) _, _, _, _, _⟩ :: _) _ _); go_must (refine wpList_storeRowS HX12.out rfl rfl rfl (by kernel_rfl) (by simp [Value.oneCell']) ?_; intro w3 hh3 hs3; have HH3 := Lib.hid hh3; have HX23 := Lib.hid (hs3.kept HX2.out (show ¬ w1.heap.size = w.heap.size by omega)); have HB3 := Lib.hid (HB2.out.trans (hs3.below HB2.out.size (fun j hj => by rw [hj]; exact Nat.le_refl _))); clear hh3 hs3 c0 c1 d0 d1))
        | ((with_reducible show wpList _ _ _ (⟨none, .store _ (.tmp 3) _, _, _, _, _⟩ :: _) _ _); go_must (refine wpList_storeRowS HX23.out rfl rfl rfl (by kernel_rfl) (by simp [Value.oneCell']) ?_; intro w4 hh4 hs4; have HB4 := Lib.hid (HB3.out.trans (hs4.below HB3.out.size (fun j hj => by rw [hj]; omega))); obtain ⟨d0, d1⟩ := spn2 hh4; obtain ⟨c0, c1⟩ := spn2 (hs4.kept HH3.out (show ¬ w.heap.size = w1.heap.size by omega)); clear hh4 hs4)))
      go_ret
      exact ⟨by rw [HR2.out]; rfl, HB4.out⟩
  · have h1 : decide ((a : Int) > (b : Int)) = false := by simp; omega
    have h2 : IntKind.u64.wrap ((b : Int) - (a : Int)) = ((b - a : Nat) : Int) := u64_sub' (by omega) hb
    have h3 : decide ((t : Int) > 0) = decide (0 < t) := by simp
    have h5 : IntKind.u64.wrap ((b - a : Nat) : Int) = ((b - a : Nat) : Int) := by simp [IntKind.wrap, IntKind.bits, IntKind.signed]; omega
    have HR := Lib.hid (show commonB a s b t = (decide (0 < t) && decide (b - a < s)) by unfold commonB; rw [if_neg hlt])
    have HX := Lib.hid (And.intro ha hb)
    have hle : a ≤ b := Nat.not_lt.1 hlt
    clear hlt
    clear ha hb h1 h3
    generalize commonB a s b t = qr at *
    rcases Nat.eq_zero_or_pos t with rfl | h0
    · have HR2 := Lib.hid (show qr = false by rw [HR.out]; rfl)
      clear HR
      go_enter Try.func99, Try.ntmps99
      go_wp2_with (first
        | ((with_reducible show wpList _ _ _ (⟨some 2, .box _ _, _, _, _, _⟩ :: _) _ _); go_must (refine wpList_box rfl ?_; intro w1 hx1 hb1 hs1; have HX1 := Lib.hid hx1; have HB1 := Lib.hid hb1; clear hx1 hb1))
        | ((with_reducible show wpList _ _ _ (⟨some 3, .box _ _, _, _, _, _⟩ :: _) _ _); go_must (refine wpList_box rfl ?_; intro w2 hx2 hb2 hs2; have HX2 := Lib.hid hx2; have HX12 := Lib.hid (heap_below hb2 HX1.out); have HB2 := Lib.hid (HB1.out.trans (hb2.mono HB1.out.size)); clear hx2 hb2; obtain ⟨c0, c1⟩ := spn2 HX12.out; obtain ⟨d0, d1⟩ := spn2 HX2.out)))
      go_ret
      exact ⟨by rw [HR2.out]; rfl, HB2.out⟩
    · have HR2 := Lib.hid (show qr = decide (b - a < s) by rw [HR.out, decide_eq_true h0]; rfl)
      clear HR
      go_enter Try.func99, Try.ntmps99
      go_wp2_with (first
        | ((with_reducible show wpList _ _ _ (⟨some 2, .box _ _, _, _, _, _⟩ :: _) _ _); go_must (refine wpList_box rfl ?_; intro w1 hx1 hb1 hs1; have HX1 := Lib.hid hx1; have HB1 := Lib.hid hb1; clear hx1 hb1))
        | ((with_reducible show wpList _ _ _ (⟨some 3, .box _ _, _, _, _, _⟩ :: _) _ _); go_must (refine wpList_box rfl ?_; intro w2 hx2 hb2 hs2; have HX2 := Lib.hid hx2; have HX12 := Lib.hid (heap_below hb2 HX1.out); have HB2 := Lib.hid (HB1.out.trans (hb2.mono HB1.out.size)); clear hx2 hb2; obtain ⟨c0, c1⟩ := spn2 HX12.out; obtain ⟨d0, d1⟩ := spn2 HX2.out)))
      go_ret
      exact ⟨by rw [HR2.out]; rfl, HB2.out⟩
end Go.Proofs.Ytimnbnomaajmmaa
namespace Go.Fd
open Go.RowKit
section
variable {P : Program} {L : List Oper} {Q : Exit → Act → World → Prop} {w0 : World} {fuel i : Nat} {listed : Array Bool} {a : Act} {w : World} {o : Oper}
end
section
variable {P : Program} {ops : Array Oper} {rest : List Oper} {Q : Exit → Act → World → Prop} {a : Act} {w : World} {o : Oper}
theorem wpList_callIs {f : FuncId} {args : Array Value} {c : Value} (hw : Region.wanted o (yielded ops a.tmps) = true) (hr : (execOp a.eval o).run P w = .ok (.enter f args) w) (hc : Calls P f args w fun e w' => e = .returned c ∧ w = w')
    (h : wpList P ops Q rest (a.put o.dst c) w) : wpList P ops Q (o :: rest) a w := by
  unfold wpList
  rw [if_pos hw]
  refine .inl ?_
  unfold Oper.wp Oper.upon
  rw [hr]
  refine hc.mono ?_
  rintro e w' ⟨rfl, rfl⟩
  exact h
/-- Two numbers into a block that was made. -/
theorem wpList_store2 {d : Option Tmp} {ty t tb : TypeId} {pos : String} {aft : Array Edge} {p x : Operand} {c : Array Value} {g j : Nat} {k k' : IntKind} {n n' : Int} (hg : w.heap[g]? = some (.cells c tb (0, 0))) (hj : j + 1 < c.size) (hp : a.eval p = .pointer (some ⟨g, j, none⟩)) (hx : a.eval x = .agg #[.int k n, .int k' n']) (hs : ∀ w, (sizeOf t).run P w = .ok 2 w)
    (h : ∀ w1, w1.heap[g]? = some (.cells ((c.setIfInBounds j (.int k n)).setIfInBounds (j + 1) (.int k' n')) tb (0, 0)) → Stirs (fun k => k = g) w w1 → wpList P ops Q rest (a.put d undef) w1) :
    wpList P ops Q (⟨d, .store t p x, ty, pos, aft, none⟩ :: rest) a w := by
  have hc : w.cell? ⟨g, j, none⟩ = some c[j] := (cell_rec hg j).trans (Array.getElem?_eq_getElem (by omega))
  have hc' : w.cell? ⟨g, j + 1, none⟩ = some c[j + 1] := (cell_rec hg (j + 1)).trans (Array.getElem?_eq_getElem hj)
  have hfz : w.frozen? ⟨g, j, none⟩ = false := by simp [World.frozen?, hg]
  have hfz' : w.frozen? ⟨g, j + 1, none⟩ = false := by simp [World.frozen?, hg]
  have hst : Stirs (fun k => k = g) w ((w.setCell ⟨g, j, none⟩ (.int k n)).setCell ⟨g, j + 1, none⟩ (.int k' n')) := (stirs_setCell (S := fun k => k = g) _ g j _ rfl).trans (stirs_setCell (S := fun k => k = g) _ g (j + 1) _ rfl) (fun _ _ h => h)
  refine wpList_did (w' := (w.setCell ⟨g, j, none⟩ (.int k n)).setCell ⟨g, j + 1, none⟩ (.int k' n')) rfl ?_ (h _ ?_ hst)
  · simp only [execOp, hp, hx]
    simp [go_sem, hs, hc, hc', hfz, hfz']
  · simp [World.setCell, Array.getElem?_modify, hg]
end
end Go.Fd
namespace Go.Fd
open Go.RowKit
section
variable {P : Program} {ops : Array Oper} {Q : Exit → Act → World → Prop} {md : Region.Mode} {S : World → Prop} {f : Nat}
/-- Whatever order is picked from here on; S holds behind each operation as long as operation f has not come up. -/
def wpAnyF (P : Program) (md : Region.Mode) (ops : Array Oper) (Q : Exit → Act → World → Prop) (S : World → Prop) (f : Nat) : Nat → Array Bool → Act → World → Prop
  | 0, listed, a, w => Region.ready md ops listed = [] ∧ Q .normal a w
  | fuel + 1, listed, a, w =>
    (Region.ready md ops listed = [] → Q .normal a w) ∧
    ∀ i ∈ Region.ready md ops listed, wpOp P ops Q i (fun a' w' => ((listed.setIfInBounds i true).getD f true = false → S w') ∧ wpAnyF P md ops Q S f fuel (listed.setIfInBounds i true) a' w') a w
theorem wpAny_of_flag : ∀ (fuel : Nat) (listed : Array Bool) (a : Act) (w : World), wpAnyF P md ops Q S f fuel listed a w → wpAny P md ops Q fuel listed a w
  | 0, _, _, _, h => h
  | fuel + 1, _, _, _, h => ⟨h.1, fun i hi => wpOp_mono (fun a' w' h' => wpAny_of_flag fuel _ a' w' h'.2) (h.2 i hi)⟩
theorem getD_two {listed : Array Bool} {c : Nat} (h : listed.getD c true = false) : listed.getD c false = false := by
  rcases Nat.lt_or_ge c listed.size with h' | h'
  · simp [h'] at h ⊢; exact h
  · simp [Array.getElem?_eq_none h'] at h
theorem wpAnyF_first {i : Nat} {oi : Oper} {v : Value} {chain : List Nat} (hi : ops[i]? = some oi) (hsel : ∀ (j : Nat) (o : Oper) cs b, ops[j]? = some o → o.op ≠ .select cs b)
    (hQ : ∀ c a w, Q (.panic c) (a.put oi.dst v) w → Q (.panic c) a w) (hf : f ∈ chain) (hic : i ∉ chain) (hch : ∀ c ∈ chain, ∃ oc, ops[c]? = some oc ∧ ∃ e ∈ oc.after, Region.binds md e = true ∧ (e.on = i ∨ e.on ∈ chain)) :
    ∀ (fuel : Nat) (listed : Array Bool) (a : Act) (w : World),
      (∀ j oj, ops[j]? = some oj → j ≠ i → listed.getD j true = false → (∀ e ∈ oj.after, Region.binds md e = true → e.on ≠ i) → oi.apart ops oj = true) →
      i ∈ Region.ready md ops listed → (∀ c ∈ chain, listed.getD c true = false) → YieldsIf P ops S oi v a → S w →
      wpAnyF P md ops Q S f fuel (listed.setIfInBounds i true) (a.put oi.dst v) w → wpAnyF P md ops Q S f (fuel + 1) listed a w := by
  intro fuel
  induction fuel with
  | zero =>
    intro listed a w _ hr hc hy hS H
    refine ⟨fun h => (by rw [h] at hr; cases hr), fun j hj => ?_⟩
    by_cases hji : j = i
    · subst hji; exact hy.wpOp hi hS ⟨fun _ => hS, H⟩
    · have := ready_mono hj hji
      rw [H.1] at this
      cases this
  | succ fuel ih =>
    intro listed a w hfree hr hc hy hS H
    refine ⟨fun h => (by rw [h] at hr; cases hr), fun j hj => ?_⟩
    by_cases hji : j = i
    · subst hji; exact hy.wpOp hi hS ⟨fun _ => hS, H⟩
    · have h1 := H.2 j (ready_mono hj hji)
      obtain ⟨hjun, oj, hoj, hall⟩ := mem_ready.1 hj
      have hiun := getD_two (mem_ready.1 hr).1
      have hjc : j ∉ chain := fun hjc => by
        obtain ⟨oc, hoc, e, he, hb, hon⟩ := hch j hjc
        rw [hoj] at hoc
        cases hoc
        have h2 := hall e he hb
        rcases hon with hon | hon
        · rw [hon, hiun] at h2; cases h2
        · rw [getD_two (hc _ hon)] at h2; cases h2
      have hfi : i ≠ f := fun h => hic (h ▸ hf)
      have hfj : j ≠ f := fun h => hjc (h ▸ hf)
      have hnot : ∀ e ∈ oj.after, Region.binds md e = true → e.on ≠ i := fun e he hb heq => by
        have h1 := hall e he hb
        rw [heq, hiun] at h1
        cases h1
      have h2 := wpOp_putIf hoj (hfree j oj hoj hji hjun hnot) (fun cs b => hsel i oi cs b hi) (fun cs b => hsel j oj cs b hoj) hQ hy h1
      have hfree' : ∀ k ok, ops[k]? = some ok → k ≠ i → (listed.setIfInBounds j true).getD k true = false →
          (∀ e ∈ ok.after, Region.binds md e = true → e.on ≠ i) → oi.apart ops ok = true := fun k ok hk hki hun hno => by
        refine hfree k ok hk hki ?_ hno
        by_cases hjk : j = k
        · subst hjk; exact hjun
        · rw [getD_set_ne true hjk] at hun; exact hun
      have hfu : listed.getD f true = false := hc f hf
      refine wpOp_mono (fun a' w' h3 => ?_) h2
      have hS' : S w' := h3.2.1 (by rw [getD_set_ne true hfj, getD_set_ne true hfi]; exact hfu)
      refine ⟨fun _ => hS', ih (listed.setIfInBounds j true) a' w' hfree' (ready_mono hr (Ne.symm hji)) (fun c hcc => ?_) h3.1 hS' ?_⟩
      · rw [getD_set_ne true (fun h => hjc (by rw [h]; exact hcc))]; exact hc c hcc
      · rw [Array.setIfInBounds_comm _ _ hji]
        exact h3.2.2
/-- What yields in whatever world is taken first at any time. -/
theorem wpAnyF_pure {i : Nat} {oi : Oper} {v : Value} (hi : ops[i]? = some oi) (hsel : ∀ (j : Nat) (o : Oper) cs b, ops[j]? = some o → o.op ≠ .select cs b)
    (hQ : ∀ c a w, Q (.panic c) (a.put oi.dst v) w → Q (.panic c) a w) (hfi : i ≠ f) :
    ∀ (fuel : Nat) (listed : Array Bool) (a : Act) (w : World),
      (∀ j oj, ops[j]? = some oj → j ≠ i → listed.getD j true = false → (∀ e ∈ oj.after, Region.binds md e = true → e.on ≠ i) → oi.apart ops oj = true) →
      i ∈ Region.ready md ops listed → YieldsIf P ops (fun _ => True) oi v a → (listed.getD f true = false → S w) →
      wpAnyF P md ops Q S f fuel (listed.setIfInBounds i true) (a.put oi.dst v) w → wpAnyF P md ops Q S f (fuel + 1) listed a w := by
  intro fuel
  induction fuel with
  | zero =>
    intro listed a w _ hr hy hS H
    refine ⟨fun h => (by rw [h] at hr; cases hr), fun j hj => ?_⟩
    by_cases hji : j = i
    · subst hji; exact hy.wpOp hi trivial ⟨fun h => hS (by rw [getD_set_ne true hfi] at h; exact h), H⟩
    · have := ready_mono hj hji
      rw [H.1] at this
      cases this
  | succ fuel ih =>
    intro listed a w hfree hr hy hS H
    refine ⟨fun h => (by rw [h] at hr; cases hr), fun j hj => ?_⟩
    by_cases hji : j = i
    · subst hji; exact hy.wpOp hi trivial ⟨fun h => hS (by rw [getD_set_ne true hfi] at h; exact h), H⟩
    · have h1 := H.2 j (ready_mono hj hji)
      obtain ⟨hjun, oj, hoj, hall⟩ := mem_ready.1 hj
      have hiun := getD_two (mem_ready.1 hr).1
      have hnot : ∀ e ∈ oj.after, Region.binds md e = true → e.on ≠ i := fun e he hb heq => by
        have h1 := hall e he hb
        rw [heq, hiun] at h1
        cases h1
      have h2 := wpOp_putIf hoj (hfree j oj hoj hji hjun hnot) (fun cs b => hsel i oi cs b hi) (fun cs b => hsel j oj cs b hoj) hQ hy h1
      have hfree' : ∀ k ok, ops[k]? = some ok → k ≠ i → (listed.setIfInBounds j true).getD k true = false →
          (∀ e ∈ ok.after, Region.binds md e = true → e.on ≠ i) → oi.apart ops ok = true := fun k ok hk hki hun hno => by
        refine hfree k ok hk hki ?_ hno
        by_cases hjk : j = k
        · subst hjk; exact hjun
        · rw [getD_set_ne true hjk] at hun; exact hun
      refine wpOp_mono (fun a' w' h3 => ?_) h2
      have hS' : (listed.setIfInBounds j true).getD f true = false → S w' := fun h => h3.2.1 (by
        rw [← Array.setIfInBounds_comm _ _ hji, getD_set_ne true hfi]; exact h)
      refine ⟨hS', ih (listed.setIfInBounds j true) a' w' hfree' (ready_mono hr (Ne.symm hji)) h3.1 hS' ?_⟩
      rw [Array.setIfInBounds_comm _ _ hji]
      exact h3.2.2
theorem wp_region_flag {id : Nat} {a : Act} {w : World} (f : Nat) (S : World → Prop) (hm : P.follows .mixedOrders = true)
    (h : wpAnyF P .any ops Q S f ops.size (Array.replicate ops.size false) a { w with drawn := w.drawn + 1 }) : (Code.region id ops true).wp P Q a w :=
  wp_region_any hm (wpAny_of_flag _ _ _ _ h)
/-- The same, from a world of which it is known that it is the one ahead of the draw but for draws. -/
theorem wp_region_flagW {id : Nat} {a : Act} {w : World} (f : Nat) (hm : P.follows .mixedOrders = true)
    (h : ∀ wz, Below w.heap.size w wz → wz.heap.size = w.heap.size → wpAnyF P .any ops Q (SAb w) f ops.size (Array.replicate ops.size false) a wz) : (Code.region id ops true).wp P Q a w :=
  wp_region_flag f (SAb w) hm (h _ (Below.refl _ _).drew rfl)
theorem flagOff {listed : Array Bool} {X : Prop} (h : listed.getD f true = true) : listed.getD f true = false → X := fun h' => by rw [h] at h'; cases h'
theorem wpAnyF_done {listed : Array Bool} {a : Act} {w : World} (hr : Region.ready md ops listed = []) (h : Q .normal a w) :
    ∀ fuel, wpAnyF P md ops Q S f fuel listed a w
  | 0 => ⟨hr, h⟩
  | _ + 1 => ⟨fun _ => h, by rw [hr]; simp⟩
end
section
variable {P : Program} {L : List Oper} {Q : Exit → Act → World → Prop} {w0 : World} {f fuel i : Nat} {listed : Array Bool} {a : Act} {w : World} {o : Oper}
def mayFirst (L : List Oper) (listed : Array Bool) (i : Nat) : Bool := Region.noSelect L.toArray && Region.free .any L.toArray listed i && (Region.ready .any L.toArray listed).contains i
def chainB (L : List Oper) (listed : Array Bool) (f i : Nat) (chain : List Nat) : Bool :=
  chain.contains f && !chain.contains i && chain.all fun c => (listed.getD c true == false) && (match L[c]? with | some oc => oc.after.any fun e => Region.binds .any e && (e.on == i || chain.contains e.on) | none => false)
theorem chainB_spec {chain : List Nat} (h : chainB L listed f i chain = true) : f ∈ chain ∧ i ∉ chain ∧ (∀ c ∈ chain, ∃ oc, L.toArray[c]? = some oc ∧ ∃ e ∈ oc.after, Region.binds .any e = true ∧ (e.on = i ∨ e.on ∈ chain)) ∧ ∀ c ∈ chain, listed.getD c true = false := by
  unfold chainB at h
  simp only [Bool.and_eq_true, List.all_eq_true, Bool.not_eq_true', List.contains_eq_mem, decide_eq_true_eq, decide_eq_false_iff_not, beq_iff_eq] at h
  obtain ⟨⟨h1, h2⟩, h3⟩ := h
  refine ⟨h1, h2, fun c hc => ?_, fun c hc => (h3 c hc).1⟩
  have h4 := (h3 c hc).2
  cases hL : L[c]? with
  | none => rw [hL] at h4; cases h4
  | some oc =>
    rw [hL] at h4
    simp only [Array.any_eq_true, Bool.and_eq_true, Bool.or_eq_true, beq_iff_eq, decide_eq_true_eq] at h4
    obtain ⟨k, hk, hb, ho⟩ := h4
    exact ⟨oc, by simpa using hL, _, Array.getElem_mem hk, hb, ho⟩
/-- An operation that reads, taken first: f waits for it. -/
theorem flag_quiet (chain : List Nat) (hi : L[i]? = some o) (hB : mayFirst L listed i = true) (hc : chainB L listed f i chain = true) (hw : Region.wanted o (yielded L.toArray a.tmps) = true) (hv : valB o = true)
    (hQ : ∀ v c a w, Q (.panic c) (a.put o.dst v) w → Q (.panic c) a w) (hb : Below w0.heap.size w0 w)
    (h : ∀ K : Act → Prop, (∀ a, wpAnyF P .any L.toArray Q (SAb w0) f fuel (listed.setIfInBounds i true) a w → K a) → o.quiet P a (fun w => ∃ x : Above w0, w = x.w) K) : wpAnyF P .any L.toArray Q (SAb w0) f (fuel + 1) listed a w := by
  unfold mayFirst at hB
  simp only [Bool.and_eq_true] at hB
  obtain ⟨⟨h1, h2⟩, h3⟩ := hB
  obtain ⟨k1, k2, k3, k4⟩ := chainB_spec hc
  obtain ⟨v, q1, q2⟩ := h (fun a => wpAnyF P .any L.toArray Q (SAb w0) f fuel (listed.setIfInBounds i true) a w) (fun _ h => h)
  have hi' : L.toArray[i]? = some o := by simpa using hi
  refine wpAnyF_first hi' (Region.noSelect_spec h1) (hQ v) k1 k2 k3 fuel listed a w (Region.free_spec hi' h2) (by simpa using h3) k4 (.inl ⟨hw, fun w' hw' => ?_⟩) hb q2
  have := q1 w' ⟨⟨w', hw'⟩, rfl⟩
  unfold Oper.quietAt at this
  generalize hr : (execOp a.eval o).run P w' = res at this
  cases res with
  | halt x w2 => exact this.elim
  | ok n w2 =>
    obtain ⟨u, rfl⟩ := valB_spec hv hr
    obtain ⟨rfl, rfl⟩ := (this : w2 = w' ∧ u = v)
    rfl
/-- An operation that looks at no world, taken first. -/
theorem flag_pure (hi : L[i]? = some o) (hB : (mayFirst L listed i && !(i == f)) = true) (hw : Region.wanted o (yielded L.toArray a.tmps) = true) (hv : valB o = true)
    (hQ : ∀ v c a w, Q (.panic c) (a.put o.dst v) w → Q (.panic c) a w) (hb : listed.getD f true = false → Below w0.heap.size w0 w)
    (h : ∀ K : Act → Prop, (∀ a, wpAnyF P .any L.toArray Q (SAb w0) f fuel (listed.setIfInBounds i true) a w → K a) → o.quiet P a (fun _ => True) K) : wpAnyF P .any L.toArray Q (SAb w0) f (fuel + 1) listed a w := by
  unfold mayFirst at hB
  simp only [Bool.and_eq_true, Bool.not_eq_true', beq_eq_false_iff_ne] at hB
  obtain ⟨⟨⟨h1, h2⟩, h3⟩, h4⟩ := hB
  obtain ⟨v, q1, q2⟩ := h (fun a => wpAnyF P .any L.toArray Q (SAb w0) f fuel (listed.setIfInBounds i true) a w) (fun _ h => h)
  have hi' : L.toArray[i]? = some o := by simpa using hi
  refine wpAnyF_pure hi' (Region.noSelect_spec h1) (hQ v) h4 fuel listed a w (Region.free_spec hi' h2) (by simpa using h3) (.inl ⟨hw, fun w' _ => ?_⟩) hb q2
  have := q1 w' trivial
  unfold Oper.quietAt at this
  generalize hr : (execOp a.eval o).run P w' = res at this
  cases res with
  | halt x w2 => exact this.elim
  | ok n w2 =>
    obtain ⟨u, rfl⟩ := valB_spec hv hr
    obtain ⟨rfl, rfl⟩ := (this : w2 = w' ∧ u = v)
    rfl
theorem flag_check {x : Operand} {p : Addr} (hi : L[i]? = some o) (hB : (mayFirst L listed i && !(i == f)) = true) (hw : Region.wanted o (yielded L.toArray a.tmps) = true) (ho : o.op = .nilCheck x) (hp : a.eval x = .pointer (some p))
    (hQ : ∀ v c a w, Q (.panic c) (a.put o.dst v) w → Q (.panic c) a w) (hb : listed.getD f true = false → Below w0.heap.size w0 w)
    (h : wpAnyF P .any L.toArray Q (SAb w0) f fuel (listed.setIfInBounds i true) (a.put o.dst (.pointer (some p))) w) : wpAnyF P .any L.toArray Q (SAb w0) f (fuel + 1) listed a w := by
  unfold mayFirst at hB
  simp only [Bool.and_eq_true, Bool.not_eq_true', beq_eq_false_iff_ne] at hB
  obtain ⟨⟨⟨h1, h2⟩, h3⟩, h4⟩ := hB
  have hi' : L.toArray[i]? = some o := by simpa using hi
  exact wpAnyF_pure (v := .pointer (some p)) hi' (Region.noSelect_spec h1) (hQ _) h4 fuel listed a w (Region.free_spec hi' h2) (by simpa using h3) (.inl ⟨hw, fun w' _ => by simp only [execOp, ho, hp]; rfl⟩) hb h
/-- One operation alone may come up. -/
theorem flag_one (hr : Region.ready .any L.toArray listed = [i]) (hi : L[i]? = some o)
    (h : wpList P L.toArray (Exit.then (fun a' w' => ((listed.setIfInBounds i true).getD f true = false → SAb w0 w') ∧ wpAnyF P .any L.toArray Q (SAb w0) f fuel (listed.setIfInBounds i true) a' w') Q) [o] a w) : wpAnyF P .any L.toArray Q (SAb w0) f (fuel + 1) listed a w := by
  refine ⟨(fun h0 => by rw [hr] at h0; cases h0), fun j hj => ?_⟩
  rw [hr, List.mem_singleton] at hj
  subst hj
  exact wpOp_of_list (by simpa using hi) h
end
end Go.Fd
namespace Go.Proofs.Ytimnbnomaajmmaa
open Go.RowKit Go.Fd
theorem ownR_keeps {e0 : TypeId} {α : Type} {k : Nat} {enc : α → List Value} {e : TypeId} {w w' : World} {base : Nat} {v : Value} {l : List α} (h : OwR k enc e w base v l) (hk : Keeps e0 w w') (he : e ≠ e0) : OwR k enc e w' base v l := by
  refine ⟨h.1, ?_⟩
  rcases h.2 with h2 | ⟨g, cap, cur, hv, hg2, hh2, r⟩
  · exact .inl h2
  · exact .inr ⟨g, cap, cur, hv, hg2, hk _ _ _ _ he hh2, r⟩
theorem own_apart {w : World} {p : Nat} {c : Array Value} {fz : Nat × Nat} {t : TypeId} (hblk : w.heap[p]? = some (.cells c t fz)) {e : TypeId} {base size n : Nat} {v : Value} {xs : List Value} (h : w.ownsRow base e size v n xs) (he : e ≠ t) : ∀ k, v.ownBlock = some k → ¬ k = p := by
  intro k hk1 hkp
  subst hkp
  obtain ⟨c, fz, hc⟩ := own_kind h k hk1
  rw [hblk] at hc
  cases hc
  exact he rfl
theorem Lk.secd {w0 w : World} {p : Nat} {l : List UInt8} {bv : Value} {F : List FlM} {S : List WSec} {G : List WSeg} {fv sv gv : Value} {w1 w2 : World} {S' : List WSec} {sv' : Value} (h : Lk w0 w p l bv F S G fv sv gv) (ho : OwR 6 encWS 144 w1 w0.heap.size sv' S') (hg : w.grownBy w1 sv.ownBlock) (hb : Below w0.heap.size w w1)
    (hh : w2.heap[p]? = some (.cells #[bv, fv, sv', gv] 123 (0, 0))) (hs : Stirs (fun k => k = p) w1 w2) : Lk w0 w2 p l bv F S' G fv sv' gv := by
  have hk := keeps_own h.s hg
  have hblk := hk _ _ _ _ (show 123 ≠ 144 by decide) h.blk
  have hf1 := ownR_keeps h.f hk (by decide)
  have hg1 := ownR_keeps h.g hk (by decide)
  exact ⟨hh, h.hp, (h.below.trans hb).trans (hs.below (Nat.le_trans h.below.size hb.size) (fun k hk => by rw [hk]; exact h.hp)), h.b, owns_stirs hf1 hs (own_apart hblk hf1 (by decide)), owns_stirs ho hs (own_apart hblk ho (by decide)), owns_stirs hg1 hs (own_apart hblk hg1 (by decide))⟩
theorem Lk.segd {w0 w : World} {p : Nat} {l : List UInt8} {bv : Value} {F : List FlM} {S : List WSec} {G : List WSeg} {fv sv gv : Value} {w1 w2 : World} {G' : List WSeg} {gv' : Value} (h : Lk w0 w p l bv F S G fv sv gv) (ho : OwR 8 encWG 146 w1 w0.heap.size gv' G') (hg : w.grownBy w1 gv.ownBlock) (hb : Below w0.heap.size w w1)
    (hh : w2.heap[p]? = some (.cells #[bv, fv, sv, gv'] 123 (0, 0))) (hs : Stirs (fun k => k = p) w1 w2) : Lk w0 w2 p l bv F S G' fv sv gv' := by
  have hk := keeps_own h.g hg
  have hblk := hk _ _ _ _ (show 123 ≠ 146 by decide) h.blk
  have hf1 := ownR_keeps h.f hk (by decide)
  have hs1 := ownR_keeps h.s hk (by decide)
  exact ⟨hh, h.hp, (h.below.trans hb).trans (hs.below (Nat.le_trans h.below.size hb.size) (fun k hk => by rw [hk]; exact h.hp)), h.b, owns_stirs hf1 hs (own_apart hblk hf1 (by decide)), owns_stirs hs1 hs (own_apart hblk hs1 (by decide)), owns_stirs ho hs (own_apart hblk ho (by decide))⟩
theorem run_oneWS {x : Operand} {s : WSec} {a : Act} {w : World} {d : Option Tmp} {ty : TypeId} {pos : String} {aft : Array Edge} {g : Option (Nat × Bool)} (hx : a.eval x = .agg (encWS s).toArray) :
    (execOp a.eval ⟨d, .buildSlice 120 1 #[(0, x)], ty, pos, aft, g⟩).run Try.prog w = .ok (.value (.slice (some ⟨w.heap.size, 0, none⟩) 1 1)) (w.alloc (.cells (encWS s).toArray 144)) := by
  simp only [execOp, List.map_toArray, List.map_cons, List.map_nil, hx]
  kernel_rfl
theorem run_oneWG {x : Operand} {s : WSeg} {a : Act} {w : World} {d : Option Tmp} {ty : TypeId} {pos : String} {aft : Array Edge} {g : Option (Nat × Bool)} (hx : a.eval x = .agg (encWG s).toArray) :
    (execOp a.eval ⟨d, .buildSlice 121 1 #[(0, x)], ty, pos, aft, g⟩).run Try.prog w = .ok (.value (.slice (some ⟨w.heap.size, 0, none⟩) 1 1)) (w.alloc (.cells (encWG s).toArray 146)) := by
  simp only [execOp, List.map_toArray, List.map_cons, List.map_nil, hx]
  kernel_rfl
abbrev segZ8 : Array Value := #[.int .u64 0, .int .u64 0, .int .u64 0, .int .u64 0, .int .u64 0, .int .u64 0, .int .u64 0, .int .u64 0]
theorem wpList_allocWG {ops : Array Oper} {rest : List Oper} {Q : Exit → Act → World → Prop} {a : Act} {w : World} {d : Option Tmp} {ty : TypeId} {pos : String} {aft : Array Edge}
    (h : ∀ w1, w1.heap[w.heap.size]? = some (.cells segZ8 146 (0, 0)) → Below w.heap.size w w1 → w.heap.size < w1.heap.size → wpList Try.prog ops Q rest (a.put d (.pointer (some ⟨w.heap.size, 0, none⟩))) w1) :
    wpList Try.prog ops Q (⟨d, .alloc 146, ty, pos, aft, none⟩ :: rest) a w :=
  wpList_val rfl (by kernel_rfl) (h (w.alloc (.cells segZ8 146)) (heap_alloc_last w _) (below_alloc w _) (by rw [World.size_alloc]; omega))
theorem i64_nat {n : Nat} (h : n < 9223372036854775808) : IntKind.i64.wrap (n : Int) = (n : Int) := by
  simp [IntKind.wrap, IntKind.bits, IntKind.signed]; omega
set_option maxHeartbeats 4000000 in
set_option maxRecDepth 100000 in
theorem wRead_any {w0 w : World} {p : Nat} {l : List UInt8} {bv : Value} {F : List FlM} {fv : Value} (h : Lk w0 w p l bv F [] [] fv (.slice none 0 0) (.slice none 0 0)) (hl : l.length ≤ 1000000000) (hn : gN l 60 2 ≤ 300) (hg : gN l 56 2 ≤ 300) (h40 : gN l 40 8 ≤ 1000000000) (h32 : gN l 32 8 ≤ 1000000000) :
    Calls Try.prog 74 #[.pointer (some ⟨p, 0, none⟩)] w fun r w' => r = .returned (.tuple #[]) ∧ ∃ sm sa sc gm ga gc, Lk w0 w' p l bv F (secsW l (gN l 60 2)) (segsW l (gN l 56 2)) fv (.slice sa sm sc) (.slice ga gm gc) := by
  have HL0 := Lib.hid h
  have HU : ∀ (a s : Nat) (wx : World) (S : List WSec) (G : List WSeg) (sv gv : Value), Lk w0 wx p l bv F S G fv sv gv → Calls Try.prog 94 #[.pointer (some ⟨p, 0, none⟩), .int .i64 a, .int .i64 s] wx fun r w' => r = .returned (U6 (gN l a s)) ∧ wx = w' := fun a s wx S G sv gv hx => wU_any hx a s hl
  have HUH := Lib.hid HU
  have HU60 : Hid (∀ (wx : World) (S : List WSec) (G : List WSeg) (sv gv : Value), Lk w0 wx p l bv F S G fv sv gv → Calls Try.prog 94 #[.pointer (some ⟨p, 0, none⟩), .int .i64 60, .int .i64 2] wx fun r w' => r = .returned (U6 (gN l 60 2)) ∧ wx = w') := HU 60 2
  have HU56 : Hid (∀ (wx : World) (S : List WSec) (G : List WSeg) (sv gv : Value), Lk w0 wx p l bv F S G fv sv gv → Calls Try.prog 94 #[.pointer (some ⟨p, 0, none⟩), .int .i64 56, .int .i64 2] wx fun r w' => r = .returned (U6 (gN l 56 2)) ∧ wx = w') := HU 56 2
  have HU40 : Hid (∀ (wx : World) (S : List WSec) (G : List WSeg) (sv gv : Value), Lk w0 wx p l bv F S G fv sv gv → Calls Try.prog 94 #[.pointer (some ⟨p, 0, none⟩), .int .i64 40, .int .i64 8] wx fun r w' => r = .returned (U6 (gN l 40 8)) ∧ wx = w') := HU 40 8
  have HU32 : Hid (∀ (wx : World) (S : List WSec) (G : List WSeg) (sv gv : Value), Lk w0 wx p l bv F S G fv sv gv → Calls Try.prog 94 #[.pointer (some ⟨p, 0, none⟩), .int .i64 32, .int .i64 8] wx fun r w' => r = .returned (U6 (gN l 32 8)) ∧ wx = w') := HU 32 8
  have HSS := Lib.hid (secsW_succ l)
  have HSL := Lib.hid (secsW_len l)
  have HGS := Lib.hid (segsW_succ l)
  have HGL := Lib.hid (segsW_len l)
  clear h HU
  generalize gN l 60 2 = n60 at *
  generalize gN l 56 2 = n56 at *
  generalize gN l 40 8 = n40 at *
  generalize gN l 32 8 = n32 at *
  have e60 := i64_nat (n := n60) (by omega)
  have e56 := i64_nat (n := n56) (by omega)
  have e40 := i64_nat (n := n40) (by omega)
  have e32 := i64_nat (n := n32) (by omega)
  go_enter Try.func74, Try.ntmps74
  go_wp2_with (go_at_call 94; with_reducible refine (HU60.out _ _ _ _ _ HL0.out).mono ?_; rintro e wu ⟨rfl, rfl⟩)
  clear e60
  go_loopw [10] (fun i wr => ∃ (k sm : Nat) (sa : Option Addr) (sc : Nat), i = .int .i64 k ∧ k ≤ n60 ∧ Hid (Lk w0 wr p l bv F (secsW l k) [] fv (.slice sa sm sc) (.slice none 0 0))) (fun i _ => n60 - (intOf i).toNat)
  case atStart => exact ⟨0, 0, none, 0, rfl, Nat.zero_le _, HL0.out⟩
  case round =>
    obtain ⟨k, sm, sa, sc, rfl, hk, HLC⟩ := hrel
    by_cases hlt : k < n60
    · obtain ⟨a, ha⟩ : ∃ a, a = n40 + 64 * k := ⟨_, rfl⟩
      have ha9 : a ≤ 1000100000 := by omega
      have hw1 : IntKind.i64.wrap (64 * (k : Int)) = 64 * (k : Int) := by have := i64_nat (n := 64 * k) (by omega); simpa using this
      have HAA := Lib.hid ha
      go_upto_region 4 with (go_at_call 94; with_reducible refine (HU40.out _ _ _ _ _ HLC.out).mono ?_; rintro e wu ⟨rfl, rfl⟩)
      have hw2 : (n40 : Int) + 64 * (k : Int) = (a : Int) := by rw [ha]; push_cast; rfl
      rw [hw2]
      clear hw1 hw2 ha
      have HC0 : Hid (∀ wx, Below wr.heap.size wr wx → Calls Try.prog 94 #[.pointer (some ⟨p, 0, none⟩), .int .i64 (a : Int), .int .i64 4] wx fun r w' => r = .returned (U6 (gN l a 4)) ∧ wx = w') := fun wx hwx => HUH.out a 4 _ _ _ _ _ (HLC.out.mono hwx)
      have HC4 : Hid (∀ wx, Below wr.heap.size wr wx → Calls Try.prog 94 #[.pointer (some ⟨p, 0, none⟩), .int .i64 ((a : Int) + 4), .int .i64 4] wx fun r w' => r = .returned (U6 (gN l (a + 4) 4)) ∧ wx = w') := fun wx hwx => HUH.out (a + 4) 4 _ _ _ _ _ (HLC.out.mono hwx)
      have HC16 : Hid (∀ wx, Below wr.heap.size wr wx → Calls Try.prog 94 #[.pointer (some ⟨p, 0, none⟩), .int .i64 ((a : Int) + 16), .int .i64 8] wx fun r w' => r = .returned (U6 (gN l (a + 16) 8)) ∧ wx = w') := fun wx hwx => HUH.out (a + 16) 8 _ _ _ _ _ (HLC.out.mono hwx)
      have HC48 : Hid (∀ wx, Below wr.heap.size wr wx → Calls Try.prog 94 #[.pointer (some ⟨p, 0, none⟩), .int .i64 ((a : Int) + 48), .int .i64 8] wx fun r w' => r = .returned (U6 (gN l (a + 48) 8)) ∧ wx = w') := fun wx hwx => HUH.out (a + 48) 8 _ _ _ _ _ (HLC.out.mono hwx)
      have HC24 : Hid (∀ wx, Below wr.heap.size wr wx → Calls Try.prog 94 #[.pointer (some ⟨p, 0, none⟩), .int .i64 ((a : Int) + 24), .int .i64 8] wx fun r w' => r = .returned (U6 (gN l (a + 24) 8)) ∧ wx = w') := fun wx hwx => HUH.out (a + 24) 8 _ _ _ _ _ (HLC.out.mono hwx)
      have HC32 : Hid (∀ wx, Below wr.heap.size wr wx → Calls Try.prog 94 #[.pointer (some ⟨p, 0, none⟩), .int .i64 ((a : Int) + 32), .int .i64 8] wx fun r w' => r = .returned (U6 (gN l (a + 32) 8)) ∧ wx = w') := fun wx hwx => HUH.out (a + 32) 8 _ _ _ _ _ (HLC.out.mono hwx)
      have hwa4 : IntKind.i64.wrap ((a : Int) + 4) = (a : Int) + 4 := by have := i64_nat (n := a + 4) (by omega); simpa using this
      have hwa16 : IntKind.i64.wrap ((a : Int) + 16) = (a : Int) + 16 := by have := i64_nat (n := a + 16) (by omega); simpa using this
      have hwa48 : IntKind.i64.wrap ((a : Int) + 48) = (a : Int) + 48 := by have := i64_nat (n := a + 48) (by omega); simpa using this
      have hwa24 : IntKind.i64.wrap ((a : Int) + 24) = (a : Int) + 24 := by have := i64_nat (n := a + 24) (by omega); simpa using this
      have hwa32 : IntKind.i64.wrap ((a : Int) + 32) = (a : Int) + 32 := by have := i64_nat (n := a + 32) (by omega); simpa using this
      obtain ⟨-, -, c2, -⟩ := HLC.out.cells
      obtain ⟨X, hX⟩ : ∃ X, X = secW l a := ⟨_, rfl⟩
      have HXX := Lib.hid hX
      have hX0 : X.name = gN l a 4 := by rw [hX]; rfl
      have hX1 : X.typ = gN l (a + 4) 4 := by rw [hX]; rfl
      have hX2 : X.addr = gN l (a + 16) 8 := by rw [hX]; rfl
      have hX3 : X.align = gN l (a + 48) 8 := by rw [hX]; rfl
      have hX4 : X.pl = gN l (a + 24) 8 := by rw [hX]; rfl
      have hX5 : X.size = gN l (a + 32) 8 := by rw [hX]; rfl
      rw [← hX0] at HC0
      rw [← hX1] at HC4
      rw [← hX2] at HC16
      rw [← hX3] at HC48
      rw [← hX4] at HC24
      rw [← hX5] at HC32
      clear hX hX0 hX1 hX2 hX3 hX4 hX5
      have hAB := fun (x : Above wr) (b k : Nat) (h : b < wr.heap.size) => Above.cell x b k h
      have l1 := block_lt c2
      refine wp_region_flagW 31 (by kernel_rfl) ?_
      intro wz hbz hbzs
      change wpAnyF _ _ _ _ _ _ 35 _ _ _
      try go_frame
      refine flag_pure (i := 0) rfl (by kernel_rfl) rfl rfl (fun _ _ _ _ h => h) (fun _ => hbz) ?_
      intro K hK
      go_big_quiet_op
      go_big_quiet_on
      refine flag_pure (i := 1) rfl (by kernel_rfl) rfl rfl (fun _ _ _ _ h => h) (fun _ => hbz) ?_
      intro K hK
      go_big_quiet_op
      go_big_quiet_on
      refine flag_check (i := 2) rfl (by kernel_rfl) rfl rfl rfl (fun _ _ _ _ h => h) (fun _ => hbz) ?_
      try go_frame
      refine flag_pure (i := 3) rfl (by kernel_rfl) rfl rfl (fun _ _ _ _ h => h) (fun _ => hbz) ?_
      intro K hK
      go_big_quiet_op
      go_big_quiet_on
      refine flag_quiet (i := 4) [31] rfl (by kernel_rfl) (by kernel_rfl) rfl rfl (fun _ _ _ _ h => h) hbz ?_
      intro K hK
      go_big_quiet_op
      go_big_quiet_on
      refine flag_pure (i := 5) rfl (by kernel_rfl) rfl rfl (fun _ _ _ _ h => h) (fun _ => hbz) ?_
      intro K hK
      go_big_quiet_op
      go_big_quiet_on
      refine flag_pure (i := 6) rfl (by kernel_rfl) rfl rfl (fun _ _ _ _ h => h) (fun _ => hbz) ?_
      intro K hK
      go_big_quiet_op
      go_big_quiet_on
      refine flag_pure (i := 8) rfl (by kernel_rfl) rfl rfl (fun _ _ _ _ h => h) (fun _ => hbz) ?_
      intro K hK
      go_big_quiet_op
      go_big_quiet_on
      refine flag_pure (i := 9) rfl (by kernel_rfl) rfl rfl (fun _ _ _ _ h => h) (fun _ => hbz) ?_
      intro K hK
      go_big_quiet_op
      go_big_quiet_on
      refine flag_pure (i := 10) rfl (by kernel_rfl) rfl rfl (fun _ _ _ _ h => h) (fun _ => hbz) ?_
      intro K hK
      go_big_quiet_op
      go_big_quiet_on
      refine flag_pure (i := 12) rfl (by kernel_rfl) rfl rfl (fun _ _ _ _ h => h) (fun _ => hbz) ?_
      intro K hK
      go_big_quiet_op
      go_big_quiet_on
      refine flag_pure (i := 13) rfl (by kernel_rfl) rfl rfl (fun _ _ _ _ h => h) (fun _ => hbz) ?_
      intro K hK
      go_big_quiet_op
      go_big_quiet_on
      refine flag_pure (i := 14) rfl (by kernel_rfl) rfl rfl (fun _ _ _ _ h => h) (fun _ => hbz) ?_
      intro K hK
      go_big_quiet_op
      go_big_quiet_on
      refine flag_pure (i := 16) rfl (by kernel_rfl) rfl rfl (fun _ _ _ _ h => h) (fun _ => hbz) ?_
      intro K hK
      go_big_quiet_op
      go_big_quiet_on
      refine flag_pure (i := 17) rfl (by kernel_rfl) rfl rfl (fun _ _ _ _ h => h) (fun _ => hbz) ?_
      intro K hK
      go_big_quiet_op
      go_big_quiet_on
      refine flag_pure (i := 18) rfl (by kernel_rfl) rfl rfl (fun _ _ _ _ h => h) (fun _ => hbz) ?_
      intro K hK
      go_big_quiet_op
      go_big_quiet_on
      refine flag_pure (i := 20) rfl (by kernel_rfl) rfl rfl (fun _ _ _ _ h => h) (fun _ => hbz) ?_
      intro K hK
      go_big_quiet_op
      go_big_quiet_on
      refine flag_pure (i := 21) rfl (by kernel_rfl) rfl rfl (fun _ _ _ _ h => h) (fun _ => hbz) ?_
      intro K hK
      go_big_quiet_op
      go_big_quiet_on
      refine flag_pure (i := 22) rfl (by kernel_rfl) rfl rfl (fun _ _ _ _ h => h) (fun _ => hbz) ?_
      intro K hK
      go_big_quiet_op
      go_big_quiet_on
      refine flag_pure (i := 24) rfl (by kernel_rfl) rfl rfl (fun _ _ _ _ h => h) (fun _ => hbz) ?_
      intro K hK
      go_big_quiet_op
      go_big_quiet_on
      refine flag_pure (i := 25) rfl (by kernel_rfl) rfl rfl (fun _ _ _ _ h => h) (fun _ => hbz) ?_
      intro K hK
      go_big_quiet_op
      go_big_quiet_on
      refine flag_pure (i := 26) rfl (by kernel_rfl) rfl rfl (fun _ _ _ _ h => h) (fun _ => hbz) ?_
      intro K hK
      go_big_quiet_op
      go_big_quiet_on
      refine flag_one (i := 7) (by kernel_rfl) rfl ?_
      refine wpList_callIs rfl (run_callL (vals := [_, _, _]) Try.func94 (by kernel_rfl) rfl rfl) (HC0.out _ hbz) ?_
      refine ⟨fun _ => hbz, ?_⟩
      go_frame
      refine flag_one (i := 11) (by kernel_rfl) rfl ?_
      refine wpList_callIs rfl (run_callL (vals := [_, _, _]) Try.func94 (by kernel_rfl) rfl rfl) (HC4.out _ hbz) ?_
      refine ⟨fun _ => hbz, ?_⟩
      go_frame
      refine flag_one (i := 15) (by kernel_rfl) rfl ?_
      refine wpList_callIs rfl (run_callL (vals := [_, _, _]) Try.func94 (by kernel_rfl) rfl rfl) (HC16.out _ hbz) ?_
      refine ⟨fun _ => hbz, ?_⟩
      go_frame
      refine flag_one (i := 19) (by kernel_rfl) rfl ?_
      refine wpList_callIs rfl (run_callL (vals := [_, _, _]) Try.func94 (by kernel_rfl) rfl rfl) (HC48.out _ hbz) ?_
      refine ⟨fun _ => hbz, ?_⟩
      go_frame
      refine flag_one (i := 23) (by kernel_rfl) rfl ?_
      refine wpList_callIs rfl (run_callL (vals := [_, _, _]) Try.func94 (by kernel_rfl) rfl rfl) (HC24.out _ hbz) ?_
      refine ⟨fun _ => hbz, ?_⟩
      go_frame
      refine flag_one (i := 27) (by kernel_rfl) rfl ?_
      refine wpList_callIs rfl (run_callL (vals := [_, _, _]) Try.func94 (by kernel_rfl) rfl rfl) (HC32.out _ hbz) ?_
      refine ⟨fun _ => hbz, ?_⟩
      go_frame
      refine flag_pure (i := 28) rfl (by kernel_rfl) rfl rfl (fun _ _ _ _ h => h) (fun _ => hbz) ?_
      intro K hK
      go_big_quiet_op
      go_big_quiet_on
      refine flag_pure (i := 29) rfl (by kernel_rfl) rfl rfl (fun _ _ _ _ h => h) (fun _ => hbz) ?_
      intro K hK
      go_big_quiet_op
      go_big_quiet_on
      refine flag_one (i := 30) (by kernel_rfl) rfl ?_
      refine wpList_val rfl (run_oneWS (s := X) rfl) ?_
      have HBX := Lib.hid (hbz.trans ((below_alloc wz (.cells (encWS X).toArray 144)).mono (Nat.le_of_eq hbzs.symm)))
      have HKX := Lib.hid (HLC.out.mono HBX.out)
      refine ⟨fun _ => HBX.out, ?_⟩
      go_frame
      refine flag_one (i := 31) (by kernel_rfl) rfl ?_
      refine wpList_pushR TWS (HLC.out.mono hbz).s rfl rfl X rfl rfl (by simp [Value.oneCell']) (by rw [HSL.out]; omega) (by rw [HSL.out]; omega) (HLC.out.mono hbz).below.size ?_
      intro v5 w5 hv5 hg5 hb5
      have HV5 := Lib.hid hv5
      have HG5 := Lib.hid hg5
      have HBK := Lib.hid (keeps_own (HLC.out.mono hbz).s hg5 _ _ _ _ (show 123 ≠ 144 by decide) (HLC.out.mono hbz).blk)
      have HB5 := Lib.hid hb5
      obtain ⟨m5, a5, q5, -, rfl, _, _⟩ := hv5.shape
      clear hv5 hg5 hb5
      refine ⟨flagOff (by kernel_rfl), ?_⟩
      go_frame
      refine flag_check (i := 32) rfl (by kernel_rfl) rfl rfl rfl (fun _ _ _ _ h => h) (flagOff (by kernel_rfl)) ?_
      try go_frame
      refine flag_pure (i := 33) rfl (by kernel_rfl) rfl rfl (fun _ _ _ _ h => h) (flagOff (by kernel_rfl)) ?_
      intro K hK
      go_big_quiet_op
      go_big_quiet_on
      refine flag_one (i := 34) (by kernel_rfl) rfl ?_
      refine wpList_set HBK.out (Nat.lt_of_lt_of_eq (show 2 < 4 by decide) rfl) rfl rfl HLC.out.hp (Nat.le_trans (HLC.out.mono hbz).below.size HB5.out.size) (fun w => by kernel_rfl) ?_
      intro w6 hh6 hb6 hs6
      have HE := Lib.hid ((HLC.out.mono hbz).secd HV5.out HG5.out HB5.out hh6 hs6)
      clear hh6 hb6 hs6
      refine ⟨flagOff (by kernel_rfl), ?_⟩
      go_frame
      refine wpAnyF_done (by kernel_rfl) ?_ _
      try go_frame
      clear c2 hAB hbz hbzs
      go_wp2
      have HE2 := Lib.hid (show Lk w0 _ p l bv F (secsW l (k + 1)) [] fv (.slice a5 m5 q5) (.slice none 0 0) by rw [HSS.out, ← HAA.out, ← HXX.out]; exact HE.out)
      go_roundw
      case rel =>
        first
          | exact ⟨k + 1, m5, a5, q5, by go_num, by omega, HE2.out⟩
          | ((repeat apply Exists.intro); exact ⟨⟨k + 1, m5, a5, q5, by go_num, by omega, HE2.out⟩, rfl⟩)
      case measure => simp [intOf] <;> omega
    · obtain rfl : k = n60 := by omega
      clear e40
      go_wp2_with (go_at_call 94; with_reducible refine (HU56.out _ _ _ _ _ HLC.out).mono ?_; rintro e wu ⟨rfl, rfl⟩)
      clear e56
      obtain ⟨w1, rfl⟩ : ∃ w1 : World, w1 = wr := ⟨_, rfl⟩
      go_loopw [57] (fun i wr => ∃ (j gm : Nat) (ga : Option Addr) (gc : Nat), i = .int .i64 j ∧ j ≤ n56 ∧ Hid (Lk w0 wr p l bv F (secsW l k) (segsW l j) fv (.slice sa sm sc) (.slice ga gm gc))) (fun i _ => n56 - (intOf i).toNat)
      case atStart => exact ⟨0, 0, none, 0, rfl, Nat.zero_le _, HLC.out⟩
      case round =>
        obtain ⟨j, gm, ga, gc, rfl, hj, HLG⟩ := hrel
        by_cases hlt2 : j < n56
        · obtain ⟨a, ha⟩ : ∃ a, a = n32 + 56 * j := ⟨_, rfl⟩
          have ha9 : a ≤ 1000100000 := by omega
          have hw1 : IntKind.i64.wrap (56 * (j : Int)) = 56 * (j : Int) := by have := i64_nat (n := 56 * j) (by omega); simpa using this
          have HAA := Lib.hid ha
          go_upto_region 10 with (go_at_call 94; with_reducible refine (HU32.out _ _ _ _ _ HLG.out).mono ?_; rintro e wu ⟨rfl, rfl⟩)
          have hw2 : (n32 : Int) + 56 * (j : Int) = (a : Int) := by rw [ha]; push_cast; rfl
          rw [hw2]
          clear hw1 hw2 ha
          have HD0 : Hid (∀ wx, Below wr.heap.size wr wx → Calls Try.prog 94 #[.pointer (some ⟨p, 0, none⟩), .int .i64 (a : Int), .int .i64 4] wx fun r w' => r = .returned (U6 (gN l a 4)) ∧ wx = w') := fun wx hwx => HUH.out a 4 _ _ _ _ _ (HLG.out.mono hwx)
          have HD4 : Hid (∀ wx, Below wr.heap.size wr wx → Calls Try.prog 94 #[.pointer (some ⟨p, 0, none⟩), .int .i64 ((a : Int) + 4), .int .i64 4] wx fun r w' => r = .returned (U6 (gN l (a + 4) 4)) ∧ wx = w') := fun wx hwx => HUH.out (a + 4) 4 _ _ _ _ _ (HLG.out.mono hwx)
          have HD8 : Hid (∀ wx, Below wr.heap.size wr wx → Calls Try.prog 94 #[.pointer (some ⟨p, 0, none⟩), .int .i64 ((a : Int) + 8), .int .i64 8] wx fun r w' => r = .returned (U6 (gN l (a + 8) 8)) ∧ wx = w') := fun wx hwx => HUH.out (a + 8) 8 _ _ _ _ _ (HLG.out.mono hwx)
          have HD48 : Hid (∀ wx, Below wr.heap.size wr wx → Calls Try.prog 94 #[.pointer (some ⟨p, 0, none⟩), .int .i64 ((a : Int) + 48), .int .i64 8] wx fun r w' => r = .returned (U6 (gN l (a + 48) 8)) ∧ wx = w') := fun wx hwx => HUH.out (a + 48) 8 _ _ _ _ _ (HLG.out.mono hwx)
          have HD32 : Hid (∀ wx, Below wr.heap.size wr wx → Calls Try.prog 94 #[.pointer (some ⟨p, 0, none⟩), .int .i64 ((a : Int) + 32), .int .i64 8] wx fun r w' => r = .returned (U6 (gN l (a + 32) 8)) ∧ wx = w') := fun wx hwx => HUH.out (a + 32) 8 _ _ _ _ _ (HLG.out.mono hwx)
          have HD16 : Hid (∀ wx, Below wr.heap.size wr wx → Calls Try.prog 94 #[.pointer (some ⟨p, 0, none⟩), .int .i64 ((a : Int) + 16), .int .i64 8] wx fun r w' => r = .returned (U6 (gN l (a + 16) 8)) ∧ wx = w') := fun wx hwx => HUH.out (a + 16) 8 _ _ _ _ _ (HLG.out.mono hwx)
          have HD40 : Hid (∀ wx, Below wr.heap.size wr wx → Calls Try.prog 94 #[.pointer (some ⟨p, 0, none⟩), .int .i64 ((a : Int) + 40), .int .i64 8] wx fun r w' => r = .returned (U6 (gN l (a + 40) 8)) ∧ wx = w') := fun wx hwx => HUH.out (a + 40) 8 _ _ _ _ _ (HLG.out.mono hwx)
          have hwa4 : IntKind.i64.wrap ((a : Int) + 4) = (a : Int) + 4 := by have := i64_nat (n := a + 4) (by omega); simpa using this
          have hwa8 : IntKind.i64.wrap ((a : Int) + 8) = (a : Int) + 8 := by have := i64_nat (n := a + 8) (by omega); simpa using this
          have hwa48 : IntKind.i64.wrap ((a : Int) + 48) = (a : Int) + 48 := by have := i64_nat (n := a + 48) (by omega); simpa using this
          have hwa32 : IntKind.i64.wrap ((a : Int) + 32) = (a : Int) + 32 := by have := i64_nat (n := a + 32) (by omega); simpa using this
          have hwa16 : IntKind.i64.wrap ((a : Int) + 16) = (a : Int) + 16 := by have := i64_nat (n := a + 16) (by omega); simpa using this
          have hwa40 : IntKind.i64.wrap ((a : Int) + 40) = (a : Int) + 40 := by have := i64_nat (n := a + 40) (by omega); simpa using this
          obtain ⟨X, hX⟩ : ∃ X, X = segW l a := ⟨_, rfl⟩
          have HXX := Lib.hid hX
          have hX0 : X.typ = gN l a 4 := by rw [hX]; rfl
          have hX1 : X.flags = gN l (a + 4) 4 := by rw [hX]; rfl
          have hX2 : X.off = gN l (a + 8) 8 := by rw [hX]; rfl
          have hX3 : X.align = gN l (a + 48) 8 := by rw [hX]; rfl
          have HXP := Lib.hid (show X.pl = X.off by rw [hX]; rfl)
          have hX5 : X.psize = gN l (a + 32) 8 := by rw [hX]; rfl
          have hX6 : X.mem = gN l (a + 16) 8 := by rw [hX]; rfl
          have hX7 : X.msize = gN l (a + 40) 8 := by rw [hX]; rfl
          rw [← hX0] at HD0
          rw [← hX1] at HD4
          rw [← hX2] at HD8
          rw [← hX3] at HD48
          rw [← hX5] at HD32
          rw [← hX6] at HD16
          rw [← hX7] at HD40
          clear hX hX0 hX1 hX2 hX3 hX5 hX6 hX7
          have hbr := Below.refl wr.heap.size wr
          go_wp2_with (first
            | (go_at_call 94; with_reducible refine (HD0.out _ hbr).mono ?_; rintro e wu ⟨rfl, rfl⟩)
            | (go_at_call 94; with_reducible refine (HD4.out _ hbr).mono ?_; rintro e wu ⟨rfl, rfl⟩)
            | (go_at_call 94; with_reducible refine (HD8.out _ hbr).mono ?_; rintro e wu ⟨rfl, rfl⟩)
            | (go_at_call 94; with_reducible refine (HD48.out _ hbr).mono ?_; rintro e wu ⟨rfl, rfl⟩)
            | ((with_reducible show wpList _ _ _ (⟨some 6, .alloc _, _, _, _, _⟩ :: _) _ _); go_must (refine wpList_allocWG ?_; intro w6 hx6 hb6 hs6; have HX6 := Lib.hid hx6; have HB6 := Lib.hid hb6; clear hx6 hb6))
            | ((with_reducible show wpList _ _ _ (⟨none, .store _ (.tmp 6) _, _, _, _, _⟩ :: _) _ _); go_must (refine wpList_storeRowS HX6.out rfl rfl rfl (by kernel_rfl) (by simp [Value.oneCell']) ?_; intro w7 hh7 hs7; have HH7 := Lib.hid hh7; have HB7 := Lib.hid (HB6.out.trans (hs7.below HB6.out.size (fun j hj => by rw [hj]; exact Nat.le_refl _))); clear hh7 hs7)))
          clear hbr
          have g2 := cell_rec HH7.out 2
          simp only [List.getElem?_toArray, List.getElem?_cons_zero, List.getElem?_cons_succ] at g2
          have hAB := fun (x : Above w7) (b k : Nat) (h : b < w7.heap.size) => Above.cell x b k h
          have l1 := block_lt g2
          refine wp_region_flagW 17 (by kernel_rfl) ?_
          intro wz hbz hbzs
          change wpAnyF _ _ _ _ _ _ 20 _ _ _
          try go_frame
          refine flag_pure (i := 0) rfl (by kernel_rfl) rfl rfl (fun _ _ _ _ h => h) (fun _ => hbz) ?_
          intro K hK
          go_big_quiet_op
          go_big_quiet_on
          refine flag_quiet (i := 1) [6, 17] rfl (by kernel_rfl) (by kernel_rfl) rfl rfl (fun _ _ _ _ h => h) hbz ?_
          intro K hK
          go_big_quiet_op
          go_big_quiet_on
          refine flag_pure (i := 2) rfl (by kernel_rfl) rfl rfl (fun _ _ _ _ h => h) (fun _ => hbz) ?_
          intro K hK
          go_big_quiet_op
          go_big_quiet_on
          refine flag_pure (i := 3) rfl (by kernel_rfl) rfl rfl (fun _ _ _ _ h => h) (fun _ => hbz) ?_
          intro K hK
          go_big_quiet_op
          go_big_quiet_on
          refine flag_pure (i := 4) rfl (by kernel_rfl) rfl rfl (fun _ _ _ _ h => h) (fun _ => hbz) ?_
          intro K hK
          go_big_quiet_op
          go_big_quiet_on
          refine flag_pure (i := 7) rfl (by kernel_rfl) rfl rfl (fun _ _ _ _ h => h) (fun _ => hbz) ?_
          intro K hK
          go_big_quiet_op
          go_big_quiet_on
          refine flag_pure (i := 8) rfl (by kernel_rfl) rfl rfl (fun _ _ _ _ h => h) (fun _ => hbz) ?_
          intro K hK
          go_big_quiet_op
          go_big_quiet_on
          refine flag_pure (i := 9) rfl (by kernel_rfl) rfl rfl (fun _ _ _ _ h => h) (fun _ => hbz) ?_
          intro K hK
          go_big_quiet_op
          go_big_quiet_on
          refine flag_pure (i := 11) rfl (by kernel_rfl) rfl rfl (fun _ _ _ _ h => h) (fun _ => hbz) ?_
          intro K hK
          go_big_quiet_op
          go_big_quiet_on
          refine flag_pure (i := 12) rfl (by kernel_rfl) rfl rfl (fun _ _ _ _ h => h) (fun _ => hbz) ?_
          intro K hK
          go_big_quiet_op
          go_big_quiet_on
          refine flag_pure (i := 13) rfl (by kernel_rfl) rfl rfl (fun _ _ _ _ h => h) (fun _ => hbz) ?_
          intro K hK
          go_big_quiet_op
          go_big_quiet_on
          refine flag_one (i := 5) (by kernel_rfl) rfl ?_
          refine wpList_callIs rfl (run_callL (vals := [_, _, _]) Try.func94 (by kernel_rfl) rfl rfl) (HD32.out _ (HB7.out.trans (hbz.mono HB7.out.size))) ?_
          refine ⟨fun _ => hbz, ?_⟩
          go_frame
          refine flag_pure (i := 6) rfl (by kernel_rfl) rfl rfl (fun _ _ _ _ h => h) (fun _ => hbz) ?_
          intro K hK
          go_big_quiet_op
          go_big_quiet_on
          refine flag_pure (i := 16) rfl (by kernel_rfl) rfl rfl (fun _ _ _ _ h => h) (fun _ => hbz) ?_
          intro K hK
          go_big_quiet_op
          go_big_quiet_on
          refine flag_one (i := 10) (by kernel_rfl) rfl ?_
          refine wpList_callIs rfl (run_callL (vals := [_, _, _]) Try.func94 (by kernel_rfl) rfl rfl) (HD16.out _ (HB7.out.trans (hbz.mono HB7.out.size))) ?_
          refine ⟨fun _ => hbz, ?_⟩
          go_frame
          refine flag_one (i := 14) (by kernel_rfl) rfl ?_
          refine wpList_callIs rfl (run_callL (vals := [_, _, _]) Try.func94 (by kernel_rfl) rfl rfl) (HD40.out _ (HB7.out.trans (hbz.mono HB7.out.size))) ?_
          refine ⟨fun _ => hbz, ?_⟩
          go_frame
          refine flag_pure (i := 15) rfl (by kernel_rfl) rfl rfl (fun _ _ _ _ h => h) (fun _ => hbz) ?_
          intro K hK
          go_big_quiet_op
          go_big_quiet_on
          refine flag_one (i := 17) (by kernel_rfl) rfl ?_
          refine wpList_store2 (heap_below hbz HH7.out) (Nat.lt_of_lt_of_eq (show 4 + 1 < 8 by decide) rfl) rfl rfl (fun w => by kernel_rfl) ?_
          intro w8 hh8 hs8
          have HH8 := Lib.hid hh8
          have HB8 := Lib.hid ((HB7.out.trans (hbz.mono HB7.out.size)).trans (hs8.below (Nat.le_trans HB7.out.size hbz.size) (fun j hj => by rw [hj]; exact Nat.le_refl _)))
          clear hh8 hs8
          refine ⟨flagOff (by kernel_rfl), ?_⟩
          go_frame
          refine flag_pure (i := 18) rfl (by kernel_rfl) rfl rfl (fun _ _ _ _ h => h) (flagOff (by kernel_rfl)) ?_
          intro K hK
          go_big_quiet_op
          go_big_quiet_on
          refine flag_one (i := 19) (by kernel_rfl) rfl ?_
          refine wpList_store2 HH8.out (Nat.lt_of_lt_of_eq (show 6 + 1 < 8 by decide) rfl) rfl rfl (fun w => by kernel_rfl) ?_
          intro w9 hh9 hs9
          have HHX := Lib.hid (show w9.heap[wr.heap.size]? = some (.cells (encWG X).toArray 146 (0, 0)) by show _ = some (Obj.cells #[U6 X.typ, U6 X.flags, U6 X.off, U6 X.align, U6 X.pl, U6 X.psize, U6 X.mem, U6 X.msize] _ _); rw [HXP.out]; exact hh9)
          have HB9 := Lib.hid (HB8.out.trans (hs9.below HB8.out.size (fun j hj => by rw [hj]; exact Nat.le_refl _)))
          have HLE := Lib.hid (HLG.out.mono HB9.out)
          clear hh9 hs9
          refine ⟨flagOff (by kernel_rfl), ?_⟩
          go_frame
          refine wpAnyF_done (by kernel_rfl) ?_ _
          try go_frame
          clear g2 hAB l1 hbz hbzs
          obtain ⟨-, -, -, c3⟩ := HLE.out.cells
          obtain ⟨q0, q1, q2, q3, q4, q5, q6, q7⟩ := seg8 (s := X) HHX.out
          have hAB := fun (x : Above w9) (b k : Nat) (h : b < w9.heap.size) => Above.cell x b k h
          have l1 := block_lt c3
          have l2 := block_lt q0
          go_wp2
          refine wp_region_flagW 7 (by kernel_rfl) ?_
          intro wz hbz hbzs
          change wpAnyF _ _ _ _ _ _ 11 _ _ _
          try go_frame
          refine flag_pure (i := 0) rfl (by kernel_rfl) rfl rfl (fun _ _ _ _ h => h) (fun _ => hbz) ?_
          intro K hK
          go_big_quiet_op
          go_big_quiet_on
          refine flag_pure (i := 1) rfl (by kernel_rfl) rfl rfl (fun _ _ _ _ h => h) (fun _ => hbz) ?_
          intro K hK
          go_big_quiet_op
          go_big_quiet_on
          refine flag_check (i := 2) rfl (by kernel_rfl) rfl rfl rfl (fun _ _ _ _ h => h) (fun _ => hbz) ?_
          try go_frame
          refine flag_pure (i := 3) rfl (by kernel_rfl) rfl rfl (fun _ _ _ _ h => h) (fun _ => hbz) ?_
          intro K hK
          go_big_quiet_op
          go_big_quiet_on
          refine flag_quiet (i := 4) [7] rfl (by kernel_rfl) (by kernel_rfl) rfl rfl (fun _ _ _ _ h => h) hbz ?_
          intro K hK
          go_big_quiet_op
          go_big_quiet_on
          refine flag_quiet (i := 5) [6, 7] rfl (by kernel_rfl) (by kernel_rfl) rfl rfl (fun _ _ _ _ h => h) hbz ?_
          intro K hK
          go_big_quiet_op
          go_big_quiet_on
          refine flag_one (i := 6) (by kernel_rfl) rfl ?_
          refine wpList_val rfl (run_oneWG (s := X) rfl) ?_
          have HBX := Lib.hid (hbz.trans ((below_alloc wz (.cells (encWG X).toArray 146)).mono (Nat.le_of_eq hbzs.symm)))
          refine ⟨fun _ => HBX.out, ?_⟩
          go_frame
          refine flag_one (i := 7) (by kernel_rfl) rfl ?_
          refine wpList_pushR TWG (HLE.out.mono hbz).g rfl rfl X rfl rfl (by simp [Value.oneCell']) (by rw [HGL.out]; omega) (by rw [HGL.out]; omega) (HLE.out.mono hbz).below.size ?_
          intro v5 w5 hv5 hg5 hb5
          have HV5 := Lib.hid hv5
          have HG5 := Lib.hid hg5
          have HBK := Lib.hid (keeps_own (HLE.out.mono hbz).g hg5 _ _ _ _ (show 123 ≠ 146 by decide) (HLE.out.mono hbz).blk)
          have HB5 := Lib.hid hb5
          obtain ⟨m5, a5, r5, -, rfl, _, _⟩ := hv5.shape
          clear hv5 hg5 hb5
          refine ⟨flagOff (by kernel_rfl), ?_⟩
          go_frame
          refine flag_check (i := 8) rfl (by kernel_rfl) rfl rfl rfl (fun _ _ _ _ h => h) (flagOff (by kernel_rfl)) ?_
          try go_frame
          refine flag_pure (i := 9) rfl (by kernel_rfl) rfl rfl (fun _ _ _ _ h => h) (flagOff (by kernel_rfl)) ?_
          intro K hK
          go_big_quiet_op
          go_big_quiet_on
          refine flag_one (i := 10) (by kernel_rfl) rfl ?_
          refine wpList_set HBK.out (Nat.lt_of_lt_of_eq (show 3 < 4 by decide) rfl) rfl rfl HLE.out.hp (Nat.le_trans (HLE.out.mono hbz).below.size HB5.out.size) (fun w => by kernel_rfl) ?_
          intro wq hh6 hb6 hs6
          have HE := Lib.hid ((HLE.out.mono hbz).segd HV5.out HG5.out HB5.out hh6 hs6)
          clear hh6 hb6 hs6
          refine ⟨flagOff (by kernel_rfl), ?_⟩
          go_frame
          refine wpAnyF_done (by kernel_rfl) ?_ _
          try go_frame
          clear c3 hAB l1 l2 q0 q1 q2 q3 q4 q5 q6 q7 hbz hbzs
          go_wp2
          have HE2 := Lib.hid (show Lk w0 _ p l bv F (secsW l k) (segsW l (j + 1)) fv (.slice sa sm sc) (.slice a5 m5 r5) by rw [HGS.out, ← HAA.out, ← HXX.out]; exact HE.out)
          go_roundw
          case rel =>
            first
              | exact ⟨j + 1, m5, a5, r5, by go_num, by omega, HE2.out⟩
              | ((repeat apply Exists.intro); exact ⟨⟨j + 1, m5, a5, r5, by go_num, by omega, HE2.out⟩, rfl⟩)
          case measure => simp [intOf] <;> omega
        · obtain rfl : j = n56 := by omega
          go_wp2
          go_end0
          exact ⟨rfl, sm, sa, sc, gm, ga, gc, HLG.out⟩
end Go.Proofs.Ytimnbnomaajmmaa
namespace Go.Proofs.Ytimnbnomaajmmaa
open Go.RowKit Go.Fd
theorem row_ws {w : World} {base : Nat} {a : Option Addr} {m c : Nat} {S : List WSec} {s : WSec} {k : Nat} (h : OwR 6 encWS 144 w base (.slice a m c) S) (hk : S[k]? = some s) :
    ∃ b o, a = some ⟨b, o, none⟩ ∧ w.cell? ⟨b, o + k * 6, none⟩ = some (U6 s.name) ∧ w.cell? ⟨b, o + k * 6 + 1, none⟩ = some (U6 s.typ) ∧ w.cell? ⟨b, o + k * 6 + 2, none⟩ = some (U6 s.addr) ∧ w.cell? ⟨b, o + k * 6 + 3, none⟩ = some (U6 s.align) ∧ w.cell? ⟨b, o + k * 6 + 4, none⟩ = some (U6 s.pl) ∧ w.cell? ⟨b, o + k * 6 + 5, none⟩ = some (U6 s.size) := by
  obtain ⟨a', cap, hv, -, -, hc⟩ := h.rd.open (fun _ => rfl)
  injection hv with h1 h2 h3
  subst h1
  obtain ⟨b, o, ha, hcc⟩ := hc k s hk (by decide)
  have hd : ∀ c v, (encWS s)[c]? = some v → w.cell? ⟨b, o + k * 6 + c, none⟩ = some v := fun c v h => by
    have h10 : c < 6 := (List.getElem?_eq_some_iff.1 h).1
    have := (hcc c h10).trans h
    rwa [← Nat.add_assoc] at this
  exact ⟨b, o, ha, hd 0 _ rfl, hd 1 _ rfl, hd 2 _ rfl, hd 3 _ rfl, hd 4 _ rfl, hd 5 _ rfl⟩
theorem row_wg {w : World} {base : Nat} {a : Option Addr} {m c : Nat} {G : List WSeg} {s : WSeg} {k : Nat} (h : OwR 8 encWG 146 w base (.slice a m c) G) (hk : G[k]? = some s) :
    ∃ b o, a = some ⟨b, o, none⟩ ∧ w.cell? ⟨b, o + k * 8, none⟩ = some (U6 s.typ) ∧ w.cell? ⟨b, o + k * 8 + 1, none⟩ = some (U6 s.flags) ∧ w.cell? ⟨b, o + k * 8 + 2, none⟩ = some (U6 s.off) ∧ w.cell? ⟨b, o + k * 8 + 3, none⟩ = some (U6 s.align) ∧ w.cell? ⟨b, o + k * 8 + 4, none⟩ = some (U6 s.pl) ∧ w.cell? ⟨b, o + k * 8 + 5, none⟩ = some (U6 s.psize) ∧ w.cell? ⟨b, o + k * 8 + 6, none⟩ = some (U6 s.mem) ∧ w.cell? ⟨b, o + k * 8 + 7, none⟩ = some (U6 s.msize) := by
  obtain ⟨a', cap, hv, -, -, hc⟩ := h.rd.open (fun _ => rfl)
  injection hv with h1 h2 h3
  subst h1
  obtain ⟨b, o, ha, hcc⟩ := hc k s hk (by decide)
  have hd : ∀ c v, (encWG s)[c]? = some v → w.cell? ⟨b, o + k * 8 + c, none⟩ = some v := fun c v h => by
    have h10 : c < 8 := (List.getElem?_eq_some_iff.1 h).1
    have := (hcc c h10).trans h
    rwa [← Nat.add_assoc] at this
  exact ⟨b, o, ha, hd 0 _ rfl, hd 1 _ rfl, hd 2 _ rfl, hd 3 _ rfl, hd 4 _ rfl, hd 5 _ rfl, hd 6 _ rfl, hd 7 _ rfl⟩
theorem fl_len (b : Bool) (c a d : Int) : (fl b c a d).length ≤ 1 := by unfold fl; split <;> simp
theorem fl_mem {b : Bool} {c a d : Int} {f : FlM} (h : f ∈ fl b c a d) : b = true ∧ f = ⟨c, a, d⟩ := by
  unfold fl at h
  split at h
  · next hb => exact ⟨hb, by simpa using h⟩
  · cases h
attribute [local irreducible] walk
set_option maxHeartbeats 8000000 in
set_option maxRecDepth 100000 in
theorem wNames_any {w0 w : World} {p : Nat} {l : List UInt8} {bv : Value} {F : List FlM} {S : List WSec} {G : List WSeg} {fv _sv gv : Value} {sm sc : Nat} {sa : Option Addr} (h : Lk w0 w p l bv F S G fv (.slice sa sm sc) gv) (hl : l.length ≤ 1000000000) (hS : S.length ≤ 300) (hfit : ∀ s ∈ S, WSec.fits s) (hown : gN l 62 2 < S.length) (hF : F.length ≤ 1000000) :
    Calls Try.prog 98 #[.pointer (some ⟨p, 0, none⟩)] w fun r w' => r = .returned (.tuple #[]) ∧ ∃ X fm fa fc, Lk w0 w' p l bv (F ++ X) S G (.slice fa fm fc) (.slice sa sm sc) gv ∧ (∀ f ∈ X, SecFl l S (gN l 62 2) f) ∧ X.length ≤ 300 := by
  have HL0 := Lib.hid h
  have HT1 := Lib.hid (show S[gN l 62 2]? = some (S[gN l 62 2]'hown) from List.getElem?_eq_getElem _)
  have hFT := hfit _ (List.mem_of_getElem? HT1.out)
  generalize S[gN l 62 2]'hown = T at *
  have HFT := Lib.hid hFT
  obtain ⟨bm, ba, bc, hbm, rfl, _, _⟩ := h.b.shape
  have hbm9 : bm ≤ 1000000000 := by have := hbm.out; omega
  have HSM := Lib.hid (own_len h.s)
  have hsm9 : sm ≤ 300 := by have := own_len h.s; omega
  have hown9 : gN l 62 2 < sm := by have := own_len h.s; omega
  obtain ⟨c0, c1, c2, -⟩ := h.cells
  obtain ⟨b1, o1, ha1, u0, u1, u2, u3, u4, u5⟩ := row_ws h.s HT1.out
  subst ha1
  have HU62 : Hid (Calls Try.prog 94 #[.pointer (some ⟨p, 0, none⟩), .int .i64 62, .int .i64 2] w fun r w' => r = .returned (U6 (gN l 62 2)) ∧ w = w') := wU_any h 62 2 hl
  have HSF : Hid (∀ (i : Nat) (s : WSec), S[i]? = some s → namedB s (tabW l T) = false → SecFl l S (gN l 62 2) ⟨6, i, 0⟩) := fun i s hi hn => .inr (.inr (.inl ⟨i, s, T, hi, HT1.out, rfl, hn⟩))
  have HNM : ∀ (s : WSec) (tv : Value) (wx : World), Bs wx tv (tabW l T) → Calls Try.prog 112 #[.agg (encWS s).toArray, tv] wx fun r w' => r = .returned (.bool (namedB s (tabW l T))) ∧ Below wx.heap.size wx w' := fun s tv wx ht => wNamed_any s (tabW l T) tv wx (by
    unfold tabW
    split
    · rw [List.length_take, List.length_drop]; omega
    · simp) ht
  have HNMH := Lib.hid HNM
  have HFULL := Lib.hid (fun (wx : World) => wFull_any T wx)
  have HWIT := Lib.hid (fun (wx : World) => wWithin_any T.pl T.size bm wx hFT.2.2.2.2.1 hFT.2.2.2.2.2 hbm9)
  have HTB : Hid (tabW l T = if fullB T = true ∧ 0 < T.size then (l.drop T.pl).take T.size else []) := rfl
  have HBM := Lib.hid (show l.length = bm from hbm.out.symm)
  have e62 := i64_nat (n := gN l 62 2) (by omega)
  have HB0 := Lib.hid h.b
  clear h HNM hFT hfit hown
  generalize hOW : gN l 62 2 = own at *
  clear hOW
  go_enter Try.func98, Try.ntmps98
  go_wp2_with (first
    | (go_at_call 94; refine HU62.out.mono ?_; rintro e wu ⟨rfl, rfl⟩)
    | ((with_reducible show wpList _ _ _ (⟨none, .store _ _ _, _, _, _, _⟩ :: _) _ _); go_must (refine wpList_storeNew rfl rfl (by kernel_rfl) rfl (by simp [Value.oneCell']) ?_; intro w2 hh2 hb2; have HH2 := Lib.hid (show w2.heap[w.heap.size]? = some (.cells (encWS T).toArray 144 (0, 0)) from hh2); have HL2 := Lib.hid (HL0.out.mono hb2); clear hh2 hb2)))
  clear c0 c1 c2 u0 u1 u2 u3 u4 u5
  obtain ⟨c0, c1, c2, -⟩ := HL2.out.cells
  obtain ⟨q0, q1, q2, q3, q4, q5⟩ := sec6 HH2.out
  have hAB := fun (x : Above w2) (b k : Nat) (h : b < w2.heap.size) => Above.cell x b k h
  have l1 := block_lt c0
  have l2 := block_lt q0
  have hqq : ∀ x : Prop, x → x := fun _ h => h
  clear hqq
  generalize hfl : fullB T = ft at *
  cases ft with
  | false =>
    have HTE := Lib.hid (show tabW l T = [] by rw [HTB.out]; simp)
    obtain ⟨ta, hta⟩ : ∃ ta : Option Addr, ta = none := ⟨none, rfl⟩
    obtain ⟨tm, htm⟩ : ∃ tm : Nat, tm = 0 := ⟨0, rfl⟩
    obtain ⟨tc, htc⟩ : ∃ tc : Nat, tc = 0 := ⟨0, rfl⟩
    refine wp_region_walk 13 [(1, .is (.bool false)), (10, .is (.bool true))] (by kernel_rfl) (by kernel_rfl) ?_
    simp only [List.take_succ_cons, List.take_zero, List.drop_succ_cons, List.drop_zero]
    try go_frame
    repeat (first
      | (refine walk_quiet rfl rfl rfl ?_; intro K hK; go_big_quiet_op; go_big_quiet_on)
      | (refine walk_check rfl rfl rfl ?_; go_frame))
    refine walk_is rfl rfl (fun wx hwx _ => WpYld.callIsB (run_callL (vals := [_]) Try.func96 (by kernel_rfl) rfl rfl) (HFULL.out wx)) ?_
    go_frame
    repeat (first
      | (refine walk_quiet rfl rfl rfl ?_; intro K hK; go_big_quiet_op; go_big_quiet_on)
      | (refine walk_skip rfl ?_; go_frame)
      | (refine walk_check rfl rfl rfl ?_; go_frame))
    refine walk_nil ?_
    intro w3 hb3 hF
    have HL3 := Lib.hid (HL2.out.mono hb3)
    have HH3 := Lib.hid (heap_below hb3 HH2.out)
    clear hF hb3 hAB l1 l2 c0 c1 c2 q0 q1 q2 q3 q4 q5
    obtain ⟨c0, c1, c2, -⟩ := HL3.out.cells
    obtain ⟨q0, q1, q2, q3, q4, q5⟩ := sec6 HH3.out
    go_wp2_with (go_at_call 96; refine (HFULL.out _).mono ?_; rintro e w4 ⟨rfl, hb4⟩; have HL4 := Lib.hid (HL3.out.mono hb4); have HH4 := Lib.hid (heap_below hb4 HH3.out); clear c0 c1 c2 q0 q1 q2 q3 q4 q5; obtain ⟨c0, c1, c2, -⟩ := HL4.out.cells; obtain ⟨q0, q1, q2, q3, q4, q5⟩ := sec6 HH4.out; clear hb4)
    have HTV := Lib.hid (show Bs w0 (.slice ta tm tc) (tabW l T) by rw [HTE.out, hta, htm, htc]; exact Bs.nil _)
    subst hta htm htc
    refine (HNMH.out T _ _ (HTV.out.mono HL4.out.below)).mono ?_
    rintro e w5 ⟨rfl, hb5⟩
    have HL5 := Lib.hid (HL4.out.mono hb5)
    clear hb5 c0 c1 c2 q0 q1 q2 q3 q4 q5
    have HNT := Lib.hid (HSF.out own T HT1.out)
    generalize namedB T (tabW l T) = nT at *
    cases nT with
    | false =>
      go_wp2_with (go_at_call 93; refine (wFind_any HL5.out true 6 own 0 (by omega)).mono ?_; rintro e w6 ⟨rfl, fm, fa, fc, hk, -⟩; have HL6 := Lib.hid hk; clear hk)
      refine bodyPost_ret (results_none rfl _ _ _) rfl ?_
      exact ⟨rfl, [⟨6, own, 0⟩], fm, fa, fc, HL6.out, (fun f hf => by rw [List.mem_singleton] at hf; rw [hf]; exact HNT.out (by simp)), by simp⟩
    | true =>
      obtain ⟨d0, d1, d2, -⟩ := HL5.out.cells
      go_wp2
      clear d0 d1 d2
      obtain ⟨fm5, fa5, fc5, hfv5, HL50⟩ : ∃ fm fa fc, fv = .slice fa fm fc ∧ Hid (Lk w0 w5 p l (.slice ba bm bc) (F ++ []) S G (.slice fa fm fc) (.slice (some ⟨b1, o1, none⟩) sm sc) gv) := by
        obtain ⟨m, a, c, -, h, _, _⟩ := HL5.out.f.shape
        refine ⟨m, a, c, h, ?_⟩
        rw [List.append_nil, ← h]
        exact HL5.out
      go_loopw [62] (fun i wr => ∃ (k : Nat) (X : List FlM) (fm : Nat) (fa : Option Addr) (fc : Nat), i = .int .i64 k ∧ k ≤ sm ∧ Hid (Lk w0 wr p l (.slice ba bm bc) (F ++ X) S G (.slice fa fm fc) (.slice (some ⟨b1, o1, none⟩) sm sc) gv) ∧ Hid (∀ f ∈ X, SecFl l S own f) ∧ X.length ≤ k) (fun i _ => sm - (intOf i).toNat)
      case atStart => exact ⟨0, [], fm5, fa5, fc5, rfl, Nat.zero_le _, HL50, (fun f hf => by cases hf), by simp⟩
      case round =>
        obtain ⟨k, X, fm, fa, fc, rfl, hk, HLR, HX, hxl⟩ := hrel
        by_cases hlt : k < sm
        · have X1 := Lib.hid (show S[k]? = some (S[k]'(by have := HSM.out; omega)) from List.getElem?_eq_getElem _)
          generalize S[k]'(by have := HSM.out; omega) = s at *
          have HNS := Lib.hid (HSF.out k s X1.out)
          obtain ⟨b2, o2, ha2, u0, u1, u2, u3, u4, u5⟩ := row_ws HLR.out.s X1.out
          have e1 : b1 = b2 := by injection ha2 with h1; injection h1
          have e2 : o1 = o2 := by injection ha2 with h1; injection h1
          subst e1 e2
          clear ha2
          have HBN := Lib.hid (HNMH.out s (.slice none 0 0))
          generalize namedB s (tabW l T) = ns at *
          go_wp2_with (first
            | ((with_reducible show wpList _ _ _ (⟨none, .store _ _ _, _, _, _, _⟩ :: _) _ _); go_must (refine wpList_storeNew rfl rfl (by kernel_rfl) rfl (by simp [Value.oneCell']) ?_; intro w7 hh7 hb7; obtain ⟨q0, q1, q2, q3, q4, q5⟩ := sec6 (s := s) (show w7.heap[wr.heap.size]? = some (.cells (encWS s).toArray 144 (0, 0)) from hh7); have HL7 := Lib.hid (HLR.out.mono hb7); clear hh7 hb7))
            | (go_at_call 112; refine (HBN.out _ (HTV.out.mono HL7.out.below)).mono ?_; rintro e w8 ⟨rfl, hb8⟩; have HL8 := Lib.hid (HL7.out.mono hb8); clear hb8)
            | (go_at_call 93; refine (wFind_any HL8.out (!ns) 6 k 0 (by rw [List.length_append]; omega)).mono ?_; rintro e w9 ⟨rfl, fm9, fa9, fc9, hk9, -⟩; have HL9 := Lib.hid (show Lk w0 w9 p l (.slice ba bm bc) (F ++ (X ++ fl (!ns) 6 k 0)) S G (.slice fa9 fm9 fc9) (.slice (some ⟨b1, o1, none⟩) sm sc) gv by rw [← List.append_assoc]; exact hk9); clear hk9))
          have HX2 := Lib.hid (show ∀ f ∈ X ++ fl (!ns) 6 k 0, SecFl l S own f from fun f hf => by
            rcases List.mem_append.1 hf with hf | hf
            · exact HX.out f hf
            · obtain ⟨h1, rfl⟩ := fl_mem hf
              exact HNS.out (by simpa using h1))
          have hx2 : (X ++ fl (!ns) 6 k 0).length ≤ k + 1 := by rw [List.length_append]; have := fl_len (!ns) 6 k 0; omega
          go_round
          case rel => exact ⟨k + 1, _, fm9, fa9, fc9, by go_num, by omega, HL9.out, HX2.out, hx2⟩
          case measure => simp [intOf] <;> omega
        · go_wp2
          go_end0
          exact ⟨rfl, X, fm, fa, fc, HLR.out, HX.out, by omega⟩
  | true =>
    cases hwi : withinB T.pl T.size bm with
    | false =>
      rw [hwi] at HWIT
      clear hwi
      refine wp_region_walk 13 [(1, .is (.bool true)), (10, .is (.bool false))] (by kernel_rfl) (by kernel_rfl) ?_
      simp only [List.take_succ_cons, List.take_zero, List.drop_succ_cons, List.drop_zero]
      try go_frame
      repeat (first
        | (refine walk_quiet rfl rfl rfl ?_; intro K hK; go_big_quiet_op; go_big_quiet_on)
        | (refine walk_check rfl rfl rfl ?_; go_frame))
      refine walk_is rfl rfl (fun wx hwx _ => WpYld.callIsB (run_callL (vals := [_]) Try.func96 (by kernel_rfl) rfl rfl) (HFULL.out wx)) ?_
      go_frame
      repeat (first
        | (refine walk_quiet rfl rfl rfl ?_; intro K hK; go_big_quiet_op; go_big_quiet_on)
        | (refine walk_check rfl rfl rfl ?_; go_frame))
      refine walk_is rfl rfl (fun wx hwx _ => WpYld.callIsB (run_callL (vals := [_, _]) Try.func95 (by kernel_rfl) rfl rfl) (HWIT.out wx)) ?_
      go_frame
      repeat (first
        | (refine walk_quiet rfl rfl rfl ?_; intro K hK; go_big_quiet_op; go_big_quiet_on)
        | (refine walk_skip rfl ?_; go_frame)
        | (refine walk_check rfl rfl rfl ?_; go_frame))
      refine walk_nil ?_
      intro w3 hb3 hF
      have HL3 := Lib.hid (HL2.out.mono hb3)
      have HH3 := Lib.hid (heap_below hb3 HH2.out)
      clear hF hb3 hAB l1 l2 c0 c1 c2 q0 q1 q2 q3 q4 q5
      obtain ⟨c0, c1, c2, -⟩ := HL3.out.cells
      obtain ⟨q0, q1, q2, q3, q4, q5⟩ := sec6 HH3.out
      go_wp2
      refine bodyPost_ret (results_none rfl _ _ _) rfl ?_
      obtain ⟨m6, a6, k6, -, hfv6, _, _⟩ := HL3.out.f.shape
      have HL30 := Lib.hid (show Lk w0 w3 p l (.slice ba bm bc) (F ++ []) S G (.slice a6 m6 k6) (.slice (some ⟨b1, o1, none⟩) sm sc) gv by rw [List.append_nil, ← hfv6]; exact HL3.out)
      refine ⟨rfl, [], ?_⟩
      first
        | exact ⟨m6, a6, k6, HL30.out, (fun f hf => by cases hf), by simp⟩
        | exact ⟨⟨m6, a6, k6, HL30.out⟩, (fun f hf => by cases hf), by simp⟩
    | true =>
      rw [hwi] at HWIT
      have HWI := Lib.hid hwi
      clear hwi
      refine wp_region_walk 13 [(1, .is (.bool true)), (10, .is (.bool true))] (by kernel_rfl) (by kernel_rfl) ?_
      simp only [List.take_succ_cons, List.take_zero, List.drop_succ_cons, List.drop_zero]
      try go_frame
      repeat (first
        | (refine walk_quiet rfl rfl rfl ?_; intro K hK; go_big_quiet_op; go_big_quiet_on)
        | (refine walk_check rfl rfl rfl ?_; go_frame))
      refine walk_is rfl rfl (fun wx hwx _ => WpYld.callIsB (run_callL (vals := [_]) Try.func96 (by kernel_rfl) rfl rfl) (HFULL.out wx)) ?_
      go_frame
      repeat (first
        | (refine walk_quiet rfl rfl rfl ?_; intro K hK; go_big_quiet_op; go_big_quiet_on)
        | (refine walk_check rfl rfl rfl ?_; go_frame))
      refine walk_is rfl rfl (fun wx hwx _ => WpYld.callIsB (run_callL (vals := [_, _]) Try.func95 (by kernel_rfl) rfl rfl) (HWIT.out wx)) ?_
      go_frame
      repeat (first
        | (refine walk_quiet rfl rfl rfl ?_; intro K hK; go_big_quiet_op; go_big_quiet_on)
        | (refine walk_skip rfl ?_; go_frame)
        | (refine walk_check rfl rfl rfl ?_; go_frame))
      refine walk_nil ?_
      intro w3 hb3 hF
      have HL3 := Lib.hid (HL2.out.mono hb3)
      have HH3 := Lib.hid (heap_below hb3 HH2.out)
      clear hF hb3 hAB l1 l2 c0 c1 c2 q0 q1 q2 q3 q4 q5
      obtain ⟨c0, c1, c2, -⟩ := HL3.out.cells
      obtain ⟨q0, q1, q2, q3, q4, q5⟩ := sec6 HH3.out
      rcases Nat.eq_zero_or_pos T.size with hsz | hsz
      · have HTE := Lib.hid (show tabW l T = [] by rw [HTB.out, if_neg (by omega)])
        have d5 : decide ((T.size : Int) > 0) = false := by rw [hsz]; rfl
        have HSZ := Lib.hid hsz
        clear hsz
        obtain ⟨ta, hta⟩ : ∃ ta : Option Addr, ta = none := ⟨none, rfl⟩
        obtain ⟨tm, htm⟩ : ∃ tm : Nat, tm = 0 := ⟨0, rfl⟩
        obtain ⟨tc, htc⟩ : ∃ tc : Nat, tc = 0 := ⟨0, rfl⟩
        go_wp2_with (go_at_call 96; refine (HFULL.out _).mono ?_; rintro e w4 ⟨rfl, hb4⟩; have HL4 := Lib.hid (HL3.out.mono hb4); have HH4 := Lib.hid (heap_below hb4 HH3.out); clear c0 c1 c2 q0 q1 q2 q3 q4 q5; obtain ⟨c0, c1, c2, -⟩ := HL4.out.cells; obtain ⟨q0, q1, q2, q3, q4, q5⟩ := sec6 HH4.out; clear hb4)
        · exfalso
          have := HSZ.out
          omega
        have HTV := Lib.hid (show Bs w0 (.slice ta tm tc) (tabW l T) by rw [HTE.out, hta, htm, htc]; exact Bs.nil _)
        subst hta htm htc
        refine (HNMH.out T _ _ (HTV.out.mono HL4.out.below)).mono ?_
        rintro e w5 ⟨rfl, hb5⟩
        have HL5 := Lib.hid (HL4.out.mono hb5)
        clear hb5 c0 c1 c2 q0 q1 q2 q3 q4 q5
        have HNT := Lib.hid (HSF.out own T HT1.out)
        generalize namedB T (tabW l T) = nT at *
        cases nT with
        | false =>
          go_wp2_with (go_at_call 93; refine (wFind_any HL5.out true 6 own 0 (by omega)).mono ?_; rintro e w6 ⟨rfl, fm, fa, fc, hk, -⟩; have HL6 := Lib.hid hk; clear hk)
          refine bodyPost_ret (results_none rfl _ _ _) rfl ?_
          exact ⟨rfl, [⟨6, own, 0⟩], fm, fa, fc, HL6.out, (fun f hf => by rw [List.mem_singleton] at hf; rw [hf]; exact HNT.out (by simp)), by simp⟩
        | true =>
          obtain ⟨d0, d1, d2, -⟩ := HL5.out.cells
          go_wp2
          clear d0 d1 d2
          obtain ⟨fm5, fa5, fc5, hfv5, HL50⟩ : ∃ fm fa fc, fv = .slice fa fm fc ∧ Hid (Lk w0 w5 p l (.slice ba bm bc) (F ++ []) S G (.slice fa fm fc) (.slice (some ⟨b1, o1, none⟩) sm sc) gv) := by
            obtain ⟨m, a, c, -, h, _, _⟩ := HL5.out.f.shape
            refine ⟨m, a, c, h, ?_⟩
            rw [List.append_nil, ← h]
            exact HL5.out
          go_loopw [62] (fun i wr => ∃ (k : Nat) (X : List FlM) (fm : Nat) (fa : Option Addr) (fc : Nat), i = .int .i64 k ∧ k ≤ sm ∧ Hid (Lk w0 wr p l (.slice ba bm bc) (F ++ X) S G (.slice fa fm fc) (.slice (some ⟨b1, o1, none⟩) sm sc) gv) ∧ Hid (∀ f ∈ X, SecFl l S own f) ∧ X.length ≤ k) (fun i _ => sm - (intOf i).toNat)
          case atStart => exact ⟨0, [], fm5, fa5, fc5, rfl, Nat.zero_le _, HL50, (fun f hf => by cases hf), by simp⟩
          case round =>
            obtain ⟨k, X, fm, fa, fc, rfl, hk, HLR, HX, hxl⟩ := hrel
            by_cases hlt : k < sm
            · have X1 := Lib.hid (show S[k]? = some (S[k]'(by have := HSM.out; omega)) from List.getElem?_eq_getElem _)
              generalize S[k]'(by have := HSM.out; omega) = s at *
              have HNS := Lib.hid (HSF.out k s X1.out)
              obtain ⟨b2, o2, ha2, u0, u1, u2, u3, u4, u5⟩ := row_ws HLR.out.s X1.out
              have e1 : b1 = b2 := by injection ha2 with h1; injection h1
              have e2 : o1 = o2 := by injection ha2 with h1; injection h1
              subst e1 e2
              clear ha2
              have HBN := Lib.hid (HNMH.out s (.slice none 0 0))
              generalize namedB s (tabW l T) = ns at *
              go_wp2_with (first
                | ((with_reducible show wpList _ _ _ (⟨none, .store _ _ _, _, _, _, _⟩ :: _) _ _); go_must (refine wpList_storeNew rfl rfl (by kernel_rfl) rfl (by simp [Value.oneCell']) ?_; intro w7 hh7 hb7; obtain ⟨q0, q1, q2, q3, q4, q5⟩ := sec6 (s := s) (show w7.heap[wr.heap.size]? = some (.cells (encWS s).toArray 144 (0, 0)) from hh7); have HL7 := Lib.hid (HLR.out.mono hb7); clear hh7 hb7))
                | (go_at_call 112; refine (HBN.out _ (HTV.out.mono HL7.out.below)).mono ?_; rintro e w8 ⟨rfl, hb8⟩; have HL8 := Lib.hid (HL7.out.mono hb8); clear hb8)
                | (go_at_call 93; refine (wFind_any HL8.out (!ns) 6 k 0 (by rw [List.length_append]; omega)).mono ?_; rintro e w9 ⟨rfl, fm9, fa9, fc9, hk9, -⟩; have HL9 := Lib.hid (show Lk w0 w9 p l (.slice ba bm bc) (F ++ (X ++ fl (!ns) 6 k 0)) S G (.slice fa9 fm9 fc9) (.slice (some ⟨b1, o1, none⟩) sm sc) gv by rw [← List.append_assoc]; exact hk9); clear hk9))
              have HX2 := Lib.hid (show ∀ f ∈ X ++ fl (!ns) 6 k 0, SecFl l S own f from fun f hf => by
                rcases List.mem_append.1 hf with hf | hf
                · exact HX.out f hf
                · obtain ⟨h1, rfl⟩ := fl_mem hf
                  exact HNS.out (by simpa using h1))
              have hx2 : (X ++ fl (!ns) 6 k 0).length ≤ k + 1 := by rw [List.length_append]; have := fl_len (!ns) 6 k 0; omega
              go_round
              case rel => exact ⟨k + 1, _, fm9, fa9, fc9, by go_num, by omega, HL9.out, HX2.out, hx2⟩
              case measure => simp [intOf] <;> omega
            · go_wp2
              go_end0
              exact ⟨rfl, X, fm, fa, fc, HLR.out, HX.out, by omega⟩
      · have HTE := Lib.hid (show tabW l T = (l.drop T.pl).take T.size by rw [HTB.out, if_pos ⟨rfl, hsz⟩])
        have d5 : decide ((T.size : Int) > 0) = true := by simp; omega
        have hin : T.pl ≤ bm ∧ T.size ≤ bm - T.pl := by
          have h1 := HWI.out
          unfold withinB at h1
          simp only [Bool.or_eq_true, Bool.and_eq_true, decide_eq_true_eq] at h1
          omega
        obtain ⟨v6, hrun6, hv6⟩ := run_fromB HB0.out (i := (T.pl : Int)) (k := .u64) (by omega) (by rw [HBM.out]; omega)
        rw [Int.toNat_natCast] at hv6
        obtain ⟨v7, hrun7, hv7⟩ := run_toB hv6 (j := (T.size : Int)) (k := .u64) (by omega) (by rw [List.length_drop, HBM.out]; omega)
        rw [Int.toNat_natCast, ← HTE.out] at hv7
        have HRUN6 := Lib.hid hrun6
        have HRUN7 := Lib.hid hrun7
        have HTV := Lib.hid hv7
        obtain ⟨m6, a6, k6, -, rfl, _, _⟩ := hv6.shape
        obtain ⟨tm, ta, tc, -, rfl, _, _⟩ := hv7.shape
        clear hrun6 hrun7 hv6 hv7 hin
        go_wp2_with (go_at_call 96; refine (HFULL.out _).mono ?_; rintro e w4 ⟨rfl, hb4⟩; have HL4 := Lib.hid (HL3.out.mono hb4); have HH4 := Lib.hid (heap_below hb4 HH3.out); clear c0 c1 c2 q0 q1 q2 q3 q4 q5; obtain ⟨c0, c1, c2, -⟩ := HL4.out.cells; obtain ⟨q0, q1, q2, q3, q4, q5⟩ := sec6 HH4.out; clear hb4)
        have hAB := fun (x : Above w4) (b k : Nat) (h : b < w4.heap.size) => Above.cell x b k h
        have l1 := block_lt c0
        have l2 := block_lt q0
        refine wp_region_walk 13 [(7, .is (.slice a6 m6 k6)), (11, .is (.slice ta tm tc))] (by kernel_rfl) (by kernel_rfl) ?_
        simp only [List.take_succ_cons, List.take_zero, List.drop_succ_cons, List.drop_zero]
        try go_frame
        repeat (first
          | (refine walk_quiet rfl rfl rfl ?_; intro K hK; go_big_quiet_op; go_big_quiet_on)
          | (refine walk_check rfl rfl rfl ?_; go_frame))
        refine walk_is rfl rfl (fun wx hwx _ => WpYld.val (exec_sliceFrom HRUN6.out rfl rfl) ⟨(), rfl, trivial⟩ (Below.refl _ _)) ?_
        go_frame
        repeat (refine walk_quiet rfl rfl rfl ?_; intro K hK; go_big_quiet_op; go_big_quiet_on)
        refine walk_is rfl rfl (fun wx hwx _ => WpYld.val (exec_sliceTo HRUN7.out rfl rfl) ⟨(), rfl, trivial⟩ (Below.refl _ _)) ?_
        go_frame
        repeat (refine walk_quiet rfl rfl rfl ?_; intro K hK; go_big_quiet_op; go_big_quiet_on)
        refine walk_nil ?_
        intro wq hbq hF
        have HLQ := Lib.hid (HL4.out.mono hbq)
        have HHQ := Lib.hid (heap_below hbq HH4.out)
        clear hF hbq hAB l1 l2 c0 c1 c2 q0 q1 q2 q3 q4 q5
        obtain ⟨c0, c1, c2, -⟩ := HLQ.out.cells
        obtain ⟨q0, q1, q2, q3, q4, q5⟩ := sec6 HHQ.out
        try go_frame
        go_wp2_with fail
        have HL4 := HLQ
        refine (HNMH.out T _ _ (HTV.out.mono HL4.out.below)).mono ?_
        rintro e w5 ⟨rfl, hb5⟩
        have HL5 := Lib.hid (HL4.out.mono hb5)
        clear hb5 c0 c1 c2 q0 q1 q2 q3 q4 q5
        have HNT := Lib.hid (HSF.out own T HT1.out)
        generalize namedB T (tabW l T) = nT at *
        cases nT with
        | false =>
          go_wp2_with (go_at_call 93; refine (wFind_any HL5.out true 6 own 0 (by omega)).mono ?_; rintro e w6 ⟨rfl, fm, fa, fc, hk, -⟩; have HL6 := Lib.hid hk; clear hk)
          refine bodyPost_ret (results_none rfl _ _ _) rfl ?_
          exact ⟨rfl, [⟨6, own, 0⟩], fm, fa, fc, HL6.out, (fun f hf => by rw [List.mem_singleton] at hf; rw [hf]; exact HNT.out (by simp)), by simp⟩
        | true =>
          obtain ⟨d0, d1, d2, -⟩ := HL5.out.cells
          go_wp2
          clear d0 d1 d2
          obtain ⟨fm5, fa5, fc5, hfv5, HL50⟩ : ∃ fm fa fc, fv = .slice fa fm fc ∧ Hid (Lk w0 w5 p l (.slice ba bm bc) (F ++ []) S G (.slice fa fm fc) (.slice (some ⟨b1, o1, none⟩) sm sc) gv) := by
            obtain ⟨m, a, c, -, h, _, _⟩ := HL5.out.f.shape
            refine ⟨m, a, c, h, ?_⟩
            rw [List.append_nil, ← h]
            exact HL5.out
          go_loopw [62] (fun i wr => ∃ (k : Nat) (X : List FlM) (fm : Nat) (fa : Option Addr) (fc : Nat), i = .int .i64 k ∧ k ≤ sm ∧ Hid (Lk w0 wr p l (.slice ba bm bc) (F ++ X) S G (.slice fa fm fc) (.slice (some ⟨b1, o1, none⟩) sm sc) gv) ∧ Hid (∀ f ∈ X, SecFl l S own f) ∧ X.length ≤ k) (fun i _ => sm - (intOf i).toNat)
          case atStart => exact ⟨0, [], fm5, fa5, fc5, rfl, Nat.zero_le _, HL50, (fun f hf => by cases hf), by simp⟩
          case round =>
            obtain ⟨k, X, fm, fa, fc, rfl, hk, HLR, HX, hxl⟩ := hrel
            by_cases hlt : k < sm
            · have X1 := Lib.hid (show S[k]? = some (S[k]'(by have := HSM.out; omega)) from List.getElem?_eq_getElem _)
              generalize S[k]'(by have := HSM.out; omega) = s at *
              have HNS := Lib.hid (HSF.out k s X1.out)
              obtain ⟨b2, o2, ha2, u0, u1, u2, u3, u4, u5⟩ := row_ws HLR.out.s X1.out
              have e1 : b1 = b2 := by injection ha2 with h1; injection h1
              have e2 : o1 = o2 := by injection ha2 with h1; injection h1
              subst e1 e2
              clear ha2
              have HBN := Lib.hid (HNMH.out s (.slice ta tm tc))
              generalize namedB s (tabW l T) = ns at *
              go_wp2_with (first
                | ((with_reducible show wpList _ _ _ (⟨none, .store _ _ _, _, _, _, _⟩ :: _) _ _); go_must (refine wpList_storeNew rfl rfl (by kernel_rfl) rfl (by simp [Value.oneCell']) ?_; intro w7 hh7 hb7; obtain ⟨q0, q1, q2, q3, q4, q5⟩ := sec6 (s := s) (show w7.heap[wr.heap.size]? = some (.cells (encWS s).toArray 144 (0, 0)) from hh7); have HL7 := Lib.hid (HLR.out.mono hb7); clear hh7 hb7))
                | (go_at_call 112; refine (HBN.out _ (HTV.out.mono HL7.out.below)).mono ?_; rintro e w8 ⟨rfl, hb8⟩; have HL8 := Lib.hid (HL7.out.mono hb8); clear hb8)
                | (go_at_call 93; refine (wFind_any HL8.out (!ns) 6 k 0 (by rw [List.length_append]; omega)).mono ?_; rintro e w9 ⟨rfl, fm9, fa9, fc9, hk9, -⟩; have HL9 := Lib.hid (show Lk w0 w9 p l (.slice ba bm bc) (F ++ (X ++ fl (!ns) 6 k 0)) S G (.slice fa9 fm9 fc9) (.slice (some ⟨b1, o1, none⟩) sm sc) gv by rw [← List.append_assoc]; exact hk9); clear hk9))
              have HX2 := Lib.hid (show ∀ f ∈ X ++ fl (!ns) 6 k 0, SecFl l S own f from fun f hf => by
                rcases List.mem_append.1 hf with hf | hf
                · exact HX.out f hf
                · obtain ⟨h1, rfl⟩ := fl_mem hf
                  exact HNS.out (by simpa using h1))
              have hx2 : (X ++ fl (!ns) 6 k 0).length ≤ k + 1 := by rw [List.length_append]; have := fl_len (!ns) 6 k 0; omega
              go_round
              case rel => exact ⟨k + 1, _, fm9, fa9, fc9, by go_num, by omega, HL9.out, HX2.out, hx2⟩
              case measure => simp [intOf] <;> omega
            · go_wp2
              go_end0
              exact ⟨rfl, X, fm, fa, fc, HLR.out, HX.out, by omega⟩
end Go.Proofs.Ytimnbnomaajmmaa
namespace Go.Proofs.Ytimnbnomaajmmaa
open Go.RowKit Go.Fd
attribute [local irreducible] walk
set_option maxHeartbeats 8000000 in
set_option maxRecDepth 100000 in
theorem wSections_any {w0 w : World} {p : Nat} {l : List UInt8} {bv : Value} {F : List FlM} {S : List WSec} {G : List WSeg} {fv gv : Value} {sm sc : Nat} {sa : Option Addr} (h : Lk w0 w p l bv F S G fv (.slice sa sm sc) gv) (hl : l.length ≤ 1000000000) (hS : S.length ≤ 300) (hfit : ∀ s ∈ S, WSec.fits s) (hown : gN l 62 2 < S.length) (hF : F.length ≤ 10) :
    Calls Try.prog 75 #[.pointer (some ⟨p, 0, none⟩)] w fun r w' => r = .returned (.tuple #[]) ∧ ∃ X fm fa fc, Lk w0 w' p l bv (F ++ X) S G (.slice fa fm fc) (.slice sa sm sc) gv ∧ (∀ f ∈ X, SecFl l S (gN l 62 2) f) ∧ X.length ≤ 200000 := by
  have HFT := Lib.hid hfit
  obtain ⟨bm, ba, bc, hbm, rfl, _, _⟩ := h.b.shape
  have hbm9 : bm ≤ 1000000000 := by have := hbm.out; omega
  have HSM := Lib.hid (own_len h.s)
  have hsm9 : sm ≤ 300 := by have := own_len h.s; omega
  have HNAMES : Hid (∀ (wx : World) (F' : List FlM) (fx : Value), Lk w0 wx p l (.slice ba bm bc) F' S G fx (.slice sa sm sc) gv → F'.length ≤ 1000000 → Calls Try.prog 98 #[.pointer (some ⟨p, 0, none⟩)] wx fun r w' => r = .returned (.tuple #[]) ∧ ∃ X fm fa fc, Lk w0 w' p l (.slice ba bm bc) (F' ++ X) S G (.slice fa fm fc) (.slice sa sm sc) gv ∧ (∀ f ∈ X, SecFl l S (gN l 62 2) f) ∧ X.length ≤ 300) := fun wx F' fx hx hF' => wNames_any (_sv := .slice none 0 0) hx hl hS hfit hown hF'
  have HS4 : Hid (∀ (i : Nat) (s : WSec), S[i]? = some s → fullB s = true → withinB s.pl s.size bm = false → SecFl l S (gN l 62 2) ⟨4, i, 0⟩) := fun i s hi h1 h2 => .inl ⟨i, s, hi, rfl, h1, by rw [← hbm.out]; exact h2⟩
  have HS5 : Hid (∀ (i : Nat) (s : WSec), S[i]? = some s → s.align ≠ 0 → (pow2B s.align = false ∨ s.addr % s.align ≠ 0) → SecFl l S (gN l 62 2) ⟨5, i, 0⟩) := fun i s hi h1 h2 => .inr (.inl ⟨i, s, hi, rfl, h1, h2⟩)
  have HS7 : Hid (∀ (i k : Nat) (s t : WSec), i < k → S[i]? = some s → S[k]? = some t → fullB s = true → fullB t = true → commonB s.pl s.size t.pl t.size = true → SecFl l S (gN l 62 2) ⟨7, i, k⟩) := fun i k s t hik hi hk h1 h2 h3 => .inr (.inr (.inr ⟨i, k, s, t, hik, hi, hk, rfl, h1, h2, h3⟩))
  obtain ⟨fm0, fa0, fc0, -, rfl, _, _⟩ := h.f.shape
  have HL0 := Lib.hid (show Lk w0 w p l (.slice ba bm bc) (F ++ []) S G (.slice fa0 fm0 fc0) (.slice sa sm sc) gv by rw [List.append_nil]; exact h)
  obtain ⟨-, -, c2, -⟩ := h.cells
  clear h hfit hown hS
  generalize hOW : gN l 62 2 = own at *
  clear hOW
  go_enter Try.func75, Try.ntmps75
  go_wp2
  clear c2
  go_loopw [2, 3, 15] (fun _ _ i wr => ∃ (k : Nat) (X : List FlM) (fm : Nat) (fa : Option Addr) (fc : Nat), i = .int .i64 k ∧ k ≤ sm ∧ Hid (Lk w0 wr p l (.slice ba bm bc) (F ++ X) S G (.slice fa fm fc) (.slice sa sm sc) gv) ∧ Hid (∀ f ∈ X, SecFl l S own f) ∧ X.length ≤ k) (fun _ _ i _ => sm - (intOf i).toNat)
  case atStart => exact ⟨0, [], fm0, fa0, fc0, rfl, Nat.zero_le _, HL0.out, (fun f hf => by cases hf), by simp⟩
  case round =>
    obtain ⟨k, X, fm, fa, fc, rfl, hk, HLR, HX, hxl⟩ := hrel
    by_cases hlt : k < sm
    · have X1 := Lib.hid (show S[k]? = some (S[k]'(by have := HSM.out; omega)) from List.getElem?_eq_getElem _)
      generalize S[k]'(by have := HSM.out; omega) = s at *
      have hft := HFT.out s (List.mem_of_getElem? X1.out)
      obtain ⟨b2, o2, ha2, u0, u1, u2, u3, u4, u5⟩ := row_ws HLR.out.s X1.out
      subst ha2
      cases hfu : fullB s with
      | false =>
        have HFL := Lib.hid (fun (wx : World) => wFull_any s wx)
        rw [hfu] at HFL
        have HWI := Lib.hid (fun (wx : World) => wWithin_any s.pl s.size bm wx hft.2.2.2.2.1 hft.2.2.2.2.2 hbm9)
        clear hfu hft
        generalize withinB s.pl s.size bm = wi at *
        go_wp2_with ((with_reducible show wpList _ _ _ (⟨none, .store _ _ _, _, _, _, _⟩ :: _) _ _); go_must (refine wpList_storeNew rfl rfl (by kernel_rfl) rfl (by simp [Value.oneCell']) ?_; intro w7 hh7 hb7; have HH7 := Lib.hid (show w7.heap[wr.heap.size]? = some (.cells (encWS s).toArray 144 (0, 0)) from hh7); have HL7 := Lib.hid (HLR.out.mono hb7); obtain ⟨q0, q1, q2, q3, q4, q5⟩ := sec6 HH7.out; clear hh7 hb7))
        obtain ⟨c0, -, -, -⟩ := HL7.out.cells
        clear u0 u1 u2 u3 u4 u5
        have hAB := fun (x : Above w7) (b k : Nat) (h : b < w7.heap.size) => Above.cell x b k h
        have l1 := block_lt c0
        have l2 := block_lt q0
        refine wp_region_walk 15 [(2, .is (.bool false)), (11, .is (.bool wi))] (by kernel_rfl) (by kernel_rfl) ?_
        simp only [List.take_succ_cons, List.take_zero, List.drop_succ_cons, List.drop_zero]
        try go_frame
        repeat (first
          | (refine walk_quiet rfl rfl rfl ?_; intro K hK; go_big_quiet_op; go_big_quiet_on)
          | (refine walk_skip rfl ?_; go_frame)
          | (refine walk_check rfl rfl rfl ?_; go_frame))
        refine walk_is rfl rfl (fun wx hwx _ => WpYld.callIsB (run_callL (vals := [_]) Try.func96 (by kernel_rfl) rfl rfl) (HFL.out wx)) ?_
        go_frame
        repeat (first
          | (refine walk_quiet rfl rfl rfl ?_; intro K hK; go_big_quiet_op; go_big_quiet_on)
          | (refine walk_skip rfl ?_; go_frame)
          | (refine walk_check rfl rfl rfl ?_; go_frame))
        refine walk_nil ?_
        intro w8 hb8 hF8
        have HL8 := Lib.hid (HL7.out.mono hb8)
        clear hF8 hb8 hAB l1 l2 c0 q0 q1 q2 q3 q4 q5
        go_wp2_with (go_at_call 93; refine (wFind_any HL8.out (false) 4 k 0 (by rw [List.length_append]; omega)).mono ?_; rintro e w9 ⟨rfl, fm9, fa9, fc9, hk9, hkk9⟩; have HL9 := Lib.hid (show Lk w0 w9 p l (.slice ba bm bc) (F ++ (X ++ fl (false) 4 k 0)) S G (.slice fa9 fm9 fc9) (.slice (some ⟨b2, o2, none⟩) sm sc) gv by rw [← List.append_assoc]; exact hk9); have HKK9 := Lib.hid hkk9; clear hk9 hkk9)
        have HX2 := Lib.hid (show ∀ f ∈ X ++ fl (false) 4 k 0, SecFl l S own f from fun f hf => by
          rcases List.mem_append.1 hf with hf | hf
          · exact HX.out f hf
          · obtain ⟨h1, rfl⟩ := fl_mem hf
            exact (by simp at h1))
        have hx2 : (X ++ fl (false) 4 k 0).length ≤ k + 1 := by rw [List.length_append]; have := fl_len (false) 4 k 0; omega
        go_roundw
        case rel =>
          first
            | exact ⟨k + 1, _, fm9, fa9, fc9, by go_num, by omega, HL9.out, HX2.out, hx2⟩
            | ((repeat apply Exists.intro); exact ⟨⟨k + 1, _, fm9, fa9, fc9, by go_num, by omega, HL9.out, HX2.out, hx2⟩, rfl⟩)
        case measure => simp [intOf] <;> omega
      | true =>
        have HFL := Lib.hid (fun (wx : World) => wFull_any s wx)
        rw [hfu] at HFL
        have HWI := Lib.hid (fun (wx : World) => wWithin_any s.pl s.size bm wx hft.2.2.2.2.1 hft.2.2.2.2.2 hbm9)
        have HP := Lib.hid (HS4.out k s X1.out hfu)
        clear hfu hft
        generalize withinB s.pl s.size bm = wi at *
        go_wp2_with ((with_reducible show wpList _ _ _ (⟨none, .store _ _ _, _, _, _, _⟩ :: _) _ _); go_must (refine wpList_storeNew rfl rfl (by kernel_rfl) rfl (by simp [Value.oneCell']) ?_; intro w7 hh7 hb7; have HH7 := Lib.hid (show w7.heap[wr.heap.size]? = some (.cells (encWS s).toArray 144 (0, 0)) from hh7); have HL7 := Lib.hid (HLR.out.mono hb7); obtain ⟨q0, q1, q2, q3, q4, q5⟩ := sec6 HH7.out; clear hh7 hb7))
        obtain ⟨c0, -, -, -⟩ := HL7.out.cells
        clear u0 u1 u2 u3 u4 u5
        have hAB := fun (x : Above w7) (b k : Nat) (h : b < w7.heap.size) => Above.cell x b k h
        have l1 := block_lt c0
        have l2 := block_lt q0
        refine wp_region_walk 15 [(2, .is (.bool true)), (11, .is (.bool wi))] (by kernel_rfl) (by kernel_rfl) ?_
        simp only [List.take_succ_cons, List.take_zero, List.drop_succ_cons, List.drop_zero]
        try go_frame
        repeat (first
          | (refine walk_quiet rfl rfl rfl ?_; intro K hK; go_big_quiet_op; go_big_quiet_on)
          | (refine walk_skip rfl ?_; go_frame)
          | (refine walk_check rfl rfl rfl ?_; go_frame))
        refine walk_is rfl rfl (fun wx hwx _ => WpYld.callIsB (run_callL (vals := [_]) Try.func96 (by kernel_rfl) rfl rfl) (HFL.out wx)) ?_
        go_frame
        repeat (first
          | (refine walk_quiet rfl rfl rfl ?_; intro K hK; go_big_quiet_op; go_big_quiet_on)
          | (refine walk_skip rfl ?_; go_frame)
          | (refine walk_check rfl rfl rfl ?_; go_frame))
        refine walk_is rfl rfl (fun wx hwx _ => WpYld.callIsB (run_callL (vals := [_, _]) Try.func95 (by kernel_rfl) rfl rfl) (HWI.out wx)) ?_
        go_frame
        repeat (first
          | (refine walk_quiet rfl rfl rfl ?_; intro K hK; go_big_quiet_op; go_big_quiet_on)
          | (refine walk_skip rfl ?_; go_frame)
          | (refine walk_check rfl rfl rfl ?_; go_frame))
        refine walk_nil ?_
        intro w8 hb8 hF8
        have HL8 := Lib.hid (HL7.out.mono hb8)
        clear hF8 hb8 hAB l1 l2 c0 q0 q1 q2 q3 q4 q5
        go_wp2_with (go_at_call 93; refine (wFind_any HL8.out (!wi) 4 k 0 (by rw [List.length_append]; omega)).mono ?_; rintro e w9 ⟨rfl, fm9, fa9, fc9, hk9, hkk9⟩; have HL9 := Lib.hid (show Lk w0 w9 p l (.slice ba bm bc) (F ++ (X ++ fl (!wi) 4 k 0)) S G (.slice fa9 fm9 fc9) (.slice (some ⟨b2, o2, none⟩) sm sc) gv by rw [← List.append_assoc]; exact hk9); have HKK9 := Lib.hid hkk9; clear hk9 hkk9)
        have HX2 := Lib.hid (show ∀ f ∈ X ++ fl (!wi) 4 k 0, SecFl l S own f from fun f hf => by
          rcases List.mem_append.1 hf with hf | hf
          · exact HX.out f hf
          · obtain ⟨h1, rfl⟩ := fl_mem hf
            exact HP.out (by simpa using h1))
        have hx2 : (X ++ fl (!wi) 4 k 0).length ≤ k + 1 := by rw [List.length_append]; have := fl_len (!wi) 4 k 0; omega
        go_roundw
        case rel =>
          first
            | exact ⟨k + 1, _, fm9, fa9, fc9, by go_num, by omega, HL9.out, HX2.out, hx2⟩
            | ((repeat apply Exists.intro); exact ⟨⟨k + 1, _, fm9, fa9, fc9, by go_num, by omega, HL9.out, HX2.out, hx2⟩, rfl⟩)
        case measure => simp [intOf] <;> omega
    · obtain rfl : sm = k := by omega
      obtain ⟨c0, c1, c2, c3⟩ := HLR.out.cells
      go_wp2
      clear c0 c1 c2 c3
      have hxl2 : X.length ≤ 300 := by omega
      have HLS := Lib.hid HLR.out
      obtain ⟨ws, hws⟩ : ∃ ws : World, ws = wr := ⟨_, rfl⟩
      go_loopw [4, 5, 42] (fun _ _ i wr => ∃ (k : Nat) (X : List FlM) (fm : Nat) (fa : Option Addr) (fc : Nat), i = .int .i64 k ∧ k ≤ sm ∧ Hid (Lk w0 wr p l (.slice ba bm bc) (F ++ X) S G (.slice fa fm fc) (.slice sa sm sc) gv) ∧ Hid (∀ f ∈ X, SecFl l S own f) ∧ X.length ≤ 300 + k) (fun _ _ i _ => sm - (intOf i).toNat)
      case atStart => exact ⟨0, X, fm, fa, fc, rfl, Nat.zero_le _, HLS.out, HX.out, by omega⟩
      case round =>
        clear hws HLS HX hxl hxl2 hk hlt HLR
        obtain ⟨k, X, fm, fa, fc, rfl, hk, HLR, HX, hxl⟩ := hrel
        by_cases hlt : k < sm
        · have X1 := Lib.hid (show S[k]? = some (S[k]'(by have := HSM.out; omega)) from List.getElem?_eq_getElem _)
          generalize S[k]'(by have := HSM.out; omega) = s at *
          have hft := HFT.out s (List.mem_of_getElem? X1.out)
          obtain ⟨b2, o2, ha2, u0, u1, u2, u3, u4, u5⟩ := row_ws HLR.out.s X1.out
          subst ha2
          have HP := Lib.hid (HS5.out k s X1.out)
          have hal := hft.2.2.2.1
          have had := hft.2.2.1
          clear hft
          rcases Nat.eq_zero_or_pos s.align with hz | hz
          · have hb : ((s.align : Int) != 0) = false := by rw [hz]; rfl
            clear hz hal had HP
            go_wp2_with (first
              | ((with_reducible show wpList _ _ _ (⟨none, .store _ _ _, _, _, _, _⟩ :: _) _ _); go_must (refine wpList_storeNew rfl rfl (by kernel_rfl) rfl (by simp [Value.oneCell']) ?_; intro w7 hh7 hb7; have HH7 := Lib.hid (show w7.heap[wr.heap.size]? = some (.cells (encWS s).toArray 144 (0, 0)) from hh7); have HL7 := Lib.hid (HLR.out.mono hb7); obtain ⟨q0, q1, q2, q3, q4, q5⟩ := sec6 HH7.out; clear hh7 hb7))
              | (go_at_call 93; refine (wFind_any HL7.out (false) 5 k 0 (by rw [List.length_append]; omega)).mono ?_; rintro e w9 ⟨rfl, fm9, fa9, fc9, hk9, hkk9⟩; have HL9 := Lib.hid (show Lk w0 w9 p l (.slice ba bm bc) (F ++ (X ++ fl (false) 5 k 0)) S G (.slice fa9 fm9 fc9) (.slice (some ⟨b2, o2, none⟩) sm sc) gv by rw [← List.append_assoc]; exact hk9); have HKK9 := Lib.hid hkk9; clear hk9 hkk9))
            have HX2 := Lib.hid (show ∀ f ∈ X ++ fl (false) 5 k 0, SecFl l S own f from fun f hf => by
              rcases List.mem_append.1 hf with hf | hf
              · exact HX.out f hf
              · obtain ⟨h1, rfl⟩ := fl_mem hf
                exact (by simp at h1))
            have hx2 : (X ++ fl (false) 5 k 0).length ≤ 300 + (k + 1) := by rw [List.length_append]; have := fl_len (false) 5 k 0; omega
            go_round
            case rel => exact ⟨k + 1, _, fm9, fa9, fc9, by go_num, by omega, HL9.out, HX2.out, hx2⟩
            case measure => simp [intOf] <;> omega
          · have hb : ((s.align : Int) != 0) = true := by rw [zbne (a := s.align) (b := 0) (c := 0) rfl, decide_eq_false (by omega)]; rfl
            have HPW := Lib.hid (fun (wx : World) => wPower_any s.align wx hal)
            cases hpw : pow2B s.align with
            | false =>
              rw [hpw] at HPW
              have HQ := Lib.hid (HP.out (by omega) (.inl hpw))
              clear hpw hz hal had HP
              go_wp2_with (first
                | ((with_reducible show wpList _ _ _ (⟨none, .store _ _ _, _, _, _, _⟩ :: _) _ _); go_must (refine wpList_storeNew rfl rfl (by kernel_rfl) rfl (by simp [Value.oneCell']) ?_; intro w7 hh7 hb7; have HH7 := Lib.hid (show w7.heap[wr.heap.size]? = some (.cells (encWS s).toArray 144 (0, 0)) from hh7); have HL7 := Lib.hid (HLR.out.mono hb7); obtain ⟨q0, q1, q2, q3, q4, q5⟩ := sec6 HH7.out; clear hh7 hb7))
                | (go_at_call 97; refine (HPW.out _).mono ?_; rintro e wu ⟨rfl, rfl⟩)
                | (go_at_call 93; refine (wFind_any HL7.out (true) 5 k 0 (by rw [List.length_append]; omega)).mono ?_; rintro e w9 ⟨rfl, fm9, fa9, fc9, hk9, hkk9⟩; have HL9 := Lib.hid (show Lk w0 w9 p l (.slice ba bm bc) (F ++ (X ++ fl (true) 5 k 0)) S G (.slice fa9 fm9 fc9) (.slice (some ⟨b2, o2, none⟩) sm sc) gv by rw [← List.append_assoc]; exact hk9); have HKK9 := Lib.hid hkk9; clear hk9 hkk9))
              have HX2 := Lib.hid (show ∀ f ∈ X ++ fl (true) 5 k 0, SecFl l S own f from fun f hf => by
                rcases List.mem_append.1 hf with hf | hf
                · exact HX.out f hf
                · obtain ⟨h1, rfl⟩ := fl_mem hf
                  exact HQ.out)
              have hx2 : (X ++ fl (true) 5 k 0).length ≤ 300 + (k + 1) := by rw [List.length_append]; have := fl_len (true) 5 k 0; omega
              go_round
              case rel => exact ⟨k + 1, _, fm9, fa9, fc9, by go_num, by omega, HL9.out, HX2.out, hx2⟩
              case measure => simp [intOf] <;> omega
            | true =>
              rw [hpw] at HPW
              have HQ := Lib.hid (fun h => HP.out (by omega) (.inr h))
              have hne : ((s.align : Int) == 0) = false := by rw [beq_eq_false_iff_ne]; omega
              clear hpw hal had HP
              go_wp2_with (first
                | ((with_reducible show wpList _ _ _ (⟨none, .store _ _ _, _, _, _, _⟩ :: _) _ _); go_must (refine wpList_storeNew rfl rfl (by kernel_rfl) rfl (by simp [Value.oneCell']) ?_; intro w7 hh7 hb7; have HH7 := Lib.hid (show w7.heap[wr.heap.size]? = some (.cells (encWS s).toArray 144 (0, 0)) from hh7); have HL7 := Lib.hid (HLR.out.mono hb7); obtain ⟨q0, q1, q2, q3, q4, q5⟩ := sec6 HH7.out; clear hh7 hb7))
                | (go_at_call 97; refine (HPW.out _).mono ?_; rintro e wu ⟨rfl, rfl⟩)
                | (go_at_call 93; refine (wFind_any HL7.out (((s.addr : Int) % (s.align : Int) != 0)) 5 k 0 (by rw [List.length_append]; omega)).mono ?_; rintro e w9 ⟨rfl, fm9, fa9, fc9, hk9, hkk9⟩; have HL9 := Lib.hid (show Lk w0 w9 p l (.slice ba bm bc) (F ++ (X ++ fl (((s.addr : Int) % (s.align : Int) != 0)) 5 k 0)) S G (.slice fa9 fm9 fc9) (.slice (some ⟨b2, o2, none⟩) sm sc) gv by rw [← List.append_assoc]; exact hk9); have HKK9 := Lib.hid hkk9; clear hk9 hkk9))
              have HX2 := Lib.hid (show ∀ f ∈ X ++ fl (((s.addr : Int) % (s.align : Int) != 0)) 5 k 0, SecFl l S own f from fun f hf => by
                rcases List.mem_append.1 hf with hf | hf
                · exact HX.out f hf
                · obtain ⟨h1, rfl⟩ := fl_mem hf
                  exact HQ.out (by intro h0; rw [show ((s.addr : Int) % (s.align : Int)) = ((s.addr % s.align : Nat) : Int) from rfl, h0] at h1; simp at h1))
              have hx2 : (X ++ fl (((s.addr : Int) % (s.align : Int) != 0)) 5 k 0).length ≤ 300 + (k + 1) := by rw [List.length_append]; have := fl_len (((s.addr : Int) % (s.align : Int) != 0)) 5 k 0; omega
              go_round
              case rel => exact ⟨k + 1, _, fm9, fa9, fc9, by go_num, by omega, HL9.out, HX2.out, hx2⟩
              case measure => simp [intOf] <;> omega
        · obtain rfl : sm = k := by omega
          go_wp2_with fail
          refine (HNAMES.out wr (F ++ X) (.slice fa fm fc) HLR.out (by rw [List.length_append]; omega)).mono ?_
          rintro e wn ⟨rfl, Xn, fmn, fan, fcn, hkn, hxn, hln⟩
          have HLN := Lib.hid (show Lk w0 wn p l (.slice ba bm bc) (F ++ (X ++ Xn)) S G (.slice fan fmn fcn) (.slice sa sm sc) gv by rw [← List.append_assoc]; exact hkn)
          have HXN := Lib.hid (show ∀ f ∈ X ++ Xn, SecFl l S own f from fun f hf => (List.mem_append.1 hf).elim (HX.out f) (hxn f))
          have hxnl : (X ++ Xn).length ≤ 900 := by rw [List.length_append]; omega
          clear hkn hxn hln hxl HLR HX
          obtain ⟨c0, c1, c2, c3⟩ := HLN.out.cells
          go_wp2
          clear c0 c1 c2 c3
          generalize X ++ Xn = XN at *
          go_loopw [6, 7, 8, 9, 75] (fun _ _ _ _ i wr => ∃ (k : Nat) (X : List FlM) (fm : Nat) (fa : Option Addr) (fc : Nat), i = .int .i64 k ∧ k ≤ sm ∧ Hid (Lk w0 wr p l (.slice ba bm bc) (F ++ X) S G (.slice fa fm fc) (.slice sa sm sc) gv) ∧ Hid (∀ f ∈ X, SecFl l S own f) ∧ X.length ≤ 900 + k * 300) (fun _ _ _ _ i _ => sm - (intOf i).toNat)
          case atStart => exact ⟨0, XN, fmn, fan, fcn, rfl, Nat.zero_le _, HLN.out, HXN.out, by omega⟩
          case round =>
            obtain ⟨k, X, fm, fa, fc, rfl, hk, HLR, HX, hxl⟩ := hrel
            by_cases hlt : k < sm
            · have HLR0 := Lib.hid HLR.out
              have X1 := Lib.hid (show S[k]? = some (S[k]'(by have := HSM.out; omega)) from List.getElem?_eq_getElem _)
              generalize S[k]'(by have := HSM.out; omega) = s at *
              have hft := HFT.out s (List.mem_of_getElem? X1.out)
              obtain ⟨b2, o2, ha2, u0, u1, u2, u3, u4, u5⟩ := row_ws HLR.out.s X1.out
              subst ha2
              go_wp2_with ((with_reducible show wpList _ _ _ (⟨none, .store _ _ _, _, _, _, _⟩ :: _) _ _); go_must (refine wpList_storeNew rfl rfl (by kernel_rfl) rfl (by simp [Value.oneCell']) ?_; intro w7 hh7 hb7; have HH7 := Lib.hid (show w7.heap[wr.heap.size]? = some (.cells (encWS s).toArray 144 (0, 0)) from hh7); have HL7 := Lib.hid (HLR.out.mono hb7); obtain ⟨q0, q1, q2, q3, q4, q5⟩ := sec6 HH7.out; clear hh7 hb7))
              clear u0 u1 u2 u3 u4 u5 q0 q1 q2 q3 q4 q5
              obtain ⟨wo, rfl⟩ : ∃ wo : World, wo = wr := ⟨_, rfl⟩
              go_loopw [8, 9] (fun i _ wx => ∃ (j : Nat) (X : List FlM) (fm : Nat) (fa : Option Addr) (fc : Nat), i = .int .i64 j ∧ k < j ∧ j ≤ sm ∧ Hid (Lk w0 wx p l (.slice ba bm bc) (F ++ X) S G (.slice fa fm fc) (.slice (some ⟨b2, o2, none⟩) sm sc) gv) ∧ Hid (∀ f ∈ X, SecFl l S own f) ∧ X.length ≤ 900 + k * 300 + j ∧ Hid (wx.heap[wo.heap.size]? = some (.cells (encWS s).toArray 144 (0, 0)))) (fun i _ _ => sm - (intOf i).toNat)
              case atStart => exact ⟨k + 1, X, fm, fa, fc, by go_num, by omega, by omega, HL7.out, HX.out, by omega, HH7.out⟩
              case round =>
                clear HL7 HH7 HX hxl HLR
                obtain ⟨j, X, fm, fa, fc, rfl, hkj, hj, HLX, HX, hxl, HHX⟩ := hrel
                obtain ⟨c0, c1, c2, c3⟩ := HLX.out.cells
                by_cases hlt2 : j < sm
                · have X2 := Lib.hid (show S[j]? = some (S[j]'(by have := HSM.out; omega)) from List.getElem?_eq_getElem _)
                  generalize S[j]'(by have := HSM.out; omega) = t at *
                  have hft2 := HFT.out t (List.mem_of_getElem? X2.out)
                  obtain ⟨b3, o3, ha3, u0, u1, u2, u3, u4, u5⟩ := row_ws HLX.out.s X2.out
                  have e1 : b2 = b3 := by injection ha3 with h1; injection h1
                  have e2 : o2 = o3 := by injection ha3 with h1; injection h1
                  subst e1 e2
                  clear ha3
                  have HP := Lib.hid (HS7.out k j s t hkj X1.out X2.out)
                  have HCM := Lib.hid (fun (wx : World) => wCommon_any s.pl s.size t.pl t.size wx hft.2.2.2.2.1 hft2.2.2.2.2.1 hft.2.2.2.2.2 hft2.2.2.2.2.2)
                  have HFS := Lib.hid (fun (wx : World) => wFull_any s wx)
                  have HFT2 := Lib.hid (fun (wx : World) => wFull_any t wx)
                  go_wp2_with ((with_reducible show wpList _ _ _ (⟨none, .store _ (.tmp 9) _, _, _, _, _⟩ :: _) _ _); go_must (refine wpList_storeNew rfl rfl (by kernel_rfl) rfl (by simp [Value.oneCell']) ?_; intro w7 hh7 hb7; have HH9 := Lib.hid (show w7.heap[wr.heap.size]? = some (.cells (encWS t).toArray 144 (0, 0)) from hh7); have HL7 := Lib.hid (HLX.out.mono hb7); have HH7 := Lib.hid (heap_below hb7 HHX.out); obtain ⟨q0, q1, q2, q3, q4, q5⟩ := sec6 HH7.out; obtain ⟨r0, r1, r2, r3, r4, r5⟩ := sec6 HH9.out; clear hh7 hb7))
                  clear u0 u1 u2 u3 u4 u5 c0 c1 c2 c3 hft2
                  refine (HFS.out _).mono ?_
                  rintro e wu ⟨rfl, hbu⟩
                  have HLU := Lib.hid (HL7.out.mono hbu)
                  have HHU := Lib.hid (heap_below hbu HH7.out)
                  have HTU := Lib.hid (heap_below hbu HH9.out)
                  clear hbu q0 q1 q2 q3 q4 q5 r0 r1 r2 r3 r4 r5
                  obtain ⟨q0, q1, q2, q3, q4, q5⟩ := sec6 HHU.out
                  obtain ⟨r0, r1, r2, r3, r4, r5⟩ := sec6 HTU.out
                  generalize fullB s = fs at *
                  cases fs with
                  | false =>
                    go_wp2_with (go_at_call 93; refine (wFind_any HLU.out (false) 7 k j (by rw [List.length_append]; omega)).mono ?_; rintro e w9 ⟨rfl, fm9, fa9, fc9, hk9, hkk9⟩; have HL9 := Lib.hid (show Lk w0 w9 p l (.slice ba bm bc) (F ++ (X ++ fl (false) 7 k j)) S G (.slice fa9 fm9 fc9) (.slice (some ⟨b2, o2, none⟩) sm sc) gv by rw [← List.append_assoc]; exact hk9); have HKK9 := Lib.hid hkk9; clear hk9 hkk9)
                    have HX2 := Lib.hid (show ∀ f ∈ X ++ fl (false) 7 k j, SecFl l S own f from fun f hf => by
                      rcases List.mem_append.1 hf with hf | hf
                      · exact HX.out f hf
                      · obtain ⟨h1, rfl⟩ := fl_mem hf
                        exact (by simp at h1))
                    have hx2 : (X ++ fl (false) 7 k j).length ≤ 900 + k * 300 + (j + 1) := by rw [List.length_append]; have := fl_len (false) 7 k j; omega
                    go_round
                    case rel => exact ⟨j + 1, _, fm9, fa9, fc9, by go_num, by omega, by omega, HL9.out, HX2.out, hx2, HKK9.out _ _ _ _ (by have := block_lt (HLR0.out.cells).1; omega) (by decide) HHU.out⟩
                    case measure => simp [intOf] <;> omega
                  | true =>
                    go_wp2_with fail
                    refine (HFT2.out _).mono ?_
                    rintro e wv ⟨rfl, hbv⟩
                    have HLV := Lib.hid (HLU.out.mono hbv)
                    have HHV := Lib.hid (heap_below hbv HHU.out)
                    have HTV := Lib.hid (heap_below hbv HTU.out)
                    clear hbv q0 q1 q2 q3 q4 q5 r0 r1 r2 r3 r4 r5
                    obtain ⟨q0, q1, q2, q3, q4, q5⟩ := sec6 HHV.out
                    obtain ⟨r0, r1, r2, r3, r4, r5⟩ := sec6 HTV.out
                    generalize fullB t = ft at *
                    cases ft with
                    | false =>
                      go_wp2_with (go_at_call 93; refine (wFind_any HLV.out (false) 7 k j (by rw [List.length_append]; omega)).mono ?_; rintro e w9 ⟨rfl, fm9, fa9, fc9, hk9, hkk9⟩; have HL9 := Lib.hid (show Lk w0 w9 p l (.slice ba bm bc) (F ++ (X ++ fl (false) 7 k j)) S G (.slice fa9 fm9 fc9) (.slice (some ⟨b2, o2, none⟩) sm sc) gv by rw [← List.append_assoc]; exact hk9); have HKK9 := Lib.hid hkk9; clear hk9 hkk9)
                      have HX2 := Lib.hid (show ∀ f ∈ X ++ fl (false) 7 k j, SecFl l S own f from fun f hf => by
                        rcases List.mem_append.1 hf with hf | hf
                        · exact HX.out f hf
                        · obtain ⟨h1, rfl⟩ := fl_mem hf
                          exact (by simp at h1))
                      have hx2 : (X ++ fl (false) 7 k j).length ≤ 900 + k * 300 + (j + 1) := by rw [List.length_append]; have := fl_len (false) 7 k j; omega
                      go_round
                      case rel => exact ⟨j + 1, _, fm9, fa9, fc9, by go_num, by omega, by omega, HL9.out, HX2.out, hx2, HKK9.out _ _ _ _ (by have := block_lt (HLR0.out.cells).1; omega) (by decide) HHV.out⟩
                      case measure => simp [intOf] <;> omega
                    | true =>
                      go_wp2_with fail
                      refine (HCM.out _).mono ?_
                      rintro e wy ⟨rfl, hby⟩
                      have HLY := Lib.hid (HLV.out.mono hby)
                      have HHY := Lib.hid (heap_below hby HHV.out)
                      clear hby q0 q1 q2 q3 q4 q5 r0 r1 r2 r3 r4 r5
                      generalize commonB s.pl s.size t.pl t.size = cm at *
                      go_wp2_with (go_at_call 93; refine (wFind_any HLY.out (cm) 7 k j (by rw [List.length_append]; omega)).mono ?_; rintro e w9 ⟨rfl, fm9, fa9, fc9, hk9, hkk9⟩; have HL9 := Lib.hid (show Lk w0 w9 p l (.slice ba bm bc) (F ++ (X ++ fl (cm) 7 k j)) S G (.slice fa9 fm9 fc9) (.slice (some ⟨b2, o2, none⟩) sm sc) gv by rw [← List.append_assoc]; exact hk9); have HKK9 := Lib.hid hkk9; clear hk9 hkk9)
                      have HX2 := Lib.hid (show ∀ f ∈ X ++ fl (cm) 7 k j, SecFl l S own f from fun f hf => by
                        rcases List.mem_append.1 hf with hf | hf
                        · exact HX.out f hf
                        · obtain ⟨h1, rfl⟩ := fl_mem hf
                          exact HP.out trivial trivial h1)
                      have hx2 : (X ++ fl (cm) 7 k j).length ≤ 900 + k * 300 + (j + 1) := by rw [List.length_append]; have := fl_len (cm) 7 k j; omega
                      go_round
                      case rel => exact ⟨j + 1, _, fm9, fa9, fc9, by go_num, by omega, by omega, HL9.out, HX2.out, hx2, HKK9.out _ _ _ _ (by have := block_lt (HLR0.out.cells).1; omega) (by decide) HHY.out⟩
                      case measure => simp [intOf] <;> omega
                · obtain rfl : j = sm := by omega
                  go_wp2
                  go_round
                  case rel => exact ⟨k + 1, X, fm, fa, fc, by go_num, by omega, HLX.out, HX.out, by omega⟩
                  case measure => simp [intOf] <;> omega
            · obtain rfl : sm = k := by omega
              go_wp2
              go_end0
              exact ⟨rfl, X, fm, fa, fc, HLR.out, HX.out, by omega⟩
end Go.Proofs.Ytimnbnomaajmmaa
namespace Go.Proofs.Ytimnbnomaajmmaa
open Go.RowKit Go.Fd
/-- Some answer of yes or no. -/
def SomeB (e : Ending) : Prop := ∃ b, e = .returned (.bool b)
/-- One flaw more, or none. -/
def Noted (w0 w' w : World) (p : Nat) (l : List UInt8) (bv : Value) (F : List FlM) (S : List WSec) (G : List WSeg) (sv gv : Value) (c : Int) : Prop :=
  ∃ Y fm fa fc, (∀ f ∈ Y, f.code = c) ∧ Y.length ≤ 1 ∧ Lk w0 w' p l bv (F ++ Y) S G (.slice fa fm fc) sv gv ∧ KeepL p w w'
theorem wNote_any {w0 w : World} {p : Nat} {l : List UInt8} {bv : Value} {F : List FlM} {S : List WSec} {G : List WSeg} {fv sv gv : Value} (h : Lk w0 w p l bv F S G fv sv gv) (is : Bool) (c a d : Int) (hF : F.length ≤ 1000000000) :
    Calls Try.prog 93 #[.pointer (some ⟨p, 0, none⟩), .bool is, .int .i64 c, .int .i64 a, .int .i64 d] w fun r w' => r = .returned (.tuple #[]) ∧ Noted w0 w' w p l bv F S G sv gv c :=
  (wFind_any h is c a d hF).mono fun _ _ ⟨h1, fm, fa, fc, h2, h3⟩ => ⟨h1, _, fm, fa, fc, (fun f hf => by obtain ⟨_, rfl⟩ := fl_mem hf; rfl), fl_len _ _ _ _, h2, h3⟩
set_option maxRecDepth 100000 in
theorem wEven_any (s : WSeg) (w : World) (hf : WSeg.fits s) : Calls Try.prog 100 #[.agg (encWG s).toArray] w fun r w' => SomeB r ∧ Below w.heap.size w w' := by
  have hal := hf.1
  obtain ⟨ty, flg, off, al, pl, ps, me, ms⟩ := s
  dsimp only at hal
  rcases Nat.eq_zero_or_pos al with h0 | h0
  · have h1 : ((al : Int) == 0) = true := by rw [h0]; rfl
    have HX := Lib.hid (And.intro h0 hal)
    clear h0 hal
    go_enter Try.func100, Try.ntmps100
    go_wp2_with ((with_reducible show wpList _ _ _ (⟨some 1, .box _ _, _, _, _, _⟩ :: _) _ _); go_must (refine wpList_box rfl ?_; intro w1 hx1 hb1 hs1; have HB1 := Lib.hid hb1; obtain ⟨c0, c1, c2, c3, c4, c5, c6, c7⟩ := seg8 (s := ⟨ty, flg, off, al, pl, ps, me, ms⟩) hx1; dsimp only at c0 c1 c2 c3 c4 c5 c6 c7; clear hx1 hb1))
    go_ret
    exact ⟨⟨_, rfl⟩, HB1.out⟩
  · have h1 : ((al : Int) == 0) = false := by rw [beq_eq_false_iff_ne]; omega
    have h2 : ((al : Int) != 0) = true := by rw [bne_iff_ne]; omega
    have HP := Lib.hid (fun (wx : World) => wPower_any al wx hal)
    have HX := Lib.hid hal
    clear hal
    generalize pow2B al = pb at *
    cases pb
    all_goals
      go_enter Try.func100, Try.ntmps100
      go_wp2_with (first
        | ((with_reducible show wpList _ _ _ (⟨some 1, .box _ _, _, _, _, _⟩ :: _) _ _); go_must (refine wpList_box rfl ?_; intro w1 hx1 hb1 hs1; have HB1 := Lib.hid hb1; obtain ⟨c0, c1, c2, c3, c4, c5, c6, c7⟩ := seg8 (s := ⟨ty, flg, off, al, pl, ps, me, ms⟩) hx1; dsimp only at c0 c1 c2 c3 c4 c5 c6 c7; clear hx1 hb1))
        | (go_at_call 97; refine (HP.out _).mono ?_; rintro e wu ⟨rfl, rfl⟩))
      go_ret
      exact ⟨⟨_, rfl⟩, HB1.out⟩
set_option maxRecDepth 100000 in
theorem wBad1_any (s t : WSeg) (w : World) (hs : WSeg.fits s) (ht : WSeg.fits t) : Calls Try.prog 102 #[.agg (encWG s).toArray, .agg (encWG t).toArray] w fun r w' => SomeB r ∧ Below w.heap.size w w' := by
  obtain ⟨ty, flg, off, al, pl, ps, me, ms⟩ := s
  obtain ⟨ty', flg', off', al', pl', ps', me', ms'⟩ := t
  have HC := Lib.hid (fun (wx : World) => wCommon_any me ms me' ms' wx hs.2.2.2.1 ht.2.2.2.1 hs.2.2.2.2 ht.2.2.2.2)
  clear hs ht
  generalize commonB me ms me' ms' = cm at *
  rcases Nat.eq_zero_or_pos ms with h0 | h0
  · have h1 : decide (0 < ms) = false := by rw [h0]; rfl
    have HX := Lib.hid h0
    clear h0
    go_enter Try.func102, Try.ntmps102
    go_wp2_with (first | ((with_reducible show wpList _ _ _ (⟨some 2, .box _ _, _, _, _, _⟩ :: _) _ _); go_must (refine wpList_box rfl ?_; intro w1 hx1 hb1 hs1; have HX1 := Lib.hid hx1; have HB1 := Lib.hid hb1; clear hx1 hb1)) | ((with_reducible show wpList _ _ _ (⟨some 3, .box _ _, _, _, _, _⟩ :: _) _ _); go_must (refine wpList_box rfl ?_; intro w2 hx2 hb2 hs2; have HB2 := Lib.hid (HB1.out.trans (hb2.mono HB1.out.size)); obtain ⟨c0, c1, c2, c3, c4, c5, c6, c7⟩ := seg8 (s := ⟨ty, flg, off, al, pl, ps, me, ms⟩) (heap_below hb2 HX1.out); obtain ⟨d0, d1, d2, d3, d4, d5, d6, d7⟩ := seg8 (s := ⟨ty', flg', off', al', pl', ps', me', ms'⟩) hx2; dsimp only at c0 c1 c2 c3 c4 c5 c6 c7 d0 d1 d2 d3 d4 d5 d6 d7; clear hx2 hb2)))
    go_ret
    exact ⟨⟨_, rfl⟩, HB2.out⟩
  · have h1 : decide (0 < ms) = true := decide_eq_true h0
    go_enter Try.func102, Try.ntmps102
    go_wp2_with (first
      | ((with_reducible show wpList _ _ _ (⟨some 2, .box _ _, _, _, _, _⟩ :: _) _ _); go_must (refine wpList_box rfl ?_; intro w1 hx1 hb1 hs1; have HX1 := Lib.hid hx1; have HB1 := Lib.hid hb1; clear hx1 hb1))
      | ((with_reducible show wpList _ _ _ (⟨some 3, .box _ _, _, _, _, _⟩ :: _) _ _); go_must (refine wpList_box rfl ?_; intro w2 hx2 hb2 hs2; have HB2 := Lib.hid (HB1.out.trans (hb2.mono HB1.out.size)); obtain ⟨c0, c1, c2, c3, c4, c5, c6, c7⟩ := seg8 (s := ⟨ty, flg, off, al, pl, ps, me, ms⟩) (heap_below hb2 HX1.out); obtain ⟨d0, d1, d2, d3, d4, d5, d6, d7⟩ := seg8 (s := ⟨ty', flg', off', al', pl', ps', me', ms'⟩) hx2; dsimp only at c0 c1 c2 c3 c4 c5 c6 c7 d0 d1 d2 d3 d4 d5 d6 d7; clear hx2 hb2))
      | (go_at_call 99; refine (HC.out _).mono ?_; rintro e wu ⟨rfl, hbu⟩; have HBU := Lib.hid (HB2.out.trans (hbu.mono HB2.out.size)); clear hbu c0 c1 c2 c3 c4 c5 c6 c7 d0 d1 d2 d3 d4 d5 d6 d7))
    go_ret
    exact ⟨⟨_, rfl⟩, HBU.out⟩
set_option maxRecDepth 100000 in
theorem wBad2_any (s t : WSeg) (w : World) : Calls Try.prog 103 #[.agg (encWG s).toArray, .agg (encWG t).toArray] w fun r w' => SomeB r ∧ Below w.heap.size w w' := by
  obtain ⟨ty, flg, off, al, pl, ps, me, ms⟩ := s
  obtain ⟨ty', flg', off', al', pl', ps', me', ms'⟩ := t
  go_enter Try.func103, Try.ntmps103
  go_wp2_with (first | ((with_reducible show wpList _ _ _ (⟨some 2, .box _ _, _, _, _, _⟩ :: _) _ _); go_must (refine wpList_box rfl ?_; intro w1 hx1 hb1 hs1; have HX1 := Lib.hid hx1; have HB1 := Lib.hid hb1; clear hx1 hb1)) | ((with_reducible show wpList _ _ _ (⟨some 3, .box _ _, _, _, _, _⟩ :: _) _ _); go_must (refine wpList_box rfl ?_; intro w2 hx2 hb2 hs2; have HB2 := Lib.hid (HB1.out.trans (hb2.mono HB1.out.size)); obtain ⟨c0, c1, c2, c3, c4, c5, c6, c7⟩ := seg8 (s := ⟨ty, flg, off, al, pl, ps, me, ms⟩) (heap_below hb2 HX1.out); obtain ⟨d0, d1, d2, d3, d4, d5, d6, d7⟩ := seg8 (s := ⟨ty', flg', off', al', pl', ps', me', ms'⟩) hx2; dsimp only at c0 c1 c2 c3 c4 c5 c6 c7 d0 d1 d2 d3 d4 d5 d6 d7; clear hx2 hb2)))
  go_ret
  exact ⟨⟨_, rfl⟩, HB2.out⟩
set_option maxHeartbeats 8000000 in
set_option maxRecDepth 100000 in
theorem wPairs1_any {w0 w : World} {p : Nat} {l : List UInt8} {bv : Value} {F : List FlM} {S : List WSec} {G : List WSeg} {fv sv : Value} {gm gc : Nat} {ga : Option Addr} (h : Lk w0 w p l bv F S G fv sv (.slice ga gm gc)) (hG : G.length ≤ 300) (hfit : ∀ s ∈ G, WSeg.fits s) (c : Int) (hF : F.length ≤ 1000000) :
    Calls Try.prog 101 #[.pointer (some ⟨p, 0, none⟩), .int .i64 c, .func (.func 102) #[] #[]] w fun r w' => r = .returned (.tuple #[]) ∧ ∃ X fm fa fc, Lk w0 w' p l bv (F ++ X) S G (.slice fa fm fc) sv (.slice ga gm gc) ∧ (∀ f ∈ X, f.code = c ∧ 0 < G.length) ∧ X.length ≤ 100000 := by
  have HFT := Lib.hid hfit
  have HGM := Lib.hid (own_len h.g)
  have hgm9 : gm ≤ 300 := by have := own_len h.g; omega
  obtain ⟨sm, sa, sc, -, rfl, _, _⟩ := h.s.shape
  obtain ⟨bm, ba, bc, -, rfl, _, _⟩ := h.b.shape
  obtain ⟨fm0, fa0, fc0, -, rfl, _, _⟩ := h.f.shape
  have HL0 := Lib.hid (show Lk w0 w p l (.slice ba bm bc) (F ++ []) S G (.slice fa0 fm0 fc0) (.slice sa sm sc) (.slice ga gm gc) by rw [List.append_nil]; exact h)
  obtain ⟨-, -, -, c3⟩ := h.cells
  clear h hfit hG
  go_enter Try.func101, Try.ntmps101
  go_wp2
  clear c3
  go_loopw [6, 7, 8, 9, 15] (fun _ _ _ _ i wr => ∃ (k : Nat) (X : List FlM) (fm : Nat) (fa : Option Addr) (fc : Nat), i = .int .i64 k ∧ k ≤ gm ∧ Hid (Lk w0 wr p l (.slice ba bm bc) (F ++ X) S G (.slice fa fm fc) (.slice sa sm sc) (.slice ga gm gc)) ∧ Hid (∀ f ∈ X, f.code = c ∧ 0 < G.length) ∧ X.length ≤ k * 300) (fun _ _ _ _ i _ => gm - (intOf i).toNat)
  case atStart => exact ⟨0, [], fm0, fa0, fc0, rfl, Nat.zero_le _, HL0.out, (fun f hf => by cases hf), by simp⟩
  case round =>
    obtain ⟨k, X, fm, fa, fc, rfl, hk, HLR, HX, hxl⟩ := hrel
    by_cases hlt : k < gm
    · have X1 := Lib.hid (show G[k]? = some (G[k]'(by have := HGM.out; omega)) from List.getElem?_eq_getElem _)
      generalize G[k]'(by have := HGM.out; omega) = s at *
      have hft := HFT.out s (List.mem_of_getElem? X1.out)
      obtain ⟨b2, o2, ha2, u0, u1, u2, u3, u4, u5, u6, u7⟩ := row_wg HLR.out.g X1.out
      subst ha2
      have HLR0 := Lib.hid HLR.out
      go_wp2_with ((with_reducible show wpList _ _ _ (⟨none, .store _ _ _, _, _, _, _⟩ :: _) _ _); go_must (refine wpList_storeNew rfl rfl (by kernel_rfl) rfl (by simp [Value.oneCell']) ?_; intro w7 hh7 hb7; have HH7 := Lib.hid (show w7.heap[wr.heap.size]? = some (.cells (encWG s).toArray 146 (0, 0)) from hh7); have HL7 := Lib.hid (HLR.out.mono hb7); clear hh7 hb7))
      clear u0 u1 u2 u3 u4 u5 u6 u7
      obtain ⟨wo, rfl⟩ : ∃ wo : World, wo = wr := ⟨_, rfl⟩
      go_loopw [8, 9] (fun i _ wx => ∃ (j : Nat) (X : List FlM) (fm : Nat) (fa : Option Addr) (fc : Nat), i = .int .i64 j ∧ k < j ∧ j ≤ gm ∧ Hid (Lk w0 wx p l (.slice ba bm bc) (F ++ X) S G (.slice fa fm fc) (.slice sa sm sc) (.slice (some ⟨b2, o2, none⟩) gm gc)) ∧ Hid (∀ f ∈ X, f.code = c ∧ 0 < G.length) ∧ X.length ≤ k * 300 + j ∧ Hid (wx.heap[wo.heap.size]? = some (.cells (encWG s).toArray 146 (0, 0)))) (fun i _ _ => gm - (intOf i).toNat)
      case atStart => exact ⟨k + 1, X, fm, fa, fc, by go_num, by omega, by omega, HL7.out, HX.out, by omega, HH7.out⟩
      case round =>
        clear HL7 HH7 HX hxl HLR
        obtain ⟨j, X, fm, fa, fc, rfl, hkj, hj, HLX, HX, hxl, HHX⟩ := hrel
        obtain ⟨c0, c1, c2, c3⟩ := HLX.out.cells
        by_cases hlt2 : j < gm
        · have X2 := Lib.hid (show G[j]? = some (G[j]'(by have := HGM.out; omega)) from List.getElem?_eq_getElem _)
          generalize G[j]'(by have := HGM.out; omega) = t at *
          have hft2 := HFT.out t (List.mem_of_getElem? X2.out)
          obtain ⟨b3, o3, ha3, u0, u1, u2, u3, u4, u5, u6, u7⟩ := row_wg HLX.out.g X2.out
          have e1 : b2 = b3 := by injection ha3 with h1; injection h1
          have e2 : o2 = o3 := by injection ha3 with h1; injection h1
          subst e1 e2
          clear ha3
          have HBAD := Lib.hid (fun (wx : World) => wBad1_any s t wx hft hft2)
          have HPOS := Lib.hid (show 0 < G.length by have := HGM.out; omega)
          clear hft hft2
          cases hq1 : ((s.typ : Int) == 1) with
          | false =>
            go_wp2_with (first
              | ((with_reducible show wpList _ _ _ (⟨none, .store _ (.tmp 9) _, _, _, _, _⟩ :: _) _ _); go_must (refine wpList_storeNew rfl rfl (by kernel_rfl) rfl (by simp [Value.oneCell']) ?_; intro w7 hh7 hb7; have HH9 := Lib.hid (show w7.heap[wr.heap.size]? = some (.cells (encWG t).toArray 146 (0, 0)) from hh7); have HL7 := Lib.hid (HLX.out.mono hb7); have HH7 := Lib.hid (heap_below hb7 HHX.out); obtain ⟨q0, q1, q2, q3, q4, q5, q6, q7⟩ := seg8 HH7.out; obtain ⟨r0, r1, r2, r3, r4, r5, r6, r7⟩ := seg8 HH9.out; clear hh7 hb7))
              | (go_at_call 93; refine (wNote_any HL7.out _ _ _ _ (by rw [List.length_append]; omega)).mono ?_; rintro e w9 ⟨rfl, Y, fm9, fa9, fc9, hY, hYl, hk9, hkk9⟩; have HL9 := Lib.hid (show Lk w0 w9 p l (.slice ba bm bc) (F ++ (X ++ Y)) S G (.slice fa9 fm9 fc9) (.slice sa sm sc) (.slice (some ⟨b2, o2, none⟩) gm gc) by rw [← List.append_assoc]; exact hk9); have HKK9 := Lib.hid hkk9; have HX2 := Lib.hid (show ∀ f ∈ X ++ Y, f.code = c ∧ 0 < G.length from fun f hf => (List.mem_append.1 hf).elim (HX.out f) (fun h => ⟨hY f h, HPOS.out⟩)); clear hk9 hkk9 hY))
            have hx2 : (X ++ Y).length ≤ k * 300 + (j + 1) := by rw [List.length_append]; omega
            go_round
            case rel => exact ⟨j + 1, _, fm9, fa9, fc9, by go_num, by omega, by omega, HL9.out, HX2.out, hx2, HKK9.out _ _ _ _ (by have := block_lt (HLR0.out.cells).1; omega) (by decide) HH7.out⟩
            case measure => simp [intOf] <;> omega
          | true =>
            cases hq2 : ((t.typ : Int) == 1) with
            | false =>
              go_wp2_with (first
                | ((with_reducible show wpList _ _ _ (⟨none, .store _ (.tmp 9) _, _, _, _, _⟩ :: _) _ _); go_must (refine wpList_storeNew rfl rfl (by kernel_rfl) rfl (by simp [Value.oneCell']) ?_; intro w7 hh7 hb7; have HH9 := Lib.hid (show w7.heap[wr.heap.size]? = some (.cells (encWG t).toArray 146 (0, 0)) from hh7); have HL7 := Lib.hid (HLX.out.mono hb7); have HH7 := Lib.hid (heap_below hb7 HHX.out); obtain ⟨q0, q1, q2, q3, q4, q5, q6, q7⟩ := seg8 HH7.out; obtain ⟨r0, r1, r2, r3, r4, r5, r6, r7⟩ := seg8 HH9.out; clear hh7 hb7))
                | (go_at_call 93; refine (wNote_any HL7.out _ _ _ _ (by rw [List.length_append]; omega)).mono ?_; rintro e w9 ⟨rfl, Y, fm9, fa9, fc9, hY, hYl, hk9, hkk9⟩; have HL9 := Lib.hid (show Lk w0 w9 p l (.slice ba bm bc) (F ++ (X ++ Y)) S G (.slice fa9 fm9 fc9) (.slice sa sm sc) (.slice (some ⟨b2, o2, none⟩) gm gc) by rw [← List.append_assoc]; exact hk9); have HKK9 := Lib.hid hkk9; have HX2 := Lib.hid (show ∀ f ∈ X ++ Y, f.code = c ∧ 0 < G.length from fun f hf => (List.mem_append.1 hf).elim (HX.out f) (fun h => ⟨hY f h, HPOS.out⟩)); clear hk9 hkk9 hY))
              have hx2 : (X ++ Y).length ≤ k * 300 + (j + 1) := by rw [List.length_append]; omega
              go_round
              case rel => exact ⟨j + 1, _, fm9, fa9, fc9, by go_num, by omega, by omega, HL9.out, HX2.out, hx2, HKK9.out _ _ _ _ (by have := block_lt (HLR0.out.cells).1; omega) (by decide) HH7.out⟩
              case measure => simp [intOf] <;> omega
            | true =>
              go_wp2_with (first
                | ((with_reducible show wpList _ _ _ (⟨none, .store _ (.tmp 9) _, _, _, _, _⟩ :: _) _ _); go_must (refine wpList_storeNew rfl rfl (by kernel_rfl) rfl (by simp [Value.oneCell']) ?_; intro w7 hh7 hb7; have HH9 := Lib.hid (show w7.heap[wr.heap.size]? = some (.cells (encWG t).toArray 146 (0, 0)) from hh7); have HL7 := Lib.hid (HLX.out.mono hb7); have HH7 := Lib.hid (heap_below hb7 HHX.out); obtain ⟨q0, q1, q2, q3, q4, q5, q6, q7⟩ := seg8 HH7.out; obtain ⟨r0, r1, r2, r3, r4, r5, r6, r7⟩ := seg8 HH9.out; clear hh7 hb7))
                | (go_at_call 102; refine (HBAD.out _).mono ?_; rintro e wu ⟨⟨bb, rfl⟩, hbu⟩; have HLU := Lib.hid (HL7.out.mono hbu); have HHU := Lib.hid (heap_below hbu HH7.out); clear hbu q0 q1 q2 q3 q4 q5 q6 q7 r0 r1 r2 r3 r4 r5 r6 r7)
                | (go_at_call 93; refine (wNote_any HLU.out _ _ _ _ (by rw [List.length_append]; omega)).mono ?_; rintro e w9 ⟨rfl, Y, fm9, fa9, fc9, hY, hYl, hk9, hkk9⟩; have HL9 := Lib.hid (show Lk w0 w9 p l (.slice ba bm bc) (F ++ (X ++ Y)) S G (.slice fa9 fm9 fc9) (.slice sa sm sc) (.slice (some ⟨b2, o2, none⟩) gm gc) by rw [← List.append_assoc]; exact hk9); have HKK9 := Lib.hid hkk9; have HX2 := Lib.hid (show ∀ f ∈ X ++ Y, f.code = c ∧ 0 < G.length from fun f hf => (List.mem_append.1 hf).elim (HX.out f) (fun h => ⟨hY f h, HPOS.out⟩)); clear hk9 hkk9 hY))
              have hx2 : (X ++ Y).length ≤ k * 300 + (j + 1) := by rw [List.length_append]; omega
              go_round
              case rel => exact ⟨j + 1, _, fm9, fa9, fc9, by go_num, by omega, by omega, HL9.out, HX2.out, hx2, HKK9.out _ _ _ _ (by have := block_lt (HLR0.out.cells).1; omega) (by decide) HHU.out⟩
              case measure => simp [intOf] <;> omega
        · obtain rfl : j = gm := by omega
          go_wp2
          go_round
          case rel => exact ⟨k + 1, X, fm, fa, fc, by go_num, by omega, HLX.out, HX.out, by omega⟩
          case measure => simp [intOf] <;> omega
    · obtain rfl : gm = k := by omega
      go_wp2
      go_end0
      exact ⟨rfl, X, fm, fa, fc, HLR.out, HX.out, by omega⟩
set_option maxHeartbeats 8000000 in
set_option maxRecDepth 100000 in
theorem wPairs2_any {w0 w : World} {p : Nat} {l : List UInt8} {bv : Value} {F : List FlM} {S : List WSec} {G : List WSeg} {fv sv : Value} {gm gc : Nat} {ga : Option Addr} (h : Lk w0 w p l bv F S G fv sv (.slice ga gm gc)) (hG : G.length ≤ 300) (hfit : ∀ s ∈ G, WSeg.fits s) (c : Int) (hF : F.length ≤ 1000000) :
    Calls Try.prog 101 #[.pointer (some ⟨p, 0, none⟩), .int .i64 c, .func (.func 103) #[] #[]] w fun r w' => r = .returned (.tuple #[]) ∧ ∃ X fm fa fc, Lk w0 w' p l bv (F ++ X) S G (.slice fa fm fc) sv (.slice ga gm gc) ∧ (∀ f ∈ X, f.code = c ∧ 0 < G.length) ∧ X.length ≤ 100000 := by
  have HFT := Lib.hid hfit
  have HGM := Lib.hid (own_len h.g)
  have hgm9 : gm ≤ 300 := by have := own_len h.g; omega
  obtain ⟨sm, sa, sc, -, rfl, _, _⟩ := h.s.shape
  obtain ⟨bm, ba, bc, -, rfl, _, _⟩ := h.b.shape
  obtain ⟨fm0, fa0, fc0, -, rfl, _, _⟩ := h.f.shape
  have HL0 := Lib.hid (show Lk w0 w p l (.slice ba bm bc) (F ++ []) S G (.slice fa0 fm0 fc0) (.slice sa sm sc) (.slice ga gm gc) by rw [List.append_nil]; exact h)
  obtain ⟨-, -, -, c3⟩ := h.cells
  clear h hfit hG
  go_enter Try.func101, Try.ntmps101
  go_wp2
  clear c3
  go_loopw [6, 7, 8, 9, 15] (fun _ _ _ _ i wr => ∃ (k : Nat) (X : List FlM) (fm : Nat) (fa : Option Addr) (fc : Nat), i = .int .i64 k ∧ k ≤ gm ∧ Hid (Lk w0 wr p l (.slice ba bm bc) (F ++ X) S G (.slice fa fm fc) (.slice sa sm sc) (.slice ga gm gc)) ∧ Hid (∀ f ∈ X, f.code = c ∧ 0 < G.length) ∧ X.length ≤ k * 300) (fun _ _ _ _ i _ => gm - (intOf i).toNat)
  case atStart => exact ⟨0, [], fm0, fa0, fc0, rfl, Nat.zero_le _, HL0.out, (fun f hf => by cases hf), by simp⟩
  case round =>
    obtain ⟨k, X, fm, fa, fc, rfl, hk, HLR, HX, hxl⟩ := hrel
    by_cases hlt : k < gm
    · have X1 := Lib.hid (show G[k]? = some (G[k]'(by have := HGM.out; omega)) from List.getElem?_eq_getElem _)
      generalize G[k]'(by have := HGM.out; omega) = s at *
      have hft := HFT.out s (List.mem_of_getElem? X1.out)
      obtain ⟨b2, o2, ha2, u0, u1, u2, u3, u4, u5, u6, u7⟩ := row_wg HLR.out.g X1.out
      subst ha2
      have HLR0 := Lib.hid HLR.out
      go_wp2_with ((with_reducible show wpList _ _ _ (⟨none, .store _ _ _, _, _, _, _⟩ :: _) _ _); go_must (refine wpList_storeNew rfl rfl (by kernel_rfl) rfl (by simp [Value.oneCell']) ?_; intro w7 hh7 hb7; have HH7 := Lib.hid (show w7.heap[wr.heap.size]? = some (.cells (encWG s).toArray 146 (0, 0)) from hh7); have HL7 := Lib.hid (HLR.out.mono hb7); clear hh7 hb7))
      clear u0 u1 u2 u3 u4 u5 u6 u7
      obtain ⟨wo, rfl⟩ : ∃ wo : World, wo = wr := ⟨_, rfl⟩
      go_loopw [8, 9] (fun i _ wx => ∃ (j : Nat) (X : List FlM) (fm : Nat) (fa : Option Addr) (fc : Nat), i = .int .i64 j ∧ k < j ∧ j ≤ gm ∧ Hid (Lk w0 wx p l (.slice ba bm bc) (F ++ X) S G (.slice fa fm fc) (.slice sa sm sc) (.slice (some ⟨b2, o2, none⟩) gm gc)) ∧ Hid (∀ f ∈ X, f.code = c ∧ 0 < G.length) ∧ X.length ≤ k * 300 + j ∧ Hid (wx.heap[wo.heap.size]? = some (.cells (encWG s).toArray 146 (0, 0)))) (fun i _ _ => gm - (intOf i).toNat)
      case atStart => exact ⟨k + 1, X, fm, fa, fc, by go_num, by omega, by omega, HL7.out, HX.out, by omega, HH7.out⟩
      case round =>
        clear HL7 HH7 HX hxl HLR
        obtain ⟨j, X, fm, fa, fc, rfl, hkj, hj, HLX, HX, hxl, HHX⟩ := hrel
        obtain ⟨c0, c1, c2, c3⟩ := HLX.out.cells
        by_cases hlt2 : j < gm
        · have X2 := Lib.hid (show G[j]? = some (G[j]'(by have := HGM.out; omega)) from List.getElem?_eq_getElem _)
          generalize G[j]'(by have := HGM.out; omega) = t at *
          have hft2 := HFT.out t (List.mem_of_getElem? X2.out)
          obtain ⟨b3, o3, ha3, u0, u1, u2, u3, u4, u5, u6, u7⟩ := row_wg HLX.out.g X2.out
          have e1 : b2 = b3 := by injection ha3 with h1; injection h1
          have e2 : o2 = o3 := by injection ha3 with h1; injection h1
          subst e1 e2
          clear ha3
          have HBAD := Lib.hid (fun (wx : World) => wBad2_any s t wx)
          have HPOS := Lib.hid (show 0 < G.length by have := HGM.out; omega)
          clear hft hft2
          cases hq1 : ((s.typ : Int) == 1) with
          | false =>
            go_wp2_with (first
              | ((with_reducible show wpList _ _ _ (⟨none, .store _ (.tmp 9) _, _, _, _, _⟩ :: _) _ _); go_must (refine wpList_storeNew rfl rfl (by kernel_rfl) rfl (by simp [Value.oneCell']) ?_; intro w7 hh7 hb7; have HH9 := Lib.hid (show w7.heap[wr.heap.size]? = some (.cells (encWG t).toArray 146 (0, 0)) from hh7); have HL7 := Lib.hid (HLX.out.mono hb7); have HH7 := Lib.hid (heap_below hb7 HHX.out); obtain ⟨q0, q1, q2, q3, q4, q5, q6, q7⟩ := seg8 HH7.out; obtain ⟨r0, r1, r2, r3, r4, r5, r6, r7⟩ := seg8 HH9.out; clear hh7 hb7))
              | (go_at_call 93; refine (wNote_any HL7.out _ _ _ _ (by rw [List.length_append]; omega)).mono ?_; rintro e w9 ⟨rfl, Y, fm9, fa9, fc9, hY, hYl, hk9, hkk9⟩; have HL9 := Lib.hid (show Lk w0 w9 p l (.slice ba bm bc) (F ++ (X ++ Y)) S G (.slice fa9 fm9 fc9) (.slice sa sm sc) (.slice (some ⟨b2, o2, none⟩) gm gc) by rw [← List.append_assoc]; exact hk9); have HKK9 := Lib.hid hkk9; have HX2 := Lib.hid (show ∀ f ∈ X ++ Y, f.code = c ∧ 0 < G.length from fun f hf => (List.mem_append.1 hf).elim (HX.out f) (fun h => ⟨hY f h, HPOS.out⟩)); clear hk9 hkk9 hY))
            have hx2 : (X ++ Y).length ≤ k * 300 + (j + 1) := by rw [List.length_append]; omega
            go_round
            case rel => exact ⟨j + 1, _, fm9, fa9, fc9, by go_num, by omega, by omega, HL9.out, HX2.out, hx2, HKK9.out _ _ _ _ (by have := block_lt (HLR0.out.cells).1; omega) (by decide) HH7.out⟩
            case measure => simp [intOf] <;> omega
          | true =>
            cases hq2 : ((t.typ : Int) == 1) with
            | false =>
              go_wp2_with (first
                | ((with_reducible show wpList _ _ _ (⟨none, .store _ (.tmp 9) _, _, _, _, _⟩ :: _) _ _); go_must (refine wpList_storeNew rfl rfl (by kernel_rfl) rfl (by simp [Value.oneCell']) ?_; intro w7 hh7 hb7; have HH9 := Lib.hid (show w7.heap[wr.heap.size]? = some (.cells (encWG t).toArray 146 (0, 0)) from hh7); have HL7 := Lib.hid (HLX.out.mono hb7); have HH7 := Lib.hid (heap_below hb7 HHX.out); obtain ⟨q0, q1, q2, q3, q4, q5, q6, q7⟩ := seg8 HH7.out; obtain ⟨r0, r1, r2, r3, r4, r5, r6, r7⟩ := seg8 HH9.out; clear hh7 hb7))
                | (go_at_call 93; refine (wNote_any HL7.out _ _ _ _ (by rw [List.length_append]; omega)).mono ?_; rintro e w9 ⟨rfl, Y, fm9, fa9, fc9, hY, hYl, hk9, hkk9⟩; have HL9 := Lib.hid (show Lk w0 w9 p l (.slice ba bm bc) (F ++ (X ++ Y)) S G (.slice fa9 fm9 fc9) (.slice sa sm sc) (.slice (some ⟨b2, o2, none⟩) gm gc) by rw [← List.append_assoc]; exact hk9); have HKK9 := Lib.hid hkk9; have HX2 := Lib.hid (show ∀ f ∈ X ++ Y, f.code = c ∧ 0 < G.length from fun f hf => (List.mem_append.1 hf).elim (HX.out f) (fun h => ⟨hY f h, HPOS.out⟩)); clear hk9 hkk9 hY))
              have hx2 : (X ++ Y).length ≤ k * 300 + (j + 1) := by rw [List.length_append]; omega
              go_round
              case rel => exact ⟨j + 1, _, fm9, fa9, fc9, by go_num, by omega, by omega, HL9.out, HX2.out, hx2, HKK9.out _ _ _ _ (by have := block_lt (HLR0.out.cells).1; omega) (by decide) HH7.out⟩
              case measure => simp [intOf] <;> omega
            | true =>
              go_wp2_with (first
                | ((with_reducible show wpList _ _ _ (⟨none, .store _ (.tmp 9) _, _, _, _, _⟩ :: _) _ _); go_must (refine wpList_storeNew rfl rfl (by kernel_rfl) rfl (by simp [Value.oneCell']) ?_; intro w7 hh7 hb7; have HH9 := Lib.hid (show w7.heap[wr.heap.size]? = some (.cells (encWG t).toArray 146 (0, 0)) from hh7); have HL7 := Lib.hid (HLX.out.mono hb7); have HH7 := Lib.hid (heap_below hb7 HHX.out); obtain ⟨q0, q1, q2, q3, q4, q5, q6, q7⟩ := seg8 HH7.out; obtain ⟨r0, r1, r2, r3, r4, r5, r6, r7⟩ := seg8 HH9.out; clear hh7 hb7))
                | (go_at_call 103; refine (HBAD.out _).mono ?_; rintro e wu ⟨⟨bb, rfl⟩, hbu⟩; have HLU := Lib.hid (HL7.out.mono hbu); have HHU := Lib.hid (heap_below hbu HH7.out); clear hbu q0 q1 q2 q3 q4 q5 q6 q7 r0 r1 r2 r3 r4 r5 r6 r7)
                | (go_at_call 93; refine (wNote_any HLU.out _ _ _ _ (by rw [List.length_append]; omega)).mono ?_; rintro e w9 ⟨rfl, Y, fm9, fa9, fc9, hY, hYl, hk9, hkk9⟩; have HL9 := Lib.hid (show Lk w0 w9 p l (.slice ba bm bc) (F ++ (X ++ Y)) S G (.slice fa9 fm9 fc9) (.slice sa sm sc) (.slice (some ⟨b2, o2, none⟩) gm gc) by rw [← List.append_assoc]; exact hk9); have HKK9 := Lib.hid hkk9; have HX2 := Lib.hid (show ∀ f ∈ X ++ Y, f.code = c ∧ 0 < G.length from fun f hf => (List.mem_append.1 hf).elim (HX.out f) (fun h => ⟨hY f h, HPOS.out⟩)); clear hk9 hkk9 hY))
              have hx2 : (X ++ Y).length ≤ k * 300 + (j + 1) := by rw [List.length_append]; omega
              go_round
              case rel => exact ⟨j + 1, _, fm9, fa9, fc9, by go_num, by omega, by omega, HL9.out, HX2.out, hx2, HKK9.out _ _ _ _ (by have := block_lt (HLR0.out.cells).1; omega) (by decide) HHU.out⟩
              case measure => simp [intOf] <;> omega
        · obtain rfl : j = gm := by omega
          go_wp2
          go_round
          case rel => exact ⟨k + 1, X, fm, fa, fc, by go_num, by omega, HLX.out, HX.out, by omega⟩
          case measure => simp [intOf] <;> omega
    · obtain rfl : gm = k := by omega
      go_wp2
      go_end0
      exact ⟨rfl, X, fm, fa, fc, HLR.out, HX.out, by omega⟩
end Go.Proofs.Ytimnbnomaajmmaa
namespace Go.Proofs.Ytimnbnomaajmmaa
open Go.RowKit Go.Fd
attribute [local irreducible] walk
set_option maxHeartbeats 8000000 in
set_option maxRecDepth 100000 in
theorem wSegments_any {w0 w : World} {p : Nat} {l : List UInt8} {bv : Value} {F : List FlM} {S : List WSec} {G : List WSeg} {fv sv : Value} {gm gc : Nat} {ga : Option Addr} (h : Lk w0 w p l bv F S G fv sv (.slice ga gm gc)) (hl : l.length ≤ 1000000000) (hG : G.length ≤ 300) (hfit : ∀ s ∈ G, WSeg.fits s) (hF : F.length ≤ 500000) :
    Calls Try.prog 76 #[.pointer (some ⟨p, 0, none⟩)] w fun r w' => r = .returned (.tuple #[]) ∧ ∃ X fm fa fc, Lk w0 w' p l bv (F ++ X) S G (.slice fa fm fc) sv (.slice ga gm gc) ∧ (∀ f ∈ X, f.code ≥ 8 ∧ (0 < G.length ∨ gN l 16 2 = 2)) := by
  have HFT := Lib.hid hfit
  have HGM := Lib.hid (own_len h.g)
  have HG := Lib.hid hG
  have hgm9 : gm ≤ 300 := by have := own_len h.g; omega
  have HL9 := Lib.hid hl
  obtain ⟨sm, sa, sc, -, rfl, _, _⟩ := h.s.shape
  obtain ⟨bm, ba, bc, hbm, rfl, _, _⟩ := h.b.shape
  have hbm9 : bm ≤ 1000000000 := by have := hbm.out; omega
  obtain ⟨fm0, fa0, fc0, -, rfl, _, _⟩ := h.f.shape
  have HL0 := Lib.hid (show Lk w0 w p l (.slice ba bm bc) (F ++ []) S G (.slice fa0 fm0 fc0) (.slice sa sm sc) (.slice ga gm gc) by rw [List.append_nil]; exact h)
  obtain ⟨-, -, -, c3⟩ := h.cells
  have HB24 := Lib.hid (gN8 l 24)
  have hty9 := gN2 l 16
  generalize hty : gN l 16 2 = ty at *
  have HTY := Lib.hid hty
  clear h hfit hl hG hty
  go_enter Try.func76, Try.ntmps76
  go_wp2
  clear c3
  go_loopw [2, 3, 16] (fun _ _ i wr => ∃ (k : Nat) (X : List FlM) (fm : Nat) (fa : Option Addr) (fc : Nat), i = .int .i64 k ∧ k ≤ gm ∧ Hid (Lk w0 wr p l (.slice ba bm bc) (F ++ X) S G (.slice fa fm fc) (.slice sa sm sc) (.slice ga gm gc)) ∧ Hid (∀ f ∈ X, f.code ≥ 8 ∧ (0 < G.length ∨ ty = 2)) ∧ X.length ≤ k) (fun _ _ i _ => gm - (intOf i).toNat)
  case atStart => exact ⟨0, [], fm0, fa0, fc0, rfl, Nat.zero_le _, HL0.out, (fun f hf => by cases hf), by simp⟩
  case round =>
    obtain ⟨k, X, fm, fa, fc, rfl, hk, HLR, HX, hxl⟩ := hrel
    by_cases hlt : k < gm
    · have X1 := Lib.hid (show G[k]? = some (G[k]'(by have := HGM.out; omega)) from List.getElem?_eq_getElem _)
      generalize G[k]'(by have := HGM.out; omega) = s at *
      have hft := HFT.out s (List.mem_of_getElem? X1.out)
      have HPOS := Lib.hid (show 0 < G.length by have := HGM.out; omega)
      obtain ⟨b2, o2, ha2, u0, u1, u2, u3, u4, u5, u6, u7⟩ := row_wg HLR.out.g X1.out
      subst ha2
      have HWI := Lib.hid (fun (wx : World) => wWithin_any s.pl s.psize bm wx hft.2.1 hft.2.2.1 hbm9)
      clear hft
      generalize withinB s.pl s.psize bm = wi at *
      go_wp2_with ((with_reducible show wpList _ _ _ (⟨none, .store _ _ _, _, _, _, _⟩ :: _) _ _); go_must (refine wpList_storeNew rfl rfl (by kernel_rfl) rfl (by simp [Value.oneCell']) ?_; intro w7 hh7 hb7; have HH7 := Lib.hid (show w7.heap[wr.heap.size]? = some (.cells (encWG s).toArray 146 (0, 0)) from hh7); have HL7 := Lib.hid (HLR.out.mono hb7); obtain ⟨q0, q1, q2, q3, q4, q5, q6, q7⟩ := seg8 HH7.out; clear hh7 hb7))
      obtain ⟨c0, -, -, -⟩ := HL7.out.cells
      clear u0 u1 u2 u3 u4 u5 u6 u7
      have hAB := fun (x : Above w7) (b k : Nat) (h : b < w7.heap.size) => Above.cell x b k h
      have l1 := block_lt c0
      have l2 := block_lt q0
      cases wi with
      | false =>
        refine wp_region_walk 20 [(8, .is (.bool false))] (by kernel_rfl) (by kernel_rfl) ?_
        simp only [List.take_succ_cons, List.take_zero, List.drop_succ_cons, List.drop_zero]
        try go_frame
        repeat (first
          | (refine walk_quiet rfl rfl rfl ?_; intro K hK; go_big_quiet_op; go_big_quiet_on)
          | (refine walk_skip rfl ?_; go_frame)
          | (refine walk_check rfl rfl rfl ?_; go_frame))
        refine walk_is rfl rfl (fun wx hwx _ => WpYld.callIsB (run_callL (vals := [_, _]) Try.func95 (by kernel_rfl) rfl rfl) (HWI.out wx)) ?_
        go_frame
        repeat (first
          | (refine walk_quiet rfl rfl rfl ?_; intro K hK; go_big_quiet_op; go_big_quiet_on)
          | (refine walk_skip rfl ?_; go_frame)
          | (refine walk_check rfl rfl rfl ?_; go_frame))
        refine walk_nil ?_
        intro w8 hb8 hF8
        have HL8 := Lib.hid (HL7.out.mono hb8)
        clear hF8 hb8 hAB l1 l2 c0 q0 q1 q2 q3 q4 q5 q6 q7
        go_wp2_with (go_at_call 93; refine (wNote_any HL8.out _ _ _ _ (by rw [List.length_append]; omega)).mono ?_; rintro e w9 ⟨rfl, Y, fm9, fa9, fc9, hY, hYl, hk9, hkk9⟩; have HL9 := Lib.hid (show Lk w0 w9 p l (.slice ba bm bc) (F ++ (X ++ Y)) S G (.slice fa9 fm9 fc9) (.slice sa sm sc) (.slice (some ⟨b2, o2, none⟩) gm gc) by rw [← List.append_assoc]; exact hk9); have HX2 := Lib.hid (show ∀ f ∈ X ++ Y, f.code ≥ 8 ∧ (0 < G.length ∨ ty = 2) from fun f hf => (List.mem_append.1 hf).elim (HX.out f) (fun h => ⟨by rw [hY f h]; decide, .inl HPOS.out⟩)); clear hk9 hkk9 hY)
        have hx2 : (X ++ Y).length ≤ k + 1 := by rw [List.length_append]; omega
        go_round
        case rel => exact ⟨k + 1, _, fm9, fa9, fc9, by go_num, by omega, HL9.out, HX2.out, hx2⟩
        case measure => simp [intOf] <;> omega
      | true =>
        refine wp_region_walk 20 [(8, .is (.bool true))] (by kernel_rfl) (by kernel_rfl) ?_
        simp only [List.take_succ_cons, List.take_zero, List.drop_succ_cons, List.drop_zero]
        try go_frame
        repeat (first
          | (refine walk_quiet rfl rfl rfl ?_; intro K hK; go_big_quiet_op; go_big_quiet_on)
          | (refine walk_skip rfl ?_; go_frame)
          | (refine walk_check rfl rfl rfl ?_; go_frame))
        refine walk_is rfl rfl (fun wx hwx _ => WpYld.callIsB (run_callL (vals := [_, _]) Try.func95 (by kernel_rfl) rfl rfl) (HWI.out wx)) ?_
        go_frame
        repeat (first
          | (refine walk_quiet rfl rfl rfl ?_; intro K hK; go_big_quiet_op; go_big_quiet_on)
          | (refine walk_skip rfl ?_; go_frame)
          | (refine walk_check rfl rfl rfl ?_; go_frame))
        refine walk_nil ?_
        intro w8 hb8 hF8
        have HL8 := Lib.hid (HL7.out.mono hb8)
        clear hF8 hb8 hAB l1 l2 c0 q0 q1 q2 q3 q4 q5 q6 q7
        go_wp2_with (go_at_call 93; refine (wNote_any HL8.out _ _ _ _ (by rw [List.length_append]; omega)).mono ?_; rintro e w9 ⟨rfl, Y, fm9, fa9, fc9, hY, hYl, hk9, hkk9⟩; have HL9 := Lib.hid (show Lk w0 w9 p l (.slice ba bm bc) (F ++ (X ++ Y)) S G (.slice fa9 fm9 fc9) (.slice sa sm sc) (.slice (some ⟨b2, o2, none⟩) gm gc) by rw [← List.append_assoc]; exact hk9); have HX2 := Lib.hid (show ∀ f ∈ X ++ Y, f.code ≥ 8 ∧ (0 < G.length ∨ ty = 2) from fun f hf => (List.mem_append.1 hf).elim (HX.out f) (fun h => ⟨by rw [hY f h]; decide, .inl HPOS.out⟩)); clear hk9 hkk9 hY)
        have hx2 : (X ++ Y).length ≤ k + 1 := by rw [List.length_append]; omega
        go_round
        case rel => exact ⟨k + 1, _, fm9, fa9, fc9, by go_num, by omega, HL9.out, HX2.out, hx2⟩
        case measure => simp [intOf] <;> omega
    · obtain rfl : gm = k := by omega
      obtain ⟨-, -, -, c3⟩ := HLR.out.cells
      go_wp2
      clear c3
      have HLS := Lib.hid HLR.out
      obtain ⟨wo, rfl⟩ : ∃ wo : World, wo = wr := ⟨_, rfl⟩
      go_loopw [4, 5, 48] (fun _ _ i wr => ∃ (k : Nat) (X : List FlM) (fm : Nat) (fa : Option Addr) (fc : Nat), i = .int .i64 k ∧ k ≤ gm ∧ Hid (Lk w0 wr p l (.slice ba bm bc) (F ++ X) S G (.slice fa fm fc) (.slice sa sm sc) (.slice ga gm gc)) ∧ Hid (∀ f ∈ X, f.code ≥ 8 ∧ (0 < G.length ∨ ty = 2)) ∧ X.length ≤ 300 + k) (fun _ _ i _ => gm - (intOf i).toNat)
      case atStart => exact ⟨0, X, fm, fa, fc, rfl, Nat.zero_le _, HLS.out, HX.out, by omega⟩
      case round =>
        clear HLS HX hxl hk hlt HLR
        obtain ⟨k, X, fm, fa, fc, rfl, hk, HLR, HX, hxl⟩ := hrel
        by_cases hlt : k < gm
        · have X1 := Lib.hid (show G[k]? = some (G[k]'(by have := HGM.out; omega)) from List.getElem?_eq_getElem _)
          generalize G[k]'(by have := HGM.out; omega) = s at *
          have hft := HFT.out s (List.mem_of_getElem? X1.out)
          have HPOS := Lib.hid (show 0 < G.length by have := HGM.out; omega)
          obtain ⟨b2, o2, ha2, u0, u1, u2, u3, u4, u5, u6, u7⟩ := row_wg HLR.out.g X1.out
          subst ha2
          have HEV := Lib.hid (fun (wx : World) => wEven_any s wx hft)
          clear hft
          cases hq1 : ((s.typ : Int) == 1) with
          | false =>
            go_wp2_with (first
              | ((with_reducible show wpList _ _ _ (⟨none, .store _ _ _, _, _, _, _⟩ :: _) _ _); go_must (refine wpList_storeNew rfl rfl (by kernel_rfl) rfl (by simp [Value.oneCell']) ?_; intro w7 hh7 hb7; have HH7 := Lib.hid (show w7.heap[wr.heap.size]? = some (.cells (encWG s).toArray 146 (0, 0)) from hh7); have HL7 := Lib.hid (HLR.out.mono hb7); obtain ⟨q0, q1, q2, q3, q4, q5, q6, q7⟩ := seg8 HH7.out; clear hh7 hb7))
              | (go_at_call 93; refine (wNote_any HL7.out _ _ _ _ (by rw [List.length_append]; omega)).mono ?_; rintro e w9 ⟨rfl, Y, fm9, fa9, fc9, hY, hYl, hk9, hkk9⟩; have HL9 := Lib.hid (show Lk w0 w9 p l (.slice ba bm bc) (F ++ (X ++ Y)) S G (.slice fa9 fm9 fc9) (.slice sa sm sc) (.slice (some ⟨b2, o2, none⟩) gm gc) by rw [← List.append_assoc]; exact hk9); have HX2 := Lib.hid (show ∀ f ∈ X ++ Y, f.code ≥ 8 ∧ (0 < G.length ∨ ty = 2) from fun f hf => (List.mem_append.1 hf).elim (HX.out f) (fun h => ⟨by rw [hY f h]; decide, .inl HPOS.out⟩)); clear hk9 hkk9 hY))
            have hx2 : (X ++ Y).length ≤ 300 + (k + 1) := by rw [List.length_append]; omega
            go_round
            case rel => exact ⟨k + 1, _, fm9, fa9, fc9, by go_num, by omega, HL9.out, HX2.out, hx2⟩
            case measure => simp [intOf] <;> omega
          | true =>
            go_wp2_with (first
              | ((with_reducible show wpList _ _ _ (⟨none, .store _ _ _, _, _, _, _⟩ :: _) _ _); go_must (refine wpList_storeNew rfl rfl (by kernel_rfl) rfl (by simp [Value.oneCell']) ?_; intro w7 hh7 hb7; have HH7 := Lib.hid (show w7.heap[wr.heap.size]? = some (.cells (encWG s).toArray 146 (0, 0)) from hh7); have HL7 := Lib.hid (HLR.out.mono hb7); obtain ⟨q0, q1, q2, q3, q4, q5, q6, q7⟩ := seg8 HH7.out; clear hh7 hb7))
              | (go_at_call 100; refine (HEV.out _).mono ?_; rintro e wu ⟨⟨bb, rfl⟩, hbu⟩; have HLU := Lib.hid (HL7.out.mono hbu); clear hbu q0 q1 q2 q3 q4 q5 q6 q7)
              | (go_at_call 93; refine (wNote_any HLU.out _ _ _ _ (by rw [List.length_append]; omega)).mono ?_; rintro e w9 ⟨rfl, Y, fm9, fa9, fc9, hY, hYl, hk9, hkk9⟩; have HL9 := Lib.hid (show Lk w0 w9 p l (.slice ba bm bc) (F ++ (X ++ Y)) S G (.slice fa9 fm9 fc9) (.slice sa sm sc) (.slice (some ⟨b2, o2, none⟩) gm gc) by rw [← List.append_assoc]; exact hk9); have HX2 := Lib.hid (show ∀ f ∈ X ++ Y, f.code ≥ 8 ∧ (0 < G.length ∨ ty = 2) from fun f hf => (List.mem_append.1 hf).elim (HX.out f) (fun h => ⟨by rw [hY f h]; decide, .inl HPOS.out⟩)); clear hk9 hkk9 hY))
            have hx2 : (X ++ Y).length ≤ 300 + (k + 1) := by rw [List.length_append]; omega
            go_round
            case rel => exact ⟨k + 1, _, fm9, fa9, fc9, by go_num, by omega, HL9.out, HX2.out, hx2⟩
            case measure => simp [intOf] <;> omega
        · obtain rfl : gm = k := by omega
          go_wp2_with fail
          refine (wPairs1_any HLR.out HG.out HFT.out 10 (by rw [List.length_append]; omega)).mono ?_
          rintro e wn ⟨rfl, Xn, fmn, fan, fcn, hkn, hxn, hln⟩
          have HLN := Lib.hid (show Lk w0 wn p l (.slice ba bm bc) (F ++ (X ++ Xn)) S G (.slice fan fmn fcn) (.slice sa sm sc) (.slice ga gm gc) by rw [← List.append_assoc]; exact hkn)
          have HXN := Lib.hid (show ∀ f ∈ X ++ Xn, f.code ≥ 8 ∧ (0 < G.length ∨ ty = 2) from fun f hf => (List.mem_append.1 hf).elim (HX.out f) (fun h => ⟨by rw [(hxn f h).1]; decide, .inl (hxn f h).2⟩))
          have hxnl : (X ++ Xn).length ≤ 100600 := by rw [List.length_append]; omega
          clear hkn hxn hln hxl HLR HX
          obtain ⟨-, -, -, c3⟩ := HLN.out.cells
          go_wp2
          clear c3
          generalize X ++ Xn = XN at *
          go_loopw [6, 7, 72] (fun _ _ i wr => ∃ (k : Nat) (X : List FlM) (fm : Nat) (fa : Option Addr) (fc : Nat), i = .int .i64 k ∧ k ≤ gm ∧ Hid (Lk w0 wr p l (.slice ba bm bc) (F ++ X) S G (.slice fa fm fc) (.slice sa sm sc) (.slice ga gm gc)) ∧ Hid (∀ f ∈ X, f.code ≥ 8 ∧ (0 < G.length ∨ ty = 2)) ∧ X.length ≤ 100600 + k) (fun _ _ i _ => gm - (intOf i).toNat)
          case atStart => exact ⟨0, XN, fmn, fan, fcn, rfl, Nat.zero_le _, HLN.out, HXN.out, by omega⟩
          case round =>
            clear HLN HXN hxnl hk hlt
            obtain ⟨k, X, fm, fa, fc, rfl, hk, HLR, HX, hxl⟩ := hrel
            by_cases hlt : k < gm
            · have X1 := Lib.hid (show G[k]? = some (G[k]'(by have := HGM.out; omega)) from List.getElem?_eq_getElem _)
              generalize G[k]'(by have := HGM.out; omega) = s at *
              have hft := HFT.out s (List.mem_of_getElem? X1.out)
              have HPOS := Lib.hid (show 0 < G.length by have := HGM.out; omega)
              obtain ⟨b2, o2, ha2, u0, u1, u2, u3, u4, u5, u6, u7⟩ := row_wg HLR.out.g X1.out
              subst ha2
              clear hft
              cases hq1 : ((s.typ : Int) == 1) with
              | false =>
                go_wp2_with (first
                  | ((with_reducible show wpList _ _ _ (⟨none, .store _ _ _, _, _, _, _⟩ :: _) _ _); go_must (refine wpList_storeNew rfl rfl (by kernel_rfl) rfl (by simp [Value.oneCell']) ?_; intro w7 hh7 hb7; have HH7 := Lib.hid (show w7.heap[wr.heap.size]? = some (.cells (encWG s).toArray 146 (0, 0)) from hh7); have HL7 := Lib.hid (HLR.out.mono hb7); obtain ⟨q0, q1, q2, q3, q4, q5, q6, q7⟩ := seg8 HH7.out; clear hh7 hb7))
                  | (go_at_call 93; refine (wNote_any HL7.out _ _ _ _ (by rw [List.length_append]; omega)).mono ?_; rintro e w9 ⟨rfl, Y, fm9, fa9, fc9, hY, hYl, hk9, hkk9⟩; have HL9 := Lib.hid (show Lk w0 w9 p l (.slice ba bm bc) (F ++ (X ++ Y)) S G (.slice fa9 fm9 fc9) (.slice sa sm sc) (.slice (some ⟨b2, o2, none⟩) gm gc) by rw [← List.append_assoc]; exact hk9); have HX2 := Lib.hid (show ∀ f ∈ X ++ Y, f.code ≥ 8 ∧ (0 < G.length ∨ ty = 2) from fun f hf => (List.mem_append.1 hf).elim (HX.out f) (fun h => ⟨by rw [hY f h]; decide, .inl HPOS.out⟩)); clear hk9 hkk9 hY))
                have hx2 : (X ++ Y).length ≤ 100600 + (k + 1) := by rw [List.length_append]; omega
                go_round
                case rel => exact ⟨k + 1, _, fm9, fa9, fc9, by go_num, by omega, HL9.out, HX2.out, hx2⟩
                case measure => simp [intOf] <;> omega
              | true =>
                go_wp2_with (first
                  | ((with_reducible show wpList _ _ _ (⟨none, .store _ _ _, _, _, _, _⟩ :: _) _ _); go_must (refine wpList_storeNew rfl rfl (by kernel_rfl) rfl (by simp [Value.oneCell']) ?_; intro w7 hh7 hb7; have HH7 := Lib.hid (show w7.heap[wr.heap.size]? = some (.cells (encWG s).toArray 146 (0, 0)) from hh7); have HL7 := Lib.hid (HLR.out.mono hb7); obtain ⟨q0, q1, q2, q3, q4, q5, q6, q7⟩ := seg8 HH7.out; clear hh7 hb7))
                  | (go_at_call 93; refine (wNote_any HL7.out _ _ _ _ (by rw [List.length_append]; omega)).mono ?_; rintro e w9 ⟨rfl, Y, fm9, fa9, fc9, hY, hYl, hk9, hkk9⟩; have HL9 := Lib.hid (show Lk w0 w9 p l (.slice ba bm bc) (F ++ (X ++ Y)) S G (.slice fa9 fm9 fc9) (.slice sa sm sc) (.slice (some ⟨b2, o2, none⟩) gm gc) by rw [← List.append_assoc]; exact hk9); have HX2 := Lib.hid (show ∀ f ∈ X ++ Y, f.code ≥ 8 ∧ (0 < G.length ∨ ty = 2) from fun f hf => (List.mem_append.1 hf).elim (HX.out f) (fun h => ⟨by rw [hY f h]; decide, .inl HPOS.out⟩)); clear hk9 hkk9 hY))
                have hx2 : (X ++ Y).length ≤ 100600 + (k + 1) := by rw [List.length_append]; omega
                go_round
                case rel => exact ⟨k + 1, _, fm9, fa9, fc9, by go_num, by omega, HL9.out, HX2.out, hx2⟩
                case measure => simp [intOf] <;> omega
            · obtain rfl : gm = k := by omega
              go_wp2_with fail
              refine (wPairs2_any HLR.out HG.out HFT.out 12 (by rw [List.length_append]; omega)).mono ?_
              rintro e wn2 ⟨rfl, Xm, fmm, fam, fcm, hkn, hxn, hln⟩
              have HLM := Lib.hid (show Lk w0 wn2 p l (.slice ba bm bc) (F ++ (X ++ Xm)) S G (.slice fam fmm fcm) (.slice sa sm sc) (.slice ga gm gc) by rw [← List.append_assoc]; exact hkn)
              have HXM := Lib.hid (show ∀ f ∈ X ++ Xm, f.code ≥ 8 ∧ (0 < G.length ∨ ty = 2) from fun f hf => (List.mem_append.1 hf).elim (HX.out f) (fun h => ⟨by rw [(hxn f h).1]; decide, .inl (hxn f h).2⟩))
              have hxml : (X ++ Xm).length ≤ 201000 := by rw [List.length_append]; omega
              clear hkn hxn hln hxl HLR HX
              have HU16 := Lib.hid (wU_any HLM.out 16 2 HL9.out)
              rw [HTY.out] at HU16
              obtain ⟨-, -, -, c3⟩ := HLM.out.cells
              generalize X ++ Xm = XM at *
              by_cases h2 : ty = 2
              · have e2 : ((ty : Int) == 2) = true := by rw [h2]; rfl
                have H2 := Lib.hid h2
                clear h2
                go_wp2_with (go_at_call 94; refine HU16.out.mono ?_; rintro e wu ⟨rfl, rfl⟩)
                clear c3 e2
                go_loopw [8, 10, 100] (fun b _ i wr => (∃ bb, b = .bool bb) ∧ ∃ (k : Nat), i = .int .i64 k ∧ k ≤ gm ∧ Hid (Lk w0 wr p l (.slice ba bm bc) (F ++ XM) S G (.slice fam fmm fcm) (.slice sa sm sc) (.slice ga gm gc))) (fun _ _ i _ => gm - (intOf i).toNat)
                case atStart => exact ⟨⟨_, rfl⟩, 0, rfl, Nat.zero_le _, HLM.out⟩
                case round =>
                  clear hk hlt
                  obtain ⟨⟨bb, rfl⟩, k, rfl, hk, HLR⟩ := hrel
                  by_cases hlt : k < gm
                  · have X1 := Lib.hid (show G[k]? = some (G[k]'(by have := HGM.out; omega)) from List.getElem?_eq_getElem _)
                    generalize G[k]'(by have := HGM.out; omega) = s at *
                    have hft := HFT.out s (List.mem_of_getElem? X1.out)
                    have HPOS := Lib.hid (show 0 < G.length by have := HGM.out; omega)
                    obtain ⟨b2, o2, ha2, u0, u1, u2, u3, u4, u5, u6, u7⟩ := row_wg HLR.out.g X1.out
                    subst ha2
                    have HCM := Lib.hid (fun (wx : World) => wCommon_any s.mem s.msize (gN l 24 8) 1 wx hft.2.2.2.1 HB24.out hft.2.2.2.2 (by decide))
                    generalize commonB s.mem s.msize (gN l 24 8) 1 = cm at *
                    clear hft
                    go_wp2_with ((with_reducible show wpList _ _ _ (⟨none, .store _ _ _, _, _, _, _⟩ :: _) _ _); go_must (refine wpList_storeNew rfl rfl (by kernel_rfl) rfl (by simp [Value.oneCell']) ?_; intro w7 hh7 hb7; have HH7 := Lib.hid (show w7.heap[wr.heap.size]? = some (.cells (encWG s).toArray 146 (0, 0)) from hh7); have HL7 := Lib.hid (HLR.out.mono hb7); obtain ⟨q0, q1, q2, q3, q4, q5, q6, q7⟩ := seg8 HH7.out; clear hh7 hb7))
                    clear u0 u1 u2 u3 u4 u5 u6 u7
                    have HU24 := Lib.hid (fun (wx : World) (hwx : Below w7.heap.size w7 wx) => wU_any (HL7.out.mono hwx) 24 8 HL9.out)
                    have hAB := fun (x : Above w7) (b k : Nat) (h : b < w7.heap.size) => Above.cell x b k h
                    have l2 := block_lt q0
                    cases bb with
                    | true =>
                      refine wp_region_walk 21 [(15, .is (U6 (gN l 24 8))), (17, .is (.bool cm))] (by kernel_rfl) (by kernel_rfl) ?_
                      simp only [List.take_succ_cons, List.take_zero, List.drop_succ_cons, List.drop_zero]
                      try go_frame
                      repeat (first
                        | (refine walk_quiet rfl rfl rfl ?_; intro K hK; go_big_quiet_op; go_big_quiet_on)
                        | (refine walk_skip rfl ?_; go_frame)
                        | (refine walk_check rfl rfl rfl ?_; go_frame))
                      refine walk_nil ?_
                      intro w8 hb8 hF8
                      have HL8 := Lib.hid (HL7.out.mono hb8)
                      clear hF8 hb8 hAB l2 q0 q1 q2 q3 q4 q5 q6 q7
                      go_wp2
                      go_round
                      case rel => exact ⟨⟨_, rfl⟩, k + 1, by go_num, by omega, HL8.out⟩
                      case measure => simp [intOf] <;> omega
                    | false =>
                      cases hq1 : ((s.typ : Int) == 1) with
                      | false =>
                        refine wp_region_walk 21 [(15, .is (U6 (gN l 24 8))), (17, .is (.bool cm))] (by kernel_rfl) (by kernel_rfl) ?_
                        simp only [List.take_succ_cons, List.take_zero, List.drop_succ_cons, List.drop_zero]
                        try go_frame
                        repeat (first
                          | (refine walk_quiet rfl rfl rfl ?_; intro K hK; go_big_quiet_op; go_big_quiet_on)
                          | (refine walk_skip rfl ?_; go_frame)
                          | (refine walk_check rfl rfl rfl ?_; go_frame))
                        refine walk_nil ?_
                        intro w8 hb8 hF8
                        have HL8 := Lib.hid (HL7.out.mono hb8)
                        clear hF8 hb8 hAB l2 q0 q1 q2 q3 q4 q5 q6 q7
                        go_wp2
                        go_round
                        case rel => exact ⟨⟨_, rfl⟩, k + 1, by go_num, by omega, HL8.out⟩
                        case measure => simp [intOf] <;> omega
                      | true =>
                        cases hq2 : (bits .and .u64 (s.flags : Int) 1 != 0) with
                        | false =>
                          refine wp_region_walk 21 [(15, .is (U6 (gN l 24 8))), (17, .is (.bool cm))] (by kernel_rfl) (by kernel_rfl) ?_
                          simp only [List.take_succ_cons, List.take_zero, List.drop_succ_cons, List.drop_zero]
                          try go_frame
                          repeat (first
                            | (refine walk_quiet rfl rfl rfl ?_; intro K hK; go_big_quiet_op; go_big_quiet_on)
                            | (refine walk_skip rfl ?_; go_frame)
                            | (refine walk_check rfl rfl rfl ?_; go_frame))
                          refine walk_nil ?_
                          intro w8 hb8 hF8
                          have HL8 := Lib.hid (HL7.out.mono hb8)
                          clear hF8 hb8 hAB l2 q0 q1 q2 q3 q4 q5 q6 q7
                          go_wp2
                          go_round
                          case rel => exact ⟨⟨_, rfl⟩, k + 1, by go_num, by omega, HL8.out⟩
                          case measure => simp [intOf] <;> omega
                        | true =>
                          refine wp_region_walk 21 [(15, .is (U6 (gN l 24 8))), (17, .is (.bool cm))] (by kernel_rfl) (by kernel_rfl) ?_
                          simp only [List.take_succ_cons, List.take_zero, List.drop_succ_cons, List.drop_zero]
                          try go_frame
                          repeat (first
                            | (refine walk_quiet rfl rfl rfl ?_; intro K hK; go_big_quiet_op; go_big_quiet_on)
                            | (refine walk_skip rfl ?_; go_frame)
                            | (refine walk_check rfl rfl rfl ?_; go_frame))
                          refine walk_is rfl rfl (fun wx hwx _ => WpYld.callIs (run_callL (vals := [_, _, _]) Try.func94 (by kernel_rfl) rfl rfl) (HU24.out wx hwx)) ?_
                          go_frame
                          repeat (first
                            | (refine walk_quiet rfl rfl rfl ?_; intro K hK; go_big_quiet_op; go_big_quiet_on)
                            | (refine walk_skip rfl ?_; go_frame)
                            | (refine walk_check rfl rfl rfl ?_; go_frame))
                          refine walk_is rfl rfl (fun wx hwx _ => WpYld.callIsB (run_callL (vals := [_, _]) Try.func99 (by kernel_rfl) rfl rfl) (HCM.out wx)) ?_
                          go_frame
                          repeat (first
                            | (refine walk_quiet rfl rfl rfl ?_; intro K hK; go_big_quiet_op; go_big_quiet_on)
                            | (refine walk_skip rfl ?_; go_frame)
                            | (refine walk_check rfl rfl rfl ?_; go_frame))
                          refine walk_nil ?_
                          intro w8 hb8 hF8
                          have HL8 := Lib.hid (HL7.out.mono hb8)
                          clear hF8 hb8 hAB l2 q0 q1 q2 q3 q4 q5 q6 q7
                          go_wp2
                          go_round
                          case rel => exact ⟨⟨_, rfl⟩, k + 1, by go_num, by omega, HL8.out⟩
                          case measure => simp [intOf] <;> omega
                  · obtain rfl : gm = k := by omega
                    have HX := HXM
                    go_wp2_with (go_at_call 93; refine (wNote_any HLR.out _ _ _ _ (by rw [List.length_append]; omega)).mono ?_; rintro e w9 ⟨rfl, Y, fm9, fa9, fc9, hY, hYl, hk9, hkk9⟩; have HL9' := Lib.hid (show Lk w0 w9 p l (.slice ba bm bc) (F ++ (XM ++ Y)) S G (.slice fa9 fm9 fc9) (.slice sa sm sc) (.slice ga gm gc) by rw [← List.append_assoc]; exact hk9); have HX2 := Lib.hid (show ∀ f ∈ XM ++ Y, f.code ≥ 8 ∧ (0 < G.length ∨ ty = 2) from fun f hf => (List.mem_append.1 hf).elim (HX.out f) (fun h => ⟨by rw [hY f h]; decide, .inr H2.out⟩)); clear hk9 hkk9 hY)
                    go_end0
                    exact ⟨rfl, _, fm9, fa9, fc9, HL9'.out, HX2.out⟩
              · have e2 : ((ty : Int) == 2) = false := by rw [beq_eq_false_iff_ne]; omega
                have H2 := Lib.hid h2
                clear h2
                go_wp2_with (go_at_call 94; refine HU16.out.mono ?_; rintro e wu ⟨rfl, rfl⟩)
                go_end0
                exact ⟨rfl, XM, fmm, fam, fcm, HLM.out, HXM.out⟩
end Go.Proofs.Ytimnbnomaajmmaa
