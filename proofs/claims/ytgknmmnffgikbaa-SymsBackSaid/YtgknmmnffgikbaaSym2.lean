/-
  Symbols: kinds, numbers behind bytes, numbers in a record.
-/
import Derived.Test.YtgknmmnffgikbaaSym1
import Derived.Test.YtgknmmnffgikbaaU
import Derived.Test.YtgknmmnffgikbaaOct1
namespace Go.Proofs.Ytgknmmnffgikbaa
open Go.RowKit Go.Fd

/-- Are there such a Bind and Type? -/
def kindB (b t : Int) : Bool := decide (0 ≤ b) && decide (b ≤ 2) && (decide (0 ≤ t) && decide (t ≤ 3) || decide (t = 6))

set_option maxRecDepth 100000 in
theorem kind_any (b t : Int) (w : World) : Calls Try.prog 58 #[.int .i64 b, .int .i64 t] w fun e w' => e = .returned (.bool (kindB b t)) ∧ w = w' := by
  by_cases h1 : b < 0
  · have HR := Lib.hid (show kindB b t = false by rw [Bool.eq_false_iff]; intro h; unfold kindB at h; simp at h; omega)
    go_enter Try.func58, Try.ntmps58
    go_wp2
    go_ret
    exact ⟨by rw [HR.out]; rfl, rfl⟩
  by_cases h2 : 2 < b
  · have HR := Lib.hid (show kindB b t = false by rw [Bool.eq_false_iff]; intro h; unfold kindB at h; simp at h; omega)
    go_enter Try.func58, Try.ntmps58
    go_wp2
    go_ret
    exact ⟨by rw [HR.out]; rfl, rfl⟩
  by_cases h5 : t = 6
  · have HR := Lib.hid (show kindB b t = true by unfold kindB; simp; omega)
    subst h5
    go_enter Try.func58, Try.ntmps58
    go_wp2
    go_ret
    exact ⟨by rw [HR.out]; rfl, rfl⟩
  have hz : (t == 6) = false := by simpa using h5
  by_cases h3 : t < 0
  · have HR := Lib.hid (show kindB b t = false by rw [Bool.eq_false_iff]; intro h; unfold kindB at h; simp at h; omega)
    go_enter Try.func58, Try.ntmps58
    go_wp2
    go_ret
    exact ⟨by rw [HR.out]; rfl, rfl⟩
  by_cases h4 : t ≤ 3
  · have HR := Lib.hid (show kindB b t = true by unfold kindB; simp; omega)
    go_enter Try.func58, Try.ntmps58
    go_wp2
    go_ret
    exact ⟨by rw [HR.out]; rfl, rfl⟩
  · have HR := Lib.hid (show kindB b t = false by rw [Bool.eq_false_iff]; intro h; unfold kindB at h; simp at h; omega)
    go_enter Try.func58, Try.ntmps58
    go_wp2
    go_ret
    exact ⟨by rw [HR.out]; rfl, rfl⟩

set_option maxRecDepth 100000 in
theorem kinds_any (b t : Int) (w : World) : Calls Try.prog 66 #[.int .i64 b, .int .i64 t] w fun e w' => e = .returned (.bool (kindB b t)) ∧ w = w' := by
  by_cases h1 : b < 0
  · have HR := Lib.hid (show kindB b t = false by rw [Bool.eq_false_iff]; intro h; unfold kindB at h; simp at h; omega)
    go_enter Try.func66, Try.ntmps66
    go_wp2
    go_ret
    exact ⟨by rw [HR.out]; rfl, rfl⟩
  by_cases h2 : 2 < b
  · have HR := Lib.hid (show kindB b t = false by rw [Bool.eq_false_iff]; intro h; unfold kindB at h; simp at h; omega)
    go_enter Try.func66, Try.ntmps66
    go_wp2
    go_ret
    exact ⟨by rw [HR.out]; rfl, rfl⟩
  by_cases h5 : t = 6
  · have HR := Lib.hid (show kindB b t = true by unfold kindB; simp; omega)
    subst h5
    go_enter Try.func66, Try.ntmps66
    go_wp2
    go_ret
    exact ⟨by rw [HR.out]; rfl, rfl⟩
  have hz : (t == 6) = false := by simpa using h5
  by_cases h3 : t < 0
  · have HR := Lib.hid (show kindB b t = false by rw [Bool.eq_false_iff]; intro h; unfold kindB at h; simp at h; omega)
    go_enter Try.func66, Try.ntmps66
    go_wp2
    go_ret
    exact ⟨by rw [HR.out]; rfl, rfl⟩
  by_cases h4 : t ≤ 3
  · have HR := Lib.hid (show kindB b t = true by unfold kindB; simp; omega)
    go_enter Try.func66, Try.ntmps66
    go_wp2
    go_ret
    exact ⟨by rw [HR.out]; rfl, rfl⟩
  · have HR := Lib.hid (show kindB b t = false by rw [Bool.eq_false_iff]; intro h; unfold kindB at h; simp at h; omega)
    go_enter Try.func66, Try.ntmps66
    go_wp2
    go_ret
    exact ⟨by rw [HR.out]; rfl, rfl⟩

set_option maxRecDepth 100000 in
theorem u_any (l : List UInt8) (at_ size : Int) (v : Value) (w : World) (hl : l.length ≤ 1000000000) (hv : Bs w v l) :
    Calls Try.prog 64 #[v, .int .i64 at_, .int .i64 size] w fun e w' => e = .returned (.int .u64 (getR l at_ size false).1) ∧ w = w' := by
  have HU := Lib.hid (octU_any l at_ size v w hl hv)
  generalize getR l at_ size false = r at *
  obtain ⟨n, z⟩ := r
  go_enter Try.func64, Try.ntmps64
  go_wp2_with fail
  refine HU.out.mono ?_
  rintro e w1 ⟨rfl, rfl⟩
  go_wp2
  go_ret
  exact ⟨rfl, rfl⟩

theorem getR_in (l : List UInt8) (a s : Nat) (hs : Sized s) (h : a + s ≤ l.length) : (getR l a s false).1 = numLE ((l.drop a).take s) := by
  unfold getR
  rw [if_pos hs, if_neg (by omega), if_neg (by omega)]
  simp

/-- Blocks of another element's type stay as they are. -/
def Keeps (e0 : TypeId) (w w' : World) : Prop := ∀ (b : Nat) cs e fr, e ≠ e0 → w.heap[b]? = some (.cells cs e fr) → w'.heap[b]? = some (.cells cs e fr)
theorem Keeps.refl (e0 : TypeId) (w : World) : Keeps e0 w w := fun _ _ _ _ _ h => h
theorem Keeps.trans {e0 : TypeId} {w w' w'' : World} (h : Keeps e0 w w') (k : Keeps e0 w' w'') : Keeps e0 w w'' := fun b cs e fr he hb => k b cs e fr he (h b cs e fr he hb)
theorem keeps_below {e0 : TypeId} {w w' : World} (h : Below w.heap.size w w') : Keeps e0 w w' := fun b cs e fr _ hb => by rw [h.block b (Array.getElem?_eq_some_iff.1 hb).1]; exact hb
theorem keeps_own {e0 size n base : Nat} {w w' : World} {v : Value} {xs : List Value} (h : w.ownsRow base e0 size v n xs) (hg : w.grownBy w' v.ownBlock) : Keeps e0 w w' := fun b cs e fr he hb => by
  rw [hg.block b (Array.getElem?_eq_some_iff.1 hb).1 (fun hr => ?_)]
  · exact hb
  rcases h.2 with ⟨rfl, -⟩ | ⟨g, cap, cur, rfl, -, hh, -⟩
  · simp [Value.ownBlock] at hr
  · simp only [Value.ownBlock, Option.some.injEq] at hr
    subst hr
    rw [hb] at hh
    cases hh
    exact he rfl

theorem shr_byte (n k : Nat) : (n : Int) / 2 ^ (8 * k) % 256 = ((UInt8.ofNat (n / 256 ^ k)).toNat : Int) := by
  have h : n / 256 ^ k = n / 2 ^ (8 * k) := by rw [Nat.pow_mul]
  rw [u8_of, h, Int.natCast_emod, Int.natCast_ediv, Int.natCast_pow]
  rfl

set_option maxRecDepth 100000 in
theorem put_any (l : List UInt8) (n s : Nat) (v : Value) (w : World) (base : Nat) (hl : l.length ≤ 1000000) (hn : n < 18446744073709551616) (hs : s ≤ 8) (hv : OB w base v l) (hbase : base ≤ w.heap.size) :
    Calls Try.prog 60 #[v, .int .u64 n, .int .i64 s] w fun e w' => ∃ v', e = .returned v' ∧ OB w' base v' (l ++ fixed n s) ∧ Below base w w' ∧ Keeps 5 w w' := by
  have HV := Lib.hid hv
  clear hv
  have HN := Lib.hid hn
  clear hn
  go_enter Try.func60, Try.ntmps60
  go_wp2
  go_loopw [0, 9] (fun v i wr => ∃ k : Nat, k ≤ s ∧ i = .int .i64 k ∧ Hid (OB wr base v (l ++ fixed n k)) ∧ Hid (Below base w wr) ∧ Hid (Keeps 5 w wr)) (fun _ i _ => s - (intOf i).toNat)
  case atStart => exact ⟨0, Nat.zero_le _, rfl, by have := HV.out; simpa [fixed, Hid] using this, Below.refl _ _, Keeps.refl _ _⟩
  case round =>
    obtain ⟨k, hk, rfl, HO, HB, HK⟩ := hrel
    by_cases hlt : k < s
    · have HF := Lib.hid (fixed_snoc n k)
      have HL := Lib.hid (length_fixed n k)
      have hb0 := Nat.le_trans hbase HB.out.size
      have HSH := Lib.hid (shr_byte n k)
      go_wp2_with (((with_reducible show wpList _ _ _ (⟨some 19, _, _, _, _, _⟩ :: _) _ _); go_must (refine wpList_pushB HO.out rfl rfl (UInt8.ofNat (n / 256 ^ k)) HSH.out (by have := HL.out; rw [List.length_append]; omega) hb0 ?_; intro v1 w1 hv1 hg1 hb1)))
      have G1 : Hid (OB w1 base v1 (l ++ fixed n (k + 1))) := by rw [HF.out, ← List.append_assoc]; exact hv1
      have G2 := Lib.hid (HB.out.trans hb1)
      have G3 := Lib.hid (HK.out.trans (keeps_own HO.out hg1))
      clear hv1 hg1 hb1
      go_roundw
      case rel =>
        first
          | exact ⟨k + 1, by omega, by go_num, G1.out, G2.out, G3.out⟩
          | ((repeat apply Exists.intro); exact ⟨⟨k + 1, by omega, by go_num, G1.out, G2.out, G3.out⟩, rfl⟩)
      case measure => simp [intOf] <;> omega
    · obtain rfl : k = s := by omega
      go_wp2
      go_ret
      exact ⟨_, rfl, HO.out, HB.out, HK.out⟩
theorem put2_any (l : List UInt8) (n : Nat) {z : Int} (v : Value) (w : World) (base : Nat) (hz : z = (n : Int)) (hl : l.length ≤ 1000000) (hn : n < 18446744073709551616) (hv : OB w base v l) (hbase : base ≤ w.heap.size) :
    Calls Try.prog 60 #[v, .int .u64 z, .int .i64 2] w fun e w' => ∃ v', e = .returned v' ∧ OB w' base v' (l ++ fixed n 2) ∧ Below base w w' ∧ Keeps 5 w w' := by
  subst hz
  exact put_any l n 2 v w base hl hn (by decide) hv hbase
theorem put4_any (l : List UInt8) (n : Nat) {z : Int} (v : Value) (w : World) (base : Nat) (hz : z = (n : Int)) (hl : l.length ≤ 1000000) (hn : n < 18446744073709551616) (hv : OB w base v l) (hbase : base ≤ w.heap.size) :
    Calls Try.prog 60 #[v, .int .u64 z, .int .i64 4] w fun e w' => ∃ v', e = .returned v' ∧ OB w' base v' (l ++ fixed n 4) ∧ Below base w w' ∧ Keeps 5 w w' := by
  subst hz
  exact put_any l n 4 v w base hl hn (by decide) hv hbase
theorem put8_any (l : List UInt8) (n : Nat) {z : Int} (v : Value) (w : World) (base : Nat) (hz : z = (n : Int)) (hl : l.length ≤ 1000000) (hn : n < 18446744073709551616) (hv : OB w base v l) (hbase : base ≤ w.heap.size) :
    Calls Try.prog 60 #[v, .int .u64 z, .int .i64 8] w fun e w' => ∃ v', e = .returned v' ∧ OB w' base v' (l ++ fixed n 8) ∧ Below base w w' ∧ Keeps 5 w w' := by
  subst hz
  exact put_any l n 8 v w base hl hn (by decide) hv hbase
end Go.Proofs.Ytgknmmnffgikbaa
