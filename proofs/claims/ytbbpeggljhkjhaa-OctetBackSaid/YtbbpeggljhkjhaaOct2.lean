/-
  Numbers as bytes: the reference's Put, Big, U, BigU.
-/
import Derived.Test.YtbbpeggljhkjhaaOct1
namespace Go.Proofs.Ytbbpeggljhkjhaa
open Go.RowKit Go.Fd

/-- May a number have so many bytes? -/
def Sized (n : Int) : Prop := n = 1 ∨ n = 2 ∨ n = 4 ∨ n = 8
instance (n : Int) : Decidable (Sized n) := by unfold Sized; infer_instance

theorem refSized_yes (n : Int) (w : World) (h : Sized n) : Calls Try.prog 49 #[.int .i64 n] w fun e w' => e = .returned (.bool true) ∧ w = w' := by
  rcases h with rfl | rfl | rfl | rfl
  all_goals
    go_enter Try.func49, Try.ntmps49
    go_wp2
    go_ret
    exact ⟨rfl, rfl⟩

theorem refSized_no (n : Int) (w : World) (h : ¬ Sized n) : Calls Try.prog 49 #[.int .i64 n] w fun e w' => e = .returned (.bool false) ∧ w = w' := by
  unfold Sized at h
  have h1 : (n == 1) = false := beq_eq_false_iff_ne.2 (by omega)
  have h2 : (n == 2) = false := beq_eq_false_iff_ne.2 (by omega)
  have h3 : (n == 4) = false := beq_eq_false_iff_ne.2 (by omega)
  have h4 : (n == 8) = false := beq_eq_false_iff_ne.2 (by omega)
  clear h
  go_enter Try.func49, Try.ntmps49
  go_wp2
  go_ret
  exact ⟨rfl, rfl⟩

theorem octSized_yes (n : Int) (w : World) (h : Sized n) : Calls Try.prog 42 #[.int .i64 n] w fun e w' => e = .returned (.bool true) ∧ w = w' := by
  rcases h with rfl | rfl | rfl | rfl
  all_goals
    go_enter Try.func42, Try.ntmps42
    go_wp2
    go_ret
    exact ⟨rfl, rfl⟩

theorem octSized_no (n : Int) (w : World) (h : ¬ Sized n) : Calls Try.prog 42 #[.int .i64 n] w fun e w' => e = .returned (.bool false) ∧ w = w' := by
  unfold Sized at h
  have h1 : (n == 1) = false := beq_eq_false_iff_ne.2 (by omega)
  have h2 : (n == 2) = false := beq_eq_false_iff_ne.2 (by omega)
  have h3 : (n == 4) = false := beq_eq_false_iff_ne.2 (by omega)
  have h4 : (n == 8) = false := beq_eq_false_iff_ne.2 (by omega)
  clear h
  go_enter Try.func42, Try.ntmps42
  go_wp2
  go_ret
  exact ⟨rfl, rfl⟩

theorem drop_reverse_snoc (l : List UInt8) (k : Nat) (h : k < l.length) : (l.drop k).reverse = (l.drop (k + 1)).reverse ++ [l[k]?.getD 0] := by
  rw [List.drop_eq_getElem_cons h, List.reverse_cons, List.getElem?_eq_getElem h]; rfl

theorem turned_any (l : List UInt8) (v : Value) (w : World) (hl : l.length ≤ 1000000) (hv : Bs w v l) :
    Calls Try.prog 51 #[v] w fun e w' => ∃ v', e = .returned v' ∧ OB w' w.heap.size v' l.reverse ∧ Below w.heap.size w w' := by
  have hv0 := Lib.hid hv
  obtain ⟨a, cap, rfl, hcap, _, hc⟩ := hv.open
  have HC := Lib.hid hc
  clear hc hv
  go_enter Try.func51, Try.ntmps51
  go_wp2
  go_loopw [3, 4] (fun v i wr => ∃ k : Nat, k ≤ l.length ∧ i = .int .i64 ((k : Int) - 1) ∧ OB wr w.heap.size v (l.drop k).reverse ∧ Below w.heap.size w wr) (fun _ i _ => (intOf i + 1).toNat)
  case atStart => exact ⟨l.length, Nat.le_refl _, rfl, by simpa using OB.nil _ _, Below.refl _ _⟩
  case round =>
    obtain ⟨k, hk, rfl, hown, hb⟩ := hrel
    by_cases h : 0 < k
    · obtain ⟨k, rfl⟩ : ∃ j, k = j + 1 := ⟨k - 1, by omega⟩
      obtain ⟨b, off, rfl, hcell⟩ := HC.out k (by omega)
      have hcell' : wr.cell? ⟨b, off + k, none⟩ = some (.int .u8 (l[k]?.getD 0).toNat) := (hb.cell (block_lt hcell)).trans hcell
      have HS := Lib.hid (drop_reverse_snoc l k (by omega))
      clear hcell
      go_wp2_with (at_builtin; refine wpList_pushB hown rfl rfl (l[k]?.getD 0) rfl (by rw [List.length_reverse, List.length_drop]; omega) hb.size ?_; intro v1 w1 hown1 _ hb1)
      go_roundw
      case rel => exact ⟨k, by omega, by go_num, by rw [HS.out]; exact hown1, hb.trans hb1⟩
      case measure => simp [intOf] <;> omega
    · obtain rfl : k = 0 := by omega
      go_wp2
      go_ret
      exact ⟨_, rfl, hown, hb⟩
end Go.Proofs.Ytbbpeggljhkjhaa
