/-
  Part 2 of 4: laws and walks for loadThread_holds; no condition of its own.
-/
import Derived.Test.YtmpelmjhimalpaaLt1
import Derived.Deep.WholeRow
import Derived.Deep.RegionWith
import Derived.BigQuiet
import Derived.StillTail
import Derived.Maps.RangeWalk
import Derived.Laws.Bits64b
import Derived.Deep.RegionLaw
import Derived.Defers
import Derived.Recover
namespace Go.Proofs.Ytmpelmjhimalpaa
open Go.RowKit Go.Fd
/-- May a number have so many bytes? -/
def Sized (n : Int) : Prop := n = 1 ∨ n = 2 ∨ n = 4 ∨ n = 8
instance (n : Int) : Decidable (Sized n) := by unfold Sized; infer_instance
theorem octSized_yes (n : Int) (w : World) (h : Sized n) : Calls Try.prog 85 #[.int .i64 n] w fun e w' => e = .returned (.bool true) ∧ w = w' := by
  rcases h with rfl | rfl | rfl | rfl
  all_goals
    go_enter Try.func85, Try.ntmps85
    go_wp2
    go_ret
    exact ⟨rfl, rfl⟩
theorem octSized_no (n : Int) (w : World) (h : ¬ Sized n) : Calls Try.prog 85 #[.int .i64 n] w fun e w' => e = .returned (.bool false) ∧ w = w' := by
  unfold Sized at h
  have h1 : (n == 1) = false := beq_eq_false_iff_ne.2 (by omega)
  have h2 : (n == 2) = false := beq_eq_false_iff_ne.2 (by omega)
  have h3 : (n == 4) = false := beq_eq_false_iff_ne.2 (by omega)
  have h4 : (n == 8) = false := beq_eq_false_iff_ne.2 (by omega)
  clear h
  go_enter Try.func85, Try.ntmps85
  go_wp2
  go_ret
  exact ⟨rfl, rfl⟩
theorem sized_bounds {size : Int} (h : Sized size) : 1 ≤ size ∧ size ≤ 8 := by unfold Sized at h; omega
def getR (l : List UInt8) (at_ size : Int) (big : Bool) : Nat × Int :=
  if Sized size then (if at_ < 0 ∨ (l.length : Int) < at_ then (0, 5) else if (l.length : Int) - at_ < size then (0, 2)
    else (numLE (if big then ((l.drop at_.toNat).take size.toNat).reverse else (l.drop at_.toNat).take size.toNat), 0)) else (0, 1)
theorem cut_len (l : List UInt8) (at_ size : Int) (hs : Sized size) : ((l.drop at_.toNat).take size.toNat).length ≤ 8 := by
  rw [List.length_take]; have := sized_bounds hs; omega
def fieldR (l : List UInt8) (at_ size : Int) : List UInt8 × Int :=
  if Sized size then (if at_ < 0 ∨ (l.length : Int) < at_ then ([], 5) else if (l.length : Int) - at_ < size then ([], 2) else ((l.drop at_.toNat).take size.toNat, 0)) else ([], 1)
theorem getR_eq (l : List UInt8) (at_ size : Int) (big : Bool) : getR l at_ size big = (numLE (if big then (fieldR l at_ size).1.reverse else (fieldR l at_ size).1), (fieldR l at_ size).2) := by
  unfold getR fieldR
  split
  · split
    · cases big <;> rfl
    · split
      · cases big <;> rfl
      · rfl
  · cases big <;> rfl
theorem fieldR_len (l : List UInt8) (at_ size : Int) : (fieldR l at_ size).1.length ≤ 8 := by
  unfold fieldR
  split
  · next h =>
    split
    · simp
    · split
      · simp
      · exact cut_len l at_ size h
  · simp
set_option maxRecDepth 100000 in
theorem field_any (l : List UInt8) (at_ size : Int) (v : Value) (w : World) (hl : l.length ≤ 1000000000) (hv : Bs w v l) :
    Calls Try.prog 78 #[v, .int .i64 at_, .int .i64 size] w fun e w' =>
      ∃ v', e = .returned (.tuple #[v', .int .i64 (fieldR l at_ size).2]) ∧ Bs w v' (fieldR l at_ size).1 ∧ w = w' := by
  by_cases hs : Sized size
  · have hb1 := (sized_bounds hs).1
    have hb2 := (sized_bounds hs).2
    obtain ⟨a, cap, rfl, hcap, _, _⟩ := hv.open
    by_cases h1 : at_ < 0
    · have HR := Lib.hid (show fieldR l at_ size = ([], 5) by rw [fieldR, if_pos hs, if_pos (.inl h1)])
      go_enter Try.func78, Try.ntmps78
      go_wp2_with (go_at_call 85; refine (octSized_yes _ _ hs).mono ?_; rintro e w' ⟨rfl, rfl⟩)
      go_ret2
      exact ⟨_, by rw [HR.out]; rfl, by rw [HR.out]; exact Bs.nil _, rfl⟩
    by_cases h2 : (l.length : Int) < at_
    · have HR := Lib.hid (show fieldR l at_ size = ([], 5) by rw [fieldR, if_pos hs, if_pos (.inr h2)])
      go_enter Try.func78, Try.ntmps78
      go_wp2_with (go_at_call 85; refine (octSized_yes _ _ hs).mono ?_; rintro e w' ⟨rfl, rfl⟩)
      go_ret2
      exact ⟨_, by rw [HR.out]; rfl, by rw [HR.out]; exact Bs.nil _, rfl⟩
    by_cases h3 : (l.length : Int) - at_ < size
    · have HR := Lib.hid (show fieldR l at_ size = ([], 2) by rw [fieldR, if_pos hs, if_neg (by omega), if_pos h3])
      go_enter Try.func78, Try.ntmps78
      go_wp2_with (go_at_call 85; refine (octSized_yes _ _ hs).mono ?_; rintro e w' ⟨rfl, rfl⟩)
      go_ret2
      exact ⟨_, by rw [HR.out]; rfl, by rw [HR.out]; exact Bs.nil _, rfl⟩
    have HR := Lib.hid (show fieldR l at_ size = ((l.drop at_.toNat).take size.toNat, 0) by rw [fieldR, if_pos hs, if_neg (by omega), if_neg h3])
    obtain ⟨v', hrun, hv'⟩ := run_sliceB hv (i := at_) (j := at_ + size) (k := .i64) (k' := .i64) (by omega) (by omega) (by omega)
    rw [show at_ + size - at_ = size by omega] at hv'
    have HRUN := Lib.hid hrun
    clear hrun
    go_enter Try.func78, Try.ntmps78
    go_wp2_with (first
      | (go_at_call 85; refine (octSized_yes _ _ hs).mono ?_; rintro e w' ⟨rfl, rfl⟩)
      | (with_reducible show wpList _ _ _ (⟨some 33, _, _, _, _, _⟩ :: _) _ _; go_must (refine wpList_val rfl (exec_slice2 HRUN.out rfl rfl rfl) ?_)))
    go_ret2
    exact ⟨_, by rw [HR.out]; rfl, by rw [HR.out]; exact hv', rfl⟩
  · have HR := Lib.hid (show fieldR l at_ size = ([], 1) by rw [fieldR, if_neg hs])
    go_enter Try.func78, Try.ntmps78
    go_wp2_with (go_at_call 85; refine (octSized_no _ _ hs).mono ?_; rintro e w' ⟨rfl, rfl⟩)
    go_ret2
    exact ⟨_, by rw [HR.out]; rfl, by rw [HR.out]; exact Bs.nil _, rfl⟩
set_option maxRecDepth 100000 in
theorem octU_any (l : List UInt8) (at_ size : Int) (v : Value) (w : World) (hl : l.length ≤ 1000000000) (hv : Bs w v l) :
    Calls Try.prog 70 #[v, .int .i64 at_, .int .i64 size] w fun e w' =>
      e = .returned (.tuple #[.int .u64 (getR l at_ size false).1, .int .i64 (getR l at_ size false).2]) ∧ w = w' := by
  have HW := Lib.hid (field_any l at_ size v w hl hv)
  have HL := Lib.hid (fieldR_len l at_ size)
  have HP := Lib.hid (getR_eq l at_ size false)
  generalize fieldR l at_ size = r at *
  obtain ⟨x, e⟩ := r
  have hx : x.length ≤ 8 := HL.out
  go_enter Try.func70, Try.ntmps70
  go_wp2_with (go_at_call 78; go_must (refine HW.out.mono ?_; rintro e w1 ⟨v1, rfl, hf, rfl⟩; obtain ⟨a, cap, rfl, hcap, _, hc⟩ := hf.open; have HC := Lib.hid hc; clear hc))
  go_loop [10, 11] (fun n i => ∃ k : Nat, k ≤ x.length ∧ i = .int .i64 ((k : Int) - 1) ∧ n = .int .u64 (numLE (x.drop k))) (fun _ i => (intOf i + 1).toNat)
  case atStart => exact ⟨x.length, Nat.le_refl _, rfl, by simp [numLE]⟩
  case round =>
    obtain ⟨k, hk, rfl, rfl⟩ := hrel
    by_cases h : 0 < k
    · obtain ⟨k, rfl⟩ : ∃ j, k = j + 1 := ⟨k - 1, by omega⟩
      obtain ⟨b, off, rfl, hcell⟩ := HC.out k (by omega)
      have hb : numLE (x.drop (k + 1)) < 256 ^ 7 := numLE_lt' _ 7 (by rw [List.length_drop]; omega)
      have HB := Lib.hid (numLE_drop x k (by omega))
      have HO := Lib.hid (or_byte (numLE (x.drop (k + 1))) (x[k]?.getD 0) hb)
      have hb' : (numLE (x.drop (k + 1)) : Int) < 72057594037927936 := by omega
      have hu := (x[k]?.getD 0).toNat_lt
      generalize numLE (x.drop (k + 1)) = m at *
      go_wp2
      go_round
      case rel => exact ⟨k, by omega, by go_num, by rw [HB.out, ← HO.out]⟩
      case measure => simp [intOf] <;> omega
    · obtain rfl : k = 0 := by omega
      go_wp2
      go_ret2
      exact ⟨by rw [HP.out]; rfl, rfl⟩
end Go.Proofs.Ytmpelmjhimalpaa
namespace Go.Proofs.Ytmpelmjhimalpaa
open Go.RowKit Go.Fd
/-- Blocks of another element's type stay as they are. -/
def Keeps (e0 : TypeId) (w w' : World) : Prop := ∀ (b : Nat) cs e fr, e ≠ e0 → w.heap[b]? = some (.cells cs e fr) → w'.heap[b]? = some (.cells cs e fr)
theorem keeps_below {e0 : TypeId} {w w' : World} (h : Below w.heap.size w w') : Keeps e0 w w' := fun b cs e fr _ hb => by rw [h.block b (Array.getElem?_eq_some_iff.1 hb).1]; exact hb
theorem keeps_own {e0 size n base : Nat} {w w' : World} {v : Value} {xs : List Value} (h : w.ownsRow base e0 size v n xs) (hg : w.grownBy w' v.ownBlock) : Keeps e0 w w' := fun b cs e fr he hb => by
  rw [hg.block b (Array.getElem?_eq_some_iff.1 hb).1 (fun hr => ?_)]
  · exact hb
  rcases h.2 with ⟨rfl, -⟩ | ⟨g, cap, cur, rfl, -, hh, -⟩
  · simp [Value.ownBlock] at hr
  · simp only [Value.ownBlock, Option.some.injEq] at hr
    subst hr
    rw [hb] at hh
    cases hh
    exact he rfl
theorem shr_byte (n k : Nat) : (n : Int) / 2 ^ (8 * k) % 256 = ((UInt8.ofNat (n / 256 ^ k)).toNat : Int) := by
  have h : n / 256 ^ k = n / 2 ^ (8 * k) := by rw [Nat.pow_mul]
  rw [u8_of, h, Int.natCast_emod, Int.natCast_ediv, Int.natCast_pow]
  rfl
end Go.Proofs.Ytmpelmjhimalpaa
namespace Go.Fd
open Go.RowKit
section
variable {P : Program} {ops : Array Oper} {rest : List Oper} {Q : Exit → Act → World → Prop} {a : Act} {w : World}
/-- A whole record into the block that was made last. -/
theorem wpList_storeNew {d : Option Tmp} {ty t : TypeId} {pos : String} {aft : Array Edge} {p x : Operand} {c c' : Array Value} (hp : a.eval p = .pointer (some ⟨w.heap.size, 0, none⟩)) (hx : a.eval x = .agg c')
    (hi : (P.info? t).map (·.size) = some c'.size) (ho : c.size = c'.size) (h1 : c'.all (·.oneCell') = true)
    (h : ∀ w1, w1.heap[w.heap.size]? = some (.cells c' t (0, 0)) → Below w.heap.size w w1 → wpList P ops Q rest (a.put d undef) w1) :
    wpList P ops Q (⟨d, .store t p x, ty, pos, aft, none⟩ :: rest) a (w.alloc (.cells c t)) := by
  refine wpList_did rfl ?_ (h (w.alloc (.cells c' t)) (heap_alloc_last w _) (below_alloc w _))
  simp only [execOp, hp, hx, Sem.run_bind, run_storeAt_new w t c c' hi ho h1, Result.andThen_ok]
  rfl
theorem cell_rec {w : World} {g : Nat} {cs : Array Value} {t : TypeId} {fr : Nat × Nat} (h : w.heap[g]? = some (.cells cs t fr)) (c : Nat) : w.cell? ⟨g, c, none⟩ = cs[c]? := cell_of_row w g c cs t fr h
end
/-- Of an int64 its 64 bits. -/
def u64of (x : Int) : Nat := (x % 18446744073709551616).toNat
end Go.Fd
namespace Go.Proofs.Ytmpelmjhimalpaa
open Go.RowKit Go.Fd
end Go.Proofs.Ytmpelmjhimalpaa
namespace Go.Proofs.Ytmpelmjhimalpaa
open Go.RowKit Go.Fd
theorem i64_small {n : Nat} (h : n < 4294967296) : IntKind.i64.wrap (n : Int) = (n : Int) := by
  simp [IntKind.wrap, IntKind.bits, IntKind.signed]
  omega
end Go.Proofs.Ytmpelmjhimalpaa
namespace Go.Fd
open Go.RowKit
section
variable {P : Program} {l : List Oper} {s : Oper} {V : Nat → Value → World → Prop} {a0 : Act} {w0 : World}
theorem ready_none {listed : Array Bool} {L : List Oper} (h : ∀ i, i < L.length → listed.getD i true = true) : Region.ready .any L.toArray listed = [] := by
  rw [List.eq_nil_iff_forall_not_mem]
  intro i hi
  rw [mem_ready] at hi
  obtain ⟨h1, o, ho, _⟩ := hi
  have := h i (by have := (Array.getElem?_eq_some_iff.1 ho).1; simpa using this)
  rw [h1] at this; cases this
end
section
variable {P : Program} {a : Act} {w : World}
/-- The store of a record into the block that was made. -/
theorem wp_store_made {d : Option Tmp} {ty t : TypeId} {pos : String} {aft : Array Edge} {p x : Operand} {c c' : Array Value} {g : Nat} {K : Act → World → Prop} {Q : Exit → Act → World → Prop} {B : Nat} (hg : w.heap[g]? = some (.cells c t (0, 0))) (hp : a.eval p = .pointer (some ⟨g, 0, none⟩)) (hx : a.eval x = .agg c')
    (hi : (P.info? t).map (·.size) = some c'.size) (ho : c.size = c'.size) (h1 : c'.all (·.oneCell') = true) (hB : B ≤ g) (_hBw : B ≤ w.heap.size)
    (h : ∀ w1, w1.heap[g]? = some (.cells c' t (0, 0)) → Below B w w1 → K (a.put d undef) w1) :
    Oper.wp P ⟨d, .store t p x, ty, pos, aft, none⟩ a w K Q := by
  have hr : (execOp a.eval ⟨d, .store t p x, ty, pos, aft, none⟩).run P w = .ok .skip (w.setRow g c') := by
    simp only [execOp, hp, hx, Instr.storeAt, Instr.sureAddr, Sem.run_bind, Sem.run_pure, Result.andThen, run_storeVar_row w g t t c c' hg hi ho h1]
  unfold Oper.wp Oper.upon
  rw [hr]
  refine h _ ?_ ?_
  · simp only [World.setRow]
    rw [Array.getElem?_modify, if_pos rfl, hg]
    rfl
  · refine ⟨rfl, rfl, rfl, by simp [World.setRow], fun k hk => ?_⟩
    have : g ≠ k := by omega
    simp only [World.setRow]
    rw [Array.getElem?_modify, if_neg this]
end
end Go.Fd
namespace Go.Fd
open Go.RowKit
/-- What an operation that makes memory, or a call, comes to: a value of a shape, and what is known of it. -/
structure Yld where
  X : Type
  inh : X
  shape : X → Value
  rel : X → World → Prop
  st : ∀ x w w', rel x w → Below w.heap.size w w' → rel x w'
def Yld.R (S : Yld) (v : Value) (w : World) : Prop := ∃ x, v = S.shape x ∧ S.rel x w
/-- One value. -/
def Yld.is (c : Value) : Yld := ⟨Unit, (), fun _ => c, fun _ _ => True, fun _ _ _ _ _ => trivial⟩
/-- Some value, with something known of it. -/
def Yld.any (rel : Value → World → Prop) (st : ∀ x w w', rel x w → Below w.heap.size w w' → rel x w') : Yld := ⟨Value, undef, id, rel, st⟩
def madeAt (M : List (Nat × Yld)) (i : Nat) : Option Yld := (M.find? (fun p => p.1 == i)).map (·.2)
/-- Worlds above one. -/
structure Above (w0 : World) where
  w : World
  h : Below w0.heap.size w0 w
instance (w0 : World) : Nonempty (Above w0) := ⟨⟨w0, Below.refl _ _⟩⟩
/-- What is known of the operations that one waits for. -/
def Deps (L : List Oper) (M : List (Nat × Yld)) (a : Act) (o : Oper) (w : World) : Prop :=
  ∀ j oj d S, L[j]? = some oj → oj.dst = some d → depB o j = true → madeAt M j = some S → Region.wanted oj (yielded L.toArray a.tmps) = true → S.R (a.eval (.tmp d)) w
/-- What is known of a way that leaves the region: U is what may go up. -/
def Ups (Up : Exit → Prop) (d : List Deferred) (w : World) (x : Exit) (a : Act) (w' : World) : Prop := Up x ∧ a.defers = d ∧ Below w.heap.size w w'
/-- Nothing goes up. -/
def NoUp : Exit → Prop := fun _ => False
def WpYld (P : Program) (Up : Exit → Prop) (o : Oper) (a : Act) (S : Yld) (w : World) : Prop :=
  o.wp P a w (fun a' w' => ∃ v, a' = a.put o.dst v ∧ S.R v w' ∧ Below w.heap.size w w') (Ups Up a.defers w)
theorem oper_wp_to {P : Program} {o : Oper} {a : Act} {w : World} {K : Act → World → Prop} {Q Q' : Exit → Act → World → Prop} (hq : ∀ x a w, Q x a w → Q' x a w) (h : o.wp P a w K Q) : o.wp P a w K Q' := by
  unfold Oper.wp at *
  generalize (execOp a.eval o).run P w = r at *
  cases r with
  | ok n w' =>
    cases n <;> simp only [Oper.upon] at h ⊢ <;>
      first
        | exact h
        | exact Calls.mono h (fun e w'' he => by
            cases e with
            | returned v => exact he
            | panicked c => exact hq _ _ _ he
            | outgrown => obtain ⟨a0, w0, h0⟩ := (he : LetsOut _); exact ⟨a0, w0, hq _ _ _ h0⟩)
  | halt x w' => cases x <;> simp only [Oper.upon] at h ⊢ <;> first | exact h | exact hq _ _ _ h
def walk (P : Program) (Up : Exit → Prop) (L : List Oper) (M : List (Nat × Yld)) (w0 : World) (E : Act → Prop) : Nat → List Oper → Act → Prop
  | _, [], a => E a
  | i, o :: r, a =>
    if Region.wanted o (yielded L.toArray a.tmps) = true then
      match madeAt M i with
      | some S => (∀ w, Below w0.heap.size w0 w → Deps L M a o w → WpYld P Up o a S w) ∧ ∀ x, walk P Up L M w0 E (i + 1) r (a.put o.dst (S.shape x))
      | none => ∃ v, (∀ w, Below w0.heap.size w0 w → Deps L M a o w → (execOp a.eval o).run P w = .ok (.value v) w) ∧ walk P Up L M w0 E (i + 1) r (a.put o.dst v)
    else walk P Up L M w0 E (i + 1) r (a.put o.dst undef)
/-- The slots that an operation looks at are those of operations that it waits for, or old ones. -/
def readsB (L H : List Oper) : Bool := H.zipIdx.all fun (o, i) =>
  (match o.op with | .select _ _ => false | _ => true) &&
  (o.looksAt L.toArray).all (fun t => oldB H i t || H.zipIdx.any fun (o', j) => o'.dst == some t && depB o j) &&
  (match o.guard with | some (g, _) => depB o g | none => true)
/-- Operation n waits for all ahead of it, and those behind it each for the one ahead. -/
def tailB (L : List Oper) (n : Nat) : Bool :=
  ((List.range n).all fun k => (match L[n]? with | some s => depB s k | none => true) || (L.take n).zipIdx.any fun (o, k') => decide (k < k') && depB o k) &&
  (L.zipIdx.all fun (o, t) => decide (t ≤ n) || depB o (t - 1)) &&
  Region.seqB .any L.toArray (L.length - n) n (List.replicate n true ++ List.replicate (L.length - n) false).toArray
def walkB (L : List Oper) (n sz : Nat) : Bool := decide (n ≤ L.length) && persB (L.take n) sz && readsB L (L.take n) && (decide (n = L.length) || tailB L n)
theorem putAll_congr {u u' : Nat → Value} : ∀ (l : List Oper) (k : Nat) (a : Act), (∀ j, k ≤ j → j < k + l.length → u j = u' j) → putAll u k l a = putAll u' k l a
  | [], _, _, _ => rfl
  | o :: r, k, a, h => by
    rw [putAll, putAll, h k (Nat.le_refl _) (by simp)]
    exact putAll_congr r (k + 1) _ fun j h1 h2 => h j (by omega) (by simp; omega)
theorem putAll_append {u : Nat → Value} : ∀ (l r : List Oper) (k : Nat) (a : Act), putAll u k (l ++ r) a = putAll u (k + l.length) r (putAll u k l a)
  | [], _, _, _ => by simp [putAll]
  | o :: l, r, k, a => by
    rw [List.cons_append, putAll, putAll, putAll_append l r (k + 1)]
    congr 1
    simp; omega
def fr (u : Nat → Value) (H : List Oper) (a0 : Act) (i : Nat) : Act := putAll u 0 (H.take i) a0
theorem fr_succ {u : Nat → Value} {H : List Oper} {a0 : Act} {i : Nat} {o : Oper} (h : H[i]? = some o) : fr u H a0 (i + 1) = (fr u H a0 i).put o.dst (u i) := by
  unfold fr
  obtain ⟨h1, h2⟩ := List.getElem?_eq_some_iff.1 h
  rw [List.take_succ_eq_append_getElem h1, putAll_append, h2, List.length_take, Nat.min_eq_left (by omega), Nat.zero_add]
  rfl
theorem fr_congr {u u' : Nat → Value} {H : List Oper} {a0 : Act} {i : Nat} (h : ∀ j, j < i → u j = u' j) : fr u H a0 i = fr u' H a0 i :=
  putAll_congr _ _ _ fun j _ hj => h j (by simp at hj; omega)
theorem fr_size (u : Nat → Value) (H : List Oper) (a0 : Act) (i : Nat) : (fr u H a0 i).tmps.size = a0.tmps.size := putAll_size _ _ _ _
theorem fr_defers (u : Nat → Value) (H : List Oper) (a0 : Act) (i : Nat) : (fr u H a0 i).defers = a0.defers := putAll_defers _ _ _ _
section
variable {P : Program} {Up : Exit → Prop} {L H : List Oper} {M : List (Nat × Yld)} {a0 : Act} {w0 : World} {E : Act → Prop}
theorem fr_new (hP : persB H a0.tmps.size = true) {u : Nat → Value} {i j : Nat} {o : Oper} {d : Nat} (ho : H[j]? = some o) (hd : o.dst = some d) (hj : j < i) : (fr u H a0 i).eval (.tmp d) = u j := by
  obtain ⟨⟨d', hd', hlt⟩, _, hu⟩ := persB_spec hP ho
  rw [hd] at hd'; cases hd'
  have := putAll_new u d 0 (H.take i) a0 j o (by rw [List.getElem?_take, if_pos hj]; exact ho) hd hlt fun j' o' h1 h2 => by
    by_cases e : j' = j
    · exact e
    · rw [List.getElem?_take] at h1
      split at h1
      · exact absurd (h2.trans hd.symm) (hu j' o' h1 e)
      · cases h1
  rwa [Nat.zero_add] at this
theorem fr_old {u : Nat → Value} {i t : Nat} (h : ∀ j o, j < i → H[j]? = some o → o.dst ≠ some t) : (fr u H a0 i).eval (.tmp t) = a0.eval (.tmp t) := by
  refine putAll_old u t 0 _ _ fun o ho => ?_
  obtain ⟨j, hj⟩ := List.getElem?_of_mem ho
  rw [List.getElem?_take] at hj
  split at hj
  · exact h j o (by assumption) hj
  · cases hj
theorem readsB_spec (hR : readsB L H = true) {i : Nat} {o : Oper} (ho : H[i]? = some o) :
    (∀ cs b, o.op ≠ .select cs b) ∧ (∀ t ∈ o.looksAt L.toArray, oldB H i t = true ∨ ∃ j oj, H[j]? = some oj ∧ oj.dst = some t ∧ depB o j = true) ∧ ∀ g b, o.guard = some (g, b) → depB o g = true := by
  unfold readsB at hR
  rw [List.all_eq_true] at hR
  have := hR (o, i) (by rw [List.mem_zipIdx_iff_getElem?]; exact ho)
  simp only [Bool.and_eq_true] at this
  obtain ⟨⟨h1, h2⟩, h3⟩ := this
  refine ⟨(fun cs b e => by rw [e] at h1; cases h1), fun t ht => ?_, (fun g b hg => by rw [hg] at h3; exact h3)⟩
  have := List.all_eq_true.1 h2 t ht
  rw [Bool.or_eq_true] at this
  rcases this with h | h
  · exact .inl h
  · obtain ⟨⟨oj, j⟩, hm, h⟩ := List.any_eq_true.1 h
    rw [List.mem_zipIdx_iff_getElem?] at hm
    simp only [Bool.and_eq_true, beq_iff_eq] at h
    exact .inr ⟨j, oj, hm, h.1, h.2⟩
theorem dep_lt (hP : persB H a0.tmps.size = true) {i j : Nat} {o : Oper} (ho : H[i]? = some o) (h : depB o j = true) : j < i := by
  obtain ⟨e, he, hon, hb⟩ := depB_of h
  have := (persB_spec hP ho).2.1 e he hb
  omega
theorem old_not (hP : persB H a0.tmps.size = true) {i j t : Nat} {o oj : Oper} (_ : H[i]? = some o) (hj : H[j]? = some oj) (hold : oldB H i t = true) (hji : j < i) : oj.dst ≠ some t := by
  unfold oldB at hold
  rw [List.all_eq_true] at hold
  have := hold (oj, j) (by rw [List.mem_zipIdx_iff_getElem?]; exact hj)
  simp only [Bool.or_eq_true, bne_iff_ne, ne_eq, beq_iff_eq] at this
  rcases this with (h | h) | h
  · exact h
  · omega
  · have := dep_lt hP hj h; omega
/-- What an operation comes to leans on the slots that it looks at alone. -/
theorem same_of_looks {o : Oper} {a b : Act} (hs : ∀ cs c, o.op ≠ .select cs c) (hz : a.tmps.size = b.tmps.size) (h : ∀ t ∈ o.looksAt L.toArray, a.eval (.tmp t) = b.eval (.tmp t)) :
    execOp a.eval o = execOp b.eval o ∧ Region.wanted o (yielded L.toArray a.tmps) = Region.wanted o (yielded L.toArray b.tmps) := by
  constructor
  · refine execOp_congr o hs fun x hx => ?_
    cases x with
    | tmp t => exact h t (List.mem_append_left _ (List.mem_filterMap.2 ⟨.tmp t, by simpa using hx, rfl⟩))
    | const v => rfl
    | global g => rfl
    | func f => rfl
  · unfold Region.wanted
    cases hg : o.guard with
    | none => rfl
    | some gw =>
      obtain ⟨g, want⟩ := gw
      have hy : yielded L.toArray a.tmps g = yielded L.toArray b.tmps g := by
        unfold yielded
        cases ht : ((L.toArray)[g]?).bind (·.dst) with
        | none => rfl
        | some t =>
          have ht' : ((L[g]?).bind fun x => x.dst) = some t := by simpa using ht
          have := h t (by simp [Oper.looksAt, hg, ht'])
          have e : a.tmps[t]? = b.tmps[t]? := by
            by_cases hlt : t < a.tmps.size
            · have hlt' : t < b.tmps.size := Nat.lt_of_lt_of_eq hlt hz
              have h2 : a.tmps.getD t undef = b.tmps.getD t undef := this
              rw [Array.getD_eq_getD_getElem?, Array.getD_eq_getD_getElem?, Array.getElem?_eq_getElem hlt, Array.getElem?_eq_getElem hlt'] at h2
              rw [Array.getElem?_eq_getElem hlt, Array.getElem?_eq_getElem hlt']
              simpa using h2
            · rw [Array.getElem?_eq_none (Nat.not_lt.1 hlt), Array.getElem?_eq_none (Nat.not_lt.1 (hz ▸ hlt))]
          simp only [Option.bind_some, e]
      simp only [hy]
structure PathP (P : Program) (Up : Exit → Prop) (L H : List Oper) (M : List (Nat × Yld)) (a0 : Act) (w0 : World) (E : Act → Prop) (p : (i : Nat) → (S : Yld) → S.X) (u : Nat → Value) : Prop where
  step : ∀ i o, H[i]? = some o →
    if Region.wanted o (yielded L.toArray (fr u H a0 i).tmps) = true then
      match madeAt M i with
      | some S => (∀ w, Below w0.heap.size w0 w → Deps L M (fr u H a0 i) o w → WpYld P Up o (fr u H a0 i) S w) ∧ u i = S.shape (p i S)
      | none => ∀ w, Below w0.heap.size w0 w → Deps L M (fr u H a0 i) o w → (execOp (fr u H a0 i).eval o).run P w = .ok (.value (u i)) w
    else u i = undef
  fin : E (fr u H a0 H.length)
theorem path_aux (p : (i : Nat) → (S : Yld) → S.X) : ∀ (r : List Oper) (k : Nat) (u0 : Nat → Value), H.drop k = r → k ≤ H.length → walk P Up L M w0 E k r (fr u0 H a0 k) →
    ∃ u, (∀ j, j < k → u j = u0 j) ∧ (∀ i o, k ≤ i → H[i]? = some o →
      if Region.wanted o (yielded L.toArray (fr u H a0 i).tmps) = true then
        match madeAt M i with
        | some S => (∀ w, Below w0.heap.size w0 w → Deps L M (fr u H a0 i) o w → WpYld P Up o (fr u H a0 i) S w) ∧ u i = S.shape (p i S)
        | none => ∀ w, Below w0.heap.size w0 w → Deps L M (fr u H a0 i) o w → (execOp (fr u H a0 i).eval o).run P w = .ok (.value (u i)) w
      else u i = undef) ∧ E (fr u H a0 H.length)
  | [], k, u0, hr, hk, h => by
    have : H.length ≤ k := by simpa using hr
    obtain rfl : k = H.length := by omega
    exact ⟨u0, fun _ _ => rfl, fun i o hi ho => by have := (List.getElem?_eq_some_iff.1 ho).1; omega, h⟩
  | o :: r, k, u0, hr, hk, h => by
    have ho : H[k]? = some o := by
      have : (H.drop k)[0]? = some o := by rw [hr]; rfl
      simpa using this
    have hr' : H.drop (k + 1) = r := by
      rw [← List.drop_drop, hr]; rfl
    have hk' : k + 1 ≤ H.length := (List.getElem?_eq_some_iff.1 ho).1
    have key : ∀ v, walk P Up L M w0 E (k + 1) r ((fr u0 H a0 k).put o.dst v) → ∃ u, (∀ j, j < k → u j = u0 j) ∧ u k = v ∧ (∀ i o, k + 1 ≤ i → H[i]? = some o →
      if Region.wanted o (yielded L.toArray (fr u H a0 i).tmps) = true then
        match madeAt M i with
        | some S => (∀ w, Below w0.heap.size w0 w → Deps L M (fr u H a0 i) o w → WpYld P Up o (fr u H a0 i) S w) ∧ u i = S.shape (p i S)
        | none => ∀ w, Below w0.heap.size w0 w → Deps L M (fr u H a0 i) o w → (execOp (fr u H a0 i).eval o).run P w = .ok (.value (u i)) w
      else u i = undef) ∧ E (fr u H a0 H.length) := by
      intro v hv
      have e1 : fr (fun j => if j = k then v else u0 j) H a0 k = fr u0 H a0 k := fr_congr fun j hj => by
        show (if j = k then v else u0 j) = u0 j
        rw [if_neg (by omega)]
      have e2 : fr (fun j => if j = k then v else u0 j) H a0 (k + 1) = (fr u0 H a0 k).put o.dst v := by
        rw [fr_succ ho, e1]
        simp
      obtain ⟨u, h1, h2, h3⟩ := path_aux p r (k + 1) (fun j => if j = k then v else u0 j) hr' hk' (by rw [e2]; exact hv)
      refine ⟨u, fun j hj => ?_, ?_, h2, h3⟩
      · rw [h1 j (by omega), if_neg (by omega)]
      · rw [h1 k (by omega), if_pos rfl]
    have fin : ∀ v, (∃ u, (∀ j, j < k → u j = u0 j) ∧ u k = v ∧ (∀ i o, k + 1 ≤ i → H[i]? = some o →
      if Region.wanted o (yielded L.toArray (fr u H a0 i).tmps) = true then
        match madeAt M i with
        | some S => (∀ w, Below w0.heap.size w0 w → Deps L M (fr u H a0 i) o w → WpYld P Up o (fr u H a0 i) S w) ∧ u i = S.shape (p i S)
        | none => ∀ w, Below w0.heap.size w0 w → Deps L M (fr u H a0 i) o w → (execOp (fr u H a0 i).eval o).run P w = .ok (.value (u i)) w
      else u i = undef) ∧ E (fr u H a0 H.length)) → (if Region.wanted o (yielded L.toArray (fr u0 H a0 k).tmps) = true then
        match madeAt M k with
        | some S => (∀ w, Below w0.heap.size w0 w → Deps L M (fr u0 H a0 k) o w → WpYld P Up o (fr u0 H a0 k) S w) ∧ v = S.shape (p k S)
        | none => ∀ w, Below w0.heap.size w0 w → Deps L M (fr u0 H a0 k) o w → (execOp (fr u0 H a0 k).eval o).run P w = .ok (.value v) w
      else v = undef) → ∃ u, (∀ j, j < k → u j = u0 j) ∧ (∀ i o, k ≤ i → H[i]? = some o →
      if Region.wanted o (yielded L.toArray (fr u H a0 i).tmps) = true then
        match madeAt M i with
        | some S => (∀ w, Below w0.heap.size w0 w → Deps L M (fr u H a0 i) o w → WpYld P Up o (fr u H a0 i) S w) ∧ u i = S.shape (p i S)
        | none => ∀ w, Below w0.heap.size w0 w → Deps L M (fr u H a0 i) o w → (execOp (fr u H a0 i).eval o).run P w = .ok (.value (u i)) w
      else u i = undef) ∧ E (fr u H a0 H.length) := by
      rintro v ⟨u, h1, h2, h3, h4⟩ hstep
      refine ⟨u, h1, fun i o' hi ho' => ?_, h4⟩
      by_cases hik : i = k
      · subst hik
        rw [ho] at ho'
        cases ho'
        rw [fr_congr (u' := u0) h1, h2]
        exact hstep
      · exact h3 i o' (by omega) ho'
    rw [walk] at h
    by_cases hw : Region.wanted o (yielded L.toArray (fr u0 H a0 k).tmps) = true
    · rw [if_pos hw] at h
      cases hM : madeAt M k with
      | some S =>
        simp only [hM] at h
        refine fin (S.shape (p k S)) (key _ (h.2 (p k S))) ?_
        rw [if_pos hw, hM]
        exact ⟨h.1, rfl⟩
      | none =>
        simp only [hM] at h
        obtain ⟨v, h1, h2⟩ := h
        refine fin v (key _ h2) ?_
        rw [if_pos hw, hM]
        exact h1
    · rw [if_neg hw] at h
      refine fin undef (key _ h) ?_
      rw [if_neg hw]
theorem path_exists (p : (i : Nat) → (S : Yld) → S.X) (h : walk P Up L M w0 E 0 H a0) : ∃ u, PathP P Up L H M a0 w0 E p u := by
  obtain ⟨u, _, h2, h3⟩ := path_aux (a0 := a0) p H 0 (fun _ => undef) rfl (Nat.zero_le _) (by unfold fr; rw [List.take_zero]; exact h)
  exact ⟨u, fun i o ho => h2 i o (Nat.zero_le _) ho, h3⟩
/-- The frames of a path at a slot that an operation looks at. -/
theorem looks_fr (hP : persB H a0.tmps.size = true) (hR : readsB L H = true) {i : Nat} {o : Oper} (ho : H[i]? = some o) {t : Nat} (ht : t ∈ o.looksAt L.toArray) :
    (oldB H i t = true ∧ ∀ u, (fr u H a0 i).eval (.tmp t) = a0.eval (.tmp t)) ∨ ∃ j oj, H[j]? = some oj ∧ oj.dst = some t ∧ depB o j = true ∧ j < i ∧ ∀ u, (fr u H a0 i).eval (.tmp t) = u j := by
  rcases (readsB_spec hR ho).2.1 t ht with h | ⟨j, oj, hj, hd, hdep⟩
  · exact .inl ⟨h, fun u => fr_old fun j oj hji hj => old_not hP ho hj h hji⟩
  · have hlt := dep_lt hP ho hdep
    exact .inr ⟨j, oj, hj, hd, hdep, hlt, fun u => fr_new hP hj hd hlt⟩
/-- Whether an operation is wanted stands from its own place on. -/
theorem wanted_later (hP : persB H a0.tmps.size = true) (hR : readsB L H = true) (hL : ∀ (i : Nat) (o : Oper), H[i]? = some o → L[i]? = some o) {u : Nat → Value} {j i : Nat} {oj : Oper} (hj : H[j]? = some oj) (hji : j ≤ i) :
    Region.wanted oj (yielded L.toArray (fr u H a0 i).tmps) = Region.wanted oj (yielded L.toArray (fr u H a0 j).tmps) := by
  unfold Region.wanted
  cases hg : oj.guard with
  | none => rfl
  | some gw =>
    obtain ⟨g, want⟩ := gw
    have hdep := (readsB_spec hR hj).2.2 g want hg
    have hlt := dep_lt hP hj hdep
    have hgl : g < H.length := by have := (List.getElem?_eq_some_iff.1 hj).1; omega
    have hog : H[g]? = some H[g] := List.getElem?_eq_getElem hgl
    obtain ⟨⟨d, hd, hdn⟩, _, _⟩ := persB_spec hP hog
    have e1 : (fr u H a0 i).eval (.tmp d) = u g := fr_new hP hog hd (by omega)
    have e2 : (fr u H a0 j).eval (.tmp d) = u g := fr_new hP hog hd hlt
    have hget : ∀ (a : Act), a.tmps.size = a0.tmps.size → a.eval (.tmp d) = u g → yielded L.toArray a.tmps g = (match some (u g) with | some (.bool b) => some b | _ => none) := by
      intro a hz he
      unfold yielded
      have h2 : a.tmps.getD d undef = u g := he
      have hlt' : d < a.tmps.size := by rw [hz]; exact hdn
      rw [Array.getD_eq_getD_getElem?, Array.getElem?_eq_getElem hlt'] at h2
      have h3 : (L.toArray)[g]? = some H[g] := by simpa using hL g _ hog
      rw [h3, Option.bind_some, hd, Option.bind_some, Array.getElem?_eq_getElem hlt']
      simp only [Option.getD_some] at h2
      rw [h2]
      rfl
    show (yielded L.toArray (fr u H a0 i).tmps g == some want) = (yielded L.toArray (fr u H a0 j).tmps g == some want)
    rw [hget _ (fr_size _ _ _ _) e1, hget _ (fr_size _ _ _ _) e2]
/-- What is known of the operations that have been carried out. -/
def Known (L H : List Oper) (M : List (Nat × Yld)) (a0 : Act) (u : Nat → Value) (D : Nat → Prop) (w : World) : Prop :=
  ∀ j oj S, D j → H[j]? = some oj → madeAt M j = some S → Region.wanted oj (yielded L.toArray (fr u H a0 j).tmps) = true → S.R (u j) w
theorem deps_of (hP : persB H a0.tmps.size = true) (hR : readsB L H = true) (hL : ∀ (i : Nat) (o : Oper), H[i]? = some o → L[i]? = some o) {u : Nat → Value} {D : Nat → Prop} {w : World} (hK : Known L H M a0 u D w) {i : Nat} {o : Oper} (ho : H[i]? = some o)
    (hD : ∀ j, depB o j = true → D j) : Deps L M (fr u H a0 i) o w := by
  intro j oj d S hj hd hdep hM hw
  have hlt := dep_lt hP ho hdep
  have hjl : j < H.length := by have := (List.getElem?_eq_some_iff.1 ho).1; omega
  have hj' : H[j]? = some oj := by
    have := hL j _ (List.getElem?_eq_getElem hjl)
    rw [hj] at this
    cases this
    exact List.getElem?_eq_getElem hjl
  rw [fr_new hP hj' hd hlt]
  exact hK j oj S (hD j hdep) hj' hM (by rw [← wanted_later hP hR hL hj' (Nat.le_of_lt hlt)]; exact hw)
/-- Two paths agree on what has been carried out. -/
theorem agree (hP : persB H a0.tmps.size = true) (hR : readsB L H = true) (hL : ∀ (i : Nat) (o : Oper), H[i]? = some o → L[i]? = some o) {p p' : (i : Nat) → (S : Yld) → S.X} {u u' : Nat → Value}
    (h : PathP P Up L H M a0 w0 E p u) (h' : PathP P Up L H M a0 w0 E p' u') {D : Nat → Prop} {w : World} (hw : Below w0.heap.size w0 w) (hcl : ∀ i o, D i → H[i]? = some o → ∀ j, depB o j = true → D j)
    (hp : ∀ i S, D i → p i S = p' i S) (hK : Known L H M a0 u D w) : ∀ i o, D i → H[i]? = some o → u i = u' i ∧ Region.wanted o (yielded L.toArray (fr u H a0 i).tmps) = Region.wanted o (yielded L.toArray (fr u' H a0 i).tmps) := by
  intro i
  induction i using Nat.strongRecOn with
  | ind i ih =>
    intro o hi ho
    have hlooks : ∀ t ∈ o.looksAt L.toArray, (fr u H a0 i).eval (.tmp t) = (fr u' H a0 i).eval (.tmp t) := fun t ht => by
      rcases looks_fr hP hR ho ht with ⟨_, he⟩ | ⟨j, oj, hj, hd, hdep, hlt, he⟩
      · rw [he u, he u']
      · rw [he u, he u']
        exact (ih j hlt oj (hcl i o hi ho j hdep) hj).1
    obtain ⟨e1, e2⟩ := same_of_looks (L := L) (readsB_spec hR ho).1 (by rw [fr_size, fr_size]) hlooks
    refine ⟨?_, e2⟩
    have s1 := h.step i o ho
    have s2 := h'.step i o ho
    rw [← e2] at s2
    by_cases hwt : Region.wanted o (yielded L.toArray (fr u H a0 i).tmps) = true
    · rw [if_pos hwt] at s1 s2
      cases hM : madeAt M i with
      | some S =>
        simp only [hM] at s1 s2
        rw [s1.2, s2.2, hp i S hi]
      | none =>
        simp only [hM] at s1 s2
        have hd1 := deps_of hP hR hL hK ho fun j hj => hcl i o hi ho j hj
        have hd2 : Deps L M (fr u' H a0 i) o w := by
          intro j oj d S hj hd hdep hMj hwj
          have hlt := dep_lt hP ho hdep
          have hjl : j < H.length := by have := (List.getElem?_eq_some_iff.1 ho).1; omega
          have hj' : H[j]? = some oj := by
            have := hL j _ (List.getElem?_eq_getElem hjl)
            rw [hj] at this
            cases this
            exact List.getElem?_eq_getElem hjl
          have hDj := hcl i o hi ho j hdep
          obtain ⟨f1, f2⟩ := ih j hlt oj hDj hj'
          rw [fr_new hP hj' hd hlt, ← f1]
          refine hK j oj S hDj hj' hMj ?_
          rw [f2, ← wanted_later hP hR hL hj' (Nat.le_of_lt hlt)]
          exact hwj
        have r1 := s1 w hw hd1
        have r2 := s2 w hw hd2
        rw [e1, r2] at r1
        injection r1 with h1 _
        injection h1 with h2
        exact h2.symm
    · rw [if_neg hwt] at s1 s2
      rw [s1, s2]
/-- What holds while the head is run. -/
structure InvW (P : Program) (Up : Exit → Prop) (L H : List Oper) (M : List (Nat × Yld)) (a0 : Act) (w0 : World) (E : Act → Prop) (listed : Array Bool) (a : Act) (w : World) : Prop where
  lsize : listed.size = L.length
  tail : ∀ t, H.length ≤ t → t < L.length → listed.getD t true = false
  below : Below w0.heap.size w0 w
  size : a.tmps.size = a0.tmps.size
  defers : a.defers = a0.defers
  old : ∀ t, (∀ i o, H[i]? = some o → listed.getD i true = true → o.dst ≠ some t) → a.eval (.tmp t) = a0.eval (.tmp t)
  closed : ∀ i o, H[i]? = some o → listed.getD i true = true → ∀ j, depB o j = true → listed.getD j true = true
  path : ∃ p u, PathP P Up L H M a0 w0 E p u ∧ (∀ i o d, H[i]? = some o → listed.getD i true = true → o.dst = some d → a.eval (.tmp d) = u i) ∧ Known L H M a0 u (fun i => i < H.length ∧ listed.getD i true = true) w
theorem Known.mono {u : Nat → Value} {D : Nat → Prop} {w w' : World} (h : Known L H M a0 u D w) (hb : Below w.heap.size w w') : Known L H M a0 u D w' := fun j oj S hD hj hM hw => by
  obtain ⟨x, e, hr⟩ := h j oj S hD hj hM hw
  exact ⟨x, e, S.st x w w' hr hb⟩
theorem InvW.looks (hP : persB H a0.tmps.size = true) (hR : readsB L H = true) {listed : Array Bool} {a : Act} {w : World} (h : InvW P Up L H M a0 w0 E listed a w) {u : Nat → Value} (hu : ∀ i o d, H[i]? = some o → listed.getD i true = true → o.dst = some d → a.eval (.tmp d) = u i)
    {i : Nat} {o : Oper} (ho : H[i]? = some o) (hl : listed.getD i true = false) (hd : ∀ j, depB o j = true → listed.getD j true = true) : ∀ t ∈ o.looksAt L.toArray, a.eval (.tmp t) = (fr u H a0 i).eval (.tmp t) := by
  intro t ht
  rcases looks_fr hP hR ho ht with ⟨hold, he⟩ | ⟨j, oj, hj, hdj, hdep, hlt, he⟩
  · rw [he u]
    refine h.old t fun k ok hk hlk e => ?_
    unfold oldB at hold
    rw [List.all_eq_true] at hold
    have := hold (ok, k) (by rw [List.mem_zipIdx_iff_getElem?]; exact hk)
    simp only [Bool.or_eq_true, bne_iff_ne, ne_eq, beq_iff_eq] at this
    rcases this with (h' | h') | h'
    · exact h' e
    · subst h'; rw [hl] at hlk; cases hlk
    · have := h.closed k ok hk hlk i h'
      rw [hl] at this; cases this
  · rw [he u]
    exact hu j oj t hj (hd j hdep) hdj
open Classical in
/-- One operation of the head. -/
theorem InvW.step (hP : persB H a0.tmps.size = true) (hR : readsB L H = true) (hL : ∀ (i : Nat) (o : Oper), H[i]? = some o → L[i]? = some o) (hW : walk P Up L M w0 E 0 H a0) {listed : Array Bool} {a : Act} {w : World} (h : InvW P Up L H M a0 w0 E listed a w)
    {i : Nat} {o : Oper} (ho : H[i]? = some o) (hl : listed.getD i true = false) (hd : ∀ j, depB o j = true → listed.getD j true = true) {K : Act → World → Prop}
    (hK : ∀ v w', Below w.heap.size w w' → InvW P Up L H M a0 w0 E (listed.setIfInBounds i true) (a.put o.dst v) w' → K (a.put o.dst v) w') :
    if Region.wanted o (yielded L.toArray a.tmps) = true then o.wp P a w K (Ups Up a0.defers w0) else K (a.put o.dst undef) w := by
  obtain ⟨⟨d, hod, hdn⟩, _, hun⟩ := persB_spec hP ho
  obtain ⟨p, u, hp, hu, hk⟩ := h.path
  have hil : i < H.length := (List.getElem?_eq_some_iff.1 ho).1
  have hiL : i < L.length := (List.getElem?_eq_some_iff.1 (hL i o ho)).1
  have hi : i < listed.size := by rw [h.lsize]; exact hiL
  obtain ⟨e1, e2⟩ := same_of_looks (L := L) (readsB_spec hR ho).1 (by rw [fr_size, h.size]) (h.looks hP hR hu ho hl hd)
  have hdeps : Deps L M (fr u H a0 i) o w := deps_of hP hR hL hk ho fun j hj => ⟨by have := dep_lt hP ho hj; omega, hd j hj⟩
  have hs := hp.step i o ho
  -- the new invariant, given a path whose value here is v
  have next : ∀ v w', Below w.heap.size w w' → (∃ p' u', PathP P Up L H M a0 w0 E p' u' ∧ u' i = v ∧ (∀ j oj, j < H.length → listed.getD j true = true → H[j]? = some oj → u' j = u j) ∧ Known L H M a0 u' (fun j => j < H.length ∧ (listed.setIfInBounds i true).getD j true = true) w') →
      InvW P Up L H M a0 w0 E (listed.setIfInBounds i true) (a.put o.dst v) w' := by
    rintro v w' hb ⟨p', u', hp', hv, hag, hk'⟩
    refine ⟨by simpa using h.lsize, fun t h1 h2 => by rw [getD_set_ne _ (by omega)]; exact h.tail t h1 h2, h.below.trans (hb.mono h.below.size), by rw [put_size]; exact h.size, by rw [put_defers]; exact h.defers, ?_, ?_, p', u', hp', ?_, hk'⟩
    · intro t ht
      rw [put_get_ne _ _ _ _ (ht i o ho (getD_set_self _ hi))]
      exact h.old t fun j oj hj hlj => ht j oj hj (getD_set_true' hlj)
    · intro j oj hj hlj k hdep
      by_cases hij : i = j
      · subst hij
        rw [ho] at hj
        cases hj
        exact getD_set_true' (hd k hdep)
      · rw [getD_set_ne _ hij] at hlj
        exact getD_set_true' (h.closed j oj hj hlj k hdep)
    · intro j oj dj hj hlj hdj
      by_cases hij : i = j
      · subst hij
        rw [ho] at hj
        cases hj
        rw [hod] at hdj
        cases hdj
        rw [hod, put_get_eq _ _ _ (by rw [h.size]; exact hdn), hv]
      · rw [getD_set_ne _ hij] at hlj
        rw [put_get_ne _ _ _ _ (fun e => hun j oj hj (Ne.symm hij) (hdj.trans e.symm)), hag j oj (List.getElem?_eq_some_iff.1 hj).1 hlj hj]
        exact hu j oj dj hj hlj hdj
  -- the path stays
  have stay : ∀ w', Below w.heap.size w w' → (∀ S, madeAt M i = some S → Region.wanted o (yielded L.toArray (fr u H a0 i).tmps) = true → S.R (u i) w') → InvW P Up L H M a0 w0 E (listed.setIfInBounds i true) (a.put o.dst (u i)) w' := by
    intro w' hb hmade
    refine next _ _ hb ⟨p, u, hp, rfl, fun _ _ _ _ _ => rfl, fun j oj S hj hoj hM hw => ?_⟩
    by_cases hij : i = j
    · subst hij
      rw [ho] at hoj
      cases hoj
      exact hmade S hM hw
    · obtain ⟨hj1, hj2⟩ := hj
      rw [getD_set_ne _ hij] at hj2
      exact hk.mono hb j oj S ⟨hj1, hj2⟩ hoj hM hw
  by_cases hw : Region.wanted o (yielded L.toArray (fr u H a0 i).tmps) = true
  · rw [if_pos hw] at hs
    rw [if_pos (e2.trans hw)]
    cases hM : madeAt M i with
    | none =>
      simp only [hM] at hs
      have hr := hs w h.below hdeps
      unfold Oper.wp Oper.upon
      rw [e1, hr]
      exact hK _ _ (Below.refl _ _) (stay w (Below.refl _ _) fun S hS => by rw [hM] at hS; cases hS)
    | some S =>
      simp only [hM] at hs
      have hwp := hs.1 w h.below hdeps
      have hups : ∀ x a1 w1, Ups Up (fr u H a0 i).defers w x a1 w1 → Ups Up a0.defers w0 x a1 w1 := fun x a1 w1 hq => ⟨hq.1, hq.2.1.trans (fr_defers _ _ _ _), h.below.trans (hq.2.2.mono h.below.size)⟩
      have hwp' : o.wp P a w (fun a' w' => ∃ v, a' = a.put o.dst v ∧ S.R v w' ∧ Below w.heap.size w w') (Ups Up a0.defers w0) := by
        have hput : ∀ v, ∃ v', (fr u H a0 i).put o.dst v = (fr u H a0 i).put o.dst v' := fun v => ⟨v, rfl⟩
        unfold WpYld Oper.wp at hwp
        unfold Oper.wp
        rw [e1]
        generalize (execOp (fr u H a0 i).eval o).run P w = r at hwp ⊢
        have inj : ∀ {v v' : Value}, (fr u H a0 i).put o.dst v = (fr u H a0 i).put o.dst v' → v = v' := fun {v v'} e => by
          have h1 := put_get_eq (fr u H a0 i) d v (by rw [fr_size]; exact hdn)
          have h2 := put_get_eq (fr u H a0 i) d v' (by rw [fr_size]; exact hdn)
          rw [hod] at e
          rw [← h1, e, h2]
        have conv : ∀ (v : Value) (w' : World), (∃ v', (fr u H a0 i).put o.dst v = (fr u H a0 i).put o.dst v' ∧ S.R v' w' ∧ Below w.heap.size w w') → ∃ v', a.put o.dst v = a.put o.dst v' ∧ S.R v' w' ∧ Below w.heap.size w w' := by
          rintro v w' ⟨v', e, hR, hb⟩
          rw [inj e]
          exact ⟨v', rfl, hR, hb⟩
        cases r with
        | halt x w' =>
          cases x <;> simp only [Oper.upon] at hwp ⊢
          case panic v => exact ⟨(hwp : Ups _ _ _ _ _ _).1, h.defers, (hups _ _ _ hwp).2.2⟩
        | ok n w' =>
          cases n <;> simp only [Oper.upon] at hwp ⊢
          case value v => exact conv v w' hwp
          case skip => exact conv undef w' hwp
          case enter f args =>
            refine Calls.mono hwp fun e w'' he => ?_
            cases e with
            | returned v => exact conv v w'' he
            | panicked c => exact ⟨(he : Ups _ _ _ _ _ _).1, h.defers, (hups _ _ _ he).2.2⟩
            | outgrown => obtain ⟨a1, w1, h0⟩ := (he : LetsOut _); exact ⟨a1, w1, hups _ _ _ h0⟩
          case row rw args =>
            exact hwp.mono fun v w'' he => conv v w'' he
          case defer dd =>
            obtain ⟨v', e, _⟩ := hwp
            have := congrArg Act.defers e
            rw [put_defers, put_defers] at this
            have := congrArg List.length this
            simp at this
      refine Oper.wp_mono (fun a' w' hq => ?_) hwp'
      obtain ⟨v, rfl, hRv, hb⟩ := hq
      obtain ⟨x, hx, hrel⟩ := hRv
      refine hK _ _ hb (next v w' hb ?_)
      obtain ⟨u', hp'⟩ := path_exists (a0 := a0) (fun k S' => if hh : k = i ∧ S' = S then hh.2 ▸ x else p k S') hW
      have hag := agree hP hR hL hp hp' (D := fun j => j < H.length ∧ listed.getD j true = true) (w := w) h.below (fun j oj hj hoj k hdep => ⟨by have := dep_lt hP hoj hdep; omega, h.closed j oj hoj hj.2 k hdep⟩)
        (fun j S' hj => by
          have hne : ¬ (j = i ∧ S' = S) := fun hh => by
            have := hj.2
            rw [hh.1, hl] at this
            cases this
          simp only [dif_neg hne]) hk
      have hlooks' : ∀ t ∈ o.looksAt L.toArray, (fr u H a0 i).eval (.tmp t) = (fr u' H a0 i).eval (.tmp t) := fun t ht => by
        rcases looks_fr hP hR ho ht with ⟨_, he⟩ | ⟨j, oj, hj, hdj, hdep, hlt, he⟩
        · rw [he u, he u']
        · rw [he u, he u']
          exact (hag j oj ⟨by omega, hd j hdep⟩ hj).1
      obtain ⟨-, e4⟩ := same_of_looks (L := L) (readsB_spec hR ho).1 (by rw [fr_size, fr_size]) hlooks'
      have hui : u' i = v := by
        have s := hp'.step i o ho
        rw [← e4, if_pos hw, hM] at s
        have := s.2
        rw [this, hx]
        simp
      refine ⟨_, u', hp', hui, fun j oj hj hlj hoj => ((hag j oj ⟨hj, hlj⟩ hoj).1).symm, fun j oj S' hj hoj hMj hwj => ?_⟩
      by_cases hij : i = j
      · subst hij
        rw [ho] at hoj
        cases hoj
        rw [hM] at hMj
        cases hMj
        rw [hui]
        exact ⟨x, hx, hrel⟩
      · obtain ⟨hj1, hj2⟩ := hj
        rw [getD_set_ne _ hij] at hj2
        obtain ⟨f1, f2⟩ := hag j oj ⟨hj1, hj2⟩ hoj
        rw [← f1]
        exact hk.mono hb j oj S' ⟨hj1, hj2⟩ hoj hMj (by rw [f2]; exact hwj)
  · rw [if_neg hw] at hs
    rw [if_neg (by rw [e2]; exact hw), ← hs]
    exact hK _ _ (Below.refl _ _) (stay w (Below.refl _ _) fun S _ hw' => absurd hw' hw)
theorem getD_tf {listed : Array Bool} {j : Nat} (h : listed.getD j false = true) : listed.getD j true = true := by
  by_cases hj : j < listed.size
  · rw [getD_lt hj]; exact h
  · simp [Array.getD_eq_getD_getElem?, Array.getElem?_eq_none (Nat.not_lt.1 hj)]
/-- What is known when the head is done. -/
def Facts (L H : List Oper) (M : List (Nat × Yld)) (a : Act) (w : World) : Prop :=
  ∀ i o d S, H[i]? = some o → o.dst = some d → madeAt M i = some S → Region.wanted o (yielded L.toArray a.tmps) = true → S.R (a.eval (.tmp d)) w
theorem InvW.done (hP : persB H a0.tmps.size = true) (hR : readsB L H = true) (hL : ∀ (i : Nat) (o : Oper), H[i]? = some o → L[i]? = some o) {listed : Array Bool} {a : Act} {w : World} (h : InvW P Up L H M a0 w0 E listed a w)
    (hall : ∀ i, i < H.length → listed.getD i true = true) : E a ∧ Facts L H M a w := by
  obtain ⟨p, u, hp, hu, hk⟩ := h.path
  have he : fr u H a0 H.length = a := by
    refine act_ext (by rw [fr_size, h.size]) (by rw [fr_defers, h.defers]) fun t => ?_
    by_cases ht : ∃ (i : Nat) (o : Oper), H[i]? = some o ∧ o.dst = some t
    · obtain ⟨i, o, ho, hod⟩ := ht
      have hi := (List.getElem?_eq_some_iff.1 ho).1
      rw [fr_new hP ho hod hi]
      exact (hu i o t ho (hall i hi) hod).symm
    · rw [fr_old fun j o _ ho e => ht ⟨j, o, ho, e⟩]
      exact (h.old t fun i o ho _ e => ht ⟨i, o, ho, e⟩).symm
  refine ⟨he ▸ hp.fin, fun i o d S ho hd hM hw => ?_⟩
  have hi := (List.getElem?_eq_some_iff.1 ho).1
  rw [hu i o d ho (hall i hi) hd]
  refine hk i o S ⟨hi, hall i hi⟩ ho hM ?_
  rw [← wanted_later hP hR hL ho (Nat.le_of_lt hi), he]
  exact hw
theorem seq_listed {n : Nat} {listed : Array Bool} (hn : n ≤ L.length) (hs : listed.size = L.length) (h1 : ∀ i, i < n → listed.getD i true = true) (h2 : ∀ t, n ≤ t → t < L.length → listed.getD t true = false) :
    listed = (List.replicate n true ++ List.replicate (L.length - n) false).toArray := by
  apply Array.ext
  · simp; omega
  · intro i hi1 hi2
    have e : listed.getD i true = listed[i] := by simp [Array.getD_eq_getD_getElem?, hi1]
    rw [← e]
    by_cases hin : i < n
    · rw [h1 i hin]
      simp [hin]
    · rw [h2 i (by omega) (by omega)]
      simp [List.getElem_append, hin]
theorem wpAny_walk {Q : Exit → Act → World → Prop} {n : Nat} (hH : H = L.take n) (hn : n ≤ L.length) (hP : persB H a0.tmps.size = true) (hR : readsB L H = true) (hT : n = L.length ∨ tailB L n = true) (hW : walk P Up L M w0 E 0 H a0)
    (hup : ∀ x a w, Ups Up a0.defers w0 x a w → Q x a w) (hend : ∀ a w, E a → Below w0.heap.size w0 w → Facts L H M a w → wpList P L.toArray Q (L.drop n) a w) :
    ∀ (fuel : Nat) (U : List Nat) (listed : Array Bool) (a : Act) (w : World), U.Nodup → (∀ i, i ∈ U ↔ i < n ∧ listed.getD i true = false) → fuel = U.length + (L.length - n) → InvW P Up L H M a0 w0 E listed a w → wpAny P .any L.toArray Q fuel listed a w := by
  have hHl : H.length = n := by rw [hH]; simp; omega
  have hL : ∀ (i : Nat) (o : Oper), H[i]? = some o → L[i]? = some o := fun i o h => by
    rw [hH, List.getElem?_take] at h
    split at h
    · exact h
    · cases h
  have hLH : ∀ (i : Nat) (o : Oper), i < n → L[i]? = some o → H[i]? = some o := fun i o hi h => by
    rw [hH, List.getElem?_take, if_pos hi]; exact h
  intro fuel
  induction fuel with
  | zero =>
    intro U listed a w _ hU hf h
    have hU0 : U = [] := List.eq_nil_of_length_eq_zero (by omega)
    have hnl : n = L.length := by omega
    have hall : ∀ i, i < n → listed.getD i true = true := fun i hi => by
      cases hl : listed.getD i true with
      | true => rfl
      | false => have := (hU i).2 ⟨hi, hl⟩; rw [hU0] at this; cases this
    obtain ⟨hE, hF⟩ := h.done hP hR hL (fun i hi => hall i (by omega))
    have hq := hend a w hE h.below hF
    rw [hnl, List.drop_length] at hq
    exact ⟨ready_none fun i hi => hall i (by omega), hq⟩
  | succ fuel ih =>
    intro U listed a w hnd hU hf h
    by_cases hU0 : U = []
    · have hall : ∀ i, i < n → listed.getD i true = true := fun i hi => by
        cases hl : listed.getD i true with
        | true => rfl
        | false => have := (hU i).2 ⟨hi, hl⟩; rw [hU0] at this; cases this
      obtain ⟨hE, hF⟩ := h.done hP hR hL (fun i hi => hall i (by omega))
      have hq := hend a w hE h.below hF
      rw [hU0] at hf
      simp only [List.length_nil, Nat.zero_add] at hf
      have hT' : tailB L n = true := hT.resolve_left (by omega)
      unfold tailB at hT'
      simp only [Bool.and_eq_true] at hT'
      have hlist := seq_listed (L := L) hn h.lsize hall (fun t h1 h2 => h.tail t (by omega) h2)
      have := wpAny_of_seq (P := P) (md := .any) (ops := L.toArray) (Q' := Q) (L.drop n) n listed a w (fun j => by simp [List.getElem?_drop]) (by rw [List.length_drop, hlist]; exact hT'.2) hq
      rw [List.length_drop, ← hf] at this
      exact this
    · have hnotall : ¬ ∀ i, i < n → listed.getD i true = true := fun hall => by
        obtain ⟨x, hx⟩ := List.exists_mem_of_ne_nil _ hU0
        have := (hU x).1 hx
        rw [hall x this.1] at this
        exact absurd this.2 (by decide)
      refine ⟨fun hr => ?_, fun i hi => ?_⟩
      · exfalso
        refine hnotall fun i => ?_
        induction i using Nat.strongRecOn with
        | ind i ihi =>
          intro hi
          cases hl : listed.getD i true with
          | true => rfl
          | false =>
            have ho : H[i]? = some (H[i]'(by omega)) := List.getElem?_eq_getElem _
            obtain ⟨_, h2, _⟩ := persB_spec hP ho
            have : i ∈ Region.ready .any L.toArray listed := by
              rw [mem_ready]
              refine ⟨hl, _, by simpa using hL i _ ho, fun e he hb => ?_⟩
              have hlt := h2 e he hb
              rw [← getD_lt (by rw [h.lsize]; omega)]
              exact ihi e.on hlt (by omega)
            rw [hr] at this
            cases this
      rw [mem_ready] at hi
      obtain ⟨hl, o, ho, hdeps⟩ := hi
      have hoL : L[i]? = some o := by simpa using ho
      have hiL : i < L.length := (List.getElem?_eq_some_iff.1 hoL).1
      have hd : ∀ j, depB o j = true → listed.getD j true = true := fun j hj => by
        obtain ⟨e, he, hon, hb⟩ := depB_of hj
        have := hdeps e he hb
        rw [hon] at this
        exact getD_tf this
      by_cases hin : i < n
      · have ho' := hLH i o hin hoL
        have hs := h.step hP hR hL hW ho' hl hd (K := wpAny P .any L.toArray Q fuel (listed.setIfInBounds i true)) (fun v w' _ hinv => by
          refine ih (U.erase i) _ _ _ (hnd.erase i) (fun j => ?_) ?_ hinv
          · rw [hnd.mem_erase_iff, hU j]
            constructor
            · rintro ⟨h1, h2, h3⟩
              exact ⟨h2, by rw [getD_set_ne _ (Ne.symm h1)]; exact h3⟩
            · rintro ⟨h1, h2⟩
              have hne : j ≠ i := by
                rintro rfl
                rw [getD_set_self _ (by rw [h.lsize]; exact hiL)] at h2; cases h2
              rw [getD_set_ne _ (Ne.symm hne)] at h2
              exact ⟨hne, h1, h2⟩
          · have hm := (hU i).2 ⟨hin, hl⟩
            have := List.length_pos_of_mem hm
            rw [List.length_erase_of_mem hm]
            omega)
        unfold wpOp
        rw [ho]
        simp only
        split at hs
        · next hw => rw [if_pos hw]; exact .inl (oper_wp_to hup hs)
        · next hw => rw [if_neg hw]; exact hs
      · exfalso
        have hT' : tailB L n = true := hT.resolve_left (by omega)
        unfold tailB at hT'
        simp only [Bool.and_eq_true] at hT'
        obtain ⟨⟨hT1, hT2⟩, _⟩ := hT'
        by_cases hni : i = n
        · subst hni
          refine hnotall ?_
          have key : ∀ m k, i - k = m → k < i → listed.getD k true = true := by
            intro m
            induction m using Nat.strongRecOn with
            | ind m ihm =>
              intro k hm hk
              have := List.all_eq_true.1 hT1 k (List.mem_range.2 hk)
              rw [Bool.or_eq_true, hoL] at this
              rcases this with h1 | h1
              · exact hd k h1
              · obtain ⟨⟨o', k'⟩, hm', h2⟩ := List.any_eq_true.1 h1
                simp only [Bool.and_eq_true, decide_eq_true_eq] at h2
                rw [List.mem_zipIdx_iff_getElem?, ← hH] at hm'
                have hk' := (List.getElem?_eq_some_iff.1 hm').1
                exact h.closed k' o' hm' (ihm (i - k') (by omega) k' rfl (by omega)) k h2.2
          exact fun k hk => key _ k rfl hk
        · have := List.all_eq_true.1 hT2 (o, i) (by rw [List.mem_zipIdx_iff_getElem?]; exact hoL)
          simp only [Bool.or_eq_true, decide_eq_true_eq] at this
          rcases this with h1 | h1
          · omega
          · have h2 := hd _ h1
            rw [h.tail (i - 1) (by omega) (by omega)] at h2
            cases h2
/-- THE LAW: n operations in whatever order, walked in the list's order; the rest behind them. -/
theorem wp_region_walkU {id : Nat} {Q : Exit → Act → World → Prop} (n : Nat) (M : List (Nat × Yld)) (hm : P.follows .mixedOrders = true) (hB : walkB L n a0.tmps.size = true) (hup : ∀ x a w, Ups Up a0.defers w0 x a w → Q x a w)
    (h : walk P Up L M w0 (fun a => ∀ w, Below w0.heap.size w0 w → Facts L (L.take n) M a w → wpList P L.toArray Q (L.drop n) a w) 0 (L.take n) a0) : (Code.region id L.toArray true).wp P Q a0 w0 := by
  unfold walkB at hB
  simp only [Bool.and_eq_true, Bool.or_eq_true, decide_eq_true_eq] at hB
  obtain ⟨⟨⟨hn, hP⟩, hR⟩, hT⟩ := hB
  refine wp_region_any hm ?_
  have hf : ∀ i, i < L.length → (Array.replicate L.toArray.size false).getD i true = false := fun i hi => by
    rw [Array.getD_eq_getD_getElem?, Array.getElem?_eq_getElem (by simpa using hi)]
    simp
  have hHl : (L.take n).length = n := by simp; omega
  obtain ⟨u, hu⟩ := path_exists (a0 := a0) (fun _ S => S.inh) h
  refine wpAny_walk (w0 := w0) rfl hn hP hR hT h hup (fun a w hE hb hF => hE w hb hF) _ (List.range n) _ _ _ List.nodup_range (fun i => ?_) (by simp; omega) ?_
  · rw [List.mem_range]
    exact ⟨fun hi => ⟨hi, hf i (by omega)⟩, fun hi => hi.1⟩
  · refine ⟨by simp, fun t _ ht => hf t ht, ⟨rfl, rfl, rfl, Nat.le_refl _, fun _ _ => rfl⟩, rfl, rfl, fun t _ => rfl, fun i o ho hl => ?_, _, u, hu, fun i o d ho hl => ?_, fun j oj S hj => ?_⟩
    · have := (List.getElem?_eq_some_iff.1 ho).1
      rw [hf i (by omega)] at hl; cases hl
    · have := (List.getElem?_eq_some_iff.1 ho).1
      rw [hf i (by omega)] at hl; cases hl
    · have := hj.2
      rw [hf j (by omega)] at this; cases this
/-- The same where nothing goes up. -/
theorem wp_region_walk {id : Nat} {Q : Exit → Act → World → Prop} (n : Nat) (M : List (Nat × Yld)) (hm : P.follows .mixedOrders = true) (hB : walkB L n a0.tmps.size = true)
    (h : walk P NoUp L M w0 (fun a => ∀ w, Below w0.heap.size w0 w → Facts L (L.take n) M a w → wpList P L.toArray Q (L.drop n) a w) 0 (L.take n) a0) : (Code.region id L.toArray true).wp P Q a0 w0 :=
  wp_region_walkU n M hm hB (fun _ _ _ hq => (hq.1 : False).elim) h
end
end Go.Fd
namespace Go.Fd
open Go.RowKit
/-- An operation that comes to a value, if it comes to anything. -/
def valB (o : Oper) : Bool :=
  match o.op with
  | .move _ | .assign _ | .pick _ _ _ | .alloc _ | .box _ _ | .build _ _ | .buildSlice _ _ _ | .load _ _ | .binOp _ _ _ _ _ | .unOp _ _ _ | .convert _ _ _ | .makeInterface _ _ | .makeFunc _ _ _ | .makeSlice _ _ _ | .makeMap _ _ | .slice _ _ _ _ _ | .fieldAddr _ _ _ | .field _ _ _ | .indexAddr _ _ _ | .index _ _ _ | .lookup _ _ _ _ | .extract _ _ | .typeAssert _ _ _ _ => true
  | .call c => (match c.callee with | .builtin .len => true | .builtin .cap => true | .builtin .min => true | .builtin .max => true | .builtin .append => true | .builtin .copy => true | _ => false)
  | _ => false
theorem run_v {P : Program} {s : Sem Value} {w w' : World} {n : Next} (h : (do pure (.value (← s)) : Sem Next).run P w = .ok n w') : ∃ v, n = .value v := by
  rw [Sem.run_bind] at h
  cases hs : s.run P w with
  | ok v w1 =>
    rw [hs, Result.andThen_ok] at h
    have : (pure (Next.value v) : Sem Next).run P w1 = .ok (.value v) w1 := rfl
    rw [this] at h
    cases h
    exact ⟨v, rfl⟩
  | halt x w1 =>
    rw [hs, Result.andThen_halt] at h
    cases h
theorem valB_spec {P : Program} {o : Oper} (h : valB o = true) {ρ : Operand → Value} {w w' : World} {n : Next} (hr : (execOp ρ o).run P w = .ok n w') : ∃ v, n = .value v := by
  obtain ⟨dst, op, type, pos, after, guard⟩ := o
  cases op <;> simp only [valB] at h <;> simp only [execOp] at hr
  case move x => exact run_v (s := pure (ρ x)) hr
  case assign x => exact run_v (s := pure (ρ x)) hr
  case call c =>
    obtain ⟨callee, args, ats⟩ := c
    cases callee with
    | value f => cases h
    | invoke r m => cases h
    | builtin b =>
      cases b <;> simp only at h <;> first | (cases h; done) | exact run_v hr
  case pick c x y =>
    rw [Sem.run_bind] at hr
    cases hs : (asBool (ρ c)).run P w with
    | ok v w1 =>
      rw [hs, Result.andThen_ok] at hr
      have : (pure (Next.value (if v = true then ρ x else ρ y)) : Sem Next).run P w1 = .ok (.value (if v = true then ρ x else ρ y)) w1 := rfl
      exact ⟨(if v = true then ρ x else ρ y), by
        rw [show (pure (Next.value (if v = true then ρ x else ρ y)) : Sem Next).run P w1 = .ok (.value (if v = true then ρ x else ρ y)) w1 from rfl] at hr
        cases hr; rfl⟩
    | halt x w1 =>
      rw [hs, Result.andThen_halt] at hr
      cases hr
  all_goals first | (cases h; done) | exact run_v hr
section
variable {P : Program} {Up : Exit → Prop} {L r : List Oper} {M : List (Nat × Yld)} {a : Act} {w0 : World} {E : Act → Prop} {i : Nat} {o : Oper}
theorem Above.cell (x : Above w0) (b k : Nat) (h : b < w0.heap.size) : x.w.cell? ⟨b, k, none⟩ = w0.cell? ⟨b, k, none⟩ := x.h.cell (p := ⟨b, k, none⟩) h
theorem walk_skip (hw : Region.wanted o (yielded L.toArray a.tmps) = false) (h : walk P Up L M w0 E (i + 1) r (a.put o.dst undef)) : walk P Up L M w0 E i (o :: r) a := by
  rw [walk, if_neg (by rw [hw]; exact Bool.false_ne_true)]
  exact h
theorem walk_val {v : Value} (hw : Region.wanted o (yielded L.toArray a.tmps) = true) (hM : madeAt M i = none) (h : ∀ w, Below w0.heap.size w0 w → Deps L M a o w → (execOp a.eval o).run P w = .ok (.value v) w) (hn : walk P Up L M w0 E (i + 1) r (a.put o.dst v)) : walk P Up L M w0 E i (o :: r) a := by
  rw [walk, if_pos hw, hM]
  exact ⟨v, h, hn⟩
theorem walk_made {S : Yld} (hw : Region.wanted o (yielded L.toArray a.tmps) = true) (hM : madeAt M i = some S) (h : ∀ w, Below w0.heap.size w0 w → Deps L M a o w → WpYld P Up o a S w) (hn : ∀ x, walk P Up L M w0 E (i + 1) r (a.put o.dst (S.shape x))) : walk P Up L M w0 E i (o :: r) a := by
  rw [walk, if_pos hw, hM]
  exact ⟨h, hn⟩
/-- An operation that is run by the walk's own rules. -/
theorem walk_quiet (hw : Region.wanted o (yielded L.toArray a.tmps) = true) (hM : madeAt M i = none) (hv : valB o = true) (h : ∀ K : Act → Prop, (∀ a, walk P Up L M w0 E (i + 1) r a → K a) → o.quiet P a (fun w => ∃ x : Above w0, w = x.w) K) : walk P Up L M w0 E i (o :: r) a := by
  obtain ⟨v, h1, h2⟩ := h (walk P Up L M w0 E (i + 1) r) (fun _ h => h)
  refine walk_val hw hM (fun w hb _ => ?_) h2
  have := h1 w ⟨⟨w, hb⟩, rfl⟩
  unfold Oper.quietAt at this
  generalize hr : (execOp a.eval o).run P w = res at this
  cases res with
  | halt x w' => exact this.elim
  | ok n w' =>
    obtain ⟨u, rfl⟩ := valB_spec hv hr
    obtain ⟨rfl, rfl⟩ := (this : w' = w ∧ u = v)
    rfl
theorem walk_nil (h : E a) : walk P Up L M w0 E i [] a := h
theorem WpYld.val {S : Yld} {v : Value} {w w' : World} (hr : (execOp a.eval o).run P w = .ok (.value v) w') (hR : S.R v w') (hb : Below w.heap.size w w') : WpYld P Up o a S w := by
  unfold WpYld Oper.wp Oper.upon
  rw [hr]
  exact ⟨v, rfl, hR, hb⟩
theorem WpYld.call {S : Yld} {f : FuncId} {args : Array Value} {w : World} (hr : (execOp a.eval o).run P w = .ok (.enter f args) w) (h : Calls P f args w fun e w' => ∃ v, e = .returned v ∧ S.R v w' ∧ Below w.heap.size w w') : WpYld P Up o a S w := by
  unfold WpYld Oper.wp Oper.upon
  rw [hr]
  refine h.mono fun e w' ⟨v, he, hv, hb⟩ => ?_
  subst he
  exact ⟨v, rfl, hv, hb⟩
/-- A call that returns, or goes up. -/
theorem WpYld.callUp {S : Yld} {f : FuncId} {args : Array Value} {w : World} (hr : (execOp a.eval o).run P w = .ok (.enter f args) w) (h : Calls P f args w fun e w' => (∃ v, e = .returned v ∧ S.R v w' ∧ Below w.heap.size w w') ∨ (∃ c, e = .panicked c ∧ Up (.panic c) ∧ Below w.heap.size w w')) : WpYld P Up o a S w := by
  unfold WpYld Oper.wp Oper.upon
  rw [hr]
  refine h.mono fun e w' he => ?_
  rcases he with ⟨v, he, hv, hb⟩ | ⟨c, he, hv, hb⟩
  · subst he
    exact ⟨v, rfl, hv, hb⟩
  · subst he
    exact ⟨hv, rfl, hb⟩
end
theorem run_callL {P : Program} {a : Act} {w : World} {d : Option Tmp} {ty : TypeId} {pos : String} {aft : Array Edge} {g : Option (Nat × Bool)} {f : FuncId} {fn : Func} {xs : List Operand} {ts : Array TypeId} {vals : List Value} (hf : P.funcs[f]? = some fn) (hn : (fn.name == "runtime.NumGoroutine") = false) {c : Code} (hb : fn.body = some c) (hx : xs.map a.eval = vals) :
    (execOp a.eval ⟨d, .call { callee := .value (.func f), args := xs.toArray, argTypes := ts }, ty, pos, aft, g⟩).run P w = .ok (.enter f vals.toArray) w :=
  run_call hf hn hb (by rw [List.map_toArray, hx])
theorem WpYld.callIs {P : Program} {Up : Exit → Prop} {a : Act} {o : Oper} {f : FuncId} {args : Array Value} {c : Value} {w : World} (hr : (execOp a.eval o).run P w = .ok (.enter f args) w) (h : Calls P f args w fun e w' => e = .returned c ∧ w = w') : WpYld P Up o a (Yld.is c) w :=
  WpYld.call hr (h.mono fun _ _ ⟨he, hw⟩ => ⟨c, he, ⟨(), rfl, trivial⟩, hw ▸ Below.refl _ _⟩)
section
variable {P : Program} {Up : Exit → Prop} {L r : List Oper} {M : List (Nat × Yld)} {a : Act} {w0 : World} {E : Act → Prop} {i : Nat} {o : Oper}
theorem walk_is {c : Value} (hw : Region.wanted o (yielded L.toArray a.tmps) = true) (hM : madeAt M i = some (Yld.is c)) (h : ∀ w, Below w0.heap.size w0 w → Deps L M a o w → WpYld P Up o a (Yld.is c) w) (hn : walk P Up L M w0 E (i + 1) r (a.put o.dst c)) : walk P Up L M w0 E i (o :: r) a :=
  walk_made hw hM h fun _ => hn
theorem walk_any {rel : Value → World → Prop} {st} (hw : Region.wanted o (yielded L.toArray a.tmps) = true) (hM : madeAt M i = some (Yld.any rel st)) (h : ∀ w, Below w0.heap.size w0 w → Deps L M a o w → WpYld P Up o a (Yld.any rel st) w) (hn : ∀ v : Value, walk P Up L M w0 E (i + 1) r (a.put o.dst v)) : walk P Up L M w0 E i (o :: r) a :=
  walk_made hw hM h hn
end
/-- A block of memory, made in the region, of so many cells. -/
def Yld.new (B : Nat) (t : TypeId) (n : Nat) : Yld := ⟨Nat, 0, fun g => .pointer (some ⟨g, 0, none⟩), fun g w => B ≤ g ∧ ∃ cs : Array Value, w.heap[g]? = some (.cells cs t (0, 0)) ∧ cs.size = n,
  fun g w w' ⟨h1, cs, h2, h3⟩ hb => ⟨h1, cs, by rw [hb.block g (Array.getElem?_eq_some_iff.1 h2).1]; exact h2, h3⟩⟩
theorem walk_new {P : Program} {Up : Exit → Prop} {L r : List Oper} {M : List (Nat × Yld)} {a : Act} {w0 : World} {E : Act → Prop} {i : Nat} {o : Oper} {B n : Nat} {t : TypeId} (hw : Region.wanted o (yielded L.toArray a.tmps) = true) (hM : madeAt M i = some (Yld.new B t n)) (h : ∀ w, Below w0.heap.size w0 w → Deps L M a o w → WpYld P Up o a (Yld.new B t n) w) (hn : ∀ g : Nat, walk P Up L M w0 E (i + 1) r (a.put o.dst (.pointer (some ⟨g, 0, none⟩)))) : walk P Up L M w0 E i (o :: r) a :=
  walk_made hw hM h hn
theorem Yld.new_got {B n g : Nat} {t : TypeId} {w : World} (h : (Yld.new B t n).R (.pointer (some ⟨g, 0, none⟩)) w) : B ≤ g ∧ ∃ cs : Array Value, w.heap[g]? = some (.cells cs t (0, 0)) ∧ cs.size = n := by
  obtain ⟨x, e, hr⟩ := h
  have : g = x := by
    have e' : (Value.pointer (some ⟨g, 0, none⟩)) = .pointer (some ⟨x, 0, none⟩) := e
    injection e' with e'; injection e' with e'; injection e'
  subst this
  exact hr
theorem Yld.new_mk {w0 w : World} {t : TypeId} (cs : Array Value) (h : Below w0.heap.size w0 w) : (Yld.new w0.heap.size t cs.size).R (.pointer (some ⟨w.heap.size, 0, none⟩)) (w.alloc (.cells cs t)) ∧ Below w.heap.size w (w.alloc (.cells cs t)) :=
  ⟨⟨w.heap.size, rfl, h.size, cs, heap_alloc_last w _, rfl⟩, below_alloc w _⟩
section
variable {P : Program} {ops : Array Oper} {rest : List Oper} {Q : Exit → Act → World → Prop} {a : Act} {w : World}
/-- The store of a record into a block that was made. -/
theorem wpList_storeMade {d : Option Tmp} {ty t : TypeId} {pos : String} {aft : Array Edge} {p x : Operand} {c c' : Array Value} {g B : Nat} (hg : w.heap[g]? = some (.cells c t (0, 0))) (hp : a.eval p = .pointer (some ⟨g, 0, none⟩)) (hx : a.eval x = .agg c')
    (hi : (P.info? t).map (·.size) = some c'.size) (ho : c.size = c'.size) (h1 : c'.all (·.oneCell') = true) (hB : B ≤ g) (hBw : B ≤ w.heap.size)
    (h : ∀ w1, w1.heap[g]? = some (.cells c' t (0, 0)) → Below B w w1 → wpList P ops Q rest (a.put d undef) w1) :
    wpList P ops Q (⟨d, .store t p x, ty, pos, aft, none⟩ :: rest) a w := by
  unfold wpList
  rw [if_pos (by simp [Region.wanted])]
  exact .inl (wp_store_made hg hp hx hi ho h1 hB hBw h)
end
end Go.Fd
namespace Go.Proofs.Ytmpelmjhimalpaa
open Go.RowKit Go.Fd
/-- At a place lies a name with a 0 behind. -/
def InTab (T : List UInt8) (p : Nat) (s : List UInt8) : Prop := ∃ a b, T = a ++ (s ++ 0 :: b) ∧ a.length = p
theorem InTab.app {T : List UInt8} {p : Nat} {s : List UInt8} (h : InTab T p s) (x : List UInt8) : InTab (T ++ x) p s := by
  obtain ⟨a, b, rfl, hp⟩ := h
  exact ⟨a, b ++ x, by simp, hp⟩
theorem InTab.lt {T : List UInt8} {p : Nat} {s : List UInt8} (h : InTab T p s) : p + s.length < T.length := by
  obtain ⟨a, b, rfl, hp⟩ := h
  simp; omega
theorem InTab.drop {T : List UInt8} {p : Nat} {s : List UInt8} (h : InTab T p s) : ∃ b, T.drop p = s ++ 0 :: b := by
  obtain ⟨a, b, rfl, rfl⟩ := h
  exact ⟨b, by simp⟩
theorem upto0_name (s b : List UInt8) (h : (0 : UInt8) ∉ s) : upto0 (s ++ 0 :: b) = some s := by
  induction s with
  | nil => simp [upto0]
  | cons c s ih =>
    simp only [List.mem_cons, not_or] at h
    rw [List.cons_append, upto0, if_neg (fun e => h.1 e.symm), ih h.2]
    rfl
theorem InTab.upto {T : List UInt8} {p : Nat} {s : List UInt8} (h : InTab T p s) (h0 : (0 : UInt8) ∉ s) : upto0 (T.drop p) = some s := by
  obtain ⟨b, hb⟩ := h.drop
  rw [hb, upto0_name s b h0]
theorem mayS_no0 {s : List UInt8} (h : mayS s = true) : (0 : UInt8) ∉ s := by unfold mayS at h; simp at h; exact h.2
theorem build_in (names : List (List UInt8)) : ∀ s p, lkp (buildT names).at_ s = some p → InTab (buildT names).tab p s := by
  refine snoc_ind (P := fun names => ∀ s p, lkp (buildT names).at_ s = some p → InTab (buildT names).tab p s) ?_ (fun names x ih => ?_) names
  · intro s p h
    have h' : lkp [(([] : List UInt8), 0)] s = some p := h
    rw [lkp_cons] at h'
    by_cases e : s = []
    · rw [if_pos e] at h'
      cases h'
      subst e
      exact ⟨[], [], rfl, rfl⟩
    · rw [if_neg e] at h'
      exact absurd h' (by simp [lkp])
  · intro s p h
    rw [buildT_snoc] at h ⊢
    rw [step_at] at h
    unfold stepB
    cases hx : lkp (buildT names).at_ x with
    | some q =>
      rw [hx] at h
      by_cases e : s = x
      · rw [if_pos e] at h
        cases h
        subst e
        exact ih s _ hx
      · rw [if_neg e] at h
        exact ih s p h
    | none =>
      rw [hx] at h
      by_cases e : s = x
      · rw [if_pos e] at h
        cases h
        subst e
        exact ⟨(buildT names).tab, [], by simp, rfl⟩
      · rw [if_neg e] at h
        have := ((ih s p h).app x).app [0]
        exact this
theorem at_place {T : List UInt8} {p : Nat} {s : List UInt8} (h : InTab T p s) (hs : mayS s = true) : atR T p = (s, 0) := by
  unfold atR
  have hl := h.lt
  rw [if_neg (by omega), Int.toNat_natCast, h.upto (mayS_no0 hs)]
  have := mayS_len hs
  simp
  omega
/-- What is known where a table was built. -/
theorem build_ok {names : List (List UInt8)} (h : (buildR names).2.2 = 0) : names.all mayS = true ∧ buildR names = ((buildT names).tab, (buildT names).out, 0) := by
  unfold buildR at h ⊢
  by_cases h1 : names.all mayS = true
  · rw [if_pos h1] at h ⊢
    by_cases h2 : 1048576 < (buildT names).tab.length
    · rw [if_pos h2] at h
      simp at h
    · rw [if_neg h2]
      exact ⟨h1, rfl⟩
  · rw [if_neg h1] at h
    simp at h
/-- At each name: its place. -/
theorem build_at {names : List (List UInt8)} (h : names.all mayS = true) {i : Nat} {s : List UInt8} (hi : names[i]? = some s) : ∃ p, (buildT names).out[i]? = some p ∧ lkp (buildT names).at_ s = some p ∧ InTab (buildT names).tab p s ∧ mayS s = true := by
  have hp := build_places names
  have hlt : i < names.length := (List.getElem?_eq_some_iff.1 hi).1
  have ho : (buildT names).out[i]? = some ((buildT names).out[i]'(by rw [hp.1]; exact hlt)) := List.getElem?_eq_getElem _
  have hl := hp.2.1 i s _ hi ho
  exact ⟨_, ho, hl, build_in names s _ hl, List.all_eq_true.1 h s (List.mem_of_getElem? hi)⟩
end Go.Proofs.Ytmpelmjhimalpaa
namespace Go.Proofs.Ytmpelmjhimalpaa
open Go.RowKit Go.Fd
theorem TTexts : SliceT Try.prog 98 9 1 16 := SliceT.mk' (z := .string ⟨#[]⟩) (by kernel_rfl) (by kernel_rfl) rfl (by omega)
theorem ats_ok {names : List (List UInt8)} (h : (buildR names).2.2 = 0) (hl : names.length ≤ 1000) : (buildR names).2.1.length = names.length ∧ ∀ p ∈ (buildR names).2.1, p ≤ 130000 := by
  obtain ⟨h1, h2⟩ := build_ok h
  rw [List.all_eq_true] at h1
  have h3 := buildT_len names fun s hs => by have := h1 s hs; unfold mayS at this; simp at this; exact this.1
  have h4 := (build_bound names).1
  rw [h2]
  exact ⟨h3.2.1, fun p hp => by have := h4 p hp; have := h3.1; omega⟩
end Go.Proofs.Ytmpelmjhimalpaa
namespace Go.Proofs.Ytmpelmjhimalpaa
open Go.RowKit Go.Fd
theorem bytesEq_any (l m : List UInt8) (v u : Value) (w : World) (hv : Bs w v l) (hu : Bs w u m) :
    Calls Try.prog 55 #[v, u] w fun e w' => e = .returned (.bool (decide (l = m))) ∧ w = w' :=
  (Try.bytes_Equal_strs v u ⟨l.toArray⟩ ⟨m.toArray⟩ w (run_str hv) (run_str hu)).mono fun e w' ⟨h1, h2⟩ => ⟨by rw [h1]; congr 2; rw [Bool.eq_iff_iff, beq_iff_eq, decide_eq_true_iff, ByteArray.toList_eq, ByteArray.toList_eq], h2.symm⟩
end Go.Proofs.Ytmpelmjhimalpaa
namespace Go.Fd
theorem flat_dropB {α β : Type} {k : Nat} {f : α → List β} (hk : ∀ x, (f x).length = k) : ∀ (l : List α) (i : Nat), (l.flatMap f).drop (k * i) = (l.drop i).flatMap f := by
  intro l
  induction l with
  | nil => intro i; simp
  | cons x l ih =>
    intro i
    cases i with
    | zero => simp
    | succ i =>
      rw [List.flatMap_cons, List.drop_succ_cons, ← ih i, List.drop_append, hk, List.drop_eq_nil_of_le (by rw [hk, Nat.mul_succ]; omega)]
      simp [Nat.mul_succ]
theorem flat_head {α β : Type} {k : Nat} {f : α → List β} (hk : ∀ x, (f x).length = k) {l : List α} {i : Nat} {x : α} (h : l[i]? = some x) : ∃ r, (l.flatMap f).drop (k * i) = f x ++ r := by
  obtain ⟨h1, h2⟩ := List.getElem?_eq_some_iff.1 h
  rw [flat_dropB hk, List.drop_eq_getElem_cons h1, h2, List.flatMap_cons]
  exact ⟨_, rfl⟩
end Go.Fd
namespace Go.Proofs.Ytmpelmjhimalpaa
open Go.RowKit Go.Fd
theorem fixed_get (n : Nat) : ∀ s : Nat, numLE (fixed n s) = n % 256 ^ s := by
  intro s
  induction s generalizing n with
  | zero => simp [fixed, numLE, Nat.mod_one]
  | succ s ih =>
    rw [fixed, numLE, ih]
    have h1 : (UInt8.ofNat n).toNat = n % 256 := by simp
    have h2 : n % 256 ^ (s + 1) = n % 256 + 256 * (n / 256 % 256 ^ s) := by rw [Nat.pow_succ, Nat.mul_comm, Nat.mod_mul]
    rw [h2]
    simp
end Go.Proofs.Ytmpelmjhimalpaa
namespace Go.Fd
structure SecM where
  name : List UInt8
  typ : Nat
  flags : Nat
  addr : Nat
  align : Nat
  size : Nat
  link : Nat
  info : Nat
  ent : Nat
  data : List UInt8
deriving DecidableEq
structure SegM where
  typ : Nat
  flags : Nat
  off : Nat
  vaddr : Nat
  filesz : Nat
  memsz : Nat
  align : Nat
deriving DecidableEq
structure ElfM where
  typ : Int
  target : Int
  flags : Nat
  entry : Nat
  secs : List SecM
  segs : List SegM
deriving DecidableEq
abbrev encSec (p : SecM × Value) : List Value := [.string ⟨p.1.name.toArray⟩, .int .u32 (p.1.typ : Int), .int .u64 (p.1.flags : Int), .int .u64 (p.1.addr : Int), .int .u64 (p.1.align : Int), .int .u64 (p.1.size : Int), .int .u32 (p.1.link : Int), .int .u32 (p.1.info : Int), .int .u64 (p.1.ent : Int), p.2]
abbrev encSeg (s : SegM) : List Value := [.int .u32 (s.typ : Int), .int .u32 (s.flags : Int), .int .u64 (s.off : Int), .int .u64 (s.vaddr : Int), .int .u64 (s.filesz : Int), .int .u64 (s.memsz : Int), .int .u64 (s.align : Int)]
/-- What a section's, a segment's, a file's numbers are at most. -/
def SecM.fits (s : SecM) : Prop := s.typ < 4294967296 ∧ s.flags < 18446744073709551616 ∧ s.addr < 18446744073709551616 ∧ s.align < 18446744073709551616 ∧ s.size < 18446744073709551616 ∧ s.link < 4294967296 ∧ s.info < 4294967296 ∧ s.ent < 18446744073709551616
def SegM.fits (s : SegM) : Prop := s.typ < 4294967296 ∧ s.flags < 4294967296 ∧ s.off < 18446744073709551616 ∧ s.vaddr < 18446744073709551616 ∧ s.filesz < 18446744073709551616 ∧ s.memsz < 18446744073709551616 ∧ s.align < 18446744073709551616
structure ElfM.fits (e : ElfM) : Prop where
  typ : -9223372036854775808 ≤ e.typ ∧ e.typ < 9223372036854775808
  target : -9223372036854775808 ≤ e.target ∧ e.target < 9223372036854775808
  flags : e.flags < 4294967296
  entry : e.entry < 18446744073709551616
  secs : ∀ s ∈ e.secs, s.fits
  segs : ∀ s ∈ e.segs, s.fits
/-- A power of 2 up to the greatest? -/
def powB (n : Nat) : Bool := decide (1 ≤ n) && decide (n ≤ 65536) && decide (n &&& (n - 1) = 0)
theorem powB_le {n : Nat} (h : powB n = true) : 1 ≤ n ∧ n ≤ 65536 := by
  unfold powB at h; simp at h; omega
/-- A target's number. -/
def mach (t : Int) : Nat := if t = 1 then 62 else if t = 2 then 183 else if t = 3 then 243 else 0
theorem mach_le (t : Int) : mach t ≤ 243 := by
  unfold mach
  split
  · omega
  · split
    · omega
    · split <;> omega
/-- May a section be, but for its name's letters? -/
def fineB (s : SecM) : Bool := !decide (s.typ = 0) && powB s.align && !decide (s.name = []) && (if s.typ = 8 then decide (s.data.length = 0) && decide (s.size ≤ 1073741824) else decide (s.size = s.data.length))
def upN (n a : Nat) : Nat := (n + a - 1) / a * a
theorem upN_le {n a : Nat} (h : 1 ≤ a) : n ≤ upN n a ∧ upN n a < n + a := by
  unfold upN
  have h1 := Nat.div_add_mod (n + a - 1) a
  have h2 := Nat.mod_lt (n + a - 1) (by omega : a > 0)
  rw [Nat.mul_comm] at h1
  omega
/-- Where a section begins, from the end of what is ahead on; g: are there segments? -/
def placeS (g : Bool) (p : Nat) (s : SecM) : Nat :=
  if s.typ = 8 then p else if (g && decide (s.flags &&& 2 ≠ 0)) = true then p + (s.addr + 18446744073709551616 - p) % 18446744073709551616 % 4096 else upN p s.align
def plStep (g : Bool) (p : List Nat × Nat) (s : SecM) : List Nat × Nat := (p.1 ++ [placeS g p.2 s], placeS g p.2 s + s.data.length)
/-- All places, and the end. -/
def plF (g : Bool) (n : Nat) (l : List SecM) : List Nat × Nat := l.foldl (plStep g) ([], n)
theorem plF_step {g : Bool} {n : Nat} {l : List SecM} {k : Nat} {x : SecM} (h : l[k]? = some x) : plF g n (l.take (k + 1)) = plStep g (plF g n (l.take k)) x := by
  rw [List.take_add_one, h]
  unfold plF
  rw [List.foldl_append]
  rfl
theorem plF_len {g : Bool} {n : Nat} (l : List SecM) : (plF g n l).1.length = l.length := by
  have : ∀ k, k ≤ l.length → (plF g n (l.take k)).1.length = k := by
    intro k
    induction k with
    | zero => intro _; rfl
    | succ k ih =>
      intro hk
      rw [plF_step (List.getElem?_eq_getElem (by omega : k < l.length))]
      simp [plStep, ih (by omega)]
  have h := this l.length (Nat.le_refl _)
  rwa [List.take_length] at h
def dsum (l : List SecM) : Nat := (l.map (·.data.length)).sum
theorem dsum_step {l : List SecM} {k : Nat} {x : SecM} (h : l[k]? = some x) : dsum (l.take (k + 1)) = dsum (l.take k) + x.data.length := by
  rw [List.take_add_one, h]
  unfold dsum
  simp
theorem dsum_take (l : List SecM) (k : Nat) : dsum (l.take k) ≤ dsum l := by
  unfold dsum
  rw [show (l.map (·.data.length)).sum = ((l.take k ++ l.drop k).map (·.data.length)).sum by rw [List.take_append_drop], List.map_append, List.sum_append]
  omega
theorem dsum_mem {l : List SecM} {s : SecM} (h : s ∈ l) : s.data.length ≤ dsum l := by
  obtain ⟨k, hk⟩ := List.mem_iff_getElem?.1 h
  have h1 := dsum_step hk
  have h2 := dsum_take l (k + 1)
  omega
theorem placeS_le {g : Bool} {p : Nat} {s : SecM} (h : powB s.align = true) : p ≤ placeS g p s ∧ placeS g p s ≤ p + 65536 := by
  have ha := powB_le h
  unfold placeS
  split
  · omega
  · split
    · omega
    · have := upN_le (n := p) ha.1
      omega
theorem plF_le {g : Bool} {n : Nat} {l : List SecM} (h : ∀ s ∈ l, powB s.align = true) : n ≤ (plF g n l).2 ∧ (plF g n l).2 ≤ n + 65536 * l.length + dsum l ∧ ∀ p ∈ (plF g n l).1, n ≤ p ∧ p ≤ n + 65536 * l.length + dsum l := by
  have : ∀ k, k ≤ l.length → n ≤ (plF g n (l.take k)).2 ∧ (plF g n (l.take k)).2 ≤ n + 65536 * k + dsum (l.take k) ∧ ∀ p ∈ (plF g n (l.take k)).1, n ≤ p ∧ p ≤ n + 65536 * k + dsum (l.take k) := by
    intro k
    induction k with
    | zero => intro _; simp [plF]
    | succ k ih =>
      intro hk
      have hx : l[k]? = some l[k] := List.getElem?_eq_getElem (by omega)
      obtain ⟨h1, h2, h3⟩ := ih (by omega)
      rw [plF_step hx, dsum_step hx]
      have h4 := placeS_le (g := g) (p := (plF g n (l.take k)).2) (h _ (List.mem_of_getElem? hx))
      refine ⟨by show _ ≤ placeS _ _ _ + _; omega, by show placeS _ _ _ + _ ≤ _; omega, fun p hp => ?_⟩
      simp only [plStep, List.mem_append, List.mem_singleton] at hp
      rcases hp with hp | rfl
      · have := h3 p hp; omega
      · omega
  have h := this l.length (Nat.le_refl _)
  rwa [List.take_length] at h
end Go.Fd
namespace Go.Proofs.Ytmpelmjhimalpaa
open Go.RowKit Go.Fd
def tabName : List UInt8 := [46, 115, 104, 115, 116, 114, 116, 97, 98]
/-- The names of all sections, and the table's own. -/
def namesOf (l : List SecM) : List (List UInt8) := l.map (·.name) ++ [tabName]
def tabOf (e : ElfM) : List UInt8 := (buildR (namesOf e.secs)).1
def segsB (e : ElfM) : Bool := decide (0 < e.segs.length)
def front (e : ElfM) : Nat := 64 + 56 * e.segs.length
def placesOf (e : ElfM) : List Nat × Nat := plF (segsB e) (front e) e.secs
def headsOf (e : ElfM) (t : Nat) : Nat := upN ((placesOf e).2 + t) 8
/-- May a file be, up to its names and its length? -/
def may1 (e : ElfM) : Bool := (decide (e.typ = 1) || decide (e.typ = 2)) && !decide (mach e.target = 0) && decide (e.secs.length ≤ 250) && decide (e.segs.length ≤ 16)
def may2 (e : ElfM) : Bool := e.secs.all (fun s => fineB s && decide (s.data.length ≤ 4194304)) && e.segs.all fun s => powB s.align
def may3 (e : ElfM) : Bool := decide ((buildR (namesOf e.secs)).2.2 = 0) && decide (headsOf e (tabOf e).length + 64 * (e.secs.length + 2) ≤ 4194304)
def mayE (e : ElfM) : Bool := may1 e && may2 e && may3 e
end Go.Proofs.Ytmpelmjhimalpaa
namespace Go.Fd
open Go.RowKit
section
variable {P : Program} {ops : Array Oper} {rest : List Oper} {Q : Exit → Act → World → Prop} {a : Act} {w : World}
/-- A struct into a block of its own. -/
theorem wpList_box {d : Option Tmp} {ty t : TypeId} {pos : String} {aft : Array Edge} {x : Operand} {c : Array Value} (hx : a.eval x = .agg c)
    (h : ∀ w1, w1.heap[w.heap.size]? = some (.cells c t (0, 0)) → Below w.heap.size w w1 → w.heap.size < w1.heap.size → wpList P ops Q rest (a.put d (.pointer (some ⟨w.heap.size, 0, none⟩))) w1) :
    wpList P ops Q (⟨d, .box t x, ty, pos, aft, none⟩ :: rest) a w := by
  refine wpList_val (w' := w.alloc (.cells c t)) (v := .pointer (some ⟨w.heap.size, 0, none⟩)) rfl ?_ (h (w.alloc (.cells c t)) (heap_alloc_last w _) (below_alloc w _) (by rw [World.size_alloc]; omega))
  simp only [execOp, hx]
  rfl
/-- A block that was there stays. -/
theorem heap_below {w w' : World} {b : Nat} {o : Obj} (h : Below w.heap.size w w') (hb : w.heap[b]? = some o) : w'.heap[b]? = some o := by
  rw [h.block b (Array.getElem?_eq_some_iff.1 hb).1]; exact hb
end
end Go.Fd
namespace Go.Proofs.Ytmpelmjhimalpaa
open Go.RowKit Go.Fd
set_option maxRecDepth 100000 in
theorem machine_any (t : Int) (w : World) : Calls Try.prog 46 #[.int .i64 t] w fun e w' => e = .returned (.int .u64 (mach t)) ∧ w = w' := by
  by_cases h1 : t = 1
  · subst h1
    go_enter Try.func46, Try.ntmps46
    go_wp2
    go_ret
    exact ⟨rfl, rfl⟩
  by_cases h2 : t = 2
  · subst h2
    go_enter Try.func46, Try.ntmps46
    go_wp2
    go_ret
    exact ⟨rfl, rfl⟩
  by_cases h3 : t = 3
  · subst h3
    go_enter Try.func46, Try.ntmps46
    go_wp2
    go_ret
    exact ⟨rfl, rfl⟩
  · have HR := Lib.hid (show mach t = 0 by unfold mach; rw [if_neg h1, if_neg h2, if_neg h3])
    have e1 : (t == 1) = false := by simpa using h1
    have e2 : (t == 2) = false := by simpa using h2
    have e3 : (t == 3) = false := by simpa using h3
    clear h1 h2 h3
    go_enter Try.func46, Try.ntmps46
    go_wp2
    go_ret
    exact ⟨by rw [HR.out]; rfl, rfl⟩
theorem and_self1 {n : Nat} (h : 1 ≤ n) (h2 : n ≤ 65536) : (bits .and .u64 (n : Int) ((n : Int) - 1) == 0) = powB n := by
  have e : (n : Int) - 1 = ((n - 1 : Nat) : Int) := by omega
  rw [e, bits_and_u64_nat n (n - 1) (by omega) (by omega)]
  unfold powB
  rw [Bool.eq_iff_iff]
  simp only [beq_iff_eq, Bool.and_eq_true, decide_eq_true_eq]
  omega
set_option maxRecDepth 100000 in
theorem power_any (n : Nat) (w : World) (hn : n < 18446744073709551616) : Calls Try.prog 48 #[.int .u64 n] w fun e w' => e = .returned (.bool (powB n)) ∧ w = w' := by
  by_cases h1 : 1 ≤ n ∧ n ≤ 65536
  · obtain ⟨h1, h2⟩ := h1
    have HR := Lib.hid (and_self1 h1 h2)
    go_enter Try.func48, Try.ntmps48
    go_wp2
    go_ret
    exact ⟨by rw [HR.out]; rfl, rfl⟩
  · have HR := Lib.hid (show powB n = false by
      rw [Bool.eq_false_iff]
      intro h
      have := powB_le h
      omega)
    rcases Nat.eq_zero_or_pos n with rfl | hp
    · go_enter Try.func48, Try.ntmps48
      go_wp2
      go_ret
      exact ⟨by rw [HR.out]; rfl, rfl⟩
    · have h3 : 1 ≤ n := hp
      have h4 : ¬ n ≤ 65536 := by omega
      have HX := Lib.hid hn
      clear h1 hn hp
      go_enter Try.func48, Try.ntmps48
      go_wp2
      go_ret
      exact ⟨by rw [HR.out]; rfl, rfl⟩
theorem up_cast {n a : Nat} (hn : n ≤ 1000000000000) (h : 1 ≤ a) (h2 : a ≤ 65536) : wrap64 (((n : Int) + a - 1) / a * a) = ((upN n a : Nat) : Int) := by
  have e : (n : Int) + a - 1 = ((n + a - 1 : Nat) : Int) := by omega
  have hl := upN_le (n := n) h
  rw [e, ← Int.natCast_ediv, ← Int.natCast_mul]
  show wrap64 ((upN n a : Nat) : Int) = _
  generalize upN n a = u at *
  unfold wrap64
  omega
set_option maxRecDepth 100000 in
theorem up_any (n a : Nat) (w : World) (hn : n ≤ 1000000000000) (ha : 1 ≤ a) (ha2 : a ≤ 65536) : Calls Try.prog 50 #[.int .i64 n, .int .u64 a] w fun e w' => e = .returned (.int .i64 (upN n a)) ∧ w = w' := by
  have HU := Lib.hid (up_cast hn ha ha2)
  go_enter Try.func50, Try.ntmps50
  go_wp2
  go_ret
  exact ⟨by rw [← HU.out]; rfl, rfl⟩
end Go.Proofs.Ytmpelmjhimalpaa
namespace Go.Fd
open Go.RowKit
/-- A file by value: its numbers, its sections' and its segments' slices. -/
abbrev elfV (e : ElfM) (sv gv : Value) : Value := .agg #[.int .i64 e.typ, .int .i64 e.target, .int .u32 (e.flags : Int), .int .u64 (e.entry : Int), sv, gv]
abbrev secV (p : SecM × Value) : Value := .agg #[.string ⟨p.1.name.toArray⟩, .int .u32 (p.1.typ : Int), .int .u64 (p.1.flags : Int), .int .u64 (p.1.addr : Int), .int .u64 (p.1.align : Int), .int .u64 (p.1.size : Int), .int .u32 (p.1.link : Int), .int .u32 (p.1.info : Int), .int .u64 (p.1.ent : Int), p.2]
theorem sec_cells {w wr : World} {a : Option Addr} {L : List (SecM × Value)} {x : SecM × Value} {k : Nat}
    (hc : ∀ i x, L[i]? = some x → 0 < 10 → ∃ b off, a = some ⟨b, off, none⟩ ∧ ∀ c, c < 10 → w.cell? ⟨b, off + (i * 10 + c), none⟩ = (encSec x)[c]?) (hb : Below w.heap.size w wr) (hk : L[k]? = some x) :
    ∃ b o, a = some ⟨b, o, none⟩ ∧ wr.cell? ⟨b, o + k * 10, none⟩ = some (.string ⟨x.1.name.toArray⟩) ∧ wr.cell? ⟨b, o + k * 10 + 1, none⟩ = some (.int .u32 (x.1.typ : Int)) ∧ wr.cell? ⟨b, o + k * 10 + 2, none⟩ = some (.int .u64 (x.1.flags : Int)) ∧ wr.cell? ⟨b, o + k * 10 + 3, none⟩ = some (.int .u64 (x.1.addr : Int)) ∧ wr.cell? ⟨b, o + k * 10 + 4, none⟩ = some (.int .u64 (x.1.align : Int)) ∧ wr.cell? ⟨b, o + k * 10 + 5, none⟩ = some (.int .u64 (x.1.size : Int)) ∧ wr.cell? ⟨b, o + k * 10 + 6, none⟩ = some (.int .u32 (x.1.link : Int)) ∧ wr.cell? ⟨b, o + k * 10 + 7, none⟩ = some (.int .u32 (x.1.info : Int)) ∧ wr.cell? ⟨b, o + k * 10 + 8, none⟩ = some (.int .u64 (x.1.ent : Int)) ∧ wr.cell? ⟨b, o + k * 10 + 9, none⟩ = some x.2 ∧ b < w.heap.size := by
  obtain ⟨b, o, ha, hcc⟩ := hc k x hk (by decide)
  have hd : ∀ c v, (encSec x)[c]? = some v → wr.cell? ⟨b, o + k * 10 + c, none⟩ = some v := fun c v h => by
    have h10 : c < 10 := (List.getElem?_eq_some_iff.1 h).1
    have := (hcc c h10).trans h
    rw [← Nat.add_assoc] at this
    exact (hb.cell (block_lt this)).trans this
  have h0 : b < w.heap.size := block_lt ((hcc 0 (by decide)).trans rfl)
  exact ⟨b, o, ha, hd 0 _ rfl, hd 1 _ rfl, hd 2 _ rfl, hd 3 _ rfl, hd 4 _ rfl, hd 5 _ rfl, hd 6 _ rfl, hd 7 _ rfl, hd 8 _ rfl, hd 9 _ rfl, h0⟩
theorem seg_cells {w wr : World} {a : Option Addr} {L : List SegM} {x : SegM} {k : Nat}
    (hc : ∀ i x, L[i]? = some x → 0 < 7 → ∃ b off, a = some ⟨b, off, none⟩ ∧ ∀ c, c < 7 → w.cell? ⟨b, off + (i * 7 + c), none⟩ = (encSeg x)[c]?) (hb : Below w.heap.size w wr) (hk : L[k]? = some x) :
    ∃ b o, a = some ⟨b, o, none⟩ ∧ wr.cell? ⟨b, o + k * 7, none⟩ = some (.int .u32 (x.typ : Int)) ∧ wr.cell? ⟨b, o + k * 7 + 1, none⟩ = some (.int .u32 (x.flags : Int)) ∧ wr.cell? ⟨b, o + k * 7 + 2, none⟩ = some (.int .u64 (x.off : Int)) ∧ wr.cell? ⟨b, o + k * 7 + 3, none⟩ = some (.int .u64 (x.vaddr : Int)) ∧ wr.cell? ⟨b, o + k * 7 + 4, none⟩ = some (.int .u64 (x.filesz : Int)) ∧ wr.cell? ⟨b, o + k * 7 + 5, none⟩ = some (.int .u64 (x.memsz : Int)) ∧ wr.cell? ⟨b, o + k * 7 + 6, none⟩ = some (.int .u64 (x.align : Int)) ∧ b < w.heap.size := by
  obtain ⟨b, o, ha, hcc⟩ := hc k x hk (by decide)
  have hd : ∀ c v, (encSeg x)[c]? = some v → wr.cell? ⟨b, o + k * 7 + c, none⟩ = some v := fun c v h => by
    have h10 : c < 7 := (List.getElem?_eq_some_iff.1 h).1
    have := (hcc c h10).trans h
    rw [← Nat.add_assoc] at this
    exact (hb.cell (block_lt this)).trans this
  have h0 : b < w.heap.size := block_lt ((hcc 0 (by decide)).trans rfl)
  exact ⟨b, o, ha, hd 0 _ rfl, hd 1 _ rfl, hd 2 _ rfl, hd 3 _ rfl, hd 4 _ rfl, hd 5 _ rfl, hd 6 _ rfl, h0⟩
/-- A file's cells in a block of its own. -/
theorem elf_box {w : World} {g : Nat} {e : ElfM} {sv gv : Value} {t : TypeId} {fr : Nat × Nat} (h : w.heap[g]? = some (.cells #[.int .i64 e.typ, .int .i64 e.target, .int .u32 (e.flags : Int), .int .u64 (e.entry : Int), sv, gv] t fr)) :
    w.cell? ⟨g, 0, none⟩ = some (.int .i64 e.typ) ∧ w.cell? ⟨g, 1, none⟩ = some (.int .i64 e.target) ∧ w.cell? ⟨g, 2, none⟩ = some (.int .u32 (e.flags : Int)) ∧ w.cell? ⟨g, 3, none⟩ = some (.int .u64 (e.entry : Int)) ∧ w.cell? ⟨g, 4, none⟩ = some sv ∧ w.cell? ⟨g, 5, none⟩ = some gv :=
  ⟨cell_rec h 0, cell_rec h 1, cell_rec h 2, cell_rec h 3, cell_rec h 4, cell_rec h 5⟩
theorem sec_box {w : World} {g : Nat} {x : SecM × Value} {t : TypeId} {fr : Nat × Nat} (h : w.heap[g]? = some (.cells #[.string ⟨x.1.name.toArray⟩, .int .u32 (x.1.typ : Int), .int .u64 (x.1.flags : Int), .int .u64 (x.1.addr : Int), .int .u64 (x.1.align : Int), .int .u64 (x.1.size : Int), .int .u32 (x.1.link : Int), .int .u32 (x.1.info : Int), .int .u64 (x.1.ent : Int), x.2] t fr)) :
    w.cell? ⟨g, 0, none⟩ = some (.string ⟨x.1.name.toArray⟩) ∧ w.cell? ⟨g, 1, none⟩ = some (.int .u32 (x.1.typ : Int)) ∧ w.cell? ⟨g, 2, none⟩ = some (.int .u64 (x.1.flags : Int)) ∧ w.cell? ⟨g, 3, none⟩ = some (.int .u64 (x.1.addr : Int)) ∧ w.cell? ⟨g, 4, none⟩ = some (.int .u64 (x.1.align : Int)) ∧ w.cell? ⟨g, 5, none⟩ = some (.int .u64 (x.1.size : Int)) ∧ w.cell? ⟨g, 6, none⟩ = some (.int .u32 (x.1.link : Int)) ∧ w.cell? ⟨g, 7, none⟩ = some (.int .u32 (x.1.info : Int)) ∧ w.cell? ⟨g, 8, none⟩ = some (.int .u64 (x.1.ent : Int)) ∧ w.cell? ⟨g, 9, none⟩ = some x.2 :=
  ⟨cell_rec h 0, cell_rec h 1, cell_rec h 2, cell_rec h 3, cell_rec h 4, cell_rec h 5, cell_rec h 6, cell_rec h 7, cell_rec h 8, cell_rec h 9⟩
end Go.Fd
namespace Go.Proofs.Ytmpelmjhimalpaa
open Go.RowKit Go.Fd
/-- What memory holds of a file. -/
structure ElfAt (w : World) (e : ElfM) (L : List (SecM × Value)) (sv gv : Value) : Prop where
  secs : e.secs = L.map (·.1)
  rd : RdR 10 encSec w sv L
  data : ∀ p ∈ L, Bs w p.2 p.1.data
  segs : RdR 7 encSeg w gv e.segs
theorem ElfAt.mono {w w' : World} {e : ElfM} {L : List (SecM × Value)} {sv gv : Value} (h : ElfAt w e L sv gv) (hb : Below w.heap.size w w') : ElfAt w' e L sv gv :=
  ⟨h.secs, h.rd.mono hb, fun p hp => (h.data p hp).mono hb, h.segs.mono hb⟩
set_option maxRecDepth 100000 in
theorem fine_any (s : SecM) (dv : Value) (w : World) (hd : Bs w dv s.data) (hf : s.fits) (hcm : s.data.length ≤ 9223372036854775807) :
    Calls Try.prog 47 #[secV (s, dv)] w fun e w' => e = .returned (.bool (fineB s)) ∧ Below w.heap.size w w' := by
  have HF := Lib.hid hf
  obtain ⟨m, a, cap, hm, rfl, hmc, _⟩ := hd.shape
  have HP := Lib.hid (fun w => power_any s.align w hf.2.2.2.1)
  obtain ⟨name, typ, flags, addr, align, size, link, info, ent, data⟩ := s
  dsimp only at *
  clear hd hf
  rw [← hm.out] at hcm
  have HB : Hid (fineB ⟨name, typ, flags, addr, align, size, link, info, ent, data⟩ = (!decide (typ = 0) && powB align && !decide (name = []) && (if typ = 8 then decide (m = 0) && decide (size ≤ 1073741824) else decide (size = m)))) := by
    have := hm.out
    unfold fineB
    dsimp only
    rw [← this]
    rfl
  generalize fineB ⟨name, typ, flags, addr, align, size, link, info, ent, data⟩ = q at *
  generalize powB align = pb at *
  by_cases h0 : typ = 0
  · have h0' : ((typ : Int) == 0) = true := by simpa using h0
    have HR := Lib.hid (show q = false by rw [HB.out]; simp [h0])
    clear h0 HB
    go_enter Try.func47, Try.ntmps47
    go_wp2_with (first
      | ((with_reducible show wpList _ _ _ (⟨_, .box _ _, _, _, _, _⟩ :: _) _ _); go_must (refine wpList_box rfl ?_; intro w1 hx1 hb1 hs1; obtain ⟨c0, c1, c2, c3, c4, c5, c6, c7, c8, c9⟩ := sec_box (x := (⟨name, typ, flags, addr, align, size, link, info, ent, data⟩, .slice a m cap)) hx1)))
    go_ret
    exact ⟨by rw [HR.out]; rfl, hb1⟩
  have h0' : ((typ : Int) == 0) = false := by simpa using h0
  cases pb with
  | false =>
    have HR := Lib.hid (show q = false by rw [HB.out]; simp)
    have HX := Lib.hid h0
    clear h0 HB
    go_enter Try.func47, Try.ntmps47
    go_wp2_with (first
      | ((with_reducible show wpList _ _ _ (⟨_, .box _ _, _, _, _, _⟩ :: _) _ _); go_must (refine wpList_box rfl ?_; intro w1 hx1 hb1 hs1; obtain ⟨c0, c1, c2, c3, c4, c5, c6, c7, c8, c9⟩ := sec_box (x := (⟨name, typ, flags, addr, align, size, link, info, ent, data⟩, .slice a m cap)) hx1))
      | (go_at_call 48; refine (HP.out _).mono ?_; rintro e w2 ⟨rfl, rfl⟩))
    go_ret
    exact ⟨by rw [HR.out]; rfl, hb1⟩
  | true =>
    by_cases hn : name = []
    · have HR := Lib.hid (show q = false by rw [HB.out]; simp [hn])
      have hne : name.isEmpty = true := by simp [hn]
      have HX := Lib.hid h0
      have HX2 := Lib.hid hn
      clear h0 HB hn
      go_enter Try.func47, Try.ntmps47
      go_wp2_with (first
        | ((with_reducible show wpList _ _ _ (⟨_, .box _ _, _, _, _, _⟩ :: _) _ _); go_must (refine wpList_box rfl ?_; intro w1 hx1 hb1 hs1; obtain ⟨c0, c1, c2, c3, c4, c5, c6, c7, c8, c9⟩ := sec_box (x := (⟨name, typ, flags, addr, align, size, link, info, ent, data⟩, .slice a m cap)) hx1))
        | (go_at_call 48; refine (HP.out _).mono ?_; rintro e w2 ⟨rfl, rfl⟩))
      go_ret
      exact ⟨by rw [HR.out]; rfl, hb1⟩
    have hne : name.isEmpty = false := by simpa using hn
    have HQ : Hid (q = if typ = 8 then decide (m = 0) && decide (size ≤ 1073741824) else decide (size = m)) := by rw [HB.out, decide_eq_false h0, decide_eq_false hn]; rfl
    have HX := Lib.hid h0
    have HX2 := Lib.hid hn
    have hm0 : m ≤ 9223372036854775807 := hcm
    clear h0 HB hn
    by_cases h8 : typ = 8
    · have h8' : ((typ : Int) == 8) = true := by rw [beq_iff_eq]; omega
      by_cases hm0 : m = 0
      · have hm1 : ((m : Int) == 0) = true := by simpa using hm0
        have HR := Lib.hid (show q = decide ((size : Int) ≤ 1073741824) by rw [HQ.out]; simp [h8, hm0]; omega)
        have HX8 := Lib.hid h8
        have HXm := Lib.hid hm0
        clear h8 hm0 HQ
        go_enter Try.func47, Try.ntmps47
        go_wp2_with (first
          | ((with_reducible show wpList _ _ _ (⟨_, .box _ _, _, _, _, _⟩ :: _) _ _); go_must (refine wpList_box rfl ?_; intro w1 hx1 hb1 hs1; obtain ⟨c0, c1, c2, c3, c4, c5, c6, c7, c8, c9⟩ := sec_box (x := (⟨name, typ, flags, addr, align, size, link, info, ent, data⟩, .slice a m cap)) hx1))
          | (go_at_call 48; refine (HP.out _).mono ?_; rintro e w2 ⟨rfl, rfl⟩))
        go_ret
        exact ⟨by rw [HR.out]; rfl, hb1⟩
      · have hm1 : ((m : Int) == 0) = false := by simpa using hm0
        have HR := Lib.hid (show q = false by rw [HQ.out]; simp [h8, hm0])
        have HX8 := Lib.hid h8
        have HXm := Lib.hid hm0
        clear h8 hm0 HQ
        go_enter Try.func47, Try.ntmps47
        go_wp2_with (first
          | ((with_reducible show wpList _ _ _ (⟨_, .box _ _, _, _, _, _⟩ :: _) _ _); go_must (refine wpList_box rfl ?_; intro w1 hx1 hb1 hs1; obtain ⟨c0, c1, c2, c3, c4, c5, c6, c7, c8, c9⟩ := sec_box (x := (⟨name, typ, flags, addr, align, size, link, info, ent, data⟩, .slice a m cap)) hx1))
          | (go_at_call 48; refine (HP.out _).mono ?_; rintro e w2 ⟨rfl, rfl⟩))
        go_ret
        exact ⟨by rw [HR.out]; rfl, hb1⟩
    · have h8' : ((typ : Int) == 8) = false := by rw [beq_eq_false_iff_ne]; omega
      have HR := Lib.hid (show q = ((size : Int) == (m : Int)) by rw [HQ.out, if_neg h8, Bool.eq_iff_iff, beq_iff_eq, decide_eq_true_iff]; omega)
      have HX8 := Lib.hid h8
      clear h8 HQ
      go_enter Try.func47, Try.ntmps47
      go_wp2_with (first
        | ((with_reducible show wpList _ _ _ (⟨_, .box _ _, _, _, _, _⟩ :: _) _ _); go_must (refine wpList_box rfl ?_; intro w1 hx1 hb1 hs1; obtain ⟨c0, c1, c2, c3, c4, c5, c6, c7, c8, c9⟩ := sec_box (x := (⟨name, typ, flags, addr, align, size, link, info, ent, data⟩, .slice a m cap)) hx1))
        | (go_at_call 48; refine (HP.out _).mono ?_; rintro e w2 ⟨rfl, rfl⟩))
      go_ret
      exact ⟨by rw [HR.out]; rfl, hb1⟩
end Go.Proofs.Ytmpelmjhimalpaa
namespace Go.Proofs.Ytmpelmjhimalpaa
open Go.RowKit Go.Fd
theorem nm_step {L : List (SecM × Value)} {k : Nat} {x : SecM × Value} (h : L[k]? = some x) : (L.take (k + 1)).map (·.1.name) = (L.take k).map (·.1.name) ++ [x.1.name] := by rw [List.take_add_one, h]; simp
theorem nm_all {e : ElfM} {L : List (SecM × Value)} (h : e.secs = L.map (·.1)) : namesOf e.secs = L.map (·.1.name) ++ [tabName] := by unfold namesOf; rw [h, List.map_map]; rfl
set_option maxHeartbeats 1000000 in
set_option maxRecDepth 100000 in
theorem names_any (e : ElfM) (L : List (SecM × Value)) (sv gv : Value) (w : World) (h : ElfAt w e L sv gv) (hl : L.length ≤ 1000) :
    Calls Try.prog 20 #[elfV e sv gv] w fun r w' => ∃ v1 v2, r = .returned (.tuple #[v1, v2, .int .i64 (buildR (namesOf e.secs)).2.2]) ∧ OB w' w.heap.size v1 (buildR (namesOf e.secs)).1 ∧ Ow I64 3 w' w.heap.size v2 (buildR (namesOf e.secs)).2.1 ∧ Below w.heap.size w w' := by
  obtain ⟨a, ca, rfl, hca, -, hc⟩ := h.rd.open (fun _ => rfl)
  have HC := Lib.hid hc
  have HN := Lib.hid (nm_all h.secs)
  have HD := Lib.hid h.data
  obtain ⟨nl, hnl⟩ : ∃ n, n = L.length := ⟨_, rfl⟩
  rw [← hnl] at hl hca ⊢
  have HL := Lib.hid hnl
  clear hc h hnl
  go_enter Try.func20, Try.ntmps20
  go_wp2_with ((with_reducible show wpList _ _ _ (⟨_, .box _ _, _, _, _, _⟩ :: _) _ _); go_must (refine wpList_box rfl ?_; intro w1 hx1 hb1 hs1; obtain ⟨c0, c1, c2, c3, c4, c5⟩ := elf_box hx1))
  clear c0 c1 c2 c3 c4 c5 hx1
  go_loopw [5, 11] (fun tx i wr => ∃ k : Nat, i = .int .i64 k ∧ k ≤ nl ∧ Hid (Ow S 9 wr w.heap.size tx ((L.take k).map (·.1.name))) ∧ Hid (Below w.heap.size w wr)) (fun _ i _ => nl - (intOf i).toNat)
  case atStart => exact ⟨0, rfl, Nat.zero_le _, Ow.nil _ _ _ _, hb1⟩
  case round =>
    obtain ⟨k, rfl, hk, HO, HB⟩ := hrel
    by_cases hlt : k < nl
    · have X1 := Lib.hid (show L[k]? = some (L[k]'(by have := HL.out; omega)) from List.getElem?_eq_getElem _)
      generalize L[k]'(by have := HL.out; omega) = x at *
      obtain ⟨s, dv⟩ := x
      obtain ⟨dm, da, dc, hdm, rfl, _, _⟩ := (HD.out _ (List.mem_of_getElem? X1.out)).shape
      obtain ⟨b1, o1, ha, c10, c11, c12, c13, c14, c15, c16, c17, c18, c19, -⟩ := sec_cells HC.out HB.out X1.out
      subst ha
      have HNS := Lib.hid (nm_step X1.out)
      have HTL := Lib.hid (show ((L.take k).map (·.1.name)).length ≤ 1000 by rw [List.length_map, List.length_take]; omega)
      have hbs := HB.out.size
      go_wp2_with (first
        | ((with_reducible show wpList _ _ _ (⟨none, .store _ _ _, _, _, _, _⟩ :: _) _ _); go_must (refine wpList_storeNew rfl rfl (by kernel_rfl) rfl (by simp [Value.oneCell']) ?_; intro w2 hh2 hb2; obtain ⟨e0, e1, e2, e3, e4, e5, e6, e7, e8, e9⟩ := sec_box (x := (s, .slice da dm dc)) hh2; have HO2 := Lib.hid (HO.out.mono hb2); have HB2 := Lib.hid (HB.out.trans (hb2.mono HB.out.size))))
        | ((with_reducible show wpList _ _ _ (⟨some 19, _, _, _, _, _⟩ :: _) _ _); go_must (refine wpList_pushE TTexts HO2.out rfl rfl s.name rfl rfl (by have := HTL.out; omega) (by omega) HB2.out.size ?_; intro v3 w3 hv3 _ hb3; have HO3 := Lib.hid (show Ow S 9 w3 w.heap.size v3 ((L.take (k + 1)).map (·.1.name)) by rw [HNS.out]; exact hv3); have HB3 := Lib.hid (HB2.out.trans hb3); clear hv3 hb3)))
      clear hh2 e0 e1 e2 e3 e4 e5 e6 e7 e8 e9
      go_roundw
      case rel =>
        first
          | exact ⟨k + 1, by go_num, by omega, HO3.out, HB3.out⟩
          | ((repeat apply Exists.intro); exact ⟨⟨k + 1, by go_num, by omega, HO3.out, HB3.out⟩, rfl⟩)
      case measure => simp [intOf] <;> omega
    · have hkn : L.length ≤ k := by have := HL.out; omega
      have HO1 : Hid (Ow S 9 wr w.heap.size u5 (L.map (·.1.name))) := by
        have := HO.out
        rw [List.take_of_length_le hkn] at this
        exact this
      have HTL := Lib.hid (show (L.map (·.1.name)).length ≤ 1000 by rw [List.length_map]; have := HL.out; omega)
      clear HO hkn
      go_wp2_with (first
        | ((with_reducible show wpList _ _ _ (⟨some 23, _, _, _, _, _⟩ :: _) _ _); go_must (refine wpList_pushE TTexts HO1.out rfl rfl tabName rfl rfl (by have := HTL.out; omega) (by omega) HB.out.size ?_; intro v3 w3 hv3 _ hb3; have HO3 := Lib.hid (show Ow S 9 w3 w.heap.size v3 (namesOf e.secs) by rw [HN.out]; exact hv3); have HB3 := Lib.hid (HB.out.trans hb3); clear hv3 hb3))
        | (go_at_call 49; refine (build_any _ _ _ (by rw [HN.out, List.length_append, List.length_singleton]; have := HTL.out; omega) HO3.out.rd).mono ?_; rintro r w4 ⟨v1, v2, rfl, ob1, ow2, hb4⟩))
      have HB4 := Lib.hid (HB3.out.trans (hb4.mono HB3.out.size))
      have H1 := Lib.hid (ob1.base HB3.out.size)
      have H2 := Lib.hid (owns_base ow2 HB3.out.size)
      clear ob1 ow2 hb4
      go_ret3
      exact ⟨_, _, rfl, H1.out, H2.out, HB4.out⟩
end Go.Proofs.Ytmpelmjhimalpaa
namespace Go.Proofs.Ytmpelmjhimalpaa
open Go.RowKit Go.Fd
theorem sec_of {e : ElfM} {L : List (SecM × Value)} {k : Nat} {x : SecM × Value} (h : e.secs = L.map (·.1)) (hk : L[k]? = some x) : e.secs[k]? = some x.1 := by rw [h, List.getElem?_map, hk]; rfl
theorem flag_run {f : Nat} (hf : f < 18446744073709551616) : (bits .and .u64 (f : Int) 2 != 0) = decide (f &&& 2 ≠ 0) := by
  have := bits_and_u64_nat f 2 hf (by omega)
  rw [show ((2 : Nat) : Int) = 2 from rfl] at this
  rw [this, Bool.eq_iff_iff]
  simp only [bne_iff_ne, decide_eq_true_eq, ne_eq]
  omega
theorem pls_bd {e : ElfM} {k : Nat} (hp : ∀ s ∈ e.secs, powB s.align = true) (hl : e.secs.length ≤ 1000) (hg : e.segs.length ≤ 1000) (hd : dsum e.secs ≤ 2147483648) : (plF (segsB e) (front e) (e.secs.take k)).2 ≤ 3000000000 := by
  have h1 := (plF_le (g := segsB e) (n := front e) (l := e.secs.take k) (fun s hs => hp s (List.mem_of_mem_take hs))).2.1
  have h2 := dsum_take e.secs k
  have h3 : (e.secs.take k).length ≤ 1000 := by rw [List.length_take]; omega
  unfold front at h1
  unfold front
  omega
theorem pad_eq {q addr : Nat} (hq : q ≤ 3000000000) (ha : addr < 18446744073709551616) : wrap64 ((q : Int) + wrap64 ((IntKind.u64.wrap ((addr : Int) - q)).tmod 4096)) = ((q + (addr + 18446744073709551616 - q) % 18446744073709551616 % 4096 : Nat) : Int) := by
  have h1 : IntKind.u64.wrap ((addr : Int) - q) = (((addr + 18446744073709551616 - q) % 18446744073709551616 : Nat) : Int) := by
    simp [IntKind.wrap, IntKind.bits, IntKind.signed]
    omega
  rw [h1]
  generalize (addr + 18446744073709551616 - q) % 18446744073709551616 = z
  rw [Int.tmod_eq_emod_of_nonneg (by omega)]
  unfold wrap64
  omega
set_option maxHeartbeats 1000000 in
set_option maxRecDepth 100000 in
theorem places_any (e : ElfM) (L : List (SecM × Value)) (sv gv : Value) (t : Nat) (w : World) (h : ElfAt w e L sv gv) (hl : L.length ≤ 1000) (hg : e.segs.length ≤ 1000) (hp : ∀ s ∈ e.secs, powB s.align = true) (hf : ∀ s ∈ e.secs, s.fits) (hd : dsum e.secs ≤ 2147483648) (ht : t ≤ 2147483648) :
    Calls Try.prog 21 #[elfV e sv gv, .int .i64 t] w fun r w' => ∃ v1, r = .returned (.tuple #[v1, .int .i64 ((placesOf e).2 : Nat), .int .i64 (headsOf e t : Nat)]) ∧ Ow I64 3 w' w.heap.size v1 (placesOf e).1 ∧ Below w.heap.size w w' := by
  obtain ⟨a, ca, rfl, hca, -, hc⟩ := h.rd.open (fun _ => rfl)
  obtain ⟨gn, ga, gc, hgn, rfl, hgc, _⟩ := h.segs.shape
  have HC := Lib.hid hc
  have HD := Lib.hid h.data
  have HSE := Lib.hid (fun k x (hk : L[k]? = some x) => sec_of h.secs hk)
  have HPB := Lib.hid (fun k => pls_bd (k := k) hp (by rw [h.secs, List.length_map]; exact hl) hg hd)
  have HPW := Lib.hid hp
  have HFT := Lib.hid hf
  have HPL : Hid (placesOf e = plF (segsB e) (front e) e.secs) := rfl
  have HH : Hid (headsOf e t = upN ((placesOf e).2 + t) 8) := rfl
  have HEL := Lib.hid (show e.secs.length = L.length by rw [h.secs, List.length_map])
  obtain ⟨nl, hnl⟩ : ∃ n, n = L.length := ⟨_, rfl⟩
  rw [← hnl] at hl hca ⊢
  have HL := Lib.hid hnl
  have HGN := Lib.hid (show segsB e = decide (0 < gn) by unfold segsB; rw [← hgn.out])
  have HFR := Lib.hid (show front e = 64 + 56 * gn by unfold front; rw [← hgn.out])
  rw [← hgn.out] at hg
  clear hc h hnl hp hf
  go_enter Try.func21, Try.ntmps21
  go_wp2_with ((with_reducible show wpList _ _ _ (⟨_, .box _ _, _, _, _, _⟩ :: _) _ _); go_must (refine wpList_box rfl ?_; intro w1 hx1 hb1 hs1; obtain ⟨c0, c1, c2, c3, c4, c5⟩ := elf_box hx1))
  have HX1 := Lib.hid hx1
  have HB1 := Lib.hid hb1
  clear c0 c1 c2 c3 c4 c5 hx1 hb1
  go_loopw [4, 7, 18] (fun tx p i wr => ∃ k q : Nat, i = .int .i64 k ∧ k ≤ nl ∧ p = .int .i64 q ∧ q ≤ 3000000000 ∧ Hid (q = (plF (segsB e) (front e) (e.secs.take k)).2) ∧ Hid (Ow I64 3 wr w1.heap.size tx (plF (segsB e) (front e) (e.secs.take k)).1) ∧ Hid (Below w1.heap.size w1 wr)) (fun _ _ i _ => nl - (intOf i).toNat)
  case atStart => exact ⟨0, 64 + 56 * gn, rfl, Nat.zero_le _, by go_num, by omega, by rw [HFR.out]; rfl, Ow.nil _ _ _ _, Below.refl _ _⟩
  case round =>
    obtain ⟨k, q, rfl, hk, rfl, hq, HQ, HO, HB⟩ := hrel
    have hbs := HB.out.size
    have HBW := Lib.hid (HB1.out.trans (HB.out.mono HB1.out.size))
    by_cases hlt : k < nl
    · have X1 := Lib.hid (show L[k]? = some (L[k]'(by have := HL.out; omega)) from List.getElem?_eq_getElem _)
      generalize L[k]'(by have := HL.out; omega) = x at *
      obtain ⟨s, dv⟩ := x
      obtain ⟨dm, da, dc, hdm, rfl, _, _⟩ := (HD.out _ (List.mem_of_getElem? X1.out)).shape
      have X2 := Lib.hid (HSE.out _ _ X1.out)
      have HST := Lib.hid (plF_step (g := segsB e) (n := front e) X2.out)
      have HP1 := Lib.hid (HPB.out (k + 1))
      have HFS := Lib.hid (HFT.out _ (List.mem_of_getElem? X2.out))
      have HPS := Lib.hid (powB_le (HPW.out _ (List.mem_of_getElem? X2.out)))
      have HLK := Lib.hid (show ((plF (segsB e) (front e) (e.secs.take k)).1).length ≤ 1000 by rw [plF_len, List.length_take]; omega)
      rw [HST.out] at HP1
      obtain ⟨b1, o1, ha, c10, c11, c12, c13, c14, c15, c16, c17, c18, c19, -⟩ := sec_cells HC.out HBW.out X1.out
      subst ha
      have HQS : Hid ((plStep (segsB e) (plF (segsB e) (front e) (e.secs.take k)) s).2 = placeS (decide (0 < gn)) q s + dm ∧ (plStep (segsB e) (plF (segsB e) (front e) (e.secs.take k)) s).1 = (plF (segsB e) (front e) (e.secs.take k)).1 ++ [placeS (decide (0 < gn)) q s]) := by
        unfold plStep
        rw [HGN.out] at HQ ⊢
        rw [← HQ.out, ← hdm.out]
        exact ⟨rfl, rfl⟩
      obtain ⟨name, typ, flags, addr, align, size, link, info, ent, data⟩ := s
      dsimp only at *
      have hfl := flag_run HFS.out.2.1
      dsimp only at hfl
      have HPX : Hid (∀ p, placeS (decide (0 < gn)) q ⟨name, typ, flags, addr, align, size, link, info, ent, data⟩ = p → q ≤ p ∧ p ≤ q + 65536 ∧ p + dm ≤ 3000000000) := fun p hp => by
        have h1 := placeS_le (g := decide (0 < gn)) (p := q) (s := ⟨name, typ, flags, addr, align, size, link, info, ent, data⟩) (HPW.out _ (List.mem_of_getElem? X2.out))
        have h2 := HP1.out
        rw [HQS.out.1] at h2
        rw [hp] at h1 h2
        exact ⟨h1.1, h1.2, h2⟩
      clear HP1 HPW HPB HFT HSE
      by_cases h8 : typ = 8
      · have h8' : ((typ : Int) == 8) = true := by rw [beq_iff_eq]; omega
        obtain ⟨p, hp⟩ : ∃ p, p = q := ⟨_, rfl⟩
        have HPp := Lib.hid (show placeS (decide (0 < gn)) q ⟨name, typ, flags, addr, align, size, link, info, ent, data⟩ = p by unfold placeS; rw [if_pos h8, hp])
        obtain ⟨hp1, hp2, hp3⟩ := HPX.out p HPp.out
        have HX8 := Lib.hid h8
        subst hp
        clear h8 hfl
        go_wp2_with (first
          | ((with_reducible show wpList _ _ _ (⟨none, .store _ _ _, _, _, _, _⟩ :: _) _ _); go_must (refine wpList_storeNew rfl rfl (by kernel_rfl) rfl (by simp [Value.oneCell']) ?_; intro w2 hh2 hb2; obtain ⟨e0, e1, e2, e3, e4, e5, e6, e7, e8, e9⟩ := sec_box (x := (⟨name, typ, flags, addr, align, size, link, info, ent, data⟩, .slice da dm dc)) hh2; have HO2 := Lib.hid (HO.out.mono hb2); have HB2 := Lib.hid (HB.out.trans (hb2.mono HB.out.size)); obtain ⟨d0, d1, d2, d3, d4, d5⟩ := elf_box (heap_below HB2.out HX1.out); have HH2 := Lib.hid hh2))
          | ((with_reducible show wpList _ _ _ (⟨some 53, _, _, _, _, _⟩ :: _) _ _); go_must (refine wpList_pushE TI HO2.out rfl rfl p rfl rfl (by have := HLK.out; omega) (by omega) HB2.out.size ?_; intro v3 w3 hv3 hg3 hb3; have HO3 := Lib.hid hv3; have HB3 := Lib.hid (HB2.out.trans hb3); obtain ⟨f0, f1, f2, f3, f4, f5, f6, f7, f8, f9⟩ := sec_box (x := (⟨name, typ, flags, addr, align, size, link, info, ent, data⟩, .slice da dm dc)) (keeps_own HO2.out hg3 _ _ _ _ (by decide) HH2.out); clear hv3 hb3 hg3)))
        have HQ2 := Lib.hid (show p + dm = (plF (segsB e) (front e) (e.secs.take (k + 1))).2 by rw [HST.out, HQS.out.1, HPp.out])
        have HO4 := Lib.hid (show Ow I64 3 w3 w1.heap.size v3 (plF (segsB e) (front e) (e.secs.take (k + 1))).1 by rw [HST.out, HQS.out.2, HPp.out]; exact HO3.out)
        go_roundw
        case rel =>
          first
            | exact ⟨k + 1, p + dm, by go_num, by omega, by go_num, by omega, HQ2.out, HO4.out, HB3.out⟩
            | ((repeat apply Exists.intro); exact ⟨⟨k + 1, p + dm, by go_num, by omega, by go_num, by omega, HQ2.out, HO4.out, HB3.out⟩, rfl⟩)
        case measure => simp [intOf] <;> omega
      · have h8' : ((typ : Int) == 8) = false := by rw [beq_eq_false_iff_ne]; omega
        have HX8 := Lib.hid h8
        by_cases hg2 : 0 < gn ∧ flags &&& 2 ≠ 0
        · obtain ⟨hg1, hg2⟩ := hg2
          rw [decide_eq_true hg2] at hfl
          have hpad := pad_eq hq HFS.out.2.2.1
          have HPp := Lib.hid (show placeS (decide (0 < gn)) q ⟨name, typ, flags, addr, align, size, link, info, ent, data⟩ = q + (addr + 18446744073709551616 - q) % 18446744073709551616 % 4096 by unfold placeS; rw [if_neg h8, decide_eq_true hg1, decide_eq_true hg2]; rfl)
          dsimp only at hpad
          generalize q + (addr + 18446744073709551616 - q) % 18446744073709551616 % 4096 = p at *
          obtain ⟨hp1, hp2, hp3⟩ := HPX.out p HPp.out
          have HX2 := Lib.hid hg2
          clear h8 hg2
          go_wp2_with (first
            | ((with_reducible show wpList _ _ _ (⟨none, .store _ _ _, _, _, _, _⟩ :: _) _ _); go_must (refine wpList_storeNew rfl rfl (by kernel_rfl) rfl (by simp [Value.oneCell']) ?_; intro w2 hh2 hb2; obtain ⟨e0, e1, e2, e3, e4, e5, e6, e7, e8, e9⟩ := sec_box (x := (⟨name, typ, flags, addr, align, size, link, info, ent, data⟩, .slice da dm dc)) hh2; have HO2 := Lib.hid (HO.out.mono hb2); have HB2 := Lib.hid (HB.out.trans (hb2.mono HB.out.size)); obtain ⟨d0, d1, d2, d3, d4, d5⟩ := elf_box (heap_below HB2.out HX1.out); have HH2 := Lib.hid hh2))
            | ((with_reducible show wpList _ _ _ (⟨some 53, _, _, _, _, _⟩ :: _) _ _); go_must (refine wpList_pushE TI HO2.out rfl rfl p rfl rfl (by have := HLK.out; omega) (by omega) HB2.out.size ?_; intro v3 w3 hv3 hg3 hb3; have HO3 := Lib.hid hv3; have HB3 := Lib.hid (HB2.out.trans hb3); obtain ⟨f0, f1, f2, f3, f4, f5, f6, f7, f8, f9⟩ := sec_box (x := (⟨name, typ, flags, addr, align, size, link, info, ent, data⟩, .slice da dm dc)) (keeps_own HO2.out hg3 _ _ _ _ (by decide) HH2.out); clear hv3 hb3 hg3)))
          have HQ2 := Lib.hid (show p + dm = (plF (segsB e) (front e) (e.secs.take (k + 1))).2 by rw [HST.out, HQS.out.1, HPp.out])
          have HO4 := Lib.hid (show Ow I64 3 w3 w1.heap.size v3 (plF (segsB e) (front e) (e.secs.take (k + 1))).1 by rw [HST.out, HQS.out.2, HPp.out]; exact HO3.out)
          go_roundw
          case rel =>
            first
              | exact ⟨k + 1, p + dm, by go_num, by omega, by go_num, by omega, HQ2.out, HO4.out, HB3.out⟩
              | ((repeat apply Exists.intro); exact ⟨⟨k + 1, p + dm, by go_num, by omega, by go_num, by omega, HQ2.out, HO4.out, HB3.out⟩, rfl⟩)
          case measure => simp [intOf] <;> omega
        · have HPp := Lib.hid (show placeS (decide (0 < gn)) q ⟨name, typ, flags, addr, align, size, link, info, ent, data⟩ = upN q align by
            unfold placeS
            rw [if_neg h8, if_neg]
            simp only [Bool.and_eq_true, decide_eq_true_eq]
            exact hg2)
          have HU := Lib.hid (fun w => up_any q align w (by omega) HPS.out.1 HPS.out.2)
          generalize upN q align = p at *
          obtain ⟨hp1, hp2, hp3⟩ := HPX.out p HPp.out
          clear h8
          by_cases hg1 : 0 < gn
          · rw [decide_eq_false (fun h => hg2 ⟨hg1, h⟩)] at hfl
            have HX2 := Lib.hid hg2
            clear hg2
            go_wp2_with (first
              | ((with_reducible show wpList _ _ _ (⟨none, .store _ _ _, _, _, _, _⟩ :: _) _ _); go_must (refine wpList_storeNew rfl rfl (by kernel_rfl) rfl (by simp [Value.oneCell']) ?_; intro w2 hh2 hb2; obtain ⟨e0, e1, e2, e3, e4, e5, e6, e7, e8, e9⟩ := sec_box (x := (⟨name, typ, flags, addr, align, size, link, info, ent, data⟩, .slice da dm dc)) hh2; have HO2 := Lib.hid (HO.out.mono hb2); have HB2 := Lib.hid (HB.out.trans (hb2.mono HB.out.size)); obtain ⟨d0, d1, d2, d3, d4, d5⟩ := elf_box (heap_below HB2.out HX1.out); have HH2 := Lib.hid hh2))
              | ((with_reducible show wpList _ _ _ (⟨some 53, _, _, _, _, _⟩ :: _) _ _); go_must (refine wpList_pushE TI HO2.out rfl rfl p rfl rfl (by have := HLK.out; omega) (by omega) HB2.out.size ?_; intro v3 w3 hv3 hg3 hb3; have HO3 := Lib.hid hv3; have HB3 := Lib.hid (HB2.out.trans hb3); obtain ⟨f0, f1, f2, f3, f4, f5, f6, f7, f8, f9⟩ := sec_box (x := (⟨name, typ, flags, addr, align, size, link, info, ent, data⟩, .slice da dm dc)) (keeps_own HO2.out hg3 _ _ _ _ (by decide) HH2.out); clear hv3 hb3 hg3))
              | (go_at_call 50; refine (HU.out _).mono ?_; rintro r w4 ⟨rfl, rfl⟩))
            have HQ2 := Lib.hid (show p + dm = (plF (segsB e) (front e) (e.secs.take (k + 1))).2 by rw [HST.out, HQS.out.1, HPp.out])
            have HO4 := Lib.hid (show Ow I64 3 w3 w1.heap.size v3 (plF (segsB e) (front e) (e.secs.take (k + 1))).1 by rw [HST.out, HQS.out.2, HPp.out]; exact HO3.out)
            go_roundw
            case rel =>
              first
                | exact ⟨k + 1, p + dm, by go_num, by omega, by go_num, by omega, HQ2.out, HO4.out, HB3.out⟩
                | ((repeat apply Exists.intro); exact ⟨⟨k + 1, p + dm, by go_num, by omega, by go_num, by omega, HQ2.out, HO4.out, HB3.out⟩, rfl⟩)
            case measure => simp [intOf] <;> omega
          · have HX2 := Lib.hid hg2
            clear hg2 hfl
            go_wp2_with (first
              | ((with_reducible show wpList _ _ _ (⟨none, .store _ _ _, _, _, _, _⟩ :: _) _ _); go_must (refine wpList_storeNew rfl rfl (by kernel_rfl) rfl (by simp [Value.oneCell']) ?_; intro w2 hh2 hb2; obtain ⟨e0, e1, e2, e3, e4, e5, e6, e7, e8, e9⟩ := sec_box (x := (⟨name, typ, flags, addr, align, size, link, info, ent, data⟩, .slice da dm dc)) hh2; have HO2 := Lib.hid (HO.out.mono hb2); have HB2 := Lib.hid (HB.out.trans (hb2.mono HB.out.size)); obtain ⟨d0, d1, d2, d3, d4, d5⟩ := elf_box (heap_below HB2.out HX1.out); have HH2 := Lib.hid hh2))
              | ((with_reducible show wpList _ _ _ (⟨some 53, _, _, _, _, _⟩ :: _) _ _); go_must (refine wpList_pushE TI HO2.out rfl rfl p rfl rfl (by have := HLK.out; omega) (by omega) HB2.out.size ?_; intro v3 w3 hv3 hg3 hb3; have HO3 := Lib.hid hv3; have HB3 := Lib.hid (HB2.out.trans hb3); obtain ⟨f0, f1, f2, f3, f4, f5, f6, f7, f8, f9⟩ := sec_box (x := (⟨name, typ, flags, addr, align, size, link, info, ent, data⟩, .slice da dm dc)) (keeps_own HO2.out hg3 _ _ _ _ (by decide) HH2.out); clear hv3 hb3 hg3))
              | (go_at_call 50; refine (HU.out _).mono ?_; rintro r w4 ⟨rfl, rfl⟩))
            have HQ2 := Lib.hid (show p + dm = (plF (segsB e) (front e) (e.secs.take (k + 1))).2 by rw [HST.out, HQS.out.1, HPp.out])
            have HO4 := Lib.hid (show Ow I64 3 w3 w1.heap.size v3 (plF (segsB e) (front e) (e.secs.take (k + 1))).1 by rw [HST.out, HQS.out.2, HPp.out]; exact HO3.out)
            go_roundw
            case rel =>
              first
                | exact ⟨k + 1, p + dm, by go_num, by omega, by go_num, by omega, HQ2.out, HO4.out, HB3.out⟩
                | exact ⟨_, _, _, _, ⟨k + 1, rfl, by omega, p + dm, rfl, by omega, HQ2.out, HO4.out⟩, rfl, by go_num, rfl, by go_num⟩
                | ((repeat apply Exists.intro); exact ⟨⟨k + 1, p + dm, by go_num, by omega, by go_num, by omega, HQ2.out, HO4.out, HB3.out⟩, rfl⟩)
            case measure => simp [intOf] <;> omega
    · have hkn : e.secs.take k = e.secs := List.take_of_length_le (by have := HL.out; have := HEL.out; omega)
      have HO1 : Hid (Ow I64 3 wr w1.heap.size u4 (placesOf e).1) := by
        have := HO.out
        rw [hkn] at this
        exact this
      have HQ1 : Hid (q = (placesOf e).2) := by
        have := HQ.out
        rw [hkn] at this
        exact this
      have HHQ : Hid (headsOf e t = upN (q + t) 8) := by rw [HH.out, HQ1.out]; exact rfl
      have HU := Lib.hid (fun w => up_any (q + t) 8 w (by omega) (by decide) (by decide))
      clear HO hkn
      generalize upN (q + t) 8 = p at *
      go_wp2_with (go_at_call 50; refine (HU.out _).mono ?_; rintro r w4 ⟨rfl, rfl⟩)
      go_ret3
      exact ⟨_, by rw [← HQ1.out, HHQ.out]; rfl, owns_base HO1.out HB1.out.size, HBW.out⟩
end Go.Proofs.Ytmpelmjhimalpaa
namespace Go.Fd
theorem seg_box {w : World} {g : Nat} {x : SegM} {t : TypeId} {fr : Nat × Nat} (h : w.heap[g]? = some (.cells #[.int .u32 (x.typ : Int), .int .u32 (x.flags : Int), .int .u64 (x.off : Int), .int .u64 (x.vaddr : Int), .int .u64 (x.filesz : Int), .int .u64 (x.memsz : Int), .int .u64 (x.align : Int)] t fr)) :
    w.cell? ⟨g, 0, none⟩ = some (.int .u32 (x.typ : Int)) ∧ w.cell? ⟨g, 1, none⟩ = some (.int .u32 (x.flags : Int)) ∧ w.cell? ⟨g, 2, none⟩ = some (.int .u64 (x.off : Int)) ∧ w.cell? ⟨g, 3, none⟩ = some (.int .u64 (x.vaddr : Int)) ∧ w.cell? ⟨g, 4, none⟩ = some (.int .u64 (x.filesz : Int)) ∧ w.cell? ⟨g, 5, none⟩ = some (.int .u64 (x.memsz : Int)) ∧ w.cell? ⟨g, 6, none⟩ = some (.int .u64 (x.align : Int)) :=
  ⟨cell_rec h 0, cell_rec h 1, cell_rec h 2, cell_rec h 3, cell_rec h 4, cell_rec h 5, cell_rec h 6⟩
/-- What is asked of a file, so that no number in a walk is too great. -/
structure ElfOk (e : ElfM) : Prop where
  fits : e.fits
  data : dsum e.secs ≤ 2147483648
  names : ∀ s ∈ e.secs, s.name.length ≤ 9223372036854775807
  secs : e.secs.length ≤ 1000000000
  segs : e.segs.length ≤ 1000000000
def secB (s : SecM) : Bool := fineB s && decide (s.data.length ≤ 4194304)
theorem all_step {α : Type} {f : α → Bool} {l : List α} {k : Nat} {x : α} (h : l[k]? = some x) (h0 : (l.take k).all f = true) (hb : f x = true) : (l.take (k + 1)).all f = true := by
  rw [List.take_add_one, h, List.all_append, h0]
  simp [hb]
theorem all_no {α : Type} {f : α → Bool} {l : List α} {k : Nat} {x : α} (h : l[k]? = some x) (hb : f x = false) : l.all f = false := by
  rw [Bool.eq_false_iff]
  intro h'
  rw [List.all_eq_true.1 h' x (List.mem_of_getElem? h)] at hb
  cases hb
theorem fineB_pow {s : SecM} (h : fineB s = true) : powB s.align = true := by
  unfold fineB at h
  simp only [Bool.and_eq_true] at h
  exact h.1.1.2
end Go.Fd
namespace Go.Proofs.Ytmpelmjhimalpaa
open Go.RowKit Go.Fd
theorem mayE_1 {e : ElfM} (h : may1 e = false) : mayE e = false := by unfold mayE; rw [h]; rfl
theorem mayE_2 {e : ElfM} (h : e.secs.all secB = false) : mayE e = false := by
  unfold mayE may2
  rw [show (e.secs.all fun s => fineB s && decide (s.data.length ≤ 4194304)) = e.secs.all secB from rfl, h]
  simp
theorem mayE_3 {e : ElfM} (h : (e.segs.all fun s => powB s.align) = false) : mayE e = false := by
  unfold mayE may2
  rw [h]
  simp
theorem mayE_all {e : ElfM} (h1 : may1 e = true) (h2 : e.secs.all secB = true) (h3 : (e.segs.all fun s => powB s.align) = true) : mayE e = may3 e := by
  unfold mayE may2
  rw [h1, show (e.secs.all fun s => fineB s && decide (s.data.length ≤ 4194304)) = e.secs.all secB from rfl, h2, h3]
  simp
theorem may3_no {e : ElfM} (h : (buildR (namesOf e.secs)).2.2 ≠ 0) : may3 e = false := by unfold may3; rw [decide_eq_false h]; rfl
theorem may3_yes {e : ElfM} {t : Nat} (h : (buildR (namesOf e.secs)).2.2 = 0) (ht : t = (tabOf e).length) : may3 e = decide (headsOf e t + 64 * (e.secs.length + 2) ≤ 4194304) := by unfold may3; rw [decide_eq_true h, ht]; rfl
theorem namesOf_len (l : List SecM) : (namesOf l).length = l.length + 1 := by unfold namesOf; simp
theorem tabOf_len (e : ElfM) : (tabOf e).length ≤ 1 + 129 * (e.secs.length + 1) := by
  have := (buildR_len (namesOf e.secs)).1
  rw [namesOf_len] at this
  exact this
theorem headsOf_le {e : ElfM} {t : Nat} (hp : ∀ s ∈ e.secs, powB s.align = true) (hl : e.secs.length ≤ 1000) (hg : e.segs.length ≤ 1000) (hd : dsum e.secs ≤ 2147483648) (ht : t ≤ 2147483648) : (placesOf e).2 ≤ 3000000000 ∧ headsOf e t ≤ 6000000000 := by
  have h := pls_bd (k := e.secs.length) hp hl hg hd
  rw [List.take_length] at h
  have h1 : (placesOf e).2 ≤ 3000000000 := h
  have h2 := upN_le (n := (placesOf e).2 + t) (a := 8) (by omega)
  unfold headsOf
  omega
set_option maxHeartbeats 4000000 in
set_option maxRecDepth 100000 in
theorem may_any (e : ElfM) (L : List (SecM × Value)) (sv gv : Value) (w : World) (h : ElfAt w e L sv gv) (ho : ElfOk e) :
    Calls Try.prog 19 #[elfV e sv gv] w fun r w' => r = .returned (.bool (mayE e)) ∧ Below w.heap.size w w' := by
  obtain ⟨a, ca, rfl, hca, -, hc⟩ := h.rd.open (fun _ => rfl)
  obtain ⟨ga, gc, rfl, hgc, -, hcg⟩ := h.segs.open (fun _ => rfl)
  have HC := Lib.hid hc
  have HCG := Lib.hid hcg
  have HAT := Lib.hid h
  have HOK := Lib.hid ho
  have HD := Lib.hid h.data
  have HSE := Lib.hid (fun k x (hk : L[k]? = some x) => sec_of h.secs hk)
  have HEL := Lib.hid (show e.secs.length = L.length by rw [h.secs, List.length_map])
  obtain ⟨nl, hnl⟩ : ∃ n, n = L.length := ⟨_, rfl⟩
  obtain ⟨gn, hgn⟩ : ∃ n, n = e.segs.length := ⟨_, rfl⟩
  rw [← hnl] at hca HAT ⊢
  rw [← hgn] at hgc HAT ⊢
  have HL := Lib.hid hnl
  have HGN := Lib.hid hgn
  have hnl9 : nl ≤ 1000000000 := by have := HOK.out.secs; have := HEL.out; omega
  have hgn9 : gn ≤ 1000000000 := by have := HOK.out.segs; omega
  clear hc hcg h hnl hgn ho
  have HM1 : Hid (may1 e = ((decide (e.typ = 1) || decide (e.typ = 2)) && !decide (mach e.target = 0) && decide (nl ≤ 250) && decide (gn ≤ 16))) := by
    unfold may1
    rw [HEL.out, ← HL.out, ← HGN.out]
    exact rfl
  have HMC := Lib.hid (fun w => machine_any e.target w)
  have hmc := mach_le e.target
  generalize mach e.target = mt at *
  by_cases h1 : may1 e = true
  · have hm1 := h1
    rw [HM1.out] at hm1
    simp only [Bool.and_eq_true, Bool.or_eq_true, Bool.not_eq_true', decide_eq_true_eq, decide_eq_false_iff_not] at hm1
    obtain ⟨⟨⟨hty, hmt⟩, hn250⟩, hg16⟩ := hm1
    have ht : (e.typ != 1) = false ∨ ((e.typ != 1) = true ∧ (e.typ != 2) = false) := by
      rcases hty with h | h
      · exact .inl (by rw [h]; rfl)
      · exact .inr (by rw [h]; exact ⟨rfl, rfl⟩)
    have hmt0 : ((mt : Int) == 0) = false := by rw [beq_eq_false_iff_ne]; omega
    have HM2 := Lib.hid h1
    have HX9 := Lib.hid hmt
    clear h1 hty hmt HM1
    rcases ht with ht1 | ⟨ht1, ht2⟩
    all_goals
      go_enter Try.func19, Try.ntmps19
      go_wp2_with (first
        | ((with_reducible show wpList _ _ _ (⟨_, .box _ _, _, _, _, _⟩ :: _) _ _); go_must (refine wpList_box rfl ?_; intro w1 hx1 hb1 hs1; obtain ⟨c0, c1, c2, c3, c4, c5⟩ := elf_box hx1))
        | (go_at_call 46; refine (HMC.out _).mono ?_; rintro r w2 ⟨rfl, rfl⟩))
      have HX1 := Lib.hid hx1
      have HB1 := Lib.hid hb1
      clear c0 c1 c2 c3 c4 c5 hx1 hb1
      go_loopw [42] (fun i wr => ∃ k : Nat, i = .int .i64 k ∧ k ≤ nl ∧ Hid ((e.secs.take k).all secB = true) ∧ Hid (Below w1.heap.size w1 wr)) (fun i _ => nl - (intOf i).toNat)
      case atStart => exact ⟨0, rfl, Nat.zero_le _, rfl, Below.refl _ _⟩
      case round =>
        obtain ⟨k, rfl, hk, HT, HB⟩ := hrel
        have hbs := HB.out.size
        have HBW := Lib.hid (HB1.out.trans (HB.out.mono HB1.out.size))
        by_cases hlt : k < nl
        · have X1 := Lib.hid (show L[k]? = some (L[k]'(by have := HL.out; omega)) from List.getElem?_eq_getElem _)
          generalize L[k]'(by have := HL.out; omega) = x at *
          obtain ⟨s, dv⟩ := x
          have hbs0 := HD.out _ (List.mem_of_getElem? X1.out)
          obtain ⟨dm, da, dc, hdm, rfl, _, _⟩ := hbs0.shape
          have X2 := Lib.hid (HSE.out _ _ X1.out)
          have hdl : dm ≤ 2147483648 := by
            have h1 := dsum_mem (List.mem_of_getElem? X2.out)
            have h2 := HOK.out.data
            have h3 := hdm.out
            dsimp only at h1 h3
            omega
          have HFI := Lib.hid (fun w' (hb : Below w.heap.size w w') => fine_any s (.slice da dm dc) w' (hbs0.mono hb) (HOK.out.fits.secs _ (List.mem_of_getElem? X2.out)) (by have := hdm.out; dsimp only at this; omega))
          obtain ⟨b1, o1, ha, c10, c11, c12, c13, c14, c15, c16, c17, c18, c19, -⟩ := sec_cells HC.out HBW.out X1.out
          subst ha
          clear hbs0
          have HSB : Hid (secB s = (fineB s && decide (dm ≤ 4194304))) := by unfold secB; rw [hdm.out]; exact rfl
          have HGO := Lib.hid (fun hb : secB s = true => all_step (f := secB) X2.out HT.out hb)
          have HNO := Lib.hid (fun hb : secB s = false => mayE_2 (all_no (f := secB) X2.out hb))
          obtain ⟨name, typ, flags, addr, align, size, link, info, ent, data⟩ := s
          dsimp only at *
          generalize fineB ⟨name, typ, flags, addr, align, size, link, info, ent, data⟩ = fb at *
          generalize secB ⟨name, typ, flags, addr, align, size, link, info, ent, data⟩ = sb at *
          cases fb with
          | false =>
            have HR := Lib.hid (HNO.out (by rw [HSB.out]; rfl))
            clear HNO HGO HSB
            go_wp2_with (first
              | ((with_reducible show wpList _ _ _ (⟨none, .store _ _ _, _, _, _, _⟩ :: _) _ _); go_must (refine wpList_storeNew rfl rfl (by kernel_rfl) rfl (by simp [Value.oneCell']) ?_; intro w2 hh2 hb2; obtain ⟨e0, e1, e2, e3, e4, e5, e6, e7, e8, e9⟩ := sec_box (x := (⟨name, typ, flags, addr, align, size, link, info, ent, data⟩, .slice da dm dc)) hh2; have HB2 := Lib.hid (HB.out.trans (hb2.mono HB.out.size)); have HH2 := Lib.hid hh2))
              | (go_at_call 47; refine (HFI.out _ (HB1.out.trans (HB2.out.mono HB1.out.size))).mono ?_; rintro r w4 ⟨rfl, hb4⟩; obtain ⟨f0, f1, f2, f3, f4, f5, f6, f7, f8, f9⟩ := sec_box (x := (⟨name, typ, flags, addr, align, size, link, info, ent, data⟩, .slice da dm dc)) (heap_below hb4 HH2.out); have HB4 := Lib.hid (HB2.out.trans (hb4.mono HB2.out.size))))
            go_ret
            exact ⟨by rw [HR.out]; rfl, HB1.out.trans (HB4.out.mono HB1.out.size)⟩
          | true =>
            by_cases hd4 : dm ≤ 4194304
            · have HT1 := Lib.hid (HGO.out (by rw [HSB.out, decide_eq_true hd4]; rfl))
              clear HNO HGO HSB
              go_wp2_with (first
                | ((with_reducible show wpList _ _ _ (⟨none, .store _ _ _, _, _, _, _⟩ :: _) _ _); go_must (refine wpList_storeNew rfl rfl (by kernel_rfl) rfl (by simp [Value.oneCell']) ?_; intro w2 hh2 hb2; obtain ⟨e0, e1, e2, e3, e4, e5, e6, e7, e8, e9⟩ := sec_box (x := (⟨name, typ, flags, addr, align, size, link, info, ent, data⟩, .slice da dm dc)) hh2; have HB2 := Lib.hid (HB.out.trans (hb2.mono HB.out.size)); have HH2 := Lib.hid hh2))
                | (go_at_call 47; refine (HFI.out _ (HB1.out.trans (HB2.out.mono HB1.out.size))).mono ?_; rintro r w4 ⟨rfl, hb4⟩; obtain ⟨f0, f1, f2, f3, f4, f5, f6, f7, f8, f9⟩ := sec_box (x := (⟨name, typ, flags, addr, align, size, link, info, ent, data⟩, .slice da dm dc)) (heap_below hb4 HH2.out); have HB4 := Lib.hid (HB2.out.trans (hb4.mono HB2.out.size))))
              go_roundw
              case rel =>
                first
                  | exact ⟨k + 1, by go_num, by omega, HT1.out, HB4.out⟩
                  | ((repeat apply Exists.intro); exact ⟨⟨k + 1, by go_num, by omega, HT1.out, HB4.out⟩, rfl⟩)
              case measure => simp [intOf] <;> omega
            · have HR := Lib.hid (HNO.out (by rw [HSB.out, decide_eq_false hd4]; rfl))
              clear HNO HGO HSB
              go_wp2_with (first
                | ((with_reducible show wpList _ _ _ (⟨none, .store _ _ _, _, _, _, _⟩ :: _) _ _); go_must (refine wpList_storeNew rfl rfl (by kernel_rfl) rfl (by simp [Value.oneCell']) ?_; intro w2 hh2 hb2; obtain ⟨e0, e1, e2, e3, e4, e5, e6, e7, e8, e9⟩ := sec_box (x := (⟨name, typ, flags, addr, align, size, link, info, ent, data⟩, .slice da dm dc)) hh2; have HB2 := Lib.hid (HB.out.trans (hb2.mono HB.out.size)); have HH2 := Lib.hid hh2))
                | (go_at_call 47; refine (HFI.out _ (HB1.out.trans (HB2.out.mono HB1.out.size))).mono ?_; rintro r w4 ⟨rfl, hb4⟩; obtain ⟨f0, f1, f2, f3, f4, f5, f6, f7, f8, f9⟩ := sec_box (x := (⟨name, typ, flags, addr, align, size, link, info, ent, data⟩, .slice da dm dc)) (heap_below hb4 HH2.out); have HB4 := Lib.hid (HB2.out.trans (hb4.mono HB2.out.size))))
              go_ret
              exact ⟨by rw [HR.out]; rfl, HB1.out.trans (HB4.out.mono HB1.out.size)⟩
        ·
          have hkn : e.secs.take k = e.secs := List.take_of_length_le (by have := HL.out; have := HEL.out; omega)
          have HALL : Hid (e.secs.all secB = true) := by
            have := HT.out
            rw [hkn] at this
            exact this
          have HBF := Lib.hid HB.out
          obtain ⟨d0, d1, d2, d3, d4, d5⟩ := elf_box (heap_below HB.out HX1.out)
          clear HT hkn d0 d1 d2 d3 d4
          go_wp2
          go_loopw [59] (fun i wx => ∃ k : Nat, i = .int .i64 k ∧ k ≤ gn ∧ Hid ((e.segs.take k).all (fun s => powB s.align) = true) ∧ Hid (Below w1.heap.size w1 wx)) (fun i _ => gn - (intOf i).toNat)
          case atStart => exact ⟨0, rfl, Nat.zero_le _, rfl, HBF.out⟩
          case round =>
            obtain ⟨k, rfl, hk, HT, HB⟩ := hrel
            have hbs := HB.out.size
            have HBW := Lib.hid (HB1.out.trans (HB.out.mono HB1.out.size))
            by_cases hlt : k < gn
            · have X1 := Lib.hid (show e.segs[k]? = some (e.segs[k]'(by have := HGN.out; omega)) from List.getElem?_eq_getElem _)
              generalize e.segs[k]'(by have := HGN.out; omega) = x at *
              have HPO := Lib.hid (fun w => power_any x.align w (HOK.out.fits.segs _ (List.mem_of_getElem? X1.out)).2.2.2.2.2.2)
              have HGO := Lib.hid (fun hb : powB x.align = true => all_step (f := fun s : SegM => powB s.align) X1.out HT.out hb)
              have HNO := Lib.hid (fun hb : powB x.align = false => mayE_3 (all_no (f := fun s : SegM => powB s.align) X1.out hb))
              obtain ⟨b1, o1, ha, c10, c11, c12, c13, c14, c15, c16, -⟩ := seg_cells HCG.out HBW.out X1.out
              subst ha
              obtain ⟨typ, flags, off, vaddr, filesz, memsz, align⟩ := x
              dsimp only at *
              generalize powB align = pb at *
              cases pb with
              | false =>
                have HR := Lib.hid (HNO.out rfl)
                clear HNO HGO
                go_wp2_with (first
                  | ((with_reducible show wpList _ _ _ (⟨none, .store _ _ _, _, _, _, _⟩ :: _) _ _); go_must (refine wpList_storeNew rfl rfl (by kernel_rfl) rfl (by simp [Value.oneCell']) ?_; intro w2 hh2 hb2; obtain ⟨e0, e1, e2, e3, e4, e5, e6⟩ := seg_box (x := ⟨typ, flags, off, vaddr, filesz, memsz, align⟩) hh2; have HB2 := Lib.hid (HB.out.trans (hb2.mono HB.out.size))))
                  | (go_at_call 48; refine (HPO.out _).mono ?_; rintro r w4 ⟨rfl, rfl⟩))
                go_ret
                exact ⟨by rw [HR.out]; rfl, HB1.out.trans (HB2.out.mono HB1.out.size)⟩
              | true =>
                have HT1 := Lib.hid (HGO.out rfl)
                clear HNO HGO
                go_wp2_with (first
                  | ((with_reducible show wpList _ _ _ (⟨none, .store _ _ _, _, _, _, _⟩ :: _) _ _); go_must (refine wpList_storeNew rfl rfl (by kernel_rfl) rfl (by simp [Value.oneCell']) ?_; intro w2 hh2 hb2; obtain ⟨e0, e1, e2, e3, e4, e5, e6⟩ := seg_box (x := ⟨typ, flags, off, vaddr, filesz, memsz, align⟩) hh2; have HB2 := Lib.hid (HB.out.trans (hb2.mono HB.out.size))))
                  | (go_at_call 48; refine (HPO.out _).mono ?_; rintro r w4 ⟨rfl, rfl⟩))
                go_roundw
                case rel =>
                  first
                    | exact ⟨k + 1, by go_num, by omega, HT1.out, HB2.out⟩
                    | ((repeat apply Exists.intro); exact ⟨⟨k + 1, by go_num, by omega, HT1.out, HB2.out⟩, rfl⟩)
                case measure => simp [intOf] <;> omega
            · have hkn : e.segs.take k = e.segs := List.take_of_length_le (by have := HGN.out; omega)
              have HALG : Hid ((e.segs.all fun s => powB s.align) = true) := by
                have := HT.out
                rw [hkn] at this
                exact this
              have HM3 := Lib.hid (mayE_all HM2.out HALL.out HALG.out)
              have HNA := Lib.hid (names_any e L _ _ _ (HAT.out.mono HBW.out) (by have := HL.out; omega))
              have HPW : Hid (∀ s ∈ e.secs, powB s.align = true) := fun s hs => fineB_pow (by
                have := List.all_eq_true.1 HALL.out s hs
                unfold secB at this
                simp only [Bool.and_eq_true] at this
                exact this.1)
              obtain ⟨d0, d1, d2, d3, d4, d5⟩ := elf_box (heap_below HB.out HX1.out)
              clear HT hkn
              go_wp2_with fail
              clear d0 d1 d2 d3 d4 d5
              have HTL := Lib.hid (tabOf_len e)
              have HTD : Hid (tabOf e = (buildR (namesOf e.secs)).1) := rfl
              refine HNA.out.mono ?_
              rintro r w2 ⟨v1, v2, rfl, ob1, -, hb2⟩
              have HB2 := Lib.hid (HB.out.trans (hb2.mono HB.out.size))
              have HBW2 := Lib.hid (HB1.out.trans (HB2.out.mono HB1.out.size))
              obtain ⟨tn, ta, tc, htn, rfl, _, _⟩ := ob1.bs.shape
              rw [← HTD.out] at htn
              have htl : tn ≤ 40000 := by have h1 := HTL.out; have h2 := htn.out; have h3 := HEL.out; have h4 := HL.out; omega
              clear ob1 hb2 HNA
              by_cases hz : (buildR (namesOf e.secs)).2.2 = 0
              · have HM4 := Lib.hid (may3_yes hz htn.out)
                have HPL := Lib.hid (places_any e L _ _ tn w2 (HAT.out.mono HBW2.out) (by have := HL.out; omega) (by have := HGN.out; omega) HPW.out HOK.out.fits.secs HOK.out.data (by omega))
                have hhl := (headsOf_le (t := tn) HPW.out (by have := HEL.out; have := HL.out; omega) (by have := HGN.out; omega) HOK.out.data (by omega)).2
                have HFIN : Hid (mayE e = decide ((headsOf e tn : Int) + 64 * ((nl : Int) + 2) ≤ 4194304)) := by
                  have h1 := HEL.out; have h2 := HL.out; rw [HM3.out, HM4.out, Bool.eq_iff_iff, decide_eq_true_iff, decide_eq_true_iff]
                  constructor <;> intro h <;> omega
                rw [hz]
                have HXZ := Lib.hid hz
                clear hz HM3 HM4
                generalize headsOf e tn = hh at *
                generalize (placesOf e).2 = pe at *
                obtain ⟨d0, d1, d2, d3, d4, d5⟩ := elf_box (heap_below HB2.out HX1.out)
                go_wp2_with fail
                clear d0 d1 d2 d3 d4 d5
                refine HPL.out.mono ?_
                rintro r w3 ⟨v3, rfl, -, hb3⟩
                obtain ⟨d0, d1, d2, d3, d4, d5⟩ := elf_box (heap_below (HB2.out.trans (hb3.mono HB2.out.size)) HX1.out)
                have HB3 := Lib.hid (HBW2.out.trans (hb3.mono HBW2.out.size))
                clear hb3 d0 d1 d2 d3 d5
                go_wp2
                go_ret
                exact ⟨by rw [HFIN.out]; rfl, HB3.out⟩
              · have HR := Lib.hid (HM3.out.trans (may3_no hz))
                generalize (buildR (namesOf e.secs)).2.2 = z at *
                have hz2 : (z != 0) = true := by simpa using hz
                have HXZ := Lib.hid hz
                clear hz
                go_wp2
                go_ret
                exact ⟨by rw [HR.out]; rfl, HBW2.out⟩
  · have HR := Lib.hid (mayE_1 (by simpa using h1))
    have hm1 : ((decide (e.typ = 1) || decide (e.typ = 2)) && !decide (mt = 0) && decide (nl ≤ 250) && decide (gn ≤ 16)) = false := by rw [← HM1.out]; simpa using h1
    have ht : ((e.typ != 1) = true ∧ (e.typ != 2) = true) ∨ ((e.typ != 1) = false ∨ ((e.typ != 1) = true ∧ (e.typ != 2) = false)) ∧ (((mt : Int) == 0) = true ∨ ((mt : Int) == 0) = false ∧ (250 < nl ∨ nl ≤ 250 ∧ 16 < gn)) := by
      by_cases t1 : e.typ = 1
      · refine .inr ⟨.inl (by rw [t1]; rfl), ?_⟩
        simp only [t1, decide_true, Bool.true_or, Bool.true_and, Bool.and_eq_false_iff, Bool.not_eq_false', decide_eq_true_eq, decide_eq_false_iff_not] at hm1
        rw [beq_iff_eq, beq_eq_false_iff_ne]
        omega
      · by_cases t2 : e.typ = 2
        · refine .inr ⟨.inr (by rw [t2]; exact ⟨rfl, rfl⟩), ?_⟩
          simp only [t2, decide_true, Bool.or_true, Bool.true_and, Bool.and_eq_false_iff, Bool.not_eq_false', decide_eq_true_eq, decide_eq_false_iff_not] at hm1
          rw [beq_iff_eq, beq_eq_false_iff_ne]
          omega
        · exact .inl ⟨by simpa using t1, by simpa using t2⟩
    have HX8 := Lib.hid h1
    clear h1 hm1 HM1
    rcases ht with ⟨ht1, ht2⟩ | ⟨ht1 | ⟨ht1, ht2⟩, hmt | ⟨hmt, hn | ⟨hn, hg⟩⟩⟩
    all_goals
      go_enter Try.func19, Try.ntmps19
      go_wp2_with (first
        | ((with_reducible show wpList _ _ _ (⟨_, .box _ _, _, _, _, _⟩ :: _) _ _); go_must (refine wpList_box rfl ?_; intro w1 hx1 hb1 hs1; obtain ⟨c0, c1, c2, c3, c4, c5⟩ := elf_box hx1))
        | (go_at_call 46; refine (HMC.out _).mono ?_; rintro r w2 ⟨rfl, rfl⟩))
      go_ret
      exact ⟨by rw [HR.out]; rfl, hb1⟩
end Go.Proofs.Ytmpelmjhimalpaa
namespace Go.Fd
open Go.RowKit
abbrev U64 (n : Nat) : Value := .int .u64 (n : Int)
/-- A row of values in a block of its own, made in a region. -/
def Yld.lit (B : Nat) (t : TypeId) (cs : Array Value) : Yld := ⟨Nat, 0, fun g => .slice (some ⟨g, 0, none⟩) cs.size cs.size, fun g w => B ≤ g ∧ w.heap[g]? = some (.cells cs t (0, 0)),
  fun g w w' ⟨h1, h2⟩ hb => ⟨h1, by rw [hb.block g (Array.getElem?_eq_some_iff.1 h2).1]; exact h2⟩⟩
theorem walk_lit {P : Program} {Up : Exit → Prop} {L r : List Oper} {M : List (Nat × Yld)} {a : Act} {w0 : World} {E : Act → Prop} {i : Nat} {o : Oper} {B : Nat} {t : TypeId} {cs : Array Value} (hw : Region.wanted o (yielded L.toArray a.tmps) = true) (hM : madeAt M i = some (Yld.lit B t cs)) (h : ∀ w, Below w0.heap.size w0 w → Deps L M a o w → WpYld P Up o a (Yld.lit B t cs) w) (hn : ∀ g : Nat, walk P Up L M w0 E (i + 1) r (a.put o.dst (.slice (some ⟨g, 0, none⟩) cs.size cs.size))) : walk P Up L M w0 E i (o :: r) a :=
  walk_made hw hM h hn
theorem Yld.lit_got {B g : Nat} {t : TypeId} {cs : Array Value} {w : World} (h : (Yld.lit B t cs).R (.slice (some ⟨g, 0, none⟩) cs.size cs.size) w) : B ≤ g ∧ w.heap[g]? = some (.cells cs t (0, 0)) := by
  obtain ⟨x, e, hr⟩ := h
  have : g = x := by
    have e' : (Value.slice (some ⟨g, 0, none⟩) cs.size cs.size) = .slice (some ⟨x, 0, none⟩) cs.size cs.size := e
    injection e' with e'; injection e' with e'; injection e'
  subst this
  exact hr
theorem Yld.lit_mk {w0 w : World} {t : TypeId} (cs : Array Value) (h : Below w0.heap.size w0 w) : (Yld.lit w0.heap.size t cs).R (.slice (some ⟨w.heap.size, 0, none⟩) cs.size cs.size) (w.alloc (.cells cs t)) ∧ Below w.heap.size w (w.alloc (.cells cs t)) :=
  ⟨⟨w.heap.size, rfl, h.size, heap_alloc_last w _⟩, below_alloc w _⟩
end Go.Fd
namespace Go.Proofs.Ytmpelmjhimalpaa
open Go.RowKit Go.Fd
theorem TF : SliceT Try.prog 70 5 1 1 := SliceT.mk' (z := .int .u8 0) (by kernel_rfl) (by kernel_rfl) rfl (by omega)
/-- A file's bytes behind a pointer. -/
def FileAt (w : World) (base g : Nat) (l : List UInt8) : Prop := ∃ v, w.heap[g]? = some (.cells #[v] 70 (0, 0)) ∧ base ≤ g ∧ OB w base v l
/-- Blocks of other elements' types, but for one block, stay as they are. -/
def KeepF (g : Nat) (w w' : World) : Prop := ∀ (b : Nat) cs e fr, b ≠ g → e ≠ 5 → w.heap[b]? = some (.cells cs e fr) → w'.heap[b]? = some (.cells cs e fr)
theorem KeepF.refl (g : Nat) (w : World) : KeepF g w w := fun _ _ _ _ _ _ h => h
theorem KeepF.trans {g : Nat} {w w' w'' : World} (h : KeepF g w w') (k : KeepF g w' w'') : KeepF g w w'' := fun b cs e fr hb he hh => k b cs e fr hb he (h b cs e fr hb he hh)
theorem KeepF.of {g : Nat} {w w' : World} (h : Keeps 5 w w') : KeepF g w w' := fun b cs e fr _ he hh => h b cs e fr he hh
theorem KeepF.below {g : Nat} {w w' : World} (h : Below w.heap.size w w') : KeepF g w w' := KeepF.of (keeps_below h)
theorem FileAt.mono {w w' : World} {base g : Nat} {l : List UInt8} (h : FileAt w base g l) (hb : Below w.heap.size w w') : FileAt w' base g l := by
  obtain ⟨v, h1, h2, h3⟩ := h
  exact ⟨v, heap_below hb h1, h2, h3.mono hb⟩
theorem ob_apart {w : World} {base g : Nat} {v : Value} {l : List UInt8} {cs : Array Value} {e : TypeId} {fr : Nat × Nat} (ho : OB w base v l) (hg : w.heap[g]? = some (.cells cs e fr)) (he : e ≠ 5) : ∀ k, v.ownBlock = some k → k ≠ g := by
  intro k hk hkg
  subst hkg
  rcases ho.2 with ⟨rfl, -⟩ | ⟨g', cap, cur, rfl, -, hh, -⟩
  · cases hk
  · simp only [Value.ownBlock, Option.some.injEq] at hk
    subst hk
    rw [hg] at hh
    cases hh
    exact he rfl
theorem free_rec' {w : World} {g : Nat} {cs : Array Value} {t : TypeId} (h : w.heap[g]? = some (.cells cs t (0, 0))) (c : Nat) : w.frozen? ⟨g, c, none⟩ = false := by simp [World.frozen?, h]
/-- The store of a file's bytes. -/
theorem wpList_storeF {ops : Array Oper} {rest : List Oper} {Q : Exit → Act → World → Prop} {a : Act} {w : World} {d : Option Tmp} {ty : TypeId} {pos : String} {aft : Array Edge} {p x : Operand} {g base : Nat} {v u : Value} {l : List UInt8} (hg : w.heap[g]? = some (.cells #[u] 70 (0, 0))) (hb : base ≤ g) (ho : OB w base v l) (hp : a.eval p = .pointer (some ⟨g, 0, none⟩)) (hx : a.eval x = v) (hbw : base ≤ w.heap.size)
    (h : ∀ w1, FileAt w1 base g l → Below base w w1 → KeepF g w w1 → wpList Try.prog ops Q rest (a.put d undef) w1) :
    wpList Try.prog ops Q (⟨d, .store 70 p x, ty, pos, aft, none⟩ :: rest) a w := by
  have hc : w.cell? ⟨g, 0, none⟩ = some u := cell_rec hg 0
  have hfz := free_rec' hg 0
  have hst : Stirs (fun k => k = g) w (w.setCell ⟨g, 0, none⟩ v) := stirs_setCell (S := fun k => k = g) _ g 0 _ rfl
  obtain ⟨m, ad, cap, hm, rfl, _, _⟩ := ho.shape
  refine wpList_did (w' := w.setCell ⟨g, 0, none⟩ (.slice ad m cap)) rfl ?_ (h _ ⟨.slice ad m cap, ?_, hb, ?_⟩ ?_ ?_)
  · simp only [execOp, hp, hx]
    simp [go_sem, hc, hfz]
  · simp [World.setCell, Array.getElem?_modify, hg]
  · exact owns_stirs ho hst (ob_apart ho hg (by decide))
  · exact hst.below hbw (fun k hk => by rw [hk]; exact hb)
  · intro b cs e fr hbg he hh
    simp [World.setCell, Array.getElem?_modify, Ne.symm hbg, hh]
/-- Bytes in a block of their own. -/
theorem bs_heap {w : World} {g : Nat} {l : List UInt8} {cs : Array Value} {t : TypeId} {fr : Nat × Nat} {n : Nat} (h : w.heap[g]? = some (.cells cs t fr)) (hc : cs = (l.map B).toArray) (hn : n = l.length) : Bs w (.slice (some ⟨g, 0, none⟩) n n) l := by
  subst hc hn
  refine ⟨by simp, _, _, rfl, Nat.le_refl _, (fun h => by cases h), fun j hj => ⟨g, 0, rfl, ?_⟩⟩
  rw [Nat.zero_add, cell_rec h j]
  simp
theorem wpList_catF {ops : Array Oper} {rest : List Oper} {Q : Exit → Act → World → Prop} {a : Act} {w : World} {d : Option Tmp} {ty : TypeId} {pos : String} {aft : Array Edge} {s x : Operand} {v u : Value} {base : Nat} {l m : List UInt8} (hown : OB w base v l) (hy : Bs w u m)
    (hs : a.eval s = v) (hx : a.eval x = u) (hn : l.length + m.length ≤ 140737488355328) (hb : base ≤ w.heap.size)
    (h : ∀ v' w', OB w' base v' (l ++ m) → w.grownBy w' v.ownBlock → Below base w w' → wpList Try.prog ops Q rest (a.put d v') w') {t2 : TypeId} (ht2 : t2 = 70) :
    wpList Try.prog ops Q (⟨d, .call { callee := .builtin .append, args := #[s, x], argTypes := #[70, t2] }, ty, pos, aft, none⟩ :: rest) a w := by
  subst ht2
  refine wpList_cat TF hown hy hs hx (allB _) (by omega) hn hb fun v' w' h1 h2 h3 => h v' w' ?_ h2 h3
  unfold OB
  rw [List.length_append, List.map_append]
  exact h1
/-- append in a region that draws: bytes of a file, and a row of bytes of its own. -/
theorem step_catF {P : Program} {ops : Array Oper} {o : Oper} {a : Act} {w : World} {K : Act → World → Prop} {Q : Exit → Act → World → Prop} {E : Prop}
    (hg : o.guard = none) (s x : Operand) (t : TypeId) (e : TypeId) (T : SliceT P t e 1 1) (hop : o.op = Op.call { callee := Callee.builtin Builtin.append, args := #[s, x], argTypes := #[t, t] })
    {base : Nat} {v : Value} {l m : List UInt8} {ad : Addr} {n c : Nat} (hown : w.ownsRow base e 1 v l.length (l.map B)) (hs : a.eval s = v) (hx : a.eval x = .slice (some ad) n c) (hm : n = m.length)
    (hc : ∀ j u, (m.map B)[j]? = some u → w.cell? (ad.add j) = some u) (hn : l.length + m.length ≤ 140737488355328) (hb : base ≤ w.heap.size)
    (hK : ∀ v' w', w'.ownsRow base e 1 v' (l ++ m).length ((l ++ m).map B) → w.grownBy w' v.ownBlock → K (a.put o.dst v') w') :
    if Region.wanted o (yielded ops a.tmps) = true then Oper.wp P o a w K Q else E := by
  have hw : Region.wanted o (yielded ops a.tmps) = true := by simp [Region.wanted, hg]
  rw [if_pos hw]
  obtain ⟨i, z, h1, h2, h3, h4, h5⟩ := T.info
  subst hm
  obtain ⟨v', w', hrun, h6, h7, -⟩ := run_append_own (w := w) base t o.type e i z 1 1 T.ht h1 h2 h3 h4 h5 T.pos v l.length (l.map B) hown ad m.length c (m.map B) (by simp) hc (fun u hu => List.all_eq_true.1 (allB m) u hu) (maxLen_of (by omega)) (by omega) hb
  unfold Oper.wp
  simp [execOp, hop, resolve, invoke, builtin, hs, hx, hrun, Result.andThen]
  refine hK v' w' ?_ h7
  rw [List.length_append, List.map_append]
  exact h6
theorem fileAt_set {w : World} {g base : Nat} {v u : Value} {l : List UInt8} (hg : w.heap[g]? = some (.cells #[u] 70 (0, 0))) (hb : base ≤ g) (ho : OB w base v l) (hbw : base ≤ w.heap.size) :
    FileAt (w.setCell ⟨g, 0, none⟩ v) base g l ∧ Below base w (w.setCell ⟨g, 0, none⟩ v) ∧ KeepF g w (w.setCell ⟨g, 0, none⟩ v) := by
  have hst : Stirs (fun k => k = g) w (w.setCell ⟨g, 0, none⟩ v) := stirs_setCell (S := fun k => k = g) _ g 0 _ rfl
  refine ⟨⟨v, ?_, hb, ?_⟩, ?_, ?_⟩
  · simp [World.setCell, Array.getElem?_modify, hg]
  · exact owns_stirs ho hst (ob_apart ho hg (by decide))
  · exact hst.below hbw (fun k hk => by rw [hk]; exact hb)
  · intro b cs e fr hbg he hh
    simp [World.setCell, Array.getElem?_modify, Ne.symm hbg, hh]
theorem flatf_step {ns : List Nat} {k size n : Nat} (h : ns[k]? = some n) : (ns.take (k + 1)).flatMap (fixed · size) = (ns.take k).flatMap (fixed · size) ++ fixed n size := by
  rw [List.take_add_one, h, List.flatMap_append]
  simp
set_option maxHeartbeats 1000000 in
set_option maxRecDepth 100000 in
theorem putF_any (ns : List Nat) (size b g base : Nat) (l : List UInt8) (w : World) (hf : FileAt w base g l) (hv : w.heap[b]? = some (.cells (ns.map U64).toArray 24 (0, 0))) (hbg : b ≠ g) (hs : size ≤ 8) (hl : l.length ≤ 1000000000) (hns : ns.length ≤ 10) (hn : ∀ n ∈ ns, n < 18446744073709551616) (hbase : base ≤ w.heap.size) (cap : Nat) (_hcap : ns.length ≤ cap) :
    Calls Try.prog 23 #[.pointer (some ⟨g, 0, none⟩), .int .i64 size, .slice (some ⟨b, 0, none⟩) ns.length cap] w fun r w' => r = .returned (.tuple #[]) ∧ FileAt w' base g (l ++ ns.flatMap (fixed · size)) ∧ Below base w w' ∧ KeepF g w w' := by
  have HF := Lib.hid hf
  have HV := Lib.hid hv
  have HN := Lib.hid hn
  obtain ⟨m, hm⟩ : ∃ m, m = ns.length := ⟨_, rfl⟩
  rw [← hm] at hns _hcap ⊢
  have HM := Lib.hid hm
  have HBG := Lib.hid hbg
  clear hf hv hn hm hbg
  go_enter Try.func23, Try.ntmps23
  go_wp2
  go_loopw [11] (fun i wr => ∃ k : Nat, i = .int .i64 k ∧ k ≤ m ∧ Hid (FileAt wr base g (l ++ (ns.take k).flatMap (fixed · size))) ∧ Hid (Below base w wr) ∧ Hid (KeepF g w wr)) (fun i _ => m - (intOf i).toNat)
  case atStart => exact ⟨0, rfl, Nat.zero_le _, by simpa [Hid] using HF.out, Below.refl _ _, KeepF.refl _ _⟩
  case round =>
    obtain ⟨k, rfl, hk, HO, HB, HK⟩ := hrel
    by_cases hlt : k < m
    · have X1 := Lib.hid (show ns[k]? = some (ns[k]'(by have := HM.out; omega)) from List.getElem?_eq_getElem _)
      generalize ns[k]'(by have := HM.out; omega) = n at *
      have hc := cell_rec (HK.out _ _ _ _ HBG.out (by decide) HV.out) k
      rw [List.getElem?_toArray, List.getElem?_map, X1.out] at hc
      simp only [Option.map_some] at hc
      have HST := Lib.hid (flatf_step (size := size) X1.out)
      have HLN := Lib.hid (show (l ++ (ns.take k).flatMap (fixed · size)).length ≤ 1000000100 by
        rw [List.length_append, flat_len' (fun n => length_fixed n size), List.length_take]
        have := Nat.mul_le_mul (Nat.min_le_left k ns.length) hs
        have := Nat.mul_le_mul_right 8 hk
        omega)
      have hnn := HN.out n (List.mem_of_getElem? X1.out)
      generalize hT : l ++ (ns.take k).flatMap (fixed · size) = T at *
      have HT := Lib.hid hT
      have HBR := Lib.hid HB.out
      clear hT
      go_wp2
      go_loopw [16] (fun j wx => ∃ i : Nat, j = .int .i64 i ∧ i ≤ size ∧ Hid (FileAt wx base g (T ++ fixed n i)) ∧ Hid (Below base w wx) ∧ Hid (KeepF g w wx)) (fun j _ => size - (intOf j).toNat)
      case atStart => exact ⟨0, rfl, Nat.zero_le _, by simpa [Hid, fixed] using HO.out, HBR.out, HK.out⟩
      case round =>
        obtain ⟨i, rfl, hi, HO2, HB2, HK2⟩ := hrel
        by_cases hlt2 : i < size
        · obtain ⟨v, hg, hbg, hov⟩ := HO2.out
          have HG := Lib.hid hg
          have c0 := cell_rec hg 0
          simp only [List.getElem?_toArray, List.getElem?_cons_zero] at c0
          have hAB := fun (x : Above wr) (b k : Nat) (h : b < wr.heap.size) => Above.cell x b k h
          have hblt : g < wr.heap.size := block_lt c0
          have HSH := Lib.hid (shr_byte n i)
          go_wp2
          have hlast := HG.out
          have hw8 : IntKind.i64.wrap (8 * (i : Int)) = 8 * (i : Int) := by
            have := i64_small (n := 8 * i) (by omega)
            simpa using this
          have HOV := Lib.hid (fun o => (show OB (wr.drew.alloc o) base v (T ++ fixed n i) from hov.mono (((Below.refl _ _).drew).alloc (Nat.le_refl _) o)))
          have HLC : Hid (∀ j u, ([UInt8.ofNat (n / 256 ^ i)].map B)[j]? = some u → (wr.drew.alloc (.cells #[.int .u8 ((n : Int) / 2 ^ (8 * i) % 256)] 5)).cell? ((⟨wr.heap.size, 0, none⟩ : Addr).add j) = some u) := by
            intro j u hj
            obtain rfl : j = 0 := by
              have := (List.getElem?_eq_some_iff.1 hj).1
              simp at this
              exact this
            rw [HSH.out]
            have := heap_alloc_last wr.drew (.cells #[.int .u8 ((UInt8.ofNat (n / 256 ^ i)).toNat : Int)] 5)
            exact (cell_rec this 0).trans hj
          have HLL := Lib.hid (show (T ++ fixed n i).length + [UInt8.ofNat (n / 256 ^ i)].length ≤ 140737488355328 by rw [List.length_append, length_fixed]; have h1 := HLN.out; simp; omega)
          have HBL := Lib.hid (fun o => (show base ≤ (wr.drew.alloc o).heap.size by rw [World.size_alloc]; have := HB2.out.size; simp; omega))
          have HGA := Lib.hid (fun o => heap_below (show Below wr.heap.size wr (wr.drew.alloc o) from ((Below.refl _ _).drew).alloc (Nat.le_refl _) o) HG.out)
          have HBA := Lib.hid (fun o => (show Below wr.heap.size wr (wr.drew.alloc o) from ((Below.refl _ _).drew).alloc (Nat.le_refl _) o))
          go_region_law (refine step_catF rfl (.tmp 22) (.tmp 28) 70 5 TF rfl (m := [UInt8.ofNat (n / 256 ^ i)]) (HOV.out _) rfl rfl rfl HLC.out HLL.out (HBL.out _) ?_; intro v3 w3 hv3 hg3; obtain ⟨m3, ad3, cap3, hm3, rfl, _, _⟩ := (show OB w3 base v3 (T ++ fixed n i ++ [UInt8.ofNat (n / 256 ^ i)]) from hv3).shape; have hg33 := keeps_own (HOV.out _) hg3 _ _ _ _ (by decide) (HGA.out _); have c3 := cell_rec hg33 0; have z3 := free_rec' hg33 0; simp only [List.getElem?_toArray, List.getElem?_cons_zero] at c3; have HG33 := Lib.hid hg33; have HV3 := Lib.hid hv3; have HGR3 := Lib.hid hg3; clear hg33 hv3 hg3)
          all_goals
            have HBX := Lib.hid (HB2.out.trans ((HBA.out (.cells #[.int .u8 ((n : Int) / 2 ^ (8 * i) % 256)] 5)).mono (Nat.le_trans hbase HB2.out.size)))
            have HB3 := Lib.hid (HBX.out.trans (below_of_grown HGR3.out (Nat.le_trans hbase HBX.out.size) fun k hk => (World.ownsRow.lt (HOV.out (.cells #[] 0)) k hk).1))
            have HK3 := Lib.hid ((HK2.out.trans (KeepF.below (g := g) (HBA.out (.cells #[.int .u8 ((n : Int) / 2 ^ (8 * i) % 256)] 5)))).trans (KeepF.of (keeps_own (HOV.out _) HGR3.out)))
            obtain ⟨hf4, hb4, hk4⟩ := fileAt_set HG33.out hbg (show OB w3 base (.slice ad3 m3 cap3) (T ++ fixed n i ++ [UInt8.ofNat (n / 256 ^ i)]) from HV3.out) (Nat.le_trans hbase HB3.out.size)
            have HF4 := Lib.hid (show FileAt (w3.setCell ⟨g, 0, none⟩ (.slice ad3 m3 cap3)) base g (T ++ fixed n (i + 1)) by rw [fixed_snoc, ← List.append_assoc]; exact hf4)
            have HB4 := Lib.hid (HB3.out.trans hb4)
            have HK4 := Lib.hid (HK3.out.trans hk4)
            clear hf4 hb4 hk4 c3 z3 c0 hov hg hAB hw8
            go_wp2
            go_roundw
            case rel =>
              first
                | exact ⟨i + 1, by go_num, by omega, HF4.out, HB4.out, HK4.out⟩
                | ((repeat apply Exists.intro); exact ⟨⟨i + 1, by go_num, by omega, HF4.out, HB4.out, HK4.out⟩, rfl⟩)
            case measure => simp [intOf] <;> omega
        · obtain rfl : i = size := by omega
          have HF4 := Lib.hid (show FileAt wr base g (l ++ (ns.take (k + 1)).flatMap (fixed · i)) by rw [HST.out, ← List.append_assoc, HT.out]; exact HO2.out)
          go_wp2
          go_roundw
          case rel =>
            first
              | exact ⟨k + 1, by go_num, by omega, HF4.out, HB2.out, HK2.out⟩
              | ((repeat apply Exists.intro); exact ⟨⟨k + 1, by go_num, by omega, HF4.out, HB2.out, HK2.out⟩, rfl⟩)
          case measure => simp [intOf] <;> omega
    · have hkn : ns.take k = ns := List.take_of_length_le (by have := HM.out; omega)
      rw [hkn] at HO
      go_wp2
      go_end0
      exact ⟨rfl, HO.out, HB.out, HK.out⟩
end Go.Proofs.Ytmpelmjhimalpaa
namespace Go.Fd
open Go.RowKit
section
variable {P : Program} (w : World)
theorem zeroCells_one {z : Value} (hz : z.cells = #[z]) (n : Nat) : Builtin.zeroCells z.cells n = (List.replicate n z).toArray := by
  rw [hz]
  unfold Builtin.zeroCells
  apply Array.ext
  · simp
  · intro j h1 h2
    simp [Nat.mod_one]
theorem run_asIntOf' (k : IntKind) (m : Int) : (asIntOf (.int k m)).run P w = .ok (k, m) w := rfl
theorem run_storeCells_nil' (a : Addr) : (storeCells a []).run P w = .ok () w := rfl
theorem run_append_zeros (base : Nat) (t u ty e : TypeId) (i : TypeInfo) (z : Value) (ku k : IntKind) (ht : P.underlying t = some (.slice e)) (hu : P.underlying u = some (.int ku)) (hi : P.info? e = some i) (hz : i.zero = some z)
    (hsize : i.size = 1) (hby : i.bytes = 1) (hzc : z.cells = #[z]) (h1 : z.oneCell' = true)
    (v : Value) (n : Nat) (xs : List Value) (hown : w.ownsRow base e 1 v n xs) (m : Nat) (hle : n + m ≤ 70368744177664) (hbase : base ≤ w.heap.size) :
    ∃ v' w', (Builtin.append_ #[t, u] ty #[v, .int k (m : Int)]).run P w = .ok v' w' ∧ w'.ownsRow base e 1 v' (n + m) (xs ++ List.replicate m z) ∧ w.grownBy w' v.ownBlock := by
  have hw : IntKind.i64.wrap (m : Int) = m := by simp [IntKind.wrap, IntKind.bits, IntKind.signed]; omega
  have hneg : ¬ ((m : Int) < 0) := by omega
  have hbig : ¬ (281474976710656 < (m : Int)) := by omega
  have hzn := zeroCells_one hzc
  have hlen : (xs ++ List.replicate m z).length = n + m := by rw [List.length_append, hown.1, List.length_replicate]; omega
  have grown : ∀ (old : Nat), old < n + m → ∀ (row : Option Nat),
      (w.drew.alloc (.cells (xs.toArray ++ (List.replicate m z).toArray ++ Builtin.zeroCells z.cells (grownCap w (n + m) old e - (n + m))) e)).ownsRow base e 1
        (.slice (some ⟨w.heap.size, 0, none⟩) (n + m) (grownCap w (n + m) old e)) (n + m) (xs ++ List.replicate m z) ∧
      w.grownBy (w.drew.alloc (.cells (xs.toArray ++ (List.replicate m z).toArray ++ Builtin.zeroCells z.cells (grownCap w (n + m) old e - (n + m))) e)) row := by
    intro old ho row
    have hge := grownCap_ge w (n + m) old e
    have hcm : grownCap w (n + m) old e ≤ maxLen := grownCap_le_maxLen w (n + m) old e (maxLen_of (by omega))
    refine ⟨⟨by rw [hlen, Nat.mul_one], .inr ⟨w.heap.size, _, _, rfl, hbase, heap_alloc_new w.drew _, hge, hcm, ?_, ?_⟩⟩, ⟨rfl, rfl, rfl, by simp, fun k hk _ => Below.heap_alloc w.drew _ k (by simpa using hk)⟩⟩
    · rw [hzn]
      have h3 := hown.1
      simp only [Array.size_append, List.size_toArray, List.length_replicate]
      omega
    · simp only [Array.toList_append, List.append_assoc, Nat.mul_one]
      rw [← List.append_assoc, ← hlen]
      exact List.take_left
  rcases hown.2 with ⟨rfl, rfl⟩ | ⟨g, cap, cur, rfl, hbg, hg, hnc, hcm, hcs, htake⟩
  · have hx : xs = [] := List.eq_nil_of_length_eq_zero (by simpa using hown.1)
    subst hx
    by_cases hm : m = 0
    · subst hm
      refine ⟨.slice none 0 0, w, ?_, World.ownsRow_nil w base e 1, ⟨rfl, rfl, rfl, Nat.le_refl _, fun _ _ _ => rfl⟩⟩
      simp [Builtin.append_, run_underlying ht, run_underlying hu, sizeOf, typeInfo, hi, hby, asInt, run_asIntOf', show IntKind.i64.wrap 0 = 0 from rfl]
    · have hgr := grown 0 (by omega) (Value.ownBlock (.slice none 0 0))
      have h48 : ¬ (281474976710656 < Builtin.nextslicecap m 0) := by rw [nextslicecap_zero (by omega)]; omega
      refine ⟨.slice (some ⟨w.heap.size, 0, none⟩) m (grownCap w m 0 e), w.drew.alloc (.cells ((List.replicate m z).toArray ++ Builtin.zeroCells z.cells (grownCap w m 0 e - m)) e), ?_, ?_, ?_⟩
      · simp [Builtin.append_, run_underlying ht, run_underlying hu, sizeOf, typeInfo, zeroValue, hi, hz, hsize, hby, asInt, run_asIntOf', hw, hm, hneg, hbig, h48, Question.forced, run_firstCells_none, newRow, grownCap, hzn]
        intro h
        omega
      · simpa using hgr.1
      · simpa using hgr.2
  · by_cases hroom : n + m ≤ cap
    · have hl : (List.replicate m z).length = m := List.length_replicate
      have hfit : n * 1 + (List.replicate m z).length ≤ cur.size := by rw [hl, hcs]; omega
      have hst := run_storeCells_at P g (n * 1) e (List.replicate m z) 0 cur w hg (by simpa using hfit) (fun u hu => by rw [(List.mem_replicate.1 hu).2]; exact h1)
      simp only [Nat.add_zero, Nat.mul_one] at hst
      by_cases hm : m = 0
      · subst hm
        refine ⟨.slice (some ⟨g, 0, none⟩) n cap, w, ?_, ?_, ⟨rfl, rfl, rfl, Nat.le_refl _, fun _ _ _ => rfl⟩⟩
        · simp [Builtin.append_, run_underlying ht, run_underlying hu, sizeOf, typeInfo, zeroValue, hi, hz, hby, asInt, run_asIntOf', show IntKind.i64.wrap 0 = 0 from rfl, Addr.add_lit, run_storeCells_nil', hnc]
        · rw [List.replicate_zero, List.append_nil, Nat.add_zero]
          exact hown
      refine ⟨.slice (some ⟨g, 0, none⟩) (n + m) cap, w.setRow g (cur.toList.take n ++ List.replicate m z ++ cur.toList.drop (n + m)).toArray, ?_, ?_, ?_⟩
      · simp [Builtin.append_, run_underlying ht, run_underlying hu, sizeOf, typeInfo, zeroValue, hi, hz, hsize, hby, asInt, run_asIntOf', hw, hm, hneg, hbig, hroom, hzn, Addr.add_lit, hst]
      · refine ⟨by rw [hlen, Nat.mul_one], .inr ⟨g, cap, _, rfl, hbg, setRow_heap w g cur _ e _ hg, hroom, hcm, ?_, ?_⟩⟩
        · simp only [List.size_toArray, List.length_append, List.length_take, List.length_drop, Array.length_toList, List.length_replicate]
          omega
        · rw [Nat.mul_one] at htake
          rw [htake, ← hlen, Nat.mul_one]
          exact List.take_left
      · exact ⟨rfl, rfl, rfl, by simp, fun k _ hk => setRow_other w g k _ (fun e => hk (by simp [Value.ownBlock, e]))⟩
    · have hgr := grown cap (by omega) (Value.ownBlock (.slice (some ⟨g, 0, none⟩) n cap))
      have hm : m ≠ 0 := by omega
      have holds : ∀ j u, xs[j]? = some u → w.cell? ((⟨g, 0, none⟩ : Addr).add j) = some u := hown.cells (g := g) rfl
      have hfo := run_firstCells_some (P := P) w.drew 1 n ⟨g, 0, none⟩ n cap xs hown.1 (by simpa using holds)
      have h48 : ¬ (281474976710656 < Builtin.nextslicecap (n + m) cap) := by
        have := growslice_fits (need := n + m) (old := cap) (bytes := 1) (by omega) (by omega)
        omega
      have h63 : ¬ (9223372036854775807 < ((n : Int) + (m : Int))) := by omega
      refine ⟨_, _, ?_, hgr.1, hgr.2⟩
      simp [Builtin.append_, run_underlying ht, run_underlying hu, sizeOf, typeInfo, zeroValue, hi, hz, hsize, hby, asInt, run_asIntOf', hw, hm, hneg, hbig, h48, h63, hroom, hfo, Question.forced, newRow, grownCap, hzn]
end
end Go.Fd
namespace Go.Proofs.Ytmpelmjhimalpaa
open Go.RowKit Go.Fd
/-- append of a made slice in a region that draws. -/
theorem step_zerosF {ops : Array Oper} {o : Oper} {a : Act} {w : World} {K : Act → World → Prop} {Q : Exit → Act → World → Prop} {E : Prop}
    (hg : o.guard = none) (s x : Operand) (hop : o.op = Op.call { callee := Callee.builtin Builtin.append, args := #[s, x], argTypes := #[70, 3] })
    {base : Nat} {v : Value} {l : List UInt8} (d : Nat) {k : IntKind} {z : Int} (hown : OB w base v l) (hs : a.eval s = v) (hx : a.eval x = .int k z) (hz : z = (d : Int)) (hn : l.length + d ≤ 70368744177664) (hb : base ≤ w.heap.size)
    (hK : ∀ v' w', OB w' base v' (l ++ List.replicate d 0) → w.grownBy w' v.ownBlock → K (a.put o.dst v') w') :
    if Region.wanted o (yielded ops a.tmps) = true then Oper.wp Try.prog o a w K Q else E := by
  have hw : Region.wanted o (yielded ops a.tmps) = true := by simp [Region.wanted, hg]
  rw [if_pos hw]
  subst hz
  have hinfo := info_parts (P := Try.prog) (e := 5) (z := .int .u8 0) (size := 1) (bytes := 1) (by kernel_rfl)
  obtain ⟨i, h2, h3, h4, h5⟩ := hinfo
  obtain ⟨v', w', hrun, h6, h7⟩ := run_append_zeros (P := Try.prog) w base 70 3 o.type 5 i (.int .u8 0) .i64 k TF.ht (by kernel_rfl) h2 h3 h4 h5 rfl rfl v l.length (l.map B) hown d hn hb
  unfold Oper.wp
  simp [execOp, hop, resolve, invoke, builtin, hs, hx, hrun, Result.andThen]
  refine hK v' w' ?_ h7
  unfold OB
  rw [List.length_append, List.map_append, List.length_replicate, List.map_replicate]
  exact h6
set_option maxHeartbeats 1000000 in
set_option maxRecDepth 100000 in
theorem fillF_any (d g base : Nat) (z : Int) (l : List UInt8) (w : World) (hf : FileAt w base g l) (hz : z = ((l.length + d : Nat) : Int)) (hl : l.length + d ≤ 10000000000) (hbase : base ≤ w.heap.size) :
    Calls Try.prog 24 #[.pointer (some ⟨g, 0, none⟩), .int .i64 z] w fun r w' => r = .returned (.tuple #[]) ∧ FileAt w' base g (l ++ List.replicate d 0) ∧ Below base w w' ∧ KeepF g w w' := by
  obtain ⟨v, hg, hbg, hov⟩ := hf
  have HG := Lib.hid hg
  have HOV0 := Lib.hid hov
  obtain ⟨m, ad, cap, hm, rfl, _, _⟩ := hov.shape
  have c0 := cell_rec hg 0
  simp only [List.getElem?_toArray, List.getElem?_cons_zero] at c0
  have hw8 : IntKind.i64.wrap (z - (m : Int)) = (d : Int) := by
    have h1 := hm.out
    rw [hz, ← h1]
    simp [IntKind.wrap, IntKind.bits, IntKind.signed]
    omega
  have HOV := Lib.hid (show OB w.drew base (.slice ad m cap) l from hov.mono ((Below.refl _ _).drew))
  have HBD := Lib.hid (show Below w.heap.size w w.drew from (Below.refl _ _).drew)
  have HGA := Lib.hid (heap_below HBD.out HG.out)
  have HLL := Lib.hid (show l.length + d ≤ 70368744177664 by omega)
  have HX := Lib.hid hz
  clear hov hg hz
  go_enter Try.func24, Try.ntmps24
  go_wp2
  go_region_law (refine step_zerosF rfl (.tmp 7) (.tmp 13) rfl d HOV.out rfl rfl rfl HLL.out ?_ ?_; exact hbase; intro v3 w3 hv3 hg3; obtain ⟨m3, ad3, cap3, hm3, rfl, _, _⟩ := hv3.shape; have hg33 := keeps_own HOV.out hg3 _ _ _ _ (by decide) HGA.out; have c3 := cell_rec hg33 0; have z3 := free_rec' hg33 0; simp only [List.getElem?_toArray, List.getElem?_cons_zero] at c3; have HG33 := Lib.hid hg33; have HV3 := Lib.hid hv3; have HGR3 := Lib.hid hg3; clear hg33 hv3 hg3)
  all_goals
    have HB3 := Lib.hid ((HBD.out.mono hbase).trans (below_of_grown HGR3.out (Nat.le_trans hbase HBD.out.size) fun k hk => (World.ownsRow.lt HOV.out k hk).1))
    have HK3 := Lib.hid ((KeepF.below (g := g) HBD.out).trans (KeepF.of (keeps_own HOV.out HGR3.out)))
    obtain ⟨hf4, hb4, hk4⟩ := fileAt_set HG33.out hbg HV3.out (Nat.le_trans hbase HB3.out.size)
    have HF4 := Lib.hid hf4
    have HB4 := Lib.hid (HB3.out.trans hb4)
    have HK4 := Lib.hid (HK3.out.trans hk4)
    clear hf4 hb4 hk4 c3 z3 c0 hbg hw8
    go_wp2
    go_end0
    exact ⟨rfl, HF4.out, HB4.out, HK4.out⟩
end Go.Proofs.Ytmpelmjhimalpaa
namespace Go.Proofs.Ytmpelmjhimalpaa
open Go.RowKit Go.Fd
def putL (size : Nat) (ns : List Nat) : List UInt8 := ns.flatMap (fixed · size)
theorem putL_len (size : Nat) (ns : List Nat) : (putL size ns).length = ns.length * size := flat_len' (fun n => length_fixed n size) ns
def headB (e : ElfM) (heads : Nat) : List UInt8 :=
  [127, 69, 76, 70, 2, 1, 1] ++ List.replicate 9 0 ++ putL 2 [u64of e.typ, mach e.target] ++ putL 4 [1] ++ putL 8 [e.entry, if segsB e = true then 64 else 0, heads] ++ putL 4 [e.flags] ++ putL 2 [64, 56, e.segs.length, 64, e.secs.length + 2, e.secs.length + 1]
theorem headB_len (e : ElfM) (heads : Nat) : (headB e heads).length = 64 := by
  unfold headB
  simp only [List.length_append, putL_len, List.length_replicate]
  rfl
theorem lit64_2 (x y : Int) (w : World) : (Instr.buildSlice 102 2 #[(0, .int .u64 x), (1, .int .u64 y)]).run Try.prog w = .ok (.slice (some ⟨w.heap.size, 0, none⟩) 2 2) (w.alloc (.cells #[.int .u64 x, .int .u64 y] 24)) := by kernel_rfl
theorem lit64_4 (x y z u : Int) (w : World) : (Instr.buildSlice 102 4 #[(0, .int .u64 x), (1, .int .u64 y), (2, .int .u64 z), (3, .int .u64 u)]).run Try.prog w = .ok (.slice (some ⟨w.heap.size, 0, none⟩) 4 4) (w.alloc (.cells #[.int .u64 x, .int .u64 y, .int .u64 z, .int .u64 u] 24)) := by kernel_rfl
theorem run_l2 {x y : Operand} {m n : Int} {a : Act} {w : World} {d : Option Tmp} {ty : TypeId} {pos : String} {aft : Array Edge} {g : Option (Nat × Bool)} (hx : a.eval x = .int .u64 m) (hy : a.eval y = .int .u64 n) :
    (execOp a.eval ⟨d, .buildSlice 102 2 #[(0, x), (1, y)], ty, pos, aft, g⟩).run Try.prog w = .ok (.value (.slice (some ⟨w.heap.size, 0, none⟩) 2 2)) (w.alloc (.cells #[.int .u64 m, .int .u64 n] 24)) := by
  simp only [execOp, List.map_toArray, List.map_cons, List.map_nil, hx, hy, Sem.run_bind, lit64_2, Result.andThen_ok]
  rfl
theorem run_l4 {x y z u : Operand} {m n p q : Int} {a : Act} {w : World} {d : Option Tmp} {ty : TypeId} {pos : String} {aft : Array Edge} {g : Option (Nat × Bool)} (hx : a.eval x = .int .u64 m) (hy : a.eval y = .int .u64 n) (hz : a.eval z = .int .u64 p) (hu : a.eval u = .int .u64 q) :
    (execOp a.eval ⟨d, .buildSlice 102 4 #[(0, x), (1, y), (2, z), (3, u)], ty, pos, aft, g⟩).run Try.prog w = .ok (.value (.slice (some ⟨w.heap.size, 0, none⟩) 4 4)) (w.alloc (.cells #[.int .u64 m, .int .u64 n, .int .u64 p, .int .u64 q] 24)) := by
  simp only [execOp, List.map_toArray, List.map_cons, List.map_nil, hx, hy, hz, hu, Sem.run_bind, lit64_4, Result.andThen_ok]
  rfl
set_option maxHeartbeats 4000000 in
set_option maxRecDepth 100000 in
theorem headF_any (e : ElfM) (nl gn : Nat) (a ga : Option Addr) (ca gc heads g base : Nat) (w : World) (hf : FileAt w base g []) (hnl : nl = e.secs.length) (hgn : gn = e.segs.length) (hfit : e.fits) (ht : e.typ = 1 ∨ e.typ = 2) (hn : nl ≤ 1000) (hg : gn ≤ 1000) (hh : heads ≤ 1000000000000) (hbase : base ≤ w.heap.size) :
    Calls Try.prog 22 #[.pointer (some ⟨g, 0, none⟩), elfV e (.slice a nl ca) (.slice ga gn gc), .int .i64 heads] w fun r w' => r = .returned (.tuple #[]) ∧ FileAt w' base g (headB e heads) ∧ Below base w w' ∧ KeepF g w w' := by
  have HF := Lib.hid hf
  have HFIT := Lib.hid hfit
  have hglt : g < w.heap.size := by obtain ⟨v, h1, -⟩ := hf; exact (Array.getElem?_eq_some_iff.1 h1).1
  obtain ⟨ty, hty, hty2⟩ : ∃ ty : Nat, e.typ = (ty : Int) ∧ ty ≤ 2 := by
    rcases ht with h | h
    · exact ⟨1, h, by omega⟩
    · exact ⟨2, h, by omega⟩
  have HTY := Lib.hid (show u64of e.typ = ty by rw [hty]; unfold u64of; omega)
  have HMC := Lib.hid (fun w => machine_any e.target w)
  have hml := mach_le e.target
  have HHB : Hid (headB e heads = [127, 69, 76, 70, 2, 1, 1] ++ List.replicate 9 0 ++ putL 2 [ty, mach e.target] ++ putL 4 [1] ++ putL 8 [e.entry, if decide (0 < gn) = true then 64 else 0, heads] ++ putL 4 [e.flags] ++ putL 2 [64, 56, gn, 64, nl + 2, nl + 1]) := by
    unfold headB segsB
    rw [HTY.out, hnl, hgn]
    exact rfl
  have HEN := Lib.hid hfit.entry
  have HFL := Lib.hid hfit.flags
  have hfl := hfit.flags
  generalize mach e.target = mt at *
  generalize headB e heads = HBY at *
  have HHT := Lib.hid ht
  clear hf hfit ht hnl hgn HTY
  obtain ⟨etyp, etarget, eflags, eentry, esecs, esegs⟩ := e
  dsimp only at *
  subst hty
  clear HFIT HHT
  go_enter Try.func22, Try.ntmps22
  go_wp2_with (first
    | ((with_reducible show wpList _ _ _ (⟨_, .box _ _, _, _, _, _⟩ :: _) _ _); go_must (refine wpList_box rfl ?_; intro w1 hx1 hb1 hs1; obtain ⟨c0, c1, c2, c3, c4, c5⟩ := elf_box (e := ⟨ty, etarget, eflags, eentry, esecs, esegs⟩) hx1; obtain ⟨v, hg1, hbg, hov⟩ := HF.out; have HG1 := Lib.hid (heap_below hb1 hg1); have HOV1 := Lib.hid (hov.mono hb1); have HB1 := Lib.hid (hb1.mono hbase); obtain ⟨m0, ad0, cap0, hm0, rfl, _, _⟩ := hov.shape; have z0 := cell_rec HG1.out 0; simp only [List.getElem?_toArray, List.getElem?_cons_zero] at z0; clear hg1 hov))
    | ((with_reducible show wpList _ _ _ (⟨some 12, _, _, _, _, _⟩ :: _) _ _); go_must (refine wpList_catF (HOV1.out.mono (below_alloc _ _)) (bs_heap (l := [127, 69, 76, 70, 2, 1, 1]) (n := 7) (heap_alloc_last _ _) rfl rfl) rfl rfl (by simp) (Nat.le_trans hbase (by rw [World.size_alloc]; have := HB1.out.size; omega)) (fun v3 w3 hv3 hg3 hb3 => ?_) rfl; have HG3 := Lib.hid (keeps_own (HOV1.out.mono (below_alloc _ _)) hg3 _ _ _ _ (by decide) (heap_below (below_alloc _ _) HG1.out)); have HX3 := Lib.hid (keeps_own (HOV1.out.mono (below_alloc _ _)) hg3 _ _ _ _ (by decide) (heap_below (below_alloc _ _) hx1)); have HV3 := Lib.hid hv3; have HB3 := Lib.hid ((HB1.out.trans ((below_alloc w1 _).mono (Nat.le_trans hbase HB1.out.size))).trans hb3); have HK3 := Lib.hid (((KeepF.below (g := g) hb1).trans (KeepF.below (below_alloc w1 _))).trans (KeepF.of (keeps_own (HOV1.out.mono (below_alloc _ _)) hg3))); clear hv3 hg3 hb3))
    | ((with_reducible show wpList _ _ _ (⟨none, .store _ _ _, _, _, _, _⟩ :: _) _ _); go_must (refine wpList_storeF HG3.out hbg HV3.out rfl rfl (Nat.le_trans hbase HB3.out.size) ?_; intro w4 hf4 hb4 hk4)))
  have HF4 := Lib.hid hf4
  have HX4 := Lib.hid (hk4 _ _ _ _ (by omega) (by decide) HX3.out)
  have HB4 := Lib.hid (HB3.out.trans hb4)
  have HK4 := Lib.hid (HK3.out.trans hk4)
  clear hf4 hb4 hk4 c0 c1 c2 c3 c4 c5 hx1 z0
  refine (fillF_any 9 g base 16 _ w4 HF4.out rfl (by decide) (Nat.le_trans hbase HB4.out.size)).mono ?_
  rintro r w5 ⟨rfl, hf, hb, hk⟩
  have HF5 := Lib.hid hf
  have HX5 := Lib.hid (hk _ _ _ _ (by omega) (by decide) HX4.out)
  have HB5 := Lib.hid (HB4.out.trans hb)
  have HK5 := Lib.hid (HK4.out.trans hk)
  clear hf hb hk
  obtain ⟨c0, c1, c2, c3, c4, c5⟩ := elf_box (e := ⟨ty, etarget, eflags, eentry, esecs, esegs⟩) HX5.out
  by_cases hgs : 0 < gn
  · have hdec := decide_eq_true hgs
    go_wp2
    have hAB := fun (x : Above w5) (b k : Nat) (h : b < w5.heap.size) => Above.cell x b k h
    have hblt : w.heap.size < w5.heap.size := block_lt c0
    refine wp_region_walk 8 [(6, .is (.int .u64 (mt : Int))), (7, .lit w5.heap.size 24 #[.int .u64 (ty : Int), .int .u64 (mt : Int)])] (by kernel_rfl) (by kernel_rfl) ?_
    simp only [List.take_succ_cons, List.take_zero, List.drop_succ_cons, List.drop_zero]
    repeat (first
      | (refine walk_quiet rfl rfl rfl ?_; intro K hK; go_big_quiet_op; go_big_quiet_on)
      | (refine walk_is rfl rfl (fun wx hwx _ => WpYld.callIs (run_callL (vals := [.int .i64 etarget]) Try.func46 (by kernel_rfl) rfl rfl) (HMC.out wx)) ?_; go_frame)
      | (refine walk_lit rfl rfl (fun wx hwx _ => WpYld.val (run_l2 rfl rfl) (Yld.lit_mk _ hwx).1 (Yld.lit_mk _ hwx).2) (fun gb => ?_); go_frame))
    refine walk_nil ?_
    intro wz hbz hF
    obtain ⟨hgB, hgl⟩ := Yld.lit_got (hF 7 _ 27 _ rfl rfl rfl rfl)
    have HL6 := Lib.hid hgl
    have HF6 := Lib.hid (HF5.out.mono hbz)
    have HX6 := Lib.hid (heap_below hbz HX5.out)
    have HB6 := Lib.hid (HB5.out.trans (hbz.mono (Nat.le_trans hbase HB5.out.size)))
    have HK6 := Lib.hid (HK5.out.trans (KeepF.below (g := g) hbz))
    have hgbg : gb ≠ g := fun h => by have := HB5.out.size; omega
    clear hF hbz hgl hAB hblt c0 c1 c2 c3 c4 c5
    go_wp2_with fail
    refine (putF_any [ty, mt] 2 _ g base _ _ HF6.out HL6.out hgbg (by decide) (by simp only [List.length_append, List.length_replicate, List.length_cons, List.length_nil]; omega) (Nat.le_of_ble_eq_true rfl) (by intro n hn; have h1 := HEN.out; have h2 := HFL.out; simp only [List.mem_cons, List.not_mem_nil, or_false] at hn; omega) (Nat.le_trans hbase HB6.out.size) 2 (Nat.le_refl _)).mono ?_
    rintro r w7 ⟨rfl, hf, hb, hk⟩
    have HF7 := Lib.hid hf
    have HX7 := Lib.hid (hk _ _ _ _ (by omega) (by decide) HX6.out)
    have HB7 := Lib.hid (HB6.out.trans hb)
    have HK7 := Lib.hid (HK6.out.trans hk)
    clear hf hb hk
    obtain ⟨c0, c1, c2, c3, c4, c5⟩ := elf_box (e := ⟨ty, etarget, eflags, eentry, esecs, esegs⟩) HX7.out
    go_wp2_with fail
    clear c0 c1 c2 c3 c4 c5
    refine (putF_any [1] 4 _ g base _ _ (HF7.out.mono (below_alloc _ _)) (heap_alloc_last _ _) (fun h => by have := HB7.out.size; omega) (by decide) (by simp only [List.length_append, flat_len' (fun n => length_fixed n _), List.length_replicate, List.length_cons, List.length_nil]; omega) (Nat.le_of_ble_eq_true rfl) (by intro n hn; have h1 := HEN.out; have h2 := HFL.out; simp only [List.mem_cons, List.not_mem_nil, or_false] at hn; omega) (Nat.le_trans hbase (by rw [World.size_alloc]; have := HB7.out.size; omega)) 1 (Nat.le_refl _)).mono ?_
    rintro r w8 ⟨rfl, hf, hb, hk⟩
    have HF8 := Lib.hid hf
    have HX8 := Lib.hid (hk _ _ _ _ (by omega) (by decide) (heap_below (below_alloc _ _) HX7.out))
    have HB8 := Lib.hid ((HB7.out.trans ((below_alloc w7 _).mono (Nat.le_trans hbase HB7.out.size))).trans hb)
    have HK8 := Lib.hid ((HK7.out.trans (KeepF.below (below_alloc w7 _))).trans hk)
    clear hf hb hk
    obtain ⟨c0, c1, c2, c3, c4, c5⟩ := elf_box (e := ⟨ty, etarget, eflags, eentry, esecs, esegs⟩) HX8.out
    go_wp2_with fail
    clear c0 c1 c2 c3 c4 c5
    refine (putF_any [eentry, 64, heads] 8 _ g base _ _ (HF8.out.mono (below_alloc _ _)) (heap_alloc_last _ _) (fun h => by have := HB8.out.size; omega) (by decide) (by simp only [List.length_append, flat_len' (fun n => length_fixed n _), List.length_replicate, List.length_cons, List.length_nil]; omega) (Nat.le_of_ble_eq_true rfl) (by intro n hn; have h1 := HEN.out; have h2 := HFL.out; simp only [List.mem_cons, List.not_mem_nil, or_false] at hn; omega) (Nat.le_trans hbase (by rw [World.size_alloc]; have := HB8.out.size; omega)) 3 (Nat.le_refl _)).mono ?_
    rintro r w9 ⟨rfl, hf, hb, hk⟩
    have HF9 := Lib.hid hf
    have HX9 := Lib.hid (hk _ _ _ _ (by omega) (by decide) (heap_below (below_alloc _ _) HX8.out))
    have HB9 := Lib.hid ((HB8.out.trans ((below_alloc w8 _).mono (Nat.le_trans hbase HB8.out.size))).trans hb)
    have HK9 := Lib.hid ((HK8.out.trans (KeepF.below (below_alloc w8 _))).trans hk)
    clear hf hb hk
    obtain ⟨c0, c1, c2, c3, c4, c5⟩ := elf_box (e := ⟨ty, etarget, eflags, eentry, esecs, esegs⟩) HX9.out
    go_wp2_with fail
    clear c0 c1 c2 c3 c4 c5
    refine (putF_any [eflags] 4 _ g base _ _ (HF9.out.mono (below_alloc _ _)) (heap_alloc_last _ _) (fun h => by have := HB9.out.size; omega) (by decide) (by simp only [List.length_append, flat_len' (fun n => length_fixed n _), List.length_replicate, List.length_cons, List.length_nil]; omega) (Nat.le_of_ble_eq_true rfl) (by intro n hn; have h1 := HEN.out; have h2 := HFL.out; simp only [List.mem_cons, List.not_mem_nil, or_false] at hn; omega) (Nat.le_trans hbase (by rw [World.size_alloc]; have := HB9.out.size; omega)) 1 (Nat.le_refl _)).mono ?_
    rintro r w10 ⟨rfl, hf, hb, hk⟩
    have HF10 := Lib.hid hf
    have HX10 := Lib.hid (hk _ _ _ _ (by omega) (by decide) (heap_below (below_alloc _ _) HX9.out))
    have HB10 := Lib.hid ((HB9.out.trans ((below_alloc w9 _).mono (Nat.le_trans hbase HB9.out.size))).trans hb)
    have HK10 := Lib.hid ((HK9.out.trans (KeepF.below (below_alloc w9 _))).trans hk)
    clear hf hb hk
    obtain ⟨c0, c1, c2, c3, c4, c5⟩ := elf_box (e := ⟨ty, etarget, eflags, eentry, esecs, esegs⟩) HX10.out
    go_wp2_with fail
    clear c0 c1 c2 c3 c4 c5
    refine (putF_any [64, 56, gn, 64, nl + 2, nl + 1] 2 _ g base _ _ (HF10.out.mono (below_alloc _ _)) (heap_alloc_last _ _) (fun h => by have := HB10.out.size; omega) (by decide) (by simp only [List.length_append, flat_len' (fun n => length_fixed n _), List.length_replicate, List.length_cons, List.length_nil]; omega) (Nat.le_of_ble_eq_true rfl) (by intro n hn; have h1 := HEN.out; have h2 := HFL.out; simp only [List.mem_cons, List.not_mem_nil, or_false] at hn; omega) (Nat.le_trans hbase (by rw [World.size_alloc]; have := HB10.out.size; omega)) 6 (Nat.le_refl _)).mono ?_
    rintro r w11 ⟨rfl, hf, hb, hk⟩
    have HF11 := Lib.hid hf
    have HX11 := Lib.hid (hk _ _ _ _ (by omega) (by decide) (heap_below (below_alloc _ _) HX10.out))
    have HB11 := Lib.hid ((HB10.out.trans ((below_alloc w10 _).mono (Nat.le_trans hbase HB10.out.size))).trans hb)
    have HK11 := Lib.hid ((HK10.out.trans (KeepF.below (below_alloc w10 _))).trans hk)
    clear hf hb hk
    go_wp2
    go_end0
    refine ⟨rfl, ?_, HB11.out, HK11.out⟩
    rw [HHB.out]
    rw [hdec]
    exact HF11.out
  · have hdec := decide_eq_false hgs
    go_wp2
    have hAB := fun (x : Above w5) (b k : Nat) (h : b < w5.heap.size) => Above.cell x b k h
    have hblt : w.heap.size < w5.heap.size := block_lt c0
    refine wp_region_walk 8 [(6, .is (.int .u64 (mt : Int))), (7, .lit w5.heap.size 24 #[.int .u64 (ty : Int), .int .u64 (mt : Int)])] (by kernel_rfl) (by kernel_rfl) ?_
    simp only [List.take_succ_cons, List.take_zero, List.drop_succ_cons, List.drop_zero]
    repeat (first
      | (refine walk_quiet rfl rfl rfl ?_; intro K hK; go_big_quiet_op; go_big_quiet_on)
      | (refine walk_is rfl rfl (fun wx hwx _ => WpYld.callIs (run_callL (vals := [.int .i64 etarget]) Try.func46 (by kernel_rfl) rfl rfl) (HMC.out wx)) ?_; go_frame)
      | (refine walk_lit rfl rfl (fun wx hwx _ => WpYld.val (run_l2 rfl rfl) (Yld.lit_mk _ hwx).1 (Yld.lit_mk _ hwx).2) (fun gb => ?_); go_frame))
    refine walk_nil ?_
    intro wz hbz hF
    obtain ⟨hgB, hgl⟩ := Yld.lit_got (hF 7 _ 27 _ rfl rfl rfl rfl)
    have HL6 := Lib.hid hgl
    have HF6 := Lib.hid (HF5.out.mono hbz)
    have HX6 := Lib.hid (heap_below hbz HX5.out)
    have HB6 := Lib.hid (HB5.out.trans (hbz.mono (Nat.le_trans hbase HB5.out.size)))
    have HK6 := Lib.hid (HK5.out.trans (KeepF.below (g := g) hbz))
    have hgbg : gb ≠ g := fun h => by have := HB5.out.size; omega
    clear hF hbz hgl hAB hblt c0 c1 c2 c3 c4 c5
    go_wp2_with fail
    refine (putF_any [ty, mt] 2 _ g base _ _ HF6.out HL6.out hgbg (by decide) (by simp only [List.length_append, List.length_replicate, List.length_cons, List.length_nil]; omega) (Nat.le_of_ble_eq_true rfl) (by intro n hn; have h1 := HEN.out; have h2 := HFL.out; simp only [List.mem_cons, List.not_mem_nil, or_false] at hn; omega) (Nat.le_trans hbase HB6.out.size) 2 (Nat.le_refl _)).mono ?_
    rintro r w7 ⟨rfl, hf, hb, hk⟩
    have HF7 := Lib.hid hf
    have HX7 := Lib.hid (hk _ _ _ _ (by omega) (by decide) HX6.out)
    have HB7 := Lib.hid (HB6.out.trans hb)
    have HK7 := Lib.hid (HK6.out.trans hk)
    clear hf hb hk
    obtain ⟨c0, c1, c2, c3, c4, c5⟩ := elf_box (e := ⟨ty, etarget, eflags, eentry, esecs, esegs⟩) HX7.out
    go_wp2_with fail
    clear c0 c1 c2 c3 c4 c5
    refine (putF_any [1] 4 _ g base _ _ (HF7.out.mono (below_alloc _ _)) (heap_alloc_last _ _) (fun h => by have := HB7.out.size; omega) (by decide) (by simp only [List.length_append, flat_len' (fun n => length_fixed n _), List.length_replicate, List.length_cons, List.length_nil]; omega) (Nat.le_of_ble_eq_true rfl) (by intro n hn; have h1 := HEN.out; have h2 := HFL.out; simp only [List.mem_cons, List.not_mem_nil, or_false] at hn; omega) (Nat.le_trans hbase (by rw [World.size_alloc]; have := HB7.out.size; omega)) 1 (Nat.le_refl _)).mono ?_
    rintro r w8 ⟨rfl, hf, hb, hk⟩
    have HF8 := Lib.hid hf
    have HX8 := Lib.hid (hk _ _ _ _ (by omega) (by decide) (heap_below (below_alloc _ _) HX7.out))
    have HB8 := Lib.hid ((HB7.out.trans ((below_alloc w7 _).mono (Nat.le_trans hbase HB7.out.size))).trans hb)
    have HK8 := Lib.hid ((HK7.out.trans (KeepF.below (below_alloc w7 _))).trans hk)
    clear hf hb hk
    obtain ⟨c0, c1, c2, c3, c4, c5⟩ := elf_box (e := ⟨ty, etarget, eflags, eentry, esecs, esegs⟩) HX8.out
    go_wp2_with fail
    clear c0 c1 c2 c3 c4 c5
    refine (putF_any [eentry, 0, heads] 8 _ g base _ _ (HF8.out.mono (below_alloc _ _)) (heap_alloc_last _ _) (fun h => by have := HB8.out.size; omega) (by decide) (by simp only [List.length_append, flat_len' (fun n => length_fixed n _), List.length_replicate, List.length_cons, List.length_nil]; omega) (Nat.le_of_ble_eq_true rfl) (by intro n hn; have h1 := HEN.out; have h2 := HFL.out; simp only [List.mem_cons, List.not_mem_nil, or_false] at hn; omega) (Nat.le_trans hbase (by rw [World.size_alloc]; have := HB8.out.size; omega)) 3 (Nat.le_refl _)).mono ?_
    rintro r w9 ⟨rfl, hf, hb, hk⟩
    have HF9 := Lib.hid hf
    have HX9 := Lib.hid (hk _ _ _ _ (by omega) (by decide) (heap_below (below_alloc _ _) HX8.out))
    have HB9 := Lib.hid ((HB8.out.trans ((below_alloc w8 _).mono (Nat.le_trans hbase HB8.out.size))).trans hb)
    have HK9 := Lib.hid ((HK8.out.trans (KeepF.below (below_alloc w8 _))).trans hk)
    clear hf hb hk
    obtain ⟨c0, c1, c2, c3, c4, c5⟩ := elf_box (e := ⟨ty, etarget, eflags, eentry, esecs, esegs⟩) HX9.out
    go_wp2_with fail
    clear c0 c1 c2 c3 c4 c5
    refine (putF_any [eflags] 4 _ g base _ _ (HF9.out.mono (below_alloc _ _)) (heap_alloc_last _ _) (fun h => by have := HB9.out.size; omega) (by decide) (by simp only [List.length_append, flat_len' (fun n => length_fixed n _), List.length_replicate, List.length_cons, List.length_nil]; omega) (Nat.le_of_ble_eq_true rfl) (by intro n hn; have h1 := HEN.out; have h2 := HFL.out; simp only [List.mem_cons, List.not_mem_nil, or_false] at hn; omega) (Nat.le_trans hbase (by rw [World.size_alloc]; have := HB9.out.size; omega)) 1 (Nat.le_refl _)).mono ?_
    rintro r w10 ⟨rfl, hf, hb, hk⟩
    have HF10 := Lib.hid hf
    have HX10 := Lib.hid (hk _ _ _ _ (by omega) (by decide) (heap_below (below_alloc _ _) HX9.out))
    have HB10 := Lib.hid ((HB9.out.trans ((below_alloc w9 _).mono (Nat.le_trans hbase HB9.out.size))).trans hb)
    have HK10 := Lib.hid ((HK9.out.trans (KeepF.below (below_alloc w9 _))).trans hk)
    clear hf hb hk
    obtain ⟨c0, c1, c2, c3, c4, c5⟩ := elf_box (e := ⟨ty, etarget, eflags, eentry, esecs, esegs⟩) HX10.out
    go_wp2_with fail
    clear c0 c1 c2 c3 c4 c5
    refine (putF_any [64, 56, gn, 64, nl + 2, nl + 1] 2 _ g base _ _ (HF10.out.mono (below_alloc _ _)) (heap_alloc_last _ _) (fun h => by have := HB10.out.size; omega) (by decide) (by simp only [List.length_append, flat_len' (fun n => length_fixed n _), List.length_replicate, List.length_cons, List.length_nil]; omega) (Nat.le_of_ble_eq_true rfl) (by intro n hn; have h1 := HEN.out; have h2 := HFL.out; simp only [List.mem_cons, List.not_mem_nil, or_false] at hn; omega) (Nat.le_trans hbase (by rw [World.size_alloc]; have := HB10.out.size; omega)) 6 (Nat.le_refl _)).mono ?_
    rintro r w11 ⟨rfl, hf, hb, hk⟩
    have HF11 := Lib.hid hf
    have HX11 := Lib.hid (hk _ _ _ _ (by omega) (by decide) (heap_below (below_alloc _ _) HX10.out))
    have HB11 := Lib.hid ((HB10.out.trans ((below_alloc w10 _).mono (Nat.le_trans hbase HB10.out.size))).trans hb)
    have HK11 := Lib.hid ((HK10.out.trans (KeepF.below (below_alloc w10 _))).trans hk)
    clear hf hb hk
    go_wp2
    go_end0
    refine ⟨rfl, ?_, HB11.out, HK11.out⟩
    rw [HHB.out]
    rw [hdec]
    exact HF11.out
end Go.Proofs.Ytmpelmjhimalpaa
namespace Go.Proofs.Ytmpelmjhimalpaa
open Go.RowKit Go.Fd
/-- What goes up. -/
abbrev upF : List PanicEntry := [{ v := .iface 104 (.agg #[]), recovered := false }]
set_option maxRecDepth 100000 in
theorem must_ok (w : World) : Calls Try.prog 54 #[.bool true] w fun r w' => r = .returned (.tuple #[]) ∧ w = w' := by
  go_enter Try.func54, Try.ntmps54
  go_wp2
  go_end0
  exact ⟨rfl, rfl⟩
set_option maxRecDepth 100000 in
theorem must_no (w : World) : Calls Try.prog 54 #[.bool false] w fun r w' => r = .panicked upF ∧ w = w' := by
  go_enter Try.func54, Try.ntmps54
  go_wp2
  exact ⟨rfl, rfl, rfl⟩
set_option maxRecDepth 100000 in
/-- A number at a place, or nothing. -/
theorem ru_any (l : List UInt8) (at_ size : Int) (v : Value) (w : World) (hl : l.length ≤ 1000000000) (hv : Bs w v l) :
    Calls Try.prog 52 #[v, .int .i64 at_, .int .i64 size] w fun r w' => w = w' ∧ ((getR l at_ size false).2 = 0 ∧ r = .returned (.int .u64 (getR l at_ size false).1) ∨ (getR l at_ size false).2 ≠ 0 ∧ r = .panicked upF) := by
  have HU := Lib.hid (octU_any l at_ size v w hl hv)
  generalize getR l at_ size false = q at *
  obtain ⟨n, z⟩ := q
  by_cases hz : z = 0
  · subst hz
    go_enter Try.func52, Try.ntmps52
    go_wp2_with (first
      | (go_at_call 70; refine HU.out.mono ?_; rintro e w1 ⟨rfl, rfl⟩)
      | (go_at_call 54; refine (must_ok _).mono ?_; rintro e w2 ⟨rfl, rfl⟩))
    go_ret
    exact ⟨rfl, .inl ⟨trivial, rfl⟩⟩
  · have hz1 : (z == (0 : Int)) = false := by simpa using hz
    have HX := Lib.hid hz
    clear hz
    go_enter Try.func52, Try.ntmps52
    go_wp2_with (first
      | (go_at_call 70; refine HU.out.mono ?_; rintro e w1 ⟨rfl, rfl⟩)
      | (go_at_call 54; refine (must_no _).mono ?_; rintro e w2 ⟨rfl, rfl⟩))
    exact ⟨rfl, rfl, .inr ⟨HX.out, rfl⟩⟩
/-- Is a stretch in the bytes? -/
def inB (l : List UInt8) (at_ size : Nat) : Bool := decide (at_ ≤ l.length) && decide (size ≤ l.length - at_)
theorem TR : SliceT Try.prog 105 5 1 1 := SliceT.mk' (z := .int .u8 0) (by kernel_rfl) (by kernel_rfl) rfl (by omega)
theorem slice_cutR {w : World} {v : Value} {l : List UInt8} (hv : Bs w v l) (a s : Nat) {z y : Int} (hz : z = (a : Int)) (hy : y = (a : Int) + s) (hin : a + s ≤ l.length) :
    ∃ v', (∀ w', (Instr.sliceAt 105 v (some (.int .u64 z)) (some (.int .u64 y)) none).run Try.prog w' = .ok v' w') ∧ ∀ w2, Bs w2 v l → Bs w2 v' ((l.drop a).take s) := by
  subst hz hy
  have key : ∀ w2, Bs w2 v l → ∃ v', (∀ w', (Instr.sliceAt 105 v (some (.int .u64 (a : Int))) (some (.int .u64 ((a : Int) + s))) none).run Try.prog w' = .ok v' w') ∧ Bs w2 v' ((l.drop a).take s) := by
    intro w2 hv2
    obtain ⟨v', h, hr⟩ := run_sliceAt TR hv2 (i := (a : Int)) (j := (a : Int) + s) (k := .u64) (k' := .u64) (by omega) (by omega) (by omega)
    refine ⟨v', h, ?_⟩
    rw [show ((a : Int) + s - a).toNat = s by omega] at hr
    unfold Bs
    rw [List.length_take, List.length_drop, List.map_take, List.map_drop, show min s (l.length - a) = s by omega]
    simpa using hr
  obtain ⟨v', h, -⟩ := key w hv
  refine ⟨v', h, fun w2 hv2 => ?_⟩
  obtain ⟨v2, h2, hb⟩ := key w2 hv2
  have e := h w
  rw [h2 w] at e
  injection e with e _
  exact e ▸ hb
set_option maxRecDepth 100000 in
theorem cut_any (l : List UInt8) (a s : Nat) (v : Value) (w : World) (hl : l.length ≤ 1000000000) (hv : Bs w v l) (ha : a < 18446744073709551616) (hs : s < 18446744073709551616) :
    Calls Try.prog 72 #[v, .int .u64 a, .int .u64 s] w fun r w' => w = w' ∧ (inB l a s = true ∧ (∃ v', r = .returned v' ∧ ∀ w2, Bs w2 v l → Bs w2 v' ((l.drop a).take s)) ∨ inB l a s = false ∧ r = .panicked upF) := by
  have HV := Lib.hid hv
  obtain ⟨m, ad, cap, hm, rfl, hmc, _⟩ := hv.shape
  have hm9 : m ≤ 1000000000 := by have := hm.out; omega
  clear hv
  by_cases h1 : a ≤ m
  · by_cases h2 : s ≤ m - a
    · have HR : Hid (inB l a s = true) := by unfold inB; rw [← hm.out, decide_eq_true h1, decide_eq_true h2]; exact rfl
      obtain ⟨v', hr, hb⟩ := slice_cutR HV.out a s (z := (a : Int)) (y := (a : Int) + s) rfl rfl (by have := hm.out; omega)
      have HB := Lib.hid hb
      have h3 : ((s : Int) ≤ (m : Int) - (a : Int)) := by omega
      have HX := Lib.hid ha
      clear ha hs hb
      go_enter Try.func72, Try.ntmps72
      go_wp2_with (go_at_call 54; refine (must_ok _).mono ?_; rintro e w2 ⟨rfl, rfl⟩)
      go_ret
      exact ⟨rfl, .inl ⟨HR.out, _, rfl, HB.out⟩⟩
    · have HR : Hid (inB l a s = false) := by unfold inB; rw [← hm.out, decide_eq_true h1, decide_eq_false h2]; exact rfl
      have h3 : ¬ ((s : Int) ≤ (m : Int) - (a : Int)) := by omega
      go_enter Try.func72, Try.ntmps72
      go_wp2_with (go_at_call 54; refine (must_no _).mono ?_; rintro e w2 ⟨rfl, rfl⟩)
      exact ⟨rfl, rfl, .inr ⟨HR.out, rfl⟩⟩
  · have HR : Hid (inB l a s = false) := by unfold inB; rw [← hm.out, decide_eq_false h1]; exact rfl
    have HX := Lib.hid ha
    clear ha hs
    go_enter Try.func72, Try.ntmps72
    go_wp2_with (go_at_call 54; refine (must_no _).mono ?_; rintro e w2 ⟨rfl, rfl⟩)
    exact ⟨rfl, rfl, .inr ⟨HR.out, rfl⟩⟩
end Go.Proofs.Ytmpelmjhimalpaa
namespace Go.Proofs.Ytmpelmjhimalpaa
open Go.RowKit Go.Fd
/-- A number at a place, and whether it is there. -/
def gN (l : List UInt8) (a s : Nat) : Nat := (getR l a s false).1
def okB (l : List UInt8) (a s : Nat) : Bool := decide ((getR l a s false).2 = 0)
theorem gN_lt (l : List UInt8) (a s : Nat) : gN l a s < 256 ^ s := by
  unfold gN getR
  split
  · split
    · exact Nat.pow_pos (by omega)
    · split
      · exact Nat.pow_pos (by omega)
      · have h := numLE_lt ((l.drop (a : Int).toNat).take (s : Int).toNat)
        refine Nat.lt_of_lt_of_le h (Nat.pow_le_pow_right (by omega) ?_)
        rw [List.length_take]
        omega
  · exact Nat.pow_pos (by omega)
theorem gN2 (l : List UInt8) (a : Nat) : gN l a 2 < 65536 := gN_lt l a 2
theorem gN4 (l : List UInt8) (a : Nat) : gN l a 4 < 4294967296 := gN_lt l a 4
theorem gN8 (l : List UInt8) (a : Nat) : gN l a 8 < 18446744073709551616 := gN_lt l a 8
theorem okB_iff {l : List UInt8} {a s : Nat} (hs : Sized s) : okB l a s = decide (a + s ≤ l.length) := by
  unfold okB getR
  rw [if_pos hs]
  by_cases h : a + s ≤ l.length
  · rw [if_neg (by omega), if_neg (by omega), decide_eq_true h]; rfl
  · rw [decide_eq_false h]
    split
    · rfl
    · rw [if_pos (by omega)]; rfl
theorem gN_in {l : List UInt8} {a s : Nat} (hs : Sized s) (h : a + s ≤ l.length) : gN l a s = numLE ((l.drop a).take s) := by
  unfold gN getR
  rw [if_pos hs, if_neg (by omega), if_neg (by omega)]
  simp
theorem sz2 : Sized 2 := by unfold Sized; omega
theorem sz4 : Sized 4 := by unfold Sized; omega
theorem sz8 : Sized 8 := by unfold Sized; omega
end Go.Proofs.Ytmpelmjhimalpaa
