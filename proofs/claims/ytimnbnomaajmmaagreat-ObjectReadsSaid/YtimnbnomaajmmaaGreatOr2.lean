/-
  Part 2 of 8: laws and walks for objectReads_holds; no condition of its own.
-/
import Derived.Test.YtimnbnomaajmmaaGreatOr1
import Derived.BigQuiet
import Derived.StillTail
import Derived.Maps.RangeWalk
import Derived.Deep.WholeRow
namespace Go.Proofs.YtimnbnomaajmmaaGreat
open Go.RowKit Go.Fd
theorem TRela : SliceT Tryz.prog 36 57 4 32 := SliceT.mk' (z := .agg #[.int .u64 0, .int .i64 0, .int .i64 0, .int .i64 0]) (by kernel_rfl) (by kernel_rfl) rfl (by omega)
theorem uAt_any (l : List UInt8) (a s : Nat) {z y : Int} (v : Value) (w : World) (hz : z = (a : Int)) (hy : y = (s : Int)) (hs : Sized s) (hin : a + s ≤ l.length) (hl : l.length ≤ 1000000000) (hv : Bs w v l) :
    Calls Tryz.prog 63 #[v, .int .i64 z, .int .i64 y] w fun e w' => e = .returned (.int .u64 (numLE ((l.drop a).take s))) ∧ w = w' := by
  subst hz hy
  have h := u_any l a s v w hl hv
  rw [getR_in l a s hs hin] at h
  exact h
theorem numLE_cut (l : List UInt8) (a s : Nat) : numLE ((l.drop a).take s) < 256 ^ s := numLE_lt' _ s (by rw [List.length_take]; omega)
theorem i64_small {n : Nat} (h : n < 4294967296) : IntKind.i64.wrap (n : Int) = (n : Int) := by
  simp [IntKind.wrap, IntKind.bits, IntKind.signed]
  omega
/-- The relocation at place k. -/
def recR (b : List UInt8) (k : Nat) : RelaM := ⟨numLE ((b.drop (24 * k)).take 8), numLE ((b.drop (24 * k + 8)).take 4), numLE ((b.drop (24 * k + 12)).take 4), wrap64 (numLE ((b.drop (24 * k + 16)).take 8) : Int)⟩
def stepRela (b : List UInt8) (k : Nat) (L : List RelaM) : Except Int (List RelaM) := if 2147483647 < (recR b k).sym then .error 3 else .ok (L ++ [recR b k])
def relaRd (b : List UInt8) : List RelaM × Int := if b.length % 24 = 0 then (match foldU (stepRela b) (b.length / 24) with | .ok L => (L, 0) | .error e => ([], e)) else ([], 4)
theorem foldRela_len (b : List UInt8) : ∀ k L, foldU (stepRela b) k = .ok L → L.length = k := by
  intro k
  induction k with
  | zero => intro L h; cases h; rfl
  | succ k ih =>
    intro L h
    rw [foldU] at h
    cases hk : foldU (stepRela b) k with
    | error e => rw [hk] at h; cases h
    | ok L0 =>
      rw [hk] at h
      have h' : stepRela b k L0 = .ok L := h
      unfold stepRela at h'
      split at h'
      · cases h'
      · cases h'
        rw [List.length_append, ih L0 hk]; rfl
theorem relaRd_err {b : List UInt8} {k : Nat} {L : List RelaM} (h0 : b.length % 24 = 0) (hk : k < b.length / 24) (h : foldU (stepRela b) k = .ok L) (hs : 2147483647 < (recR b k).sym) : relaRd b = ([], 3) := by
  unfold relaRd
  rw [if_pos h0, foldU_err h (by unfold stepRela; rw [if_pos hs]) _ hk]
theorem relaRd_step {b : List UInt8} {k : Nat} {L : List RelaM} (h : foldU (stepRela b) k = .ok L) (hs : ¬ 2147483647 < (recR b k).sym) : foldU (stepRela b) (k + 1) = .ok (L ++ [recR b k]) := foldU_ok h (by unfold stepRela; rw [if_neg hs])
theorem relaRd_ok {b : List UInt8} {k : Nat} {L : List RelaM} (h0 : b.length % 24 = 0) (hk : k = b.length / 24) (h : foldU (stepRela b) k = .ok L) : relaRd b = (L, 0) := by
  unfold relaRd
  rw [if_pos h0, ← hk, h]
theorem relaRd_form {b : List UInt8} (h0 : ¬ b.length % 24 = 0) : relaRd b = ([], 4) := by
  unfold relaRd
  rw [if_neg h0]
set_option maxHeartbeats 1000000 in
set_option maxRecDepth 100000 in
theorem readRela_big (b : List UInt8) (v : Value) (w : World) (hl : b.length ≤ 24000) (hv : Bs w v b) :
    Calls Tryz.prog 35 #[v] w fun e w' => ∃ v', e = .returned (.tuple #[v', .int .i64 (relaRd b).2]) ∧ OwR 4 encRela 57 w' w.heap.size v' (relaRd b).1 ∧ Below w.heap.size w w' := by
  have HV := Lib.hid hv
  obtain ⟨a, cap, rfl, hcap, _, _⟩ := hv.open
  obtain ⟨n, hn⟩ : ∃ n, n = b.length := ⟨_, rfl⟩
  rw [← hn] at hl hcap HV ⊢
  have HN := Lib.hid hn
  clear hv hn
  by_cases h0 : n % 24 = 0
  · obtain ⟨m, rfl⟩ : ∃ m, n = 24 * m := ⟨n / 24, by omega⟩
    have HD : Hid (b.length % 24 = 0 ∧ m = b.length / 24) := by have := HN.out; exact ⟨by omega, by omega⟩
    have hm : m ≤ 1000 := by omega
    clear h0
    go_enter Tryz.func35, Tryz.ntmps35
    go_wp2
    go_loopw [4, 5] (fun v i wr => ∃ (k : Nat) (L : List RelaM), i = .int .i64 (24 * (k : Int)) ∧ k ≤ m ∧ Hid (foldU (stepRela b) k = .ok L) ∧ Hid (OwR 4 encRela 57 wr w.heap.size v L) ∧ Hid (Below w.heap.size w wr)) (fun _ i _ => 24 * m - (intOf i).toNat)
    case atStart => exact ⟨0, [], rfl, Nat.zero_le _, rfl, OwR.nil _ _ _ _ _, Below.refl _ _⟩
    case round =>
      obtain ⟨k, L, rfl, hk, HF, HO, HB⟩ := hrel
      by_cases hlt : k < m
      · have HBS := Lib.hid (show Bs wr (.slice a (24 * m) cap) b by have := HV.out.mono HB.out; exact this)
        have HU0 := Lib.hid (uAt_any b (24 * k) 8 (z := 24 * (k : Int)) (y := 8) _ wr (by omega) rfl (by decide) (by have := HN.out; omega) (by have := HN.out; omega) HBS.out)
        have HU1 := Lib.hid (uAt_any b (24 * k + 8) 4 (z := 24 * (k : Int) + 8) (y := 4) _ wr (by omega) rfl (by decide) (by have := HN.out; omega) (by have := HN.out; omega) HBS.out)
        have HU2 := Lib.hid (uAt_any b (24 * k + 12) 4 (z := 24 * (k : Int) + 12) (y := 4) _ wr (by omega) rfl (by decide) (by have := HN.out; omega) (by have := HN.out; omega) HBS.out)
        have HU3 := Lib.hid (uAt_any b (24 * k + 16) 8 (z := 24 * (k : Int) + 16) (y := 8) _ wr (by omega) rfl (by decide) (by have := HN.out; omega) (by have := HN.out; omega) HBS.out)
        have HR : Hid (recR b k = ⟨numLE ((b.drop (24 * k)).take 8), numLE ((b.drop (24 * k + 8)).take 4), numLE ((b.drop (24 * k + 12)).take 4), wrap64 (numLE ((b.drop (24 * k + 16)).take 8) : Int)⟩) := rfl
        have hw1 := i64_small (numLE_cut b (24 * k + 8) 4)
        have hw2 := i64_small (numLE_cut b (24 * k + 12) 4)
        have HLL := Lib.hid (foldRela_len b k L HF.out)
        have HBs := Lib.hid HB.out.size
        generalize numLE ((b.drop (24 * k)).take 8) = n0 at *
        generalize numLE ((b.drop (24 * k + 8)).take 4) = n1 at *
        generalize numLE ((b.drop (24 * k + 12)).take 4) = n2 at *
        generalize numLE ((b.drop (24 * k + 16)).take 8) = n3 at *
        go_wp2_with fail
        refine HU0.out.mono ?_
        rintro e w1 ⟨rfl, rfl⟩
        go_wp2_with fail
        refine HU1.out.mono ?_
        rintro e w1 ⟨rfl, rfl⟩
        go_wp2_with fail
        refine HU2.out.mono ?_
        rintro e w1 ⟨rfl, rfl⟩
        go_wp2_with fail
        refine HU3.out.mono ?_
        rintro e w1 ⟨rfl, rfl⟩
        by_cases hbad : 2147483647 < (n2 : Int)
        · have HE := Lib.hid (relaRd_err HD.out.1 (by rw [← HD.out.2]; exact hlt) HF.out (by rw [HR.out]; exact hbad))
          go_wp2_with (((with_reducible show wpList _ _ _ (⟨none, .store _ _ _, _, _, _, _⟩ :: _) _ _); go_must (refine wpList_storeNew rfl rfl (by kernel_rfl) rfl (by simp [Value.oneCell']) ?_; intro w1 hh1 hb1; have e2 := cell_rec hh1 2; simp only [List.getElem?_toArray, List.getElem?_cons_succ, List.getElem?_cons_zero] at e2)))
          go_ret2
          exact ⟨_, by rw [HE.out]; rfl, by rw [HE.out]; exact OwR.nil _ _ _ _ _, HB.out.trans (hb1.mono HB.out.size)⟩
        · have HE := Lib.hid (relaRd_step HF.out (by rw [HR.out]; exact hbad))
          rw [HR.out] at HE
          go_wp2_with (first
            | ((with_reducible show wpList _ _ _ (⟨none, .store _ _ _, _, _, _, _⟩ :: _) _ _); go_must (refine wpList_storeNew rfl rfl (by kernel_rfl) rfl (by simp [Value.oneCell']) ?_; intro w1 hh1 hb1; have e0 := cell_rec hh1 0; have e1 := cell_rec hh1 1; have e2 := cell_rec hh1 2; have e3 := cell_rec hh1 3; simp only [List.getElem?_toArray, List.getElem?_cons_succ, List.getElem?_cons_zero] at e0 e1 e2 e3; have HO1 := Lib.hid (HO.out.mono hb1); have HB1 := Lib.hid (HB.out.trans (hb1.mono HB.out.size))))
            | ((with_reducible show wpList _ _ _ (⟨some 48, _, _, _, _, _⟩ :: _) _ _); go_must (refine wpList_pushR TRela HO1.out rfl rfl ⟨n0, n1, n2, wrap64 n3⟩ rfl rfl (by simp [Value.oneCell']) (by have := HLL.out; omega) (by have := HLL.out; omega) HB1.out.size ?_; intro v2 w2 hv2 _ hb2; have HO2 := Lib.hid hv2; have HB2 := Lib.hid (HB1.out.trans hb2); clear hv2 hb2 hh1 hb1 e0 e1 e2 e3)))
          go_roundw
          case rel =>
            first
              | exact ⟨k + 1, _, by go_num, by omega, HE.out, HO2.out, HB2.out⟩
              | ((repeat apply Exists.intro); exact ⟨⟨k + 1, _, by go_num, by omega, HE.out, HO2.out, HB2.out⟩, rfl⟩)
          case measure => simp [intOf] <;> omega
      · have hkm : k = m := by omega
        have HRD := Lib.hid (relaRd_ok HD.out.1 (hkm.trans HD.out.2) HF.out)
        clear HF hkm
        go_wp2
        go_ret2
        exact ⟨_, by rw [HRD.out]; rfl, by rw [HRD.out]; exact HO.out, HB.out⟩
  · have HR := Lib.hid (relaRd_form (b := b) (by rw [← HN.out]; exact h0))
    have hz : ((n : Int) % 24 == 0) = false := by simp; omega
    have hz2 : ((n : Int) % 24 != 0) = true := by simp; omega
    go_enter Tryz.func35, Tryz.ntmps35
    go_wp2
    go_ret2
    exact ⟨_, by rw [HR.out]; rfl, by rw [HR.out]; exact OwR.nil _ _ _ _ _, Below.refl _ _⟩
end Go.Proofs.YtimnbnomaajmmaaGreat
namespace Go.Fd
open Go.RowKit
section
variable {P : Program} {l : List Oper} {s : Oper} {V : Nat → Value → World → Prop} {a0 : Act} {w0 : World}
theorem ready_none {listed : Array Bool} {L : List Oper} (h : ∀ i, i < L.length → listed.getD i true = true) : Region.ready .any L.toArray listed = [] := by
  rw [List.eq_nil_iff_forall_not_mem]
  intro i hi
  rw [mem_ready] at hi
  obtain ⟨h1, o, ho, _⟩ := hi
  have := h i (by have := (Array.getElem?_eq_some_iff.1 ho).1; simpa using this)
  rw [h1] at this; cases this
end
section
variable {P : Program} {a : Act} {w : World}
/-- The store of a record into the block that was made. -/
theorem wp_store_made {d : Option Tmp} {ty t : TypeId} {pos : String} {aft : Array Edge} {p x : Operand} {c c' : Array Value} {g : Nat} {K : Act → World → Prop} {Q : Exit → Act → World → Prop} {B : Nat} (hg : w.heap[g]? = some (.cells c t (0, 0))) (hp : a.eval p = .pointer (some ⟨g, 0, none⟩)) (hx : a.eval x = .agg c')
    (hi : (P.info? t).map (·.size) = some c'.size) (ho : c.size = c'.size) (h1 : c'.all (·.oneCell') = true) (hB : B ≤ g) (_hBw : B ≤ w.heap.size)
    (h : ∀ w1, w1.heap[g]? = some (.cells c' t (0, 0)) → Below B w w1 → K (a.put d undef) w1) :
    Oper.wp P ⟨d, .store t p x, ty, pos, aft, none⟩ a w K Q := by
  have hr : (execOp a.eval ⟨d, .store t p x, ty, pos, aft, none⟩).run P w = .ok .skip (w.setRow g c') := by
    simp only [execOp, hp, hx, Instr.storeAt, Instr.sureAddr, Sem.run_bind, Sem.run_pure, Result.andThen, run_storeVar_row w g t t c c' hg hi ho h1]
  unfold Oper.wp Oper.upon
  rw [hr]
  refine h _ ?_ ?_
  · simp only [World.setRow]
    rw [Array.getElem?_modify, if_pos rfl, hg]
    rfl
  · refine ⟨rfl, rfl, rfl, by simp [World.setRow], fun k hk => ?_⟩
    have : g ≠ k := by omega
    simp only [World.setRow]
    rw [Array.getElem?_modify, if_neg this]
end
end Go.Fd
namespace Go.Proofs.YtimnbnomaajmmaaGreat
open Go.RowKit Go.Fd
theorem run_allocRela {a : Act} {w : World} {d : Option Tmp} {ty : TypeId} {pos : String} {aft : Array Edge} {g : Option (Nat × Bool)} :
    (execOp a.eval ⟨d, .alloc 57, ty, pos, aft, g⟩).run Tryz.prog w = .ok (.value (.pointer (some ⟨w.heap.size, 0, none⟩))) (w.alloc (.cells #[.int .u64 0, .int .i64 0, .int .i64 0, .int .i64 0] 57)) := by
  kernel_rfl
end Go.Proofs.YtimnbnomaajmmaaGreat
namespace Go.Fd
open Go.RowKit
/-- What an operation that makes memory, or a call, comes to: a value of a shape, and what is known of it. -/
structure Yld where
  X : Type
  inh : X
  shape : X → Value
  rel : X → World → Prop
  st : ∀ x w w', rel x w → Below w.heap.size w w' → rel x w'
def Yld.R (S : Yld) (v : Value) (w : World) : Prop := ∃ x, v = S.shape x ∧ S.rel x w
/-- One value. -/
def Yld.is (c : Value) : Yld := ⟨Unit, (), fun _ => c, fun _ _ => True, fun _ _ _ _ _ => trivial⟩
/-- Some value, with something known of it. -/
def Yld.any (rel : Value → World → Prop) (st : ∀ x w w', rel x w → Below w.heap.size w w' → rel x w') : Yld := ⟨Value, undef, id, rel, st⟩
def madeAt (M : List (Nat × Yld)) (i : Nat) : Option Yld := (M.find? (fun p => p.1 == i)).map (·.2)
/-- Worlds above one. -/
structure Above (w0 : World) where
  w : World
  h : Below w0.heap.size w0 w
instance (w0 : World) : Nonempty (Above w0) := ⟨⟨w0, Below.refl _ _⟩⟩
/-- What is known of the operations that one waits for. -/
def Deps (L : List Oper) (M : List (Nat × Yld)) (a : Act) (o : Oper) (w : World) : Prop :=
  ∀ j oj d S, L[j]? = some oj → oj.dst = some d → depB o j = true → madeAt M j = some S → Region.wanted oj (yielded L.toArray a.tmps) = true → S.R (a.eval (.tmp d)) w
/-- What is known of a way that leaves the region: U is what may go up. -/
def Ups (Up : Exit → Prop) (d : List Deferred) (w : World) (x : Exit) (a : Act) (w' : World) : Prop := Up x ∧ a.defers = d ∧ Below w.heap.size w w'
/-- Nothing goes up. -/
def NoUp : Exit → Prop := fun _ => False
def WpYld (P : Program) (Up : Exit → Prop) (o : Oper) (a : Act) (S : Yld) (w : World) : Prop :=
  o.wp P a w (fun a' w' => ∃ v, a' = a.put o.dst v ∧ S.R v w' ∧ Below w.heap.size w w') (Ups Up a.defers w)
theorem oper_wp_to {P : Program} {o : Oper} {a : Act} {w : World} {K : Act → World → Prop} {Q Q' : Exit → Act → World → Prop} (hq : ∀ x a w, Q x a w → Q' x a w) (h : o.wp P a w K Q) : o.wp P a w K Q' := by
  unfold Oper.wp at *
  generalize (execOp a.eval o).run P w = r at *
  cases r with
  | ok n w' =>
    cases n <;> simp only [Oper.upon] at h ⊢ <;>
      first
        | exact h
        | exact Calls.mono h (fun e w'' he => by
            cases e with
            | returned v => exact he
            | panicked c => exact hq _ _ _ he
            | outgrown => obtain ⟨a0, w0, h0⟩ := (he : LetsOut _); exact ⟨a0, w0, hq _ _ _ h0⟩)
  | halt x w' => cases x <;> simp only [Oper.upon] at h ⊢ <;> first | exact h | exact hq _ _ _ h
def walk (P : Program) (Up : Exit → Prop) (L : List Oper) (M : List (Nat × Yld)) (w0 : World) (E : Act → Prop) : Nat → List Oper → Act → Prop
  | _, [], a => E a
  | i, o :: r, a =>
    if Region.wanted o (yielded L.toArray a.tmps) = true then
      match madeAt M i with
      | some S => (∀ w, Below w0.heap.size w0 w → Deps L M a o w → WpYld P Up o a S w) ∧ ∀ x, walk P Up L M w0 E (i + 1) r (a.put o.dst (S.shape x))
      | none => ∃ v, (∀ w, Below w0.heap.size w0 w → Deps L M a o w → (execOp a.eval o).run P w = .ok (.value v) w) ∧ walk P Up L M w0 E (i + 1) r (a.put o.dst v)
    else walk P Up L M w0 E (i + 1) r (a.put o.dst undef)
/-- The slots that an operation looks at are those of operations that it waits for, or old ones. -/
def readsB (L H : List Oper) : Bool := H.zipIdx.all fun (o, i) =>
  (match o.op with | .select _ _ => false | _ => true) &&
  (o.looksAt L.toArray).all (fun t => oldB H i t || H.zipIdx.any fun (o', j) => o'.dst == some t && depB o j) &&
  (match o.guard with | some (g, _) => depB o g | none => true)
/-- Operation n waits for all ahead of it, and those behind it each for the one ahead. -/
def tailB (L : List Oper) (n : Nat) : Bool :=
  ((List.range n).all fun k => (match L[n]? with | some s => depB s k | none => true) || (L.take n).zipIdx.any fun (o, k') => decide (k < k') && depB o k) &&
  (L.zipIdx.all fun (o, t) => decide (t ≤ n) || depB o (t - 1)) &&
  Region.seqB .any L.toArray (L.length - n) n (List.replicate n true ++ List.replicate (L.length - n) false).toArray
def walkB (L : List Oper) (n sz : Nat) : Bool := decide (n ≤ L.length) && persB (L.take n) sz && readsB L (L.take n) && (decide (n = L.length) || tailB L n)
theorem putAll_congr {u u' : Nat → Value} : ∀ (l : List Oper) (k : Nat) (a : Act), (∀ j, k ≤ j → j < k + l.length → u j = u' j) → putAll u k l a = putAll u' k l a
  | [], _, _, _ => rfl
  | o :: r, k, a, h => by
    rw [putAll, putAll, h k (Nat.le_refl _) (by simp)]
    exact putAll_congr r (k + 1) _ fun j h1 h2 => h j (by omega) (by simp; omega)
theorem putAll_append {u : Nat → Value} : ∀ (l r : List Oper) (k : Nat) (a : Act), putAll u k (l ++ r) a = putAll u (k + l.length) r (putAll u k l a)
  | [], _, _, _ => by simp [putAll]
  | o :: l, r, k, a => by
    rw [List.cons_append, putAll, putAll, putAll_append l r (k + 1)]
    congr 1
    simp; omega
def fr (u : Nat → Value) (H : List Oper) (a0 : Act) (i : Nat) : Act := putAll u 0 (H.take i) a0
theorem fr_succ {u : Nat → Value} {H : List Oper} {a0 : Act} {i : Nat} {o : Oper} (h : H[i]? = some o) : fr u H a0 (i + 1) = (fr u H a0 i).put o.dst (u i) := by
  unfold fr
  obtain ⟨h1, h2⟩ := List.getElem?_eq_some_iff.1 h
  rw [List.take_succ_eq_append_getElem h1, putAll_append, h2, List.length_take, Nat.min_eq_left (by omega), Nat.zero_add]
  rfl
theorem fr_congr {u u' : Nat → Value} {H : List Oper} {a0 : Act} {i : Nat} (h : ∀ j, j < i → u j = u' j) : fr u H a0 i = fr u' H a0 i :=
  putAll_congr _ _ _ fun j _ hj => h j (by simp at hj; omega)
theorem fr_size (u : Nat → Value) (H : List Oper) (a0 : Act) (i : Nat) : (fr u H a0 i).tmps.size = a0.tmps.size := putAll_size _ _ _ _
theorem fr_defers (u : Nat → Value) (H : List Oper) (a0 : Act) (i : Nat) : (fr u H a0 i).defers = a0.defers := putAll_defers _ _ _ _
section
variable {P : Program} {Up : Exit → Prop} {L H : List Oper} {M : List (Nat × Yld)} {a0 : Act} {w0 : World} {E : Act → Prop}
theorem fr_new (hP : persB H a0.tmps.size = true) {u : Nat → Value} {i j : Nat} {o : Oper} {d : Nat} (ho : H[j]? = some o) (hd : o.dst = some d) (hj : j < i) : (fr u H a0 i).eval (.tmp d) = u j := by
  obtain ⟨⟨d', hd', hlt⟩, _, hu⟩ := persB_spec hP ho
  rw [hd] at hd'; cases hd'
  have := putAll_new u d 0 (H.take i) a0 j o (by rw [List.getElem?_take, if_pos hj]; exact ho) hd hlt fun j' o' h1 h2 => by
    by_cases e : j' = j
    · exact e
    · rw [List.getElem?_take] at h1
      split at h1
      · exact absurd (h2.trans hd.symm) (hu j' o' h1 e)
      · cases h1
  rwa [Nat.zero_add] at this
theorem fr_old {u : Nat → Value} {i t : Nat} (h : ∀ j o, j < i → H[j]? = some o → o.dst ≠ some t) : (fr u H a0 i).eval (.tmp t) = a0.eval (.tmp t) := by
  refine putAll_old u t 0 _ _ fun o ho => ?_
  obtain ⟨j, hj⟩ := List.getElem?_of_mem ho
  rw [List.getElem?_take] at hj
  split at hj
  · exact h j o (by assumption) hj
  · cases hj
theorem readsB_spec (hR : readsB L H = true) {i : Nat} {o : Oper} (ho : H[i]? = some o) :
    (∀ cs b, o.op ≠ .select cs b) ∧ (∀ t ∈ o.looksAt L.toArray, oldB H i t = true ∨ ∃ j oj, H[j]? = some oj ∧ oj.dst = some t ∧ depB o j = true) ∧ ∀ g b, o.guard = some (g, b) → depB o g = true := by
  unfold readsB at hR
  rw [List.all_eq_true] at hR
  have := hR (o, i) (by rw [List.mem_zipIdx_iff_getElem?]; exact ho)
  simp only [Bool.and_eq_true] at this
  obtain ⟨⟨h1, h2⟩, h3⟩ := this
  refine ⟨(fun cs b e => by rw [e] at h1; cases h1), fun t ht => ?_, (fun g b hg => by rw [hg] at h3; exact h3)⟩
  have := List.all_eq_true.1 h2 t ht
  rw [Bool.or_eq_true] at this
  rcases this with h | h
  · exact .inl h
  · obtain ⟨⟨oj, j⟩, hm, h⟩ := List.any_eq_true.1 h
    rw [List.mem_zipIdx_iff_getElem?] at hm
    simp only [Bool.and_eq_true, beq_iff_eq] at h
    exact .inr ⟨j, oj, hm, h.1, h.2⟩
theorem dep_lt (hP : persB H a0.tmps.size = true) {i j : Nat} {o : Oper} (ho : H[i]? = some o) (h : depB o j = true) : j < i := by
  obtain ⟨e, he, hon, hb⟩ := depB_of h
  have := (persB_spec hP ho).2.1 e he hb
  omega
theorem old_not (hP : persB H a0.tmps.size = true) {i j t : Nat} {o oj : Oper} (_ : H[i]? = some o) (hj : H[j]? = some oj) (hold : oldB H i t = true) (hji : j < i) : oj.dst ≠ some t := by
  unfold oldB at hold
  rw [List.all_eq_true] at hold
  have := hold (oj, j) (by rw [List.mem_zipIdx_iff_getElem?]; exact hj)
  simp only [Bool.or_eq_true, bne_iff_ne, ne_eq, beq_iff_eq] at this
  rcases this with (h | h) | h
  · exact h
  · omega
  · have := dep_lt hP hj h; omega
/-- What an operation comes to leans on the slots that it looks at alone. -/
theorem same_of_looks {o : Oper} {a b : Act} (hs : ∀ cs c, o.op ≠ .select cs c) (hz : a.tmps.size = b.tmps.size) (h : ∀ t ∈ o.looksAt L.toArray, a.eval (.tmp t) = b.eval (.tmp t)) :
    execOp a.eval o = execOp b.eval o ∧ Region.wanted o (yielded L.toArray a.tmps) = Region.wanted o (yielded L.toArray b.tmps) := by
  constructor
  · refine execOp_congr o hs fun x hx => ?_
    cases x with
    | tmp t => exact h t (List.mem_append_left _ (List.mem_filterMap.2 ⟨.tmp t, by simpa using hx, rfl⟩))
    | const v => rfl
    | global g => rfl
    | func f => rfl
  · unfold Region.wanted
    cases hg : o.guard with
    | none => rfl
    | some gw =>
      obtain ⟨g, want⟩ := gw
      have hy : yielded L.toArray a.tmps g = yielded L.toArray b.tmps g := by
        unfold yielded
        cases ht : ((L.toArray)[g]?).bind (·.dst) with
        | none => rfl
        | some t =>
          have ht' : ((L[g]?).bind fun x => x.dst) = some t := by simpa using ht
          have := h t (by simp [Oper.looksAt, hg, ht'])
          have e : a.tmps[t]? = b.tmps[t]? := by
            by_cases hlt : t < a.tmps.size
            · have hlt' : t < b.tmps.size := Nat.lt_of_lt_of_eq hlt hz
              have h2 : a.tmps.getD t undef = b.tmps.getD t undef := this
              rw [Array.getD_eq_getD_getElem?, Array.getD_eq_getD_getElem?, Array.getElem?_eq_getElem hlt, Array.getElem?_eq_getElem hlt'] at h2
              rw [Array.getElem?_eq_getElem hlt, Array.getElem?_eq_getElem hlt']
              simpa using h2
            · rw [Array.getElem?_eq_none (Nat.not_lt.1 hlt), Array.getElem?_eq_none (Nat.not_lt.1 (hz ▸ hlt))]
          simp only [Option.bind_some, e]
      simp only [hy]
structure PathP (P : Program) (Up : Exit → Prop) (L H : List Oper) (M : List (Nat × Yld)) (a0 : Act) (w0 : World) (E : Act → Prop) (p : (i : Nat) → (S : Yld) → S.X) (u : Nat → Value) : Prop where
  step : ∀ i o, H[i]? = some o →
    if Region.wanted o (yielded L.toArray (fr u H a0 i).tmps) = true then
      match madeAt M i with
      | some S => (∀ w, Below w0.heap.size w0 w → Deps L M (fr u H a0 i) o w → WpYld P Up o (fr u H a0 i) S w) ∧ u i = S.shape (p i S)
      | none => ∀ w, Below w0.heap.size w0 w → Deps L M (fr u H a0 i) o w → (execOp (fr u H a0 i).eval o).run P w = .ok (.value (u i)) w
    else u i = undef
  fin : E (fr u H a0 H.length)
theorem path_aux (p : (i : Nat) → (S : Yld) → S.X) : ∀ (r : List Oper) (k : Nat) (u0 : Nat → Value), H.drop k = r → k ≤ H.length → walk P Up L M w0 E k r (fr u0 H a0 k) →
    ∃ u, (∀ j, j < k → u j = u0 j) ∧ (∀ i o, k ≤ i → H[i]? = some o →
      if Region.wanted o (yielded L.toArray (fr u H a0 i).tmps) = true then
        match madeAt M i with
        | some S => (∀ w, Below w0.heap.size w0 w → Deps L M (fr u H a0 i) o w → WpYld P Up o (fr u H a0 i) S w) ∧ u i = S.shape (p i S)
        | none => ∀ w, Below w0.heap.size w0 w → Deps L M (fr u H a0 i) o w → (execOp (fr u H a0 i).eval o).run P w = .ok (.value (u i)) w
      else u i = undef) ∧ E (fr u H a0 H.length)
  | [], k, u0, hr, hk, h => by
    have : H.length ≤ k := by simpa using hr
    obtain rfl : k = H.length := by omega
    exact ⟨u0, fun _ _ => rfl, fun i o hi ho => by have := (List.getElem?_eq_some_iff.1 ho).1; omega, h⟩
  | o :: r, k, u0, hr, hk, h => by
    have ho : H[k]? = some o := by
      have : (H.drop k)[0]? = some o := by rw [hr]; rfl
      simpa using this
    have hr' : H.drop (k + 1) = r := by
      rw [← List.drop_drop, hr]; rfl
    have hk' : k + 1 ≤ H.length := (List.getElem?_eq_some_iff.1 ho).1
    have key : ∀ v, walk P Up L M w0 E (k + 1) r ((fr u0 H a0 k).put o.dst v) → ∃ u, (∀ j, j < k → u j = u0 j) ∧ u k = v ∧ (∀ i o, k + 1 ≤ i → H[i]? = some o →
      if Region.wanted o (yielded L.toArray (fr u H a0 i).tmps) = true then
        match madeAt M i with
        | some S => (∀ w, Below w0.heap.size w0 w → Deps L M (fr u H a0 i) o w → WpYld P Up o (fr u H a0 i) S w) ∧ u i = S.shape (p i S)
        | none => ∀ w, Below w0.heap.size w0 w → Deps L M (fr u H a0 i) o w → (execOp (fr u H a0 i).eval o).run P w = .ok (.value (u i)) w
      else u i = undef) ∧ E (fr u H a0 H.length) := by
      intro v hv
      have e1 : fr (fun j => if j = k then v else u0 j) H a0 k = fr u0 H a0 k := fr_congr fun j hj => by
        show (if j = k then v else u0 j) = u0 j
        rw [if_neg (by omega)]
      have e2 : fr (fun j => if j = k then v else u0 j) H a0 (k + 1) = (fr u0 H a0 k).put o.dst v := by
        rw [fr_succ ho, e1]
        simp
      obtain ⟨u, h1, h2, h3⟩ := path_aux p r (k + 1) (fun j => if j = k then v else u0 j) hr' hk' (by rw [e2]; exact hv)
      refine ⟨u, fun j hj => ?_, ?_, h2, h3⟩
      · rw [h1 j (by omega), if_neg (by omega)]
      · rw [h1 k (by omega), if_pos rfl]
    have fin : ∀ v, (∃ u, (∀ j, j < k → u j = u0 j) ∧ u k = v ∧ (∀ i o, k + 1 ≤ i → H[i]? = some o →
      if Region.wanted o (yielded L.toArray (fr u H a0 i).tmps) = true then
        match madeAt M i with
        | some S => (∀ w, Below w0.heap.size w0 w → Deps L M (fr u H a0 i) o w → WpYld P Up o (fr u H a0 i) S w) ∧ u i = S.shape (p i S)
        | none => ∀ w, Below w0.heap.size w0 w → Deps L M (fr u H a0 i) o w → (execOp (fr u H a0 i).eval o).run P w = .ok (.value (u i)) w
      else u i = undef) ∧ E (fr u H a0 H.length)) → (if Region.wanted o (yielded L.toArray (fr u0 H a0 k).tmps) = true then
        match madeAt M k with
        | some S => (∀ w, Below w0.heap.size w0 w → Deps L M (fr u0 H a0 k) o w → WpYld P Up o (fr u0 H a0 k) S w) ∧ v = S.shape (p k S)
        | none => ∀ w, Below w0.heap.size w0 w → Deps L M (fr u0 H a0 k) o w → (execOp (fr u0 H a0 k).eval o).run P w = .ok (.value v) w
      else v = undef) → ∃ u, (∀ j, j < k → u j = u0 j) ∧ (∀ i o, k ≤ i → H[i]? = some o →
      if Region.wanted o (yielded L.toArray (fr u H a0 i).tmps) = true then
        match madeAt M i with
        | some S => (∀ w, Below w0.heap.size w0 w → Deps L M (fr u H a0 i) o w → WpYld P Up o (fr u H a0 i) S w) ∧ u i = S.shape (p i S)
        | none => ∀ w, Below w0.heap.size w0 w → Deps L M (fr u H a0 i) o w → (execOp (fr u H a0 i).eval o).run P w = .ok (.value (u i)) w
      else u i = undef) ∧ E (fr u H a0 H.length) := by
      rintro v ⟨u, h1, h2, h3, h4⟩ hstep
      refine ⟨u, h1, fun i o' hi ho' => ?_, h4⟩
      by_cases hik : i = k
      · subst hik
        rw [ho] at ho'
        cases ho'
        rw [fr_congr (u' := u0) h1, h2]
        exact hstep
      · exact h3 i o' (by omega) ho'
    rw [walk] at h
    by_cases hw : Region.wanted o (yielded L.toArray (fr u0 H a0 k).tmps) = true
    · rw [if_pos hw] at h
      cases hM : madeAt M k with
      | some S =>
        simp only [hM] at h
        refine fin (S.shape (p k S)) (key _ (h.2 (p k S))) ?_
        rw [if_pos hw, hM]
        exact ⟨h.1, rfl⟩
      | none =>
        simp only [hM] at h
        obtain ⟨v, h1, h2⟩ := h
        refine fin v (key _ h2) ?_
        rw [if_pos hw, hM]
        exact h1
    · rw [if_neg hw] at h
      refine fin undef (key _ h) ?_
      rw [if_neg hw]
theorem path_exists (p : (i : Nat) → (S : Yld) → S.X) (h : walk P Up L M w0 E 0 H a0) : ∃ u, PathP P Up L H M a0 w0 E p u := by
  obtain ⟨u, _, h2, h3⟩ := path_aux (a0 := a0) p H 0 (fun _ => undef) rfl (Nat.zero_le _) (by unfold fr; rw [List.take_zero]; exact h)
  exact ⟨u, fun i o ho => h2 i o (Nat.zero_le _) ho, h3⟩
/-- The frames of a path at a slot that an operation looks at. -/
theorem looks_fr (hP : persB H a0.tmps.size = true) (hR : readsB L H = true) {i : Nat} {o : Oper} (ho : H[i]? = some o) {t : Nat} (ht : t ∈ o.looksAt L.toArray) :
    (oldB H i t = true ∧ ∀ u, (fr u H a0 i).eval (.tmp t) = a0.eval (.tmp t)) ∨ ∃ j oj, H[j]? = some oj ∧ oj.dst = some t ∧ depB o j = true ∧ j < i ∧ ∀ u, (fr u H a0 i).eval (.tmp t) = u j := by
  rcases (readsB_spec hR ho).2.1 t ht with h | ⟨j, oj, hj, hd, hdep⟩
  · exact .inl ⟨h, fun u => fr_old fun j oj hji hj => old_not hP ho hj h hji⟩
  · have hlt := dep_lt hP ho hdep
    exact .inr ⟨j, oj, hj, hd, hdep, hlt, fun u => fr_new hP hj hd hlt⟩
/-- Whether an operation is wanted stands from its own place on. -/
theorem wanted_later (hP : persB H a0.tmps.size = true) (hR : readsB L H = true) (hL : ∀ (i : Nat) (o : Oper), H[i]? = some o → L[i]? = some o) {u : Nat → Value} {j i : Nat} {oj : Oper} (hj : H[j]? = some oj) (hji : j ≤ i) :
    Region.wanted oj (yielded L.toArray (fr u H a0 i).tmps) = Region.wanted oj (yielded L.toArray (fr u H a0 j).tmps) := by
  unfold Region.wanted
  cases hg : oj.guard with
  | none => rfl
  | some gw =>
    obtain ⟨g, want⟩ := gw
    have hdep := (readsB_spec hR hj).2.2 g want hg
    have hlt := dep_lt hP hj hdep
    have hgl : g < H.length := by have := (List.getElem?_eq_some_iff.1 hj).1; omega
    have hog : H[g]? = some H[g] := List.getElem?_eq_getElem hgl
    obtain ⟨⟨d, hd, hdn⟩, _, _⟩ := persB_spec hP hog
    have e1 : (fr u H a0 i).eval (.tmp d) = u g := fr_new hP hog hd (by omega)
    have e2 : (fr u H a0 j).eval (.tmp d) = u g := fr_new hP hog hd hlt
    have hget : ∀ (a : Act), a.tmps.size = a0.tmps.size → a.eval (.tmp d) = u g → yielded L.toArray a.tmps g = (match some (u g) with | some (.bool b) => some b | _ => none) := by
      intro a hz he
      unfold yielded
      have h2 : a.tmps.getD d undef = u g := he
      have hlt' : d < a.tmps.size := by rw [hz]; exact hdn
      rw [Array.getD_eq_getD_getElem?, Array.getElem?_eq_getElem hlt'] at h2
      have h3 : (L.toArray)[g]? = some H[g] := by simpa using hL g _ hog
      rw [h3, Option.bind_some, hd, Option.bind_some, Array.getElem?_eq_getElem hlt']
      simp only [Option.getD_some] at h2
      rw [h2]
      rfl
    show (yielded L.toArray (fr u H a0 i).tmps g == some want) = (yielded L.toArray (fr u H a0 j).tmps g == some want)
    rw [hget _ (fr_size _ _ _ _) e1, hget _ (fr_size _ _ _ _) e2]
/-- What is known of the operations that have been carried out. -/
def Known (L H : List Oper) (M : List (Nat × Yld)) (a0 : Act) (u : Nat → Value) (D : Nat → Prop) (w : World) : Prop :=
  ∀ j oj S, D j → H[j]? = some oj → madeAt M j = some S → Region.wanted oj (yielded L.toArray (fr u H a0 j).tmps) = true → S.R (u j) w
theorem deps_of (hP : persB H a0.tmps.size = true) (hR : readsB L H = true) (hL : ∀ (i : Nat) (o : Oper), H[i]? = some o → L[i]? = some o) {u : Nat → Value} {D : Nat → Prop} {w : World} (hK : Known L H M a0 u D w) {i : Nat} {o : Oper} (ho : H[i]? = some o)
    (hD : ∀ j, depB o j = true → D j) : Deps L M (fr u H a0 i) o w := by
  intro j oj d S hj hd hdep hM hw
  have hlt := dep_lt hP ho hdep
  have hjl : j < H.length := by have := (List.getElem?_eq_some_iff.1 ho).1; omega
  have hj' : H[j]? = some oj := by
    have := hL j _ (List.getElem?_eq_getElem hjl)
    rw [hj] at this
    cases this
    exact List.getElem?_eq_getElem hjl
  rw [fr_new hP hj' hd hlt]
  exact hK j oj S (hD j hdep) hj' hM (by rw [← wanted_later hP hR hL hj' (Nat.le_of_lt hlt)]; exact hw)
/-- Two paths agree on what has been carried out. -/
theorem agree (hP : persB H a0.tmps.size = true) (hR : readsB L H = true) (hL : ∀ (i : Nat) (o : Oper), H[i]? = some o → L[i]? = some o) {p p' : (i : Nat) → (S : Yld) → S.X} {u u' : Nat → Value}
    (h : PathP P Up L H M a0 w0 E p u) (h' : PathP P Up L H M a0 w0 E p' u') {D : Nat → Prop} {w : World} (hw : Below w0.heap.size w0 w) (hcl : ∀ i o, D i → H[i]? = some o → ∀ j, depB o j = true → D j)
    (hp : ∀ i S, D i → p i S = p' i S) (hK : Known L H M a0 u D w) : ∀ i o, D i → H[i]? = some o → u i = u' i ∧ Region.wanted o (yielded L.toArray (fr u H a0 i).tmps) = Region.wanted o (yielded L.toArray (fr u' H a0 i).tmps) := by
  intro i
  induction i using Nat.strongRecOn with
  | ind i ih =>
    intro o hi ho
    have hlooks : ∀ t ∈ o.looksAt L.toArray, (fr u H a0 i).eval (.tmp t) = (fr u' H a0 i).eval (.tmp t) := fun t ht => by
      rcases looks_fr hP hR ho ht with ⟨_, he⟩ | ⟨j, oj, hj, hd, hdep, hlt, he⟩
      · rw [he u, he u']
      · rw [he u, he u']
        exact (ih j hlt oj (hcl i o hi ho j hdep) hj).1
    obtain ⟨e1, e2⟩ := same_of_looks (L := L) (readsB_spec hR ho).1 (by rw [fr_size, fr_size]) hlooks
    refine ⟨?_, e2⟩
    have s1 := h.step i o ho
    have s2 := h'.step i o ho
    rw [← e2] at s2
    by_cases hwt : Region.wanted o (yielded L.toArray (fr u H a0 i).tmps) = true
    · rw [if_pos hwt] at s1 s2
      cases hM : madeAt M i with
      | some S =>
        simp only [hM] at s1 s2
        rw [s1.2, s2.2, hp i S hi]
      | none =>
        simp only [hM] at s1 s2
        have hd1 := deps_of hP hR hL hK ho fun j hj => hcl i o hi ho j hj
        have hd2 : Deps L M (fr u' H a0 i) o w := by
          intro j oj d S hj hd hdep hMj hwj
          have hlt := dep_lt hP ho hdep
          have hjl : j < H.length := by have := (List.getElem?_eq_some_iff.1 ho).1; omega
          have hj' : H[j]? = some oj := by
            have := hL j _ (List.getElem?_eq_getElem hjl)
            rw [hj] at this
            cases this
            exact List.getElem?_eq_getElem hjl
          have hDj := hcl i o hi ho j hdep
          obtain ⟨f1, f2⟩ := ih j hlt oj hDj hj'
          rw [fr_new hP hj' hd hlt, ← f1]
          refine hK j oj S hDj hj' hMj ?_
          rw [f2, ← wanted_later hP hR hL hj' (Nat.le_of_lt hlt)]
          exact hwj
        have r1 := s1 w hw hd1
        have r2 := s2 w hw hd2
        rw [e1, r2] at r1
        injection r1 with h1 _
        injection h1 with h2
        exact h2.symm
    · rw [if_neg hwt] at s1 s2
      rw [s1, s2]
/-- What holds while the head is run. -/
structure InvW (P : Program) (Up : Exit → Prop) (L H : List Oper) (M : List (Nat × Yld)) (a0 : Act) (w0 : World) (E : Act → Prop) (listed : Array Bool) (a : Act) (w : World) : Prop where
  lsize : listed.size = L.length
  tail : ∀ t, H.length ≤ t → t < L.length → listed.getD t true = false
  below : Below w0.heap.size w0 w
  size : a.tmps.size = a0.tmps.size
  defers : a.defers = a0.defers
  old : ∀ t, (∀ i o, H[i]? = some o → listed.getD i true = true → o.dst ≠ some t) → a.eval (.tmp t) = a0.eval (.tmp t)
  closed : ∀ i o, H[i]? = some o → listed.getD i true = true → ∀ j, depB o j = true → listed.getD j true = true
  path : ∃ p u, PathP P Up L H M a0 w0 E p u ∧ (∀ i o d, H[i]? = some o → listed.getD i true = true → o.dst = some d → a.eval (.tmp d) = u i) ∧ Known L H M a0 u (fun i => i < H.length ∧ listed.getD i true = true) w
theorem Known.mono {u : Nat → Value} {D : Nat → Prop} {w w' : World} (h : Known L H M a0 u D w) (hb : Below w.heap.size w w') : Known L H M a0 u D w' := fun j oj S hD hj hM hw => by
  obtain ⟨x, e, hr⟩ := h j oj S hD hj hM hw
  exact ⟨x, e, S.st x w w' hr hb⟩
theorem InvW.looks (hP : persB H a0.tmps.size = true) (hR : readsB L H = true) {listed : Array Bool} {a : Act} {w : World} (h : InvW P Up L H M a0 w0 E listed a w) {u : Nat → Value} (hu : ∀ i o d, H[i]? = some o → listed.getD i true = true → o.dst = some d → a.eval (.tmp d) = u i)
    {i : Nat} {o : Oper} (ho : H[i]? = some o) (hl : listed.getD i true = false) (hd : ∀ j, depB o j = true → listed.getD j true = true) : ∀ t ∈ o.looksAt L.toArray, a.eval (.tmp t) = (fr u H a0 i).eval (.tmp t) := by
  intro t ht
  rcases looks_fr hP hR ho ht with ⟨hold, he⟩ | ⟨j, oj, hj, hdj, hdep, hlt, he⟩
  · rw [he u]
    refine h.old t fun k ok hk hlk e => ?_
    unfold oldB at hold
    rw [List.all_eq_true] at hold
    have := hold (ok, k) (by rw [List.mem_zipIdx_iff_getElem?]; exact hk)
    simp only [Bool.or_eq_true, bne_iff_ne, ne_eq, beq_iff_eq] at this
    rcases this with (h' | h') | h'
    · exact h' e
    · subst h'; rw [hl] at hlk; cases hlk
    · have := h.closed k ok hk hlk i h'
      rw [hl] at this; cases this
  · rw [he u]
    exact hu j oj t hj (hd j hdep) hdj
open Classical in
/-- One operation of the head. -/
theorem InvW.step (hP : persB H a0.tmps.size = true) (hR : readsB L H = true) (hL : ∀ (i : Nat) (o : Oper), H[i]? = some o → L[i]? = some o) (hW : walk P Up L M w0 E 0 H a0) {listed : Array Bool} {a : Act} {w : World} (h : InvW P Up L H M a0 w0 E listed a w)
    {i : Nat} {o : Oper} (ho : H[i]? = some o) (hl : listed.getD i true = false) (hd : ∀ j, depB o j = true → listed.getD j true = true) {K : Act → World → Prop}
    (hK : ∀ v w', Below w.heap.size w w' → InvW P Up L H M a0 w0 E (listed.setIfInBounds i true) (a.put o.dst v) w' → K (a.put o.dst v) w') :
    if Region.wanted o (yielded L.toArray a.tmps) = true then o.wp P a w K (Ups Up a0.defers w0) else K (a.put o.dst undef) w := by
  obtain ⟨⟨d, hod, hdn⟩, _, hun⟩ := persB_spec hP ho
  obtain ⟨p, u, hp, hu, hk⟩ := h.path
  have hil : i < H.length := (List.getElem?_eq_some_iff.1 ho).1
  have hiL : i < L.length := (List.getElem?_eq_some_iff.1 (hL i o ho)).1
  have hi : i < listed.size := by rw [h.lsize]; exact hiL
  obtain ⟨e1, e2⟩ := same_of_looks (L := L) (readsB_spec hR ho).1 (by rw [fr_size, h.size]) (h.looks hP hR hu ho hl hd)
  have hdeps : Deps L M (fr u H a0 i) o w := deps_of hP hR hL hk ho fun j hj => ⟨by have := dep_lt hP ho hj; omega, hd j hj⟩
  have hs := hp.step i o ho
  -- the new invariant, given a path whose value here is v
  have next : ∀ v w', Below w.heap.size w w' → (∃ p' u', PathP P Up L H M a0 w0 E p' u' ∧ u' i = v ∧ (∀ j oj, j < H.length → listed.getD j true = true → H[j]? = some oj → u' j = u j) ∧ Known L H M a0 u' (fun j => j < H.length ∧ (listed.setIfInBounds i true).getD j true = true) w') →
      InvW P Up L H M a0 w0 E (listed.setIfInBounds i true) (a.put o.dst v) w' := by
    rintro v w' hb ⟨p', u', hp', hv, hag, hk'⟩
    refine ⟨by simpa using h.lsize, fun t h1 h2 => by rw [getD_set_ne _ (by omega)]; exact h.tail t h1 h2, h.below.trans (hb.mono h.below.size), by rw [put_size]; exact h.size, by rw [put_defers]; exact h.defers, ?_, ?_, p', u', hp', ?_, hk'⟩
    · intro t ht
      rw [put_get_ne _ _ _ _ (ht i o ho (getD_set_self _ hi))]
      exact h.old t fun j oj hj hlj => ht j oj hj (getD_set_true' hlj)
    · intro j oj hj hlj k hdep
      by_cases hij : i = j
      · subst hij
        rw [ho] at hj
        cases hj
        exact getD_set_true' (hd k hdep)
      · rw [getD_set_ne _ hij] at hlj
        exact getD_set_true' (h.closed j oj hj hlj k hdep)
    · intro j oj dj hj hlj hdj
      by_cases hij : i = j
      · subst hij
        rw [ho] at hj
        cases hj
        rw [hod] at hdj
        cases hdj
        rw [hod, put_get_eq _ _ _ (by rw [h.size]; exact hdn), hv]
      · rw [getD_set_ne _ hij] at hlj
        rw [put_get_ne _ _ _ _ (fun e => hun j oj hj (Ne.symm hij) (hdj.trans e.symm)), hag j oj (List.getElem?_eq_some_iff.1 hj).1 hlj hj]
        exact hu j oj dj hj hlj hdj
  -- the path stays
  have stay : ∀ w', Below w.heap.size w w' → (∀ S, madeAt M i = some S → Region.wanted o (yielded L.toArray (fr u H a0 i).tmps) = true → S.R (u i) w') → InvW P Up L H M a0 w0 E (listed.setIfInBounds i true) (a.put o.dst (u i)) w' := by
    intro w' hb hmade
    refine next _ _ hb ⟨p, u, hp, rfl, fun _ _ _ _ _ => rfl, fun j oj S hj hoj hM hw => ?_⟩
    by_cases hij : i = j
    · subst hij
      rw [ho] at hoj
      cases hoj
      exact hmade S hM hw
    · obtain ⟨hj1, hj2⟩ := hj
      rw [getD_set_ne _ hij] at hj2
      exact hk.mono hb j oj S ⟨hj1, hj2⟩ hoj hM hw
  by_cases hw : Region.wanted o (yielded L.toArray (fr u H a0 i).tmps) = true
  · rw [if_pos hw] at hs
    rw [if_pos (e2.trans hw)]
    cases hM : madeAt M i with
    | none =>
      simp only [hM] at hs
      have hr := hs w h.below hdeps
      unfold Oper.wp Oper.upon
      rw [e1, hr]
      exact hK _ _ (Below.refl _ _) (stay w (Below.refl _ _) fun S hS => by rw [hM] at hS; cases hS)
    | some S =>
      simp only [hM] at hs
      have hwp := hs.1 w h.below hdeps
      have hups : ∀ x a1 w1, Ups Up (fr u H a0 i).defers w x a1 w1 → Ups Up a0.defers w0 x a1 w1 := fun x a1 w1 hq => ⟨hq.1, hq.2.1.trans (fr_defers _ _ _ _), h.below.trans (hq.2.2.mono h.below.size)⟩
      have hwp' : o.wp P a w (fun a' w' => ∃ v, a' = a.put o.dst v ∧ S.R v w' ∧ Below w.heap.size w w') (Ups Up a0.defers w0) := by
        have hput : ∀ v, ∃ v', (fr u H a0 i).put o.dst v = (fr u H a0 i).put o.dst v' := fun v => ⟨v, rfl⟩
        unfold WpYld Oper.wp at hwp
        unfold Oper.wp
        rw [e1]
        generalize (execOp (fr u H a0 i).eval o).run P w = r at hwp ⊢
        have inj : ∀ {v v' : Value}, (fr u H a0 i).put o.dst v = (fr u H a0 i).put o.dst v' → v = v' := fun {v v'} e => by
          have h1 := put_get_eq (fr u H a0 i) d v (by rw [fr_size]; exact hdn)
          have h2 := put_get_eq (fr u H a0 i) d v' (by rw [fr_size]; exact hdn)
          rw [hod] at e
          rw [← h1, e, h2]
        have conv : ∀ (v : Value) (w' : World), (∃ v', (fr u H a0 i).put o.dst v = (fr u H a0 i).put o.dst v' ∧ S.R v' w' ∧ Below w.heap.size w w') → ∃ v', a.put o.dst v = a.put o.dst v' ∧ S.R v' w' ∧ Below w.heap.size w w' := by
          rintro v w' ⟨v', e, hR, hb⟩
          rw [inj e]
          exact ⟨v', rfl, hR, hb⟩
        cases r with
        | halt x w' =>
          cases x <;> simp only [Oper.upon] at hwp ⊢
          case panic v => exact ⟨(hwp : Ups _ _ _ _ _ _).1, h.defers, (hups _ _ _ hwp).2.2⟩
        | ok n w' =>
          cases n <;> simp only [Oper.upon] at hwp ⊢
          case value v => exact conv v w' hwp
          case skip => exact conv undef w' hwp
          case enter f args =>
            refine Calls.mono hwp fun e w'' he => ?_
            cases e with
            | returned v => exact conv v w'' he
            | panicked c => exact ⟨(he : Ups _ _ _ _ _ _).1, h.defers, (hups _ _ _ he).2.2⟩
            | outgrown => obtain ⟨a1, w1, h0⟩ := (he : LetsOut _); exact ⟨a1, w1, hups _ _ _ h0⟩
          case row rw args =>
            exact hwp.mono fun v w'' he => conv v w'' he
          case defer dd =>
            obtain ⟨v', e, _⟩ := hwp
            have := congrArg Act.defers e
            rw [put_defers, put_defers] at this
            have := congrArg List.length this
            simp at this
      refine Oper.wp_mono (fun a' w' hq => ?_) hwp'
      obtain ⟨v, rfl, hRv, hb⟩ := hq
      obtain ⟨x, hx, hrel⟩ := hRv
      refine hK _ _ hb (next v w' hb ?_)
      obtain ⟨u', hp'⟩ := path_exists (a0 := a0) (fun k S' => if hh : k = i ∧ S' = S then hh.2 ▸ x else p k S') hW
      have hag := agree hP hR hL hp hp' (D := fun j => j < H.length ∧ listed.getD j true = true) (w := w) h.below (fun j oj hj hoj k hdep => ⟨by have := dep_lt hP hoj hdep; omega, h.closed j oj hoj hj.2 k hdep⟩)
        (fun j S' hj => by
          have hne : ¬ (j = i ∧ S' = S) := fun hh => by
            have := hj.2
            rw [hh.1, hl] at this
            cases this
          simp only [dif_neg hne]) hk
      have hlooks' : ∀ t ∈ o.looksAt L.toArray, (fr u H a0 i).eval (.tmp t) = (fr u' H a0 i).eval (.tmp t) := fun t ht => by
        rcases looks_fr hP hR ho ht with ⟨_, he⟩ | ⟨j, oj, hj, hdj, hdep, hlt, he⟩
        · rw [he u, he u']
        · rw [he u, he u']
          exact (hag j oj ⟨by omega, hd j hdep⟩ hj).1
      obtain ⟨-, e4⟩ := same_of_looks (L := L) (readsB_spec hR ho).1 (by rw [fr_size, fr_size]) hlooks'
      have hui : u' i = v := by
        have s := hp'.step i o ho
        rw [← e4, if_pos hw, hM] at s
        have := s.2
        rw [this, hx]
        simp
      refine ⟨_, u', hp', hui, fun j oj hj hlj hoj => ((hag j oj ⟨hj, hlj⟩ hoj).1).symm, fun j oj S' hj hoj hMj hwj => ?_⟩
      by_cases hij : i = j
      · subst hij
        rw [ho] at hoj
        cases hoj
        rw [hM] at hMj
        cases hMj
        rw [hui]
        exact ⟨x, hx, hrel⟩
      · obtain ⟨hj1, hj2⟩ := hj
        rw [getD_set_ne _ hij] at hj2
        obtain ⟨f1, f2⟩ := hag j oj ⟨hj1, hj2⟩ hoj
        rw [← f1]
        exact hk.mono hb j oj S' ⟨hj1, hj2⟩ hoj hMj (by rw [f2]; exact hwj)
  · rw [if_neg hw] at hs
    rw [if_neg (by rw [e2]; exact hw), ← hs]
    exact hK _ _ (Below.refl _ _) (stay w (Below.refl _ _) fun S _ hw' => absurd hw' hw)
theorem getD_tf {listed : Array Bool} {j : Nat} (h : listed.getD j false = true) : listed.getD j true = true := by
  by_cases hj : j < listed.size
  · rw [getD_lt hj]; exact h
  · simp [Array.getD_eq_getD_getElem?, Array.getElem?_eq_none (Nat.not_lt.1 hj)]
/-- What is known when the head is done. -/
def Facts (L H : List Oper) (M : List (Nat × Yld)) (a : Act) (w : World) : Prop :=
  ∀ i o d S, H[i]? = some o → o.dst = some d → madeAt M i = some S → Region.wanted o (yielded L.toArray a.tmps) = true → S.R (a.eval (.tmp d)) w
theorem InvW.done (hP : persB H a0.tmps.size = true) (hR : readsB L H = true) (hL : ∀ (i : Nat) (o : Oper), H[i]? = some o → L[i]? = some o) {listed : Array Bool} {a : Act} {w : World} (h : InvW P Up L H M a0 w0 E listed a w)
    (hall : ∀ i, i < H.length → listed.getD i true = true) : E a ∧ Facts L H M a w := by
  obtain ⟨p, u, hp, hu, hk⟩ := h.path
  have he : fr u H a0 H.length = a := by
    refine act_ext (by rw [fr_size, h.size]) (by rw [fr_defers, h.defers]) fun t => ?_
    by_cases ht : ∃ (i : Nat) (o : Oper), H[i]? = some o ∧ o.dst = some t
    · obtain ⟨i, o, ho, hod⟩ := ht
      have hi := (List.getElem?_eq_some_iff.1 ho).1
      rw [fr_new hP ho hod hi]
      exact (hu i o t ho (hall i hi) hod).symm
    · rw [fr_old fun j o _ ho e => ht ⟨j, o, ho, e⟩]
      exact (h.old t fun i o ho _ e => ht ⟨i, o, ho, e⟩).symm
  refine ⟨he ▸ hp.fin, fun i o d S ho hd hM hw => ?_⟩
  have hi := (List.getElem?_eq_some_iff.1 ho).1
  rw [hu i o d ho (hall i hi) hd]
  refine hk i o S ⟨hi, hall i hi⟩ ho hM ?_
  rw [← wanted_later hP hR hL ho (Nat.le_of_lt hi), he]
  exact hw
theorem seq_listed {n : Nat} {listed : Array Bool} (hn : n ≤ L.length) (hs : listed.size = L.length) (h1 : ∀ i, i < n → listed.getD i true = true) (h2 : ∀ t, n ≤ t → t < L.length → listed.getD t true = false) :
    listed = (List.replicate n true ++ List.replicate (L.length - n) false).toArray := by
  apply Array.ext
  · simp; omega
  · intro i hi1 hi2
    have e : listed.getD i true = listed[i] := by simp [Array.getD_eq_getD_getElem?, hi1]
    rw [← e]
    by_cases hin : i < n
    · rw [h1 i hin]
      simp [hin]
    · rw [h2 i (by omega) (by omega)]
      simp [List.getElem_append, hin]
theorem wpAny_walk {Q : Exit → Act → World → Prop} {n : Nat} (hH : H = L.take n) (hn : n ≤ L.length) (hP : persB H a0.tmps.size = true) (hR : readsB L H = true) (hT : n = L.length ∨ tailB L n = true) (hW : walk P Up L M w0 E 0 H a0)
    (hup : ∀ x a w, Ups Up a0.defers w0 x a w → Q x a w) (hend : ∀ a w, E a → Below w0.heap.size w0 w → Facts L H M a w → wpList P L.toArray Q (L.drop n) a w) :
    ∀ (fuel : Nat) (U : List Nat) (listed : Array Bool) (a : Act) (w : World), U.Nodup → (∀ i, i ∈ U ↔ i < n ∧ listed.getD i true = false) → fuel = U.length + (L.length - n) → InvW P Up L H M a0 w0 E listed a w → wpAny P .any L.toArray Q fuel listed a w := by
  have hHl : H.length = n := by rw [hH]; simp; omega
  have hL : ∀ (i : Nat) (o : Oper), H[i]? = some o → L[i]? = some o := fun i o h => by
    rw [hH, List.getElem?_take] at h
    split at h
    · exact h
    · cases h
  have hLH : ∀ (i : Nat) (o : Oper), i < n → L[i]? = some o → H[i]? = some o := fun i o hi h => by
    rw [hH, List.getElem?_take, if_pos hi]; exact h
  intro fuel
  induction fuel with
  | zero =>
    intro U listed a w _ hU hf h
    have hU0 : U = [] := List.eq_nil_of_length_eq_zero (by omega)
    have hnl : n = L.length := by omega
    have hall : ∀ i, i < n → listed.getD i true = true := fun i hi => by
      cases hl : listed.getD i true with
      | true => rfl
      | false => have := (hU i).2 ⟨hi, hl⟩; rw [hU0] at this; cases this
    obtain ⟨hE, hF⟩ := h.done hP hR hL (fun i hi => hall i (by omega))
    have hq := hend a w hE h.below hF
    rw [hnl, List.drop_length] at hq
    exact ⟨ready_none fun i hi => hall i (by omega), hq⟩
  | succ fuel ih =>
    intro U listed a w hnd hU hf h
    by_cases hU0 : U = []
    · have hall : ∀ i, i < n → listed.getD i true = true := fun i hi => by
        cases hl : listed.getD i true with
        | true => rfl
        | false => have := (hU i).2 ⟨hi, hl⟩; rw [hU0] at this; cases this
      obtain ⟨hE, hF⟩ := h.done hP hR hL (fun i hi => hall i (by omega))
      have hq := hend a w hE h.below hF
      rw [hU0] at hf
      simp only [List.length_nil, Nat.zero_add] at hf
      have hT' : tailB L n = true := hT.resolve_left (by omega)
      unfold tailB at hT'
      simp only [Bool.and_eq_true] at hT'
      have hlist := seq_listed (L := L) hn h.lsize hall (fun t h1 h2 => h.tail t (by omega) h2)
      have := wpAny_of_seq (P := P) (md := .any) (ops := L.toArray) (Q' := Q) (L.drop n) n listed a w (fun j => by simp [List.getElem?_drop]) (by rw [List.length_drop, hlist]; exact hT'.2) hq
      rw [List.length_drop, ← hf] at this
      exact this
    · have hnotall : ¬ ∀ i, i < n → listed.getD i true = true := fun hall => by
        obtain ⟨x, hx⟩ := List.exists_mem_of_ne_nil _ hU0
        have := (hU x).1 hx
        rw [hall x this.1] at this
        exact absurd this.2 (by decide)
      refine ⟨fun hr => ?_, fun i hi => ?_⟩
      · exfalso
        refine hnotall fun i => ?_
        induction i using Nat.strongRecOn with
        | ind i ihi =>
          intro hi
          cases hl : listed.getD i true with
          | true => rfl
          | false =>
            have ho : H[i]? = some (H[i]'(by omega)) := List.getElem?_eq_getElem _
            obtain ⟨_, h2, _⟩ := persB_spec hP ho
            have : i ∈ Region.ready .any L.toArray listed := by
              rw [mem_ready]
              refine ⟨hl, _, by simpa using hL i _ ho, fun e he hb => ?_⟩
              have hlt := h2 e he hb
              rw [← getD_lt (by rw [h.lsize]; omega)]
              exact ihi e.on hlt (by omega)
            rw [hr] at this
            cases this
      rw [mem_ready] at hi
      obtain ⟨hl, o, ho, hdeps⟩ := hi
      have hoL : L[i]? = some o := by simpa using ho
      have hiL : i < L.length := (List.getElem?_eq_some_iff.1 hoL).1
      have hd : ∀ j, depB o j = true → listed.getD j true = true := fun j hj => by
        obtain ⟨e, he, hon, hb⟩ := depB_of hj
        have := hdeps e he hb
        rw [hon] at this
        exact getD_tf this
      by_cases hin : i < n
      · have ho' := hLH i o hin hoL
        have hs := h.step hP hR hL hW ho' hl hd (K := wpAny P .any L.toArray Q fuel (listed.setIfInBounds i true)) (fun v w' _ hinv => by
          refine ih (U.erase i) _ _ _ (hnd.erase i) (fun j => ?_) ?_ hinv
          · rw [hnd.mem_erase_iff, hU j]
            constructor
            · rintro ⟨h1, h2, h3⟩
              exact ⟨h2, by rw [getD_set_ne _ (Ne.symm h1)]; exact h3⟩
            · rintro ⟨h1, h2⟩
              have hne : j ≠ i := by
                rintro rfl
                rw [getD_set_self _ (by rw [h.lsize]; exact hiL)] at h2; cases h2
              rw [getD_set_ne _ (Ne.symm hne)] at h2
              exact ⟨hne, h1, h2⟩
          · have hm := (hU i).2 ⟨hin, hl⟩
            have := List.length_pos_of_mem hm
            rw [List.length_erase_of_mem hm]
            omega)
        unfold wpOp
        rw [ho]
        simp only
        split at hs
        · next hw => rw [if_pos hw]; exact .inl (oper_wp_to hup hs)
        · next hw => rw [if_neg hw]; exact hs
      · exfalso
        have hT' : tailB L n = true := hT.resolve_left (by omega)
        unfold tailB at hT'
        simp only [Bool.and_eq_true] at hT'
        obtain ⟨⟨hT1, hT2⟩, _⟩ := hT'
        by_cases hni : i = n
        · subst hni
          refine hnotall ?_
          have key : ∀ m k, i - k = m → k < i → listed.getD k true = true := by
            intro m
            induction m using Nat.strongRecOn with
            | ind m ihm =>
              intro k hm hk
              have := List.all_eq_true.1 hT1 k (List.mem_range.2 hk)
              rw [Bool.or_eq_true, hoL] at this
              rcases this with h1 | h1
              · exact hd k h1
              · obtain ⟨⟨o', k'⟩, hm', h2⟩ := List.any_eq_true.1 h1
                simp only [Bool.and_eq_true, decide_eq_true_eq] at h2
                rw [List.mem_zipIdx_iff_getElem?, ← hH] at hm'
                have hk' := (List.getElem?_eq_some_iff.1 hm').1
                exact h.closed k' o' hm' (ihm (i - k') (by omega) k' rfl (by omega)) k h2.2
          exact fun k hk => key _ k rfl hk
        · have := List.all_eq_true.1 hT2 (o, i) (by rw [List.mem_zipIdx_iff_getElem?]; exact hoL)
          simp only [Bool.or_eq_true, decide_eq_true_eq] at this
          rcases this with h1 | h1
          · omega
          · have h2 := hd _ h1
            rw [h.tail (i - 1) (by omega) (by omega)] at h2
            cases h2
/-- THE LAW: n operations in whatever order, walked in the list's order; the rest behind them. -/
theorem wp_region_walkU {id : Nat} {Q : Exit → Act → World → Prop} (n : Nat) (M : List (Nat × Yld)) (hm : P.follows .mixedOrders = true) (hB : walkB L n a0.tmps.size = true) (hup : ∀ x a w, Ups Up a0.defers w0 x a w → Q x a w)
    (h : walk P Up L M w0 (fun a => ∀ w, Below w0.heap.size w0 w → Facts L (L.take n) M a w → wpList P L.toArray Q (L.drop n) a w) 0 (L.take n) a0) : (Code.region id L.toArray true).wp P Q a0 w0 := by
  unfold walkB at hB
  simp only [Bool.and_eq_true, Bool.or_eq_true, decide_eq_true_eq] at hB
  obtain ⟨⟨⟨hn, hP⟩, hR⟩, hT⟩ := hB
  refine wp_region_any hm ?_
  have hf : ∀ i, i < L.length → (Array.replicate L.toArray.size false).getD i true = false := fun i hi => by
    rw [Array.getD_eq_getD_getElem?, Array.getElem?_eq_getElem (by simpa using hi)]
    simp
  have hHl : (L.take n).length = n := by simp; omega
  obtain ⟨u, hu⟩ := path_exists (a0 := a0) (fun _ S => S.inh) h
  refine wpAny_walk (w0 := w0) rfl hn hP hR hT h hup (fun a w hE hb hF => hE w hb hF) _ (List.range n) _ _ _ List.nodup_range (fun i => ?_) (by simp; omega) ?_
  · rw [List.mem_range]
    exact ⟨fun hi => ⟨hi, hf i (by omega)⟩, fun hi => hi.1⟩
  · refine ⟨by simp, fun t _ ht => hf t ht, ⟨rfl, rfl, rfl, Nat.le_refl _, fun _ _ => rfl⟩, rfl, rfl, fun t _ => rfl, fun i o ho hl => ?_, _, u, hu, fun i o d ho hl => ?_, fun j oj S hj => ?_⟩
    · have := (List.getElem?_eq_some_iff.1 ho).1
      rw [hf i (by omega)] at hl; cases hl
    · have := (List.getElem?_eq_some_iff.1 ho).1
      rw [hf i (by omega)] at hl; cases hl
    · have := hj.2
      rw [hf j (by omega)] at this; cases this
/-- The same where nothing goes up. -/
theorem wp_region_walk {id : Nat} {Q : Exit → Act → World → Prop} (n : Nat) (M : List (Nat × Yld)) (hm : P.follows .mixedOrders = true) (hB : walkB L n a0.tmps.size = true)
    (h : walk P NoUp L M w0 (fun a => ∀ w, Below w0.heap.size w0 w → Facts L (L.take n) M a w → wpList P L.toArray Q (L.drop n) a w) 0 (L.take n) a0) : (Code.region id L.toArray true).wp P Q a0 w0 :=
  wp_region_walkU n M hm hB (fun _ _ _ hq => (hq.1 : False).elim) h
end
end Go.Fd
namespace Go.Fd
open Go.RowKit
/-- An operation that comes to a value, if it comes to anything. -/
def valB (o : Oper) : Bool :=
  match o.op with
  | .move _ | .assign _ | .pick _ _ _ | .alloc _ | .box _ _ | .build _ _ | .buildSlice _ _ _ | .load _ _ | .binOp _ _ _ _ _ | .unOp _ _ _ | .convert _ _ _ | .makeInterface _ _ | .makeFunc _ _ _ | .makeSlice _ _ _ | .makeMap _ _ | .slice _ _ _ _ _ | .fieldAddr _ _ _ | .field _ _ _ | .indexAddr _ _ _ | .index _ _ _ | .lookup _ _ _ _ | .extract _ _ | .typeAssert _ _ _ _ => true
  | .call c => (match c.callee with | .builtin .len => true | .builtin .cap => true | .builtin .min => true | .builtin .max => true | .builtin .append => true | .builtin .copy => true | _ => false)
  | _ => false
theorem run_v {P : Program} {s : Sem Value} {w w' : World} {n : Next} (h : (do pure (.value (← s)) : Sem Next).run P w = .ok n w') : ∃ v, n = .value v := by
  rw [Sem.run_bind] at h
  cases hs : s.run P w with
  | ok v w1 =>
    rw [hs, Result.andThen_ok] at h
    have : (pure (Next.value v) : Sem Next).run P w1 = .ok (.value v) w1 := rfl
    rw [this] at h
    cases h
    exact ⟨v, rfl⟩
  | halt x w1 =>
    rw [hs, Result.andThen_halt] at h
    cases h
theorem valB_spec {P : Program} {o : Oper} (h : valB o = true) {ρ : Operand → Value} {w w' : World} {n : Next} (hr : (execOp ρ o).run P w = .ok n w') : ∃ v, n = .value v := by
  obtain ⟨dst, op, type, pos, after, guard⟩ := o
  cases op <;> simp only [valB] at h <;> simp only [execOp] at hr
  case move x => exact run_v (s := pure (ρ x)) hr
  case assign x => exact run_v (s := pure (ρ x)) hr
  case call c =>
    obtain ⟨callee, args, ats⟩ := c
    cases callee with
    | value f => cases h
    | invoke r m => cases h
    | builtin b =>
      cases b <;> simp only at h <;> first | (cases h; done) | exact run_v hr
  case pick c x y =>
    rw [Sem.run_bind] at hr
    cases hs : (asBool (ρ c)).run P w with
    | ok v w1 =>
      rw [hs, Result.andThen_ok] at hr
      have : (pure (Next.value (if v = true then ρ x else ρ y)) : Sem Next).run P w1 = .ok (.value (if v = true then ρ x else ρ y)) w1 := rfl
      exact ⟨(if v = true then ρ x else ρ y), by
        rw [show (pure (Next.value (if v = true then ρ x else ρ y)) : Sem Next).run P w1 = .ok (.value (if v = true then ρ x else ρ y)) w1 from rfl] at hr
        cases hr; rfl⟩
    | halt x w1 =>
      rw [hs, Result.andThen_halt] at hr
      cases hr
  all_goals first | (cases h; done) | exact run_v hr
section
variable {P : Program} {Up : Exit → Prop} {L r : List Oper} {M : List (Nat × Yld)} {a : Act} {w0 : World} {E : Act → Prop} {i : Nat} {o : Oper}
theorem Above.cell (x : Above w0) (b k : Nat) (h : b < w0.heap.size) : x.w.cell? ⟨b, k, none⟩ = w0.cell? ⟨b, k, none⟩ := x.h.cell (p := ⟨b, k, none⟩) h
theorem walk_skip (hw : Region.wanted o (yielded L.toArray a.tmps) = false) (h : walk P Up L M w0 E (i + 1) r (a.put o.dst undef)) : walk P Up L M w0 E i (o :: r) a := by
  rw [walk, if_neg (by rw [hw]; exact Bool.false_ne_true)]
  exact h
theorem walk_val {v : Value} (hw : Region.wanted o (yielded L.toArray a.tmps) = true) (hM : madeAt M i = none) (h : ∀ w, Below w0.heap.size w0 w → Deps L M a o w → (execOp a.eval o).run P w = .ok (.value v) w) (hn : walk P Up L M w0 E (i + 1) r (a.put o.dst v)) : walk P Up L M w0 E i (o :: r) a := by
  rw [walk, if_pos hw, hM]
  exact ⟨v, h, hn⟩
theorem walk_made {S : Yld} (hw : Region.wanted o (yielded L.toArray a.tmps) = true) (hM : madeAt M i = some S) (h : ∀ w, Below w0.heap.size w0 w → Deps L M a o w → WpYld P Up o a S w) (hn : ∀ x, walk P Up L M w0 E (i + 1) r (a.put o.dst (S.shape x))) : walk P Up L M w0 E i (o :: r) a := by
  rw [walk, if_pos hw, hM]
  exact ⟨h, hn⟩
/-- An operation that is run by the walk's own rules. -/
theorem walk_quiet (hw : Region.wanted o (yielded L.toArray a.tmps) = true) (hM : madeAt M i = none) (hv : valB o = true) (h : ∀ K : Act → Prop, (∀ a, walk P Up L M w0 E (i + 1) r a → K a) → o.quiet P a (fun w => ∃ x : Above w0, w = x.w) K) : walk P Up L M w0 E i (o :: r) a := by
  obtain ⟨v, h1, h2⟩ := h (walk P Up L M w0 E (i + 1) r) (fun _ h => h)
  refine walk_val hw hM (fun w hb _ => ?_) h2
  have := h1 w ⟨⟨w, hb⟩, rfl⟩
  unfold Oper.quietAt at this
  generalize hr : (execOp a.eval o).run P w = res at this
  cases res with
  | halt x w' => exact this.elim
  | ok n w' =>
    obtain ⟨u, rfl⟩ := valB_spec hv hr
    obtain ⟨rfl, rfl⟩ := (this : w' = w ∧ u = v)
    rfl
theorem walk_nil (h : E a) : walk P Up L M w0 E i [] a := h
theorem WpYld.val {S : Yld} {v : Value} {w w' : World} (hr : (execOp a.eval o).run P w = .ok (.value v) w') (hR : S.R v w') (hb : Below w.heap.size w w') : WpYld P Up o a S w := by
  unfold WpYld Oper.wp Oper.upon
  rw [hr]
  exact ⟨v, rfl, hR, hb⟩
theorem WpYld.call {S : Yld} {f : FuncId} {args : Array Value} {w : World} (hr : (execOp a.eval o).run P w = .ok (.enter f args) w) (h : Calls P f args w fun e w' => ∃ v, e = .returned v ∧ S.R v w' ∧ Below w.heap.size w w') : WpYld P Up o a S w := by
  unfold WpYld Oper.wp Oper.upon
  rw [hr]
  refine h.mono fun e w' ⟨v, he, hv, hb⟩ => ?_
  subst he
  exact ⟨v, rfl, hv, hb⟩
/-- A call that returns, or goes up. -/
theorem WpYld.callUp {S : Yld} {f : FuncId} {args : Array Value} {w : World} (hr : (execOp a.eval o).run P w = .ok (.enter f args) w) (h : Calls P f args w fun e w' => (∃ v, e = .returned v ∧ S.R v w' ∧ Below w.heap.size w w') ∨ (∃ c, e = .panicked c ∧ Up (.panic c) ∧ Below w.heap.size w w')) : WpYld P Up o a S w := by
  unfold WpYld Oper.wp Oper.upon
  rw [hr]
  refine h.mono fun e w' he => ?_
  rcases he with ⟨v, he, hv, hb⟩ | ⟨c, he, hv, hb⟩
  · subst he
    exact ⟨v, rfl, hv, hb⟩
  · subst he
    exact ⟨hv, rfl, hb⟩
end
theorem run_callL {P : Program} {a : Act} {w : World} {d : Option Tmp} {ty : TypeId} {pos : String} {aft : Array Edge} {g : Option (Nat × Bool)} {f : FuncId} {fn : Func} {xs : List Operand} {ts : Array TypeId} {vals : List Value} (hf : P.funcs[f]? = some fn) (hn : (fn.name == "runtime.NumGoroutine") = false) {c : Code} (hb : fn.body = some c) (hx : xs.map a.eval = vals) :
    (execOp a.eval ⟨d, .call { callee := .value (.func f), args := xs.toArray, argTypes := ts }, ty, pos, aft, g⟩).run P w = .ok (.enter f vals.toArray) w :=
  run_call hf hn hb (by rw [List.map_toArray, hx])
theorem WpYld.callIs {P : Program} {Up : Exit → Prop} {a : Act} {o : Oper} {f : FuncId} {args : Array Value} {c : Value} {w : World} (hr : (execOp a.eval o).run P w = .ok (.enter f args) w) (h : Calls P f args w fun e w' => e = .returned c ∧ w = w') : WpYld P Up o a (Yld.is c) w :=
  WpYld.call hr (h.mono fun _ _ ⟨he, hw⟩ => ⟨c, he, ⟨(), rfl, trivial⟩, hw ▸ Below.refl _ _⟩)
theorem WpYld.callIsB {P : Program} {Up : Exit → Prop} {a : Act} {o : Oper} {f : FuncId} {args : Array Value} {c : Value} {w : World} (hr : (execOp a.eval o).run P w = .ok (.enter f args) w) (h : Calls P f args w fun e w' => e = .returned c ∧ Below w.heap.size w w') : WpYld P Up o a (Yld.is c) w :=
  WpYld.call hr (h.mono fun _ _ ⟨he, hb⟩ => ⟨c, he, ⟨(), rfl, trivial⟩, hb⟩)
section
variable {P : Program} {Up : Exit → Prop} {L r : List Oper} {M : List (Nat × Yld)} {a : Act} {w0 : World} {E : Act → Prop} {i : Nat} {o : Oper}
theorem walk_is {c : Value} (hw : Region.wanted o (yielded L.toArray a.tmps) = true) (hM : madeAt M i = some (Yld.is c)) (h : ∀ w, Below w0.heap.size w0 w → Deps L M a o w → WpYld P Up o a (Yld.is c) w) (hn : walk P Up L M w0 E (i + 1) r (a.put o.dst c)) : walk P Up L M w0 E i (o :: r) a :=
  walk_made hw hM h fun _ => hn
theorem walk_any {rel : Value → World → Prop} {st} (hw : Region.wanted o (yielded L.toArray a.tmps) = true) (hM : madeAt M i = some (Yld.any rel st)) (h : ∀ w, Below w0.heap.size w0 w → Deps L M a o w → WpYld P Up o a (Yld.any rel st) w) (hn : ∀ v : Value, walk P Up L M w0 E (i + 1) r (a.put o.dst v)) : walk P Up L M w0 E i (o :: r) a :=
  walk_made hw hM h hn
end
/-- A block of memory, made in the region, of so many cells. -/
def Yld.new (B : Nat) (t : TypeId) (n : Nat) : Yld := ⟨Nat, 0, fun g => .pointer (some ⟨g, 0, none⟩), fun g w => B ≤ g ∧ ∃ cs : Array Value, w.heap[g]? = some (.cells cs t (0, 0)) ∧ cs.size = n,
  fun g w w' ⟨h1, cs, h2, h3⟩ hb => ⟨h1, cs, by rw [hb.block g (Array.getElem?_eq_some_iff.1 h2).1]; exact h2, h3⟩⟩
theorem walk_new {P : Program} {Up : Exit → Prop} {L r : List Oper} {M : List (Nat × Yld)} {a : Act} {w0 : World} {E : Act → Prop} {i : Nat} {o : Oper} {B n : Nat} {t : TypeId} (hw : Region.wanted o (yielded L.toArray a.tmps) = true) (hM : madeAt M i = some (Yld.new B t n)) (h : ∀ w, Below w0.heap.size w0 w → Deps L M a o w → WpYld P Up o a (Yld.new B t n) w) (hn : ∀ g : Nat, walk P Up L M w0 E (i + 1) r (a.put o.dst (.pointer (some ⟨g, 0, none⟩)))) : walk P Up L M w0 E i (o :: r) a :=
  walk_made hw hM h hn
theorem Yld.new_got {B n g : Nat} {t : TypeId} {w : World} (h : (Yld.new B t n).R (.pointer (some ⟨g, 0, none⟩)) w) : B ≤ g ∧ ∃ cs : Array Value, w.heap[g]? = some (.cells cs t (0, 0)) ∧ cs.size = n := by
  obtain ⟨x, e, hr⟩ := h
  have : g = x := by
    have e' : (Value.pointer (some ⟨g, 0, none⟩)) = .pointer (some ⟨x, 0, none⟩) := e
    injection e' with e'; injection e' with e'; injection e'
  subst this
  exact hr
theorem Yld.new_mk {w0 w : World} {t : TypeId} (cs : Array Value) (h : Below w0.heap.size w0 w) : (Yld.new w0.heap.size t cs.size).R (.pointer (some ⟨w.heap.size, 0, none⟩)) (w.alloc (.cells cs t)) ∧ Below w.heap.size w (w.alloc (.cells cs t)) :=
  ⟨⟨w.heap.size, rfl, h.size, cs, heap_alloc_last w _, rfl⟩, below_alloc w _⟩
theorem Yld.is_mk {c : Value} {w : World} : (Yld.is c).R c w := ⟨(), rfl, trivial⟩
section
variable {P : Program} {ops : Array Oper} {rest : List Oper} {Q : Exit → Act → World → Prop} {a : Act} {w : World}
/-- The store of a record into a block that was made. -/
theorem wpList_storeMade {d : Option Tmp} {ty t : TypeId} {pos : String} {aft : Array Edge} {p x : Operand} {c c' : Array Value} {g B : Nat} (hg : w.heap[g]? = some (.cells c t (0, 0))) (hp : a.eval p = .pointer (some ⟨g, 0, none⟩)) (hx : a.eval x = .agg c')
    (hi : (P.info? t).map (·.size) = some c'.size) (ho : c.size = c'.size) (h1 : c'.all (·.oneCell') = true) (hB : B ≤ g) (hBw : B ≤ w.heap.size)
    (h : ∀ w1, w1.heap[g]? = some (.cells c' t (0, 0)) → Below B w w1 → wpList P ops Q rest (a.put d undef) w1) :
    wpList P ops Q (⟨d, .store t p x, ty, pos, aft, none⟩ :: rest) a w := by
  unfold wpList
  rw [if_pos (by simp [Region.wanted])]
  exact .inl (wp_store_made hg hp hx hi ho h1 hB hBw h)
end
end Go.Fd
namespace Go.Proofs.YtimnbnomaajmmaaGreat
open Go.RowKit Go.Fd
set_option maxRecDepth 100000 in
theorem slice_cut {w : World} {v : Value} {l : List UInt8} (hv : Bs w v l) (a s : Nat) {z y : Int} (hz : z = (a : Int)) (hy : y = (a : Int) + s) (hin : a + s ≤ l.length) (_ : l.length ≤ 1000000000) :
    ∃ v', (∀ w', (Instr.sliceAt 22 v (some (.int .i64 z)) (some (.int .i64 y)) none).run Tryz.prog w' = .ok v' w') ∧ Bs w v' ((l.drop a).take s) := by
  subst hz hy
  obtain ⟨v', h1, h2⟩ := run_sliceB hv (i := (a : Int)) (j := (a : Int) + s) (k := .i64) (k' := .i64) (by omega) (by omega) (by omega)
  rw [show (a : Int) + s - a = (s : Int) by omega] at h2
  exact ⟨v', h1, by simpa using h2⟩
set_option maxHeartbeats 8000000 in
set_option maxRecDepth 100000 in
theorem ref5ReadRela_big (b : List UInt8) (v : Value) (w : World) (hl : b.length ≤ 24000) (hv : Bs w v b) :
    Calls Tryz.prog 40 #[v] w fun e w' => ∃ v', e = .returned (.tuple #[v', .int .i64 (relaRd b).2]) ∧ OwR 4 encRela 57 w' w.heap.size v' (relaRd b).1 ∧ Below w.heap.size w w' := by
  have HV := Lib.hid hv
  obtain ⟨ad, cap, rfl, hcap, _, _⟩ := hv.open
  obtain ⟨n, hn⟩ : ∃ n, n = b.length := ⟨_, rfl⟩
  rw [← hn] at hl hcap HV ⊢
  have HN := Lib.hid hn
  clear hv hn
  by_cases h0 : n % 24 = 0
  · obtain ⟨m, rfl⟩ : ∃ m, n = 24 * m := ⟨n / 24, by omega⟩
    have HD : Hid (b.length % 24 = 0 ∧ m = b.length / 24) := by have := HN.out; exact ⟨by omega, by omega⟩
    have hm : m ≤ 1000 := by omega
    clear h0
    go_enter Tryz.func40, Tryz.ntmps40
    go_wp2
    go_loopw [4, 5] (fun v i wr => ∃ (k : Nat) (L : List RelaM), i = .int .i64 (24 * (k : Int)) ∧ k ≤ m ∧ Hid (foldU (stepRela b) k = .ok L) ∧ Hid (OwR 4 encRela 57 wr w.heap.size v L) ∧ Hid (Below w.heap.size w wr)) (fun _ i _ => 24 * m - (intOf i).toNat)
    case atStart => exact ⟨0, [], rfl, Nat.zero_le _, rfl, OwR.nil _ _ _ _ _, Below.refl _ _⟩
    case round =>
      obtain ⟨k, L, rfl, hk, HF, HO, HB⟩ := hrel
      by_cases hlt : k < m
      · have HBS := Lib.hid (show Bs wr (.slice ad (24 * m) cap) b by have := HV.out.mono HB.out; exact this)
        obtain ⟨s0, hr0, hb0⟩ := slice_cut HBS.out (24 * k) 8 (z := 24 * (k : Int)) (y := 24 * (k : Int) + 8) (by omega) (by omega) (by have := HN.out; omega) (by have := HN.out; omega)
        have HN0 : Hid (∀ wx, Below wr.heap.size wr wx → Calls Tryz.prog 77 #[s0] wx fun e w' => e = .returned (.int .u64 (numLE ((b.drop (24 * k)).take 8))) ∧ wx = w') := fun wx hx => num_any _ _ _ (by rw [List.length_take]; omega) (Bs.mono hb0 hx)
        clear hb0
        obtain ⟨s1, hr1, hb1⟩ := slice_cut HBS.out (24 * k + 8) 4 (z := 24 * (k : Int) + 8) (y := 24 * (k : Int) + 12) (by omega) (by omega) (by have := HN.out; omega) (by have := HN.out; omega)
        have HN1 : Hid (∀ wx, Below wr.heap.size wr wx → Calls Tryz.prog 77 #[s1] wx fun e w' => e = .returned (.int .u64 (numLE ((b.drop (24 * k + 8)).take 4))) ∧ wx = w') := fun wx hx => num_any _ _ _ (by rw [List.length_take]; omega) (Bs.mono hb1 hx)
        clear hb1
        obtain ⟨s2, hr2, hb2⟩ := slice_cut HBS.out (24 * k + 12) 4 (z := 24 * (k : Int) + 12) (y := 24 * (k : Int) + 16) (by omega) (by omega) (by have := HN.out; omega) (by have := HN.out; omega)
        have HN2 : Hid (∀ wx, Below wr.heap.size wr wx → Calls Tryz.prog 77 #[s2] wx fun e w' => e = .returned (.int .u64 (numLE ((b.drop (24 * k + 12)).take 4))) ∧ wx = w') := fun wx hx => num_any _ _ _ (by rw [List.length_take]; omega) (Bs.mono hb2 hx)
        clear hb2
        obtain ⟨s3, hr3, hb3⟩ := slice_cut HBS.out (24 * k + 16) 8 (z := 24 * (k : Int) + 16) (y := 24 * (k : Int) + 24) (by omega) (by omega) (by have := HN.out; omega) (by have := HN.out; omega)
        have HN3 : Hid (∀ wx, Below wr.heap.size wr wx → Calls Tryz.prog 77 #[s3] wx fun e w' => e = .returned (.int .u64 (numLE ((b.drop (24 * k + 16)).take 8))) ∧ wx = w') := fun wx hx => num_any _ _ _ (by rw [List.length_take]; omega) (Bs.mono hb3 hx)
        clear hb3
        have HR : Hid (recR b k = ⟨numLE ((b.drop (24 * k)).take 8), numLE ((b.drop (24 * k + 8)).take 4), numLE ((b.drop (24 * k + 12)).take 4), wrap64 (numLE ((b.drop (24 * k + 16)).take 8) : Int)⟩) := rfl
        have hw1 := i64_small (numLE_cut b (24 * k + 8) 4)
        have hw2 := i64_small (numLE_cut b (24 * k + 12) 4)
        have HLL := Lib.hid (foldRela_len b k L HF.out)
        have HBs := Lib.hid HB.out.size
        generalize numLE ((b.drop (24 * k)).take 8) = n0 at *
        generalize numLE ((b.drop (24 * k + 8)).take 4) = n1 at *
        generalize numLE ((b.drop (24 * k + 12)).take 4) = n2 at *
        generalize numLE ((b.drop (24 * k + 16)).take 8) = n3 at *
        go_wp2
        refine wp_region_walk 32 [(5, .is (.int .u64 n0)), (12, .is (.int .u64 n1)), (20, .is (.int .u64 n2)), (28, .is (.int .u64 n3)), (31, .new wr.heap.size 57 4)] (by kernel_rfl) (by kernel_rfl) ?_
        simp only [List.take_succ_cons, List.take_zero, List.drop_succ_cons, List.drop_zero]
        repeat (first
          | (refine walk_quiet rfl rfl rfl ?_; intro K hK; go_big_quiet_op; go_big_quiet_on)
          | (refine walk_is rfl rfl (fun wx hwx _ => WpYld.callIs (run_callL (vals := [s0]) Tryz.func77 (by kernel_rfl) rfl rfl) (HN0.out wx hwx)) ?_; go_frame)
          | (refine walk_is rfl rfl (fun wx hwx _ => WpYld.callIs (run_callL (vals := [s1]) Tryz.func77 (by kernel_rfl) rfl rfl) (HN1.out wx hwx)) ?_; go_frame)
          | (refine walk_is rfl rfl (fun wx hwx _ => WpYld.callIs (run_callL (vals := [s2]) Tryz.func77 (by kernel_rfl) rfl rfl) (HN2.out wx hwx)) ?_; go_frame)
          | (refine walk_is rfl rfl (fun wx hwx _ => WpYld.callIs (run_callL (vals := [s3]) Tryz.func77 (by kernel_rfl) rfl rfl) (HN3.out wx hwx)) ?_; go_frame)
          | (refine walk_new rfl rfl (fun wx hwx _ => WpYld.val run_allocRela (Yld.new_mk _ hwx).1 (Yld.new_mk _ hwx).2) (fun gb => ?_); go_frame))
        refine walk_nil ?_
        intro wz hbz hF
        obtain ⟨hgB, cs, hgh, hgs⟩ := Yld.new_got (hF 31 _ 6 _ rfl rfl rfl rfl)
        refine wpList_storeMade hgh rfl rfl (by kernel_rfl) hgs (by simp [Value.oneCell']) hgB hbz.size ?_
        intro w1 hh1 hb1
        have hb1' := hbz.trans hb1
        have e0 := cell_rec hh1 0
        have e1 := cell_rec hh1 1
        have e2 := cell_rec hh1 2
        have e3 := cell_rec hh1 3
        simp only [List.getElem?_toArray, List.getElem?_cons_succ, List.getElem?_cons_zero] at e0 e1 e2 e3
        have HO1 := Lib.hid (HO.out.mono hb1')
        have HB1 := Lib.hid (HB.out.trans (hb1'.mono HB.out.size))
        clear hb1 hbz hh1 hb1' hgh hgs hF hr0 hr1 hr2 hr3 hw1 hw2
        by_cases hbad : 2147483647 < (n2 : Int)
        · have HE := Lib.hid (relaRd_err HD.out.1 (by rw [← HD.out.2]; exact hlt) HF.out (by rw [HR.out]; exact hbad))
          go_wp2
          go_ret2
          exact ⟨_, by rw [HE.out]; rfl, by rw [HE.out]; exact OwR.nil _ _ _ _ _, HB1.out⟩
        · have HE := Lib.hid (relaRd_step HF.out (by rw [HR.out]; exact hbad))
          rw [HR.out] at HE
          go_wp2_with (((with_reducible show wpList _ _ _ (⟨some 58, _, _, _, _, _⟩ :: _) _ _); go_must (refine wpList_pushR TRela HO1.out rfl rfl ⟨n0, n1, n2, wrap64 n3⟩ rfl rfl (by simp [Value.oneCell']) (by have := HLL.out; omega) (by have := HLL.out; omega) HB1.out.size ?_; intro v2 w2 hv2 _ hb2; have HO2 := Lib.hid hv2; have HB2 := Lib.hid (HB1.out.trans hb2); clear hv2 hb2 e0 e1 e2 e3)))
          go_roundw
          case rel =>
            first
              | exact ⟨k + 1, _, by go_num, by omega, HE.out, HO2.out, HB2.out⟩
              | ((repeat apply Exists.intro); exact ⟨⟨k + 1, _, by go_num, by omega, HE.out, HO2.out, HB2.out⟩, rfl⟩)
          case measure => simp [intOf] <;> omega
      · have hkm : k = m := by omega
        have HRD := Lib.hid (relaRd_ok HD.out.1 (hkm.trans HD.out.2) HF.out)
        clear HF hkm
        go_wp2
        go_ret2
        exact ⟨_, by rw [HRD.out]; rfl, by rw [HRD.out]; exact HO.out, HB.out⟩
  · have HR := Lib.hid (relaRd_form (b := b) (by rw [← HN.out]; exact h0))
    have hz : ((n : Int) % 24 == 0) = false := by simp; omega
    have hz2 : ((n : Int) % 24 != 0) = true := by simp; omega
    go_enter Tryz.func40, Tryz.ntmps40
    go_wp2
    go_ret2
    exact ⟨_, by rw [HR.out]; rfl, by rw [HR.out]; exact OwR.nil _ _ _ _ _, Below.refl _ _⟩
end Go.Proofs.YtimnbnomaajmmaaGreat
namespace Go.Fd
/-- Does no local symbol stand behind one that is not? -/
def ordB (l : List SymM) : Bool := (l.zip l.tail).all fun p => decide (p.2.bind ≠ 0) || decide (p.1.bind = 0)
/-- How many are local. -/
def locs (l : List SymM) : Nat := l.countP fun s => decide (s.bind = 0)
theorem ordB_get {l : List SymM} (h : ordB l = true) {i : Nat} {a b : SymM} (ha : l[i]? = some a) (hb : l[i + 1]? = some b) (h0 : b.bind = 0) : a.bind = 0 := by
  unfold ordB at h
  rw [List.all_eq_true] at h
  have hm : (a, b) ∈ l.zip l.tail := by
    rw [List.mem_iff_getElem?]
    refine ⟨i, ?_⟩
    rw [List.getElem?_zip_eq_some]
    exact ⟨ha, by simpa using hb⟩
  have := h _ hm
  simp only [Bool.or_eq_true, decide_eq_true_eq] at this
  rcases this with h1 | h1
  · exact absurd h0 h1
  · exact h1
theorem ordB_of {l : List SymM} (h : ∀ i a b, l[i]? = some a → l[i + 1]? = some b → b.bind = 0 → a.bind = 0) : ordB l = true := by
  unfold ordB
  rw [List.all_eq_true]
  rintro ⟨a, b⟩ hm
  obtain ⟨i, hi⟩ := List.mem_iff_getElem?.1 hm
  rw [List.getElem?_zip_eq_some] at hi
  obtain ⟨h1, h2⟩ := hi
  simp only [Bool.or_eq_true, decide_eq_true_eq]
  by_cases h0 : b.bind = 0
  · exact .inr (h i a b h1 (by simpa using h2) h0)
  · exact .inl h0
theorem ordB_take {l : List SymM} (h : ordB l = true) (k : Nat) : ordB (l.take k) = true := ordB_of fun i a b ha hb h0 => by
  rw [List.getElem?_take] at ha hb
  split at ha
  · split at hb
    · exact ordB_get h ha hb h0
    · cases hb
  · cases ha
theorem ordB_step {l : List SymM} {k : Nat} {x : SymM} (hk : l[k]? = some x) (h : ordB (l.take k) = true) (hx : x.bind ≠ 0 ∨ ∀ y, l[k - 1]? = some y → 0 < k → y.bind = 0) : ordB (l.take (k + 1)) = true := ordB_of fun i a b ha hb h0 => by
  rw [List.getElem?_take] at ha hb
  split at hb
  · by_cases hi : i + 1 < k
    · exact ordB_get (i := i) h (by rw [List.getElem?_take, if_pos (by omega)]; split at ha; exact ha; cases ha) (by rw [List.getElem?_take, if_pos hi]; exact hb) h0
    · obtain rfl : k = i + 1 := by omega
      rw [hk] at hb
      cases hb
      rcases hx with hx | hx
      · exact absurd h0 hx
      · rw [if_pos (by omega)] at ha
        exact hx a (by simpa using ha) (by omega)
  · cases hb
/-- All local ahead of a local one. -/
theorem ordB_locs {l : List SymM} {k : Nat} (h : ordB (l.take k) = true) (hk : k ≤ l.length) : locs (l.take k) = k ∨ ∃ y, l[k - 1]? = some y ∧ 0 < k ∧ y.bind ≠ 0 := by
  induction k with
  | zero => exact .inl rfl
  | succ k ih =>
    have hx : l[k]? = some l[k] := List.getElem?_eq_getElem (by omega)
    by_cases h0 : l[k].bind = 0
    · left
      have h' : ordB (l.take k) = true := by
        have := ordB_take h k
        rwa [List.take_take, Nat.min_eq_left (by omega)] at this
      rcases ih h' (by omega) with h1 | ⟨y, hy, hk0, hne⟩
      · rw [List.take_add_one, hx]
        unfold locs at h1 ⊢
        rw [List.countP_append, h1]
        simp [h0]
      · exfalso
        refine hne (ordB_get (i := k - 1) h (b := l[k]) ?_ ?_ h0)
        · rw [List.getElem?_take, if_pos (by omega)]; exact hy
        · rw [List.getElem?_take, if_pos (by omega), show k - 1 + 1 = k by omega]; exact hx
    · exact .inr ⟨_, hx, by omega, h0⟩
theorem locs_le (l : List SymM) (k : Nat) : locs (l.take k) ≤ k := by
  unfold locs
  exact Nat.le_trans List.countP_le_length (by rw [List.length_take]; omega)
theorem locs_step0 {l : List SymM} {k : Nat} {x : SymM} (hk : l[k]? = some x) (h : x.bind = 0) : locs (l.take (k + 1)) = locs (l.take k) + 1 := by
  rw [List.take_add_one, hk]; unfold locs; rw [List.countP_append]; simp [h]
theorem locs_step1 {l : List SymM} {k : Nat} {x : SymM} (hk : l[k]? = some x) (h : ¬ x.bind = 0) : locs (l.take (k + 1)) = locs (l.take k) := by
  rw [List.take_add_one, hk]; unfold locs; rw [List.countP_append]; simp [h]
/-- A local one behind one that is not. -/
theorem ordB_bad {l : List SymM} {k : Nat} {x : SymM} (hk : l[k]? = some x) (h : ordB (l.take k) = true) (h0 : x.bind = 0) (hl : locs (l.take k) ≠ k) : ordB l = false := by
  have hlt := (List.getElem?_eq_some_iff.1 hk).1
  rcases ordB_locs h (by omega) with h1 | ⟨y, hy, hk0, hne⟩
  · exact absurd h1 hl
  · rw [Bool.eq_false_iff]
    intro hb
    exact hne (ordB_get (i := k - 1) hb hy (by rw [show k - 1 + 1 = k by omega]; exact hk) h0)
theorem ordB_good {l : List SymM} {k : Nat} {x : SymM} (hk : l[k]? = some x) (h : ordB (l.take k) = true) (hl : x.bind ≠ 0 ∨ locs (l.take k) = k) : ordB (l.take (k + 1)) = true := by
  refine ordB_step hk h ?_
  rcases hl with hl | hl
  · exact .inl hl
  · refine .inr fun y hy hk0 => ?_
    have hlt := (List.getElem?_eq_some_iff.1 hk).1
    have hall : ∀ s ∈ l.take k, s.bind = 0 := by
      have : (l.take k).countP (fun s => decide (s.bind = 0)) = (l.take k).length := by rw [List.length_take, Nat.min_eq_left (by omega)]; exact hl
      rw [List.countP_eq_length] at this
      exact fun s hs => by simpa using this s hs
    exact hall y (List.mem_of_getElem? (i := k - 1) (by rw [List.getElem?_take, if_pos (by omega)]; exact hy))
end Go.Fd
namespace Go.Proofs.YtimnbnomaajmmaaGreat
open Go.RowKit Go.Fd
/-- What a symbol may not be. -/
def symBad (s : SymM) : Bool := !kindB s.bind s.typ || decide (s.sec < 0) || decide (65535 < s.sec)
theorem kindB_pos {b t : Int} (h : kindB b t = true) : 0 ≤ b ∧ b ≤ 2 ∧ 0 ≤ t ∧ t ≤ 6 := by unfold kindB at h; simp at h; omega
def infoB (s : SymM) : UInt8 := UInt8.ofNat (16 * s.bind + s.typ).toNat
def symB (p : SymM × Nat) : List UInt8 := fixed p.2 4 ++ [infoB p.1, 0] ++ fixed (u64of p.1.sec) 2 ++ fixed p.1.value 8 ++ fixed p.1.size 8
def symsB (l : List SymM) (at_ : List Nat) : List UInt8 := List.replicate 24 0 ++ (l.zip at_).flatMap symB
theorem symB_len (p : SymM × Nat) : (symB p).length = 24 := by simp [symB, length_fixed]
theorem bad_step {l : List SymM} {k : Nat} {x : SymM} (h : l[k]? = some x) (h0 : (l.take k).any symBad = false) (hb : symBad x = false) : (l.take (k + 1)).any symBad = false := by
  rw [List.take_add_one, h, List.any_append, h0]
  simp [hb]
theorem bad_yes {l : List SymM} {k : Nat} {x : SymM} (h : l[k]? = some x) (hb : symBad x = true) : l.any symBad = true := List.any_eq_true.2 ⟨x, List.mem_of_getElem? h, hb⟩
theorem bad_all {l : List SymM} {k : Nat} (h : l.length ≤ k) (h0 : (l.take k).any symBad = false) : l.any symBad = false := by rwa [List.take_of_length_le h] at h0
/-- What is written of symbols. -/
def symW (l : List SymM) : List UInt8 × List UInt8 × Nat × Int :=
  if l.any symBad = true then ([], [], 0, 1)
  else if ordB l = false then ([], [], 0, 24)
  else if (buildR (l.map (·.name))).2.2 = 0 then (symsB l (buildR (l.map (·.name))).2.1, (buildR (l.map (·.name))).1, locs l + 1, 0)
  else ([], [], 0, (buildR (l.map (·.name))).2.2)
theorem symW_bad {l : List SymM} (h : l.any symBad = true) : symW l = ([], [], 0, 1) := by unfold symW; rw [if_pos h]
theorem symW_ord {l : List SymM} (h : l.any symBad = false) (h2 : ordB l = false) : symW l = ([], [], 0, 24) := by unfold symW; rw [if_neg (by simp [h]), if_pos h2]
theorem symW_err {l : List SymM} (h : l.any symBad = false) (h2 : ordB l = true) (h3 : (buildR (l.map (·.name))).2.2 ≠ 0) : symW l = ([], [], 0, (buildR (l.map (·.name))).2.2) := by
  unfold symW; rw [if_neg (by simp [h]), if_neg (by simp [h2]), if_neg h3]
theorem symW_ok {l : List SymM} (h : l.any symBad = false) (h2 : ordB l = true) (h3 : (buildR (l.map (·.name))).2.2 = 0) : symW l = (symsB l (buildR (l.map (·.name))).2.1, (buildR (l.map (·.name))).1, locs l + 1, 0) := by
  unfold symW; rw [if_neg (by simp [h]), if_neg (by simp [h2]), if_pos h3]
theorem zip_step {α β : Type} {l : List α} {m : List β} {k : Nat} {x : α} {y : β} (hx : l[k]? = some x) (hy : m[k]? = some y) : (l.zip m).take (k + 1) = (l.zip m).take k ++ [(x, y)] := by
  rw [List.take_add_one]
  congr 1
  rw [show (l.zip m)[k]? = some (x, y) by rw [List.getElem?_zip_eq_some]; exact ⟨hx, hy⟩]
  rfl
end Go.Proofs.YtimnbnomaajmmaaGreat
namespace Go.Proofs.YtimnbnomaajmmaaGreat
open Go.RowKit Go.Fd
def ordR (l : List SymM) : Nat × Bool := if ordB l = true then (locs l, true) else (0, false)
theorem ordR_bad {l : List SymM} (h : ordB l = false) : ordR l = (0, false) := by unfold ordR; rw [if_neg (by simp [h])]
theorem ordR_ok {l : List SymM} (h : ordB l = true) : ordR l = (locs l, true) := by unfold ordR; rw [if_pos h]
set_option maxHeartbeats 1000000 in
set_option maxRecDepth 100000 in
theorem ordered_any (l : List SymM) (v : Value) (w : World) (hl : l.length ≤ 1000000) (hv : RdR 6 encSym w v l) :
    Calls Tryz.prog 48 #[v] w fun e w' => e = .returned (.tuple #[.int .i64 ((ordR l).1 : Nat), .bool (ordR l).2]) ∧ Below w.heap.size w w' := by
  obtain ⟨a, ca, rfl, hca, -, hc⟩ := hv.open (fun _ => rfl)
  have HC := Lib.hid hc
  obtain ⟨nl, hnl⟩ : ∃ n, n = l.length := ⟨_, rfl⟩
  rw [← hnl] at hl hca ⊢
  have HL := Lib.hid hnl
  clear hc hv hnl
  go_enter Tryz.func48, Tryz.ntmps48
  go_wp2
  go_loopw [4, 9] (fun c i wr => ∃ k n : Nat, i = .int .i64 k ∧ c = .int .i64 n ∧ k ≤ nl ∧ n ≤ k ∧ Hid (n = locs (l.take k)) ∧ Hid (ordB (l.take k) = true) ∧ Hid (Below w.heap.size w wr)) (fun _ i _ => nl - (intOf i).toNat)
  case atStart => exact ⟨0, 0, rfl, rfl, Nat.zero_le _, Nat.le_refl _, rfl, by simp [Hid, ordB], Below.refl _ _⟩
  case round =>
    obtain ⟨k, n, rfl, rfl, hk, hnk, HN, HT, HB⟩ := hrel
    by_cases hlt : k < nl
    · have X1 := Lib.hid (show l[k]? = some (l[k]'(by have := HL.out; omega)) from List.getElem?_eq_getElem _)
      generalize l[k]'(by have := HL.out; omega) = x at *
      obtain ⟨b1, o1, ha, hc1⟩ := HC.out k x X1.out (by decide)
      subst ha
      have hd1 : ∀ c v, (encSym x)[c]? = some v → wr.cell? ⟨b1, o1 + k * 6 + c, none⟩ = some v := fun c v h => by
        have h6 : c < 6 := (List.getElem?_eq_some_iff.1 h).1
        have := (hc1 c h6).trans h
        rw [← Nat.add_assoc] at this
        exact (HB.out.cell (block_lt this)).trans this
      have c10 := hd1 0 _ rfl
      have c11 := hd1 1 _ rfl
      have c12 := hd1 2 _ rfl
      have c13 := hd1 3 _ rfl
      have c14 := hd1 4 _ rfl
      have c15 := hd1 5 _ rfl
      rw [Nat.add_zero] at c10
      clear hc1 hd1
      by_cases h0 : x.bind = 0
      · by_cases hn : n = k
        · have G1 := Lib.hid (locs_step0 X1.out h0)
          have G2 := Lib.hid (ordB_good X1.out HT.out (.inr (by rw [← HN.out]; exact hn)))
          have G3 : Hid (k + 1 = locs (l.take (k + 1))) := by rw [G1.out, ← HN.out, hn]; rfl
          have hz : (x.bind == 0) = true := by simp [h0]
          have H0 := Lib.hid h0
          clear h0 HN
          subst hn
          have hz2 : ((n : Int) + 1 != (n : Int) + 1) = false := by simp
          go_wp2_with (((with_reducible show wpList _ _ _ (⟨none, .store _ _ _, _, _, _, _⟩ :: _) _ _); go_must (refine wpList_storeNew rfl rfl (by kernel_rfl) rfl (by simp [Value.oneCell']) ?_; intro w1 hh1 hb1; have e1 := cell_rec hh1 1; simp only [List.getElem?_toArray, List.getElem?_cons_succ, List.getElem?_cons_zero] at e1)))
          have HB1 := Lib.hid (HB.out.trans (hb1.mono HB.out.size))
          clear hh1 hb1 e1
          go_roundw
          case rel =>
            first
              | exact ⟨n + 1, n + 1, by go_num, by go_num, by omega, by omega, G3.out, G2.out, HB1.out⟩
              | ((repeat apply Exists.intro); exact ⟨⟨n + 1, n + 1, by go_num, by go_num, by omega, by omega, G3.out, G2.out, HB1.out⟩, rfl⟩)
          case measure => simp [intOf] <;> omega
        · have HR := Lib.hid (ordR_bad (ordB_bad X1.out HT.out h0 (by rw [← HN.out]; exact hn)))
          have hz : (x.bind == 0) = true := by simp [h0]
          have hz2 : ((n : Int) + 1 != (k : Int) + 1) = true := by simp; omega
          have H0 := Lib.hid h0
          clear h0 HN
          go_wp2_with (((with_reducible show wpList _ _ _ (⟨none, .store _ _ _, _, _, _, _⟩ :: _) _ _); go_must (refine wpList_storeNew rfl rfl (by kernel_rfl) rfl (by simp [Value.oneCell']) ?_; intro w1 hh1 hb1; have e1 := cell_rec hh1 1; simp only [List.getElem?_toArray, List.getElem?_cons_succ, List.getElem?_cons_zero] at e1)))
          go_ret2
          exact ⟨by rw [HR.out]; rfl, HB.out.trans (hb1.mono HB.out.size)⟩
      · have G1 := Lib.hid (locs_step1 X1.out h0)
        have G2 := Lib.hid (ordB_good X1.out HT.out (.inl h0))
        have G3 : Hid (n = locs (l.take (k + 1))) := by rw [G1.out, ← HN.out]; rfl
        have hz : (x.bind == 0) = false := by simpa using h0
        have H0 := Lib.hid h0
        clear h0
        go_wp2_with (((with_reducible show wpList _ _ _ (⟨none, .store _ _ _, _, _, _, _⟩ :: _) _ _); go_must (refine wpList_storeNew rfl rfl (by kernel_rfl) rfl (by simp [Value.oneCell']) ?_; intro w1 hh1 hb1; have e1 := cell_rec hh1 1; simp only [List.getElem?_toArray, List.getElem?_cons_succ, List.getElem?_cons_zero] at e1)))
        have HB1 := Lib.hid (HB.out.trans (hb1.mono HB.out.size))
        clear hh1 hb1 e1
        go_roundw
        case rel =>
          first
            | exact ⟨k + 1, n, by go_num, rfl, by omega, by omega, G3.out, G2.out, HB1.out⟩
            | ((repeat apply Exists.intro); exact ⟨⟨k + 1, n, by go_num, rfl, by omega, by omega, G3.out, G2.out, HB1.out⟩, rfl⟩)
        case measure => simp [intOf] <;> omega
    · have hkn : l.length ≤ k := by have := HL.out; omega
      have HR : Hid (ordR l = (n, true)) := by
        have h1 := HT.out
        have h2 := HN.out
        rw [List.take_of_length_le hkn] at h1 h2
        rw [ordR_ok h1, h2]; rfl
      clear HT HN hkn
      go_wp2
      go_ret2
      exact ⟨by rw [HR.out]; rfl, HB.out⟩
end Go.Proofs.YtimnbnomaajmmaaGreat
namespace Go.Proofs.YtimnbnomaajmmaaGreat
open Go.RowKit Go.Fd
/-- At a place lies a name with a 0 behind. -/
def InTab (T : List UInt8) (p : Nat) (s : List UInt8) : Prop := ∃ a b, T = a ++ (s ++ 0 :: b) ∧ a.length = p
theorem InTab.app {T : List UInt8} {p : Nat} {s : List UInt8} (h : InTab T p s) (x : List UInt8) : InTab (T ++ x) p s := by
  obtain ⟨a, b, rfl, hp⟩ := h
  exact ⟨a, b ++ x, by simp, hp⟩
theorem InTab.lt {T : List UInt8} {p : Nat} {s : List UInt8} (h : InTab T p s) : p + s.length < T.length := by
  obtain ⟨a, b, rfl, hp⟩ := h
  simp; omega
theorem InTab.drop {T : List UInt8} {p : Nat} {s : List UInt8} (h : InTab T p s) : ∃ b, T.drop p = s ++ 0 :: b := by
  obtain ⟨a, b, rfl, rfl⟩ := h
  exact ⟨b, by simp⟩
theorem upto0_name (s b : List UInt8) (h : (0 : UInt8) ∉ s) : upto0 (s ++ 0 :: b) = some s := by
  induction s with
  | nil => simp [upto0]
  | cons c s ih =>
    simp only [List.mem_cons, not_or] at h
    rw [List.cons_append, upto0, if_neg (fun e => h.1 e.symm), ih h.2]
    rfl
theorem InTab.upto {T : List UInt8} {p : Nat} {s : List UInt8} (h : InTab T p s) (h0 : (0 : UInt8) ∉ s) : upto0 (T.drop p) = some s := by
  obtain ⟨b, hb⟩ := h.drop
  rw [hb, upto0_name s b h0]
theorem mayS_no0 {s : List UInt8} (h : mayS s = true) : (0 : UInt8) ∉ s := by unfold mayS at h; simp at h; exact h.2
theorem build_in (names : List (List UInt8)) : ∀ s p, lkp (buildT names).at_ s = some p → InTab (buildT names).tab p s := by
  refine snoc_ind (P := fun names => ∀ s p, lkp (buildT names).at_ s = some p → InTab (buildT names).tab p s) ?_ (fun names x ih => ?_) names
  · intro s p h
    have h' : lkp [(([] : List UInt8), 0)] s = some p := h
    rw [lkp_cons] at h'
    by_cases e : s = []
    · rw [if_pos e] at h'
      cases h'
      subst e
      exact ⟨[], [], rfl, rfl⟩
    · rw [if_neg e] at h'
      exact absurd h' (by simp [lkp])
  · intro s p h
    rw [buildT_snoc] at h ⊢
    rw [step_at] at h
    unfold stepB
    cases hx : lkp (buildT names).at_ x with
    | some q =>
      rw [hx] at h
      by_cases e : s = x
      · rw [if_pos e] at h
        cases h
        subst e
        exact ih s _ hx
      · rw [if_neg e] at h
        exact ih s p h
    | none =>
      rw [hx] at h
      by_cases e : s = x
      · rw [if_pos e] at h
        cases h
        subst e
        exact ⟨(buildT names).tab, [], by simp, rfl⟩
      · rw [if_neg e] at h
        have := ((ih s p h).app x).app [0]
        exact this
theorem at_place {T : List UInt8} {p : Nat} {s : List UInt8} (h : InTab T p s) (hs : mayS s = true) : atR T p = (s, 0) := by
  unfold atR
  have hl := h.lt
  rw [if_neg (by omega), Int.toNat_natCast, h.upto (mayS_no0 hs)]
  have := mayS_len hs
  simp
  omega
/-- What is known where a table was built. -/
theorem build_ok {names : List (List UInt8)} (h : (buildR names).2.2 = 0) : names.all mayS = true ∧ buildR names = ((buildT names).tab, (buildT names).out, 0) := by
  unfold buildR at h ⊢
  by_cases h1 : names.all mayS = true
  · rw [if_pos h1] at h ⊢
    by_cases h2 : 1048576 < (buildT names).tab.length
    · rw [if_pos h2] at h
      simp at h
    · rw [if_neg h2]
      exact ⟨h1, rfl⟩
  · rw [if_neg h1] at h
    simp at h
/-- At each name: its place. -/
theorem build_at {names : List (List UInt8)} (h : names.all mayS = true) {i : Nat} {s : List UInt8} (hi : names[i]? = some s) : ∃ p, (buildT names).out[i]? = some p ∧ lkp (buildT names).at_ s = some p ∧ InTab (buildT names).tab p s ∧ mayS s = true := by
  have hp := build_places names
  have hlt : i < names.length := (List.getElem?_eq_some_iff.1 hi).1
  have ho : (buildT names).out[i]? = some ((buildT names).out[i]'(by rw [hp.1]; exact hlt)) := List.getElem?_eq_getElem _
  have hl := hp.2.1 i s _ hi ho
  exact ⟨_, ho, hl, build_in names s _ hl, List.all_eq_true.1 h s (List.mem_of_getElem? hi)⟩
end Go.Proofs.YtimnbnomaajmmaaGreat
namespace Go.Proofs.YtimnbnomaajmmaaGreat
open Go.RowKit Go.Fd
theorem TTexts : SliceT Tryz.prog 44 9 1 16 := SliceT.mk' (z := .string ⟨#[]⟩) (by kernel_rfl) (by kernel_rfl) rfl (by omega)
theorem ats_ok {names : List (List UInt8)} (h : (buildR names).2.2 = 0) (hl : names.length ≤ 1000) : (buildR names).2.1.length = names.length ∧ ∀ p ∈ (buildR names).2.1, p ≤ 130000 := by
  obtain ⟨h1, h2⟩ := build_ok h
  rw [List.all_eq_true] at h1
  have h3 := buildT_len names fun s hs => by have := h1 s hs; unfold mayS at this; simp at this; exact this.1
  have h4 := (build_bound names).1
  rw [h2]
  exact ⟨h3.2.1, fun p hp => by have := h4 p hp; have := h3.1; omega⟩
theorem names_step {l : List SymM} {k : Nat} {x : SymM} (h : l[k]? = some x) : (l.take (k + 1)).map (·.name) = (l.take k).map (·.name) ++ [x.name] := by
  rw [List.take_add_one, h]; simp
theorem flatz_step {l : List SymM} {m : List Nat} {k : Nat} {x : SymM} {p : Nat} (hx : l[k]? = some x) (hp : m[k]? = some p) : ((l.zip m).take (k + 1)).flatMap symB = ((l.zip m).take k).flatMap symB ++ symB (x, p) := by
  rw [zip_step hx hp]; simp
theorem flatz_len (L : List (SymM × Nat)) : (L.flatMap symB).length = L.length * 24 := flat_len' symB_len L
theorem shl4_run {w : World} {x y : Operand} {b : Int} (h0 : 0 ≤ b) (h2 : b ≤ 2) : (do eqGuard .shl 3 x y (.int .i64 b) (.int .u64 4); binOp .shl 3 (.int .i64 b) (.int .u64 4) : Sem Value).run Tryz.prog w = .ok (.int .i64 (16 * b)) w := by
  obtain rfl | rfl | rfl : b = 0 ∨ b = 1 ∨ b = 2 := by omega
  all_goals kernel_rfl
theorem or_run {w : World} {x y : Operand} {b t : Int} (h0 : 0 ≤ b) (h2 : b ≤ 2) (h3 : 0 ≤ t) (h4 : t ≤ 6) : (do eqGuard .or 3 x y (.int .i64 (16 * b)) (.int .i64 t); binOp .or 3 (.int .i64 (16 * b)) (.int .i64 t) : Sem Value).run Tryz.prog w = .ok (.int .i64 (16 * b + t)) w := by
  obtain rfl | rfl | rfl : b = 0 ∨ b = 1 ∨ b = 2 := by omega
  all_goals
    obtain rfl | rfl | rfl | rfl | rfl | rfl | rfl : t = 0 ∨ t = 1 ∨ t = 2 ∨ t = 3 ∨ t = 4 ∨ t = 5 ∨ t = 6 := by omega
    all_goals kernel_rfl
theorem info_u8 {s : SymM} (h0 : 0 ≤ s.bind) (h2 : s.bind ≤ 2) (h3 : 0 ≤ s.typ) (h4 : s.typ ≤ 6) : 16 * s.bind + s.typ = ((infoB s).toNat : Int) := by
  unfold infoB
  rw [u8_of]
  omega
/-- 'append(v, c1, c2, ..)', bytes written out. -/
theorem wpList_pushLit {ops : Array Oper} {rest : List Oper} {Q : Exit → Act → World → Prop} {a : Act} {w : World} {d : Option Tmp} {ty : TypeId} {pos : String} {aft : Array Edge} {s x : Operand} {v : Value} {base : Nat} {l : List UInt8} (hown : OB w base v l) (m : List UInt8) {n : Nat} {cs : Array Value}
    (hs : a.eval s = v) (hx : a.eval x = .slice (some ⟨w.heap.size, 0, none⟩) n n) (hcs : cs = (m.map B).toArray) (hm : n = m.length) (hn : l.length + m.length ≤ 140737488355328) (hb : base ≤ w.heap.size)
    (h : ∀ v' w', OB w' base v' (l ++ m) → Keeps 5 w w' → Below base w w' → wpList Tryz.prog ops Q rest (a.put d v') w') :
    wpList Tryz.prog ops Q (⟨d, .call { callee := .builtin .append, args := #[s, x], argTypes := #[22, 22] }, ty, pos, aft, none⟩ :: rest) a (w.alloc (.cells cs 5)) := by
  have h1 := hown.mono (below_alloc w (.cells cs 5))
  refine wpList_catB h1 (bs_lit w m cs n hcs hm) hs hx hn (by simp; omega) fun v' w' h2 h3 h4 => h v' w' h2 ((keeps_below (below_alloc w _)).trans (keeps_own h1 h3)) ((below_alloc w _).mono hb |>.trans h4)
set_option maxHeartbeats 4000000 in
set_option maxRecDepth 100000 in
theorem symsWrite_any (l : List SymM) (v : Value) (w : World) (hl : l.length ≤ 1000) (hwf : ∀ s ∈ l, s.value < 18446744073709551616 ∧ s.size < 18446744073709551616) (hv : RdR 6 encSym w v l) :
    Calls Tryz.prog 23 #[v] w fun e w' => ∃ v1 v2, e = .returned (.tuple #[v1, v2, .int .i64 ((symW l).2.2.1 : Nat), .int .i64 (symW l).2.2.2]) ∧ OB w' w.heap.size v1 (symW l).1 ∧ OB w' w.heap.size v2 (symW l).2.1 ∧ Below w.heap.size w w' ∧ (∀ k, v1.ownBlock = some k → v2.ownBlock ≠ some k) := by
  obtain ⟨a, ca, rfl, hca, -, hc⟩ := hv.open (fun _ => rfl)
  have HV := Lib.hid hv
  have HC := Lib.hid hc
  have HWF := Lib.hid hwf
  obtain ⟨nl, hnl⟩ : ∃ n, n = l.length := ⟨_, rfl⟩
  rw [← hnl] at hl hca HV ⊢
  have HL := Lib.hid hnl
  clear hc hv hnl hwf
  go_enter Tryz.func23, Tryz.ntmps23
  go_wp2
  go_loopw [6, 16] (fun tx i wr => ∃ k : Nat, i = .int .i64 k ∧ k ≤ nl ∧ Hid ((l.take k).any symBad = false) ∧ Hid (Ow S 9 wr w.heap.size tx ((l.take k).map (·.name))) ∧ Hid (Below w.heap.size w wr)) (fun _ i _ => nl - (intOf i).toNat)
  case atStart => exact ⟨0, rfl, Nat.zero_le _, by simp [Hid], Ow.nil _ _ _ _, Below.refl _ _⟩
  case round =>
    obtain ⟨k, rfl, hk, HT, HO, HB⟩ := hrel
    by_cases hlt : k < nl
    · have X1 := Lib.hid (show l[k]? = some (l[k]'(by have := HL.out; omega)) from List.getElem?_eq_getElem _)
      generalize l[k]'(by have := HL.out; omega) = x at *
      obtain ⟨b1, o1, ha, hc1⟩ := HC.out k x X1.out (by decide)
      subst ha
      have hd1 : ∀ c v, (encSym x)[c]? = some v → wr.cell? ⟨b1, o1 + k * 6 + c, none⟩ = some v := fun c v h => by
        have h6 : c < 6 := (List.getElem?_eq_some_iff.1 h).1
        have := (hc1 c h6).trans h
        rw [← Nat.add_assoc] at this
        exact (HB.out.cell (block_lt this)).trans this
      have c10 := hd1 0 _ rfl
      have c11 := hd1 1 _ rfl
      have c12 := hd1 2 _ rfl
      have c13 := hd1 3 _ rfl
      have c14 := hd1 4 _ rfl
      have c15 := hd1 5 _ rfl
      rw [Nat.add_zero] at c10
      clear hc1 hd1
      have HNS := Lib.hid (names_step X1.out)
      have HTL := Lib.hid (show ((l.take k).map (·.name)).length ≤ 1000 by rw [List.length_map, List.length_take]; omega)
      have hbs := HB.out.size
      have KC := Lib.hid (fun w => kind_any x.bind x.typ w)
      cases hb : symBad x with
      | true =>
        have HR := Lib.hid (symW_bad (bad_yes X1.out hb))
        have HBAD := Lib.hid hb
        clear hb
        cases hk1 : kindB x.bind x.typ with
        | false =>
          rw [hk1] at KC
          have HK1 := Lib.hid hk1
          clear hk1
          go_wp2_with (first
            | ((with_reducible show wpList _ _ _ (⟨none, .store _ _ _, _, _, _, _⟩ :: _) _ _); go_must (refine wpList_storeNew rfl rfl (by kernel_rfl) rfl (by simp [Value.oneCell']) ?_; intro w1 hh1 hb1; have e1 := cell_rec hh1 1; have e2 := cell_rec hh1 2; have e3 := cell_rec hh1 3; simp only [List.getElem?_toArray, List.getElem?_cons_succ, List.getElem?_cons_zero] at e1 e2 e3))
            | (go_at_call 47; refine (KC.out _).mono ?_; rintro e w2 ⟨rfl, rfl⟩))
          refine bodyPost_ret (v := .tuple #[.slice none 0 0, .slice none 0 0, .int .i64 0, .int .i64 1]) (by simp [results, Tryz.results23, go_sem]) rfl ?_
          exact ⟨_, _, by rw [HR.out]; rfl, by rw [HR.out]; exact OB.nil _ _, by rw [HR.out]; exact OB.nil _ _, HB.out.trans (hb1.mono HB.out.size), fun k h => by cases h⟩
        | true =>
          rw [hk1] at KC
          have hsec : x.sec < 0 ∨ 65535 < x.sec := by
            have := HBAD.out
            unfold symBad at this
            simpa [hk1] using this
          have HK1 := Lib.hid hk1
          clear hk1
          rcases hsec with hsec | hsec
          all_goals
            go_wp2_with (first
              | ((with_reducible show wpList _ _ _ (⟨none, .store _ _ _, _, _, _, _⟩ :: _) _ _); go_must (refine wpList_storeNew rfl rfl (by kernel_rfl) rfl (by simp [Value.oneCell']) ?_; intro w1 hh1 hb1; have e1 := cell_rec hh1 1; have e2 := cell_rec hh1 2; have e3 := cell_rec hh1 3; simp only [List.getElem?_toArray, List.getElem?_cons_succ, List.getElem?_cons_zero] at e1 e2 e3))
              | (go_at_call 47; refine (KC.out _).mono ?_; rintro e w2 ⟨rfl, rfl⟩))
            refine bodyPost_ret (v := .tuple #[.slice none 0 0, .slice none 0 0, .int .i64 0, .int .i64 1]) (by simp [results, Tryz.results23, go_sem]) rfl ?_
            exact ⟨_, _, by rw [HR.out]; rfl, by rw [HR.out]; exact OB.nil _ _, by rw [HR.out]; exact OB.nil _ _, HB.out.trans (hb1.mono HB.out.size), fun k h => by cases h⟩
      | false =>
        have HN := Lib.hid (bad_step X1.out HT.out hb)
        have hk1 : kindB x.bind x.typ = true ∧ ¬ x.sec < 0 ∧ ¬ 65535 < x.sec := by
          unfold symBad at hb
          simp at hb
          exact ⟨hb.1.1, by omega, by omega⟩
        clear hb
        obtain ⟨hk1, hs1, hs2⟩ := hk1
        rw [hk1] at KC
        have HK1 := Lib.hid hk1
        clear hk1
        go_wp2_with (first
          | ((with_reducible show wpList _ _ _ (⟨none, .store _ _ _, _, _, _, _⟩ :: _) _ _); go_must (refine wpList_storeNew rfl rfl (by kernel_rfl) rfl (by simp [Value.oneCell']) ?_; intro w1 hh1 hb1; have e0 := cell_rec hh1 0; have e1 := cell_rec hh1 1; have e2 := cell_rec hh1 2; have e3 := cell_rec hh1 3; simp only [List.getElem?_toArray, List.getElem?_cons_succ, List.getElem?_cons_zero] at e0 e1 e2 e3; have HO1 := Lib.hid (HO.out.mono hb1); have HB1 := Lib.hid (HB.out.trans (hb1.mono HB.out.size)); clear hb1))
          | (go_at_call 47; refine (KC.out _).mono ?_; rintro e w2 ⟨rfl, rfl⟩)
          | ((with_reducible show wpList _ _ _ (⟨some 40, _, _, _, _, _⟩ :: _) _ _); go_must (refine wpList_pushE TTexts HO1.out rfl rfl x.name rfl rfl (by have := HTL.out; omega) (by omega) HB1.out.size ?_; intro v3 w3 hv3 _ hb3; have HO3 := Lib.hid (show Ow S 9 w3 w.heap.size v3 ((l.take (k + 1)).map (·.name)) by rw [HNS.out]; exact hv3); have HB3 := Lib.hid (HB1.out.trans hb3); clear hv3 hb3)))
        clear hh1 e0 e1 e2 e3
        go_roundw
        case rel =>
          first
            | exact ⟨k + 1, by go_num, by omega, HN.out, HO3.out, HB3.out⟩
            | ((repeat apply Exists.intro); exact ⟨⟨k + 1, by go_num, by omega, HN.out, HO3.out, HB3.out⟩, rfl⟩)
        case measure => simp [intOf] <;> omega
    · have hkn : l.length ≤ k := by have := HL.out; omega
      have HBF := Lib.hid (bad_all hkn HT.out)
      have HO1 : Hid (Ow S 9 wr w.heap.size u6 (l.map (·.name))) := by
        have := HO.out
        rw [List.take_of_length_le hkn] at this
        exact this
      clear HT HO hkn
      have HOC := Lib.hid (ordered_any l (.slice a nl ca) wr (by have := HL.out; omega) (HV.out.mono HB.out))
      have HLL := Lib.hid (show (l.map (·.name)).length ≤ 1000 by rw [List.length_map]; have := HL.out; omega)
      cases ho : ordB l with
      | false =>
        have HR := Lib.hid (symW_ord HBF.out ho)
        rw [ordR_bad ho] at HOC
        clear ho
        go_wp2_with fail
        refine HOC.out.mono ?_
        rintro e w1 ⟨rfl, hb1⟩
        go_wp2
        refine bodyPost_ret (v := .tuple #[.slice none 0 0, .slice none 0 0, .int .i64 0, .int .i64 24]) (by simp [results, Tryz.results23, go_sem]) rfl ?_
        exact ⟨_, _, by rw [HR.out]; rfl, by rw [HR.out]; exact OB.nil _ _, by rw [HR.out]; exact OB.nil _ _, HB.out.trans (hb1.mono HB.out.size), fun k h => by cases h⟩
      | true =>
        rw [ordR_ok ho] at HOC
        have HW1 : Hid ((buildR (l.map (·.name))).2.2 ≠ 0 → symW l = ([], [], 0, (buildR (l.map (·.name))).2.2)) := symW_err HBF.out ho
        have HW2 : Hid ((buildR (l.map (·.name))).2.2 = 0 → symW l = (symsB l (buildR (l.map (·.name))).2.1, (buildR (l.map (·.name))).1, locs l + 1, 0)) := symW_ok HBF.out ho
        have HAT : Hid ((buildR (l.map (·.name))).2.2 = 0 → (buildR (l.map (·.name))).2.1.length = (l.map (·.name)).length ∧ ∀ p ∈ (buildR (l.map (·.name))).2.1, p ≤ 130000) := fun h => ats_ok h HLL.out
        have hlocs : locs l ≤ 1000 := by have := locs_le l l.length; rw [List.take_length] at this; have := HL.out; omega
        clear ho
        go_wp2_with fail
        refine HOC.out.mono ?_
        rintro e w1 ⟨rfl, hb1⟩
        have HB1 := Lib.hid (HB.out.trans (hb1.mono HB.out.size))
        have HBU := Lib.hid (build_any (l.map (·.name)) u6 w1 (by have := HLL.out; omega) (HO1.out.rd.mono hb1))
        clear hb1
        generalize locs l = nloc at *
        generalize buildR (l.map (·.name)) = r at *
        obtain ⟨tb, ats, z⟩ := r
        go_wp2_with fail
        refine HBU.out.mono ?_
        rintro e w2 ⟨v1, v2, rfl, ob1, ow2, hb2⟩
        have OB1 := Lib.hid ob1
        have OW2 := Lib.hid ow2
        have HB2 := Lib.hid (HB1.out.trans (hb2.mono HB1.out.size))
        have HS12 := Lib.hid (HB1.out.size)
        clear ob1 ow2 hb2
        by_cases hz : z = 0
        · have HR := Lib.hid (HW2.out hz)
          have HA := Lib.hid (HAT.out hz)
          clear HW1 HW2 HAT
          subst hz
          obtain ⟨aa, cca, rfl, hmac, _, hac⟩ := (show Rd I64 w2 v2 ats from OW2.out.rd).open 0
          have hal : ats.length = nl := by have h1 := HA.out.1; rw [List.length_map] at h1; have := HL.out; omega
          rw [hal] at hmac ⊢
          have HAL := Lib.hid hal
          have HAC := Lib.hid hac
          clear hal hac HBU
          go_wp2_with (((with_reducible show wpList _ _ _ (⟨some 63, _, _, _, _, _⟩ :: _) _ _); go_must (refine wpList_makeB 24 rfl rfl rfl rfl (by omega) ?_; intro vt w3 hvt hb3)))
          have HVT := Lib.hid hvt
          have HB3 := Lib.hid hb3
          clear hvt hb3
          have HRX : Hid (symsB l ats = List.replicate 24 0 ++ ((l.zip ats).take nl).flatMap symB) := by
            unfold symsB
            rw [List.take_of_length_le (by rw [List.length_zip]; have := HL.out; omega)]
            rfl
          go_loopw [2, 66] (fun t i wr => ∃ k : Nat, i = .int .i64 k ∧ k ≤ nl ∧ Hid (OB wr w2.heap.size t (List.replicate 24 0 ++ ((l.zip ats).take k).flatMap symB)) ∧ Hid (Below w2.heap.size w2 wr)) (fun _ i _ => nl - (intOf i).toNat)
          case atStart => exact ⟨0, rfl, Nat.zero_le _, by have := HVT.out; simpa [Hid] using this, HB3.out⟩
          case round =>
            obtain ⟨k, rfl, hk, HO, HB⟩ := hrel
            by_cases hlt : k < nl
            · have X1 := Lib.hid (show l[k]? = some (l[k]'(by have := HL.out; omega)) from List.getElem?_eq_getElem _)
              generalize l[k]'(by have := HL.out; omega) = x at *
              have X2 := Lib.hid (show ats[k]? = some (ats[k]'(by have := HAL.out; omega)) from List.getElem?_eq_getElem _)
              obtain ⟨bA, oA, hA1, cA⟩ := HAC.out k (by have := HAL.out; omega)
              rw [X2.out] at cA
              generalize ats[k]'(by have := HAL.out; omega) = p at *
              have hp : p ≤ 130000 := HA.out.2 p (List.mem_of_getElem? X2.out)
              simp only [Option.getD_some] at cA
              replace cA := (HB.out.cell (block_lt cA)).trans cA
              subst hA1
              obtain ⟨b1, o1, ha, hc1⟩ := HC.out k x X1.out (by decide)
              subst ha
              have hd1 : ∀ c v, (encSym x)[c]? = some v → wr.cell? ⟨b1, o1 + k * 6 + c, none⟩ = some v := fun c v h => by
                have h6 : c < 6 := (List.getElem?_eq_some_iff.1 h).1
                have := (hc1 c h6).trans h
                rw [← Nat.add_assoc] at this
                have h2 := (HB2.out.cell (block_lt this)).trans this
                exact (HB.out.cell (block_lt h2)).trans h2
              have c10 := hd1 0 _ rfl
              have c11 := hd1 1 _ rfl
              have c12 := hd1 2 _ rfl
              have c13 := hd1 3 _ rfl
              have c14 := hd1 4 _ rfl
              have c15 := hd1 5 _ rfl
              rw [Nat.add_zero] at c10
              clear hc1 hd1
              have HF := Lib.hid (flatz_step X1.out X2.out)
              have HTL := Lib.hid (show (List.replicate 24 (0 : UInt8) ++ ((l.zip ats).take k).flatMap symB).length ≤ 30000 by rw [List.length_append, List.length_replicate, flatz_len, List.length_take]; omega)
              have HOF := Lib.hid (HWF.out x (List.mem_of_getElem? X1.out))
              have hgood : kindB x.bind x.typ = true ∧ ¬ x.sec < 0 ∧ ¬ 65535 < x.sec := by
                have := List.any_eq_false.1 HBF.out x (List.mem_of_getElem? X1.out)
                unfold symBad at this
                simp at this
                exact ⟨this.1.1, by omega, by omega⟩
              obtain ⟨hg1, hg2, hg3⟩ := hgood
              obtain ⟨hg4, hg5, hg6, hg7⟩ := kindB_pos hg1
              have HG1 := Lib.hid hg1
              have HI := Lib.hid (info_u8 (s := x) hg4 hg5 hg6 hg7)
              have HT1 := Lib.hid (show x.sec = ((u64of x.sec : Nat) : Int) by unfold u64of; omega)
              have hbs := HB.out.size
              clear hg1
              generalize hT0 : List.replicate 24 (0 : UInt8) ++ ((l.zip ats).take k).flatMap symB = T at *
              have HE0 := Lib.hid hT0
              clear hT0
              go_wp2_with (first
                | ((with_reducible show wpList _ _ _ (⟨none, .store _ _ _, _, _, _, _⟩ :: _) _ _); go_must (refine wpList_storeNew rfl rfl (by kernel_rfl) rfl (by simp [Value.oneCell']) ?_; intro w4 hh1 hb1; have cA1 := (hb1.cell (block_lt cA)).trans cA))
                | fail)
              have HO1 := Lib.hid (HO.out.mono hb1)
              have HB4 := Lib.hid (HB.out.trans (hb1.mono HB.out.size))
              have HH1 := Lib.hid hh1
              have HCA1 := Lib.hid cA1
              clear hh1 hb1 cA1 cA c10 c11 c12 c13 c14 c15
              refine (put4_any T p u2 w4 w2.heap.size rfl (Nat.le_trans HTL.out (by decide)) (by omega) HO1.out HB4.out.size).mono ?_
              rintro e w5 ⟨v5, rfl, ho5, hb5, hk5⟩
              have HH5 := Lib.hid (hk5 _ _ _ _ (by decide) HH1.out)
              have HO5 := Lib.hid ho5
              have HB5 := Lib.hid (HB4.out.trans hb5)
              have HL5 := Lib.hid (show (T ++ fixed p 4).length ≤ 30004 by rw [List.length_append, length_fixed]; have := HTL.out; omega)
              clear ho5 hb5 hk5
              generalize hT5 : T ++ fixed p 4 = T5 at *
              have HE5 := Lib.hid hT5
              clear hT5
              have e1 := cell_rec HH5.out 1
              have e2 := cell_rec HH5.out 2
              simp only [List.getElem?_toArray, List.getElem?_cons_succ, List.getElem?_cons_zero] at e1 e2
              go_wp2_with (first
                | ((with_reducible show wpList _ _ _ (⟨some 81, _, _, _, _, _⟩ :: _) _ _); go_must (refine wpList_val rfl (run_bin rfl rfl (shl4_run hg4 hg5)) ?_))
                | ((with_reducible show wpList _ _ _ (⟨some 84, _, _, _, _, _⟩ :: _) _ _); go_must (refine wpList_val rfl (run_bin rfl rfl (or_run hg4 hg5 hg6 hg7)) ?_))
                | ((with_reducible show wpList _ _ _ (⟨some 87, _, _, _, _, _⟩ :: _) _ _); go_must (refine wpList_pushLit HO5.out [infoB x, 0] rfl rfl (by rw [HI.out]; rfl) rfl (by have := HL5.out; simp; omega) HB5.out.size ?_; intro v6 w6 ho6 hk6 hb6; have HH6 := Lib.hid (hk6 _ _ _ _ (by decide) HH5.out); have e3 := cell_rec HH6.out 3; simp only [List.getElem?_toArray, List.getElem?_cons_succ, List.getElem?_cons_zero] at e3)))
              have HO6 := Lib.hid ho6
              have HB6 := Lib.hid (HB5.out.trans hb6)
              have HL6 := Lib.hid (show (T5 ++ [infoB x, 0]).length ≤ 30006 by rw [List.length_append]; have := HL5.out; simp; omega)
              clear ho6 hk6 hb6 e1 e2
              generalize hT6 : T5 ++ [infoB x, 0] = T6 at *
              have HE6 := Lib.hid hT6
              clear hT6
              refine (put2_any T6 (u64of x.sec) v6 w6 w2.heap.size HT1.out (Nat.le_trans HL6.out (by decide)) (u64of_lt _) HO6.out HB6.out.size).mono ?_
              rintro e w7 ⟨v7, rfl, ho7, hb7, hk7⟩
              have HO7 := Lib.hid ho7
              have HB7 := Lib.hid (HB6.out.trans hb7)
              have HH7 := Lib.hid (hk7 _ _ _ _ (by decide) HH6.out)
              have HL7 := Lib.hid (show (T6 ++ fixed (u64of x.sec) 2).length ≤ 30008 by rw [List.length_append, length_fixed]; have := HL6.out; omega)
              clear ho7 hb7 hk7 e3
              generalize hT7 : T6 ++ fixed (u64of x.sec) 2 = T7 at *
              have HE7 := Lib.hid hT7
              clear hT7
              have f4 := cell_rec HH7.out 4
              have f5 := cell_rec HH7.out 5
              simp only [List.getElem?_toArray, List.getElem?_cons_succ, List.getElem?_cons_zero] at f4 f5
              go_wp2
              have HC4 := Lib.hid (fun w' (hO : OB w' w2.heap.size v7 T7) (hb : w2.heap.size ≤ w'.heap.size) => put8_any T7 x.value v7 w' w2.heap.size rfl (Nat.le_trans HL7.out (by decide)) HOF.out.1 hO hb)
              have HC5 := Lib.hid (fun w' v3 (hO : OB w' w2.heap.size v3 (T7 ++ fixed x.value 8)) (hb : w2.heap.size ≤ w'.heap.size) => put8_any (T7 ++ fixed x.value 8) x.size v3 w' w2.heap.size rfl (by rw [List.length_append, length_fixed]; have := HL7.out; omega) HOF.out.2 hO hb)
              go_region_with (first
                  | (go_at_call_of 46 v7; refine (HC4.out w7.drew HO7.out HB7.out.size).mono ?_; rintro e w8 ⟨v8, rfl, ho8, hb8, hk8⟩; have HH8 := Lib.hid (hk8 _ _ _ _ (by decide) HH7.out); have g4 := cell_rec HH8.out 4; have g5 := cell_rec HH8.out 5; simp only [List.getElem?_toArray, List.getElem?_cons_succ, List.getElem?_cons_zero] at g4 g5)
                  | (go_at_call_of 46 v8; refine (HC5.out w8 v8 ho8 (Nat.le_trans HB7.out.size hb8.size)).mono ?_; rintro e w9 ⟨v9, rfl, ho9, hb9, hk9⟩))
              all_goals
                have HB8 := Lib.hid (show Below w2.heap.size w7 w8 from ⟨hb8.os, hb8.tape, hb8.output, hb8.size, hb8.block⟩)
                have HB9 := Lib.hid (HB7.out.trans (HB8.out.trans hb9))
                have HO9 := Lib.hid ho9
                clear ho8 ho9 hb8 hb9 hk8 hk9 f4 f5 g4 g5 HC4 HC5
                have G1 : Hid (OB w9 w2.heap.size v9 (List.replicate 24 0 ++ ((l.zip ats).take (k + 1)).flatMap symB)) := by
                  rw [HF.out, ← List.append_assoc, HE0.out]
                  show OB w9 w2.heap.size v9 (T ++ symB (x, p))
                  have := HO9.out
                  rw [← HE7.out, ← HE6.out, ← HE5.out] at this
                  unfold symB
                  simpa [List.append_assoc] using this
                clear HO9
                go_wp2
                go_roundw
                case rel =>
                  first
                    | exact ⟨k + 1, by go_num, by omega, G1.out, HB9.out⟩
                    | ((repeat apply Exists.intro); exact ⟨⟨k + 1, by go_num, by omega, G1.out, HB9.out⟩, rfl⟩)
                case measure => simp [intOf] <;> omega
            · have hkn : k = nl := by omega
              have HAP : Hid (∀ k, u2.ownBlock = some k → v1.ownBlock ≠ some k) := fun k h1 h2 => by
                have := (World.ownsRow.lt HO.out k h1).1
                have := (World.ownsRow.lt OB1.out k h2).2
                omega
              have HE : Hid (OB wr w.heap.size u2 (symsB l ats)) := by
                have := HO.out
                rw [hkn, ← HRX.out] at this
                exact this.base HB2.out.size
              clear HO hkn
              go_wp2
              refine bodyPost_ret (v := .tuple #[u2, v1, .int .i64 ((nloc : Int) + 1), .int .i64 0]) (by simp [results, Tryz.results23, go_sem]) rfl ?_
              exact ⟨_, _, by rw [HR.out]; rfl, by rw [HR.out]; exact HE.out, by rw [HR.out]; exact (OB1.out.mono HB.out).base HB1.out.size, HB2.out.trans (HB.out.mono HB2.out.size), HAP.out⟩
        · have hz2 : (z != 0) = true := by simpa using hz
          have HR := Lib.hid (HW1.out hz)
          have HZ := Lib.hid hz
          clear HW1 HW2 HAT hz
          go_wp2
          refine bodyPost_ret (v := .tuple #[.slice none 0 0, .slice none 0 0, .int .i64 0, .int .i64 z]) (by simp [results, Tryz.results23, go_sem]) rfl ?_
          exact ⟨_, _, by rw [HR.out]; rfl, by rw [HR.out]; exact OB.nil _ _, by rw [HR.out]; exact OB.nil _ _, HB2.out, fun k h => by cases h⟩
end Go.Proofs.YtimnbnomaajmmaaGreat
namespace Go.Proofs.YtimnbnomaajmmaaGreat
open Go.RowKit Go.Fd
theorem kindsQ_any (b t : Int) (w : World) : Calls Tryz.prog 78 #[.int .i64 b, .int .i64 t] w fun e w' => e = .returned (.bool (kindB b t)) ∧ w' = w :=
  (kinds_any b t w).mono fun _ _ ⟨h1, h2⟩ => ⟨h1, h2.symm⟩
/-- The error of a list. -/
def symE (l : List SymM) : Int := if l.any symBad = true then 1 else if ordB l = false then 24 else (buildR (l.map (·.name))).2.2
theorem symE_bad {l : List SymM} (h : l.any symBad = true) : symE l = 1 := by unfold symE; rw [if_pos h]
theorem symE_ord {l : List SymM} (h : l.any symBad = false) (h2 : ordB l = false) : symE l = 24 := by unfold symE; rw [if_neg (by simp [h]), if_pos h2]
theorem symE_ok {l : List SymM} (h : l.any symBad = false) (h2 : ordB l = true) : symE l = (buildR (l.map (·.name))).2.2 := by unfold symE; rw [if_neg (by simp [h]), if_neg (by simp [h2])]
set_option maxHeartbeats 4000000 in
set_option maxRecDepth 100000 in
theorem ref5May_any (l : List SymM) (v : Value) (w : World) (hl : l.length ≤ 1000) (hns : ∀ s ∈ l, s.name.length ≤ 9223372036854775807) (hv : RdR 6 encSym w v l) :
    Calls Tryz.prog 80 #[v] w fun e w' => e = .returned (.int .i64 (symE l)) ∧ Below w.heap.size w w' := by
  obtain ⟨a, ca, rfl, hca, -, hc⟩ := hv.open (fun _ => rfl)
  have HC := Lib.hid hc
  have HNS := Lib.hid hns
  obtain ⟨nl, hnl⟩ : ∃ n, n = l.length := ⟨_, rfl⟩
  rw [← hnl] at hl hca ⊢
  have HL := Lib.hid hnl
  clear hc hv hnl hns
  go_enter Tryz.func80, Tryz.ntmps80
  go_wp2
  go_loopw [3] (fun i wr => ∃ k : Nat, i = .int .i64 k ∧ k ≤ nl ∧ Hid ((l.take k).any symBad = false) ∧ Hid (Below w.heap.size w wr)) (fun i _ => nl - (intOf i).toNat)
  case atStart => exact ⟨0, rfl, Nat.zero_le _, by simp [Hid], Below.refl _ _⟩
  case round =>
    obtain ⟨k, rfl, hk, HT, HB⟩ := hrel
    by_cases hlt : k < nl
    · have X1 := Lib.hid (show l[k]? = some (l[k]'(by have := HL.out; omega)) from List.getElem?_eq_getElem _)
      generalize l[k]'(by have := HL.out; omega) = x at *
      obtain ⟨b1, o1, ha, hc1⟩ := HC.out k x X1.out (by decide)
      subst ha
      have hd1 : ∀ c v, (encSym x)[c]? = some v → wr.cell? ⟨b1, o1 + k * 6 + c, none⟩ = some v := fun c v h => by
        have h6 : c < 6 := (List.getElem?_eq_some_iff.1 h).1
        have := (hc1 c h6).trans h
        rw [← Nat.add_assoc] at this
        exact (HB.out.cell (block_lt this)).trans this
      have c11 := hd1 1 _ rfl
      have c12 := hd1 2 _ rfl
      have c13 := hd1 3 _ rfl
      clear hc1 hd1
      have KC := Lib.hid (fun w => kindsQ_any x.bind x.typ w)
      cases hb : symBad x with
      | true =>
        have HR := Lib.hid (symE_bad (bad_yes X1.out hb))
        have HBAD := Lib.hid hb
        clear hb
        cases hk1 : kindB x.bind x.typ with
        | false =>
          rw [hk1] at KC
          have HK1 := Lib.hid hk1
          clear hk1
          go_wp2
          go_quiet ((go_at_call 78; exact Calls.quiet_of_same (KC.out _)))
          go_wp2
          go_ret
          exact ⟨by rw [HR.out]; rfl, below_drewN HB.out _⟩
        | true =>
          rw [hk1] at KC
          have hsec : x.sec < 0 ∨ 65535 < x.sec := by
            have := HBAD.out
            unfold symBad at this
            simpa [hk1] using this
          have HK1 := Lib.hid hk1
          clear hk1
          rcases hsec with hsec | hsec
          · go_wp2
            go_quiet ((go_at_call 78; exact Calls.quiet_of_same (KC.out _)))
            go_wp2
            go_ret
            exact ⟨by rw [HR.out]; rfl, below_drewN HB.out _⟩
          · have hs0 : ¬ x.sec < 0 := by omega
            have hd : decide (x.sec < 0) = false := by simpa using hs0
            go_wp2
            go_quiet ((go_at_call 78; exact Calls.quiet_of_same (KC.out _)))
            go_wp2
            go_ret
            exact ⟨by rw [HR.out]; rfl, below_drewN HB.out _⟩
      | false =>
        have HN := Lib.hid (bad_step X1.out HT.out hb)
        have hk1 : kindB x.bind x.typ = true ∧ ¬ x.sec < 0 ∧ ¬ 65535 < x.sec := by
          unfold symBad at hb
          simp at hb
          exact ⟨hb.1.1, by omega, by omega⟩
        clear hb
        obtain ⟨hk1, hs1, hs2⟩ := hk1
        rw [hk1] at KC
        have HK1 := Lib.hid hk1
        clear hk1
        have hd1 : decide (x.sec < 0) = false := by simpa using hs1
        have hd2 : decide (65535 < x.sec) = false := by simpa using hs2
        go_wp2
        go_quiet ((go_at_call 78; exact Calls.quiet_of_same (KC.out _)))
        go_wp2
        have HB1 := Lib.hid (below_drewN HB.out nq)
        go_roundw
        case rel =>
          first
            | exact ⟨k + 1, by go_num, by omega, HN.out, HB1.out⟩
            | ((repeat apply Exists.intro); exact ⟨⟨k + 1, by go_num, by omega, HN.out, HB1.out⟩, rfl⟩)
        case measure => simp [intOf] <;> omega
    · have hkn : l.length ≤ k := by have := HL.out; omega
      have HBF := Lib.hid (bad_all hkn HT.out)
      clear HT hkn
      go_wp2
      go_loopw [4] (fun i wr => ∃ k : Nat, i = .int .i64 k ∧ 1 ≤ k ∧ k ≤ nl + 1 ∧ Hid (ordB (l.take k) = true) ∧ Hid (Below w.heap.size w wr)) (fun i _ => nl + 1 - (intOf i).toNat)
      case atStart => exact ⟨1, rfl, by omega, by omega, ordB_of (fun i a b _ hb _ => by rw [List.getElem?_take, if_neg (by omega)] at hb; cases hb), HB.out⟩
      case round =>
        obtain ⟨k, rfl, hk1, hk, HT, HB⟩ := hrel
        by_cases hlt : k < nl
        · have X1 := Lib.hid (show l[k]? = some (l[k]'(by have := HL.out; omega)) from List.getElem?_eq_getElem _)
          have X2 := Lib.hid (show l[k - 1]? = some (l[k - 1]'(by have := HL.out; omega)) from List.getElem?_eq_getElem _)
          generalize l[k]'(by have := HL.out; omega) = x at *
          generalize l[k - 1]'(by have := HL.out; omega) = y at *
          obtain ⟨b1, o1, ha, hc1⟩ := HC.out k x X1.out (by decide)
          obtain ⟨b2, o2, ha2, hc2⟩ := HC.out (k - 1) y X2.out (by decide)
          subst ha
          cases ha2
          have d1 : wr.cell? ⟨b1, o1 + k * 6 + 1, none⟩ = some (.int .i64 x.bind) := by
            have := hc1 1 (by decide)
            rw [← Nat.add_assoc] at this
            exact (HB.out.cell (block_lt this)).trans this
          have d2 : wr.cell? ⟨b1, o1 + (k - 1) * 6 + 1, none⟩ = some (.int .i64 y.bind) := by
            have := hc2 1 (by decide)
            rw [← Nat.add_assoc] at this
            exact (HB.out.cell (block_lt this)).trans this
          clear hc1 hc2
          by_cases h0 : x.bind = 0
          · have hz : (x.bind == 0) = true := by simp [h0]
            by_cases h1 : y.bind = 0
            · have hz2 : (y.bind != 0) = false := by simp [h1]
              have HN := Lib.hid (ordB_step X1.out HT.out (.inr fun y' hy' _ => by rw [X2.out] at hy'; cases hy'; exact h1))
              clear h0 h1
              go_wp2
              go_roundw
              case rel =>
                first
                  | exact ⟨k + 1, by go_num, by omega, by omega, HN.out, HB.out⟩
                  | ((repeat apply Exists.intro); exact ⟨⟨k + 1, by go_num, by omega, by omega, HN.out, HB.out⟩, rfl⟩)
              case measure => simp [intOf] <;> omega
            · have hz2 : (y.bind != 0) = true := by simpa using h1
              have HR := Lib.hid (symE_ord HBF.out (by rw [Bool.eq_false_iff]; intro hb; exact h1 (ordB_get (i := k - 1) hb X2.out (by rw [show k - 1 + 1 = k by omega]; exact X1.out) h0)))
              clear h0 h1
              go_wp2
              go_ret
              exact ⟨by rw [HR.out]; rfl, HB.out⟩
          · have hz : (x.bind == 0) = false := by simpa using h0
            have HN := Lib.hid (ordB_step X1.out HT.out (.inl h0))
            clear h0
            go_wp2
            go_roundw
            case rel =>
              first
                | exact ⟨k + 1, by go_num, by omega, by omega, HN.out, HB.out⟩
                | ((repeat apply Exists.intro); exact ⟨⟨k + 1, by go_num, by omega, by omega, HN.out, HB.out⟩, rfl⟩)
            case measure => simp [intOf] <;> omega
        · have HOB : Hid (ordB l = true) := by have := HT.out; rwa [List.take_of_length_le (by have := HL.out; omega)] at this
          have HR := Lib.hid (symE_ok HBF.out HOB.out)
          clear HT
          go_wp2
          go_loopw [5, 6] (fun tx i wr => ∃ k : Nat, i = .int .i64 k ∧ k ≤ nl ∧ Hid (Ow S 9 wr w.heap.size tx ((l.take k).map (·.name))) ∧ Hid (Below w.heap.size w wr)) (fun _ i _ => nl - (intOf i).toNat)
          case atStart => exact ⟨0, rfl, Nat.zero_le _, Ow.nil _ _ _ _, HB.out⟩
          case round =>
            obtain ⟨k, rfl, hk, HO, HB⟩ := hrel
            by_cases hlt : k < nl
            · have X1 := Lib.hid (show l[k]? = some (l[k]'(by have := HL.out; omega)) from List.getElem?_eq_getElem _)
              generalize l[k]'(by have := HL.out; omega) = x at *
              obtain ⟨b1, o1, ha, hc1⟩ := HC.out k x X1.out (by decide)
              subst ha
              have c10 : wr.cell? ⟨b1, o1 + k * 6, none⟩ = some (.string ⟨x.name.toArray⟩) := by
                have := hc1 0 (by decide)
                rw [Nat.add_zero] at this
                exact (HB.out.cell (block_lt this)).trans this
              clear hc1
              have HNS := Lib.hid (names_step X1.out)
              have HTL := Lib.hid (show ((l.take k).map (·.name)).length ≤ 1000 by rw [List.length_map, List.length_take]; omega)
              go_wp2_with (((with_reducible show wpList _ _ _ (⟨some 78, _, _, _, _, _⟩ :: _) _ _); go_must (refine wpList_pushE TTexts HO.out rfl rfl x.name rfl rfl (by have := HTL.out; omega) (by omega) HB.out.size ?_; intro v3 w3 hv3 _ hb3; have HO3 := Lib.hid (show Ow S 9 w3 w.heap.size v3 ((l.take (k + 1)).map (·.name)) by rw [HNS.out]; exact hv3); have HB3 := Lib.hid (HB.out.trans hb3); clear hv3 hb3)))
              go_roundw
              case rel =>
                first
                  | exact ⟨k + 1, by go_num, by omega, HO3.out, HB3.out⟩
                  | ((repeat apply Exists.intro); exact ⟨⟨k + 1, by go_num, by omega, HO3.out, HB3.out⟩, rfl⟩)
              case measure => simp [intOf] <;> omega
            · have HO1 : Hid (Ow S 9 wr w.heap.size u5 (l.map (·.name))) := by
                have := HO.out
                rw [List.take_of_length_le (by have := HL.out; omega)] at this
                exact this
              have HBU := Lib.hid (ref3Build_any (l.map (·.name)) u5 wr (by rw [List.length_map]; have := HL.out; omega) (fun s hs => by obtain ⟨x, hx, rfl⟩ := List.mem_map.1 hs; exact HNS.out x hx) HO1.out.rd)
              generalize buildR (l.map (·.name)) = r at *
              obtain ⟨tb, ats, z⟩ := r
              clear HO HO1
              go_wp2_with fail
              refine HBU.out.mono ?_
              rintro e w2 ⟨v1, v2, rfl, -, -, hb2⟩
              have HB2 := Lib.hid (HB.out.trans (hb2.mono HB.out.size))
              clear hb2 HBU
              by_cases hz : z = 0
              · have HZ := Lib.hid hz
                subst hz
                go_wp2
                go_ret
                exact ⟨by rw [HR.out]; rfl, HB2.out⟩
              · have hz2 : (z != 0) = true := by simpa using hz
                have HZ := Lib.hid hz
                clear hz
                go_wp2
                go_ret
                exact ⟨by rw [HR.out]; rfl, HB2.out⟩
end Go.Proofs.YtimnbnomaajmmaaGreat
namespace Go.Proofs.YtimnbnomaajmmaaGreat
open Go.RowKit Go.Fd
theorem symW_E {l : List SymM} (h : symE l ≠ 0) : symW l = ([], [], 0, symE l) := by
  unfold symW symE at *
  split
  · rfl
  · split
    · rfl
    · next h1 h2 =>
      rw [if_neg h1, if_neg h2] at h
      rw [if_neg h]
theorem symE_0 {l : List SymM} (h : symE l = 0) : l.any symBad = false ∧ (buildR (l.map (·.name))).2.2 = 0 ∧ symW l = (symsB l (buildR (l.map (·.name))).2.1, (buildR (l.map (·.name))).1, locs l + 1, 0) := by
  unfold symE at h
  split at h
  · cases h
  · next h1 =>
    split at h
    · cases h
    · next h2 => exact ⟨by simpa using h1, h, symW_ok (by simpa using h1) (by simpa using h2) h⟩
set_option maxHeartbeats 4000000 in
set_option maxRecDepth 100000 in
theorem ref5Write_any (l : List SymM) (v : Value) (w : World) (hl : l.length ≤ 1000) (hwf : ∀ s ∈ l, s.value < 18446744073709551616 ∧ s.size < 18446744073709551616) (hns : ∀ s ∈ l, s.name.length ≤ 9223372036854775807) (hv : RdR 6 encSym w v l) :
    Calls Tryz.prog 84 #[v] w fun e w' => ∃ v1 v2, e = .returned (.tuple #[v1, v2, .int .i64 ((symW l).2.2.1 : Nat), .int .i64 (symW l).2.2.2]) ∧ OB w' w.heap.size v1 (symW l).1 ∧ OB w' w.heap.size v2 (symW l).2.1 ∧ Below w.heap.size w w' := by
  obtain ⟨a, ca, rfl, hca, -, hc⟩ := hv.open (fun _ => rfl)
  have HM := Lib.hid (ref5May_any l _ w hl hns hv)
  have HC := Lib.hid hc
  have HWF := Lib.hid hwf
  have HNS := Lib.hid hns
  obtain ⟨nl, hnl⟩ : ∃ n, n = l.length := ⟨_, rfl⟩
  rw [← hnl] at hl hca HM ⊢
  have HL := Lib.hid hnl
  clear hc hv hnl hwf hns
  by_cases hE : symE l = 0
  · obtain ⟨q1, q2, q3⟩ := symE_0 hE
    rw [hE] at HM
    have HBF := Lib.hid q1
    have HLL := Lib.hid (show (l.map (·.name)).length ≤ 1000 by rw [List.length_map]; have := HL.out; omega)
    have HA := Lib.hid (ats_ok q2 HLL.out)
    have HR := Lib.hid q3
    have HBZ := Lib.hid q2
    clear q1 q2 q3 hE
    go_enter Tryz.func84, Tryz.ntmps84
    go_wp2_with fail
    refine HM.out.mono ?_
    rintro e w0 ⟨rfl, hb0⟩
    have HB0 := Lib.hid hb0
    clear hb0
    go_wp2
    go_loopw [7, 8] (fun tx i wr => ∃ k : Nat, i = .int .i64 k ∧ k ≤ nl ∧ Hid (Ow S 9 wr w.heap.size tx ((l.take k).map (·.name))) ∧ Hid (Below w.heap.size w wr)) (fun _ i _ => nl - (intOf i).toNat)
    case atStart => exact ⟨0, rfl, Nat.zero_le _, Ow.nil _ _ _ _, HB0.out⟩
    case round =>
      obtain ⟨k, rfl, hk, HO, HB⟩ := hrel
      by_cases hlt : k < nl
      · have X1 := Lib.hid (show l[k]? = some (l[k]'(by have := HL.out; omega)) from List.getElem?_eq_getElem _)
        generalize l[k]'(by have := HL.out; omega) = x at *
        obtain ⟨b1, o1, ha, hc1⟩ := HC.out k x X1.out (by decide)
        subst ha
        have c10 : wr.cell? ⟨b1, o1 + k * 6, none⟩ = some (.string ⟨x.name.toArray⟩) := by
          have := hc1 0 (by decide)
          rw [Nat.add_zero] at this
          exact (HB.out.cell (block_lt this)).trans this
        clear hc1
        have HNX := Lib.hid (names_step X1.out)
        have HTL := Lib.hid (show ((l.take k).map (·.name)).length ≤ 1000 by rw [List.length_map, List.length_take]; omega)
        go_wp2_with (((with_reducible show wpList _ _ _ (⟨some 34, _, _, _, _, _⟩ :: _) _ _); go_must (refine wpList_pushE TTexts HO.out rfl rfl x.name rfl rfl (by have := HTL.out; omega) (by omega) HB.out.size ?_; intro v3 w3 hv3 _ hb3; have HO3 := Lib.hid (show Ow S 9 w3 w.heap.size v3 ((l.take (k + 1)).map (·.name)) by rw [HNX.out]; exact hv3); have HB3 := Lib.hid (HB.out.trans hb3); clear hv3 hb3)))
        go_roundw
        case rel =>
          first
            | exact ⟨k + 1, by go_num, by omega, HO3.out, HB3.out⟩
            | ((repeat apply Exists.intro); exact ⟨⟨k + 1, by go_num, by omega, HO3.out, HB3.out⟩, rfl⟩)
        case measure => simp [intOf] <;> omega
      · have HO1 : Hid (Ow S 9 wr w.heap.size u7 (l.map (·.name))) := by
          have := HO.out
          rw [List.take_of_length_le (by have := HL.out; omega)] at this
          exact this
        have HBU := Lib.hid (ref3Build_any (l.map (·.name)) u7 wr (by rw [List.length_map]; have := HL.out; omega) (fun s hs => by obtain ⟨x, hx, rfl⟩ := List.mem_map.1 hs; exact HNS.out x hx) HO1.out.rd)
        generalize buildR (l.map (·.name)) = r at *
        obtain ⟨tb, ats, z⟩ := r
        obtain rfl : z = 0 := HBZ.out
        clear HO HO1 HBZ
        go_wp2_with fail
        refine HBU.out.mono ?_
        rintro e w2 ⟨v1, v2, rfl, ob1, ow2, hb2⟩
        have HB2 := Lib.hid (HB.out.trans (hb2.mono HB.out.size))
        have HS1 := Lib.hid HB.out.size
        have OB1 := Lib.hid ob1
        obtain ⟨aa, cca, rfl, hmac, _, hac⟩ := (show Rd I64 w2 v2 ats from ow2.rd).open 0
        have hal : ats.length = nl := by have h1 := HA.out.1; rw [List.length_map] at h1; have := HL.out; omega
        rw [hal] at hmac ⊢
        have HAL := Lib.hid hal
        have HAC := Lib.hid hac
        clear hal hac HBU ob1 ow2 hb2
        go_wp2_with (((with_reducible show wpList _ _ _ (⟨some 41, _, _, _, _, _⟩ :: _) _ _); go_must (refine wpList_makeB 24 rfl rfl rfl rfl (by omega) ?_; intro vt w3 hvt hb3)))
        have HVT := Lib.hid hvt
        have HB3 := Lib.hid hb3
        clear hvt hb3
        have HRX : Hid (symsB l ats = List.replicate 24 0 ++ ((l.zip ats).take nl).flatMap symB) := by
          unfold symsB
          rw [List.take_of_length_le (by rw [List.length_zip]; have := HL.out; omega)]
          rfl
        go_loopw [12, 13, 14] (fun t c i wr => ∃ k n : Nat, i = .int .i64 k ∧ c = .int .i64 (n + 1) ∧ k ≤ nl ∧ n ≤ k ∧ Hid (n = locs (l.take k)) ∧ Hid (OB wr w2.heap.size t (List.replicate 24 0 ++ ((l.zip ats).take k).flatMap symB)) ∧ Hid (Below w2.heap.size w2 wr)) (fun _ _ i _ => nl - (intOf i).toNat)
        case atStart => exact ⟨0, 0, rfl, rfl, Nat.zero_le _, Nat.le_refl _, rfl, by have := HVT.out; simpa [Hid] using this, HB3.out⟩
        case round =>
          obtain ⟨k, n, rfl, rfl, hk, hnk, HN, HO, HB⟩ := hrel
          by_cases hlt : k < nl
          · have X1 := Lib.hid (show l[k]? = some (l[k]'(by have := HL.out; omega)) from List.getElem?_eq_getElem _)
            generalize l[k]'(by have := HL.out; omega) = x at *
            have X2 := Lib.hid (show ats[k]? = some (ats[k]'(by have := HAL.out; omega)) from List.getElem?_eq_getElem _)
            obtain ⟨bA, oA, hA1, cA⟩ := HAC.out k (by have := HAL.out; omega)
            rw [X2.out] at cA
            generalize ats[k]'(by have := HAL.out; omega) = p at *
            have hp : p ≤ 130000 := HA.out.2 p (List.mem_of_getElem? X2.out)
            simp only [Option.getD_some] at cA
            replace cA := (HB.out.cell (block_lt cA)).trans cA
            subst hA1
            obtain ⟨b1, o1, ha, hc1⟩ := HC.out k x X1.out (by decide)
            subst ha
            have hd1 : ∀ c v, (encSym x)[c]? = some v → wr.cell? ⟨b1, o1 + k * 6 + c, none⟩ = some v := fun c v h => by
              have h6 : c < 6 := (List.getElem?_eq_some_iff.1 h).1
              have := (hc1 c h6).trans h
              rw [← Nat.add_assoc] at this
              have h2 := (HB2.out.cell (block_lt this)).trans this
              exact (HB.out.cell (block_lt h2)).trans h2
            have c10 := hd1 0 _ rfl
            have c11 := hd1 1 _ rfl
            have c12 := hd1 2 _ rfl
            have c13 := hd1 3 _ rfl
            have c14 := hd1 4 _ rfl
            have c15 := hd1 5 _ rfl
            rw [Nat.add_zero] at c10
            clear hc1 hd1
            have HF := Lib.hid (flatz_step X1.out X2.out)
            have HTL := Lib.hid (show (List.replicate 24 (0 : UInt8) ++ ((l.zip ats).take k).flatMap symB).length ≤ 30000 by rw [List.length_append, List.length_replicate, flatz_len, List.length_take]; omega)
            have HOF := Lib.hid (HWF.out x (List.mem_of_getElem? X1.out))
            have hgood : kindB x.bind x.typ = true ∧ ¬ x.sec < 0 ∧ ¬ 65535 < x.sec := by
              have := List.any_eq_false.1 HBF.out x (List.mem_of_getElem? X1.out)
              unfold symBad at this
              simp at this
              exact ⟨this.1.1, by omega, by omega⟩
            obtain ⟨hg1, hg2, hg3⟩ := hgood
            obtain ⟨hg4, hg5, hg6, hg7⟩ := kindB_pos hg1
            have HG1 := Lib.hid hg1
            have HI := Lib.hid (info_u8 (s := x) hg4 hg5 hg6 hg7)
            have HT1 := Lib.hid (show x.sec = ((u64of x.sec : Nat) : Int) by unfold u64of; omega)
            have hbs := HB.out.size
            clear hg1
            generalize hT0 : List.replicate 24 (0 : UInt8) ++ ((l.zip ats).take k).flatMap symB = T at *
            have HE0 := Lib.hid hT0
            clear hT0
            have HNN : Hid (∃ n' : Nat, n' ≤ k + 1 ∧ n' = locs (l.take (k + 1)) ∧ ((x.bind = 0 ∧ n' = n + 1) ∨ (¬ x.bind = 0 ∧ n' = n))) := by
              by_cases h0 : x.bind = 0
              · exact ⟨n + 1, by omega, by rw [locs_step0 X1.out h0, ← HN.out], .inl ⟨h0, rfl⟩⟩
              · exact ⟨n, by omega, by rw [locs_step1 X1.out h0, ← HN.out], .inr ⟨h0, rfl⟩⟩
            obtain ⟨n', hn'1, hn'2, hn'3⟩ := HNN.out
            have HN' := Lib.hid hn'2
            clear hn'2 HNN HN
            rcases hn'3 with ⟨h0, hn⟩ | ⟨h0, hn⟩
            all_goals
              subst hn
              first
                | have hz : (x.bind == 0) = true := by simpa using h0
                | have hz : (x.bind == 0) = false := by simpa using h0
              clear h0
              go_wp2_with (first
                | ((with_reducible show wpList _ _ _ (⟨none, .store _ _ _, _, _, _, _⟩ :: _) _ _); go_must (refine wpList_storeNew rfl rfl (by kernel_rfl) rfl (by simp [Value.oneCell']) ?_; intro w4 hh1 hb1; have cA1 := (hb1.cell (block_lt cA)).trans cA; have e1 := cell_rec hh1 1; simp only [List.getElem?_toArray, List.getElem?_cons_succ, List.getElem?_cons_zero] at e1))
                | fail)
              have HO1 := Lib.hid (HO.out.mono hb1)
              have HB4 := Lib.hid (HB.out.trans (hb1.mono HB.out.size))
              have HH1 := Lib.hid hh1
              clear hh1 hb1 cA1 cA c10 c11 c12 c13 c14 c15 e1
              refine (fixed4_any p w4 rfl (by omega)).mono ?_
              rintro e w5 ⟨f5, rfl, hf5, hb5⟩
              have HK5 := Lib.hid (keeps_below (e0 := 5) hb5)
              have HO5 := Lib.hid (HO1.out.mono hb5)
              have HF5 := Lib.hid hf5.bs
              have HB5 := Lib.hid (HB4.out.trans (hb5.mono HB4.out.size))
              have HH5 := Lib.hid (HK5.out _ _ _ _ (by decide) HH1.out)
              clear hf5 hb5
              go_wp2_with (first
                | ((with_reducible show wpList _ _ _ (⟨some 64, _, _, _, _, _⟩ :: _) _ _); go_must (refine wpList_catB HO5.out HF5.out rfl rfl (by rw [length_fixed]; have := HTL.out; omega) HB5.out.size ?_; intro v6 w6 ho6 hg6 hb6; have HH6 := Lib.hid (keeps_own HO5.out hg6 _ _ _ _ (by decide) HH5.out); have e1 := cell_rec HH6.out 1; have e2 := cell_rec HH6.out 2; simp only [List.getElem?_toArray, List.getElem?_cons_succ, List.getElem?_cons_zero] at e1 e2; have HO6 := Lib.hid ho6; have HB6 := Lib.hid (HB5.out.trans hb6); clear ho6 hb6 hg6))
                | ((with_reducible show wpList _ _ _ (⟨some 74, _, _, _, _, _⟩ :: _) _ _); go_must (refine wpList_pushLit HO6.out [infoB x, 0] rfl rfl (by rw [HI.out]; rfl) rfl (by rw [List.length_append, length_fixed]; have := HTL.out; simp; omega) HB6.out.size ?_; intro v7 w7 ho7 hk7 hb7; have HH7 := Lib.hid (hk7 _ _ _ _ (by decide) HH6.out); have e3 := cell_rec HH7.out 3; simp only [List.getElem?_toArray, List.getElem?_cons_succ, List.getElem?_cons_zero] at e3; have HO7 := Lib.hid ho7; have HB7 := Lib.hid (HB6.out.trans hb7); clear ho7 hb7 hk7)))
              clear e1 e2 e3
              refine (fixed2_any (u64of x.sec) w7 HT1.out (u64of_lt _)).mono ?_
              rintro e w8 ⟨f8, rfl, hf8, hb8⟩
              have HK8 := Lib.hid (keeps_below (e0 := 5) hb8)
              have HO8 := Lib.hid (HO7.out.mono hb8)
              have HF8 := Lib.hid hf8.bs
              have HB8 := Lib.hid (HB7.out.trans (hb8.mono HB7.out.size))
              have HH8 := Lib.hid (HK8.out _ _ _ _ (by decide) HH7.out)
              clear hf8 hb8
              have HL8 := Lib.hid (show (T ++ fixed p 4 ++ [infoB x, 0]).length ≤ 30006 by rw [List.length_append, List.length_append, length_fixed]; have := HTL.out; simp; omega)
              generalize hT8 : T ++ fixed p 4 ++ [infoB x, 0] = T8 at *
              have HE8 := Lib.hid hT8
              clear hT8
              go_wp2_with (((with_reducible show wpList _ _ _ (⟨some 80, _, _, _, _, _⟩ :: _) _ _); go_must (refine wpList_catB HO8.out HF8.out rfl rfl (by rw [length_fixed]; have := HL8.out; omega) HB8.out.size ?_; intro v9 w9 ho9 hg9 hb9; have HH9 := Lib.hid (keeps_own HO8.out hg9 _ _ _ _ (by decide) HH8.out); have e4 := cell_rec HH9.out 4; simp only [List.getElem?_toArray, List.getElem?_cons_succ, List.getElem?_cons_zero] at e4; have HO9 := Lib.hid ho9; have HB9 := Lib.hid (HB8.out.trans hb9); clear ho9 hb9 hg9)))
              clear e4
              refine (fixed8_any x.value w9 rfl HOF.out.1).mono ?_
              rintro e w10 ⟨f10, rfl, hf10, hb10⟩
              have HK10 := Lib.hid (keeps_below (e0 := 5) hb10)
              have HO10 := Lib.hid (HO9.out.mono hb10)
              have HF10 := Lib.hid hf10.bs
              have HB10 := Lib.hid (HB9.out.trans (hb10.mono HB9.out.size))
              have HH10 := Lib.hid (HK10.out _ _ _ _ (by decide) HH9.out)
              clear hf10 hb10
              go_wp2_with (((with_reducible show wpList _ _ _ (⟨some 85, _, _, _, _, _⟩ :: _) _ _); go_must (refine wpList_catB HO10.out HF10.out rfl rfl (by rw [List.length_append, length_fixed, length_fixed]; have := HL8.out; omega) HB10.out.size ?_; intro v11 w11 ho11 hg11 hb11; have HH11 := Lib.hid (keeps_own HO10.out hg11 _ _ _ _ (by decide) HH10.out); have e5 := cell_rec HH11.out 5; simp only [List.getElem?_toArray, List.getElem?_cons_succ, List.getElem?_cons_zero] at e5; have HO11 := Lib.hid ho11; have HB11 := Lib.hid (HB10.out.trans hb11); clear ho11 hb11 hg11)))
              clear e5
              refine (fixed8_any x.size w11 rfl HOF.out.2).mono ?_
              rintro e w12 ⟨f12, rfl, hf12, hb12⟩
              have HO12 := Lib.hid (HO11.out.mono hb12)
              have HF12 := Lib.hid hf12.bs
              have HB12 := Lib.hid (HB11.out.trans (hb12.mono HB11.out.size))
              clear hf12 hb12
              go_wp2_with (((with_reducible show wpList _ _ _ (⟨some 90, _, _, _, _, _⟩ :: _) _ _); go_must (refine wpList_catB HO12.out HF12.out rfl rfl (by rw [List.length_append, List.length_append, length_fixed, length_fixed, length_fixed]; have := HL8.out; omega) HB12.out.size ?_; intro v13 w13 ho13 hg13 hb13; have HO13 := Lib.hid ho13; have HB13 := Lib.hid (HB12.out.trans hb13); clear ho13 hb13 hg13)))
              have G1 : Hid (OB w13 w2.heap.size v13 (List.replicate 24 0 ++ ((l.zip ats).take (k + 1)).flatMap symB)) := by
                rw [HF.out, ← List.append_assoc, HE0.out]
                show OB w13 w2.heap.size v13 (T ++ symB (x, p))
                have := HO13.out
                rw [← HE8.out] at this
                unfold symB
                simpa [List.append_assoc] using this
              clear HO13
              go_roundw
              case rel =>
                first
                  | exact ⟨k + 1, _, by go_num, by first | rfl | go_num, by omega, hn'1, HN'.out, G1.out, HB13.out⟩
                  | ((repeat apply Exists.intro); exact ⟨⟨k + 1, _, by go_num, by first | rfl | go_num, by omega, hn'1, HN'.out, G1.out, HB13.out⟩, rfl⟩)
              case measure => simp [intOf] <;> omega
          · have hkn : k = nl := by omega
            have HE : Hid (OB wr w.heap.size u12 (symsB l ats)) := by
              have := HO.out
              rw [hkn, ← HRX.out] at this
              exact this.base HB2.out.size
            have HNL : Hid (n = locs l) := by
              have := HN.out
              rwa [hkn, List.take_of_length_le (by have := HL.out; omega)] at this
            clear HO HN hkn
            go_wp2
            refine bodyPost_ret (v := .tuple #[u12, v1, .int .i64 ((n : Int) + 1), .int .i64 0]) (by simp [results, Tryz.results84, go_sem]) rfl ?_
            exact ⟨_, _, by rw [HR.out, ← HNL.out]; rfl, by rw [HR.out]; exact HE.out, by rw [HR.out]; exact (OB1.out.mono HB.out).base HS1.out, HB2.out.trans (HB.out.mono HB2.out.size)⟩
  · have hz : (symE l != 0) = true := by simpa using hE
    have HR := Lib.hid (symW_E hE)
    generalize symE l = z at *
    have HZ := Lib.hid hE
    clear hE
    go_enter Tryz.func84, Tryz.ntmps84
    go_wp2_with fail
    refine HM.out.mono ?_
    rintro e w0 ⟨rfl, hb0⟩
    go_wp2
    refine bodyPost_ret (v := .tuple #[.slice none 0 0, .slice none 0 0, .int .i64 0, .int .i64 z]) (by simp [results, Tryz.results84, go_sem]) rfl ?_
    exact ⟨_, _, by rw [HR.out]; rfl, by rw [HR.out]; exact OB.nil _ _, by rw [HR.out]; exact OB.nil _ _, hb0⟩
end Go.Proofs.YtimnbnomaajmmaaGreat
namespace Go.Proofs.YtimnbnomaajmmaaGreat
open Go.RowKit Go.Fd
theorem bytesEq_any (l m : List UInt8) (v u : Value) (w : World) (hv : Bs w v l) (hu : Bs w u m) :
    Calls Tryz.prog 16 #[v, u] w fun e w' => e = .returned (.bool (decide (l = m))) ∧ w = w' :=
  (Tryz.bytes_Equal_strs v u ⟨l.toArray⟩ ⟨m.toArray⟩ w (run_str hv) (run_str hu)).mono fun e w' ⟨h1, h2⟩ => ⟨by rw [h1]; congr 2; rw [Bool.eq_iff_iff, beq_iff_eq, decide_eq_true_iff, ByteArray.toList_eq, ByteArray.toList_eq], h2.symm⟩
/-- The symbol's record at place k, its name's place, and the byte that must be 0. -/
def recS (b : List UInt8) (k : Nat) (name : List UInt8) : SymM := ⟨name, ((b[24 * k + 4]?.getD 0).toNat / 16 : Nat), ((b[24 * k + 4]?.getD 0).toNat % 16 : Nat), numLE ((b.drop (24 * k + 6)).take 2), numLE ((b.drop (24 * k + 8)).take 8), numLE ((b.drop (24 * k + 16)).take 8)⟩
def recAt (b : List UInt8) (k : Nat) : Nat := numLE ((b.drop (24 * k)).take 4)
def rec5 (b : List UInt8) (k : Nat) : UInt8 := b[24 * k + 5]?.getD 0
/-- May s stand behind L? -/
def ordL (L : List SymM) (s : SymM) : Bool := decide (s.bind ≠ 0) || (match L.getLast? with | some y => decide (y.bind = 0) | none => true)
def stepSym (b names : List UInt8) (k : Nat) (L : List SymM) : Except Int (List SymM) :=
  if kindB (recS b (k + 1) []).bind (recS b (k + 1) []).typ = false ∨ rec5 b (k + 1) ≠ 0 then .error 1
  else if ordL L (recS b (k + 1) []) = false then .error 24
  else if (atR names (recAt b (k + 1))).2 ≠ 0 then .error (atR names (recAt b (k + 1))).2
  else .ok (L ++ [recS b (k + 1) (atR names (recAt b (k + 1))).1])
def symRd (b names : List UInt8) : List SymM × Int :=
  if b.length % 24 ≠ 0 ∨ b.length < 24 ∨ b.take 24 ≠ List.replicate 24 0 then ([], 4)
  else match foldU (stepSym b names) (b.length / 24 - 1) with | .ok L => (L, 0) | .error e => ([], e)
theorem foldSym_len (b names : List UInt8) : ∀ k L, foldU (stepSym b names) k = .ok L → L.length = k := by
  intro k
  induction k with
  | zero => intro L h; cases h; rfl
  | succ k ih =>
    intro L h
    rw [foldU] at h
    cases hk : foldU (stepSym b names) k with
    | error e => rw [hk] at h; cases h
    | ok L0 =>
      rw [hk] at h
      have h' : stepSym b names k L0 = .ok L := h
      unfold stepSym at h'
      repeat' split at h'
      all_goals first | (cases h'; done) | (cases h'; rw [List.length_append, ih L0 hk]; rfl)
theorem symRd_form {b names : List UInt8} (h : b.length % 24 ≠ 0 ∨ b.length < 24 ∨ b.take 24 ≠ List.replicate 24 0) : symRd b names = ([], 4) := by unfold symRd; rw [if_pos h]
theorem symRd_err {b names : List UInt8} {k : Nat} {L : List SymM} {e : Int} (h0 : ¬ (b.length % 24 ≠ 0 ∨ b.length < 24 ∨ b.take 24 ≠ List.replicate 24 0)) (hk : k < b.length / 24 - 1) (h : foldU (stepSym b names) k = .ok L) (hs : stepSym b names k L = .error e) : symRd b names = ([], e) := by
  unfold symRd
  rw [if_neg h0, foldU_err h hs _ hk]
theorem symRd_ok {b names : List UInt8} {k : Nat} {L : List SymM} (h0 : ¬ (b.length % 24 ≠ 0 ∨ b.length < 24 ∨ b.take 24 ≠ List.replicate 24 0)) (hk : k = b.length / 24 - 1) (h : foldU (stepSym b names) k = .ok L) : symRd b names = (L, 0) := by
  unfold symRd
  rw [if_neg h0, ← hk, h]
theorem step_arg {b names : List UInt8} {k : Nat} {L : List SymM} (h : kindB (recS b (k + 1) []).bind (recS b (k + 1) []).typ = false ∨ rec5 b (k + 1) ≠ 0) : stepSym b names k L = .error 1 := by unfold stepSym; rw [if_pos h]
theorem step_ord {b names : List UInt8} {k : Nat} {L : List SymM} (h : ¬ (kindB (recS b (k + 1) []).bind (recS b (k + 1) []).typ = false ∨ rec5 b (k + 1) ≠ 0)) (h2 : ordL L (recS b (k + 1) []) = false) : stepSym b names k L = .error 24 := by
  unfold stepSym; rw [if_neg h, if_pos h2]
theorem step_name {b names : List UInt8} {k : Nat} {L : List SymM} (h : ¬ (kindB (recS b (k + 1) []).bind (recS b (k + 1) []).typ = false ∨ rec5 b (k + 1) ≠ 0)) (h2 : ordL L (recS b (k + 1) []) = true) (h3 : (atR names (recAt b (k + 1))).2 ≠ 0) : stepSym b names k L = .error (atR names (recAt b (k + 1))).2 := by
  unfold stepSym; rw [if_neg h, if_neg (by simp [h2]), if_pos h3]
theorem step_sym {b names : List UInt8} {k : Nat} {L : List SymM} (h : ¬ (kindB (recS b (k + 1) []).bind (recS b (k + 1) []).typ = false ∨ rec5 b (k + 1) ≠ 0)) (h2 : ordL L (recS b (k + 1) []) = true) (h3 : (atR names (recAt b (k + 1))).2 = 0) : stepSym b names k L = .ok (L ++ [recS b (k + 1) (atR names (recAt b (k + 1))).1]) := by
  unfold stepSym; rw [if_neg h, if_neg (by simp [h2]), if_neg (by simp [h3])]
theorem ordB_two (y s : SymM) : ordB [y, s] = (decide (s.bind ≠ 0) || decide (y.bind = 0)) := by simp [ordB]
end Go.Proofs.YtimnbnomaajmmaaGreat
namespace Go.Fd
open Go.RowKit
section
variable {α : Type} {k : Nat} {enc : α → List Value} {e : TypeId} {w : World} {base : Nat} {v : Value} {l : List α}
theorem flat_drop (hk : ∀ x, (enc x).length = k) : ∀ (l : List α) (i : Nat), (l.flatMap enc).drop (i * k) = (l.drop i).flatMap enc
  | [], i => by simp
  | x :: l, 0 => by simp
  | x :: l, i + 1 => by
    rw [List.flatMap_cons, List.drop_succ_cons, ← flat_drop hk l i, Nat.succ_mul, List.drop_append, List.drop_of_length_le (by rw [hk]; omega), List.nil_append, hk]
    congr 1
    omega
/-- Owned records, opened. -/
theorem OwR.openOwn (h : OwR k enc e w base v l) (hl : 0 < l.length) : ∃ g cap, v = .slice (some ⟨g, 0, none⟩) l.length cap ∧ base ≤ g ∧ g < w.heap.size ∧ l.length ≤ cap ∧
    (∀ i, i < (l.flatMap enc).length → w.cell? ⟨g, i, none⟩ = (l.flatMap enc)[i]?) ∧ (∀ i, w.frozen? ⟨g, i, none⟩ = false) := by
  obtain ⟨h1, h2⟩ := id h
  rcases h2 with ⟨rfl, h0⟩ | ⟨g, cap, cur, rfl, hb, hg, hn, hc, hs, ht⟩
  · omega
  · exact ⟨g, cap, rfl, hb, (Array.getElem?_eq_some_iff.1 hg).1, hn, fun i hi => World.ownsRow.cellAt h i (by rw [h1] at hi; exact hi), fun i => World.ownsRow.frozenAt h i⟩
end
/-- The last record's first cell set anew. -/
theorem set_last {α : Type} {k : Nat} {enc : α → List Value} (hk : ∀ x, (enc x).length = k) (L : List α) (x y : α) (u : Value) (j : Nat) (h : (enc x).set j u = enc y) : ((L ++ [x]).flatMap enc).set (L.length * k + j) u = (L ++ [y]).flatMap enc := by
  rw [List.flatMap_append, List.flatMap_append, List.flatMap_singleton, List.flatMap_singleton, List.set_append, if_neg (by rw [flat_len hk]; omega), flat_len hk, Nat.add_sub_cancel_left, h]
end Go.Fd
namespace Go.Proofs.YtimnbnomaajmmaaGreat
open Go.RowKit Go.Fd
theorem TSym : SliceT Tryz.prog 26 41 6 56 := SliceT.mk' (z := .agg #[.string ⟨#[]⟩, .int .i64 0, .int .i64 0, .int .i64 0, .int .u64 0, .int .u64 0]) (by kernel_rfl) (by kernel_rfl) rfl (by omega)
theorem sym_from {w : World} {v : Value} {l : List SymM} (hv : RdR 6 encSym w v l) (i : Nat) {z : Int} (hz : z = (i : Int)) (h : i ≤ l.length) :
    ∃ v', (∀ w', (Instr.sliceAt 26 v (some (.int .i64 z)) none none).run Tryz.prog w' = .ok v' w') ∧ RdR 6 encSym w v' (l.drop i) := by
  subst hz
  obtain ⟨v', h1, h2⟩ := run_sliceFrom TSym hv (i := (i : Int)) (k := .i64) (by omega) (by omega)
  refine ⟨v', h1, ?_⟩
  unfold RdR
  rw [← flat_drop (k := 6) (enc := encSym) (fun _ => rfl) l i, List.length_drop]
  simpa [show ((l.length : Int) - i).toNat = l.length - i by omega] using h2
theorem ordB_tail (L : List SymM) (s : SymM) : ordB ((L ++ [s]).drop (L.length - 1)) = ordL L s := by
  rcases List.eq_nil_or_concat L with rfl | ⟨L', y, rfl⟩
  · simp [ordL, ordB]
  · have : (L'.concat y ++ [s]).drop ((L'.concat y).length - 1) = [y, s] := by simp
    rw [this, ordB_two]
    unfold ordL
    simp
theorem make24 {a : Act} {w : World} {d : Option Tmp} {ty : TypeId} {pos : String} {aft : Array Edge} {g : Option (Nat × Bool)} :
    (execOp a.eval ⟨d, .makeSlice 22 (.const (.int .i64 24)) (.const (.int .i64 24)), ty, pos, aft, g⟩).run Tryz.prog w = .ok (.value (.slice (some ⟨w.heap.size, 0, none⟩) 24 24)) (w.alloc (.cells ((List.replicate 24 (0 : UInt8)).map B).toArray 5)) := by
  kernel_rfl
def YB (l : List UInt8) : Yld := Yld.any (fun v w => Bs w v l) fun _ _ _ h hb => h.mono hb
theorem YB_got {v : Value} {l : List UInt8} {w : World} (h : (YB l).R v w) : Bs w v l := by obtain ⟨x, e, h⟩ := h; exact e ▸ h
theorem YB_mk {v : Value} {l : List UInt8} {w : World} (h : Bs w v l) : (YB l).R v w := ⟨v, rfl, h⟩
theorem run_allocSym {a : Act} {w : World} {d : Option Tmp} {ty : TypeId} {pos : String} {aft : Array Edge} {g : Option (Nat × Bool)} :
    (execOp a.eval ⟨d, .alloc 41, ty, pos, aft, g⟩).run Tryz.prog w = .ok (.value (.pointer (some ⟨w.heap.size, 0, none⟩))) (w.alloc (.cells #[.string ⟨#[]⟩, .int .i64 0, .int .i64 0, .int .i64 0, .int .u64 0, .int .u64 0] 41)) := by
  kernel_rfl
theorem cut_get {b : List UInt8} {a s i : Nat} (h : i < s) : ((b.drop a).take s)[i]?.getD 0 = b[a + i]?.getD 0 := by
  rw [List.getElem?_take, if_pos h, List.getElem?_drop]
theorem cut_cut {b : List UInt8} {a s i n : Nat} (h : i + n ≤ s) : (((b.drop a).take s).drop i).take n = (b.drop (a + i)).take n := by
  rw [List.drop_take, List.take_take, List.drop_drop, Nat.min_eq_left (by omega)]
set_option maxHeartbeats 4000000 in
set_option maxRecDepth 100000 in
theorem symsRead_any (b names : List UInt8) (v u : Value) (w : World) (hl : b.length ≤ 100000) (hln : names.length ≤ 1000000000) (hv : Bs w v b) (hu : Bs w u names) :
    Calls Tryz.prog 32 #[v, u] w fun e w' => ∃ v', e = .returned (.tuple #[v', .int .i64 (symRd b names).2]) ∧ OwR 6 encSym 41 w' w.heap.size v' (symRd b names).1 ∧ Below w.heap.size w w' := by
  have HV := Lib.hid hv
  have HU := Lib.hid hu
  obtain ⟨ad, cap, rfl, hcap, _, _⟩ := hv.open
  obtain ⟨n, hn⟩ : ∃ n, n = b.length := ⟨_, rfl⟩
  rw [← hn] at hl hcap HV ⊢
  have HN := Lib.hid hn
  have HLN := Lib.hid hln
  clear hv hu hn hln
  by_cases h0 : n % 24 = 0
  · obtain ⟨m, rfl⟩ : ∃ m, n = 24 * m := ⟨n / 24, by omega⟩
    have hm0 : ¬ (16384 : Int) < (m : Int) - 1 := by omega
    clear h0
    rcases Nat.eq_zero_or_pos m with rfl | hm
    · have HR := Lib.hid (symRd_form (b := b) (names := names) (.inr (.inl (by have := HN.out; omega))))
      go_enter Tryz.func32, Tryz.ntmps32
      go_wp2
      refine wp_region_walk 17 [] (by kernel_rfl) (by kernel_rfl) ?_
      simp only [List.take_succ_cons, List.take_zero, List.drop_succ_cons, List.drop_zero]
      repeat (first
        | (refine walk_quiet rfl rfl rfl ?_; intro K hK; go_big_quiet_op; go_big_quiet_on)
        | (refine walk_skip rfl ?_; go_frame))
      refine walk_nil ?_
      intro wz hbz _
      go_wp2
      go_ret2
      exact ⟨_, by rw [HR.out]; rfl, by rw [HR.out]; exact OwR.nil _ _ _ _ _, hbz⟩
    · have HD : Hid (24 * m = b.length) := HN
      have hd1 : decide (24 * (m : Int) < 24) = false := by simp; omega
      obtain ⟨s0, hr0, hb0⟩ := run_toB HV.out (j := 24) (k := .i64) (by omega) (by have := HN.out; omega)
      have HEQ := Lib.hid (fun (wx : World) (hx : Below w.heap.size w wx) (vx : Value) (hvx : Bs wx vx (List.replicate 24 0)) => bytesEq_any (b.take 24) (List.replicate 24 0) s0 vx wx (hb0.mono hx) hvx)
      clear hb0
      by_cases hz0 : b.take 24 = List.replicate 24 0
      · have HZ0 := Lib.hid hz0
        have HC0 : Hid (¬ (b.length % 24 ≠ 0 ∨ b.length < 24 ∨ b.take 24 ≠ List.replicate 24 0)) := by
          have := HN.out
          rintro (h | h | h)
          · omega
          · omega
          · exact h hz0
        rw [show decide (b.take 24 = List.replicate 24 0) = true by simpa using hz0] at HEQ
        clear hz0
        go_enter Tryz.func32, Tryz.ntmps32
        go_wp2
        refine wp_region_walk 17 [(12, YB (List.replicate 24 0)), (13, .is (.bool true))] (by kernel_rfl) (by kernel_rfl) ?_
        simp only [List.take_succ_cons, List.take_zero, List.drop_succ_cons, List.drop_zero]
        repeat (first
          | (refine walk_quiet rfl rfl rfl ?_; intro K hK; go_big_quiet_op; go_big_quiet_on)
          | (refine walk_any rfl rfl (fun wx _ _ => WpYld.val make24 (YB_mk (bs_lit wx (List.replicate 24 0) _ 24 rfl rfl)) (below_alloc wx _)) (fun vz => ?_); go_frame)
          | (refine walk_is rfl rfl (fun wx hwx hd => WpYld.callIs (run_callL (vals := [s0, vz]) Tryz.func16 (by kernel_rfl) rfl rfl) (HEQ.out wx hwx vz (YB_got (hd 12 _ _ _ rfl rfl (by kernel_rfl) rfl rfl)))) ?_; go_frame))
        refine walk_nil ?_
        intro wz hbz _
        have HBZ := Lib.hid hbz
        clear hbz HEQ hr0
        go_wp2
        go_loopw [6, 7] (fun lv i wr => ∃ (k p : Nat) (L : List SymM), i = .int .i64 p ∧ p ≤ 24 * m ∧ Hid (p = 24 * (k + 1) ∧ k + 1 ≤ m) ∧ Hid (foldU (stepSym b names) k = .ok L) ∧ Hid (OwR 6 encSym 41 wr w.heap.size lv L) ∧ Hid (Below w.heap.size w wr)) (fun _ i _ => 24 * m - (intOf i).toNat)
        case atStart => exact ⟨0, 24, [], rfl, by omega, ⟨rfl, by omega⟩, rfl, OwR.nil _ _ _ _ _, HBZ.out⟩
        case round =>
          obtain ⟨k, p, L, rfl, hp, HP, HF, HO, HB⟩ := hrel
          by_cases hlt : p < 24 * m
          · have hp24 : p + 24 ≤ 24 * m := by have := HP.out; omega
            obtain ⟨vr, hrr, hbr⟩ := slice_cut HV.out p 24 (z := (p : Int)) (y := (p : Int) + 24) rfl (by omega) (by have := HN.out; omega) (by have := HN.out; omega)
            have hrl : ((b.drop p).take 24).length = 24 := by rw [List.length_take, List.length_drop]; have := HN.out; omega
            have HU0 := Lib.hid (fun wx (hx : Below w.heap.size w wx) => uAt_any ((b.drop p).take 24) 0 4 (z := 0) (y := 4) vr wx rfl rfl (by decide) (by omega) (by omega) (hbr.mono hx))
            have HU2 := Lib.hid (fun wx (hx : Below w.heap.size w wx) => uAt_any ((b.drop p).take 24) 6 2 (z := 6) (y := 2) vr wx rfl rfl (by decide) (by omega) (by omega) (hbr.mono hx))
            have HU3 := Lib.hid (fun wx (hx : Below w.heap.size w wx) => uAt_any ((b.drop p).take 24) 8 8 (z := 8) (y := 8) vr wx rfl rfl (by decide) (by omega) (by omega) (hbr.mono hx))
            have HU4 := Lib.hid (fun wx (hx : Below w.heap.size w wx) => uAt_any ((b.drop p).take 24) 16 8 (z := 16) (y := 8) vr wx rfl rfl (by decide) (by omega) (by omega) (hbr.mono hx))
            rw [cut_cut (by omega)] at HU0 HU2 HU3 HU4
            obtain ⟨ar, cr, rfl, hcr, _, hcell⟩ := hbr.open
            rw [hrl] at hcr hrr HU0 HU2 HU3 HU4
            obtain ⟨br, or, har, c4⟩ := hcell 4 (by omega)
            obtain ⟨br', or', har', c5⟩ := hcell 5 (by omega)
            subst har
            cases har'
            rw [cut_get (by omega)] at c4 c5
            replace c4 := (HB.out.cell (block_lt c4)).trans c4
            replace c5 := (HB.out.cell (block_lt c5)).trans c5
            have HREC : Hid (∀ nm, recS b (k + 1) nm = ⟨nm, ((b[p + 4]?.getD 0).toNat : Int) / 16, ((b[p + 4]?.getD 0).toNat : Int) % 16, numLE ((b.drop (p + 6)).take 2), numLE ((b.drop (p + 8)).take 8), numLE ((b.drop (p + 16)).take 8)⟩) := by
              intro nm
              rw [HP.out.1]
              unfold recS
              rw [Int.natCast_ediv, Int.natCast_emod]
              rfl
            have HREC5 : Hid (rec5 b (k + 1) = b[p + 5]?.getD 0) := by rw [HP.out.1]; rfl
            have HRECA : Hid (recAt b (k + 1) = numLE ((b.drop (p + 0)).take 4)) := by rw [HP.out.1]; rfl
            have hw2 := i64_small (Nat.lt_trans (numLE_cut b (p + 6) 2) (by decide))
            have hw0 := i64_small (numLE_cut b (p + 0) 4)
            have HLL := Lib.hid (foldSym_len b names k L HF.out)
            have hbs := HB.out.size
            have hAB := fun (x : Above wr) (b k : Nat) (h : b < wr.heap.size) => Above.cell x b k h
            have hblt : br < wr.heap.size := block_lt c4
            have hb4 : (b[p + 4]?.getD 0).toNat < 256 := UInt8.toNat_lt _
            have hb5 : (b[p + 5]?.getD 0).toNat < 256 := UInt8.toNat_lt _
            generalize b[p + 4]?.getD 0 = y4 at *
            generalize b[p + 5]?.getD 0 = y5 at *
            generalize numLE ((b.drop (p + 0)).take 4) = n0 at *
            generalize numLE ((b.drop (p + 6)).take 2) = n2 at *
            generalize numLE ((b.drop (p + 8)).take 8) = n3 at *
            generalize numLE ((b.drop (p + 16)).take 8) = n4 at *
            clear hcell hbr
            go_wp2
            refine wp_region_walk 19 [(11, .is (.int .u64 n2)), (14, .is (.int .u64 n3)), (16, .is (.int .u64 n4)), (18, .new wr.heap.size 41 6)] (by kernel_rfl) (by kernel_rfl) ?_
            simp only [List.take_succ_cons, List.take_zero, List.drop_succ_cons, List.drop_zero]
            repeat (first
              | (refine walk_quiet rfl rfl rfl ?_; intro K hK; go_big_quiet_op; go_big_quiet_on)
              | (refine walk_is rfl rfl (fun wx hwx _ => WpYld.callIs (run_callL (vals := [_, .int .i64 6, .int .i64 2]) Tryz.func63 (by kernel_rfl) rfl rfl) (HU2.out wx (HB.out.trans (hwx.mono HB.out.size)))) ?_; go_frame)
              | (refine walk_is rfl rfl (fun wx hwx _ => WpYld.callIs (run_callL (vals := [_, .int .i64 8, .int .i64 8]) Tryz.func63 (by kernel_rfl) rfl rfl) (HU3.out wx (HB.out.trans (hwx.mono HB.out.size)))) ?_; go_frame)
              | (refine walk_is rfl rfl (fun wx hwx _ => WpYld.callIs (run_callL (vals := [_, .int .i64 16, .int .i64 8]) Tryz.func63 (by kernel_rfl) rfl rfl) (HU4.out wx (HB.out.trans (hwx.mono HB.out.size)))) ?_; go_frame)
              | (refine walk_new rfl rfl (fun wx hwx _ => WpYld.val run_allocSym (Yld.new_mk _ hwx).1 (Yld.new_mk _ hwx).2) (fun gb => ?_); go_frame))
            refine walk_nil ?_
            intro wz hbz hF
            obtain ⟨hgB, cs, hgh, hgs⟩ := Yld.new_got (hF 18 _ 9 _ rfl rfl rfl rfl)
            refine wpList_storeMade hgh rfl rfl (by kernel_rfl) hgs (by simp [Value.oneCell']) hgB hbz.size ?_
            intro w1 hh1 hb1
            have hb01 := hbz.trans hb1
            have e0 := cell_rec hh1 0
            have e1 := cell_rec hh1 1
            have e2 := cell_rec hh1 2
            have e3 := cell_rec hh1 3
            have e4 := cell_rec hh1 4
            have e5 := cell_rec hh1 5
            simp only [List.getElem?_toArray, List.getElem?_cons_succ, List.getElem?_cons_zero] at e0 e1 e2 e3 e4 e5
            have c5' := (hb01.cell hblt (p := ⟨br, or + 5, none⟩)).trans c5
            have HB01 := Lib.hid hb01
            have HO1 := Lib.hid (HO.out.mono hb01)
            have HB1 := Lib.hid (HB.out.trans (hb01.mono HB.out.size))
            clear hb1 hbz hh1 hb01 hgh hgs hF hrr hw2 hAB c4 c5
            generalize (y4.toNat : Int) / 16 = zb at *
            generalize (y4.toNat : Int) % 16 = zt at *
            have KC := Lib.hid (fun w => kind_any zb zt w)
            by_cases hbad : kindB zb zt = false ∨ y5 ≠ 0
            · have HR := Lib.hid (symRd_err HC0.out (by have := HP.out; have := HN.out; omega) HF.out (step_arg (by rw [HREC.out, HREC5.out]; exact hbad)))
              cases hkb : kindB zb zt with
              | false =>
                rw [hkb] at KC
                have HX := Lib.hid hkb
                have HX2 := Lib.hid hbad
                clear hkb hbad
                go_wp2_with (go_at_call 47; refine (KC.out _).mono ?_; rintro e w2 ⟨rfl, rfl⟩)
                go_ret2
                exact ⟨_, by rw [HR.out]; rfl, by rw [HR.out]; exact OwR.nil _ _ _ _ _, HB1.out⟩
              | true =>
                have hy : ((y5.toNat : Int) != 0) = true := by
                  rw [hkb] at hbad
                  rcases hbad with h | h
                  · cases h
                  · simpa [← UInt8.toNat_inj] using h
                rw [hkb] at KC
                have HX := Lib.hid hkb
                have HX2 := Lib.hid hbad
                clear hkb hbad
                go_wp2_with (go_at_call 47; refine (KC.out _).mono ?_; rintro e w2 ⟨rfl, rfl⟩)
                go_ret2
                exact ⟨_, by rw [HR.out]; rfl, by rw [HR.out]; exact OwR.nil _ _ _ _ _, HB1.out⟩
            · have hkb : kindB zb zt = true := by
                cases h : kindB zb zt with
                | true => rfl
                | false => exact absurd (.inl h) hbad
              have hy : ((y5.toNat : Int) != 0) = false := by
                have : y5 = 0 := by
                  rcases Classical.em (y5 = 0) with h | h
                  · exact h
                  · exact absurd (.inr h) hbad
                rw [this]; rfl
              have HOKA : Hid (¬ (kindB (recS b (k + 1) []).bind (recS b (k + 1) []).typ = false ∨ rec5 b (k + 1) ≠ 0)) := by rw [HREC.out, HREC5.out]; exact hbad
              rw [hkb] at KC
              have HX := Lib.hid hkb
              clear hkb hbad
              have hlen : (L ++ [(⟨[], zb, zt, (n2 : Int), n3, n4⟩ : SymM)]).length = k + 1 := by rw [List.length_append, HLL.out]; rfl
              have HLEN := Lib.hid hlen
              clear hlen
              have hk250 : k ≤ 5000 := by have := HP.out; omega
              go_wp2_with (first
                | (go_at_call 47; refine (KC.out _).mono ?_; rintro e w2 ⟨rfl, rfl⟩)
                | ((with_reducible show wpList _ _ _ (⟨some 81, _, _, _, _, _⟩ :: _) _ _); go_must (refine wpList_pushR TSym HO1.out rfl rfl ⟨[], zb, zt, n2, n3, n4⟩ rfl rfl (by simp [Value.oneCell']) (by have := HLL.out; omega) (by have := HLL.out; omega) HB1.out.size ?_; intro v2 w2 hv2 _ hb2; have HO2 := Lib.hid hv2; have HB2 := Lib.hid (HB1.out.trans hb2); obtain ⟨g2, cap2, rfl, hg2a, hg2b, hg2c, hg2d, hg2e⟩ := HO2.out.openOwn (by rw [HLEN.out]; omega); rw [HLEN.out] at hg2c ⊢; have HG2 := Lib.hid hg2d; obtain ⟨v3, hr3, hd3⟩ := sym_from HO2.out.rd (k - 1) (z := max ((k : Int) + 1 - 2) 0) (by omega) (by rw [HLEN.out]; omega); rw [HLEN.out] at hr3; have HD3 := Lib.hid hd3; clear hv2 hb2 e0 e1 e2 e3 e4 e5 hg2d hd3)))
              have HOC := Lib.hid (ordered_any _ v3 w2 (by rw [List.length_drop, HLEN.out]; omega) HD3.out)
              have HORD : Hid (ordB ((L ++ [(⟨[], zb, zt, (n2 : Int), n3, n4⟩ : SymM)]).drop (k - 1)) = ordL L (recS b (k + 1) [])) := by
                rw [HREC.out, ← HLL.out]; exact ordB_tail L _
              cases ho : ordL L (recS b (k + 1) []) with
              | false =>
                have HR := Lib.hid (symRd_err HC0.out (by have := HP.out; have := HN.out; omega) HF.out (step_ord HOKA.out ho))
                rw [ordR_bad (HORD.out.trans ho)] at HOC
                clear ho
                refine HOC.out.mono ?_
                rintro e w3 ⟨rfl, hb3⟩
                go_wp2
                go_ret2
                exact ⟨_, by rw [HR.out]; rfl, by rw [HR.out]; exact OwR.nil _ _ _ _ _, HB2.out.trans (hb3.mono HB2.out.size)⟩
              | true =>
                have HSN : Hid ((atR names (recAt b (k + 1))).2 ≠ 0 → stepSym b names k L = .error (atR names (recAt b (k + 1))).2) := step_name HOKA.out ho
                have HSO : Hid ((atR names (recAt b (k + 1))).2 = 0 → stepSym b names k L = .ok (L ++ [recS b (k + 1) (atR names (recAt b (k + 1))).1])) := step_sym HOKA.out ho
                rw [ordR_ok (HORD.out.trans ho)] at HOC
                clear ho HORD
                generalize locs ((L ++ [(⟨[], zb, zt, (n2 : Int), n3, n4⟩ : SymM)]).drop (k - 1)) = nloc at *
                refine HOC.out.mono ?_
                rintro e w3 ⟨rfl, hb3⟩
                have HB3 := Lib.hid (HB2.out.trans (hb3.mono HB2.out.size))
                have HO3 := Lib.hid (HO2.out.mono hb3)
                have hg3b : g2 < w3.heap.size := Nat.lt_of_lt_of_le hg2b hb3.size
                have hcell3 : w3.cell? ⟨g2, k * 6 + 0, none⟩ = some (.string ⟨#[]⟩) := by
                  have h1 := HG2.out (k * 6 + 0) (by rw [flat_len (k := 6) (fun _ => rfl), HLEN.out]; omega)
                  have h2 := flat_get (k := 6) (enc := encSym) (fun _ => rfl) (L ++ [(⟨[], zb, zt, (n2 : Int), n3, n4⟩ : SymM)]) k 0 ⟨[], zb, zt, (n2 : Int), n3, n4⟩ (by rw [List.getElem?_append_right (by rw [HLL.out]; omega), HLL.out]; simp) (by omega)
                  rw [h2] at h1
                  exact (hb3.cell (block_lt h1)).trans h1
                have hfz3 : w3.frozen? ⟨g2, k * 6 + 0, none⟩ = false := by
                  have := HO3.out.frozenAt (k * 6 + 0)
                  exact this
                have HA := Lib.hid (fun wx (hx : Below w.heap.size w wx) => strsAt_any names (n0 : Int) u wx HLN.out (HU.out.mono hx))
                rw [HRECA.out] at HSN HSO
                clear hb3
                go_wp2_with fail
                refine (HU0.out w3 HB3.out).mono ?_
                rintro e w4 ⟨rfl, rfl⟩
                go_wp2_with fail
                refine (HA.out w3 HB3.out).mono ?_
                rintro e w4 ⟨rfl, rfl⟩
                rw [Nat.add_zero] at hcell3 hfz3
                generalize atR names (n0 : Int) = r at *
                obtain ⟨nm, z⟩ := r
                by_cases hz : z = 0
                · have HF1 := Lib.hid (foldU_ok HF.out (HSO.out hz))
                  subst hz
                  have HO4 : Hid (OwR 6 encSym 41 (w3.setCell ⟨g2, k * 6, none⟩ (S nm)) w.heap.size (.slice (some ⟨g2, 0, none⟩) (k + 1) cap2) (L ++ [recS b (k + 1) nm])) := by
                    have h1 := HO3.out
                    unfold OwR at h1 ⊢
                    rw [HLEN.out] at h1
                    have h2 := (World.ownsRow.stored h1 (k * 6) (S nm)).1
                    have h3 := set_last (k := 6) (enc := encSym) (fun _ => rfl) L ⟨[], zb, zt, (n2 : Int), n3, n4⟩ ⟨nm, zb, zt, (n2 : Int), n3, n4⟩ (S nm) 0 rfl
                    rw [HLL.out, Nat.add_zero] at h3
                    rw [h3] at h2
                    rw [List.length_append, HLL.out, HREC.out]
                    exact h2
                  have HB4 : Hid (Below w.heap.size w (w3.setCell ⟨g2, k * 6, none⟩ (S nm))) := HB3.out.setCell hg2a _
                  have HP1 : Hid (p + 24 = 24 * (k + 1 + 1) ∧ k + 1 + 1 ≤ m) := by have := HP.out; constructor <;> omega
                  clear HO3 HO2 HSN HSO HG2
                  go_wp2
                  go_roundw
                  case rel =>
                    first
                      | exact ⟨k + 1, p + 24, _, by go_num, by omega, HP1.out, HF1.out, HO4.out, HB4.out⟩
                      | ((repeat apply Exists.intro); exact ⟨⟨k + 1, p + 24, _, by go_num, by omega, HP1.out, HF1.out, HO4.out, HB4.out⟩, rfl⟩)
                  case measure => simp [intOf] <;> omega
                · have HR := Lib.hid (symRd_err HC0.out (by have := HP.out; have := HN.out; omega) HF.out (HSN.out hz))
                  have hz2 : (z != 0) = true := by simpa using hz
                  have HZ := Lib.hid hz
                  clear hz HSN HSO
                  go_wp2
                  go_ret2
                  exact ⟨_, by rw [HR.out]; rfl, by rw [HR.out]; exact OwR.nil _ _ _ _ _, HB3.out⟩
          · have HRD := Lib.hid (symRd_ok HC0.out (by have := HP.out; have := HN.out; omega) HF.out)
            clear HF
            go_wp2
            go_ret2
            exact ⟨_, by rw [HRD.out]; rfl, by rw [HRD.out]; exact HO.out, HB.out⟩
      · have HR := Lib.hid (symRd_form (b := b) (names := names) (.inr (.inr hz0)))
        rw [show decide (b.take 24 = List.replicate 24 0) = false by simpa using hz0] at HEQ
        have HZ0 := Lib.hid hz0
        clear hz0
        go_enter Tryz.func32, Tryz.ntmps32
        go_wp2
        refine wp_region_walk 17 [(12, YB (List.replicate 24 0)), (13, .is (.bool false))] (by kernel_rfl) (by kernel_rfl) ?_
        simp only [List.take_succ_cons, List.take_zero, List.drop_succ_cons, List.drop_zero]
        repeat (first
          | (refine walk_quiet rfl rfl rfl ?_; intro K hK; go_big_quiet_op; go_big_quiet_on)
          | (refine walk_any rfl rfl (fun wx _ _ => WpYld.val make24 (YB_mk (bs_lit wx (List.replicate 24 0) _ 24 rfl rfl)) (below_alloc wx _)) (fun vz => ?_); go_frame)
          | (refine walk_is rfl rfl (fun wx hwx hd => WpYld.callIs (run_callL (vals := [s0, vz]) Tryz.func16 (by kernel_rfl) rfl rfl) (HEQ.out wx hwx vz (YB_got (hd 12 _ _ _ rfl rfl (by kernel_rfl) rfl rfl)))) ?_; go_frame))
        refine walk_nil ?_
        intro wz hbz _
        go_wp2
        go_ret2
        exact ⟨_, by rw [HR.out]; rfl, by rw [HR.out]; exact OwR.nil _ _ _ _ _, hbz⟩
  · have HR := Lib.hid (symRd_form (b := b) (names := names) (.inl (by rw [← HN.out]; exact h0)))
    have hz : ((n : Int) % 24 == 0) = false := by simp; omega
    have hz2 : ((n : Int) % 24 != 0) = true := by simp; omega
    have hz3 : ¬ (16384 : Int) < (n : Int) / 24 - 1 := by omega
    go_enter Tryz.func32, Tryz.ntmps32
    go_wp2
    refine wp_region_walk 17 [] (by kernel_rfl) (by kernel_rfl) ?_
    simp only [List.take_succ_cons, List.take_zero, List.drop_succ_cons, List.drop_zero]
    repeat (first
      | (refine walk_quiet rfl rfl rfl ?_; intro K hK; go_big_quiet_op; go_big_quiet_on)
      | (refine walk_skip rfl ?_; go_frame))
    refine walk_nil ?_
    intro wz hbz _
    go_wp2
    go_ret2
    exact ⟨_, by rw [HR.out]; rfl, by rw [HR.out]; exact OwR.nil _ _ _ _ _, hbz⟩
end Go.Proofs.YtimnbnomaajmmaaGreat
namespace Go.Fd
theorem flat_dropB {α β : Type} {k : Nat} {f : α → List β} (hk : ∀ x, (f x).length = k) : ∀ (l : List α) (i : Nat), (l.flatMap f).drop (k * i) = (l.drop i).flatMap f := by
  intro l
  induction l with
  | nil => intro i; simp
  | cons x l ih =>
    intro i
    cases i with
    | zero => simp
    | succ i =>
      rw [List.flatMap_cons, List.drop_succ_cons, ← ih i, List.drop_append, hk, List.drop_eq_nil_of_le (by rw [hk, Nat.mul_succ]; omega)]
      simp [Nat.mul_succ]
theorem flat_head {α β : Type} {k : Nat} {f : α → List β} (hk : ∀ x, (f x).length = k) {l : List α} {i : Nat} {x : α} (h : l[i]? = some x) : ∃ r, (l.flatMap f).drop (k * i) = f x ++ r := by
  obtain ⟨h1, h2⟩ := List.getElem?_eq_some_iff.1 h
  rw [flat_dropB hk, List.drop_eq_getElem_cons h1, h2, List.flatMap_cons]
  exact ⟨_, rfl⟩
end Go.Fd
namespace Go.Proofs.YtimnbnomaajmmaaGreat
open Go.RowKit Go.Fd
theorem fixed_get (n : Nat) : ∀ s : Nat, numLE (fixed n s) = n % 256 ^ s := by
  intro s
  induction s generalizing n with
  | zero => simp [fixed, numLE, Nat.mod_one]
  | succ s ih =>
    rw [fixed, numLE, ih]
    have h1 : (UInt8.ofNat n).toNat = n % 256 := by simp
    have h2 : n % 256 ^ (s + 1) = n % 256 + 256 * (n / 256 % 256 ^ s) := by rw [Nat.pow_succ, Nat.mul_comm, Nat.mod_mul]
    rw [h2]
    simp
theorem sym_at {l : List SymM} {ats : List Nat} {k : Nat} {x : SymM} {p : Nat} (hx : l[k]? = some x) (hp : ats[k]? = some p) (hb : symBad x = false) (hpl : p < 4294967296) (hwf : x.value < 18446744073709551616 ∧ x.size < 18446744073709551616) :
    (∀ nm, recS (symsB l ats) (k + 1) nm = { x with name := nm }) ∧ recAt (symsB l ats) (k + 1) = p ∧ rec5 (symsB l ats) (k + 1) = 0 := by
  obtain ⟨r, hr⟩ := flat_head symB_len (show (l.zip ats)[k]? = some (x, p) by rw [List.getElem?_zip_eq_some]; exact ⟨hx, hp⟩)
  have hD : (symsB l ats).drop (24 * (k + 1)) = symB (x, p) ++ r := by
    unfold symsB
    rw [show 24 * (k + 1) = (List.replicate 24 (0 : UInt8)).length + 24 * k by simp; omega, List.drop_length_add_append]
    exact hr
  have hg : ∀ j, (symsB l ats)[24 * (k + 1) + j]? = (symB (x, p) ++ r)[j]? := fun j => by rw [← hD, List.getElem?_drop]
  have hd : ∀ j, (symsB l ats).drop (24 * (k + 1) + j) = (symB (x, p) ++ r).drop j := fun j => by rw [← hD, List.drop_drop]
  have hk : kindB x.bind x.typ = true ∧ 0 ≤ x.sec ∧ x.sec ≤ 65535 := by
    unfold symBad at hb
    simp at hb
    exact ⟨hb.1.1, by omega, by omega⟩
  obtain ⟨k1, k2, k3⟩ := hk
  obtain ⟨q1, q2, q3, q4⟩ := kindB_pos k1
  have hi := info_u8 (s := x) q1 q2 q3 q4
  refine ⟨fun nm => ?_, ?_, ?_⟩
  · unfold recS
    rw [hg, hd, hd, hd]
    have e4 : (symB (x, p) ++ r)[4]?.getD 0 = infoB x := by simp [symB, length_fixed]
    have e6 : ((symB (x, p) ++ r).drop 6).take 2 = fixed (u64of x.sec) 2 := by simp [symB, List.drop_append, List.take_append, length_fixed]
    have e8 : ((symB (x, p) ++ r).drop 8).take 8 = fixed x.value 8 := by simp [symB, List.drop_append, List.take_append, length_fixed]
    have e16 : ((symB (x, p) ++ r).drop 16).take 8 = fixed x.size 8 := by simp [symB, List.drop_append, length_fixed, List.drop_eq_nil_of_le]
    rw [e4, e6, e8, e16, fixed_get, fixed_get, fixed_get]
    have h1 : u64of x.sec % 256 ^ 2 = x.sec.toNat := by rw [u64of_pos k2 (by omega)]; exact Nat.mod_eq_of_lt (by omega)
    rw [h1, Nat.mod_eq_of_lt (show x.value < 256 ^ 8 by simpa using hwf.1), Nat.mod_eq_of_lt (show x.size < 256 ^ 8 by simpa using hwf.2)]
    cases x
    simp only [SymM.mk.injEq, true_and]
    simp only at hi q1 q2 q3 q4 k2 k3
    refine ⟨by omega, by omega, by omega, ?_⟩
    first
      | trivial
      | exact ⟨rfl, rfl⟩
  · unfold recAt
    rw [← Nat.add_zero (24 * (k + 1)), hd]
    have e0 : ((symB (x, p) ++ r).drop 0).take 4 = fixed p 4 := by simp [symB, length_fixed]
    rw [e0, fixed_get]
    exact Nat.mod_eq_of_lt (by omega)
  · unfold rec5
    rw [hg]
    simp [symB, List.getElem?_append, length_fixed]
theorem symW_0 {l : List SymM} (h : (symW l).2.2.2 = 0) : l.any symBad = false ∧ ordB l = true ∧ (buildR (l.map (·.name))).2.2 = 0 ∧ symW l = (symsB l (buildR (l.map (·.name))).2.1, (buildR (l.map (·.name))).1, locs l + 1, 0) := by
  unfold symW at h
  split at h
  · cases h
  · next h1 =>
    split at h
    · cases h
    · next h2 =>
      split at h
      · next h3 => exact ⟨by simpa using h1, by simpa using h2, h3, symW_ok (by simpa using h1) (by simpa using h2) h3⟩
      · next h3 => exact absurd h h3
theorem sym_back {l : List SymM} (h : (symW l).2.2.2 = 0) (hl : l.length ≤ 1000) (hwf : ∀ s ∈ l, s.value < 18446744073709551616 ∧ s.size < 18446744073709551616) : symRd (symW l).1 (symW l).2.1 = (l, 0) := by
  obtain ⟨h1, h2, h3, h4⟩ := symW_0 h
  obtain ⟨a1, a2⟩ := ats_ok h3 (by rw [List.length_map]; exact hl)
  obtain ⟨b1, b2⟩ := build_ok h3
  rw [h4]
  dsimp only
  generalize hA : (buildR (l.map (·.name))).2.1 = ats at *
  generalize hT : (buildR (l.map (·.name))).1 = T at *
  rw [List.length_map] at a1
  have hlen : (symsB l ats).length = 24 * (l.length + 1) := by
    unfold symsB
    rw [List.length_append, List.length_replicate, flat_len' symB_len, List.length_zip]
    omega
  have h24 : (symsB l ats).take 24 = List.replicate 24 0 := by
    unfold symsB
    rw [List.take_append_of_le_length (by simp)]
    rfl
  have hf : ∀ k, k ≤ l.length → foldU (stepSym (symsB l ats) T) k = .ok (l.take k) := by
    intro k
    induction k with
    | zero => intro _; rfl
    | succ k ih =>
      intro hk
      have hx : l[k]? = some l[k] := List.getElem?_eq_getElem (by omega)
      have hp : ats[k]? = some ats[k] := List.getElem?_eq_getElem (by omega)
      generalize l[k] = x at hx
      generalize ats[k] = p at hp
      have hm := List.mem_of_getElem? hx
      have hb : symBad x = false := by simpa using List.any_eq_false.1 h1 x hm
      have hpl := a2 p (List.mem_of_getElem? hp)
      obtain ⟨s1, s2, s3⟩ := sym_at hx hp hb (by omega) (hwf x hm)
      have hkb : kindB x.bind x.typ = true := by
        unfold symBad at hb
        simp at hb
        exact hb.1.1
      have hat : atR T (p : Int) = (x.name, 0) := by
        obtain ⟨p', e1, -, e3, e4⟩ := build_at b1 (i := k) (s := x.name) (by rw [List.getElem?_map, hx]; rfl)
        rw [b2] at hA hT
        dsimp only at hA hT
        rw [hA, hp] at e1
        cases e1
        rw [hT] at e3
        exact at_place e3 e4
      have hord : ordL (l.take k) x = true := by
        unfold ordL
        by_cases hx0 : x.bind = 0
        · cases hg : (l.take k).getLast? with
          | none => simp
          | some y =>
            rw [List.getLast?_eq_getElem?, List.getElem?_take] at hg
            split at hg
            · have hlt : (l.take k).length - 1 < k := by assumption
              rw [List.length_take, Nat.min_eq_left (by omega)] at hg hlt
              have := ordB_get h2 (i := k - 1) hg (b := x) (by rw [show k - 1 + 1 = k by omega]; exact hx) hx0
              simp [this]
            · cases hg
        · simp [hx0]
      refine foldU_ok (ih (by omega)) ?_
      rw [step_sym (by rw [s1, s3]; simp [hkb]) (by rw [s1]; exact hord) (by rw [s2, hat]), s2, hat, s1, List.take_add_one, hx]
      rfl
  have := hf l.length (Nat.le_refl _)
  rw [List.take_length] at this
  exact symRd_ok (by rw [hlen]; rintro (e | e | e); omega; omega; exact e h24) (by rw [hlen]; omega) this
theorem rela_at {l : List RelaM} {k : Nat} {x : RelaM} (hx : l[k]? = some x) (hb : relaBad x = false) (hw : x.off < 18446744073709551616) (ha : -9223372036854775808 ≤ x.add ∧ x.add < 9223372036854775808) : recR (l.flatMap relaB) k = x := by
  obtain ⟨r, hr⟩ := flat_head relaB_len hx
  have hd : ∀ j, (l.flatMap relaB).drop (24 * k + j) = (relaB x ++ r).drop j := fun j => by rw [← hr, List.drop_drop]
  have hk : 0 ≤ x.typ ∧ x.typ ≤ 4294967295 ∧ 0 ≤ x.sym ∧ x.sym ≤ 2147483647 := by
    unfold relaBad at hb
    simp at hb
    omega
  obtain ⟨k1, k2, k3, k4⟩ := hk
  unfold recR
  rw [hr, hd, hd, hd]
  have e0 : (relaB x ++ r).take 8 = fixed x.off 8 := by simp [relaB, length_fixed]
  have e8 : ((relaB x ++ r).drop 8).take 4 = fixed (u64of x.typ) 4 := by simp [relaB, length_fixed]
  have e12 : ((relaB x ++ r).drop 12).take 4 = fixed (u64of x.sym) 4 := by simp [relaB, List.drop_append, List.take_append, length_fixed]
  have e16 : ((relaB x ++ r).drop 16).take 8 = fixed (u64of x.add) 8 := by simp [relaB, List.drop_append, length_fixed, List.drop_eq_nil_of_le]
  rw [e0, e8, e12, e16, fixed_get, fixed_get, fixed_get, fixed_get]
  have h1 : u64of x.typ % 256 ^ 4 = x.typ.toNat := by rw [u64of_pos k1 (by omega)]; exact Nat.mod_eq_of_lt (by omega)
  have h2 : u64of x.sym % 256 ^ 4 = x.sym.toNat := by rw [u64of_pos k3 (by omega)]; exact Nat.mod_eq_of_lt (by omega)
  have h3 : u64of x.add % 256 ^ 8 = u64of x.add := Nat.mod_eq_of_lt (by have := u64of_lt x.add; simpa using this)
  rw [h1, h2, h3, Nat.mod_eq_of_lt (show x.off < 256 ^ 8 by simpa using hw)]
  cases x
  simp only [RelaM.mk.injEq]
  simp only at k1 k2 k3 k4 ha
  refine ⟨trivial, by omega, by omega, ?_⟩
  unfold wrap64 u64of
  omega
theorem rela_back {l : List RelaM} (h : (relaW l).2 = 0) (hwf : ∀ x ∈ l, x.off < 18446744073709551616 ∧ -9223372036854775808 ≤ x.add ∧ x.add < 9223372036854775808) : relaRd (relaW l).1 = (l, 0) := by
  unfold relaW at h ⊢
  split at h
  · cases h
  · next h1 =>
    rw [if_neg h1]
    have h1' : l.any relaBad = false := by simpa using h1
    have hlen := rela_len l
    have hf : ∀ k, k ≤ l.length → foldU (stepRela (l.flatMap relaB)) k = .ok (l.take k) := by
      intro k
      induction k with
      | zero => intro _; rfl
      | succ k ih =>
        intro hk
        have hx : l[k]? = some l[k] := List.getElem?_eq_getElem (by omega)
        generalize l[k] = x at hx
        have hm := List.mem_of_getElem? hx
        have hb : relaBad x = false := by simpa using List.any_eq_false.1 h1' x hm
        have hr := rela_at hx hb (hwf x hm).1 (hwf x hm).2
        rw [relaRd_step (ih (by omega)) (by rw [hr]; unfold relaBad at hb; simp at hb; omega), hr, List.take_add_one, hx]
        rfl
    have := hf l.length (Nat.le_refl _)
    rw [List.take_length] at this
    exact relaRd_ok (by rw [hlen]; omega) (by rw [hlen]; omega) this
theorem relaRd_len (b : List UInt8) : (relaRd b).1.length ≤ b.length / 24 := by
  unfold relaRd
  split
  · split
    · next L hL => rw [foldRela_len b _ _ hL]; exact Nat.le_refl _
    · simp
  · simp
end Go.Proofs.YtimnbnomaajmmaaGreat
namespace Go.Fd
structure SecM where
  name : List UInt8
  typ : Nat
  flags : Nat
  addr : Nat
  align : Nat
  size : Nat
  link : Nat
  info : Nat
  ent : Nat
  data : List UInt8
deriving DecidableEq
structure SegM where
  typ : Nat
  flags : Nat
  off : Nat
  vaddr : Nat
  filesz : Nat
  memsz : Nat
  align : Nat
deriving DecidableEq
structure ElfM where
  typ : Int
  target : Int
  flags : Nat
  entry : Nat
  secs : List SecM
  segs : List SegM
deriving DecidableEq
abbrev encSec (p : SecM × Value) : List Value := [.string ⟨p.1.name.toArray⟩, .int .u32 (p.1.typ : Int), .int .u64 (p.1.flags : Int), .int .u64 (p.1.addr : Int), .int .u64 (p.1.align : Int), .int .u64 (p.1.size : Int), .int .u32 (p.1.link : Int), .int .u32 (p.1.info : Int), .int .u64 (p.1.ent : Int), p.2]
abbrev encSeg (s : SegM) : List Value := [.int .u32 (s.typ : Int), .int .u32 (s.flags : Int), .int .u64 (s.off : Int), .int .u64 (s.vaddr : Int), .int .u64 (s.filesz : Int), .int .u64 (s.memsz : Int), .int .u64 (s.align : Int)]
/-- What a section's, a segment's, a file's numbers are at most. -/
def SecM.fits (s : SecM) : Prop := s.typ < 4294967296 ∧ s.flags < 18446744073709551616 ∧ s.addr < 18446744073709551616 ∧ s.align < 18446744073709551616 ∧ s.size < 18446744073709551616 ∧ s.link < 4294967296 ∧ s.info < 4294967296 ∧ s.ent < 18446744073709551616
def SegM.fits (s : SegM) : Prop := s.typ < 4294967296 ∧ s.flags < 4294967296 ∧ s.off < 18446744073709551616 ∧ s.vaddr < 18446744073709551616 ∧ s.filesz < 18446744073709551616 ∧ s.memsz < 18446744073709551616 ∧ s.align < 18446744073709551616
structure ElfM.fits (e : ElfM) : Prop where
  typ : -9223372036854775808 ≤ e.typ ∧ e.typ < 9223372036854775808
  target : -9223372036854775808 ≤ e.target ∧ e.target < 9223372036854775808
  flags : e.flags < 4294967296
  entry : e.entry < 18446744073709551616
  secs : ∀ s ∈ e.secs, s.fits
  segs : ∀ s ∈ e.segs, s.fits
/-- A power of 2 up to the greatest? -/
def powB (n : Nat) : Bool := decide (1 ≤ n) && decide (n ≤ 65536) && decide (n &&& (n - 1) = 0)
theorem powB_le {n : Nat} (h : powB n = true) : 1 ≤ n ∧ n ≤ 65536 := by
  unfold powB at h; simp at h; omega
theorem powB_iff {n : Nat} : powB n = true ↔ ∃ k, k ≤ 16 ∧ n = 2 ^ k := by
  constructor
  · intro h
    have hb := powB_le h
    unfold powB at h
    simp only [Bool.and_eq_true, decide_eq_true_eq] at h
    obtain ⟨k, hk⟩ := (Nat.and_sub_one_eq_zero_iff_isPowerOfTwo (by omega)).1 h.2
    refine ⟨k, ?_, hk⟩
    rcases Nat.lt_or_ge 16 k with h16 | h16
    · exfalso
      have : 2 ^ 17 ≤ 2 ^ k := Nat.pow_le_pow_right (by omega) h16
      omega
    · exact h16
  · rintro ⟨k, hk, rfl⟩
    have h1 : 1 ≤ 2 ^ k := Nat.one_le_two_pow
    have h2 : 2 ^ k ≤ 2 ^ 16 := Nat.pow_le_pow_right (by omega) hk
    unfold powB
    simp only [Bool.and_eq_true, decide_eq_true_eq]
    exact ⟨⟨h1, by simpa using h2⟩, (Nat.and_sub_one_eq_zero_iff_isPowerOfTwo (by omega)).2 ⟨k, rfl⟩⟩
/-- A target's number. -/
def mach (t : Int) : Nat := if t = 1 then 62 else if t = 2 then 183 else if t = 3 then 243 else 0
theorem mach_le (t : Int) : mach t ≤ 243 := by
  unfold mach
  split
  · omega
  · split
    · omega
    · split <;> omega
/-- May a section be, but for its name's letters? -/
def fineB (s : SecM) : Bool := !decide (s.typ = 0) && powB s.align && !decide (s.name = []) && (if s.typ = 8 then decide (s.data.length = 0) && decide (s.size ≤ 1073741824) else decide (s.size = s.data.length))
def upN (n a : Nat) : Nat := (n + a - 1) / a * a
theorem upN_le {n a : Nat} (h : 1 ≤ a) : n ≤ upN n a ∧ upN n a < n + a := by
  unfold upN
  have h1 := Nat.div_add_mod (n + a - 1) a
  have h2 := Nat.mod_lt (n + a - 1) (by omega : a > 0)
  rw [Nat.mul_comm] at h1
  omega
/-- Where a section begins, from the end of what is ahead on; g: are there segments? -/
def placeS (g : Bool) (p : Nat) (s : SecM) : Nat :=
  if s.typ = 8 then p else if (g && decide (s.flags &&& 2 ≠ 0)) = true then p + (s.addr + 18446744073709551616 - p) % 18446744073709551616 % 4096 else upN p s.align
def plStep (g : Bool) (p : List Nat × Nat) (s : SecM) : List Nat × Nat := (p.1 ++ [placeS g p.2 s], placeS g p.2 s + s.data.length)
/-- All places, and the end. -/
def plF (g : Bool) (n : Nat) (l : List SecM) : List Nat × Nat := l.foldl (plStep g) ([], n)
theorem plF_step {g : Bool} {n : Nat} {l : List SecM} {k : Nat} {x : SecM} (h : l[k]? = some x) : plF g n (l.take (k + 1)) = plStep g (plF g n (l.take k)) x := by
  rw [List.take_add_one, h]
  unfold plF
  rw [List.foldl_append]
  rfl
theorem plF_len {g : Bool} {n : Nat} (l : List SecM) : (plF g n l).1.length = l.length := by
  have : ∀ k, k ≤ l.length → (plF g n (l.take k)).1.length = k := by
    intro k
    induction k with
    | zero => intro _; rfl
    | succ k ih =>
      intro hk
      rw [plF_step (List.getElem?_eq_getElem (by omega : k < l.length))]
      simp [plStep, ih (by omega)]
  have h := this l.length (Nat.le_refl _)
  rwa [List.take_length] at h
def dsum (l : List SecM) : Nat := (l.map (·.data.length)).sum
theorem dsum_step {l : List SecM} {k : Nat} {x : SecM} (h : l[k]? = some x) : dsum (l.take (k + 1)) = dsum (l.take k) + x.data.length := by
  rw [List.take_add_one, h]
  unfold dsum
  simp
theorem dsum_take (l : List SecM) (k : Nat) : dsum (l.take k) ≤ dsum l := by
  unfold dsum
  rw [show (l.map (·.data.length)).sum = ((l.take k ++ l.drop k).map (·.data.length)).sum by rw [List.take_append_drop], List.map_append, List.sum_append]
  omega
theorem dsum_mem {l : List SecM} {s : SecM} (h : s ∈ l) : s.data.length ≤ dsum l := by
  obtain ⟨k, hk⟩ := List.mem_iff_getElem?.1 h
  have h1 := dsum_step hk
  have h2 := dsum_take l (k + 1)
  omega
theorem placeS_le {g : Bool} {p : Nat} {s : SecM} (h : powB s.align = true) : p ≤ placeS g p s ∧ placeS g p s ≤ p + 65536 := by
  have ha := powB_le h
  unfold placeS
  split
  · omega
  · split
    · omega
    · have := upN_le (n := p) ha.1
      omega
theorem plF_le {g : Bool} {n : Nat} {l : List SecM} (h : ∀ s ∈ l, powB s.align = true) : n ≤ (plF g n l).2 ∧ (plF g n l).2 ≤ n + 65536 * l.length + dsum l ∧ ∀ p ∈ (plF g n l).1, n ≤ p ∧ p ≤ n + 65536 * l.length + dsum l := by
  have : ∀ k, k ≤ l.length → n ≤ (plF g n (l.take k)).2 ∧ (plF g n (l.take k)).2 ≤ n + 65536 * k + dsum (l.take k) ∧ ∀ p ∈ (plF g n (l.take k)).1, n ≤ p ∧ p ≤ n + 65536 * k + dsum (l.take k) := by
    intro k
    induction k with
    | zero => intro _; simp [plF]
    | succ k ih =>
      intro hk
      have hx : l[k]? = some l[k] := List.getElem?_eq_getElem (by omega)
      obtain ⟨h1, h2, h3⟩ := ih (by omega)
      rw [plF_step hx, dsum_step hx]
      have h4 := placeS_le (g := g) (p := (plF g n (l.take k)).2) (h _ (List.mem_of_getElem? hx))
      refine ⟨by show _ ≤ placeS _ _ _ + _; omega, by show placeS _ _ _ + _ ≤ _; omega, fun p hp => ?_⟩
      simp only [plStep, List.mem_append, List.mem_singleton] at hp
      rcases hp with hp | rfl
      · have := h3 p hp; omega
      · omega
  have h := this l.length (Nat.le_refl _)
  rwa [List.take_length] at h
end Go.Fd
namespace Go.Proofs.YtimnbnomaajmmaaGreat
open Go.RowKit Go.Fd
def tabName : List UInt8 := [46, 115, 104, 115, 116, 114, 116, 97, 98]
/-- The names of all sections, and the table's own. -/
def namesOf (l : List SecM) : List (List UInt8) := l.map (·.name) ++ [tabName]
def tabOf (e : ElfM) : List UInt8 := (buildR (namesOf e.secs)).1
def segsB (e : ElfM) : Bool := decide (0 < e.segs.length)
def front (e : ElfM) : Nat := 64 + 56 * e.segs.length
def placesOf (e : ElfM) : List Nat × Nat := plF (segsB e) (front e) e.secs
def headsOf (e : ElfM) (t : Nat) : Nat := upN ((placesOf e).2 + t) 8
/-- May a file be, up to its names and its length? -/
def may1 (e : ElfM) : Bool := (decide (e.typ = 1) || decide (e.typ = 2)) && !decide (mach e.target = 0) && decide (e.secs.length ≤ 250) && decide (e.segs.length ≤ 16)
def may2 (e : ElfM) : Bool := e.secs.all (fun s => fineB s && decide (s.data.length ≤ 4194304)) && e.segs.all fun s => powB s.align
def may3 (e : ElfM) : Bool := decide ((buildR (namesOf e.secs)).2.2 = 0) && decide (headsOf e (tabOf e).length + 64 * (e.secs.length + 2) ≤ 4194304)
def mayE (e : ElfM) : Bool := may1 e && may2 e && may3 e
end Go.Proofs.YtimnbnomaajmmaaGreat
