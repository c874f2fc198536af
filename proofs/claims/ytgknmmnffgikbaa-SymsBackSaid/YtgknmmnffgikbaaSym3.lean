/-
  Relocations as bytes: written.
-/
import Derived.Test.YtgknmmnffgikbaaSym2
import Derived.Deep.WholeRow
import Derived.Deep.RegionWith
namespace Go.Fd
open Go.RowKit
section
variable {P : Program} {ops : Array Oper} {rest : List Oper} {Q : Exit → Act → World → Prop} {a : Act} {w : World}
/-- A whole record into the block that was made last. -/
theorem wpList_storeNew {d : Option Tmp} {ty t : TypeId} {pos : String} {aft : Array Edge} {p x : Operand} {c c' : Array Value} (hp : a.eval p = .pointer (some ⟨w.heap.size, 0, none⟩)) (hx : a.eval x = .agg c')
    (hi : (P.info? t).map (·.size) = some c'.size) (ho : c.size = c'.size) (h1 : c'.all (·.oneCell') = true)
    (h : ∀ w1, w1.heap[w.heap.size]? = some (.cells c' t (0, 0)) → Below w.heap.size w w1 → wpList P ops Q rest (a.put d undef) w1) :
    wpList P ops Q (⟨d, .store t p x, ty, pos, aft, none⟩ :: rest) a (w.alloc (.cells c t)) := by
  refine wpList_did rfl ?_ (h (w.alloc (.cells c' t)) (heap_alloc_last w _) (below_alloc w _))
  simp only [execOp, hp, hx, Sem.run_bind, run_storeAt_new w t c c' hi ho h1, Result.andThen_ok]
  rfl
theorem cell_rec {w : World} {g : Nat} {cs : Array Value} {t : TypeId} {fr : Nat × Nat} (h : w.heap[g]? = some (.cells cs t fr)) (c : Nat) : w.cell? ⟨g, c, none⟩ = cs[c]? := cell_of_row w g c cs t fr h
end
/-- Of an int64 its 64 bits. -/
def u64of (x : Int) : Nat := (x % 18446744073709551616).toNat
theorem u64of_lt (x : Int) : u64of x < 18446744073709551616 := by unfold u64of; omega
theorem u64of_cast (x : Int) : IntKind.u64.wrap x = ((u64of x : Nat) : Int) := by
  unfold u64of
  simp [IntKind.wrap, IntKind.bits, IntKind.signed]
  omega
theorem u64of_pos {x : Int} (h : 0 ≤ x) (h2 : x < 18446744073709551616) : u64of x = x.toNat := by unfold u64of; omega
end Go.Fd
namespace Go.Proofs.Ytgknmmnffgikbaa
open Go.RowKit Go.Fd

/-- May it not be? -/
def relaBad (r : RelaM) : Bool := decide (r.typ < 0) || decide (4294967295 < r.typ) || decide (r.sym < 0) || decide (2147483647 < r.sym)
def relaB (r : RelaM) : List UInt8 := fixed r.off 8 ++ fixed (u64of r.typ) 4 ++ fixed (u64of r.sym) 4 ++ fixed (u64of r.add) 8
def relaW (l : List RelaM) : List UInt8 × Int := if l.any relaBad = true then ([], 3) else (l.flatMap relaB, 0)

theorem relaB_len (r : RelaM) : (relaB r).length = 24 := by simp [relaB, length_fixed]
theorem rela_len (l : List RelaM) : (l.flatMap relaB).length = l.length * 24 := flat_len' relaB_len l
theorem rela_bad {l : List RelaM} {k : Nat} {x : RelaM} (h : l[k]? = some x) (hb : relaBad x = true) : relaW l = ([], 3) := by
  unfold relaW
  rw [if_pos (List.any_eq_true.2 ⟨x, List.mem_of_getElem? h, hb⟩)]
theorem rela_step {l : List RelaM} {k : Nat} {x : RelaM} (h : l[k]? = some x) (h0 : (l.take k).any relaBad = false) (hb : relaBad x = false) : (l.take (k + 1)).any relaBad = false := by
  rw [List.take_add_one, h, List.any_append, h0]
  simp [hb]
theorem rela_done {l : List RelaM} {k : Nat} (h : l.length ≤ k) (h0 : (l.take k).any relaBad = false) : relaW l = (l.flatMap relaB, 0) := by
  rw [List.take_of_length_le h] at h0
  unfold relaW
  rw [if_neg (by simp [h0])]
theorem flat_step {α β : Type} {f : α → List β} {l : List α} {k : Nat} {x : α} (h : l[k]? = some x) : (l.take (k + 1)).flatMap f = (l.take k).flatMap f ++ f x := by
  rw [List.take_add_one, h]; simp

set_option maxHeartbeats 1000000 in
set_option maxRecDepth 100000 in
theorem writeRela_any (l : List RelaM) (v : Value) (w : World) (hl : l.length ≤ 1000) (hwf : ∀ r ∈ l, r.off < 18446744073709551616) (hv : RdR 4 encRela w v l) :
    Calls Try.prog 28 #[v] w fun e w' => ∃ v', e = .returned (.tuple #[v', .int .i64 (relaW l).2]) ∧ OB w' w.heap.size v' (relaW l).1 ∧ Below w.heap.size w w' := by
  obtain ⟨a, ca, rfl, hca, -, hc⟩ := hv.open (fun _ => rfl)
  have HC := Lib.hid hc
  have HWF := Lib.hid hwf
  obtain ⟨nl, hnl⟩ : ∃ n, n = l.length := ⟨_, rfl⟩
  rw [← hnl] at hl hca ⊢
  have HL := Lib.hid hnl
  clear hc hv hnl hwf
  go_enter Try.func28, Try.ntmps28
  go_wp2
  go_loopw [11] (fun i wr => ∃ k : Nat, i = .int .i64 k ∧ k ≤ nl ∧ Hid ((l.take k).any relaBad = false) ∧ Hid (Below w.heap.size w wr)) (fun i _ => nl - (intOf i).toNat)
  case atStart => exact ⟨0, rfl, Nat.zero_le _, by simp [Hid], Below.refl _ _⟩
  case round =>
    obtain ⟨k, rfl, hk, HT, HB⟩ := hrel
    by_cases hlt : k < nl
    · have X1 := Lib.hid (show l[k]? = some (l[k]'(by have := HL.out; omega)) from List.getElem?_eq_getElem _)
      generalize l[k]'(by have := HL.out; omega) = x at *
      obtain ⟨b1, o1, ha, hc1⟩ := HC.out k x X1.out (by decide)
      subst ha
      have hd1 : ∀ c v, (encRela x)[c]? = some v → wr.cell? ⟨b1, o1 + k * 4 + c, none⟩ = some v := fun c v h => by
        have h6 : c < 4 := (List.getElem?_eq_some_iff.1 h).1
        have := (hc1 c h6).trans h
        rw [← Nat.add_assoc] at this
        exact (HB.out.cell (block_lt this)).trans this
      have c10 := hd1 0 _ rfl
      have c11 := hd1 1 _ rfl
      have c12 := hd1 2 _ rfl
      have c13 := hd1 3 _ rfl
      rw [Nat.add_zero] at c10
      clear hc1 hd1
      by_cases h1 : x.typ < 0
      · have HR := Lib.hid (rela_bad X1.out (show relaBad x = true by unfold relaBad; simp; omega))
        go_wp2_with (((with_reducible show wpList _ _ _ (⟨none, .store _ _ _, _, _, _, _⟩ :: _) _ _); go_must (refine wpList_storeNew rfl rfl (by kernel_rfl) rfl (by simp [Value.oneCell']) ?_; intro w1 hh1 hb1; have e1 := cell_rec hh1 1; have e2 := cell_rec hh1 2; simp only [List.getElem?_toArray, List.getElem?_cons_succ, List.getElem?_cons_zero] at e1 e2)))
        go_ret2
        exact ⟨_, by rw [HR.out]; rfl, by rw [HR.out]; exact OB.nil _ _, HB.out.trans (hb1.mono HB.out.size)⟩
      by_cases h2 : 4294967295 < x.typ
      · have HR := Lib.hid (rela_bad X1.out (show relaBad x = true by unfold relaBad; simp; omega))
        go_wp2_with (((with_reducible show wpList _ _ _ (⟨none, .store _ _ _, _, _, _, _⟩ :: _) _ _); go_must (refine wpList_storeNew rfl rfl (by kernel_rfl) rfl (by simp [Value.oneCell']) ?_; intro w1 hh1 hb1; have e1 := cell_rec hh1 1; have e2 := cell_rec hh1 2; simp only [List.getElem?_toArray, List.getElem?_cons_succ, List.getElem?_cons_zero] at e1 e2)))
        go_ret2
        exact ⟨_, by rw [HR.out]; rfl, by rw [HR.out]; exact OB.nil _ _, HB.out.trans (hb1.mono HB.out.size)⟩
      by_cases h3 : x.sym < 0
      · have HR := Lib.hid (rela_bad X1.out (show relaBad x = true by unfold relaBad; simp; omega))
        go_wp2_with (((with_reducible show wpList _ _ _ (⟨none, .store _ _ _, _, _, _, _⟩ :: _) _ _); go_must (refine wpList_storeNew rfl rfl (by kernel_rfl) rfl (by simp [Value.oneCell']) ?_; intro w1 hh1 hb1; have e1 := cell_rec hh1 1; have e2 := cell_rec hh1 2; simp only [List.getElem?_toArray, List.getElem?_cons_succ, List.getElem?_cons_zero] at e1 e2)))
        go_ret2
        exact ⟨_, by rw [HR.out]; rfl, by rw [HR.out]; exact OB.nil _ _, HB.out.trans (hb1.mono HB.out.size)⟩
      by_cases h4 : 2147483647 < x.sym
      · have HR := Lib.hid (rela_bad X1.out (show relaBad x = true by unfold relaBad; simp; omega))
        go_wp2_with (((with_reducible show wpList _ _ _ (⟨none, .store _ _ _, _, _, _, _⟩ :: _) _ _); go_must (refine wpList_storeNew rfl rfl (by kernel_rfl) rfl (by simp [Value.oneCell']) ?_; intro w1 hh1 hb1; have e1 := cell_rec hh1 1; have e2 := cell_rec hh1 2; simp only [List.getElem?_toArray, List.getElem?_cons_succ, List.getElem?_cons_zero] at e1 e2)))
        go_ret2
        exact ⟨_, by rw [HR.out]; rfl, by rw [HR.out]; exact OB.nil _ _, HB.out.trans (hb1.mono HB.out.size)⟩
      have HN := Lib.hid (rela_step X1.out HT.out (by unfold relaBad; simp; omega))
      go_wp2_with (((with_reducible show wpList _ _ _ (⟨none, .store _ _ _, _, _, _, _⟩ :: _) _ _); go_must (refine wpList_storeNew rfl rfl (by kernel_rfl) rfl (by simp [Value.oneCell']) ?_; intro w1 hh1 hb1; have e1 := cell_rec hh1 1; have e2 := cell_rec hh1 2; simp only [List.getElem?_toArray, List.getElem?_cons_succ, List.getElem?_cons_zero] at e1 e2)))
      have HB1 := Lib.hid (HB.out.trans (hb1.mono HB.out.size))
      clear hh1 hb1 e1 e2
      go_roundw
      case rel =>
        first
          | exact ⟨k + 1, by go_num, by omega, HN.out, HB1.out⟩
          | ((repeat apply Exists.intro); exact ⟨⟨k + 1, by go_num, by omega, HN.out, HB1.out⟩, rfl⟩)
      case measure => simp [intOf] <;> omega
    · have HR := Lib.hid (rela_done (by have := HL.out; omega) HT.out)
      clear HT
      go_wp2
      go_loopw [6, 39] (fun v i wr => ∃ k : Nat, i = .int .i64 k ∧ k ≤ nl ∧ Hid (OB wr w.heap.size v ((l.take k).flatMap relaB)) ∧ Hid (Below w.heap.size w wr)) (fun _ i _ => nl - (intOf i).toNat)
      case atStart => exact ⟨0, rfl, Nat.zero_le _, OB.nil _ _, HB.out⟩
      case round =>
        obtain ⟨k, rfl, hk, HO, HB⟩ := hrel
        by_cases hlt : k < nl
        · have X1 := Lib.hid (show l[k]? = some (l[k]'(by have := HL.out; omega)) from List.getElem?_eq_getElem _)
          generalize l[k]'(by have := HL.out; omega) = x at *
          obtain ⟨b1, o1, ha, hc1⟩ := HC.out k x X1.out (by decide)
          subst ha
          have hd1 : ∀ c v, (encRela x)[c]? = some v → wr.cell? ⟨b1, o1 + k * 4 + c, none⟩ = some v := fun c v h => by
            have h6 : c < 4 := (List.getElem?_eq_some_iff.1 h).1
            have := (hc1 c h6).trans h
            rw [← Nat.add_assoc] at this
            exact (HB.out.cell (block_lt this)).trans this
          have c10 := hd1 0 _ rfl
          have c11 := hd1 1 _ rfl
          have c12 := hd1 2 _ rfl
          have c13 := hd1 3 _ rfl
          rw [Nat.add_zero] at c10
          clear hc1 hd1
          have HF := Lib.hid (flat_step (f := relaB) X1.out)
          have HTL := Lib.hid (show ((l.take k).flatMap relaB).length ≤ 24000 by rw [rela_len, List.length_take]; omega)
          have HOF := Lib.hid (HWF.out x (List.mem_of_getElem? X1.out))
          have HT1 := Lib.hid (u64of_cast x.typ)
          have HT2 := Lib.hid (u64of_cast x.sym)
          have HT3 := Lib.hid (u64of_cast x.add)
          have hbs := HB.out.size
          generalize (l.take k).flatMap relaB = T at *
          go_wp2_with (first
            | ((with_reducible show wpList _ _ _ (⟨none, .store _ _ _, _, _, _, _⟩ :: _) _ _); go_must (refine wpList_storeNew rfl rfl (by kernel_rfl) rfl (by simp [Value.oneCell']) ?_; intro w1 hh1 hb1; have e0 := cell_rec hh1 0; simp only [List.getElem?_toArray, List.getElem?_cons_succ, List.getElem?_cons_zero] at e0))
            | fail)
          have HB1 := Lib.hid (HB.out.trans (hb1.mono HB.out.size))
          have HS1 := Lib.hid hb1.size
          have HO1 := Lib.hid (HO.out.mono hb1)
          have HH1 := Lib.hid hh1
          clear hh1 hb1
          refine (put8_any T x.off u6 w1 w.heap.size rfl (Nat.le_trans HTL.out (by decide)) HOF.out HO1.out HB1.out.size).mono ?_
          rintro e w2 ⟨v2, rfl, ho2, hb2, hk2⟩
          have HH2 := Lib.hid (hk2 _ _ _ _ (by decide) HH1.out)
          have HO2 := Lib.hid ho2
          have HB2 := Lib.hid (HB1.out.trans hb2)
          have e1 := cell_rec HH2.out 1
          have e2 := cell_rec HH2.out 2
          simp only [List.getElem?_toArray, List.getElem?_cons_succ, List.getElem?_cons_zero] at e1 e2
          clear ho2 hb2 hk2 e0
          go_wp2
          have HC4 := Lib.hid (fun w' (hO : OB w' w.heap.size v2 (T ++ fixed x.off 8)) (hb : w.heap.size ≤ w'.heap.size) => put4_any (T ++ fixed x.off 8) (u64of x.typ) v2 w' w.heap.size HT1.out (by have := HTL.out; simp [length_fixed]; omega) (u64of_lt _) hO hb)
          have HC5 := Lib.hid (fun w' v3 (hO : OB w' w.heap.size v3 (T ++ fixed x.off 8 ++ fixed (u64of x.typ) 4)) (hb : w.heap.size ≤ w'.heap.size) => put4_any (T ++ fixed x.off 8 ++ fixed (u64of x.typ) 4) (u64of x.sym) v3 w' w.heap.size HT2.out (by have := HTL.out; simp [length_fixed]; omega) (u64of_lt _) hO hb)
          go_region_with (first
              | (go_at_call_of 60 v2; refine (HC4.out w2.drew HO2.out HB2.out.size).mono ?_; rintro e w3 ⟨v3, rfl, ho3, hb3, hk3⟩; have HH3 := Lib.hid (hk3 _ _ _ _ (by decide) HH2.out); have f1 := cell_rec HH3.out 1; have f2 := cell_rec HH3.out 2; simp only [List.getElem?_toArray, List.getElem?_cons_succ, List.getElem?_cons_zero] at f1 f2)
              | (go_at_call_of 60 v3; refine (HC5.out w3 v3 ho3 (Nat.le_trans HB2.out.size hb3.size)).mono ?_; rintro e w4 ⟨v4, rfl, ho4, hb4, hk4⟩; have HH4 := Lib.hid (hk4 _ _ _ _ (by decide) HH3.out)))
          all_goals
            have e3 := cell_rec HH4.out 3
            simp only [List.getElem?_toArray, List.getElem?_cons_succ, List.getElem?_cons_zero] at e3
            have HB3 := Lib.hid (show Below w.heap.size w2 w3 from ⟨hb3.os, hb3.tape, hb3.output, hb3.size, hb3.block⟩)
            have HB4 := Lib.hid (HB2.out.trans (HB3.out.trans hb4))
            have HO4 := Lib.hid ho4
            clear ho3 ho4 hb3 hb4 hk3 hk4 e1 e2 f1 f2 c10 c11 c12 c13 HC4 HC5
            go_wp2_with fail
            refine (put8_any (T ++ fixed x.off 8 ++ fixed (u64of x.typ) 4 ++ fixed (u64of x.sym) 4) (u64of x.add) v4 w4 w.heap.size HT3.out (by have := HTL.out; simp [length_fixed]; omega) (u64of_lt _) HO4.out HB4.out.size).mono ?_
            rintro e w5 ⟨v5, rfl, ho5, hb5, -⟩
            have G1 : Hid (OB w5 w.heap.size v5 ((l.take (k + 1)).flatMap relaB)) := by
              rw [HF.out]
              show OB w5 w.heap.size v5 (T ++ relaB x)
              unfold relaB
              simpa [List.append_assoc] using ho5
            have G2 := Lib.hid (HB4.out.trans hb5)
            clear ho5 hb5 e3
            go_wp2
            go_roundw
            case rel =>
              first
                | exact ⟨k + 1, by go_num, by omega, G1.out, G2.out⟩
                | ((repeat apply Exists.intro); exact ⟨⟨k + 1, by go_num, by omega, G1.out, G2.out⟩, rfl⟩)
            case measure => simp [intOf] <;> omega
        · have hkn : k = nl := by omega
          have HE : Hid (OB wr w.heap.size u6 (l.flatMap relaB)) := by
            have := HO.out
            rw [hkn, List.take_of_length_le (by have := HL.out; omega)] at this
            exact this
          clear HO hkn
          go_wp2
          go_ret2
          exact ⟨_, by rw [HR.out]; rfl, by rw [HR.out]; exact HE.out, HB.out⟩
end Go.Proofs.Ytgknmmnffgikbaa
