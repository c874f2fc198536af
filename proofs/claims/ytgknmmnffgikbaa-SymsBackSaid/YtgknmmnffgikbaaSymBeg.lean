/-
  Symbols and relocations: the statements' own example.
-/
import Derived.Test.YtgknmmnffgikbaaSym12
import Derived.Test.YtgknmmnffgikbaaSymPB
namespace Go.Proofs.Ytgknmmnffgikbaa
open Go.RowKit Go.Fd

theorem rdR_lit {α : Type} {k : Nat} {enc : α → List Value} (hk : ∀ x, (enc x).length = k) (w : World) (l : List α) (cs : Array Value) (n : Nat) (e : TypeId) (h : cs = (l.flatMap enc).toArray) (hn : n = l.length) : RdR k enc (w.alloc (.cells cs e)) (.slice (some ⟨w.heap.size, 0, none⟩) n n) l := by
  subst h hn
  refine ⟨by rw [flat_len hk], _, _, rfl, Nat.le_refl _, (fun h => by cases h), fun j hj => ⟨w.heap.size, 0, rfl, ?_⟩⟩
  rw [Nat.zero_add]
  exact (Go.World.cell?_alloc_new _ _ _ _).trans (by simp)

abbrev sym1 : SymM := ⟨[102], 1, 2, 1, 16, 4⟩
abbrev rela1 : RelaM := ⟨8, 2, 1, -4⟩
theorem sym1_w : (symW [sym1]).2.2.2 = 0 ∧ (symW [sym1]).2.2.1 = 1 ∧ (symW [sym1]).1.length = 48 ∧ (symW [sym1]).2.1.length = 3 := by decide +kernel
theorem sym1_r : symRd (symW [sym1]).1 (symW [sym1]).2.1 = ([sym1], 0) := sym_back sym1_w.1 (by decide) (by simp)
theorem rela1_w : (relaW [rela1]).2 = 0 ∧ (relaW [rela1]).1.length = 24 := by decide +kernel
theorem rela1_r : relaRd (relaW [rela1]).1 = ([rela1], 0) := rela_back rela1_w.1 (by simp)

set_option maxHeartbeats 1000000 in
set_option maxRecDepth 100000 in
theorem begun5_any (w : World) : Calls Try.prog 26 #[] w fun e w' => e = .returned (.bool true) ∧ Below w.heap.size w w' := by
  have HP := Lib.hid (symsWrite_any [sym1] _ _ (by decide) (by simp) (rdR_lit (fun _ => rfl) w [sym1] #[.string ⟨#[102]⟩, .int .i64 1, .int .i64 2, .int .i64 1, .int .u64 16, .int .u64 4] 1 55 rfl rfl))
  have HW := Lib.hid (below_alloc w (.cells #[.string ⟨#[102]⟩, .int .i64 1, .int .i64 2, .int .i64 1, .int .u64 16, .int .u64 4] 55))
  rw [World.size_alloc, sym1_w.1, sym1_w.2.1] at HP
  have HR := Lib.hid sym1_r
  have HL := Lib.hid sym1_w.2.2
  generalize (symW [sym1]).1 = A at *
  generalize (symW [sym1]).2.1 = B at *
  have HQ := Lib.hid (fun w => writeRela_any [rela1] _ _ (by decide) (by simp) (rdR_lit (fun _ => rfl) w [rela1] #[.int .u64 8, .int .i64 2, .int .i64 1, .int .i64 (-4)] 1 84 rfl rfl))
  simp only [rela1_w.1] at HQ
  have HR2 := Lib.hid rela1_r
  have HL2 := Lib.hid rela1_w.2
  generalize (relaW [rela1]).1 = C at *
  go_enter Try.func26, Try.ntmps26
  go_wp2_with fail
  refine HP.out.mono ?_
  rintro e w1 ⟨v1, v2, rfl, hv1, hv2, hb1, -⟩
  have HS := Lib.hid (symsRead_any A B v1 v2 w1 (by have := HL.out; omega) (by have := HL.out; omega) hv1.bs hv2.bs)
  rw [HR.out] at HS
  have HB1 := Lib.hid (HW.out.trans (hb1.mono (by omega)))
  obtain ⟨m1, a1, c1, hm1, rfl, _, _⟩ := hv1.shape
  obtain rfl : m1 = 48 := by have := hm1.out; have := HL.out; omega
  clear hv1 hv2 hb1 hm1
  go_wp2_with fail
  refine HS.out.mono ?_
  rintro e w2 ⟨v3, rfl, hv3, hb2⟩
  have HB2 := Lib.hid (HB1.out.trans (hb2.mono HB1.out.size))
  have HV3 := Lib.hid hv3.rd
  obtain ⟨m3, a3, c3, hm3, rfl, _, _⟩ := hv3.shape
  obtain rfl : m3 = 1 := hm3.out
  have HQ2 := Lib.hid (HQ.out w2)
  rw [World.size_alloc] at HQ2
  have HW2 := Lib.hid (below_alloc w2 (.cells #[.int .u64 8, .int .i64 2, .int .i64 1, .int .i64 (-4)] 84))
  clear hv3 hb2 hm3 HQ HS
  go_wp2_with fail
  refine HQ2.out.mono ?_
  rintro e w3 ⟨v4, rfl, hv4, hb3⟩
  have HB3' := Lib.hid (HW2.out.trans (hb3.mono (by omega)))
  have HV33 := Lib.hid (HV3.out.mono HB3'.out)
  have HB3 := Lib.hid (HB2.out.trans (HB3'.out.mono HB2.out.size))
  have HT := Lib.hid (readRela_any C v4 w3 (by have := HL2.out; omega) hv4.bs)
  rw [HR2.out] at HT
  obtain ⟨m4, a4, c4, hm4, rfl, _, _⟩ := hv4.shape
  obtain rfl : m4 = 24 := by have := hm4.out; have := HL2.out; omega
  clear hv4 hb3 hm4 HQ2 HV3 HW2 HB3'
  go_wp2_with fail
  refine HT.out.mono ?_
  rintro e w4 ⟨v5, rfl, hv5, hb4⟩
  have HB4 := Lib.hid (HB3.out.trans (hb4.mono HB3.out.size))
  obtain ⟨a', c', e1, -, -, hc3⟩ := (HV33.out.mono hb4).open (fun _ => rfl)
  obtain ⟨b3, o3, e3, h3⟩ := hc3 0 _ rfl (by decide)
  simp only [Value.slice.injEq] at e1
  obtain ⟨rfl, -, -⟩ := e1
  subst e3
  have c30 := h3 0 (by decide)
  obtain ⟨a5, c5, rfl, -, -, hc5⟩ := hv5.rd.open (fun _ => rfl)
  obtain ⟨b5, o5, e5, h5⟩ := hc5 0 _ rfl (by decide)
  subst e5
  have c53 := h5 3 (by decide)
  simp only [Nat.zero_mul, Nat.zero_add, Nat.add_zero, List.getElem?_cons_zero, List.getElem?_cons_succ, List.length_singleton] at c30 c53 ⊢
  clear h3 h5 hc3 hc5 hv5 hb4 HV33 HT
  go_wp2
  go_ret
  exact ⟨rfl, HB4.out⟩
end Go.Proofs.Ytgknmmnffgikbaa
