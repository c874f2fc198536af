/-
  PagesStores holds: what is stored is loaded, and bytes about it stay. No condition.
-/
import Derived.Test.YtklgbkhnflodaaaPgStores
import Derived.Test.YtklgbkhnflodaaaCard
namespace Go.Proofs.Ytklgbkhnflodaaa
open Go.ChangeShapes Go.WideShapes Go.ChangeAt Go.RowKit Go.Fd

set_option maxRecDepth 100000 in
theorem pagesStores_lifted (os : Os) (started : os.Started) (H : Type) (enc : TypeId × Value → H) :
    ReturnsInHanded {} Try.checked os 5 .any (Rows.pagesStoresSpec.pre6 enc Try.prog Try.f5 Rows.pagesStoresRow.domain false) (Rows.pagesStoresSpec.post enc Try.prog Try.f5 false true false false) := by
  refine returnsInHanded_of_change (C := Try.checked) Try.own started (by kernel_rfl) Try.func5
    (ChangeSpec.witness6 (enc := enc) (C := Try.checked) false ⟨#[], #[.int .u64 0, .int .u64 0, .slice none 0 0], []⟩ 8 (by kernel_rfl) (by kernel_rfl) (by kernel_rfl) (by kernel_rfl)) ?_
  intro W base args ds gs before hval0 hW hcnd _
  have hval : ∀ (j : Nat) t v, Try.f5.params[j]? = some t → args[j]? = some v → Value.okWide Try.prog W .any base t v := hval0
  have hW' := hW
  obtain ⟨p, q, hA0, hV, rfl, hfz, hnd⟩ := hW
  have hA : DataW.TrodAll enc Try.prog W 0 (fun _ => true) true Try.f5.params.toList args.toList ds p := hA0
  have hlt : ∀ x ∈ p, x.block < W.heap.size := fun x hx => hW'.lt x (by simp [hx])
  have hback : ∀ W', Below W.heap.size W W' → DataW.TrodAll enc Try.prog W' 0 (fun b => decide (b < W.heap.size)) true Try.f5.params.toList args.toList ds p :=
    fun W' hb => belowAllB (by kernel_rfl) hb hA hlt
  rw [Try.params5] at hA hval
  obtain ⟨v0, vs0, d0, ds0, p0, q0, hargs, rfl, rfl, h0, r0⟩ := trodAll_cons hA
  obtain ⟨v1, vs1, d1, ds1, p1, q1, rfl, rfl, rfl, h1, r1⟩ := trodAll_cons r0
  obtain ⟨v2, vs2, d2, ds2, p2, q2, rfl, rfl, rfl, h2, r2⟩ := trodAll_cons r1
  obtain ⟨rfl, rfl, rfl⟩ := trodAll_nil r2
  obtain rfl : args = #[v0, v1, v2] := by
    cases args
    simp at hargs
    simp [hargs]
  clear hargs
  obtain ⟨rfl, rfl⟩ := trodVars_none hV
  have fin : ∀ (e : Ending) (W' : World), (e = .returned (.bool true) ∧ Below W.heap.size W W') → ∃ v, e = Ending.returned v ∧ Rows.pagesStoresSpec.post enc Try.checked.prog Try.f5 false true false false W #[v0, v1, v2] v W' := by
    rintro e W' ⟨rfl, hb⟩
    exact ⟨_, rfl, _, _, _, [], _, [], hW', trodAll_mk1 (shut_bool Try.underlying4 true), hback W' hb, rfl, hb.frame _, fun h => by cases h⟩
  obtain ⟨a, rfl, rfl, rfl, w0⟩ := open_int Try.underlying22 (hval 0 22 v0 rfl rfl) h0
  obtain ⟨n, rfl, rfl, rfl, w1⟩ := open_int Try.underlying22 (hval 1 22 v1 rfl rfl) h1
  obtain ⟨l, hl⟩ := reads_bytes (hval 2 33 v2 rfl rfl) h2
  obtain ⟨a0, a1⟩ := wf_u64 w0
  obtain ⟨n0, n1⟩ := wf_u64 w1
  obtain ⟨a, rfl⟩ := Int.eq_ofNat_of_zero_le a0
  obtain ⟨n, rfl⟩ := Int.eq_ofNat_of_zero_le n0
  by_cases h : l.length ≠ 32 ∨ 1125899906842624 < a
  · exact (stores_early a n l v2 W hl h).mono fin
  · exact (pagesStores_any a n l v2 W (by omega) hl (by omega) (by omega)).mono fin

theorem pagesStores_holds : Rows.PagesStoresSaid :=
  OpenClaim.holds_of_wide 5 Try.f5 rfl rfl rfl rfl rfl rfl rfl ⟨rfl, rfl, rfl, rfl, rfl⟩ rfl rfl rfl rfl rfl (by kernel_rfl) Try.func5 (by kernel_rfl)
    (of_decide_eq_true (by kernel_rfl)) (by unfold Func.isWrapper; rw [if_neg (of_decide_eq_false (by kernel_rfl))]; exact ⟨rfl, rfl⟩)
    (fun os started H enc _ => pagesStores_lifted os started H enc)
#print axioms pagesStores_holds
end Go.Proofs.Ytklgbkhnflodaaa
