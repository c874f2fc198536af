/-
  PagesNone holds: a nil memory answers nothing. No condition.
-/
import Derived.Test.YtklgbkhnflodaaaPgNone
import Derived.Test.YtklgbkhnflodaaaCard
namespace Go.Proofs.Ytklgbkhnflodaaa
open Go.ChangeShapes Go.WideShapes Go.ChangeAt Go.RowKit Go.Fd

theorem open_op {H : Type} {enc : TypeId × Value → H} {W : World} {base : Nat} {v : Value} {d : DataW H} {p : List MemPlace} (hv : Value.okWide Try.prog W .any base 49 v) (h : DataW.Trod enc Try.prog W 0 (fun _ => true) true 49 v d p) :
    ∃ (c0 c3 c4 c5 : Value) (a n : Nat), v = .agg #[c0, .int .u64 a, .int .u64 n, c3, c4, c5] ∧ a < 18446744073709551616 := by
  obtain ⟨vs, m, rfl, hlen, hf⟩ := open_struct Try.underlying49 (by kernel_rfl) (by kernel_rfl) hv h
  obtain ⟨c0, c1, c2, c3, c4, c5, rfl⟩ := len_6 hlen
  obtain ⟨x1, y1, e1, t1⟩ := hf 1 _ rfl
  obtain ⟨x2, y2, e2, t2⟩ := hf 2 _ rfl
  simp only [List.getElem?_cons_succ, List.getElem?_cons_zero, Option.some.injEq] at e1 e2
  subst e1 e2
  obtain ⟨a, ea, _, wa⟩ := DataW.trod_int Try.underlying22 t1
  obtain ⟨n, en, _, wn⟩ := DataW.trod_int Try.underlying22 t2
  simp only [List.cons.injEq, and_true] at ea en
  subst ea en
  obtain ⟨a0, a1⟩ := wf_u64 wa
  obtain ⟨n0, n1⟩ := wf_u64 wn
  obtain ⟨a, rfl⟩ := Int.eq_ofNat_of_zero_le a0
  obtain ⟨n, rfl⟩ := Int.eq_ofNat_of_zero_le n0
  exact ⟨c0, c3, c4, c5, a, n, rfl, by omega⟩

set_option maxRecDepth 100000 in
theorem pagesNone_lifted (os : Os) (started : os.Started) (H : Type) (enc : TypeId × Value → H) :
    ReturnsInHanded {} Try.checked os 7 .any (Rows.pagesNoneSpec.pre6 enc Try.prog Try.f7 Rows.pagesNoneRow.domain false) (Rows.pagesNoneSpec.post enc Try.prog Try.f7 false true false false) := by
  refine returnsInHanded_of_change (C := Try.checked) Try.own started (by kernel_rfl) Try.func7
    (ChangeSpec.witness6 (enc := enc) (C := Try.checked) false ⟨#[], #[.agg #[.int .i64 0, .int .u64 0, .int .u64 0, .int .i64 0, .int .i64 0, .slice none 0 0]], []⟩ 8 (by kernel_rfl) (by kernel_rfl) (by kernel_rfl) (by kernel_rfl)) ?_
  intro W base args ds gs before hval0 hW hcnd _
  have hval : ∀ (j : Nat) t v, Try.f7.params[j]? = some t → args[j]? = some v → Value.okWide Try.prog W .any base t v := hval0
  have hW' := hW
  obtain ⟨p, q, hA0, hV, rfl, hfz, hnd⟩ := hW
  have hA : DataW.TrodAll enc Try.prog W 0 (fun _ => true) true Try.f7.params.toList args.toList ds p := hA0
  have hlt : ∀ x ∈ p, x.block < W.heap.size := fun x hx => hW'.lt x (by simp [hx])
  have hback : ∀ W', Below W.heap.size W W' → DataW.TrodAll enc Try.prog W' 0 (fun b => decide (b < W.heap.size)) true Try.f7.params.toList args.toList ds p :=
    fun W' hb => belowAllB (by kernel_rfl) hb hA hlt
  rw [Try.params7] at hA hval
  obtain ⟨v0, vs0, d0, ds0, p0, q0, hargs, rfl, rfl, h0, r0⟩ := trodAll_cons hA
  obtain ⟨rfl, rfl, rfl⟩ := trodAll_nil r0
  obtain rfl : args = #[v0] := by
    cases args
    simp at hargs
    simp [hargs]
  clear hargs
  obtain ⟨rfl, rfl⟩ := trodVars_none hV
  have fin : ∀ (e : Ending) (W' : World), (e = .returned (.bool true) ∧ Below W.heap.size W W') → ∃ v, e = Ending.returned v ∧ Rows.pagesNoneSpec.post enc Try.checked.prog Try.f7 false true false false W #[v0] v W' := by
    rintro e W' ⟨rfl, hb⟩
    exact ⟨_, rfl, _, _, _, [], _, [], hW', trodAll_mk1 (shut_bool Try.underlying4 true), hback W' hb, rfl, hb.frame _, fun h => by cases h⟩
  obtain ⟨c0, c3, c4, c5, a, n, rfl, ha⟩ := open_op (hval 0 49 v0 rfl rfl) h0
  exact (pagesNone_any c0 c3 c4 c5 a n W ha).mono fin

theorem pagesNone_holds : Rows.PagesNoneSaid :=
  OpenClaim.holds_of_wide 7 Try.f7 rfl rfl rfl rfl rfl rfl rfl ⟨rfl, rfl, rfl, rfl, rfl⟩ rfl rfl rfl rfl rfl (by kernel_rfl) Try.func7 (by kernel_rfl)
    (of_decide_eq_true (by kernel_rfl)) (by unfold Func.isWrapper; rw [if_neg (of_decide_eq_false (by kernel_rfl))]; exact ⟨rfl, rfl⟩)
    (fun os started H enc _ => pagesNone_lifted os started H enc)
#print axioms pagesNone_holds
end Go.Proofs.Ytklgbkhnflodaaa
