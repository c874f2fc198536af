/-
  Texts: bytes.IndexByte, octet.Text.
-/
import Derived.Test.YtgknmmnffgikbaaByt
import Derived.Lib.BytesEntry
namespace Go.Proofs.Ytgknmmnffgikbaa
open Go.RowKit Go.Fd

/-- The bytes ahead of the next 0. -/
def upto0 : List UInt8 → Option (List UInt8)
  | [] => none
  | c :: r => if c = 0 then some [] else (upto0 r).map (c :: ·)

def textR (l : List UInt8) (at_ : Int) : List UInt8 × Int :=
  if at_ < 0 ∨ (l.length : Int) < at_ then ([], 5) else match upto0 (l.drop at_.toNat) with
    | none => ([], 2)
    | some g => (g, 0)

theorem bytesOf_nums (l : List UInt8) : Lib.bytesOf (l.map fun c => (c.toNat : Int)) = l := by
  unfold Lib.bytesOf
  rw [List.map_map]
  conv => rhs; rw [← List.map_id l]
  apply List.map_congr_left
  intro c _
  simp

theorem run_indexByteAt {P : Program} (w : World) (ad : Addr) (c : Nat) (l : List UInt8) (cv : Int) (hc : ∀ j x, (l.map fun c => (c.toNat : Int))[j]? = some x → w.cell? (ad.add j) = some (.int .u8 x)) :
    (Extern.BytealgIndexByte.indexByte #[.slice (some ad) l.length c, .int .u8 cv]).run P w = .ok (.int .i64 (Lib.indexByte l cv.toNat.toUInt8)) w := by
  have hl := Lib.run_loadBytesX (P := P) w (l.map fun c => (c.toNat : Int)) ad .empty hc
  rw [List.length_map] at hl
  have hs := Lib.run_indexByteString (P := P) ⟨l.toArray⟩ cv w
  rw [bytesOf_nums] at hl
  have he : (⟨ByteArray.empty.data ++ l.toArray⟩ : ByteArray) = ⟨l.toArray⟩ := by
    apply ByteArray.ext
    show (#[] : Array UInt8) ++ l.toArray = l.toArray
    simp
  rw [he] at hl
  change Sem.run P (do
    let b ← Extern.Bytes.bytesOf (.slice (some ad) l.length c)
    let c ← Extern.Bytes.asByte (.int .u8 cv)
    match (List.range b.size).find? fun i => b[i]! == c with
    | some i => pure (goInt i)
    | none => pure (goInt (-1))) w = _
  change Sem.run P (do
    let b ← Extern.Bytes.bytesOf (.string ⟨l.toArray⟩)
    let c ← Extern.Bytes.asByte (.int .u8 cv)
    match (List.range b.size).find? fun i => b[i]! == c with
    | some i => pure (goInt i)
    | none => pure (goInt (-1))) w = _ at hs
  simp only [Extern.Bytes.bytesOf, Sem.run_bind, Sem.run_pure, hl, Result.andThen] at hs ⊢
  exact hs

theorem indexByte_any (l : List UInt8) (c : UInt8) (v : Value) (w : World) (hl : l.length ≤ 1000000000) (hv : Bs w v l) :
    Calls Try.prog 96 #[v, .int .u8 c.toNat] w fun e w' => e = .returned (.int .i64 (Lib.indexByte l c)) ∧ w = w' := by
  have hrun : ∀ wx, wx = w → (callFunc 119 #[v, .int .u8 c.toNat]).run Try.prog wx = .ok (.value (.int .i64 (Lib.indexByte l c))) wx := by
    rintro wx rfl
    rw [run_callFunc_extern Try.func119 (by kernel_rfl) (by kernel_rfl) (by kernel_rfl) (e := Extern.BytealgIndexByte.indexByte) (by kernel_rfl)]
    obtain ⟨h1, a, cap, rfl, h3, h0, h4⟩ := hv
    have hcc : UInt8.ofNat (Int.toNat (c.toNat : Int)) = c := by simp
    cases a with
    | none =>
      obtain rfl := h0 rfl
      obtain rfl : l = [] := List.eq_nil_of_length_eq_zero (by omega)
      rw [show (([] : List UInt8).length) = 0 from rfl, Lib.run_indexByteNil wx 0 0 (c.toNat : Int)]
      rfl
    | some ad =>
      rw [run_indexByteAt wx ad cap l (c.toNat : Int) (fun j x hj => by
        rw [List.getElem?_map] at hj
        cases hx : l[j]? with
        | none => rw [hx] at hj; simp at hj
        | some y =>
          rw [hx] at hj
          simp at hj
          subst hj
          have hjl : j < l.length := (List.getElem?_eq_some_iff.1 hx).1
          obtain ⟨b, off, e1, e2⟩ := h4 j (by simpa using hjl)
          cases e1
          have e3 : (⟨b, off, none⟩ : Addr).add j = ⟨b, off + j, none⟩ := by unfold Addr.add; split <;> simp_all
          rw [e3, e2, List.getElem?_map, hx]; rfl)]
      simp [Result.andThen]
  have hrun2 := hrun w rfl
  clear hrun hv
  go_enter Try.func96, Try.ntmps96
  go_wp2
  go_ret
  exact ⟨rfl, rfl⟩

theorem indexByte_upto0 (l : List UInt8) : Lib.indexByte l 0 = match upto0 l with | none => -1 | some g => (g.length : Int) := by
  induction l with
  | nil => rfl
  | cons c r ih =>
    rw [Lib.indexByte, upto0]
    by_cases h : c = 0
    · simp [h]
    · rw [if_neg h]
      simp only [beq_iff_eq, h, if_false]
      cases hr : upto0 r with
      | none => rw [hr] at ih; simp [ih]
      | some g => rw [hr] at ih; simp only at ih; rw [ih]; simp <;> omega

theorem upto0_prefix (l g : List UInt8) (h : upto0 l = some g) : g = l.take g.length ∧ g.length < l.length := by
  induction l generalizing g with
  | nil => simp [upto0] at h
  | cons c r ih =>
    rw [upto0] at h
    split at h
    · simp at h; subst h; simp
    · cases hr : upto0 r with
      | none => rw [hr] at h; simp at h
      | some x =>
        rw [hr] at h; simp at h; subst h
        obtain ⟨h1, h2⟩ := ih x hr
        refine ⟨?_, by simpa using h2⟩
        rw [List.length_cons, List.take_succ_cons, ← h1]

set_option maxRecDepth 100000 in
theorem octText_any (l : List UInt8) (at_ : Int) (v : Value) (w : World) (hl : l.length ≤ 1000000000) (hv : Bs w v l) :
    Calls Try.prog 55 #[v, .int .i64 at_] w fun e w' => e = .returned (.tuple #[S (textR l at_).1, .int .i64 (textR l at_).2]) ∧ w = w' := by
  obtain ⟨a, cap, rfl, hcap, _, _⟩ := hv.open
  by_cases h1 : at_ < 0
  · have HR := Lib.hid (show textR l at_ = ([], 5) by rw [textR, if_pos (.inl h1)])
    go_enter Try.func55, Try.ntmps55
    go_wp2
    go_ret2
    exact ⟨by rw [HR.out]; rfl, rfl⟩
  by_cases h2 : (l.length : Int) < at_
  · have HR := Lib.hid (show textR l at_ = ([], 5) by rw [textR, if_pos (.inr h2)])
    go_enter Try.func55, Try.ntmps55
    go_wp2
    go_ret2
    exact ⟨by rw [HR.out]; rfl, rfl⟩
  have htx : textR l at_ = match upto0 (l.drop at_.toNat) with | none => ([], 2) | some g => (g, 0) := by rw [textR, if_neg (by omega)]; try rfl
  obtain ⟨v1, hrun, hv1⟩ := run_fromB hv (i := at_) (k := .i64) (by omega) (by omega)
  have HRUN := Lib.hid hrun
  have hi := indexByte_any _ 0 v1 w (by rw [List.length_drop]; omega) hv1
  rw [indexByte_upto0] at hi
  clear hrun
  cases hs : upto0 (l.drop at_.toNat) with
  | none =>
    rw [hs] at htx hi
    have HR := Lib.hid htx
    have HI := Lib.hid hi
    clear htx hi hs
    go_enter Try.func55, Try.ntmps55
    go_wp2_with (first
      | (with_reducible show wpList _ _ _ (⟨some 17, _, _, _, _, _⟩ :: _) _ _; go_must (refine wpList_val rfl (exec_sliceFrom HRUN.out rfl rfl) ?_))
      | (go_at_call 96; go_must (refine HI.out.mono ?_; rintro e w' ⟨rfl, rfl⟩)))
    go_ret2
    exact ⟨by rw [HR.out]; rfl, rfl⟩
  | some g =>
    obtain ⟨hg2, hg3⟩ := upto0_prefix _ _ hs
    rw [List.length_drop] at hg3
    have HG := Lib.hid hg2
    rw [hs] at htx hi
    simp only at htx hi
    have HI := Lib.hid hi
    have HR := Lib.hid htx
    clear htx hi hs hg2
    obtain ⟨v2, hrun2, hv2⟩ := run_sliceB hv (i := at_) (j := at_ + g.length) (k := .i64) (k' := .i64) (by omega) (by omega) (by omega)
    have HRUN2 := Lib.hid hrun2
    rw [show (at_ + (g.length : Int) - at_).toNat = g.length by omega, ← HG.out] at hv2
    have hstr := run_str hv2
    clear hrun2
    go_enter Try.func55, Try.ntmps55
    go_wp2_with (first
      | (with_reducible show wpList _ _ _ (⟨some 17, _, _, _, _, _⟩ :: _) _ _; go_must (refine wpList_val rfl (exec_sliceFrom HRUN.out rfl rfl) ?_))
      | (go_at_call 96; go_must (refine HI.out.mono ?_; rintro e w' ⟨rfl, rfl⟩))
      | (with_reducible show wpList _ _ _ (⟨some 26, _, _, _, _, _⟩ :: _) _ _; go_must (refine wpList_val rfl (exec_slice2 HRUN2.out rfl rfl rfl) ?_)))
    go_ret2
    exact ⟨by rw [HR.out]; rfl, rfl⟩
end Go.Proofs.Ytgknmmnffgikbaa
