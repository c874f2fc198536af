/-
  ElfBack holds: a file that was written is read as it was, and written again as it was. Within the bound.
-/
import Derived.Test.YtgjoimcgiofinaaEb3
import Derived.Shelf.Vars
namespace Go.Proofs.Ytgjoimcgiofinaa
open Go.ChangeMaps Go.ChangeShapes Go.WideShapes Go.ChangeAt Go.RowKit Go.Fd
section
variable {H : Type}
theorem bulkAll_append (xs ys : List (DataW H)) : Rows.uptoBulkAll (xs ++ ys) = Rows.uptoBulkAll xs + Rows.uptoBulkAll ys := by
  induction xs with
  | nil => simp [Rows.uptoBulkAll]
  | cons x xs ih => rw [List.cons_append, Rows.uptoBulkAll, Rows.uptoBulkAll, ih]; omega
theorem bulk_get {xs : List (DataW H)} {i : Nat} {x : DataW H} (h : xs[i]? = some x) : Rows.uptoBulk x ≤ Rows.uptoBulkAll xs := by
  induction xs generalizing i with
  | nil => simp at h
  | cons y xs ih =>
    rw [Rows.uptoBulkAll]
    cases i with
    | zero => simp at h; subst h; omega
    | succ i => have := ih (by simpa using h); omega
theorem bulk_pair {xs : List (DataW H)} {i j : Nat} {x y : DataW H} (hij : i < j) (hx : xs[i]? = some x) (hy : xs[j]? = some y) : Rows.uptoBulk x + Rows.uptoBulk y ≤ Rows.uptoBulkAll xs := by
  induction xs generalizing i j with
  | nil => simp at hx
  | cons z xs ih =>
    rw [Rows.uptoBulkAll]
    cases j with
    | zero => omega
    | succ j =>
      cases i with
      | zero => simp at hx; subst hx; have := bulk_get (xs := xs) (i := j) (by simpa using hy); omega
      | succ i => have := ih (i := i) (j := j) (by omega) (by simpa using hx) (by simpa using hy); omega
end
set_option maxRecDepth 100000 in
/-- A slice of records, as it is read, with a measure of each. -/
theorem trod_recs {H : Type} {enc : TypeId × Value → H} {W : World} {v : Value} {y : DataW H × List MemPlace} {fuel : Nat} {α : Type} {k : Nat} {ec : α → List Value} {good : α → Prop} {μ : α → Nat} {t e : TypeId}
    (ht : Try.prog.underlying t = some (.slice e)) (hc : Try.prog.cellsOf e = k) (hk0 : 0 < k) (hlen : ∀ x, (ec x).length = k)
    (hstep : ∀ n cs y, DataW.trod enc Try.prog W 0 (fun _ => true) true n e cs = some y → cs.length = k → ∃ x, cs = ec x ∧ good x ∧ μ x ≤ Rows.uptoBulk y.1)
    (h : DataW.trod enc Try.prog W 0 (fun _ => true) true fuel t [v] = some y) : ∃ l : List α, RdR k ec W v l ∧ (∀ x ∈ l, good x) ∧ (l.map μ).sum + 1 ≤ Rows.uptoBulk y.1 := by
  rcases Go.Deep.open_slice ht h with ⟨hcs, hx⟩ | ⟨a, len, cap, m, n, D, Pl, hcs, _, hl, hm, hmm, hd, hel⟩
  · simp at hcs
    subst hcs hx
    exact ⟨[], RdR.nil k ec W, (fun x hx => by cases hx), by simp [Rows.uptoBulk]⟩
  · simp at hcs
    subst hcs hd
    simp only [hc] at hel
    have hall : ∀ n', n' ≤ len → ∃ l : List α, l.length = n' ∧ (l.map μ).sum ≤ Rows.uptoBulkAll ((List.range n').map D) ∧ ∀ i x, l[i]? = some x → good x ∧ ∀ c, c < k → W.cell? (a.add (i * k + c)) = (ec x)[c]? := by
      intro n'
      induction n' with
      | zero => exact fun _ => ⟨[], rfl, by simp, fun i x h => by simp at h⟩
      | succ n' ih =>
        intro hn
        obtain ⟨l, h1, hs, h2⟩ := ih (by omega)
        obtain ⟨cs', h3, h4⟩ := hel n' (by simp at hmm; omega)
        obtain ⟨-, h5, h6⟩ := World.cells?_some h3
        obtain ⟨x, rfl, hg, hμ⟩ := hstep _ _ _ h4 h5
        dsimp only at hμ
        refine ⟨l ++ [x], by simp [h1], ?_, fun i y hi => ?_⟩
        · rw [List.range_succ, List.map_append, List.map_append, List.sum_append, bulkAll_append]
          simp [Rows.uptoBulkAll]
          omega
        · rcases Nat.lt_or_ge i n' with hlt | hge
          · rw [List.getElem?_append_left (by omega)] at hi
            exact h2 i y hi
          · rw [List.getElem?_append_right (by omega)] at hi
            have hi0 : i - l.length = 0 := by
              have := (List.getElem?_eq_some_iff.1 hi).1
              simp at this
              omega
            rw [hi0] at hi
            cases hi
            obtain rfl : i = n' := by omega
            refine ⟨hg, fun c hc => ?_⟩
            have := h6 c hc
            rwa [Go.Deep.add_add] at this
    obtain ⟨l, h1, hs, h2⟩ := hall len (Nat.le_refl _)
    refine ⟨l, ⟨by rw [flat_len hlen], some a, cap, by rw [h1], by omega, (fun h => by cases h), fun j hj => ?_⟩, fun x hx => ?_, ?_⟩
    · rw [flat_len hlen] at hj
      have hjk : j = j / k * k + j % k := by rw [Nat.mul_comm]; exact (Nat.div_add_mod j k).symm
      have hi : j / k < l.length := (Nat.div_lt_iff_lt_mul hk0).2 hj
      have hx : l[j / k]? = some l[j / k] := List.getElem?_eq_getElem hi
      have h3 := (h2 _ _ hx).2 (j % k) (Nat.mod_lt _ hk0)
      rw [← hjk] at h3
      have h4 := flat_get hlen l (j / k) (j % k) _ hx (Nat.mod_lt _ hk0)
      rw [← hjk] at h4
      obtain ⟨b, off, spot⟩ := a
      have hspot : spot = none := by
        have hl0 : 0 < l.length := Nat.lt_of_le_of_lt (Nat.zero_le _) hi
        have hx0 : l[0]? = some (l[0]'hl0) := List.getElem?_eq_getElem _
        have h0 := (h2 0 _ hx0).2 0 hk0
        have h5 : (ec (l[0]'hl0))[0]? = some ((ec (l[0]'hl0))[0]'(by rw [hlen]; exact hk0)) := List.getElem?_eq_getElem _
        rw [h5, Nat.zero_mul, Nat.zero_add] at h0
        simpa [Addr.add] using World.cell?_spot h0
      subst hspot
      refine ⟨b, off, rfl, ?_⟩
      rw [add_plain] at h3
      rw [h3, h4]
    · obtain ⟨i, hi⟩ := List.mem_iff_getElem?.1 hx
      exact (h2 i x hi).1
    · rw [Rows.uptoBulk]
      omega
theorem flat_one {α β : Type} (f : α → β) (l : List α) : l.flatMap (fun c => [f c]) = l.map f := by
  induction l with
  | nil => rfl
  | cons x l ih => rw [List.flatMap_cons, ih]; rfl
set_option maxRecDepth 100000 in
theorem trod_bytes {H : Type} {enc : TypeId × Value → H} {W : World} {v : Value} {y : DataW H × List MemPlace} {fuel : Nat} (h : DataW.trod enc Try.prog W 0 (fun _ => true) true fuel 23 [v] = some y) :
    ∃ l : List UInt8, Bs W v l ∧ l.length + 1 ≤ Rows.uptoBulk y.1 := by
  obtain ⟨l, h1, -, h3⟩ := trod_recs (α := UInt8) (k := 1) (ec := fun c => [B c]) (good := fun _ => True) (μ := fun _ => 1) (e := 5) (by kernel_rfl) (by kernel_rfl) (by decide) (fun _ => rfl) (fun n cs y h hl => by
    obtain ⟨z, rfl, hy, hw⟩ := DataW.trod_int Try.underlying5 h
    refine ⟨UInt8.ofNat z.toNat, ?_, trivial, ?_⟩
    · simp [Lit.wf, IntKind.min, IntKind.max, IntKind.signed, IntKind.bits] at hw
      simp [B]
      omega
    · rw [hy]
      simp [Rows.uptoBulk]) h
  refine ⟨l, ?_, by rw [List.map_const', List.sum_replicate_nat] at h3; omega⟩
  have e := flat_one B l
  unfold RdR at h1
  rw [e] at h1
  exact h1
theorem wf_u32 {x : Int} (h : (Lit.int .u32 x).wf = true) : 0 ≤ x ∧ x < 4294967296 := by
  simp [Lit.wf, IntKind.min, IntKind.max, IntKind.signed, IntKind.bits] at h
  omega
theorem wf_i64 {x : Int} (h : (Lit.int .i64 x).wf = true) : -9223372036854775808 ≤ x ∧ x < 9223372036854775808 := by
  simp [Lit.wf, IntKind.min, IntKind.max, IntKind.signed, IntKind.bits] at h
  omega
theorem len_10 {α : Type} {l : List α} (h : l.length = 10) : ∃ a0 a1 a2 a3 a4 a5 a6 a7 a8 a9, l = [a0, a1, a2, a3, a4, a5, a6, a7, a8, a9] := by
  match l, h with
  | a0 :: a1 :: a2 :: l, h =>
    obtain ⟨b0, b1, b2, b3, b4, b5, b6, rfl⟩ := len_7 (l := l) (by simpa using h)
    exact ⟨_, _, _, _, _, _, _, _, _, _, rfl⟩
/-- A struct of cells, each field of one cell: how each reads, with what was read. -/
theorem cells_struct2 {H : Type} {enc : TypeId × Value → H} {P : Program} {w : World} {base : Nat} {spare : Nat → Bool} {held : Bool} {t : TypeId} {fs : Array Field} {cs : List Value} {fuel : Nat} {y : DataW H × List MemPlace}
    (hs : P.underlying t = some (.struct fs)) (hone : Go.Deep.oneCellFields P fs = true) (hC : cs.length = fs.size) (h : DataW.trod enc P w base spare held fuel t cs = some y) :
    ∃ n ds, y.1 = .agg ds ∧ ∀ (j : Nat) (f : Field), fs[j]? = some f → ∃ x z, cs[j]? = some x ∧ DataW.trod enc P w base spare held n f.type [x] = some z ∧ ds[j]? = some z.1 := by
  obtain ⟨xs, n, _, hx, _, hlen, hg⟩ := DataW.trod_struct hs h
  refine ⟨n, xs.map (·.1), by rw [hx], fun j f hj => ?_⟩
  obtain ⟨o, k⟩ := Go.Deep.hone_of hone j f hj
  have hjl : j < fs.size := (Array.getElem?_eq_some_iff.1 hj).1
  have hcl : j < cs.length := by omega
  have h1 := hg j f hj
  rw [o, k] at h1
  have h2 : (List.drop j cs).take 1 = [cs[j]] := by
    rw [List.drop_eq_getElem_cons hcl]
    rfl
  rw [h2] at h1
  exact ⟨_, xs[j]'(by omega), List.getElem?_eq_getElem hcl, h1.trans (List.getElem?_eq_getElem _), by rw [List.getElem?_map, List.getElem?_eq_getElem (by omega)]; rfl⟩
/-- A file by value, as it is read; how great it is. -/
structure ElfRead (W : World) (v : Value) (n : Nat) (e : ElfM) (L : List (SecM × Value)) (sv gv : Value) : Prop where
  val : v = elfV e sv gv
  at_ : ElfAt W e L sv gv
  fits : e.fits
  names : ∀ s ∈ e.secs, s.name.length ≤ 9223372036854775807
  size : (L.map fun p => p.1.data.length + 1).sum + e.segs.length ≤ n
set_option maxRecDepth 100000 in
theorem trod_segs {H : Type} {enc : TypeId × Value → H} {W : World} {v : Value} {y : DataW H × List MemPlace} {fuel : Nat} (h : DataW.trod enc Try.prog W 0 (fun _ => true) true fuel 59 [v] = some y) :
    ∃ l : List SegM, RdR 7 encSeg W v l ∧ (∀ s ∈ l, s.fits) ∧ l.length ≤ Rows.uptoBulk y.1 := by
  obtain ⟨l, h1, h2, h3⟩ := trod_recs (α := SegM) (k := 7) (ec := encSeg) (good := SegM.fits) (μ := fun _ => 1) (e := 99) (by kernel_rfl) (by kernel_rfl) (by decide) (fun _ => rfl) (fun n cs y h hl => by
    obtain ⟨xs, n', -, rfl, -, -, -⟩ := DataW.trod_struct Try.underlying99 h
    obtain ⟨m, hf⟩ := cells_struct Try.underlying99 (by kernel_rfl) hl h
    obtain ⟨c0, c1, c2, c3, c4, c5, c6, rfl⟩ := len_7 hl
    obtain ⟨x0, y0, e0, t0⟩ := hf 0 _ rfl
    obtain ⟨x1, y1, e1, t1⟩ := hf 1 _ rfl
    obtain ⟨x2, y2, e2, t2⟩ := hf 2 _ rfl
    obtain ⟨x3, y3, e3, t3⟩ := hf 3 _ rfl
    obtain ⟨x4, y4, e4, t4⟩ := hf 4 _ rfl
    obtain ⟨x5, y5, e5, t5⟩ := hf 5 _ rfl
    obtain ⟨x6, y6, e6, t6⟩ := hf 6 _ rfl
    cases e0; cases e1; cases e2; cases e3; cases e4; cases e5; cases e6
    obtain ⟨n0, q0, -, w0⟩ := DataW.trod_int Try.underlying57 t0
    obtain ⟨n1, q1, -, w1⟩ := DataW.trod_int Try.underlying57 t1
    obtain ⟨n2, q2, -, w2⟩ := DataW.trod_int Try.underlying53 t2
    obtain ⟨n3, q3, -, w3⟩ := DataW.trod_int Try.underlying53 t3
    obtain ⟨n4, q4, -, w4⟩ := DataW.trod_int Try.underlying53 t4
    obtain ⟨n5, q5, -, w5⟩ := DataW.trod_int Try.underlying53 t5
    obtain ⟨n6, q6, -, w6⟩ := DataW.trod_int Try.underlying53 t6
    cases q0; cases q1; cases q2; cases q3; cases q4; cases q5; cases q6
    have h0 := wf_u32 w0
    have h1 := wf_u32 w1
    have h2 := wf_u64 w2
    have h3 := wf_u64 w3
    have h4 := wf_u64 w4
    have h5 := wf_u64 w5
    have h6 := wf_u64 w6
    refine ⟨⟨n0.toNat, n1.toNat, n2.toNat, n3.toNat, n4.toNat, n5.toNat, n6.toNat⟩, ?_, ⟨by show n0.toNat < _; omega, by show n1.toNat < _; omega, by show n2.toNat < _; omega, by show n3.toNat < _; omega, by show n4.toNat < _; omega, by show n5.toNat < _; omega, by show n6.toNat < _; omega⟩, by simp [Rows.uptoBulk]⟩
    simp only [encSeg, Int.toNat_of_nonneg h0.1, Int.toNat_of_nonneg h1.1, Int.toNat_of_nonneg h2.1, Int.toNat_of_nonneg h3.1, Int.toNat_of_nonneg h4.1, Int.toNat_of_nonneg h5.1, Int.toNat_of_nonneg h6.1]) h
  exact ⟨l, h1, h2, by rw [List.map_const', List.sum_replicate_nat] at h3; omega⟩
set_option maxRecDepth 100000 in
theorem trod_secs {H : Type} {enc : TypeId × Value → H} {W : World} {v : Value} {y : DataW H × List MemPlace} {fuel : Nat} (h : DataW.trod enc Try.prog W 0 (fun _ => true) true fuel 58 [v] = some y) :
    ∃ l : List (SecM × Value), RdR 10 encSec W v l ∧ (∀ p ∈ l, p.1.fits ∧ p.1.name.length ≤ 9223372036854775807 ∧ Bs W p.2 p.1.data) ∧ (l.map fun p => p.1.data.length + 1).sum + 1 ≤ Rows.uptoBulk y.1 := by
  refine trod_recs (α := SecM × Value) (k := 10) (ec := encSec) (good := fun p => p.1.fits ∧ p.1.name.length ≤ 9223372036854775807 ∧ Bs W p.2 p.1.data) (e := 69) (by kernel_rfl) (by kernel_rfl) (by decide) (fun _ => rfl) (fun n cs y h hl => ?_) h
  obtain ⟨m, ds, hy, hf⟩ := cells_struct2 Try.underlying69 (by kernel_rfl) hl h
  obtain ⟨c0, c1, c2, c3, c4, c5, c6, c7, c8, c9, rfl⟩ := len_10 hl
  obtain ⟨x0, y0, e0, t0, -⟩ := hf 0 _ rfl
  obtain ⟨x1, y1, e1, t1, -⟩ := hf 1 _ rfl
  obtain ⟨x2, y2, e2, t2, -⟩ := hf 2 _ rfl
  obtain ⟨x3, y3, e3, t3, -⟩ := hf 3 _ rfl
  obtain ⟨x4, y4, e4, t4, -⟩ := hf 4 _ rfl
  obtain ⟨x5, y5, e5, t5, -⟩ := hf 5 _ rfl
  obtain ⟨x6, y6, e6, t6, -⟩ := hf 6 _ rfl
  obtain ⟨x7, y7, e7, t7, -⟩ := hf 7 _ rfl
  obtain ⟨x8, y8, e8, t8, -⟩ := hf 8 _ rfl
  obtain ⟨x9, y9, e9, t9, d9⟩ := hf 9 _ rfl
  cases e0; cases e1; cases e2; cases e3; cases e4; cases e5; cases e6; cases e7; cases e8; cases e9
  obtain ⟨s, q0, -, hs⟩ := DataW.trod_string Try.underlying9 t0
  obtain ⟨n1, q1, -, w1⟩ := DataW.trod_int Try.underlying57 t1
  obtain ⟨n2, q2, -, w2⟩ := DataW.trod_int Try.underlying53 t2
  obtain ⟨n3, q3, -, w3⟩ := DataW.trod_int Try.underlying53 t3
  obtain ⟨n4, q4, -, w4⟩ := DataW.trod_int Try.underlying53 t4
  obtain ⟨n5, q5, -, w5⟩ := DataW.trod_int Try.underlying53 t5
  obtain ⟨n6, q6, -, w6⟩ := DataW.trod_int Try.underlying57 t6
  obtain ⟨n7, q7, -, w7⟩ := DataW.trod_int Try.underlying57 t7
  obtain ⟨n8, q8, -, w8⟩ := DataW.trod_int Try.underlying53 t8
  obtain ⟨dl, hdl, hdb⟩ := trod_bytes t9
  cases q0; cases q1; cases q2; cases q3; cases q4; cases q5; cases q6; cases q7; cases q8
  have h1 := wf_u32 w1
  have h2 := wf_u64 w2
  have h3 := wf_u64 w3
  have h4 := wf_u64 w4
  have h5 := wf_u64 w5
  have h6 := wf_u32 w6
  have h7 := wf_u32 w7
  have h8 := wf_u64 w8
  unfold maxLen at hs
  refine ⟨(⟨s.data.toList, n1.toNat, n2.toNat, n3.toNat, n4.toNat, n5.toNat, n6.toNat, n7.toNat, n8.toNat, dl⟩, c9), ?_, ⟨⟨by show n1.toNat < _; omega, by show n2.toNat < _; omega, by show n3.toNat < _; omega, by show n4.toNat < _; omega, by show n5.toNat < _; omega, by show n6.toNat < _; omega, by show n7.toNat < _; omega, by show n8.toNat < _; omega⟩, by show s.data.toList.length ≤ _; simpa using hs, hdl⟩, ?_⟩
  · simp only [encSec, Int.toNat_of_nonneg h1.1, Int.toNat_of_nonneg h2.1, Int.toNat_of_nonneg h3.1, Int.toNat_of_nonneg h4.1, Int.toNat_of_nonneg h5.1, Int.toNat_of_nonneg h6.1, Int.toNat_of_nonneg h7.1, Int.toNat_of_nonneg h8.1]
  · rw [hy, Rows.uptoBulk]
    have := bulk_get d9
    show dl.length + 1 ≤ _
    omega
set_option maxRecDepth 100000 in
theorem reads_elf {H : Type} {enc : TypeId × Value → H} {W : World} {base : Nat} {v : Value} {d : DataW H} {p : List MemPlace} (hv : Value.okWide Try.prog W .any base 61 v) (h : DataW.Trod enc Try.prog W 0 (fun _ => true) true 61 v d p) :
    ∃ e L sv gv, ElfRead W v (Rows.uptoBulk d) e L sv gv := by
  obtain ⟨cs, rfl, hsz⟩ := okWide_struct Try.underlying61 hv
  have h6 : cs.toList.length = 6 := by simp [hsz]; kernel_rfl
  obtain ⟨fuel, hf0⟩ := h
  obtain ⟨m, ds, hy, hf⟩ := cells_struct2 (cs := cs.toList) Try.underlying61 (by kernel_rfl) h6 hf0
  obtain ⟨c0, c1, c2, c3, c4, c5, hcs⟩ := len_6 h6
  rw [hcs] at hf
  obtain ⟨x0, y0, e0, t0, -⟩ := hf 0 _ rfl
  obtain ⟨x1, y1, e1, t1, -⟩ := hf 1 _ rfl
  obtain ⟨x2, y2, e2, t2, -⟩ := hf 2 _ rfl
  obtain ⟨x3, y3, e3, t3, -⟩ := hf 3 _ rfl
  obtain ⟨x4, y4, e4, t4, d4⟩ := hf 4 _ rfl
  obtain ⟨x5, y5, e5, t5, d5⟩ := hf 5 _ rfl
  cases e0; cases e1; cases e2; cases e3; cases e4; cases e5
  obtain ⟨n0, q0, -, w0⟩ := DataW.trod_int Try.underlying3 t0
  obtain ⟨n1, q1, -, w1⟩ := DataW.trod_int Try.underlying3 t1
  obtain ⟨n2, q2, -, w2⟩ := DataW.trod_int Try.underlying57 t2
  obtain ⟨n3, q3, -, w3⟩ := DataW.trod_int Try.underlying53 t3
  obtain ⟨L, hL, hg, hs⟩ := trod_secs t4
  obtain ⟨G, hG, hgg, hgs⟩ := trod_segs t5
  cases q0; cases q1; cases q2; cases q3
  have h0 := wf_i64 w0
  have h1 := wf_i64 w1
  have h2 := wf_u32 w2
  have h3 := wf_u64 w3
  have hbp := bulk_pair (by decide : 4 < 5) d4 d5
  refine ⟨⟨n0, n1, n2.toNat, n3.toNat, L.map (·.1), G⟩, L, c4, c5, ?_, ⟨rfl, hL, fun p hp => (hg p hp).2.2, hG⟩, ⟨h0, h1, by show n2.toNat < _; omega, by show n3.toNat < _; omega, fun s hs => ?_, hgg⟩, fun s hs => ?_, ?_⟩
  · have : cs = #[.int .i64 n0, .int .i64 n1, .int .u32 n2, .int .u64 n3, c4, c5] := by
      rw [← Array.toList_inj, hcs]
    rw [this]
    simp only [elfV, Int.toNat_of_nonneg h2.1, Int.toNat_of_nonneg h3.1]
  · obtain ⟨p, hp, rfl⟩ := List.mem_map.1 hs
    exact (hg p hp).1
  · obtain ⟨p, hp, rfl⟩ := List.mem_map.1 hs
    exact (hg p hp).2.1
  · dsimp only at hy
    rw [hy, Rows.uptoBulk]
    show _ + G.length ≤ _
    omega
theorem ElfRead.ok {W : World} {v : Value} {n : Nat} {e : ElfM} {L : List (SecM × Value)} {sv gv : Value} (h : ElfRead W v n e L sv gv) (hn : n ≤ 1048576) : ElfOk e ∧ dsum e.secs ≤ 1048576 := by
  have h1 := h.size
  have hs : dsum e.secs + e.secs.length = (L.map fun p => p.1.data.length + 1).sum := by
    rw [h.at_.secs]
    clear h h1
    induction L with
    | nil => rfl
    | cons p L ih =>
      unfold dsum at *
      simp only [List.map_cons, List.sum_cons, List.length_cons] at *
      omega
  refine ⟨⟨h.fits, by omega, h.names, by omega, by omega⟩, by omega⟩
end Go.Proofs.Ytgjoimcgiofinaa
namespace Go.Proofs.Ytgjoimcgiofinaa
open Go.ChangeShapes Go.WideShapes Go.ChangeAt Go.RowKit Go.Fd
set_option maxRecDepth 100000 in
theorem elfBackUpto_lifted (os : Os) (started : os.Started) (H : Type) (enc : TypeId × Value → H) (F : Stop.Interp) :
    ReturnsInHanded {} Try.checked os 12 .any ((Rows.OpenSpec.upto Rows.elfBackSpec).pre6 enc Try.prog Try.f12 Rows.elfBackUptoRow.domain false) (((Rows.OpenSpec.upto Rows.elfBackSpec).at F).post enc Try.prog Try.f12 false true false false) := by
  refine handed_cond (C := Try.checked) (s := (Rows.OpenSpec.upto Rows.elfBackSpec)) (k := Rows.uptoSmall) rfl Try.own started (by kernel_rfl) Try.func12
    (OpenSpec.witness (enc := enc) (C := Try.checked) (s := (Rows.OpenSpec.upto Rows.elfBackSpec)) (k := Rows.uptoSmall) rfl false ⟨#[], #[.agg #[.int .i64 0, .int .i64 0, .int .u32 0, .int .u64 0, .slice none 0 0, .slice none 0 0]], []⟩ 8 (by kernel_rfl) (by kernel_rfl) (by kernel_rfl)
      (x := ([.agg [.lit (.int .i64 0), .lit (.int .i64 0), .lit (.int .u32 0), .lit (.int .u64 0), .nil, .nil]], [], [])) (by kernel_rfl) rfl (by kernel_rfl)) ?_
  intro W base args ds gs before hval0 hW hk hz hsh
  have hval : ∀ (j : Nat) t v, Try.f12.params[j]? = some t → args[j]? = some v → Value.okWide Try.prog W .any base t v := hval0
  have hW' := hW
  obtain ⟨p, q, hA0, hV, rfl, hfz, hnd⟩ := hW
  have hA : DataW.TrodAll enc Try.prog W 0 (fun _ => true) true Try.f12.params.toList args.toList ds p := hA0
  have hlt : ∀ x ∈ p, x.block < W.heap.size := fun x hx => hW'.lt x (by simp [hx])
  have hback : ∀ W', Below W.heap.size W W' → DataW.TrodAll enc Try.prog W' 0 (fun b => decide (b < W.heap.size)) true Try.f12.params.toList args.toList ds p :=
    fun W' hb => belowAllB (by kernel_rfl) hb hA hlt
  rw [Try.params12] at hA hval
  obtain ⟨v0, vs0, d0, ds0, p0, q0, hargs, rfl, rfl, h0, r0⟩ := trodAll_cons hA
  obtain ⟨rfl, rfl, rfl⟩ := trodAll_nil r0
  obtain rfl : args = #[v0] := by
    cases args
    simp at hargs
    simp [hargs]
  clear hargs
  obtain ⟨rfl, rfl⟩ := trodVars_none hV
  have fin : ∀ (e : Ending) (W' : World), (e = .returned (.bool true) ∧ Below W.heap.size W W') → ∃ v, e = Ending.returned v ∧ ((Rows.OpenSpec.upto Rows.elfBackSpec).at F).post enc Try.checked.prog Try.f12 false true false false W #[v0] v W' := by
    rintro e W' ⟨rfl, hb⟩
    exact ⟨_, rfl, _, _, _, [], _, [], hW', trodAll_mk1 (shut_bool Try.underlying4 true), hback W' hb, rfl, hb.frame _, fun h => by cases h⟩
  obtain ⟨e, L, sv, gv, hr0⟩ := reads_elf (hval 0 61 v0 rfl rfl) h0
  have hb : Rows.uptoBulk d0 ≤ 1048576 := by
    have := of_decide_eq_true hk
    simp [Rows.uptoBulkAll] at this
    omega
  obtain rfl := hr0.val
  exact (elfBackLaw_any e L sv gv W hr0.at_ (hr0.ok hb).1).mono fin
theorem elfBackUpto_holds : Rows.ElfBackUptoSaid :=
  OpenClaim.holds_of_cond 12 Try.f12 rfl rfl rfl rfl rfl rfl rfl ⟨rfl, rfl, rfl, rfl, rfl⟩ rfl rfl rfl rfl rfl (by kernel_rfl) Try.func12 (by kernel_rfl)
    (of_decide_eq_true (by kernel_rfl)) (by unfold Func.isWrapper; rw [if_neg (of_decide_eq_false (by kernel_rfl))]; exact ⟨rfl, rfl⟩)
    (fun os started H enc _ F => elfBackUpto_lifted os started H enc F)
end Go.Proofs.Ytgjoimcgiofinaa
#print axioms Go.Proofs.Ytgjoimcgiofinaa.elfBackUpto_holds
