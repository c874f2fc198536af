/-
  Part 5 of 7: laws and walks for objectBackUpto_holds; no condition of its own.
-/
import Derived.Test.YtimnbnomaajmmaaOz4
namespace Go.Proofs.Ytimnbnomaajmmaa
open Go.RowKit Go.Fd
theorem flat_take {α : Type} {k : Nat} {enc : α → List Value} (hk : ∀ x, (enc x).length = k) : ∀ (l : List α) (n : Nat), (l.flatMap enc).take (n * k) = (l.take n).flatMap enc := by
  intro l
  induction l with
  | nil => intro n; simp
  | cons x l ih =>
    intro n
    cases n with
    | zero => simp
    | succ n =>
      rw [List.flatMap_cons, List.take_succ_cons, List.flatMap_cons, Nat.succ_mul, List.take_append, hk, List.take_of_length_le (by rw [hk]; omega), show n * k + k - k = n * k by omega, ih]
theorem flat_drop {α : Type} {k : Nat} {enc : α → List Value} (hk : ∀ x, (enc x).length = k) : ∀ (l : List α) (n : Nat), (l.flatMap enc).drop (n * k) = (l.drop n).flatMap enc := by
  intro l
  induction l with
  | nil => intro n; simp
  | cons x l ih =>
    intro n
    cases n with
    | zero => simp
    | succ n =>
      rw [List.flatMap_cons, List.drop_succ_cons, Nat.succ_mul, List.drop_append, hk, List.drop_of_length_le (by rw [hk]; omega), show n * k + k - k = n * k by omega, ih, List.nil_append]
theorem _root_.Go.Fd.RdR.sliceTo {α : Type} {P : Program} {t e size bytes : Nat} {enc : α → List Value} (T : SliceT P t e size bytes) (hk : ∀ x, (enc x).length = size) {w : World} {v : Value} {l : List α} (hv : RdR size enc w v l) {n : Nat} {k : IntKind} (hn : n ≤ l.length) :
    ∃ v', (∀ w', (Instr.sliceAt t v none (some (.int k (n : Int))) none).run P w' = .ok v' w') ∧ RdR size enc w v' (l.take n) := by
  obtain ⟨v', h1, h2⟩ := run_sliceTo T hv (j := (n : Int)) (k := k) (by omega) (by omega)
  refine ⟨v', h1, ?_⟩
  unfold RdR
  rw [List.length_take, Nat.min_eq_left hn, ← flat_take hk]
  exact h2
theorem TPart : SliceT Try.prog 22 43 6 96 := SliceT.mk' (z := .agg #[.string ⟨#[]⟩, .string ⟨#[]⟩, .int .i64 0, .int .i64 0, .slice none 0 0, .slice none 0 0]) (by kernel_rfl) (by kernel_rfl) rfl (by omega)
end Go.Proofs.Ytimnbnomaajmmaa
namespace Go.Proofs.Ytimnbnomaajmmaa
open Go.RowKit Go.Fd
theorem symW_len {l : List SymM} (hl : l.length ≤ 1000) : (symW l).1.length ≤ 24024 ∧ (symW l).2.1.length ≤ 129001 ∧ (symW l).2.2.1 ≤ 1001 := by
  by_cases h : symE l = 0
  · obtain ⟨-, h2, h3⟩ := symE_0 h
    rw [h3]
    dsimp only
    obtain ⟨h4, h5⟩ := build_ok h2
    have h6 := buildT_len (l.map (·.name)) fun s hs => by have := List.all_eq_true.1 h4 s hs; unfold mayS at this; simp at this; exact this.1
    have h7 : (l.zip (buildR (l.map (·.name))).2.1).length ≤ l.length := by rw [List.length_zip]; omega
    refine ⟨?_, ?_, ?_⟩
    · unfold symsB
      rw [List.length_append, List.length_replicate, flatz_len]
      omega
    · rw [h5]
      have := h6.1
      rw [List.length_map] at this
      show (buildT (l.map (·.name))).tab.length ≤ _
      omega
    · have := List.countP_le_length (p := fun s : SymM => decide (s.bind = 0)) (l := l)
      unfold locs
      omega
  · rw [symW_E h]
    dsimp only
    refine ⟨by simp, by simp, by omega⟩
theorem relaW_len {l : List RelaM} (hl : l.length ≤ 1000) : (relaW l).1.length ≤ 24000 := by
  unfold relaW
  split
  · simp
  · show (l.flatMap relaB).length ≤ _
    rw [rela_len]
    omega
theorem name_short {o : ObjM} (h : MayO o) : ∀ p ∈ o.parts, p.name.length ≤ 128 := fun p hp => by
  have h1 := (partE_0 ((partsE_0 _ _ h.parts).1 p hp)).1
  rw [named_may] at h1
  simp only [Bool.and_eq_true] at h1
  exact mayS_len h1.1.1.1.1.1
theorem elfO_data {o : ObjM} (ho : ObjOk o) (h : MayO o) : ∀ s ∈ (elfO o).secs, s.data.length ≤ 4194304 ∧ s.name.length ≤ 133 := by
  intro s hs
  have hs' : s ∈ o.parts.map secPart ++ relSecs (symtabNo o) 0 o.parts ++ [symSec o, strSec o] := hs
  have h9 := symW_len ho.wf.many
  rw [List.mem_append, List.mem_append] at hs'
  rcases hs' with (hs' | hs') | hs'
  · obtain ⟨p, hp, rfl⟩ := List.mem_map.1 hs'
    have h1 := ho.data p hp
    have h2 := name_short h p hp
    exact ⟨by show p.data.length ≤ _; omega, by show p.name.length ≤ _; omega⟩
  · obtain ⟨p, hp, j, hj, rfl⟩ := relSecs_mem _ _ hs'
    have h1 := relaW_len (ho.wf.relas p hp).1
    have h2 := name_short h p hp
    refine ⟨by show (relaW p.relas).1.length ≤ _; omega, ?_⟩
    show (relaN ++ p.name).length ≤ _
    rw [List.length_append, show relaN.length = 5 from rfl]
    omega
  · rcases List.mem_cons.1 hs' with rfl | hs'
    · exact ⟨by show (symW o.syms).1.length ≤ _; omega, by show symtabN.length ≤ _; decide⟩
    · rcases List.mem_singleton.1 hs' with rfl
      exact ⟨by show (symW o.syms).2.1.length ≤ _; omega, by show strtabN.length ≤ _; decide⟩
theorem relSecs_len (st : Nat) : ∀ (ps : List PartM) (i : Nat), (relSecs st i ps).length ≤ ps.length := by
  intro ps
  induction ps with
  | nil => intro i; simp [relSecs]
  | cons p ps ih =>
    intro i
    have := ih (i + 1)
    rw [relSecs]
    split
    · rw [List.length_cons, List.length_cons]; omega
    · rw [List.length_cons]; omega
theorem elfO_ok {o : ObjM} (ho : ObjOk o) (h : MayO o) : ElfOk (elfO o) := by
  have hd := elfO_data ho h
  have hl : (elfO o).secs.length ≤ 202 := by
    have h1 := relSecs_len (symtabNo o) o.parts 0
    have h2 := h.many.1
    show (o.parts.map secPart ++ relSecs (symtabNo o) 0 o.parts ++ [symSec o, strSec o]).length ≤ _
    rw [List.length_append, List.length_append, List.length_map]
    simp only [List.length_cons, List.length_nil]
    omega
  refine ⟨elfO_fits' ho.wf h (fun s hs => (hd s hs).1), ?_, fun s hs => by have := (hd s hs).2; omega, by omega, by show (0 : Nat) ≤ _; omega⟩
  have := dsum_le (fun s hs => (hd s hs).1)
  have h2 : (elfO o).secs.length * 4194304 ≤ 202 * 4194304 := Nat.mul_le_mul_right _ hl
  omega
theorem relSecs_snoc (st : Nat) (p : PartM) : ∀ (l : List PartM) (i : Nat), relSecs st i (l ++ [p]) = relSecs st i l ++ (if hasRel p then [relSec st (i + l.length) p] else []) := by
  intro l
  induction l with
  | nil => intro i; simp [relSecs]
  | cons x l ih =>
    intro i
    rw [List.cons_append, relSecs, relSecs, ih, List.length_cons, show i + 1 + l.length = i + (l.length + 1) by omega]
    split <;> simp
theorem count_take {ps : List PartM} {k : Nat} {p : PartM} (h : ps[k]? = some p) : (ps.take (k + 1)).countP hasRel = (ps.take k).countP hasRel + (if hasRel p then 1 else 0) := by
  rw [List.take_add_one, h]
  simp [List.countP_append, List.countP_cons]
/-- The parts' sections with their bytes, so many. -/
def secsK (L : List (PartM × Value × Value)) (k : Nat) : List (SecM × Value) := (L.take k).map fun x => (secPart x.1, x.2.1)
theorem secsK_succ {L : List (PartM × Value × Value)} {k : Nat} {x : PartM × Value × Value} (h : L[k]? = some x) : secsK L (k + 1) = secsK L k ++ [(secPart x.1, x.2.1)] := by
  unfold secsK
  rw [List.take_add_one, h]
  simp
theorem secsK_len {L : List (PartM × Value × Value)} {k : Nat} (h : k ≤ L.length) : (secsK L k).length = k := by
  unfold secsK
  rw [List.length_map, List.length_take]
  omega
theorem secsK_end (L : List (PartM × Value × Value)) : (secsK L L.length).map (·.1) = (L.map (·.1)).map secPart := by
  unfold secsK
  rw [List.take_length, List.map_map, List.map_map]
  rfl
/-- While a module's file is made: the file stands in block g, the module in block b. -/
structure FilInv (w wr : World) (g b : Nat) (hd : List Value) (bx : Array Value) (sv : Value) (T : List (SecM × Value)) : Prop where
  blk : wr.heap[g]? = some (.cells (hd ++ [sv, .slice none 0 0]).toArray 52 (0, 0))
  box : wr.heap[b]? = some (.cells bx 25 (0, 0))
  so : OwR 10 encSec 54 wr w.heap.size sv T
  data : ∀ p ∈ T, Bs w p.2 p.1.data ∨ OB wr w.heap.size p.2 p.1.data
  below : Below w.heap.size w wr
  hg : w.heap.size ≤ g
theorem FilInv.mono {w wr w' : World} {g b : Nat} {hd : List Value} {bx : Array Value} {sv : Value} {T : List (SecM × Value)} (h : FilInv w wr g b hd bx sv T) (hb : Below wr.heap.size wr w') : FilInv w w' g b hd bx sv T :=
  ⟨heap_below hb h.blk, heap_below hb h.box, h.so.mono hb, fun p hp => (h.data p hp).imp id fun h => h.mono hb, h.below.trans (hb.mono h.below.size), h.hg⟩
theorem FilInv.bs {w wr : World} {g b : Nat} {hd : List Value} {bx : Array Value} {sv : Value} {T : List (SecM × Value)} (h : FilInv w wr g b hd bx sv T) : ∀ p ∈ T, Bs wr p.2 p.1.data := fun p hp => by
  rcases h.data p hp with h1 | h1
  · exact h1.mono h.below
  · exact h1.bs
/-- A section more. -/
theorem FilInv.push {w wr w1 w2 : World} {g b : Nat} {hd : List Value} {bx : Array Value} {sv sv' dv : Value} {L : List (SecM × Value)} {s : SecM} (h : FilInv w wr g b hd bx sv L) (hdl : hd.length = 4) (ho : OwR 10 encSec 54 w1 w.heap.size sv' (L ++ [(s, dv)])) (hgr : wr.grownBy w1 sv.ownBlock) (hd0 : Bs w dv s.data ∨ OB wr w.heap.size dv s.data)
    (hb : w2.heap[g]? = some (.cells ((hd ++ [sv, .slice none 0 0]).toArray.setIfInBounds 4 sv') 52 (0, 0))) (hs : Stirs (fun k => k = g) w1 w2) : FilInv w w2 g b hd bx sv' (L ++ [(s, dv)]) := by
  have hk := keeps_own h.so hgr
  have hB : Below w.heap.size w w1 := h.below.trans (below_of_grown hgr h.below.size fun k hk => (World.ownsRow.lt h.so k hk).1)
  have hblk := hk _ _ _ _ (show 52 ≠ 54 by decide) h.blk
  have hbox := hk _ _ _ _ (show 25 ≠ 54 by decide) h.box
  have hne : ¬ b = g := fun e => by
    have h1 := h.blk
    rw [← e, h.box] at h1
    injection h1 with h1
    injection h1 with _ h1 _
    exact absurd h1 (by decide)
  refine ⟨?_, hs.kept hbox hne, owns_stirs ho hs (own_ne ho hblk (by decide)), fun p hp => ?_, hB.trans (hs.below hB.size fun k hk => by rw [hk]; exact h.hg), h.hg⟩
  · rw [hb]
    match hd, hdl with
    | [a, b, c, d], _ => rfl
  · have h0 : Bs w p.2 p.1.data ∨ OB wr w.heap.size p.2 p.1.data := by
      rcases List.mem_append.1 hp with hp | hp
      · exact h.data p hp
      · rw [List.mem_singleton] at hp
        rw [hp]
        exact hd0
    refine h0.imp id fun h0 => ?_
    have h1 := owns_grown h0 hgr (fun k hk hk2 => own_apart h0 h.so (by decide) hk hk2)
    exact owns_stirs h1 hs (own_ne h1 hblk (by decide))
/-- What else stands stays. -/
theorem FilInv.keeps {w wr w1 w2 : World} {g b : Nat} {hd : List Value} {bx : Array Value} {sv : Value} {L : List (SecM × Value)} (h : FilInv w wr g b hd bx sv L) (hgr : wr.grownBy w1 sv.ownBlock) (hs : Stirs (fun k => k = g) w1 w2) {c : Nat} {cs : Array Value} {t : TypeId} {fr : Nat × Nat} (hc : wr.heap[c]? = some (.cells cs t fr)) (h1 : t ≠ 54) (h2 : t ≠ 52) : w2.heap[c]? = some (.cells cs t fr) := by
  refine hs.kept (keeps_own h.so hgr _ _ _ _ h1 hc) fun e => ?_
  have h3 := h.blk
  rw [← e, hc] at h3
  injection h3 with h3
  injection h3 with _ h3 _
  exact h2 h3
end Go.Proofs.Ytimnbnomaajmmaa
namespace Go.Proofs.Ytimnbnomaajmmaa
open Go.RowKit Go.Fd
theorem u64W {n : Nat} (h : n ≤ 1000000000) : IntKind.u64.wrap (n : Int) = (n : Int) := by
  have := u64of_cast (n : Int)
  rw [this, u64of_pos (by omega) (by omega)]
  simp
theorem u32W {n : Nat} (h : n ≤ 1000000000) : IntKind.u32.wrap (n : Int) = (n : Int) := by
  simp [IntKind.wrap, IntKind.bits, IntKind.signed]
  omega
attribute [local irreducible] mayO fileO
set_option maxHeartbeats 16000000 in
set_option maxRecDepth 100000 in
theorem file6_any (o : ObjM) (L : List (PartM × Value × Value)) (pv sv : Value) (w : World) (h : ObjAt w o L pv sv) (ho : ObjOk o) :
    Calls Try.prog 8 #[objV o pv sv] w fun e w' => ∃ v, e = .returned (.tuple #[v, .int .i64 (fileO o).2]) ∧ OB w' w.heap.size v (fileO o).1 ∧ Below w.heap.size w w' := by
  have HMY := Lib.hid (fun wx (hb : Below w.heap.size w wx) => may6_any o L pv sv wx (h.mono hb) ho)
  have HSW := Lib.hid (fun wx (hb : Below w.heap.size w wx) => symsWrite_any o.syms _ wx ho.wf.many ho.wf.syms (h.syms.mono hb))
  have HEW := Lib.hid (fun (T : List (SecM × Value)) ev gv wx (hx : ElfAt wx (elfO o) T ev gv) (hm : MayO o) => writeE_any (elfO o) T ev gv wx hx (elfO_ok ho hm))
  have HH := Lib.hid h
  obtain ⟨pa, pc, rfl, hpc, -, hP⟩ := h.rd.open (fun _ => rfl)
  obtain ⟨sa, sc, rfl, hsc, -, hS⟩ := h.syms.open (fun _ => rfl)
  have HP := Lib.hid hP
  have hpl : o.parts.length = L.length := by rw [h.parts, List.length_map]
  have HFO : Hid (fileO o = if mayO o ≠ 0 then ([], mayO o) else if mayE (elfO o) = true then (fileB (elfO o), 0) else ([], 6)) := by unfold fileO; rfl
  have HFW : Hid (fileW (elfO o) = if mayE (elfO o) = true then (fileB (elfO o), 0) else ([], 1)) := rfl
  have HM0 := Lib.hid (mayO_0 (o := o))
  generalize hmo : mayO o = mo at *
  by_cases hm0 : mo = 0
  case neg =>
    have HR := Lib.hid (show fileO o = ([], mo) by rw [HFO.out, if_pos hm0])
    have hmb : (mo != 0) = true := bne_iff_ne.2 hm0
    clear hm0 HFO hmo HM0
    go_enter Try.func8, Try.ntmps8
    go_wp2_with (first
      | ((with_reducible show wpList _ _ _ (⟨some 1, .box _ _, _, _, _, _⟩ :: _) _ _); go_must (refine wpList_box rfl ?_; intro w1 hx1 hb1 hs1; have HX1 := Lib.hid hx1; have HB1 := Lib.hid hb1; obtain ⟨c0, c1, c2⟩ := obj_box hx1; clear hx1 hb1))
      | (go_at_call 12; refine (HMY.out _ HB1.out).mono ?_; rintro e w2 ⟨rfl, hb2⟩; have HB2 := Lib.hid (HB1.out.trans (hb2.mono HB1.out.size)); clear hb2))
    go_ret2
    exact ⟨_, by rw [HR.out]; rfl, by rw [HR.out]; exact OB.nil _ _, HB2.out⟩
  subst hm0
  have HMO := Lib.hid (HM0.out rfl)
  have HFI : Hid (fileO o = if mayE (elfO o) = true then (fileB (elfO o), 0) else ([], 6)) := by
    have := HFO.out
    rwa [if_neg (by simp)] at this
  clear HFO HM0 hmo
  have hm9 := HMO.out.many
  rw [hpl] at hm9
  obtain ⟨np, hnp⟩ : ∃ n, n = L.length := ⟨_, rfl⟩
  rw [← hnp] at hm9 hpc HMY HH ⊢
  have hnp9 := hm9.1
  have HNP := Lib.hid hnp
  have HOK := Lib.hid ho
  have HL := Lib.hid h.parts
  obtain ⟨rc, hrc⟩ : ∃ n, n = o.parts.countP hasRel := ⟨_, rfl⟩
  have HRC := Lib.hid hrc
  have hrc9 : rc ≤ 100 := by
    have := List.countP_le_length (p := hasRel) (l := o.parts)
    omega
  have HST : Hid (symtabNo o = np + rc + 1) := by
    unfold Hid symtabNo
    rw [hrc, hpl, hnp]
  obtain ⟨fl, hfl⟩ : ∃ fl : Nat, fl = if o.target = 3 then 1 else 0 := ⟨_, rfl⟩
  have HELF : Hid (elfO o = ⟨1, o.target, fl, 0, o.parts.map secPart ++ relSecs (symtabNo o) 0 o.parts ++ [symSec o, strSec o], []⟩) := by rw [hfl]; exact rfl
  have hfl2 : (o.target = 3 ∧ fl = 1) ∨ (¬ o.target = 3 ∧ fl = 0) := by
    by_cases h3 : o.target = 3
    · exact .inl ⟨h3, by rw [hfl, if_pos h3]⟩
    · exact .inr ⟨h3, by rw [hfl, if_neg h3]⟩
  clear hfl h hP hS hpl hnp ho hrc hm9
  rcases hfl2 with ⟨ht3, hfl⟩ | ⟨ht3, hfl⟩
  case' inl => have t3 : (o.target == 3) = true := by simpa using ht3
  case' inr => have t3 : (o.target == 3) = false := by simpa using ht3
  all_goals clear ht3
  all_goals have HFL := Lib.hid hfl
  all_goals clear hfl
  all_goals go_enter Try.func8, Try.ntmps8
  all_goals go_wp2_with (first
    | ((with_reducible show wpList _ _ _ (⟨some 1, .box _ _, _, _, _, _⟩ :: _) _ _); go_must (refine wpList_box rfl ?_; intro w1 hx1 hb1 hs1; have HX1 := Lib.hid hx1; have HB1 := Lib.hid hb1; obtain ⟨c0, c1, c2⟩ := obj_box hx1; clear hx1 hb1))
    | (go_at_call 12; refine (HMY.out _ HB1.out).mono ?_; rintro e w2 ⟨rfl, hb2⟩; have hs12 := hb2.size; have HX2 := Lib.hid (heap_below hb2 HX1.out); have HB2 := Lib.hid (HB1.out.trans (hb2.mono HB1.out.size)); obtain ⟨c0, c1, c2⟩ := obj_box HX2.out; clear hb2)
    | ((with_reducible show wpList _ _ _ (⟨some 5, .alloc _, _, _, _, _⟩ :: _) _ _); go_must (refine wpList_allocElf ?_; intro w3 hx3 hb3 hs3; have HE3 := Lib.hid hx3; have HX3 := Lib.hid (heap_below hb3 HX2.out); have HB3 := Lib.hid (HB2.out.trans (hb3.mono HB2.out.size)); obtain ⟨c0, c1, c2⟩ := obj_box HX3.out; clear hx3 hb3))
    | ((with_reducible show wpList _ _ _ (⟨none, .store _ (.tmp 5) _, _, _, _, _⟩ :: _) _ _); go_must (refine wpList_storeElf HE3.out rfl rfl rfl rfl (by simp [Value.oneCell']) (Nat.le_refl _) (Nat.le_of_lt hs3) ?_; intro w4 hh4 hb4; have HE4 := Lib.hid hh4; have HX4 := Lib.hid (heap_base hb4 HX3.out (by omega)); have HB4 := Lib.hid (HB3.out.trans (hb4.mono HB2.out.size)); obtain ⟨c0, c1, c2⟩ := obj_box HX4.out; obtain ⟨z0, z1, z2, z3, z4, z5⟩ := elf_box (e := ⟨1, o.target, 0, 0, [], []⟩) HE4.out; have hsz4 : w2.heap.size ≤ w4.heap.size := Nat.le_trans (Nat.le_of_lt hs3) hb4.size; clear hh4 hb4))
    | ((with_reducible show wpList _ _ _ (⟨none, .store _ (.tmp 31) _, _, _, _, _⟩ :: _) _ _); go_must (refine wpList_setN HE4.out (show 2 < 6 by decide) rfl rfl (Nat.le_refl _) hsz4 (fun w => by kernel_rfl) ?_; intro w5 hh5 hb5 hs5; have HE5 := Lib.hid (show w5.heap[w2.heap.size]? = some (.cells #[.int .i64 1, .int .i64 o.target, .int .u32 1, .int .u64 0, .slice none 0 0, .slice none 0 0] 52 (0, 0)) from hh5); have HX5 := Lib.hid (heap_base hb5 HX4.out (by omega)); have HB5 := Lib.hid (HB4.out.trans (hb5.mono HB2.out.size)); obtain ⟨c0, c1, c2⟩ := obj_box HX5.out; clear hh5 hb5)))
  all_goals first
    | have HI := Lib.hid (show FilInv w w5 w2.heap.size w.heap.size [.int .i64 1, .int .i64 o.target, .int .u32 (fl : Int), .int .u64 0] #[.int .i64 o.target, .slice pa np pc, .slice sa o.syms.length sc] (.slice none 0 0) [] from ⟨by rw [HFL.out]; exact HE5.out, HX5.out, OwR.nil _ _ _ _ _, (fun p hp => by cases hp), HB5.out, HB2.out.size⟩)
    | have HI := Lib.hid (show FilInv w w4 w2.heap.size w.heap.size [.int .i64 1, .int .i64 o.target, .int .u32 (fl : Int), .int .u64 0] #[.int .i64 o.target, .slice pa np pc, .slice sa o.syms.length sc] (.slice none 0 0) [] from ⟨by rw [HFL.out]; exact HE4.out, HX4.out, OwR.nil _ _ _ _ _, (fun p hp => by cases hp), HB4.out, HB2.out.size⟩)
  all_goals (
    have HG2 := HB2.out.size
    clear HMY t3
    go_loopw [6, 35] (fun x i wr => ∃ (k : Nat) (sq : Option Addr) (sn sr : Nat), x = .int .i64 (((o.parts.take k).countP hasRel : Nat) : Int) ∧ i = .int .i64 k ∧ k ≤ np ∧ Hid (FilInv w wr w2.heap.size w.heap.size [.int .i64 1, .int .i64 o.target, .int .u32 (fl : Int), .int .u64 0] #[.int .i64 o.target, .slice pa np pc, .slice sa o.syms.length sc] (.slice sq sn sr) (secsK L k))) (fun _ i _ => np - (intOf i).toNat)
    case atStart => exact ⟨0, none, 0, 0, by rw [List.take_zero]; rfl, rfl, Nat.zero_le _, HI.out⟩
    case round =>
      obtain ⟨k, sq, sn, sr, rfl, rfl, hk, HIr⟩ := hrel
      have hbs := HIr.out.below.size
      by_cases hlt : k < np
      · obtain ⟨x, hx⟩ : ∃ x, L[k]? = some x := ⟨_, List.getElem?_eq_getElem (by have := HNP.out; omega)⟩
        obtain ⟨b, oo, rfl, e0, e1, e2, e3, e4, e5, hb0⟩ := part_cells HP.out HIr.out.below hx
        have hxp : o.parts[k]? = some x.1 := by rw [HL.out, List.getElem?_map, hx]; rfl
        have HCT := Lib.hid (count_take hxp)
        have hc9 : (o.parts.take k).countP hasRel ≤ 100 := by
          have h1 := List.countP_le_length (p := hasRel) (l := o.parts.take k)
          rw [List.length_take] at h1
          omega
        have HSK := Lib.hid (secsK_succ hx)
        have HSL := Lib.hid (secsK_len (L := L) (k := k) (by have := HNP.out; omega))
        have HDB := Lib.hid (HH.out.data x (List.mem_of_getElem? hx))
        have HDS : Hid (Bs w x.2.1 (secPart x.1).data) := HDB
        have HSEC := Lib.hid (fun wx (hb : Below w.heap.size w wx) => section6_any x.1 x.2.1 x.2.2 wx (HDB.out.mono hb))
        have HHR : Hid (hasRel x.1 = decide (x.1.relas ≠ [])) := rfl
        obtain ⟨md, ad, cd, -, hdv, -, -⟩ := HDB.out.shape
        obtain ⟨mr, ar, cr, hmr, hrv, -, -⟩ := (HH.out.rela x (List.mem_of_getElem? hx)).shape
        generalize (o.parts.take k).countP hasRel = cn at *
        obtain ⟨⟨name, flags, align, size, data, relas⟩, dv, rv⟩ := x
        dsimp only at *
        subst hdv hrv
        clear hx hxp
        generalize hasRel ⟨name, flags, align, size, data, relas⟩ = hr at *
        generalize secPart ⟨name, flags, align, size, data, relas⟩ = sp at *
        go_wp2_with (first
          | ((with_reducible show wpList _ _ _ (⟨none, .store _ (.tmp 8) _, _, _, _, _⟩ :: _) _ _); go_must (refine wpList_storeNew rfl rfl (by kernel_rfl) rfl (by simp [Value.oneCell']) ?_; intro w6 hh6 hb6; have HH6 := Lib.hid hh6; have HI6 := Lib.hid (HIr.out.mono hb6); obtain ⟨d0, d1, d2, d3, d4, d5⟩ := part_box (x := (⟨name, flags, align, size, data, relas⟩, .slice ad md cd, .slice ar mr cr)) hh6; clear hh6 hb6)))
        have z4 : w6.cell? ⟨w2.heap.size, 4, none⟩ = some (.slice sq sn sr) := cell_rec HI6.out.blk 4
        have hAB := fun (x : Above w6) (b k : Nat) (h : b < w6.heap.size) => Above.cell x b k h
        have l0 := block_lt z4
        have l1 := block_lt d0
        refine wp_region_walk 5 [(3, .is (secV (sp, .slice ad md cd))), (4, Yld.one w6.heap.size 54 (encSec (sp, .slice ad md cd)).toArray)] (by kernel_rfl) (by kernel_rfl) ?_
        simp only [List.take_succ_cons, List.take_zero, List.drop_succ_cons, List.drop_zero]
        repeat (refine walk_quiet rfl rfl rfl ?_; intro K hK; go_big_quiet_op; go_big_quiet_on)
        refine walk_is rfl rfl (fun wx hwx _ => WpYld.callIsB (run_callL (vals := [_]) Try.func19 (by kernel_rfl) rfl rfl) (HSEC.out wx (HI6.out.below.trans (hwx.mono HI6.out.below.size)))) ?_
        go_frame
        refine walk_one rfl rfl (fun wx hwx _ => WpYld.val (run_oneSec rfl) (Yld.one_mk _ hwx).1 (Yld.one_mk _ hwx).2) (fun gb => ?_)
        go_frame
        refine walk_nil ?_
        intro wz hbz hF
        obtain ⟨hgb, hgo⟩ := Yld.one_got (hF 4 _ 43 _ rfl rfl rfl rfl)
        have HGB := Lib.hid hgo
        have HIZ := Lib.hid (HI6.out.mono hbz)
        have HHZ := Lib.hid (heap_below hbz HH6.out)
        clear hF hAB z4 hgo hbz
        refine wpList_cat TSec HIZ.out.so (rd_one rfl HGB.out rfl) rfl rfl (oneSec (L := [(sp, .slice ad md cd)]) (fun p hp => by rw [List.mem_singleton] at hp; rw [hp]; rfl)) (by rw [HSL.out]; simp; omega) (by rw [HSL.out]; simp; omega) HIZ.out.below.size ?_
        intro v7 w7 hv7 hg7 hb7
        have HG7 := Lib.hid hg7
        have HBL := Lib.hid (keeps_own HIZ.out.so hg7 _ _ _ _ (show 52 ≠ 54 by decide) HIZ.out.blk)
        have hsz7 : w.heap.size ≤ w7.heap.size := Nat.le_trans HIZ.out.below.size hb7.size
        obtain ⟨m7, q7, r7, -, rfl, _, _⟩ := (Reads.of_owns hv7).shape
        have HVV := Lib.hid (show OwR 10 encSec 54 w7 w.heap.size (.slice q7 m7 r7) (secsK L k ++ [(sp, .slice ad md cd)]) by unfold OwR; rw [List.length_append, List.flatMap_append]; exact hv7)
        clear hv7 hg7 hb7
        cases hr with
        | true =>
          have hm0 : ¬ mr = 0 := fun h => by
            have h1 := of_decide_eq_true HHR.out.symm
            exact h1 (List.length_eq_zero_iff.1 (by have := hmr.out; omega))
          go_wp2_with ((with_reducible show wpList _ _ _ (⟨none, .store _ (.tmp 45) _, _, _, _, _⟩ :: _) _ _); go_must (refine wpList_set HBL.out (Nat.lt_of_lt_of_eq (show 4 < 6 by decide) rfl) rfl rfl HG2 hsz7 (fun w => by kernel_rfl) ?_; intro w8 hh8 hb8 hs8; have HI8 := Lib.hid (FilInv.push HIZ.out rfl HVV.out HG7.out (.inl HDS.out) hh8 hs8); obtain ⟨d0, d1, d2, d3, d4, d5⟩ := part_box (x := (⟨name, flags, align, size, data, relas⟩, .slice ad md cd, .slice ar mr cr)) (HIZ.out.keeps HG7.out hs8 HHZ.out (by decide) (by decide)); clear hh8 hb8 hs8))
          go_roundw
          case rel => exact ⟨k + 1, q7, m7, r7, by rw [HCT.out]; go_num, by go_num, by omega, by rw [HSK.out]; exact HI8⟩
          case measure => simp [intOf] <;> omega
        | false =>
          have hm0 : mr = 0 := by
            have h1 := of_decide_eq_false HHR.out.symm
            have h2 : relas = [] := Classical.not_not.1 h1
            have := hmr.out
            rw [this, h2]
            rfl
          subst hm0
          go_wp2_with ((with_reducible show wpList _ _ _ (⟨none, .store _ (.tmp 45) _, _, _, _, _⟩ :: _) _ _); go_must (refine wpList_set HBL.out (Nat.lt_of_lt_of_eq (show 4 < 6 by decide) rfl) rfl rfl HG2 hsz7 (fun w => by kernel_rfl) ?_; intro w8 hh8 hb8 hs8; have HI8 := Lib.hid (FilInv.push HIZ.out rfl HVV.out HG7.out (.inl HDS.out) hh8 hs8); obtain ⟨d0, d1, d2, d3, d4, d5⟩ := part_box (x := (⟨name, flags, align, size, data, relas⟩, .slice ad md cd, .slice ar 0 cr)) (HIZ.out.keeps HG7.out hs8 HHZ.out (by decide) (by decide)); clear hh8 hb8 hs8))
          go_roundw
          case rel => exact ⟨k + 1, q7, m7, r7, by rw [HCT.out]; go_num, by go_num, by omega, by rw [HSK.out]; exact HI8⟩
          case measure => simp [intOf] <;> omega
      · obtain rfl : k = np := by omega
        have hpl : o.parts.length = k := by rw [HL.out, List.length_map]; exact HNP.out.symm
        have HE1 := Lib.hid (show (secsK L k).map (·.1) = o.parts.map secPart by rw [HNP.out, HL.out]; exact secsK_end L)
        have HT1 : (o.parts.take k).countP hasRel = rc := by rw [HRC.out, List.take_of_length_le (by omega)]
        rw [HT1]
        have hst9 : k + rc + 1 ≤ 201 := by omega
        have HSL := Lib.hid (secsK_len (L := L) (k := k) (by have := HNP.out; omega))
        clear HT1 HI
        have hu1 : IntKind.u32.wrap ((k : Int) + (rc : Int) + 1) = ((k + rc + 1 : Nat) : Int) := by
          rw [show ((k : Int) + (rc : Int) + 1) = ((k + rc + 1 : Nat) : Int) by omega]
          exact u32W (by omega)
        have hu2 : IntKind.u32.wrap ((k : Int) + (rc : Int) + 1 + 1) = ((k + rc + 1 + 1 : Nat) : Int) := by
          rw [show ((k : Int) + (rc : Int) + 1 + 1) = ((k + rc + 1 + 1 : Nat) : Int) by omega]
          exact u32W (by omega)
        obtain ⟨c0, c1, c2⟩ := obj_box HIr.out.box
        go_wp2
        go_loopw [62] (fun i wr => ∃ (j : Nat) (sq : Option Addr) (sn sr : Nat) (T : List (SecM × Value)), i = .int .i64 j ∧ j ≤ k ∧ Hid (FilInv w wr w2.heap.size w.heap.size [.int .i64 1, .int .i64 o.target, .int .u32 (fl : Int), .int .u64 0] #[.int .i64 o.target, .slice pa k pc, .slice sa o.syms.length sc] (.slice sq sn sr) T) ∧ Hid (T.map (·.1) = o.parts.map secPart ++ relSecs (symtabNo o) 0 (o.parts.take j))) (fun i _ => k - (intOf i).toNat)
        case atStart => exact ⟨0, sq, sn, sr, secsK L k, rfl, Nat.zero_le _, HIr, by rw [List.take_zero]; exact HE1.out.trans (List.append_nil _).symm⟩
        case round =>
          obtain ⟨j, tq, tn, tr, T, rfl, hj, HIj, HTM⟩ := hrel
          have hbj := HIj.out.below.size
          have htl : T.length ≤ k + j := by
            have h1 := congrArg List.length HTM.out
            have h2 := relSecs_len (symtabNo o) (o.parts.take j) 0
            rw [List.length_map, List.length_append, List.length_map] at h1
            rw [List.length_take] at h2
            omega
          by_cases hlt2 : j < k
          · obtain ⟨x, hx⟩ : ∃ x, L[j]? = some x := ⟨_, List.getElem?_eq_getElem (by have := HNP.out; omega)⟩
            obtain ⟨b, oo, rfl, e0, e1, e2, e3, e4, e5, hb0⟩ := part_cells HP.out HIj.out.below hx
            have hxp : o.parts[j]? = some x.1 := by rw [HL.out, List.getElem?_map, hx]; rfl
            have hmem : x.1 ∈ o.parts := List.mem_of_getElem? hxp
            have HTK := Lib.hid (show relSecs (symtabNo o) 0 (o.parts.take (j + 1)) = relSecs (symtabNo o) 0 (o.parts.take j) ++ (if hasRel x.1 then [relSec (k + rc + 1) j x.1] else []) by
              have h1 : (o.parts.take j).length = j := by rw [List.length_take]; omega
              rw [List.take_add_one, hxp, Option.toList_some, relSecs_snoc, h1, Nat.zero_add, HST.out])
            have HWR := Lib.hid (fun wx (hb : Below w.heap.size w wx) => writeRela_any x.1.relas x.2.2 wx (HOK.out.wf.relas x.1 hmem).1 (fun r hr => ((HOK.out.wf.relas x.1 hmem).2 r hr).1) ((HH.out.rela x (List.mem_of_getElem? hx)).mono hb))
            have HWL := Lib.hid (relaW_len (HOK.out.wf.relas x.1 hmem).1)
            have HW0 := relW_0 HMO.out x.1 hmem
            rw [HW0] at HWR
            have hnm := name_short HMO.out x.1 hmem
            have HHR : Hid (hasRel x.1 = decide (x.1.relas ≠ [])) := rfl
            have HRS : Hid (relSec (k + rc + 1) j x.1 = ⟨relaN ++ x.1.name, 4, 64, 0, 8, (relaW x.1.relas).1.length, k + rc + 1, j + 1, 24, (relaW x.1.relas).1⟩) := rfl
            obtain ⟨md, ad, cd, -, hdv, -, -⟩ := (HH.out.data x (List.mem_of_getElem? hx)).shape
            obtain ⟨mr, ar, cr, hmr, hrv, -, -⟩ := (HH.out.rela x (List.mem_of_getElem? hx)).shape
            obtain ⟨⟨name, flags, align, size, data, relas⟩, dv, rv⟩ := x
            dsimp only at *
            subst hdv hrv
            clear hx hxp hmem HW0
            generalize hasRel ⟨name, flags, align, size, data, relas⟩ = hr at *
            generalize relSec (k + rc + 1) j ⟨name, flags, align, size, data, relas⟩ = rs at *
            generalize (relaW relas).1 = rb at *
            cases hr with
            | false =>
              have hm0 : mr = 0 := by
                have h1 := of_decide_eq_false HHR.out.symm
                have h2 : relas = [] := Classical.not_not.1 h1
                have := hmr.out
                rw [this, h2]
                rfl
              subst hm0
              go_wp2_with (first
                | ((with_reducible show wpList _ _ _ (⟨none, .store _ (.tmp 11) _, _, _, _, _⟩ :: _) _ _); go_must (refine wpList_storeNew rfl rfl (by kernel_rfl) rfl (by simp [Value.oneCell']) ?_; intro w6 hh6 hb6; have HI6 := Lib.hid (HIj.out.mono hb6); obtain ⟨d0, d1, d2, d3, d4, d5⟩ := part_box (x := (⟨name, flags, align, size, data, relas⟩, .slice ad md cd, .slice ar 0 cr)) hh6; clear hh6 hb6)))
              exact ⟨⟨j + 1, tq, tn, tr, T, rfl, by omega, HI6, by show T.map (·.1) = _; rw [HTK.out, HTM.out]; simp⟩, by simp [intOf]; omega⟩
            | true =>
              have hm0 : ¬ mr = 0 := fun h => by
                have h1 := of_decide_eq_true HHR.out.symm
                exact h1 (List.length_eq_zero_iff.1 (by have := hmr.out; omega))
              have hcat : (⟨#[46, 114, 101, 108, 97]⟩ : ByteArray) ++ ⟨name.toArray⟩ = ⟨(relaN ++ name).toArray⟩ := cat_str relaN ⟨name.toArray⟩
              have hbig : ¬ 9223372036854775807 < 5 + name.length := by omega
              have hbig2 : ¬ 9223372036854775807 < name.length + 5 := by omega
              have hu3 : IntKind.u32.wrap ((j : Int) + 1) = ((j + 1 : Nat) : Int) := by
                rw [show ((j : Int) + 1) = ((j + 1 : Nat) : Int) by omega]
                exact u32W (by omega)
              have HNM := Lib.hid hnm
              clear hnm
              go_wp2_with (first
                | ((with_reducible show wpList _ _ _ (⟨none, .store _ (.tmp 11) _, _, _, _, _⟩ :: _) _ _); go_must (refine wpList_storeNew rfl rfl (by kernel_rfl) rfl (by simp [Value.oneCell']) ?_; intro w6 hh6 hb6; have HH6 := Lib.hid hh6; have HI6 := Lib.hid (HIj.out.mono hb6); obtain ⟨d0, d1, d2, d3, d4, d5⟩ := part_box (x := (⟨name, flags, align, size, data, relas⟩, .slice ad md cd, .slice ar mr cr)) hh6; clear hh6 hb6))
                | (go_at_call 20; refine (HWR.out _ HI6.out.below).mono ?_; rintro e w7 ⟨v', rfl, hov, hb7⟩; have HI7 := Lib.hid (HI6.out.mono hb7); have HOV := Lib.hid (hov.base HI6.out.below.size); obtain ⟨mv, qv, cv, hmv, rfl, -, -⟩ := hov.shape; have hmv9 : mv ≤ 24000 := (by have := hmv.out; have := HWL.out; omega); have huv := u64W (n := mv) (by omega); have z4 : w7.cell? ⟨w2.heap.size, 4, none⟩ = some (.slice tq tn tr) := cell_rec HI7.out.blk 4; obtain ⟨d0, d1, d2, d3, d4, d5⟩ := part_box (x := (⟨name, flags, align, size, data, relas⟩, .slice ad md cd, .slice ar mr cr)) (heap_below hb7 HH6.out); have HRS2 := Lib.hid (show rs = ⟨relaN ++ name, 4, 64, 0, 8, mv, k + rc + 1, j + 1, 24, rb⟩ by rw [HRS.out, hmv.out]); clear hb7 hov)
                | ((with_reducible show wpList _ _ _ (⟨some 95, _, _, _, _, _⟩ :: _) _ _); go_must (refine wpList_pushR TSec HI7.out.so rfl rfl (rs, .slice qv mv cv) (by rw [HRS2.out]; rfl) rfl (by rfl) (by omega) (by omega) HI7.out.below.size ?_; intro v8 w8 hv8 hg8 hb8; have HG8 := Lib.hid hg8; have HBL := Lib.hid (keeps_own HI7.out.so hg8 _ _ _ _ (show 52 ≠ 54 by decide) HI7.out.blk); have hsz8 : w.heap.size ≤ w8.heap.size := Nat.le_trans HI7.out.below.size hb8.size; obtain ⟨m8, q8, r8, -, rfl, _, _⟩ := hv8.shape; have HVV := Lib.hid hv8; clear hv8 hg8 hb8))
                | ((with_reducible show wpList _ _ _ (⟨none, .store _ (.tmp 96) _, _, _, _, _⟩ :: _) _ _); go_must (refine wpList_set HBL.out (Nat.lt_of_lt_of_eq (show 4 < 6 by decide) rfl) rfl rfl HG2 hsz8 (fun w => by kernel_rfl) ?_; intro w9 hh9 hb9 hs9; have HI9 := Lib.hid (FilInv.push HI7.out rfl HVV.out HG8.out (.inr (by rw [HRS2.out]; exact HOV.out)) hh9 hs9); clear hh9 hb9 hs9)))
              exact ⟨⟨j + 1, q8, m8, r8, T ++ [(rs, .slice qv mv cv)], rfl, by omega, HI9, by show (T ++ _).map (·.1) = _; rw [HTK.out, List.map_append, HTM.out]; simp⟩, by simp [intOf]; omega⟩
          · obtain rfl : j = k := by omega
            have HTE := Lib.hid (show T.map (·.1) = o.parts.map secPart ++ relSecs (symtabNo o) 0 o.parts by
              have := HTM.out
              rwa [List.take_of_length_le (by omega)] at this)
            have HSY : Hid (symSec o = ⟨symtabN, 2, 0, 0, 8, (symW o.syms).1.length, j + rc + 1 + 1, (symW o.syms).2.2.1, 24, (symW o.syms).1⟩) := by
              unfold Hid symSec
              rw [HST.out]
            have HSR : Hid (strSec o = ⟨strtabN, 3, 0, 0, 1, (symW o.syms).2.1.length, 0, 0, 0, (symW o.syms).2.1⟩) := rfl
            obtain ⟨n1, n2, n3⟩ := symW_len HOK.out.wf.many
            have hS0 := HMO.out.syms
            rw [hS0] at HSW
            have HEL := Lib.hid (show elfO o = ⟨1, o.target, fl, 0, o.parts.map secPart ++ relSecs (symtabNo o) 0 o.parts ++ [symSec o, strSec o], []⟩ from HELF.out)
            obtain ⟨c0, c1, c2⟩ := obj_box HIj.out.box
            generalize symSec o = ys at *
            generalize strSec o = zs at *
            have HN1 := Lib.hid n1
            have HN2 := Lib.hid n2
            generalize (symW o.syms).1 = yb at *
            generalize (symW o.syms).2.1 = zb at *
            generalize (symW o.syms).2.2.1 = lc at *
            have hu4 := u32W (n := lc) (by omega)
            clear hS0 HELF n1 n2 HTM HE1
            cases hme : mayE (elfO o) with
            | true =>
              rw [hme] at HFW HFI
              have HFW2 := Lib.hid (show fileW (elfO o) = (fileB (elfO o), 0) from HFW.out.trans (if_pos rfl))
              have HFI2 := Lib.hid (show fileO o = (fileB (elfO o), 0) from HFI.out.trans (if_pos rfl))
              clear hme HFW HFI
              go_wp2_with (first
                | (go_at_call 21; refine (HSW.out _ HIj.out.below).mono ?_; rintro e w7 ⟨v1, v2, rfl, hy, hz, hb7, hne⟩; have HI7 := Lib.hid (HIj.out.mono hb7); have HY := Lib.hid (hy.base HIj.out.below.size); have HZ := Lib.hid (hz.base HIj.out.below.size); obtain ⟨my, qy, cy, hmy, rfl, -, -⟩ := hy.shape; obtain ⟨mz, qz, cz, hmz, rfl, -, -⟩ := hz.shape; have hmy9 : my ≤ 24024 := (by have := hmy.out; have := HN1.out; omega); have hmz9 : mz ≤ 129001 := (by have := hmz.out; have := HN2.out; omega); have huy := u64W (n := my) (by omega); have huz := u64W (n := mz) (by omega); have HYS := Lib.hid (show ys = ⟨symtabN, 2, 0, 0, 8, my, j + rc + 1 + 1, lc, 24, yb⟩ by rw [HSY.out, hmy.out]); have HZS := Lib.hid (show zs = ⟨strtabN, 3, 0, 0, 1, mz, 0, 0, 0, zb⟩ by rw [HSR.out, hmz.out]); have z4 : w7.cell? ⟨w2.heap.size, 4, none⟩ = some (.slice tq tn tr) := cell_rec HI7.out.blk 4; clear hb7 hy hz hne)
                | ((with_reducible show wpList _ _ _ (⟨some 119, _, _, _, _, _⟩ :: _) _ _); go_must (refine wpList_pushR TSec HI7.out.so rfl rfl (ys, .slice qy my cy) (by rw [HYS.out]; rfl) rfl (by rfl) (by omega) (by omega) HI7.out.below.size ?_; intro v8 w8 hv8 hg8 hb8; have HG8 := Lib.hid hg8; have HBL := Lib.hid (keeps_own HI7.out.so hg8 _ _ _ _ (show 52 ≠ 54 by decide) HI7.out.blk); have hsz8 : w.heap.size ≤ w8.heap.size := Nat.le_trans HI7.out.below.size hb8.size; obtain ⟨m8, q8, r8, -, rfl, _, _⟩ := hv8.shape; have HVV := Lib.hid hv8; clear hv8 hg8 hb8))
                | ((with_reducible show wpList _ _ _ (⟨none, .store _ (.tmp 120) _, _, _, _, _⟩ :: _) _ _); go_must (refine wpList_set HBL.out (Nat.lt_of_lt_of_eq (show 4 < 6 by decide) rfl) rfl rfl HG2 hsz8 (fun w => by kernel_rfl) ?_; intro w9 hh9 hb9 hs9; have HI9 := Lib.hid (FilInv.push HI7.out rfl HVV.out HG8.out (.inr (by rw [HYS.out]; exact HY.out)) hh9 hs9); have HZ9 := Lib.hid (owns_stirs (owns_grown HZ.out HG8.out (fun k hk hk2 => Go.Fd.own_apart HZ.out HI7.out.so (by decide) hk hk2)) hs9 (own_ne (owns_grown HZ.out HG8.out (fun k hk hk2 => Go.Fd.own_apart HZ.out HI7.out.so (by decide) hk hk2)) HBL.out (by decide))); have z4 : w9.cell? ⟨w2.heap.size, 4, none⟩ = some (.slice q8 m8 r8) := cell_rec HI9.out.blk 4; clear hh9 hb9 hs9))
                | ((with_reducible show wpList _ _ _ (⟨some 129, _, _, _, _, _⟩ :: _) _ _); go_must (refine wpList_pushR TSec HI9.out.so rfl rfl (zs, .slice qz mz cz) (by rw [HZS.out]; rfl) rfl (by rfl) (by rw [List.length_append]; simp; omega) (by rw [List.length_append]; simp; omega) HI9.out.below.size ?_; intro va wa hva hga hba; have HGA := Lib.hid hga; have HBA := Lib.hid (keeps_own HI9.out.so hga _ _ _ _ (show 52 ≠ 54 by decide) HI9.out.blk); have hsza : w.heap.size ≤ wa.heap.size := Nat.le_trans HI9.out.below.size hba.size; obtain ⟨ma, qa, ra, -, rfl, _, _⟩ := hva.shape; have HVA := Lib.hid hva; clear hva hga hba))
                | ((with_reducible show wpList _ _ _ (⟨none, .store _ (.tmp 130) _, _, _, _, _⟩ :: _) _ _); go_must (refine wpList_set HBA.out (Nat.lt_of_lt_of_eq (show 4 < 6 by decide) rfl) rfl rfl HG2 hsza (fun w => by kernel_rfl) ?_; intro wb hhb hbb hsb; have HIB := Lib.hid (FilInv.push HI9.out rfl HVA.out HGA.out (.inr (by rw [HZS.out]; exact HZ9.out)) hhb hsb); have HIBE := Lib.hid (show ElfAt wb (elfO o) (T ++ [(ys, .slice qy my cy)] ++ [(zs, .slice qz mz cz)]) (.slice qa ma ra) (.slice none 0 0) from ⟨by rw [HEL.out]; show _ = (T ++ _ ++ _).map (·.1); rw [List.map_append, List.map_append, HTE.out]; simp, HIB.out.so.rd, HIB.out.bs, by rw [HEL.out]; exact RdR.nil _ _ _⟩); have HEWB : Hid (Calls Try.prog 22 #[.agg #[.int .i64 1, .int .i64 o.target, .int .u32 (fl : Int), .int .u64 0, .slice qa ma ra, .slice none 0 0]] wb fun r w' => ∃ v, r = .returned (.tuple #[v, .int .i64 0]) ∧ OB w' wb.heap.size v (fileB (elfO o)) ∧ Below wb.heap.size wb w') := Lib.hid (by have h1 := HEW.out _ (.slice qa ma ra) (.slice none 0 0) wb HIBE.out HMO.out; rw [show elfV (elfO o) (.slice qa ma ra) (.slice none 0 0) = .agg #[.int .i64 1, .int .i64 o.target, .int .u32 (fl : Int), .int .u64 0, .slice qa ma ra, .slice none 0 0] from by rw [HEL.out]; rfl, HFW2.out] at h1; exact h1); obtain ⟨z0, z1, z2, z3, z4, z5⟩ := elf_box (e := ⟨1, o.target, fl, 0, [], []⟩) HIB.out.blk; clear hhb hbb hsb))
                | (go_at_call 22; refine HEWB.out.mono ?_; rintro e wc ⟨vb, rfl, hob, hbc⟩; have HOBR := Lib.hid (hob.base HIB.out.below.size); have HBC := Lib.hid (HIB.out.below.trans (hbc.mono HIB.out.below.size)); clear hob hbc))
              go_ret2
              exact ⟨_, by rw [HFI2.out]; rfl, by rw [HFI2.out]; exact HOBR.out, HBC.out⟩
            | false =>
              rw [hme] at HFW HFI
              have HFW2 := Lib.hid (show fileW (elfO o) = ([], 1) from HFW.out.trans (if_neg (by simp)))
              have HFI2 := Lib.hid (show fileO o = ([], 6) from HFI.out.trans (if_neg (by simp)))
              clear hme HFW HFI
              go_wp2_with (first
                | (go_at_call 21; refine (HSW.out _ HIj.out.below).mono ?_; rintro e w7 ⟨v1, v2, rfl, hy, hz, hb7, hne⟩; have HI7 := Lib.hid (HIj.out.mono hb7); have HY := Lib.hid (hy.base HIj.out.below.size); have HZ := Lib.hid (hz.base HIj.out.below.size); obtain ⟨my, qy, cy, hmy, rfl, -, -⟩ := hy.shape; obtain ⟨mz, qz, cz, hmz, rfl, -, -⟩ := hz.shape; have hmy9 : my ≤ 24024 := (by have := hmy.out; have := HN1.out; omega); have hmz9 : mz ≤ 129001 := (by have := hmz.out; have := HN2.out; omega); have huy := u64W (n := my) (by omega); have huz := u64W (n := mz) (by omega); have HYS := Lib.hid (show ys = ⟨symtabN, 2, 0, 0, 8, my, j + rc + 1 + 1, lc, 24, yb⟩ by rw [HSY.out, hmy.out]); have HZS := Lib.hid (show zs = ⟨strtabN, 3, 0, 0, 1, mz, 0, 0, 0, zb⟩ by rw [HSR.out, hmz.out]); have z4 : w7.cell? ⟨w2.heap.size, 4, none⟩ = some (.slice tq tn tr) := cell_rec HI7.out.blk 4; clear hb7 hy hz hne)
                | ((with_reducible show wpList _ _ _ (⟨some 119, _, _, _, _, _⟩ :: _) _ _); go_must (refine wpList_pushR TSec HI7.out.so rfl rfl (ys, .slice qy my cy) (by rw [HYS.out]; rfl) rfl (by rfl) (by omega) (by omega) HI7.out.below.size ?_; intro v8 w8 hv8 hg8 hb8; have HG8 := Lib.hid hg8; have HBL := Lib.hid (keeps_own HI7.out.so hg8 _ _ _ _ (show 52 ≠ 54 by decide) HI7.out.blk); have hsz8 : w.heap.size ≤ w8.heap.size := Nat.le_trans HI7.out.below.size hb8.size; obtain ⟨m8, q8, r8, -, rfl, _, _⟩ := hv8.shape; have HVV := Lib.hid hv8; clear hv8 hg8 hb8))
                | ((with_reducible show wpList _ _ _ (⟨none, .store _ (.tmp 120) _, _, _, _, _⟩ :: _) _ _); go_must (refine wpList_set HBL.out (Nat.lt_of_lt_of_eq (show 4 < 6 by decide) rfl) rfl rfl HG2 hsz8 (fun w => by kernel_rfl) ?_; intro w9 hh9 hb9 hs9; have HI9 := Lib.hid (FilInv.push HI7.out rfl HVV.out HG8.out (.inr (by rw [HYS.out]; exact HY.out)) hh9 hs9); have HZ9 := Lib.hid (owns_stirs (owns_grown HZ.out HG8.out (fun k hk hk2 => Go.Fd.own_apart HZ.out HI7.out.so (by decide) hk hk2)) hs9 (own_ne (owns_grown HZ.out HG8.out (fun k hk hk2 => Go.Fd.own_apart HZ.out HI7.out.so (by decide) hk hk2)) HBL.out (by decide))); have z4 : w9.cell? ⟨w2.heap.size, 4, none⟩ = some (.slice q8 m8 r8) := cell_rec HI9.out.blk 4; clear hh9 hb9 hs9))
                | ((with_reducible show wpList _ _ _ (⟨some 129, _, _, _, _, _⟩ :: _) _ _); go_must (refine wpList_pushR TSec HI9.out.so rfl rfl (zs, .slice qz mz cz) (by rw [HZS.out]; rfl) rfl (by rfl) (by rw [List.length_append]; simp; omega) (by rw [List.length_append]; simp; omega) HI9.out.below.size ?_; intro va wa hva hga hba; have HGA := Lib.hid hga; have HBA := Lib.hid (keeps_own HI9.out.so hga _ _ _ _ (show 52 ≠ 54 by decide) HI9.out.blk); have hsza : w.heap.size ≤ wa.heap.size := Nat.le_trans HI9.out.below.size hba.size; obtain ⟨ma, qa, ra, -, rfl, _, _⟩ := hva.shape; have HVA := Lib.hid hva; clear hva hga hba))
                | ((with_reducible show wpList _ _ _ (⟨none, .store _ (.tmp 130) _, _, _, _, _⟩ :: _) _ _); go_must (refine wpList_set HBA.out (Nat.lt_of_lt_of_eq (show 4 < 6 by decide) rfl) rfl rfl HG2 hsza (fun w => by kernel_rfl) ?_; intro wb hhb hbb hsb; have HIB := Lib.hid (FilInv.push HI9.out rfl HVA.out HGA.out (.inr (by rw [HZS.out]; exact HZ9.out)) hhb hsb); have HIBE := Lib.hid (show ElfAt wb (elfO o) (T ++ [(ys, .slice qy my cy)] ++ [(zs, .slice qz mz cz)]) (.slice qa ma ra) (.slice none 0 0) from ⟨by rw [HEL.out]; show _ = (T ++ _ ++ _).map (·.1); rw [List.map_append, List.map_append, HTE.out]; simp, HIB.out.so.rd, HIB.out.bs, by rw [HEL.out]; exact RdR.nil _ _ _⟩); have HEWB : Hid (Calls Try.prog 22 #[.agg #[.int .i64 1, .int .i64 o.target, .int .u32 (fl : Int), .int .u64 0, .slice qa ma ra, .slice none 0 0]] wb fun r w' => ∃ v, r = .returned (.tuple #[v, .int .i64 1]) ∧ OB w' wb.heap.size v [] ∧ Below wb.heap.size wb w') := Lib.hid (by have h1 := HEW.out _ (.slice qa ma ra) (.slice none 0 0) wb HIBE.out HMO.out; rw [show elfV (elfO o) (.slice qa ma ra) (.slice none 0 0) = .agg #[.int .i64 1, .int .i64 o.target, .int .u32 (fl : Int), .int .u64 0, .slice qa ma ra, .slice none 0 0] from by rw [HEL.out]; rfl, HFW2.out] at h1; exact h1); obtain ⟨z0, z1, z2, z3, z4, z5⟩ := elf_box (e := ⟨1, o.target, fl, 0, [], []⟩) HIB.out.blk; clear hhb hbb hsb))
                | (go_at_call 22; refine HEWB.out.mono ?_; rintro e wc ⟨vb, rfl, hob, hbc⟩; have HOBR := Lib.hid (hob.base HIB.out.below.size); have HBC := Lib.hid (HIB.out.below.trans (hbc.mono HIB.out.below.size)); clear hob hbc))
              go_ret2
              exact ⟨_, by rw [HFI2.out]; rfl, by rw [HFI2.out]; exact OB.nil _ _, HBC.out⟩)
end Go.Proofs.Ytimnbnomaajmmaa
namespace Go.Proofs.Ytimnbnomaajmmaa
open Go.RowKit Go.Fd
theorem obRow2 {P : Program} {fn : Func} {p u : Tmp} {ty : TypeId} (h : fn.results = #[.cell p ty, .tmp u]) (tmps : Array Value) (w : World) (g : Nat) (t : TypeId) (cs : Array Value) (fr : Nat × Nat) (d : TypeDesc)
    (hp : tmps.getD p undef = .pointer (some ⟨g, 0, none⟩)) (hg : w.heap[g]? = some (.cells cs t fr))
    (hu : P.underlying ty = some d) (hd : (match d with | .struct _ | .array _ _ => true | _ => false) = true) (hi : (P.info? ty).map (·.size) = some cs.size) :
    (results fn tmps).run P w = .ok (.tuple #[.agg cs, tmps.getD u undef]) w := by
  rw [results_cell_tmp h, hp]
  simp [asAddr, Result.andThen, run_loadVar_row w g t ty cs fr d hg hu hd hi]
end Go.Proofs.Ytimnbnomaajmmaa
namespace Go.Fd
open Go.RowKit
section
variable {P : Program} {L : List Oper} {Q : Exit → Act → World → Prop} {S : World → Prop} {fuel i : Nat} {listed : Array Bool} {a : Act} {w : World} {o : Oper}
structure Of (S : World → Prop) where
  w : World
  h : S w
theorem heldS_quiet (hi : L[i]? = some o) (hB : (Region.noSelect L.toArray && Region.free .any L.toArray listed i && (Region.ready .any L.toArray listed).contains i) = true) (hw : Region.wanted o (yielded L.toArray a.tmps) = true) (hv : valB o = true) [_hne : Nonempty (Of S)]
    (hQ : ∀ v c a w, Q (.panic c) (a.put o.dst v) w → Q (.panic c) a w) (hb : S w)
    (h : ∀ K : Act → Prop, (∀ a, wpAnyH P .any L.toArray Q S fuel (listed.setIfInBounds i true) a w → K a) → o.quiet P a (fun w => ∃ x : Of S, w = x.w) K) : wpAnyH P .any L.toArray Q S (fuel + 1) listed a w := by
  simp only [Bool.and_eq_true] at hB
  obtain ⟨⟨h1, h2⟩, h3⟩ := hB
  obtain ⟨v, k1, k2⟩ := h (fun a => wpAnyH P .any L.toArray Q S fuel (listed.setIfInBounds i true) a w) (fun _ h => h)
  refine wpAnyH_take (i := i) (oi := o) (v := v) (by simpa using hi) h1 h2 h3 (hQ v) (.inl ⟨hw, fun w' hw' => ?_⟩) hb k2
  have := k1 w' ⟨⟨w', hw'⟩, rfl⟩
  unfold Oper.quietAt at this
  generalize hr : (execOp a.eval o).run P w' = res at this
  cases res with
  | halt x w2 => exact this.elim
  | ok n w2 =>
    obtain ⟨u, rfl⟩ := valB_spec hv hr
    obtain ⟨rfl, rfl⟩ := (this : w2 = w' ∧ u = v)
    rfl
/-- One operation alone may come up. -/
theorem heldS_one (hr : Region.ready .any L.toArray listed = [i]) (hi : L[i]? = some o)
    (h : wpList P L.toArray (Exit.then (fun a' w' => S w' ∧ wpAnyH P .any L.toArray Q S fuel (listed.setIfInBounds i true) a' w') Q) [o] a w) : wpAnyH P .any L.toArray Q S (fuel + 1) listed a w := by
  refine wpAnyH_all hr (by simp) ?_
  intro j hj
  rw [List.mem_singleton] at hj
  subst hj
  exact wpOp_of_list (by simpa using hi) h
end
end Go.Fd
namespace Go.Proofs.Ytimnbnomaajmmaa
open Go.RowKit Go.Fd
/-- A module in memory of its own. -/
structure ObjOwn (w : World) (base : Nat) (o : ObjM) (PL : List (PartM × Value × Value)) (pv sv : Value) : Prop where
  parts : o.parts = PL.map (·.1)
  po : OwR 6 encPart 43 w base pv PL
  data : ∀ p ∈ PL, OB w base p.2.1 p.1.data
  rela : ∀ p ∈ PL, OwR 4 encRela 65 w base p.2.2 p.1.relas
  so : OwR 6 encSym 46 w base sv o.syms
  apd : PL.Pairwise fun p q => ∀ k, p.2.1.ownBlock = some k → q.2.1.ownBlock ≠ some k
  apr : PL.Pairwise fun p q => ∀ k, p.2.2.ownBlock = some k → q.2.2.ownBlock ≠ some k
theorem ObjOwn.at {w : World} {base : Nat} {o : ObjM} {PL : List (PartM × Value × Value)} {pv sv : Value} (h : ObjOwn w base o PL pv sv) : ObjAt w o PL pv sv :=
  ⟨h.parts, h.po.rd, fun p hp => (h.data p hp).bs, fun p hp => (h.rela p hp).rd, h.so.rd⟩
theorem ObjOwn.mono {w w' : World} {base : Nat} {o : ObjM} {PL : List (PartM × Value × Value)} {pv sv : Value} (h : ObjOwn w base o PL pv sv) (hb : Below w.heap.size w w') : ObjOwn w' base o PL pv sv :=
  ⟨h.parts, h.po.mono hb, fun p hp => (h.data p hp).mono hb, fun p hp => (h.rela p hp).mono hb, h.so.mono hb, h.apd, h.apr⟩
theorem ObjOwn.base {w : World} {base base' : Nat} {o : ObjM} {PL : List (PartM × Value × Value)} {pv sv : Value} (h : ObjOwn w base o PL pv sv) (hb : base' ≤ base) : ObjOwn w base' o PL pv sv :=
  ⟨h.parts, h.po.rebase hb, fun p hp => (h.data p hp).base hb, fun p hp => (h.rela p hp).rebase hb, h.so.rebase hb, h.apd, h.apr⟩
abbrev objZ : Array Value := #[.int .i64 0, .slice none 0 0, .slice none 0 0]
/-- While sections are gone over: the module stands in block g, the result's block is r, the file is in block b, the map in block mb. -/
structure ModInv (w wr : World) (base g r b mb : Nat) (bx : Array Value) (tg : Int) (pc sc pv sv : Value) (PL : List (PartM × Value × Value)) (Y : List SymM) (A : List (List UInt8 × Nat)) : Prop where
  blk : wr.heap[g]? = some (.cells #[.int .i64 tg, pc, sc] 25 (0, 0))
  res : wr.heap[r]? = some (.cells objZ 25 (0, 0))
  box : wr.heap[b]? = some (.cells bx 52 (0, 0))
  map : MapIs Try.prog 9 S wr mb (A.map entE)
  po : OwR 6 encPart 43 wr w.heap.size pv PL
  so : OwR 6 encSym 46 wr w.heap.size sv Y
  data : ∀ p ∈ PL, OB w base p.2.1 p.1.data
  rela : ∀ p ∈ PL, OwR 4 encRela 65 wr w.heap.size p.2.2 p.1.relas
  apd : PL.Pairwise fun p q => ∀ k, p.2.1.ownBlock = some k → q.2.1.ownBlock ≠ some k
  apr : PL.Pairwise fun p q => ∀ k, p.2.2.ownBlock = some k → q.2.2.ownBlock ≠ some k
  below : Below w.heap.size w wr
  hg : w.heap.size ≤ g
  hr : w.heap.size ≤ r
  ne : r ≠ g
  hm : w.heap.size ≤ mb
theorem cells_ne {w : World} {a b : Nat} {c1 c2 : Array Value} {t1 t2 : TypeId} {f1 f2 : Nat × Nat} (h1 : w.heap[a]? = some (.cells c1 t1 f1)) (h2 : w.heap[b]? = some (.cells c2 t2 f2)) (hne : t1 ≠ t2) : a ≠ b := fun e => by
  rw [e, h2] at h1
  injection h1 with h1
  injection h1 with _ h1 _
  exact hne h1.symm
theorem map_ne {κ : Type} {mk : κ → Value} {P : Program} {k : TypeId} {w : World} {a b : Nat} {c1 : Array Value} {t1 : TypeId} {f1 : Nat × Nat} {E : List (κ × Value)} (h1 : w.heap[a]? = some (.cells c1 t1 f1)) (h2 : MapIs P k mk w b E) : b ≠ a := fun e => by
  obtain ⟨es, c, hb, -⟩ := h2
  rw [e, h1] at hb
  cases hb
section
variable {w wr w1 w2 w' : World} {base g r b mb : Nat} {bx : Array Value} {tg : Int} {pc sc pc' sc' pv pv' sv sv' : Value} {PL : List (PartM × Value × Value)} {Y Y' : List SymM} {A A' : List (List UInt8 × Nat)}
theorem ModInv.mono (h : ModInv w wr base g r b mb bx tg pc sc pv sv PL Y A) (hb : Below wr.heap.size wr w') : ModInv w w' base g r b mb bx tg pc sc pv sv PL Y A :=
  ⟨heap_below hb h.blk, heap_below hb h.res, heap_below hb h.box, h.map.mono hb, h.po.mono hb, h.so.mono hb, h.data, fun p hp => (h.rela p hp).mono hb, h.apd, h.apr, h.below.trans (hb.mono h.below.size), h.hg, h.hr, h.ne, h.hm⟩
/-- The module's own cells are written. -/
theorem ModInv.store (h : ModInv w wr base g r b mb bx tg pc sc pv sv PL Y A) (hb : w2.heap[g]? = some (.cells #[.int .i64 tg, pc', sc'] 25 (0, 0))) (hs : Stirs (fun k => k = g) wr w2) : ModInv w w2 base g r b mb bx tg pc' sc' pv sv PL Y A :=
  ⟨hb, hs.kept h.res h.ne, hs.kept h.box (cells_ne h.box h.blk (by decide)), h.map.block (hs.block mb h.map.lt (map_ne h.blk h.map)), owns_stirs h.po hs (own_ne h.po h.blk (by decide)), owns_stirs h.so hs (own_ne h.so h.blk (by decide)), h.data, fun p hp => owns_stirs (h.rela p hp) hs (own_ne (h.rela p hp) h.blk (by decide)), h.apd, h.apr,
    h.below.trans (hs.below h.below.size fun k hk => by rw [hk]; exact h.hg), h.hg, h.hr, h.ne, h.hm⟩
/-- An entry put into the map. -/
theorem ModInv.put (h : ModInv w wr base g r b mb bx tg pc sc pv sv PL Y A) (hm : MapIs Try.prog 9 S w2 mb (A'.map entE)) (hg : wr.grownBy w2 (some mb)) : ModInv w w2 base g r b mb bx tg pc sc pv sv PL Y A' := by
  have hs : Stirs (fun k => k = mb) wr w2 := Stirs.of_grown hg fun k hk => (Option.some.inj hk).symm
  exact ⟨hs.kept h.blk (fun e => map_ne h.blk h.map e.symm), hs.kept h.res (fun e => map_ne h.res h.map e.symm), hs.kept h.box (fun e => map_ne h.box h.map e.symm), hm, owns_grown h.po hg (fun k hk e => own_noMap' h.po h.map (by rw [hk]; exact e)), owns_grown h.so hg (fun k hk e => own_noMap' h.so h.map (by rw [hk]; exact e)), h.data,
    fun p hp => owns_grown (h.rela p hp) hg (fun k hk e => own_noMap' (h.rela p hp) h.map (by rw [hk]; exact e)), h.apd, h.apr, h.below.trans (hs.below h.below.size fun k hk => by rw [hk]; exact h.hm), h.hg, h.hr, h.ne, h.hm⟩
/-- A part more. -/
theorem ModInv.grow {x : PartM × Value × Value} (h : ModInv w wr base g r b mb bx tg pc sc pv sv PL Y A) (ho : OwR 6 encPart 43 w1 w.heap.size pv' (PL ++ [x])) (hgr : wr.grownBy w1 pv.ownBlock) (hd : OB w base x.2.1 x.1.data) (hr : x.2.2 = .slice none 0 0) (hx : x.1.relas = []) (ha : ∀ p ∈ PL, ∀ k, p.2.1.ownBlock = some k → x.2.1.ownBlock ≠ some k) : ModInv w w1 base g r b mb bx tg pc sc pv' sv (PL ++ [x]) Y A := by
  have hk := keeps_own h.po hgr
  refine ⟨hk _ _ _ _ (show 25 ≠ 43 by decide) h.blk, hk _ _ _ _ (show 25 ≠ 43 by decide) h.res, hk _ _ _ _ (show 52 ≠ 43 by decide) h.box, h.map.kept hgr (own_noMap' h.po h.map), ho, owns_grown h.so hgr (fun k hk hk2 => Go.Fd.own_apart h.so h.po (by decide) hk hk2), fun p hp => ?_, fun p hp => ?_, ?_, ?_, h.below.trans (below_of_grown hgr h.below.size fun k hk => (World.ownsRow.lt h.po k hk).1), h.hg, h.hr, h.ne, h.hm⟩
  · rcases List.mem_append.1 hp with hp | hp
    · exact h.data p hp
    · rw [List.mem_singleton] at hp
      rw [hp]; exact hd
  · rcases List.mem_append.1 hp with hp | hp
    · exact owns_grown (h.rela p hp) hgr (fun k hk hk2 => Go.Fd.own_apart (h.rela p hp) h.po (by decide) hk hk2)
    · rw [List.mem_singleton] at hp
      rw [hp, hr, hx]; exact OwR.nil _ _ _ _ _
  · exact List.pairwise_append.2 ⟨h.apd, List.pairwise_singleton _ _, fun p hp q hq => by rw [List.mem_singleton] at hq; rw [hq]; exact ha p hp⟩
  · exact List.pairwise_append.2 ⟨h.apr, List.pairwise_singleton _ _, fun p hp q hq k _ hk2 => by rw [List.mem_singleton] at hq; rw [hq, hr] at hk2; cases hk2⟩
theorem pairwise_set {α : Type} {R : α → α → Prop} {l : List α} {i : Nat} {y : α} (h : l.Pairwise R) (h1 : ∀ (j : Nat) (x : α), j ≠ i → l[j]? = some x → R x y ∧ R y x) : (l.set i y).Pairwise R := by
  rw [List.pairwise_iff_getElem] at *
  intro a c ha hc hac
  rw [List.length_set] at ha hc
  rw [List.getElem_set, List.getElem_set]
  by_cases e1 : i = a
  · rw [if_pos e1, if_neg (by omega)]
    exact (h1 c _ (by omega) (List.getElem?_eq_getElem hc)).2
  · rw [if_neg e1]
    by_cases e2 : i = c
    · rw [if_pos e2]
      exact (h1 a _ (by omega) (List.getElem?_eq_getElem ha)).1
    · rw [if_neg e2]
      exact h a c ha hc hac
/-- A part's relocations. -/
theorem ModInv.row {i : Nat} {x : PartM × Value × Value} {l : List RelaM} {rv : Value} (h : ModInv w wr base g r b mb bx tg pc sc pv sv PL Y A) (hi : PL[i]? = some x) (ho : OwR 4 encRela 65 wr w.heap.size rv l) (hf : ∀ p ∈ PL, ∀ k, rv.ownBlock = some k → p.2.2.ownBlock ≠ some k)
    (hp2 : OwR 6 encPart 43 w2 w.heap.size pv (PL.set i ({ x.1 with relas := l }, x.2.1, rv))) (hs : Stirs (fun k => pv.ownBlock = some k) wr w2) : ModInv w w2 base g r b mb bx tg pc sc pv sv (PL.set i ({ x.1 with relas := l }, x.2.1, rv)) Y A := by
  have hno : ∀ {c : Nat} {cs : Array Value} {t : TypeId} {fr : Nat × Nat}, wr.heap[c]? = some (.cells cs t fr) → t ≠ 43 → ¬ pv.ownBlock = some c := fun hc ht e => own_ne h.po hc ht _ e rfl
  have hap : ∀ {n base e size : Nat} {v : Value} {xs : List Value}, wr.ownsRow base e size v n xs → e ≠ 43 → ∀ k, v.ownBlock = some k → ¬ pv.ownBlock = some k := fun hv he k hk hk2 => Go.Fd.own_apart hv h.po he hk hk2
  refine ⟨hs.kept h.blk (hno h.blk (by decide)), hs.kept h.res (hno h.res (by decide)), hs.kept h.box (hno h.box (by decide)), h.map.block (hs.block mb h.map.lt fun e => own_noMap' h.po h.map e.symm), hp2, owns_stirs h.so hs (hap h.so (by decide)), fun p hp => ?_, fun p hp => ?_, ?_, ?_, h.below.trans (hs.below h.below.size fun k hk => (World.ownsRow.lt h.po k hk).1), h.hg, h.hr, h.ne, h.hm⟩
  · rcases List.mem_or_eq_of_mem_set hp with hp | rfl
    · exact h.data p hp
    · exact h.data x (List.mem_of_getElem? hi)
  · rcases List.mem_or_eq_of_mem_set hp with hp | rfl
    · exact owns_stirs (h.rela p hp) hs (hap (h.rela p hp) (by decide))
    · exact owns_stirs ho hs (hap ho (by decide))
  · refine pairwise_set h.apd fun j y hj hy => ?_
    obtain ⟨h1, h2⟩ := List.getElem?_eq_some_iff.1 hy
    obtain ⟨h3, h4⟩ := List.getElem?_eq_some_iff.1 hi
    have hpw := List.pairwise_iff_getElem.1 h.apd
    rcases Nat.lt_or_gt_of_ne hj with h5 | h5
    · have h6 := hpw j i h1 h3 h5
      rw [h2, h4] at h6
      exact ⟨h6, fun k hk hk2 => h6 k hk2 hk⟩
    · have h6 := hpw i j h3 h1 h5
      rw [h2, h4] at h6
      exact ⟨fun k hk hk2 => h6 k hk2 hk, h6⟩
  · refine pairwise_set h.apr fun j y hj hy => ?_
    have hy' := List.mem_of_getElem? hy
    exact ⟨fun k hk hk2 => hf y hy' k hk2 hk, hf y hy'⟩
end
end Go.Proofs.Ytimnbnomaajmmaa
namespace Go.Proofs.Ytimnbnomaajmmaa
open Go.RowKit Go.Fd
theorem run_allocObj {a : Act} {w : World} {d : Option Tmp} {ty : TypeId} {pos : String} {aft : Array Edge} {g : Option (Nat × Bool)} :
    (execOp a.eval ⟨d, .alloc 25, ty, pos, aft, g⟩).run Try.prog w = .ok (.value (.pointer (some ⟨w.heap.size, 0, none⟩))) (w.alloc (.cells objZ 25)) := by
  kernel_rfl
theorem wpList_allocObj {ops : Array Oper} {rest : List Oper} {Q : Exit → Act → World → Prop} {a : Act} {w : World} {d : Option Tmp} {ty : TypeId} {pos : String} {aft : Array Edge}
    (h : ∀ w1, w1.heap[w.heap.size]? = some (.cells objZ 25 (0, 0)) → Below w.heap.size w w1 → w.heap.size < w1.heap.size → wpList Try.prog ops Q rest (a.put d (.pointer (some ⟨w.heap.size, 0, none⟩))) w1) :
    wpList Try.prog ops Q (⟨d, .alloc 25, ty, pos, aft, none⟩ :: rest) a w :=
  wpList_val rfl run_allocObj (h (w.alloc (.cells objZ 25)) (heap_alloc_last w _) (below_alloc w _) (by rw [World.size_alloc]; omega))
/-- A whole module into a block that was made; what else stays. -/
theorem wpList_storeObjS {ops : Array Oper} {rest : List Oper} {Q : Exit → Act → World → Prop} {a : Act} {w : World} {d : Option Tmp} {ty : TypeId} {pos : String} {aft : Array Edge} {p x : Operand} {c c' : Array Value} {g : Nat} (hg : w.heap[g]? = some (.cells c 25 (0, 0))) (hp : a.eval p = .pointer (some ⟨g, 0, none⟩)) (hx : a.eval x = .agg c')
    (ho : c.size = c'.size) (hs : c'.size = 3) (h1 : c'.all (·.oneCell') = true)
    (h : ∀ w1, w1.heap[g]? = some (.cells c' 25 (0, 0)) → Stirs (fun k => k = g) w w1 → wpList Try.prog ops Q rest (a.put d undef) w1) :
    wpList Try.prog ops Q (⟨d, .store 25 p x, ty, pos, aft, none⟩ :: rest) a w :=
  wpList_storeRowS hg hp hx ho (by rw [hs]; kernel_rfl) h1 h
theorem putE_put (A : List (List UInt8 × Nat)) (s : List UInt8) (n : Nat) : putE (A.map entE) s (I64 n) = (putN A s n).map entE := by
  have hm : (A.map entE).map (·.1) = A.map (·.1) := by rw [List.map_map]; rfl
  unfold putE putN
  rw [hm]
  by_cases h : s ∈ A.map (·.1)
  · rw [if_pos h, if_pos h, List.map_map, List.map_map]
    apply List.map_congr_left
    intro p _
    show (if (entE p).1 = s then _ else _) = entE (if p.1 = s then _ else _)
    by_cases e : p.1 = s
    · rw [if_pos (show (entE p).1 = s from e), if_pos e]; rfl
    · rw [if_neg (show ¬ (entE p).1 = s from e), if_neg e]
  · rw [if_neg h, if_neg h, List.map_append]
    rfl
theorem putN_len (A : List (List UInt8 × Nat)) (s : List UInt8) (n : Nat) : (putN A s n).length ≤ A.length + 1 := by
  unfold putN
  split
  · rw [List.length_map]; omega
  · rw [List.length_append]; simp
theorem trim_is (s : List UInt8) : Lib.trimPrefix s relaN = trimRel s := by
  unfold Lib.trimPrefix trimRel
  rw [pre_rel]
  by_cases h : s.take 5 = relaN
  · rw [decide_eq_true h, if_pos rfl, if_pos h]; rfl
  · rw [decide_eq_false h, if_neg (by simp), if_neg h]
theorem flat_set {α : Type} {k : Nat} {enc : α → List Value} (hk : ∀ x, (enc x).length = k) {x y : α} {c : Nat} {v : Value} (hc : c < k) (hy : enc y = (enc x).set c v) : ∀ (l : List α) (i : Nat), l[i]? = some x → (l.flatMap enc).set (i * k + c) v = (l.set i y).flatMap enc := by
  intro l
  induction l with
  | nil => intro i h; simp at h
  | cons z l ih =>
    intro i h
    cases i with
    | zero =>
      simp at h
      subst h
      rw [Nat.zero_mul, Nat.zero_add, List.set_cons_zero, List.flatMap_cons, List.flatMap_cons, List.set_append, if_pos (by rw [hk]; exact hc), hy]
    | succ i =>
      rw [List.set_cons_succ, List.flatMap_cons, List.flatMap_cons, List.set_append, if_neg (by rw [hk, Nat.succ_mul]; omega), hk, Nat.succ_mul, show i * k + k + c - k = i * k + c by omega, ih i (by simpa using h)]
theorem setRel_set {PL : List (PartM × Value × Value)} {i : Nat} {x : PartM × Value × Value} {l : List RelaM} {rv : Value} (h : PL[i]? = some x) : (PL.set i ({ x.1 with relas := l }, x.2.1, rv)).map (·.1) = setRel (PL.map (·.1)) i l := by
  unfold setRel
  apply List.ext_getElem?
  intro j
  rw [List.getElem?_map, List.getElem?_set, List.getElem?_modify, List.getElem?_map]
  by_cases e : i = j
  · subst e
    obtain ⟨hlt, hx⟩ := List.getElem?_eq_some_iff.1 h
    simp [hlt, ← hx]
  · simp [e]
/-- What is still to be gone over. -/
def restP (T : List (SecM × Value)) (k : Nat) (ps : List PartM) (A : List (List UInt8 × Nat)) : Option (List PartM) := modP ((T.drop k).map (·.1)) ps A
theorem restP_end (T : List (SecM × Value)) (ps : List PartM) (A : List (List UInt8 × Nat)) : restP T T.length ps A = some ps := by
  unfold restP
  rw [List.drop_length]
  rfl
theorem restP_part {T : List (SecM × Value)} {k : Nat} {x : SecM × Value} {ps : List PartM} {A : List (List UInt8 × Nat)} (h : T[k]? = some x) (ht : x.1.typ ≠ 4) : restP T k ps A = restP T (k + 1) (ps ++ [partOf x.1]) (putN A x.1.name ps.length) := by
  unfold restP
  rw [drop_get h, List.map_cons, modP, if_pos ht]
theorem restP_none {T : List (SecM × Value)} {k : Nat} {x : SecM × Value} {ps : List PartM} {A : List (List UInt8 × Nat)} (h : T[k]? = some x) (ht : x.1.typ = 4) (hl : lkp A (trimRel x.1.name) = none) : restP T k ps A = none := by
  unfold restP
  rw [drop_get h, List.map_cons, modP, if_neg (by omega), hl]
theorem restP_some {T : List (SecM × Value)} {k i : Nat} {x : SecM × Value} {ps : List PartM} {A : List (List UInt8 × Nat)} (h : T[k]? = some x) (ht : x.1.typ = 4) (hl : lkp A (trimRel x.1.name) = some i) : restP T k ps A = if (relaRd x.1.data).2 ≠ 0 then none else restP T (k + 1) (setRel ps i (relaRd x.1.data).1) A := by
  unfold restP
  rw [drop_get h, List.map_cons, modP, if_neg (by omega), hl]
theorem ModInv.own {w wr w' : World} {base g r b mb : Nat} {bx : Array Value} {tg : Int} {pc sc pv sv : Value} {PL : List (PartM × Value × Value)} {Y : List SymM} {A : List (List UInt8 × Nat)} (h : ModInv w wr base g r b mb bx tg pc sc pv sv PL Y A) (hs : Stirs (fun k => k = r) wr w') (hb : base ≤ w.heap.size) : ObjOwn w' base ⟨tg, PL.map (·.1), Y⟩ PL pv sv :=
  ⟨rfl, OwR.rebase (owns_stirs h.po hs (own_ne h.po h.res (by decide))) hb, fun p hp => (h.data p hp).mono (h.below.trans (hs.below h.below.size fun k hk => by rw [hk]; exact h.hr)), fun p hp => OwR.rebase (owns_stirs (h.rela p hp) hs (own_ne (h.rela p hp) h.res (by decide))) hb, OwR.rebase (owns_stirs h.so hs (own_ne h.so h.res (by decide))) hb, h.apd, h.apr⟩
theorem run_onePart {x : Operand} {p : PartM} {d1 d2 : Option Addr} {m c m2 c2 : Nat} {a : Act} {w : World} {d : Option Tmp} {ty : TypeId} {pos : String} {aft : Array Edge} {g : Option (Nat × Bool)} (hx : a.eval x = partV (p, .slice d1 m c, .slice d2 m2 c2)) :
    (execOp a.eval ⟨d, .buildSlice 22 1 #[(0, x)], ty, pos, aft, g⟩).run Try.prog w = .ok (.value (.slice (some ⟨w.heap.size, 0, none⟩) 1 1)) (w.alloc (.cells (encPart (p, .slice d1 m c, .slice d2 m2 c2)).toArray 43)) := by
  simp only [execOp, List.map_toArray, List.map_cons, List.map_nil, hx]
  kernel_rfl
theorem onePart {L : List (PartM × Value × Value)} (h : ∀ p ∈ L, p.2.1.oneCell' = true ∧ p.2.2.oneCell' = true) : (L.flatMap encPart).all (·.oneCell') = true := by
  rw [List.all_eq_true]
  intro x hx
  obtain ⟨p, hp, hx⟩ := List.mem_flatMap.1 hx
  have := h p hp
  simp only [encPart, List.mem_cons, List.not_mem_nil, or_false] at hx
  rcases hx with rfl | rfl | rfl | rfl | rfl | rfl <;> first | rfl | exact this.1 | exact this.2
/-- How it ends. -/
def ModRes (md : List SecM → Option (List PartM)) (e : ElfM) (base : Nat) (r : Ending) (w : World) : Prop :=
  (∃ o PL pv sv, secsO md e = some o ∧ r = .returned (.tuple #[objV o pv sv, .bool true]) ∧ ObjOwn w base o PL pv sv) ∨
  (secsO md e = none ∧ ∃ t a1 n1 c1 a2 n2 c2, r = .returned (.tuple #[.agg #[.int .i64 t, .slice a1 n1 c1, .slice a2 n2 c2], .bool false]))
set_option maxHeartbeats 16000000 in
set_option maxRecDepth 100000 in
theorem module6_any (e : ElfM) (L : List (SecM × Value)) (sv gv : Value) (base : Nat) (w : World) (h : ElfOwn w base e L sv gv) (hap : ApartS L) (hl : e.secs.length ≤ 1000) (hd : ∀ s ∈ e.secs, s.data.length ≤ 1000000 ∧ s.name.length ≤ 1000000000 ∧ (s.typ = 4 → s.data.length ≤ 24000)) (hx2 : ∀ s, e.secs[e.secs.length - 2]? = some s → s.data.length ≤ 100000) (hfit : e.fits) (hbase : base ≤ w.heap.size) :
    Calls Try.prog 31 #[elfV e sv gv] w fun r w' => ModRes (fun l => modP l [] []) e base r w' ∧ Below w.heap.size w w' := by
  have HH := Lib.hid h
  have HAP := Lib.hid hap
  have HD := Lib.hid hd
  have HX2' := Lib.hid hx2
  have HFT := Lib.hid hfit
  obtain ⟨xa, xc, rfl, hxc, -, hX⟩ := h.so.rd.open (fun _ => rfl)
  have HX := Lib.hid hX
  have hsl : e.secs.length = L.length := by rw [h.secs, List.length_map]
  have HES := Lib.hid h.secs
  have HSO : Hid (secsO (fun l => modP l [] []) e = if e.secs.length < 2 then none else if (symRd (e.secs[e.secs.length - 2]?.elim [] (·.data)) (e.secs[e.secs.length - 1]?.elim [] (·.data))).2 ≠ 0 then none else (modP (e.secs.take (e.secs.length - 2)) [] []).map fun ps => ⟨e.target, ps, (symRd (e.secs[e.secs.length - 2]?.elim [] (·.data)) (e.secs[e.secs.length - 1]?.elim [] (·.data))).1⟩) := rfl
  rw [hsl] at HSO hl
  obtain ⟨nl, hnl⟩ : ∃ n, n = L.length := ⟨_, rfl⟩
  rw [← hnl] at HSO hl hxc ⊢
  have HNL := Lib.hid hnl
  obtain ⟨gm, ga, gc, -, rfl, -, -⟩ := h.go.shape
  have HSLN := Lib.hid (hsl.trans hnl.symm)
  clear h hap hd hx2 hfit hX hsl hnl
  by_cases h2 : nl < 2
  · have HR := Lib.hid (show secsO (fun l => modP l [] []) e = none by rw [HSO.out, if_pos h2])
    go_enter Try.func31, Try.ntmps31
    go_wp2_with (first
      | ((with_reducible show wpList _ _ _ (⟨some 1, .box _ _, _, _, _, _⟩ :: _) _ _); go_must (refine wpList_box rfl ?_; intro w1 hx1 hb1 hs1; have HX1 := Lib.hid hx1; have HB1 := Lib.hid hb1; clear hx1 hb1))
      | ((with_reducible show wpList _ _ _ (⟨some 2, .alloc _, _, _, _, _⟩ :: _) _ _); go_must (refine wpList_allocObj ?_; intro w2 hx2 hb2 hs2; have HR2 := Lib.hid hx2; have HX2 := Lib.hid (heap_below hb2 HX1.out); have HB2 := Lib.hid (HB1.out.trans (hb2.mono HB1.out.size)); obtain ⟨c0, c1, c2, c3, c4, c5⟩ := elf_box HX2.out; clear hx2 hb2))
      | ((with_reducible show wpList _ _ _ (⟨some 4, .alloc _, _, _, _, _⟩ :: _) _ _); go_must (refine wpList_allocObj ?_; intro w3 hx3 hb3 hs3; have HE3 := Lib.hid hx3; have HR3 := Lib.hid (heap_below hb3 HR2.out); have HX3 := Lib.hid (heap_below hb3 HX2.out); have HB3 := Lib.hid (HB2.out.trans (hb3.mono HB2.out.size)); clear hx3 hb3))
      | ((with_reducible show wpList _ _ _ (⟨none, .store _ (.tmp 4) _, _, _, _, _⟩ :: _) _ _); go_must (refine wpList_storeObjS HE3.out rfl rfl rfl rfl (by simp [Value.oneCell']) ?_; intro w4 hh4 hs4; have HE4 := Lib.hid hh4; have HX4 := Lib.hid (hs4.kept HX3.out (by omega)); have HR4 := Lib.hid (hs4.kept HR3.out (by omega)); have HB4 := Lib.hid (HB3.out.trans (hs4.below HB3.out.size (fun k hk => by rw [hk]; exact HB2.out.size))); obtain ⟨c0, c1, c2, c3, c4, c5⟩ := elf_box HX4.out; obtain ⟨z0, z1, z2⟩ := obj_box HE4.out; clear hh4 hs4))
      | ((with_reducible show wpList _ _ _ (⟨none, .store _ (.tmp 2) _, _, _, _, _⟩ :: _) _ _); go_must (refine wpList_storeObjS HR4.out rfl rfl rfl rfl (by simp [Value.oneCell']) ?_; intro w5 hh5 hs5; have HH5 := Lib.hid hh5; have HB5 := Lib.hid (HB4.out.trans (hs5.below HB4.out.size (fun k hk => by rw [hk]; exact HB1.out.size))); clear hh5 hs5)))
    exact bodyPost_ret (obRow2 rfl _ _ w1.heap.size _ _ _ _ rfl HH5.out rfl rfl (by kernel_rfl)) rfl ⟨.inr ⟨HR.out, _, _, _, _, _, _, _, rfl⟩, HB5.out⟩
  obtain ⟨kk, rfl⟩ : ∃ kk, nl = kk + 2 := ⟨nl - 2, by omega⟩
  obtain ⟨x, hx⟩ : ∃ x, L[kk]? = some x := ⟨_, List.getElem?_eq_getElem (by have := HNL.out; omega)⟩
  obtain ⟨y, hy⟩ : ∃ y, L[kk + 1]? = some y := ⟨_, List.getElem?_eq_getElem (by have := HNL.out; omega)⟩
  have HMX := Lib.hid (List.mem_of_getElem? hx)
  have HMY := Lib.hid (List.mem_of_getElem? hy)
  have hex : e.secs[kk]? = some x.1 := by rw [HES.out, List.getElem?_map, hx]; rfl
  have hey : e.secs[kk + 1]? = some y.1 := by rw [HES.out, List.getElem?_map, hy]; rfl
  have HSP : Hid (secsO (fun l => modP l [] []) e = if (symRd x.1.data y.1.data).2 ≠ 0 then none else (modP (e.secs.take kk) [] []).map fun ps => ⟨e.target, ps, (symRd x.1.data y.1.data).1⟩) := by
    have := HSO.out
    rw [if_neg h2, show kk + 2 - 2 = kk by omega, show kk + 2 - 1 = kk + 1 by omega, hex, hey] at this
    exact this
  have HTK := Lib.hid (show e.secs.take kk = (L.take kk).map (·.1) by rw [HES.out, List.map_take])
  have HDX := Lib.hid (HX2'.out x.1 (by rw [HSLN.out]; exact hex))
  have HDY := Lib.hid (HD.out y.1 (List.mem_of_getElem? hey)).1
  have HSR : Hid (∀ wx, Below w.heap.size w wx → Calls Try.prog 69 #[x.2, y.2] wx fun e w' => ∃ v', e = .returned (.tuple #[v', .int .i64 (symRd x.1.data y.1.data).2]) ∧ OwR 6 encSym 46 w' wx.heap.size v' (symRd x.1.data y.1.data).1 ∧ Below wx.heap.size wx w') := Lib.hid (fun wx hb => symsRead_any x.1.data y.1.data x.2 y.2 wx (by have := HDX.out; omega) (by have := HDY.out; omega) ((HH.out.data x HMX.out).bs.mono hb) ((HH.out.data y HMY.out).bs.mono hb))
  clear HSO h2 hex hey
  obtain ⟨xm, xad, xcp, -, hxv, -, -⟩ := (HH.out.data x HMX.out).shape
  obtain ⟨ym, yad, ycp, -, hyv, -, -⟩ := (HH.out.data y HMY.out).shape
  generalize hsy : symRd x.1.data y.1.data = sy at *
  obtain ⟨Y, sc⟩ := sy
  obtain ⟨xs, xv⟩ := x
  obtain ⟨ys, yv⟩ := y
  dsimp only at *
  subst hxv hyv
  clear hsy
  go_enter Try.func31, Try.ntmps31
  go_wp2_with (first
    | ((with_reducible show wpList _ _ _ (⟨some 1, .box _ _, _, _, _, _⟩ :: _) _ _); go_must (refine wpList_box rfl ?_; intro w1 hx1 hb1 hs1; have HX1 := Lib.hid hx1; have HB1 := Lib.hid hb1; clear hx1 hb1))
    | ((with_reducible show wpList _ _ _ (⟨some 2, .alloc _, _, _, _, _⟩ :: _) _ _); go_must (refine wpList_allocObj ?_; intro w2 hx2 hb2 hs2; have HR2 := Lib.hid hx2; have HX2 := Lib.hid (heap_below hb2 HX1.out); have HB2 := Lib.hid (HB1.out.trans (hb2.mono HB1.out.size)); obtain ⟨c0, c1, c2, c3, c4, c5⟩ := elf_box HX2.out; clear hx2 hb2))
    | ((with_reducible show wpList _ _ _ (⟨some 4, .alloc _, _, _, _, _⟩ :: _) _ _); go_must (refine wpList_allocObj ?_; intro w3 hx3 hb3 hs3; have HE3 := Lib.hid hx3; have HR3 := Lib.hid (heap_below hb3 HR2.out); have HX3 := Lib.hid (heap_below hb3 HX2.out); have HB3 := Lib.hid (HB2.out.trans (hb3.mono HB2.out.size)); clear hx3 hb3))
    | ((with_reducible show wpList _ _ _ (⟨none, .store _ (.tmp 4) _, _, _, _, _⟩ :: _) _ _); go_must (refine wpList_storeObjS HE3.out rfl rfl rfl rfl (by simp [Value.oneCell']) ?_; intro w4 hh4 hs4; have HE4 := Lib.hid hh4; have HX4 := Lib.hid (hs4.kept HX3.out (by omega)); have HR4 := Lib.hid (hs4.kept HR3.out (by omega)); have HB4 := Lib.hid (HB3.out.trans (hs4.below HB3.out.size (fun k hk => by rw [hk]; exact HB2.out.size))); have hz4 := hs4.size; obtain ⟨c0, c1, c2, c3, c4, c5⟩ := elf_box HX4.out; obtain ⟨z0, z1, z2⟩ := obj_box HE4.out; clear hh4 hs4)))
  obtain ⟨bb, bo, rfl, x9⟩ : ∃ bb bo, xa = some ⟨bb, bo, none⟩ ∧ w4.cell? ⟨bb, bo + kk * 10 + 9, none⟩ = some (.slice xad xm xcp) ∧ w4.cell? ⟨bb, bo + (kk + 1) * 10 + 9, none⟩ = some (.slice yad ym ycp) ∧ bb < w.heap.size := by
    obtain ⟨bb, bo, rfl, -, -, -, -, -, -, -, -, -, q9, q0⟩ := sec_cells HX.out HB4.out hx
    obtain ⟨bb2, bo2, hbb, -, -, -, -, -, -, -, -, -, q9', -⟩ := sec_cells HX.out HB4.out hy
    cases hbb
    exact ⟨bb, bo, rfl, q9, q9', q0⟩
  obtain ⟨x9, y9, hbb⟩ := x9
  have hl12 : w.heap.size < w2.heap.size := by omega
  have hl24 : w2.heap.size ≤ w4.heap.size := by omega
  have hAB := fun (x : Of (fun wx => Below w2.heap.size w4 wx)) (b k : Nat) (h : b < w2.heap.size) => (show x.w.cell? ⟨b, k, none⟩ = w4.cell? ⟨b, k, none⟩ from by
    unfold World.cell?
    rw [x.h.block b h])
  have hb0 : Below w2.heap.size w4 { w4 with drawn := w4.drawn + 1 } := (Below.refl _ _).drew
  have hne : Nonempty (Of (fun wx => Below w2.heap.size w4 wx)) := ⟨⟨_, hb0⟩⟩
  have hbb2 : bb < w2.heap.size := by omega
  clear z0 z1 z2
  refine wp_region_held (S := fun wx => Below w2.heap.size w4 wx) (by kernel_rfl) ?_
  change wpAnyH _ _ _ _ _ 21 _ _ _
  refine heldS_quiet (i := 0) rfl (by kernel_rfl) rfl rfl (fun _ _ _ _ h => h) hb0 ?_
  intro K hK
  go_big_quiet_op
  go_big_quiet_on
  refine heldS_quiet (i := 1) rfl (by kernel_rfl) rfl rfl (fun _ _ _ _ h => h) hb0 ?_
  intro K hK
  go_big_quiet_op
  go_big_quiet_on
  refine heldS_quiet (i := 2) rfl (by kernel_rfl) rfl rfl (fun _ _ _ _ h => h) hb0 ?_
  intro K hK
  go_big_quiet_op
  go_big_quiet_on
  refine heldS_quiet (i := 3) rfl (by kernel_rfl) rfl rfl (fun _ _ _ _ h => h) hb0 ?_
  intro K hK
  go_big_quiet_op
  go_big_quiet_on
  refine heldS_quiet (i := 4) rfl (by kernel_rfl) rfl rfl (fun _ _ _ _ h => h) hb0 ?_
  intro K hK
  go_big_quiet_op
  go_big_quiet_on
  refine heldS_quiet (i := 5) rfl (by kernel_rfl) rfl rfl (fun _ _ _ _ h => h) hb0 ?_
  intro K hK
  go_big_quiet_op
  go_big_quiet_on
  refine heldS_quiet (i := 6) rfl (by kernel_rfl) rfl rfl (fun _ _ _ _ h => h) hb0 ?_
  intro K hK
  go_big_quiet_op
  go_big_quiet_on
  refine heldS_quiet (i := 7) rfl (by kernel_rfl) rfl rfl (fun _ _ _ _ h => h) hb0 ?_
  intro K hK
  go_big_quiet_op
  go_big_quiet_on
  refine heldS_quiet (i := 8) rfl (by kernel_rfl) rfl rfl (fun _ _ _ _ h => h) hb0 ?_
  intro K hK
  go_big_quiet_op
  go_big_quiet_on
  refine heldS_quiet (i := 9) rfl (by kernel_rfl) rfl rfl (fun _ _ _ _ h => h) hb0 ?_
  intro K hK
  go_big_quiet_op
  go_big_quiet_on
  refine heldS_quiet (i := 10) rfl (by kernel_rfl) rfl rfl (fun _ _ _ _ h => h) hb0 ?_
  intro K hK
  go_big_quiet_op
  go_big_quiet_on
  refine heldS_quiet (i := 11) rfl (by kernel_rfl) rfl rfl (fun _ _ _ _ h => h) hb0 ?_
  intro K hK
  go_big_quiet_op
  go_big_quiet_on
  refine heldS_quiet (i := 12) rfl (by kernel_rfl) rfl rfl (fun _ _ _ _ h => h) hb0 ?_
  intro K hK
  go_big_quiet_op
  go_big_quiet_on
  refine heldS_quiet (i := 13) rfl (by kernel_rfl) rfl rfl (fun _ _ _ _ h => h) hb0 ?_
  intro K hK
  go_big_quiet_op
  go_big_quiet_on
  refine heldS_one (i := 14) (by kernel_rfl) rfl ?_
  have hb0w : Below w.heap.size w { w4 with drawn := w4.drawn + 1 } := HB4.out.trans (hb0.mono (Nat.le_of_lt hl12))
  go_wp2_with (go_at_call 69; refine (HSR.out _ hb0w).mono ?_; rintro r5 w5 ⟨v5, rfl, hso5, hb5⟩)
  have hb5s : Below w2.heap.size w4 w5 := hb0.trans (hb5.mono hl24)
  refine ⟨hb5s, ?_⟩
  have HSO5 := Lib.hid (show OwR 6 encSym 46 w5 w.heap.size v5 Y from hso5.rebase (Nat.le_trans (Nat.le_of_lt hl12) hl24))
  have HE5 := Lib.hid (heap_below (w := { w4 with drawn := w4.drawn + 1 }) hb5 HE4.out)
  have HR5 := Lib.hid (heap_below (w := { w4 with drawn := w4.drawn + 1 }) hb5 HR4.out)
  have HX5 := Lib.hid (heap_below (w := { w4 with drawn := w4.drawn + 1 }) hb5 HX4.out)
  have HB5 := Lib.hid (hb0w.trans (hb5.mono hb0w.size))
  have hsz5 : w2.heap.size ≤ w5.heap.size := Nat.le_trans hl24 hb5.size
  obtain ⟨m5, a5, q5, -, rfl, -, -⟩ := hso5.shape
  clear hso5 hb5
  refine heldS_quiet (i := 15) rfl (by kernel_rfl) rfl rfl (fun _ _ _ _ h => h) hb5s ?_
  intro K hK
  go_big_quiet_op
  go_big_quiet_on
  refine heldS_quiet (i := 16) rfl (by kernel_rfl) rfl rfl (fun _ _ _ _ h => h) hb5s ?_
  intro K hK
  go_big_quiet_op
  go_big_quiet_on
  refine heldS_quiet (i := 17) rfl (by kernel_rfl) rfl rfl (fun _ _ _ _ h => h) hb5s ?_
  intro K hK
  go_big_quiet_op
  go_big_quiet_on
  refine heldS_quiet (i := 18) rfl (by kernel_rfl) rfl rfl (fun _ _ _ _ h => h) hb5s ?_
  intro K hK
  go_big_quiet_op
  go_big_quiet_on
  refine heldS_one (i := 19) (by kernel_rfl) rfl ?_
  refine wpList_set HE5.out (show 2 < 3 by decide) rfl rfl (Nat.le_refl _) hsz5 (fun w => by kernel_rfl) ?_
  intro w6 hh6 hb6 hs6
  have hb6s : Below w2.heap.size w4 w6 := hb5s.trans hb6
  refine ⟨hb6s, ?_⟩
  go_frame
  have HE6 := Lib.hid (show w6.heap[w2.heap.size]? = some (.cells #[.int .i64 e.target, .slice none 0 0, .slice a5 m5 q5] 25 (0, 0)) from hh6)
  have HR6 := Lib.hid (hs6.kept HR5.out (by omega))
  have HX6 := Lib.hid (hs6.kept HX5.out (by omega))
  have HSO6 := Lib.hid (owns_stirs HSO5.out hs6 (own_ne HSO5.out HE5.out (by decide)))
  have HB6 := Lib.hid (HB5.out.trans (hb6.mono (Nat.le_of_lt hl12)))
  have hsz6 : w2.heap.size ≤ w6.heap.size := Nat.le_trans hsz5 hb6.size
  clear hh6 hb6 hs6
  refine heldS_quiet (i := 20) rfl (by kernel_rfl) rfl rfl (fun _ _ _ _ h => h) hb6s ?_
  intro K hK
  go_big_quiet_op
  go_big_quiet_on
  refine wpAnyH_done (by kernel_rfl) ?_ _
  clear hAB hne hb0 hb0w hb5s hb6s
  obtain ⟨c0, c1, c2, c3, c4, c5⟩ := elf_box HX6.out
  obtain ⟨z0, z1, z2⟩ := obj_box HE6.out
  by_cases hsc : sc = 0
  case neg =>
    have hscb : (sc != 0) = true := bne_iff_ne.2 hsc
    have HR := Lib.hid (show secsO (fun l => modP l [] []) e = none by rw [HSP.out, if_pos hsc])
    clear hsc
    go_wp2_with (first
      | ((with_reducible show wpList _ _ _ (⟨none, .store _ (.tmp 2) _, _, _, _, _⟩ :: _) _ _); go_must (refine wpList_storeObjS HR6.out rfl rfl rfl rfl (by simp [Value.oneCell']) ?_; intro w7 hh7 hs7; have HH7 := Lib.hid hh7; have HB7 := Lib.hid (HB6.out.trans (hs7.below HB6.out.size (fun k hk => by rw [hk]; exact HB1.out.size))); clear hh7 hs7)))
    exact bodyPost_ret (obRow2 rfl _ _ w1.heap.size _ _ _ _ rfl HH7.out rfl rfl (by kernel_rfl)) rfl ⟨.inr ⟨HR.out, _, _, _, _, _, _, _, rfl⟩, HB7.out⟩
  subst hsc
  have HSQ := Lib.hid (show secsO (fun l => modP l [] []) e = (modP (e.secs.take kk) [] []).map fun ps => ⟨e.target, ps, Y⟩ by rw [HSP.out, if_neg (by simp)])
  have HIx := Lib.hid (show ModInv w (w6.alloc (.map #[] 0)) base w2.heap.size w1.heap.size w.heap.size w6.heap.size #[.int .i64 e.typ, .int .i64 e.target, .int .u32 (e.flags : Int), .int .u64 (e.entry : Int), .slice (some ⟨bb, bo, none⟩) (kk + 2) xc, .slice ga gm gc] e.target (.slice none 0 0) (.slice a5 m5 q5) (.slice none 0 0) (.slice a5 m5 q5) [] Y [] from
    ⟨heap_below (below_alloc w6 _) HE6.out, heap_below (below_alloc w6 _) HR6.out, heap_below (below_alloc w6 _) HX6.out, MapIs.made w6, OwR.nil _ _ _ _ _, OwR.mono HSO6.out (below_alloc w6 _), (fun p hp => by cases hp), (fun p hp => by cases hp), List.Pairwise.nil, List.Pairwise.nil, HB6.out.trans ((below_alloc w6 _).mono HB6.out.size), Nat.le_of_lt hl12, HB1.out.size, by omega, HB6.out.size⟩)
  have hlk : (L.take kk).length = kk := by rw [List.length_take]; have := HNL.out; omega
  have HLK := Lib.hid hlk
  obtain ⟨tv, htv, hrt⟩ := HH.out.so.rd.sliceTo TSec (fun _ => rfl) (n := kk) (k := .i64) (by have := HNL.out; omega)
  rw [← HNL.out] at htv
  have HTV := Lib.hid htv
  obtain ⟨ta, tc, htq, htc, -, hT⟩ := hrt.open (fun _ => rfl)
  rw [hlk] at htq htc
  subst htq
  have HT := Lib.hid hT
  have hmm := @run_makeMap Try.prog
  obtain ⟨b0, b1, b2, b3, b4, b5⟩ := elf_box HIx.out.box
  clear htv hrt hT hlk
  go_wp2_with (first
    | ((with_reducible show wpList _ _ _ (⟨some 50, _, _, _, _, _⟩ :: _) _ _); go_must (refine wpList_val rfl (exec_sliceTo HTV.out rfl rfl) ?_)))
  clear c0 c1 c2 c3 c4 c5 b0 b1 b2 b3 b4 b5 z0 z1 z2 x9 y9
  go_loopw [52] (fun i wr => ∃ (k : Nat) (pa : Option Addr) (pn pc : Nat) (PL : List (PartM × Value × Value)) (A : List (List UInt8 × Nat)), i = .int .i64 k ∧ k ≤ kk ∧ Hid (ModInv w wr base w2.heap.size w1.heap.size w.heap.size w6.heap.size #[.int .i64 e.typ, .int .i64 e.target, .int .u32 (e.flags : Int), .int .u64 (e.entry : Int), .slice (some ⟨bb, bo, none⟩) (kk + 2) xc, .slice ga gm gc] e.target (.slice pa pn pc) (.slice a5 m5 q5) (.slice pa pn pc) (.slice a5 m5 q5) PL Y A) ∧ Hid (modP (e.secs.take kk) [] [] = restP (L.take kk) k (PL.map (·.1)) A) ∧ Hid (∀ (s : List UInt8) (i : Nat), lkp A s = some i → i < PL.length) ∧ Hid (A.length ≤ k ∧ PL.length ≤ k) ∧ Hid (∀ p ∈ PL, ∃ (j : Nat) (y : SecM × Value), j < k ∧ L[j]? = some y ∧ p.2.1 = y.2)) (fun i _ => kk - (intOf i).toNat)
  case atStart => exact ⟨0, none, 0, 0, [], [], rfl, Nat.zero_le _, HIx.out, (by show modP _ _ _ = modP (((L.take kk).drop 0).map (·.1)) _ _; rw [HTK.out]; rfl), (fun s i h => by simp [lkp] at h), ⟨Nat.le_refl _, Nat.le_refl _⟩, (fun p hp => by cases hp)⟩
  case round =>
    obtain ⟨k, pa, pn, pc, PL, A, rfl, hk, HI, HRE, HLT, HLE, HSRC⟩ := hrel
    have hbs := HI.out.below.size
    by_cases hlt : k < kk
    · obtain ⟨x, hx⟩ : ∃ x, (L.take kk)[k]? = some x := ⟨_, List.getElem?_eq_getElem (by have := HLK.out; omega)⟩
      have hxL : L[k]? = some x := by
        rw [List.getElem?_take, if_pos hlt] at hx
        exact hx
      obtain ⟨sb, so, rfl, e0, e1, e2, e3, e4, e5, e6, e7, e8, e9, hb0⟩ := sec_cells HT.out HI.out.below hx
      have hxm : x.1 ∈ e.secs := by rw [HES.out]; exact List.mem_map.2 ⟨x, List.mem_of_getElem? hxL, rfl⟩
      have HFX := Lib.hid (HFT.out.secs x.1 hxm)
      have HDN := Lib.hid (HD.out x.1 hxm)
      have HXD := Lib.hid (HH.out.data x (List.mem_of_getElem? hxL))
      have HXB := Lib.hid (HXD.out.bs)
      have HAPX : Hid (∀ p ∈ PL, ∀ k, p.2.1.ownBlock = some k → x.2.ownBlock ≠ some k) := Lib.hid (fun p hp q hq => by
        obtain ⟨j, y, hj, hy, hpy⟩ := HSRC.out p hp
        rw [hpy] at hq
        obtain ⟨h1, h2⟩ := List.getElem?_eq_some_iff.1 hy
        obtain ⟨h3, h4⟩ := List.getElem?_eq_some_iff.1 hxL
        have h5 := List.pairwise_iff_getElem.1 HAP.out j k h1 h3 hj
        rw [h2, h4] at h5
        exact h5 q hq)
      have HSRC2 : Hid (∀ p ∈ PL, ∃ (j : Nat) (y : SecM × Value), j < k + 1 ∧ L[j]? = some y ∧ p.2.1 = y.2) := Lib.hid (fun p hp => by
        obtain ⟨j, y, hj, hy, hpy⟩ := HSRC.out p hp
        exact ⟨j, y, by omega, hy, hpy⟩)
      have HPART := Lib.hid (fun ht => restP_part (ps := PL.map (·.1)) (A := A) hx ht)
      have HNONE := Lib.hid (fun ht hl => restP_none (ps := PL.map (·.1)) (A := A) hx ht hl)
      have HSOME := Lib.hid (fun i ht (hl : lkp A (trimRel x.1.name) = some i) => restP_some (ps := PL.map (·.1)) hx ht hl)
      have HXL := Lib.hid hxL
      obtain ⟨xm, xad, xcp, -, hxv, -, -⟩ := HXD.out.shape
      obtain ⟨s, xv⟩ := x
      dsimp only at *
      subst hxv
      clear hx hxL hxm HSRC
      obtain ⟨name, typ, flags, addr, align, size, link, info, ent, data⟩ := s
      dsimp only at *
      obtain ⟨kl, hkl⟩ := keySL name (by have := HDN.out.2.1; omega)
      have hpn : Hid (pn = PL.length) := by
        obtain ⟨m', a', c', h1, h2, -, -⟩ := HI.out.po.shape
        cases h2
        exact h1
      have hpl9 : pn ≤ 1000 := by have := HLE.out.2; have := hpn.out; omega
      by_cases ht4 : typ = 4
      case neg =>
        have hnt : (((typ : Nat) : Int) != 4) = true := by rw [bne_iff_ne]; omega
        have HP2 := Lib.hid (HPART.out ht4)
        have hla : Hid ((A.map entE).length < maxLen) := by have := HLE.out.1; unfold Hid maxLen; rw [List.length_map]; omega
        have HPM : Hid (putE (A.map entE) name (.int .i64 (pn : Int)) = (putN A name PL.length).map entE) := by rw [hpn.out]; exact putE_put A name PL.length
        have HPL1 := Lib.hid (putN_len A name PL.length)
        have HLT2 : Hid (∀ (s : List UInt8) (i : Nat), lkp (putN A name PL.length) s = some i → i < PL.length + 1) := Lib.hid (fun s i h => by
          rw [lkp_putN] at h
          split at h
          · cases h; omega
          · have := HLT.out s i h; omega)
        have hbt : (((typ : Nat) : Int) == 8) = decide (typ = 8) := by
          rw [Bool.eq_iff_iff, beq_iff_eq, decide_eq_true_iff]
          omega
        have hwa := wrapEq (align : Int)
        have hws := wrapEq (size : Int)
        have HPO : Hid (partOf ⟨name, typ, flags, addr, align, size, link, info, ent, data⟩ = ⟨name, textN flags (decide (typ = 8)), wrap64 (align : Int), wrap64 (size : Int), data, []⟩) := rfl
        have HTX := Lib.hid (fun w => text6_any flags (decide (typ = 8)) w HFX.out.2.1)
        generalize partOf ⟨name, typ, flags, addr, align, size, link, info, ent, data⟩ = pt at *
        generalize textN flags (decide (typ = 8)) = tx at *
        generalize decide (typ = 8) = bt at *
        generalize wrap64 (align : Int) = al at *
        generalize wrap64 (size : Int) = sz at *
        clear ht4 HPART HNONE HSOME HLT
        go_wp2_with (first
        | ((with_reducible show wpList _ _ _ (⟨none, .store _ (.tmp 9) _, _, _, _, _⟩ :: _) _ _); go_must (refine wpList_storeNew rfl rfl (by kernel_rfl) rfl (by simp [Value.oneCell']) ?_; intro w7 hh7 hb7; have HH7 := Lib.hid hh7; have HI7 := Lib.hid (HI.out.mono hb7); have hz7 := hb7.size; obtain ⟨d0, d1, d2, d3, d4, d5, d6, d7, d8, d9⟩ := sec_box (x := (⟨name, typ, flags, addr, align, size, link, info, ent, data⟩, Value.slice xad xm xcp)) hh7; obtain ⟨z0, z1, z2⟩ := obj_box HI7.out.blk; clear hh7 hb7))
        | (at_mapUpdate; go_must (refine wpList_storeM TMS HI7.out.map hla.out (key := name) (val := .int .i64 (pn : Int)) hkl rfl rfl rfl ?_; intro w8 hm8 hg8 hs8; rw [HPM.out] at hm8; have HI8 := Lib.hid (HI7.out.put hm8 hg8); have HH8 := Lib.hid ((Stirs.of_grown (S := fun k => k = w6.heap.size) hg8 (fun k hk => (Option.some.inj hk).symm)).kept HH7.out (fun e => map_ne HH7.out HI7.out.map e.symm)); have hz8 := Nat.le_of_eq hs8.symm; obtain ⟨d0, d1, d2, d3, d4, d5, d6, d7, d8, d9⟩ := sec_box (x := (⟨name, typ, flags, addr, align, size, link, info, ent, data⟩, Value.slice xad xm xcp)) HH8.out; obtain ⟨z0, z1, z2⟩ := obj_box HI8.out.blk; clear hm8 hg8 hs8)))
        have hAB := fun (x : Above w8) (b k : Nat) (h : b < w8.heap.size) => Above.cell x b k h
        have l1 := block_lt d0
        have l2 := block_lt z0
        refine wp_region_walk 20 [(9, .is (S tx)), (19, Yld.one w8.heap.size 43 (encPart ((⟨name, tx, al, sz, data, []⟩ : PartM), .slice xad xm xcp, .slice none 0 0)).toArray)] (by kernel_rfl) (by kernel_rfl) ?_
        simp only [List.take_succ_cons, List.take_zero, List.drop_succ_cons, List.drop_zero]
        repeat (refine walk_quiet rfl rfl rfl ?_; intro K hK; go_big_quiet_op; go_big_quiet_on)
        refine walk_is rfl rfl (fun wx hwx _ => WpYld.callIsB (run_callL (vals := [_, _]) Try.func70 (by kernel_rfl) rfl rfl) (HTX.out wx)) ?_
        go_frame
        repeat (refine walk_quiet rfl rfl rfl ?_; intro K hK; go_big_quiet_op; go_big_quiet_on)
        refine walk_one rfl rfl (fun wx hwx _ => WpYld.val (run_onePart (p := (⟨name, tx, al, sz, data, []⟩ : PartM)) rfl) (Yld.one_mk _ hwx).1 (Yld.one_mk _ hwx).2) (fun gb => ?_)
        go_frame
        refine walk_nil ?_
        intro wz hbz hF
        obtain ⟨hgb, hgo⟩ := Yld.one_got (hF 19 _ 84 _ rfl rfl rfl rfl)
        have HGB := Lib.hid hgo
        have HIZ := Lib.hid (HI8.out.mono hbz)
        clear hF hAB hgo hbz z0 z1 z2 d0 d1 d2 d3 d4 d5 d6 d7 d8 d9
        have hlen : PL.length ≤ 1000 := by have := hpn.out; omega
        refine wpList_cat TPart HIZ.out.po (rd_one (x := ((⟨name, tx, al, sz, data, []⟩ : PartM), Value.slice xad xm xcp, Value.slice none 0 0)) rfl HGB.out rfl) rfl rfl (onePart (L := [((⟨name, tx, al, sz, data, []⟩ : PartM), Value.slice xad xm xcp, Value.slice none 0 0)]) (fun p hp => by rw [List.mem_singleton] at hp; rw [hp]; exact ⟨rfl, rfl⟩)) (by simp; omega) (by simp; omega) HIZ.out.below.size ?_
        intro v9 w9 hv9 hg9 hb9
        have hsz9 : w.heap.size ≤ w9.heap.size := Nat.le_trans HIZ.out.below.size hb9.size
        obtain ⟨m9, q9, r9, -, rfl, _, _⟩ := (Reads.of_owns hv9).shape
        have HVV := Lib.hid (show OwR 6 encPart 43 w9 w.heap.size (.slice q9 m9 r9) (PL ++ [((⟨name, tx, al, sz, data, []⟩ : PartM), Value.slice xad xm xcp, Value.slice none 0 0)]) by unfold OwR; rw [List.length_append, List.flatMap_append]; exact hv9)
        have HIG := Lib.hid (HIZ.out.grow HVV.out hg9 HXD.out rfl rfl HAPX.out)
        clear hv9 hg9 hb9
        have hg2 : w.heap.size ≤ w2.heap.size := Nat.le_of_lt hl12
        go_wp2_with ((with_reducible show wpList _ _ _ (⟨none, .store _ (.tmp 86) _, _, _, _, _⟩ :: _) _ _); go_must (refine wpList_set HIG.out.blk (show 1 < 3 by decide) rfl rfl hg2 hsz9 (fun w => by kernel_rfl) ?_; intro wA hhA hbA hsA; have HIA := Lib.hid (HIG.out.store (pc' := .slice q9 m9 r9) (sc' := .slice a5 m5 q5) hhA hsA); clear hhA hbA hsA))
        exact ⟨⟨k + 1, q9, m9, r9, PL ++ [((⟨name, tx, al, sz, data, []⟩ : PartM), Value.slice xad xm xcp, Value.slice none 0 0)], putN A name PL.length, rfl, by omega, HIA, (by show _ = restP _ _ (List.map _ (PL ++ _)) _; rw [HRE.out, HP2.out, HPO.out, List.length_map, List.map_append]; rfl), (by rw [List.length_append]; exact HLT2.out), ⟨by have := HLE.out.1; have := HPL1.out; omega, by have := HLE.out.2; rw [List.length_append]; simp; omega⟩, (fun p hp => by
          rcases List.mem_append.1 hp with hp | hp
          · exact HSRC2.out p hp
          · rw [List.mem_singleton] at hp
            exact ⟨k, _, by omega, HXL.out, by rw [hp]⟩)⟩, by simp [intOf]; omega⟩
      case pos =>
        have hnt : (((typ : Nat) : Int) != 4) = false := by rw [ht4]; rfl
        have HTR : Hid (∀ w, Calls Try.prog 71 #[.string ⟨name.toArray⟩, .string ⟨#[46, 114, 101, 108, 97]⟩] w fun e w' => e = .returned (S (trimRel name)) ∧ w = w') := Lib.hid (fun w => (Try.strings_TrimPrefix ⟨name.toArray⟩ ⟨relaN.toArray⟩ w).mono fun e w' h => ⟨by rw [h.1]; show _ = Ending.returned (Value.string ⟨(trimRel name).toArray⟩); rw [← trim_is], h.2.symm⟩)
        have htl : (trimRel name).length ≤ 1000000000 := by
          have := HDN.out.2.1
          unfold trimRel
          split
          · rw [List.length_drop]; omega
          · exact this
        obtain ⟨kt, hkt⟩ := keySL (trimRel name) (by omega)
        have HRD : Hid (∀ wx, Below w.heap.size w wx → Calls Try.prog 72 #[.slice xad xm xcp] wx fun e w' => ∃ v', e = .returned (.tuple #[v', .int .i64 (relaRd data).2]) ∧ OwR 4 encRela 65 w' wx.heap.size v' (relaRd data).1 ∧ Below wx.heap.size wx w') := Lib.hid (fun wx hb => readRela_big data _ wx (HDN.out.2.2 ht4) (HXB.out.mono hb))
        have HNO := Lib.hid (HNONE.out ht4)
        have HSM := Lib.hid (fun i => HSOME.out i ht4)
        have HLV : Hid (∀ o, lkp A (trimRel name) = o → lkp (A.map entE) (trimRel name) = o.map I64) := Lib.hid (fun o h => by rw [lookup_ent, h])
        generalize trimRel name = tn at *
        generalize relaRd data = rd at *
        obtain ⟨rl, rcode⟩ := rd
        dsimp only at *
        clear ht4 HPART HNONE HSOME hkl htl
        cases hlk : lkp A tn with
        | none =>
          have HR := Lib.hid (show secsO (fun l => modP l [] []) e = none by rw [HSQ.out, HRE.out, HNO.out hlk]; rfl)
          have HL1 : Hid (lookV true (.int .i64 0) (lkp (A.map entE) tn) = .tuple #[.int .i64 0, .bool false]) := congrArg (lookV true (.int .i64 0)) (HLV.out _ hlk)
          clear hlk
          go_wp2_with (first
            | ((with_reducible show wpList _ _ _ (⟨none, .store _ (.tmp 9) _, _, _, _, _⟩ :: _) _ _); go_must (refine wpList_storeNew rfl rfl (by kernel_rfl) rfl (by simp [Value.oneCell']) ?_; intro w7 hh7 hb7; have HH7 := Lib.hid hh7; have HI7 := Lib.hid (HI.out.mono hb7); have hz7 := hb7.size; obtain ⟨d0, d1, d2, d3, d4, d5, d6, d7, d8, d9⟩ := sec_box (x := (⟨name, typ, flags, addr, align, size, link, info, ent, data⟩, Value.slice xad xm xcp)) hh7; obtain ⟨z0, z1, z2⟩ := obj_box HI7.out.blk; clear hh7 hb7))
            | (go_at_call 71; refine (HTR.out _).mono ?_; rintro e w8 ⟨rfl, rfl⟩)
            | ((with_reducible show wpList _ _ _ (⟨some 92, _, _, _, _, _⟩ :: _) _ _); go_must (refine wpList_lookM TMS HI7.out.map (zeroI _) hkt HL1.out rfl rfl ?_))
            | (go_at_call 72; refine (HRD.out _ HI7.out.below).mono ?_; rintro e w8 ⟨v8, rfl, hr8, hb8⟩; have HI8 := Lib.hid (HI7.out.mono hb8); obtain ⟨z0, z1, z2⟩ := obj_box HI8.out.blk; clear hr8 hb8)
            | ((with_reducible show wpList _ _ _ (⟨none, .store _ (.tmp 2) _, _, _, _, _⟩ :: _) _ _); go_must (refine wpList_storeObjS HI8.out.res rfl rfl rfl rfl (by simp [Value.oneCell']) ?_; intro w9 hh9 hs9; have HH9 := Lib.hid hh9; have HB9 := Lib.hid (HI8.out.below.trans (hs9.below HI8.out.below.size (fun k hk => by rw [hk]; exact HB1.out.size))); clear hh9 hs9)))
          exact bodyPost_ret (obRow2 rfl _ _ w1.heap.size _ _ _ _ rfl HH9.out rfl rfl (by kernel_rfl)) rfl ⟨.inr ⟨HR.out, _, _, _, _, _, _, _, rfl⟩, HB9.out⟩
        | some i =>
          have HIL := Lib.hid (HLT.out tn i hlk)
          have HSI := Lib.hid (HSM.out i hlk)
          have HL1 : Hid (lookV true (.int .i64 0) (lkp (A.map entE) tn) = .tuple #[.int .i64 (i : Int), .bool true]) := congrArg (lookV true (.int .i64 0)) (HLV.out _ hlk)
          clear hlk
          by_cases hrc : rcode = 0
          case neg =>
            have HR := Lib.hid (show secsO (fun l => modP l [] []) e = none by rw [HSQ.out, HRE.out, HSI.out, if_pos hrc]; rfl)
            have hrb : (rcode != 0) = true := bne_iff_ne.2 hrc
            clear hrc
            go_wp2_with (first
          | ((with_reducible show wpList _ _ _ (⟨none, .store _ (.tmp 9) _, _, _, _, _⟩ :: _) _ _); go_must (refine wpList_storeNew rfl rfl (by kernel_rfl) rfl (by simp [Value.oneCell']) ?_; intro w7 hh7 hb7; have HH7 := Lib.hid hh7; have HI7 := Lib.hid (HI.out.mono hb7); have hz7 := hb7.size; obtain ⟨d0, d1, d2, d3, d4, d5, d6, d7, d8, d9⟩ := sec_box (x := (⟨name, typ, flags, addr, align, size, link, info, ent, data⟩, Value.slice xad xm xcp)) hh7; obtain ⟨z0, z1, z2⟩ := obj_box HI7.out.blk; clear hh7 hb7))
              | (go_at_call 71; refine (HTR.out _).mono ?_; rintro e w8 ⟨rfl, rfl⟩)
              | ((with_reducible show wpList _ _ _ (⟨some 92, _, _, _, _, _⟩ :: _) _ _); go_must (refine wpList_lookM TMS HI7.out.map (zeroI _) hkt HL1.out rfl rfl ?_))
              | (go_at_call 72; refine (HRD.out _ HI7.out.below).mono ?_; rintro e w8 ⟨v8, rfl, hr8, hb8⟩; have HI8 := Lib.hid (HI7.out.mono hb8); obtain ⟨z0, z1, z2⟩ := obj_box HI8.out.blk; clear hr8 hb8)
              | ((with_reducible show wpList _ _ _ (⟨none, .store _ (.tmp 2) _, _, _, _, _⟩ :: _) _ _); go_must (refine wpList_storeObjS HI8.out.res rfl rfl rfl rfl (by simp [Value.oneCell']) ?_; intro w9 hh9 hs9; have HH9 := Lib.hid hh9; have HB9 := Lib.hid (HI8.out.below.trans (hs9.below HI8.out.below.size (fun k hk => by rw [hk]; exact HB1.out.size))); clear hh9 hs9)))
            exact bodyPost_ret (obRow2 rfl _ _ w1.heap.size _ _ _ _ rfl HH9.out rfl rfl (by kernel_rfl)) rfl ⟨.inr ⟨HR.out, _, _, _, _, _, _, _, rfl⟩, HB9.out⟩
          subst hrc
          have HSN := Lib.hid (show restP (L.take kk) k (PL.map (·.1)) A = restP (L.take kk) (k + 1) (setRel (PL.map (·.1)) i rl) A from HSI.out.trans (if_neg (by simp)))
          obtain ⟨y, hy⟩ : ∃ y, PL[i]? = some y := ⟨_, List.getElem?_eq_getElem HIL.out⟩
          have HY := Lib.hid hy
          have hi9 : i < pn := by have := hpn.out; have := HIL.out; omega
          obtain ⟨pb, cap', hform⟩ := own_form HI.out.po (by have := HIL.out; omega)
          simp only [Value.slice.injEq] at hform
          obtain ⟨rfl, -, -⟩ := hform
          clear hy HSI cap'
          go_wp2_with (first
            | ((with_reducible show wpList _ _ _ (⟨none, .store _ (.tmp 9) _, _, _, _, _⟩ :: _) _ _); go_must (refine wpList_storeNew rfl rfl (by kernel_rfl) rfl (by simp [Value.oneCell']) ?_; intro w7 hh7 hb7; have HH7 := Lib.hid hh7; have HI7 := Lib.hid (HI.out.mono hb7); have hz7 := hb7.size; obtain ⟨d0, d1, d2, d3, d4, d5, d6, d7, d8, d9⟩ := sec_box (x := (⟨name, typ, flags, addr, align, size, link, info, ent, data⟩, Value.slice xad xm xcp)) hh7; obtain ⟨z0, z1, z2⟩ := obj_box HI7.out.blk; clear hh7 hb7))
            | (go_at_call 71; refine (HTR.out _).mono ?_; rintro e w8 ⟨rfl, rfl⟩)
            | ((with_reducible show wpList _ _ _ (⟨some 92, _, _, _, _, _⟩ :: _) _ _); go_must (refine wpList_lookM TMS HI7.out.map (zeroI _) hkt HL1.out rfl rfl ?_))
            | (go_at_call 72; refine (HRD.out _ HI7.out.below).mono ?_; rintro e w8 ⟨v8, rfl, hr8, hb8⟩; have HI8 := Lib.hid (HI7.out.mono hb8); have HR8 := Lib.hid hr8; obtain ⟨m8, q8, c8, -, rfl, -, -⟩ := hr8.shape; obtain ⟨z0, z1, z2⟩ := obj_box HI8.out.blk; clear hr8 hb8)
            | ((with_reducible show wpList _ _ _ (⟨none, .store _ (.tmp 113) _, _, _, _, _⟩ :: _) _ _); go_must (refine wpList_setRow (show w8.ownsRow w.heap.size 43 6 (.slice (some ⟨pb, 0, none⟩) pn pc) pn (PL.flatMap encPart) from (by have h1 := HI8.out.po; unfold OwR at h1; rw [← hpn.out] at h1; exact h1)) (j := i * 6 + 5) (by omega) rfl rfl HI8.out.below.size (fun w => by kernel_rfl) ?_; intro w9 ho9 hb9 hs9; have HO9 := Lib.hid ho9; have HS9 := Lib.hid hs9; clear ho9 hb9 hs9)))
          have HPO9 := Lib.hid (show OwR 6 encPart 43 w9 w.heap.size (.slice (some ⟨pb, 0, none⟩) pn pc) (PL.set i ({ y.1 with relas := rl }, y.2.1, .slice q8 m8 c8)) by
            have h1 := HO9.out
            rw [flat_set (k := 6) (enc := encPart) (fun _ => rfl) (x := y) (y := ({ y.1 with relas := rl }, y.2.1, .slice q8 m8 c8)) (show 5 < 6 by decide) rfl PL i HY.out] at h1
            unfold OwR
            rw [List.length_set, ← hpn.out]
            exact h1)
          have HI9 := Lib.hid (HI8.out.row HY.out (HR8.out.rebase HI7.out.below.size) (fun p hp q hq hq2 => by
            have h1 := (World.ownsRow.lt HR8.out q hq).1
            have h2 := (World.ownsRow.lt (HI7.out.rela p hp) q hq2).2
            omega) HPO9.out (HS9.out.sub fun q _ e => by rw [e]; rfl))
          exact ⟨⟨k + 1, some ⟨pb, 0, none⟩, pn, pc, PL.set i ({ y.1 with relas := rl }, y.2.1, .slice q8 m8 c8), A, rfl, by omega, HI9, (by show _ = restP _ _ (List.map _ _) _; rw [HRE.out, HSN.out, setRel_set HY.out]), (by rw [List.length_set]; exact HLT), ⟨by have := HLE.out.1; omega, by have := HLE.out.2; rw [List.length_set]; omega⟩, (fun p hp => by
            rcases List.mem_or_eq_of_mem_set hp with hp | rfl
            · exact HSRC2.out p hp
            · exact HSRC2.out y (List.mem_of_getElem? HY.out))⟩, by simp [intOf]; omega⟩
    · obtain rfl : k = kk := by omega
      obtain ⟨z0, z1, z2⟩ := obj_box HI.out.blk
      have HFIN := Lib.hid (show secsO (fun l => modP l [] []) e = some ⟨e.target, PL.map (·.1), Y⟩ by
        have h1 := HSQ.out
        rw [HRE.out] at h1
        have h2 := restP_end (L.take k) (PL.map (·.1)) A
        rw [HLK.out] at h2
        rw [h2] at h1
        exact h1)
      go_wp2_with (first
        | ((with_reducible show wpList _ _ _ (⟨none, .store _ (.tmp 2) _, _, _, _, _⟩ :: _) _ _); go_must (refine wpList_storeObjS HI.out.res rfl rfl rfl rfl (by simp [Value.oneCell']) ?_; intro w7 hh7 hs7; have HH7 := Lib.hid hh7; have HS7 := Lib.hid hs7; have HB7 := Lib.hid (HI.out.below.trans (hs7.below HI.out.below.size (fun k hk => by rw [hk]; exact HB1.out.size))); clear hh7 hs7)))
      exact bodyPost_ret (obRow2 rfl _ _ w1.heap.size _ _ _ _ rfl HH7.out rfl rfl (by kernel_rfl)) rfl ⟨.inl ⟨⟨e.target, PL.map (·.1), Y⟩, PL, .slice pa pn pc, .slice a5 m5 q5, HFIN.out, rfl, HI.out.own HS7.out hbase⟩, HB7.out⟩
end Go.Proofs.Ytimnbnomaajmmaa
namespace Go.Proofs.Ytimnbnomaajmmaa
open Go.RowKit Go.Fd
theorem setRel_all {Q : PartM → Prop} (hset : ∀ p l, Q p → Q { p with relas := l }) {ps : List PartM} (h : ∀ p ∈ ps, Q p) (i : Nat) (l : List RelaM) : ∀ p ∈ setRel ps i l, Q p := by
  intro p hp
  obtain ⟨j, hj⟩ := List.mem_iff_getElem?.1 hp
  unfold setRel at hj
  rw [List.getElem?_modify] at hj
  cases hq : ps[j]? with
  | none => rw [hq] at hj; simp at hj
  | some q =>
    rw [hq] at hj
    have hw := h q (List.mem_of_getElem? hq)
    simp only [Option.map_eq_map, Option.map_some, Option.some.injEq] at hj
    split at hj
    · subst hj; exact hset q l hw
    · subst hj; exact hw
theorem setRel_len (ps : List PartM) (i : Nat) (l : List RelaM) : (setRel ps i l).length = ps.length := by unfold setRel; rw [List.length_modify]
theorem modP_all {Q : PartM → Prop} (hset : ∀ p l, Q p → Q { p with relas := l }) : ∀ (ss : List SecM) (ps : List PartM) (A : List (List UInt8 × Nat)) (qs : List PartM), (∀ p ∈ ps, Q p) → (∀ s ∈ ss, Q (partOf s)) → modP ss ps A = some qs → (∀ p ∈ qs, Q p) ∧ qs.length ≤ ps.length + ss.length := by
  intro ss
  induction ss with
  | nil => intro ps A qs h _ e; cases e; exact ⟨h, Nat.le_refl _⟩
  | cons s ss ih =>
    intro ps A qs h hs e
    have hs' : ∀ x ∈ ss, Q (partOf x) := fun x hx => hs x (by simp [hx])
    rw [modP] at e
    split at e
    · have := ih _ _ _ (fun p hp => by
        rcases List.mem_append.1 hp with hp | hp
        · exact h p hp
        · rw [List.mem_singleton] at hp; subst hp; exact hs s (by simp)) hs' e
      refine ⟨this.1, ?_⟩
      have h2 := this.2
      rw [List.length_append, List.length_singleton] at h2
      rw [List.length_cons]; omega
    · split at e
      · cases e
      · split at e
        · cases e
        · have := ih _ _ _ (setRel_all hset h _ _) hs' e
          refine ⟨this.1, ?_⟩
          have h2 := this.2
          rw [setRel_len] at h2
          rw [List.length_cons]; omega
theorem modR_all {Q : PartM → Prop} (hset : ∀ p l, Q p → Q { p with relas := l }) : ∀ (ss : List SecM) (ps qs : List PartM), (∀ p ∈ ps, Q p) → (∀ s ∈ ss, Q (partOf s)) → modR ss ps = some qs → (∀ p ∈ qs, Q p) ∧ qs.length ≤ ps.length + ss.length := by
  intro ss
  induction ss with
  | nil => intro ps qs h _ e; cases e; exact ⟨h, Nat.le_refl _⟩
  | cons s ss ih =>
    intro ps qs h hs e
    have hs' : ∀ x ∈ ss, Q (partOf x) := fun x hx => hs x (by simp [hx])
    rw [modR] at e
    split at e
    · have := ih _ _ (fun p hp => by
        rcases List.mem_append.1 hp with hp | hp
        · exact h p hp
        · rw [List.mem_singleton] at hp; subst hp; exact hs s (by simp)) hs' e
      refine ⟨this.1, ?_⟩
      have h2 := this.2
      rw [List.length_append, List.length_singleton] at h2
      rw [List.length_cons]; omega
    · split at e
      · cases e
      · split at e
        · cases e
        · have := ih _ _ (setRel_all hset h _ _) hs' e
          refine ⟨this.1, ?_⟩
          have h2 := this.2
          rw [setRel_len] at h2
          rw [List.length_cons]; omega
theorem symRd_names (b names : List UInt8) : ∀ x ∈ (symRd b names).1, x.name.length ≤ 128 := by
  have hf : ∀ k L, foldU (stepSym b names) k = .ok L → ∀ x ∈ L, x.name.length ≤ 128 := by
    intro k
    induction k with
    | zero => intro L h x hx; cases h; simp at hx
    | succ k ih =>
      intro L h x hx
      rw [foldU] at h
      cases hq : foldU (stepSym b names) k with
      | error e => rw [hq] at h; cases h
      | ok L0 =>
        rw [hq] at h
        have h' : stepSym b names k L0 = .ok L := h
        unfold stepSym at h'
        split at h'
        · cases h'
        · split at h'
          · cases h'
          · split at h'
            · cases h'
            · cases h'
              rw [List.mem_append, List.mem_singleton] at hx
              rcases hx with hx | rfl
              · exact ih L0 hq x hx
              · unfold recS
                exact atR_len _ _
  unfold symRd
  split
  · simp
  · split
    · next L hL => exact hf _ _ hL
    · simp
theorem readE_few (l : List UInt8) : (readE l).1.secs.length ≤ 250 ∧ ∀ s ∈ (readE l).1.secs, s.name.length ≤ 128 := by
  have h0 : elf0.secs = [] := rfl
  unfold readE
  split
  · rw [h0]; exact ⟨Nat.zero_le _, fun s hs => by cases hs⟩
  · split
    · next h =>
      refine ⟨?_, fun s hs => ?_⟩
      · show (secsP l (nsecsP l)).length ≤ _
        have := h.1.n3
        rw [secsP_len]; unfold nsecsP; omega
      · obtain ⟨i, hi⟩ := List.mem_iff_getElem?.1 hs
        rw [secsP_get hi]
        unfold secP
        dsimp only
        exact atR_len _ _
    · rw [h0]; exact ⟨Nat.zero_le _, fun s hs => by cases hs⟩
theorem textN_len (n : Nat) (b : Bool) : (textN n b).length ≤ 5 := by
  rw [← textK_4]
  have := textK_len n 4
  rw [List.length_append]
  split
  · rw [List.length_singleton]; omega
  · rw [List.length_nil]; omega
/-- A small part. -/
def SmallP (p : PartM) : Prop := p.name.length ≤ 1000000000 ∧ p.flags.length ≤ 1000000000 ∧ p.data.length ≤ 24000
theorem small_set (p : PartM) (l : List RelaM) (h : SmallP p) : SmallP { p with relas := l } := ⟨h.1, h.2.1, h.2.2⟩
theorem small_of {s : SecM} (h : s.data.length ≤ 24000 ∧ s.name.length ≤ 1000000000) : SmallP (partOf s) := ⟨h.2, by show (textN _ _).length ≤ _; have := textN_len s.flags (decide (s.typ = 8)); omega, h.1⟩
/-- The two ways. -/
def Way (md : List SecM → Option (List PartM)) : Prop := md = (fun l => modP l [] []) ∨ md = (fun l => modR l [])
theorem way_ok {md : List SecM → Option (List PartM)} (hm : Way md) {e : ElfM} {o : ObjM} (hl : e.secs.length ≤ 1000) (hd : ∀ s ∈ e.secs, s.data.length ≤ 24000 ∧ s.name.length ≤ 1000000000) (hfit : e.fits) (h : secsO md e = some o) : ObjOk o := by
  have hwf : ObjWf o := secsO_wf (fun ss qs hs h => by
    rcases hm with rfl | rfl
    · exact modP_wf ss [] [] qs (fun p hp => by cases hp) hs h
    · exact modR_wf ss [] qs (fun p hp => by cases hp) hs h) hfit (fun s hs => (hd s hs).1) h
  unfold secsO at h
  split at h
  · cases h
  · split at h
    · cases h
    · cases hp : md (e.secs.take (e.secs.length - 2)) with
      | none => rw [hp] at h; cases h
      | some ps =>
        rw [hp] at h
        simp only [Option.map_some, Option.some.injEq] at h
        have hsm : (∀ p ∈ ps, SmallP p) ∧ ps.length ≤ 0 + (e.secs.take (e.secs.length - 2)).length := by
          have hs : ∀ s ∈ e.secs.take (e.secs.length - 2), SmallP (partOf s) := fun s hs => small_of (hd s (List.mem_of_mem_take hs))
          rcases hm with rfl | rfl
          · exact modP_all small_set _ [] [] ps (fun p hp => by cases hp) hs hp
          · exact modR_all small_set _ [] ps (fun p hp => by cases hp) hs hp
        subst h
        refine ⟨hwf, ?_, fun p hp => ⟨by have := (hsm.1 p hp).1; omega, by have := (hsm.1 p hp).2.1; omega⟩, fun p hp => by have := (hsm.1 p hp).2.2; omega, fun s hs => ?_⟩
        · have h1 := hsm.2
          rw [List.length_take] at h1
          show ps.length ≤ 1000
          omega
        · have h1 := symRd_names _ _ s hs
          omega
theorem objNo_ok : ObjOk objNo := ⟨⟨⟨by decide, by decide⟩, fun p hp => (by cases hp), fun p hp => (by cases hp), Nat.zero_le _, fun p hp => (by cases hp)⟩, Nat.zero_le _, fun p hp => (by cases hp), fun p hp => (by cases hp), fun p hp => (by cases hp)⟩
/-- A module comes in memory of its own, and an error's number. -/
def ReadRes (md : List SecM → Option (List PartM)) (l : List UInt8) (base : Nat) (r : Ending) (w : World) : Prop := ∃ PL pv sv, r = .returned (.tuple #[objV (readO md l).1 pv sv, .int .i64 (readO md l).2]) ∧ ObjOwn w base (readO md l).1 PL pv sv
theorem ObjOwn.zero (w : World) (base : Nat) : ObjOwn w base objNo [] (.slice none 0 0) (.slice none 0 0) := ⟨rfl, OwR.nil _ _ _ _ _, (fun p hp => by cases hp), (fun p hp => by cases hp), OwR.nil _ _ _ _ _, List.Pairwise.nil, List.Pairwise.nil⟩
theorem ReadRes.code {md : List SecM → Option (List PartM)} {l : List UInt8} {base : Nat} {w : World} {x : Int} (h : readO md l = (objNo, x)) : ReadRes md l base (.returned (.tuple #[.agg objZ, .int .i64 x])) w := by
  refine ⟨[], .slice none 0 0, .slice none 0 0, ?_, ?_⟩
  · rw [h]; rfl
  · rw [h]; exact ObjOwn.zero _ _
theorem readO_err {md : List SecM → Option (List PartM)} {l : List UInt8} (h : (readE l).2 ≠ 0) : readO md l = (objNo, (readE l).2) := by unfold readO; rw [if_pos h]
theorem readO_none {md : List SecM → Option (List PartM)} {l : List UInt8} (h : (readE l).2 = 0) (hs : secsO md (readE l).1 = none) : readO md l = (objNo, 4) := by unfold readO; rw [if_neg (by simp [h]), hs]
theorem readO_no {md : List SecM → Option (List PartM)} {l : List UInt8} {o : ObjM} (h : (readE l).2 = 0) (hs : secsO md (readE l).1 = some o) (hf : fileO o ≠ (l, 0)) : readO md l = (objNo, 4) := by unfold readO; rw [if_neg (by simp [h]), hs]; dsimp only; rw [if_neg hf]
theorem readO_yes {md : List SecM → Option (List PartM)} {l : List UInt8} {o : ObjM} (h : (readE l).2 = 0) (hs : secsO md (readE l).1 = some o) (hf : fileO o = (l, 0)) : readO md l = (o, 0) := by unfold readO; rw [if_neg (by simp [h]), hs]; dsimp only; rw [if_pos hf]
end Go.Proofs.Ytimnbnomaajmmaa
namespace Go.Proofs.Ytimnbnomaajmmaa
open Go.RowKit Go.Fd
theorem ObjOwn.stir {w w' : World} {base r : Nat} {o : ObjM} {PL : List (PartM × Value × Value)} {pv sv : Value} {cs : Array Value} {fr : Nat × Nat} (h : ObjOwn w base o PL pv sv) (hr : w.heap[r]? = some (.cells cs 25 fr)) (hs : Stirs (fun k => k = r) w w') : ObjOwn w' base o PL pv sv :=
  ⟨h.parts, owns_stirs h.po hs (own_ne h.po hr (by decide)), fun p hp => owns_stirs (h.data p hp) hs (own_ne (h.data p hp) hr (by decide)), fun p hp => owns_stirs (h.rela p hp) hs (own_ne (h.rela p hp) hr (by decide)), owns_stirs h.so hs (own_ne h.so hr (by decide)), h.apd, h.apr⟩
theorem ElfOwn.up {w w' : World} {base : Nat} {e : ElfM} {L : List (SecM × Value)} {sv gv : Value} (h : ElfOwn w base e L sv gv) (hb : Below w.heap.size w w') : ElfOwn w' base e L sv gv :=
  ⟨h.secs, h.so.mono hb, h.go.mono hb, fun p hp => (h.data p hp).mono hb⟩
theorem ElfOwn.stir {w w' : World} {base r : Nat} {e : ElfM} {L : List (SecM × Value)} {sv gv : Value} {cs : Array Value} {fr : Nat × Nat} (h : ElfOwn w base e L sv gv) (hr : w.heap[r]? = some (.cells cs 52 fr)) (hs : Stirs (fun k => k = r) w w') : ElfOwn w' base e L sv gv :=
  ⟨h.secs, owns_stirs h.so hs (own_ne h.so hr (by decide)), owns_stirs h.go hs (own_ne h.go hr (by decide)), fun p hp => owns_stirs (h.data p hp) hs (own_ne (h.data p hp) hr (by decide))⟩
set_option maxHeartbeats 8000000 in
set_option maxRecDepth 100000 in
theorem read6_gen (l : List UInt8) (v : Value) (w : World) (hl : l.length ≤ 4194304) (hv : Bs w v l) (hdt : ∀ s ∈ (readE l).1.secs, s.data.length ≤ 1000000 ∧ s.name.length ≤ 1000000000 ∧ (s.typ = 4 → s.data.length ≤ 24000)) (hx2 : ∀ s, (readE l).1.secs[(readE l).1.secs.length - 2]? = some s → s.data.length ≤ 100000) (hsec : ∀ o, secsO (fun l => modP l [] []) (readE l).1 = some o → ObjOk o) :
    Calls Try.prog 16 #[v] w fun r w' => ReadRes (fun l => modP l [] []) l w.heap.size r w' ∧ Below w.heap.size w w' := by
  have HV := Lib.hid hv
  have HRE := Lib.hid (fun wx (hb : Below w.heap.size w wx) => readEA_any l v wx (by omega) (hv.mono hb))
  have hok := (readE_ok (l := l) (by omega))
  have HFW := Lib.hid (readE_few l)
  have HDT := Lib.hid hdt
  have HSEC := Lib.hid hsec
  have HX22 := Lib.hid hx2
  have HFT := Lib.hid hok.fits
  obtain ⟨lm, la, lc, -, rfl, -, -⟩ := hv.shape
  clear hv hok hdt hx2 hsec
  have HER := Lib.hid (readO_err (md := fun l => modP l [] []) (l := l))
  have HNN := Lib.hid (readO_none (md := fun l => modP l [] []) (l := l))
  have HNY := Lib.hid (fun o => readO_yes (md := fun l => modP l [] []) (l := l) (o := o))
  have HNO := Lib.hid (fun o => readO_no (md := fun l => modP l [] []) (l := l) (o := o))
  generalize hre : readE l = re at *
  have HREQ := Lib.hid hre
  obtain ⟨e, code⟩ := re
  dsimp only at *
  have HR2 : Hid (∀ wx (_ : Below w.heap.size w wx), Calls Try.prog 30 #[.slice la lm lc] wx fun r w' => (∃ L sa sn sc ga gn gc, r = .returned (.tuple #[elfV e (.slice sa sn sc) (.slice ga gn gc), .int .i64 code]) ∧ ElfOwn w' wx.heap.size e L (.slice sa sn sc) (.slice ga gn gc) ∧ ApartS L) ∧ Below wx.heap.size wx w') := Lib.hid (fun wx hb => (HRE.out wx hb).mono fun r w' ⟨⟨L, sv, gv, h1, h2, h3⟩, h4⟩ => by
    rw [hre] at h1 h2
    obtain ⟨sn, sa, sc, -, rfl, -, -⟩ := h2.so.shape
    obtain ⟨gn, ga, gc, -, rfl, -, -⟩ := h2.go.shape
    exact ⟨⟨L, sa, sn, sc, ga, gn, gc, h1, h2, h3⟩, h4⟩)
  clear hre HRE
  by_cases h0 : code = 0
  case neg =>
    have HR := Lib.hid (HER.out h0)
    have hcb : (code != 0) = true := bne_iff_ne.2 h0
    clear h0
    go_enter Try.func16, Try.ntmps16
    go_wp2_with (first
      | ((with_reducible show wpList _ _ _ (⟨some 2, .alloc _, _, _, _, _⟩ :: _) _ _); go_must (refine wpList_allocObj ?_; intro w1 hx1 hb1 hs1; have HX1 := Lib.hid hx1; have HB1 := Lib.hid hb1; clear hx1 hb1))
      | (go_at_call 30; refine (HR2.out _ HB1.out).mono ?_; rintro r w2 ⟨⟨L, sa, sn, sc, ga, gn, gc, rfl, ho, hap⟩, hb2⟩; have HX2 := Lib.hid (heap_below hb2 HX1.out); have HB2 := Lib.hid (HB1.out.trans (hb2.mono HB1.out.size)); clear ho hap hb2)
      | ((with_reducible show wpList _ _ _ (⟨some 4, .alloc _, _, _, _, _⟩ :: _) _ _); go_must (refine wpList_allocElf ?_; intro w3 hx3 hb3 hs3; have HE3 := Lib.hid hx3; have HX3 := Lib.hid (heap_below hb3 HX2.out); have HB3 := Lib.hid (HB2.out.trans (hb3.mono HB2.out.size)); clear hx3 hb3))
      | ((with_reducible show wpList _ _ _ (⟨none, .store _ (.tmp 4) _, _, _, _, _⟩ :: _) _ _); go_must (refine wpList_storeElfS HE3.out rfl rfl rfl rfl (by simp [Value.oneCell']) ?_; intro w4 hh4 hs4; have HX4 := Lib.hid (hs4.kept HX3.out (cells_ne HX3.out HE3.out (by decide))); have HB4 := Lib.hid (HB3.out.trans (hs4.below HB3.out.size (fun k hk => by rw [hk]; exact HB2.out.size))); clear hh4 hs4))
      | ((with_reducible show wpList _ _ _ (⟨none, .store _ (.tmp 2) _, _, _, _, _⟩ :: _) _ _); go_must (refine wpList_storeObjS HX4.out rfl rfl rfl rfl (by simp [Value.oneCell']) ?_; intro w5 hh5 hs5; have HH5 := Lib.hid hh5; have HB5 := Lib.hid (HB4.out.trans (hs5.below HB4.out.size (fun k hk => by rw [hk]; exact Nat.le_refl _))); clear hh5 hs5)))
    exact bodyPost_ret (obRow2 rfl _ _ w.heap.size _ _ _ _ rfl HH5.out rfl rfl (by kernel_rfl)) rfl ⟨ReadRes.code HR.out, HB5.out⟩
  subst h0
  cases hs : secsO (fun l => modP l [] []) e with
  | none =>
    have HR := Lib.hid (HNN.out rfl hs)
    have HMD : Hid (∀ L sv gv base wx, ElfOwn wx base e L sv gv → ApartS L → base ≤ wx.heap.size → Calls Try.prog 31 #[elfV e sv gv] wx fun r w' => (∃ t a1 n1 c1 a2 n2 c2, r = .returned (.tuple #[.agg #[.int .i64 t, .slice a1 n1 c1, .slice a2 n2 c2], .bool false])) ∧ Below wx.heap.size wx w') := Lib.hid (fun L sv gv base wx h1 h2 h3 => (module6_any e L sv gv base wx h1 h2 (by have := HFW.out.1; omega) HDT.out HX22.out HFT.out h3).mono fun r w' ⟨h4, h5⟩ => by
      rcases h4 with ⟨o, PL, pv, sv, hso, -, -⟩ | ⟨-, h6⟩
      · rw [hs] at hso; cases hso
      · exact ⟨h6, h5⟩)
    clear hs
    go_enter Try.func16, Try.ntmps16
    go_wp2_with (first
      | ((with_reducible show wpList _ _ _ (⟨some 2, .alloc _, _, _, _, _⟩ :: _) _ _); go_must (refine wpList_allocObj ?_; intro w1 hx1 hb1 hs1; have HX1 := Lib.hid hx1; have HB1 := Lib.hid hb1; clear hx1 hb1))
      | (go_at_call 30; refine (HR2.out _ HB1.out).mono ?_; rintro r w2 ⟨⟨L, sa, sn, sc, ga, gn, gc, rfl, ho, hap⟩, hb2⟩; have HO2 := Lib.hid ho; have HAP := Lib.hid hap; have HX2 := Lib.hid (heap_below hb2 HX1.out); have HB2 := Lib.hid (HB1.out.trans (hb2.mono HB1.out.size)); have hz2 := hb2.size; clear ho hap hb2)
      | ((with_reducible show wpList _ _ _ (⟨some 4, .alloc _, _, _, _, _⟩ :: _) _ _); go_must (refine wpList_allocElf ?_; intro w3 hx3 hb3 hs3; have HE3 := Lib.hid hx3; have HO3 := Lib.hid (HO2.out.up hb3); have HX3 := Lib.hid (heap_below hb3 HX2.out); have HB3 := Lib.hid (HB2.out.trans (hb3.mono HB2.out.size)); clear hx3 hb3))
      | ((with_reducible show wpList _ _ _ (⟨none, .store _ (.tmp 4) _, _, _, _, _⟩ :: _) _ _); go_must (refine wpList_storeElfS HE3.out rfl rfl rfl rfl (by simp [Value.oneCell']) ?_; intro w4 hh4 hs4; have HO4 := Lib.hid (HO3.out.stir HE3.out hs4); have hz4 := hs4.size; have HX4 := Lib.hid (hs4.kept HX3.out (cells_ne HX3.out HE3.out (by decide))); have HB4 := Lib.hid (HB3.out.trans (hs4.below HB3.out.size (fun k hk => by rw [hk]; exact HB2.out.size))); obtain ⟨z0, z1, z2, z3, z4, z5⟩ := elf_box (e := e) hh4; clear hh4 hs4))
      | (go_at_call 31; refine (HMD.out _ _ _ _ _ HO4.out HAP.out (by omega)).mono ?_; rintro r w5 ⟨⟨t, a1, n1, c1, a2, n2, c2, rfl⟩, hb5⟩; have HX5 := Lib.hid (heap_below hb5 HX4.out); have HB5 := Lib.hid (HB4.out.trans (hb5.mono HB4.out.size)); clear hb5)
      | ((with_reducible show wpList _ _ _ (⟨some 6, .alloc _, _, _, _, _⟩ :: _) _ _); go_must (refine wpList_allocObj ?_; intro w6 hx6 hb6 hs6; have HE6 := Lib.hid hx6; have HX6 := Lib.hid (heap_below hb6 HX5.out); have HB6 := Lib.hid (HB5.out.trans (hb6.mono HB5.out.size)); have hlt6 := block_lt (cell_rec HX5.out 0 |>.trans rfl); clear hx6 hb6))
      | ((with_reducible show wpList _ _ _ (⟨none, .store _ (.tmp 6) _, _, _, _, _⟩ :: _) _ _); go_must (refine wpList_storeObjS HE6.out rfl rfl rfl rfl (by simp [Value.oneCell']) ?_; intro w7 hh7 hs7; have HX7 := Lib.hid (hs7.kept HX6.out (Nat.ne_of_lt hlt6)); have HB7 := Lib.hid (HB6.out.trans (hs7.below HB6.out.size (fun k hk => by rw [hk]; exact HB5.out.size))); clear hh7 hs7))
      | ((with_reducible show wpList _ _ _ (⟨none, .store _ (.tmp 2) _, _, _, _, _⟩ :: _) _ _); go_must (refine wpList_storeObjS HX7.out rfl rfl rfl rfl (by simp [Value.oneCell']) ?_; intro w8 hh8 hs8; have HH8 := Lib.hid hh8; have HB8 := Lib.hid (HB7.out.trans (hs8.below HB7.out.size (fun k hk => by rw [hk]; exact Nat.le_refl _))); clear hh8 hs8)))
    exact bodyPost_ret (obRow2 rfl _ _ w.heap.size _ _ _ _ rfl HH8.out rfl rfl (by kernel_rfl)) rfl ⟨ReadRes.code HR.out, HB8.out⟩
  | some o =>
    have HOK := Lib.hid (HSEC.out o hs)
    have HYES := Lib.hid (HNY.out o rfl hs)
    have HNOO := Lib.hid (HNO.out o rfl hs)
    have HMD : Hid (∀ L sv gv base wx, ElfOwn wx base e L sv gv → ApartS L → base ≤ wx.heap.size → Calls Try.prog 31 #[elfV e sv gv] wx fun r w' => (∃ PL a1 n1 c1 a2 n2 c2, r = .returned (.tuple #[objV o (.slice a1 n1 c1) (.slice a2 n2 c2), .bool true]) ∧ ObjOwn w' base o PL (.slice a1 n1 c1) (.slice a2 n2 c2)) ∧ Below wx.heap.size wx w') := Lib.hid (fun L sv gv base wx h1 h2 h3 => (module6_any e L sv gv base wx h1 h2 (by have := HFW.out.1; omega) HDT.out HX22.out HFT.out h3).mono fun r w' ⟨h4, h5⟩ => by
      rcases h4 with ⟨o2, PL, pv, sv, hso, h6, h7⟩ | ⟨h6, -⟩
      · rw [hs] at hso; cases hso
        obtain ⟨n1, a1, c1, -, rfl, -, -⟩ := h7.po.shape
        obtain ⟨n2, a2, c2, -, rfl, -, -⟩ := h7.so.shape
        exact ⟨⟨PL, a1, n1, c1, a2, n2, c2, h6, h7⟩, h5⟩
      · rw [hs] at h6; cases h6)
    clear hs
    generalize hfo : fileO o = fo at *
    obtain ⟨fb, fc⟩ := fo
    have HFI : Hid (∀ PL pv sv wx, ObjAt wx o PL pv sv → Calls Try.prog 8 #[objV o pv sv] wx fun e w' => (∃ a n c, e = .returned (.tuple #[.slice a n c, .int .i64 fc]) ∧ OB w' wx.heap.size (.slice a n c) fb) ∧ Below wx.heap.size wx w') := Lib.hid (fun PL pv sv wx h1 => (file6_any o PL pv sv wx h1 HOK.out).mono fun r w' ⟨v, h2, h3, h4⟩ => by
      rw [hfo] at h2 h3
      obtain ⟨n, a, c, -, rfl, -, -⟩ := h3.shape
      exact ⟨⟨a, n, c, h2, h3⟩, h4⟩)
    clear hfo
    by_cases hfc : fc = 0
    case neg =>
      have HR := Lib.hid (HNOO.out (fun h => hfc (congrArg Prod.snd h)))
      have hcb : (fc != 0) = true := bne_iff_ne.2 hfc
      clear hfc
      go_enter Try.func16, Try.ntmps16
      go_wp2_with (first
        | ((with_reducible show wpList _ _ _ (⟨some 2, .alloc _, _, _, _, _⟩ :: _) _ _); go_must (refine wpList_allocObj ?_; intro w1 hx1 hb1 hs1; have HX1 := Lib.hid hx1; have HB1 := Lib.hid hb1; clear hx1 hb1))
        | (go_at_call 30; refine (HR2.out _ HB1.out).mono ?_; rintro r w2 ⟨⟨L, sa, sn, sc, ga, gn, gc, rfl, ho, hap⟩, hb2⟩; have HO2 := Lib.hid ho; have HAP := Lib.hid hap; have HX2 := Lib.hid (heap_below hb2 HX1.out); have HB2 := Lib.hid (HB1.out.trans (hb2.mono HB1.out.size)); have hz2 := hb2.size; clear ho hap hb2)
        | ((with_reducible show wpList _ _ _ (⟨some 4, .alloc _, _, _, _, _⟩ :: _) _ _); go_must (refine wpList_allocElf ?_; intro w3 hx3 hb3 hs3; have HE3 := Lib.hid hx3; have HO3 := Lib.hid (HO2.out.up hb3); have HX3 := Lib.hid (heap_below hb3 HX2.out); have HB3 := Lib.hid (HB2.out.trans (hb3.mono HB2.out.size)); clear hx3 hb3))
        | ((with_reducible show wpList _ _ _ (⟨none, .store _ (.tmp 4) _, _, _, _, _⟩ :: _) _ _); go_must (refine wpList_storeElfS HE3.out rfl rfl rfl rfl (by simp [Value.oneCell']) ?_; intro w4 hh4 hs4; have HO4 := Lib.hid (HO3.out.stir HE3.out hs4); have hz4 := hs4.size; have HX4 := Lib.hid (hs4.kept HX3.out (cells_ne HX3.out HE3.out (by decide))); have HB4 := Lib.hid (HB3.out.trans (hs4.below HB3.out.size (fun k hk => by rw [hk]; exact HB2.out.size))); obtain ⟨z0, z1, z2, z3, z4, z5⟩ := elf_box (e := e) hh4; clear hh4 hs4))
        | (go_at_call 31; refine (HMD.out _ _ _ _ _ HO4.out HAP.out (by omega)).mono ?_; rintro r w5 ⟨⟨PL, a1, n1, c1, a2, n2, c2, rfl, how⟩, hb5⟩; have HOW5 := Lib.hid how; clear how; have HX5 := Lib.hid (heap_below hb5 HX4.out); have HB5 := Lib.hid (HB4.out.trans (hb5.mono HB4.out.size)); clear hb5)
        | ((with_reducible show wpList _ _ _ (⟨some 6, .alloc _, _, _, _, _⟩ :: _) _ _); go_must (refine wpList_allocObj ?_; intro w6 hx6 hb6 hs6; have HE6 := Lib.hid hx6; have HOW6 := Lib.hid (HOW5.out.mono hb6); have HX6 := Lib.hid (heap_below hb6 HX5.out); have HB6 := Lib.hid (HB5.out.trans (hb6.mono HB5.out.size)); have hlt6 := block_lt (cell_rec HX5.out 0 |>.trans rfl); clear hx6 hb6))
        | ((with_reducible show wpList _ _ _ (⟨none, .store _ (.tmp 6) _, _, _, _, _⟩ :: _) _ _); go_must (refine wpList_storeObjS HE6.out rfl rfl rfl rfl (by simp [Value.oneCell']) ?_; intro w7 hh7 hs7; have HE7 := Lib.hid hh7; have HOW7 := Lib.hid (HOW6.out.stir HE6.out hs7); obtain ⟨z0, z1, z2⟩ := obj_box hh7; have HX7 := Lib.hid (hs7.kept HX6.out (Nat.ne_of_lt hlt6)); have HB7 := Lib.hid (HB6.out.trans (hs7.below HB6.out.size (fun k hk => by rw [hk]; exact HB5.out.size))); clear hh7 hs7))
        | (go_at_call 8; refine (HFI.out _ _ _ _ HOW7.out.at).mono ?_; rintro r w9 ⟨⟨a9, n9, c9, rfl, ho9⟩, hb9⟩; have HX9 := Lib.hid (heap_below hb9 HX7.out); have HOW9 := Lib.hid (HOW7.out.mono hb9); have HOB9 := Lib.hid ho9; have HB9 := Lib.hid (HB7.out.trans (hb9.mono HB7.out.size)); obtain ⟨z0, z1, z2⟩ := obj_box (heap_below hb9 HE7.out); clear ho9 hb9)
        | (go_at_call 32; refine (bytesEq_any fb l _ _ _ HOB9.out.bs (HV.out.mono HB9.out)).mono ?_; rintro r w10 ⟨rfl, rfl⟩)
        | ((with_reducible show wpList _ _ _ (⟨none, .store _ (.tmp 2) _, _, _, _, _⟩ :: _) _ _); go_must (refine wpList_storeObjS HX9.out rfl rfl rfl rfl (by simp [Value.oneCell']) ?_; intro w8 hh8 hs8; have HH8 := Lib.hid hh8; have HOW8 := Lib.hid (HOW9.out.stir HX9.out hs8); have HB8 := Lib.hid (HB9.out.trans (hs8.below HB9.out.size (fun k hk => by rw [hk]; exact Nat.le_refl _))); clear hh8 hs8)))
      exact bodyPost_ret (obRow2 rfl _ _ w.heap.size _ _ _ _ rfl HH8.out rfl rfl (by kernel_rfl)) rfl ⟨ReadRes.code HR.out, HB8.out⟩
    subst hfc
    by_cases hfl : fb = l
    case neg =>
      have HR := Lib.hid (HNOO.out (fun h => hfl (congrArg Prod.fst h)))
      have hcb : decide (fb = l) = false := decide_eq_false hfl
      clear hfl
      go_enter Try.func16, Try.ntmps16
      go_wp2_with (first
        | ((with_reducible show wpList _ _ _ (⟨some 2, .alloc _, _, _, _, _⟩ :: _) _ _); go_must (refine wpList_allocObj ?_; intro w1 hx1 hb1 hs1; have HX1 := Lib.hid hx1; have HB1 := Lib.hid hb1; clear hx1 hb1))
        | (go_at_call 30; refine (HR2.out _ HB1.out).mono ?_; rintro r w2 ⟨⟨L, sa, sn, sc, ga, gn, gc, rfl, ho, hap⟩, hb2⟩; have HO2 := Lib.hid ho; have HAP := Lib.hid hap; have HX2 := Lib.hid (heap_below hb2 HX1.out); have HB2 := Lib.hid (HB1.out.trans (hb2.mono HB1.out.size)); have hz2 := hb2.size; clear ho hap hb2)
        | ((with_reducible show wpList _ _ _ (⟨some 4, .alloc _, _, _, _, _⟩ :: _) _ _); go_must (refine wpList_allocElf ?_; intro w3 hx3 hb3 hs3; have HE3 := Lib.hid hx3; have HO3 := Lib.hid (HO2.out.up hb3); have HX3 := Lib.hid (heap_below hb3 HX2.out); have HB3 := Lib.hid (HB2.out.trans (hb3.mono HB2.out.size)); clear hx3 hb3))
        | ((with_reducible show wpList _ _ _ (⟨none, .store _ (.tmp 4) _, _, _, _, _⟩ :: _) _ _); go_must (refine wpList_storeElfS HE3.out rfl rfl rfl rfl (by simp [Value.oneCell']) ?_; intro w4 hh4 hs4; have HO4 := Lib.hid (HO3.out.stir HE3.out hs4); have hz4 := hs4.size; have HX4 := Lib.hid (hs4.kept HX3.out (cells_ne HX3.out HE3.out (by decide))); have HB4 := Lib.hid (HB3.out.trans (hs4.below HB3.out.size (fun k hk => by rw [hk]; exact HB2.out.size))); obtain ⟨z0, z1, z2, z3, z4, z5⟩ := elf_box (e := e) hh4; clear hh4 hs4))
        | (go_at_call 31; refine (HMD.out _ _ _ _ _ HO4.out HAP.out (by omega)).mono ?_; rintro r w5 ⟨⟨PL, a1, n1, c1, a2, n2, c2, rfl, how⟩, hb5⟩; have HOW5 := Lib.hid how; clear how; have HX5 := Lib.hid (heap_below hb5 HX4.out); have HB5 := Lib.hid (HB4.out.trans (hb5.mono HB4.out.size)); clear hb5)
        | ((with_reducible show wpList _ _ _ (⟨some 6, .alloc _, _, _, _, _⟩ :: _) _ _); go_must (refine wpList_allocObj ?_; intro w6 hx6 hb6 hs6; have HE6 := Lib.hid hx6; have HOW6 := Lib.hid (HOW5.out.mono hb6); have HX6 := Lib.hid (heap_below hb6 HX5.out); have HB6 := Lib.hid (HB5.out.trans (hb6.mono HB5.out.size)); have hlt6 := block_lt (cell_rec HX5.out 0 |>.trans rfl); clear hx6 hb6))
        | ((with_reducible show wpList _ _ _ (⟨none, .store _ (.tmp 6) _, _, _, _, _⟩ :: _) _ _); go_must (refine wpList_storeObjS HE6.out rfl rfl rfl rfl (by simp [Value.oneCell']) ?_; intro w7 hh7 hs7; have HE7 := Lib.hid hh7; have HOW7 := Lib.hid (HOW6.out.stir HE6.out hs7); obtain ⟨z0, z1, z2⟩ := obj_box hh7; have HX7 := Lib.hid (hs7.kept HX6.out (Nat.ne_of_lt hlt6)); have HB7 := Lib.hid (HB6.out.trans (hs7.below HB6.out.size (fun k hk => by rw [hk]; exact HB5.out.size))); clear hh7 hs7))
        | (go_at_call 8; refine (HFI.out _ _ _ _ HOW7.out.at).mono ?_; rintro r w9 ⟨⟨a9, n9, c9, rfl, ho9⟩, hb9⟩; have HX9 := Lib.hid (heap_below hb9 HX7.out); have HOW9 := Lib.hid (HOW7.out.mono hb9); have HOB9 := Lib.hid ho9; have HB9 := Lib.hid (HB7.out.trans (hb9.mono HB7.out.size)); obtain ⟨z0, z1, z2⟩ := obj_box (heap_below hb9 HE7.out); clear ho9 hb9)
        | (go_at_call 32; refine (bytesEq_any fb l _ _ _ HOB9.out.bs (HV.out.mono HB9.out)).mono ?_; rintro r w10 ⟨rfl, rfl⟩)
        | ((with_reducible show wpList _ _ _ (⟨none, .store _ (.tmp 2) _, _, _, _, _⟩ :: _) _ _); go_must (refine wpList_storeObjS HX9.out rfl rfl rfl rfl (by simp [Value.oneCell']) ?_; intro w8 hh8 hs8; have HH8 := Lib.hid hh8; have HOW8 := Lib.hid (HOW9.out.stir HX9.out hs8); have HB8 := Lib.hid (HB9.out.trans (hs8.below HB9.out.size (fun k hk => by rw [hk]; exact Nat.le_refl _))); clear hh8 hs8)))
      exact bodyPost_ret (obRow2 rfl _ _ w.heap.size _ _ _ _ rfl HH8.out rfl rfl (by kernel_rfl)) rfl ⟨ReadRes.code HR.out, HB8.out⟩
    have hcb : decide (fb = l) = true := decide_eq_true hfl
    have HR := Lib.hid (HYES.out (by rw [hfl]))
    clear hfl
    go_enter Try.func16, Try.ntmps16
    go_wp2_with (first
      | ((with_reducible show wpList _ _ _ (⟨some 2, .alloc _, _, _, _, _⟩ :: _) _ _); go_must (refine wpList_allocObj ?_; intro w1 hx1 hb1 hs1; have HX1 := Lib.hid hx1; have HB1 := Lib.hid hb1; clear hx1 hb1))
      | (go_at_call 30; refine (HR2.out _ HB1.out).mono ?_; rintro r w2 ⟨⟨L, sa, sn, sc, ga, gn, gc, rfl, ho, hap⟩, hb2⟩; have HO2 := Lib.hid ho; have HAP := Lib.hid hap; have HX2 := Lib.hid (heap_below hb2 HX1.out); have HB2 := Lib.hid (HB1.out.trans (hb2.mono HB1.out.size)); have hz2 := hb2.size; clear ho hap hb2)
      | ((with_reducible show wpList _ _ _ (⟨some 4, .alloc _, _, _, _, _⟩ :: _) _ _); go_must (refine wpList_allocElf ?_; intro w3 hx3 hb3 hs3; have HE3 := Lib.hid hx3; have HO3 := Lib.hid (HO2.out.up hb3); have HX3 := Lib.hid (heap_below hb3 HX2.out); have HB3 := Lib.hid (HB2.out.trans (hb3.mono HB2.out.size)); clear hx3 hb3))
      | ((with_reducible show wpList _ _ _ (⟨none, .store _ (.tmp 4) _, _, _, _, _⟩ :: _) _ _); go_must (refine wpList_storeElfS HE3.out rfl rfl rfl rfl (by simp [Value.oneCell']) ?_; intro w4 hh4 hs4; have HO4 := Lib.hid (HO3.out.stir HE3.out hs4); have hz4 := hs4.size; have HX4 := Lib.hid (hs4.kept HX3.out (cells_ne HX3.out HE3.out (by decide))); have HB4 := Lib.hid (HB3.out.trans (hs4.below HB3.out.size (fun k hk => by rw [hk]; exact HB2.out.size))); obtain ⟨z0, z1, z2, z3, z4, z5⟩ := elf_box (e := e) hh4; clear hh4 hs4))
      | (go_at_call 31; refine (HMD.out _ _ _ _ _ HO4.out HAP.out (by omega)).mono ?_; rintro r w5 ⟨⟨PL, a1, n1, c1, a2, n2, c2, rfl, how⟩, hb5⟩; have HOW5 := Lib.hid how; clear how; have HX5 := Lib.hid (heap_below hb5 HX4.out); have HB5 := Lib.hid (HB4.out.trans (hb5.mono HB4.out.size)); clear hb5)
      | ((with_reducible show wpList _ _ _ (⟨some 6, .alloc _, _, _, _, _⟩ :: _) _ _); go_must (refine wpList_allocObj ?_; intro w6 hx6 hb6 hs6; have HE6 := Lib.hid hx6; have HOW6 := Lib.hid (HOW5.out.mono hb6); have HX6 := Lib.hid (heap_below hb6 HX5.out); have HB6 := Lib.hid (HB5.out.trans (hb6.mono HB5.out.size)); have hlt6 := block_lt (cell_rec HX5.out 0 |>.trans rfl); clear hx6 hb6))
      | ((with_reducible show wpList _ _ _ (⟨none, .store _ (.tmp 6) _, _, _, _, _⟩ :: _) _ _); go_must (refine wpList_storeObjS HE6.out rfl rfl rfl rfl (by simp [Value.oneCell']) ?_; intro w7 hh7 hs7; have HE7 := Lib.hid hh7; have HOW7 := Lib.hid (HOW6.out.stir HE6.out hs7); obtain ⟨z0, z1, z2⟩ := obj_box hh7; have HX7 := Lib.hid (hs7.kept HX6.out (Nat.ne_of_lt hlt6)); have HB7 := Lib.hid (HB6.out.trans (hs7.below HB6.out.size (fun k hk => by rw [hk]; exact HB5.out.size))); clear hh7 hs7))
      | (go_at_call 8; refine (HFI.out _ _ _ _ HOW7.out.at).mono ?_; rintro r w9 ⟨⟨a9, n9, c9, rfl, ho9⟩, hb9⟩; have HX9 := Lib.hid (heap_below hb9 HX7.out); have HOW9 := Lib.hid (HOW7.out.mono hb9); have HOB9 := Lib.hid ho9; have HB9 := Lib.hid (HB7.out.trans (hb9.mono HB7.out.size)); obtain ⟨z0, z1, z2⟩ := obj_box (heap_below hb9 HE7.out); clear ho9 hb9)
      | (go_at_call 32; refine (bytesEq_any fb l _ _ _ HOB9.out.bs (HV.out.mono HB9.out)).mono ?_; rintro r w10 ⟨rfl, rfl⟩)
      | ((with_reducible show wpList _ _ _ (⟨none, .store _ (.tmp 2) _, _, _, _, _⟩ :: _) _ _); go_must (refine wpList_storeObjS HX9.out rfl rfl rfl rfl (by simp [Value.oneCell']) ?_; intro w8 hh8 hs8; have HH8 := Lib.hid hh8; have HOW8 := Lib.hid (HOW9.out.stir HX9.out hs8); have HB8 := Lib.hid (HB9.out.trans (hs8.below HB9.out.size (fun k hk => by rw [hk]; exact Nat.le_refl _))); clear hh8 hs8)))
    exact bodyPost_ret (obRow2 rfl _ _ w.heap.size _ _ _ _ rfl HH8.out rfl rfl (by kernel_rfl)) rfl ⟨⟨PL, .slice a1 n1 c1, .slice a2 n2 c2, by rw [HR.out]; rfl, by rw [HR.out]; exact HOW8.out.base HB1.out.size⟩, HB8.out⟩
theorem read6_any (l : List UInt8) (v : Value) (w : World) (hl : l.length ≤ 24000) (hv : Bs w v l) :
    Calls Try.prog 16 #[v] w fun r w' => ReadRes (fun l => modP l [] []) l w.heap.size r w' ∧ Below w.heap.size w w' := by
  have hd : ∀ s ∈ (readE l).1.secs, s.data.length ≤ 24000 ∧ s.name.length ≤ 1000000000 := fun s hs => ⟨Nat.le_trans (readE_data hs) hl, by have := (readE_few l).2 s hs; omega⟩
  exact read6_gen l v w (by omega) hv (fun s hs => ⟨by have := (hd s hs).1; omega, (hd s hs).2, fun _ => (hd s hs).1⟩) (fun s hs => by have := (hd s (List.mem_of_getElem? hs)).1; omega) (fun o ho => way_ok (.inl rfl) (by have := (readE_few l).1; omega) hd (readE_ok (l := l) (by omega)).fits ho)
/-- A module's file. -/
theorem read6_obj (o : ObjM) (l : List UInt8) (v : Value) (w : World) (ho : ObjOk o) (hr : ∀ p ∈ o.parts, p.data.length ≤ 24000) (h : fileO o = (l, 0)) (hv : Bs w v l) :
    Calls Try.prog 16 #[v] w fun r w' => (∃ PL pv sv, r = .returned (.tuple #[objV o pv sv, .int .i64 0]) ∧ ObjOwn w' w.heap.size o PL pv sv) ∧ Below w.heap.size w w' := by
  obtain ⟨h1, h2, -⟩ := obj_back ho.wf h
  have hm := (fileO_0 h).2
  have hl : l.length ≤ 4194304 := by
    rw [hm.2]
    have h1 := fileB_len (mayK hm.1)
    have h2 := (mayK hm.1).len
    omega
  have he : (readE l).1 = elfO o := by rw [h1]
  refine (read6_gen l v w hl hv (fun s hs => ?_) (fun s hs => ?_) (fun o2 ho2 => ?_)).mono fun r w' ⟨⟨PL, pv, sv, h3, h4⟩, h5⟩ => ?_
  · have hd := (readE_few l).2 s hs
    rw [he] at hs
    have hs' : s ∈ o.parts.map secPart ++ relSecs (symtabNo o) 0 o.parts ++ [symSec o, strSec o] := hs
    have h9 := symW_len ho.wf.many
    have h10 : s.data.length ≤ 129001 := by
      rw [List.mem_append, List.mem_append] at hs'
      rcases hs' with (hs' | hs') | hs'
      · obtain ⟨p, hp, rfl⟩ := List.mem_map.1 hs'
        have h1 := hr p hp
        show p.data.length ≤ _
        omega
      · obtain ⟨p, hp, j, hj, rfl⟩ := relSecs_mem _ _ hs'
        have h1 := relaW_len (ho.wf.relas p hp).1
        show (relaW p.relas).1.length ≤ _
        omega
      · rcases List.mem_cons.1 hs' with rfl | hs'
        · show (symW o.syms).1.length ≤ _; omega
        · rcases List.mem_singleton.1 hs' with rfl
          show (symW o.syms).2.1.length ≤ _; omega
    refine ⟨?_, by omega, fun h4 => ?_⟩
    · omega
    · rw [List.mem_append, List.mem_append] at hs'
      rcases hs' with (hs' | hs') | hs'
      · obtain ⟨p, hp, rfl⟩ := List.mem_map.1 hs'
        exact hr p hp
      · obtain ⟨p, hp, j, hj, rfl⟩ := relSecs_mem _ _ hs'
        exact relaW_len (ho.wf.relas p hp).1
      · rcases List.mem_cons.1 hs' with rfl | hs'
        · cases h4
        · rcases List.mem_singleton.1 hs' with rfl
          cases h4
  · rw [he, (elfO_cut o).2.2.1] at hs
    cases hs
    have h9 := symW_len ho.wf.many
    show (symW o.syms).1.length ≤ _
    omega
  · rw [he, h2] at ho2
    cases ho2
    exact ho
  · rw [(read_obj ho.wf h).1] at h3 h4
    exact ⟨⟨PL, pv, sv, h3, h4⟩, h5⟩
end Go.Proofs.Ytimnbnomaajmmaa
namespace Go.Proofs.Ytimnbnomaajmmaa
open Go.RowKit Go.Fd
def seenB (s : SymM) : Bool := !decide (s.bind = 0) && !decide (s.sec = 0) && !decide (s.name = [])
theorem def_step {l : List SymM} {k : Nat} {x : SymM} (h : l[k]? = some x) : definedO (l.take (k + 1)) = if seenB x = true then definedO (l.take k) ++ [x.name] else definedO (l.take k) := by
  unfold definedO
  rw [List.take_add_one, h, List.filter_append, List.map_append]
  show _ ++ List.map _ (List.filter seenB [x]) = _
  by_cases hs : seenB x = true
  · rw [if_pos hs, List.filter_cons_of_pos hs]; rfl
  · rw [if_neg hs, List.filter_cons_of_neg hs]; simp
theorem def_len (l : List SymM) : (definedO l).length ≤ l.length := by
  unfold definedO
  rw [List.length_map]
  exact List.length_filter_le _ _
theorem below_grownT {w1 w6 w7 : World} {v : Value} {l : List (List UInt8)} (h : Ow S 9 w6 w1.heap.size v l) (hg : w6.grownBy w7 v.ownBlock) (hz : w1.heap.size ≤ w6.heap.size) : Below w1.heap.size w6 w7 :=
  below_of_grown hg hz fun k hk => (World.ownsRow.lt h k hk).1
set_option maxHeartbeats 4000000 in
set_option maxRecDepth 100000 in
theorem defined6_any (o : ObjM) (L : List (PartM × Value × Value)) (pv sv : Value) (w : World) (h : ObjAt w o L pv sv) (hl : o.syms.length ≤ 1000) :
    Calls Try.prog 10 #[objV o pv sv] w fun e w' => (∃ a n c, e = .returned (.slice a n c) ∧ Ow S 9 w' w.heap.size (.slice a n c) (definedO o.syms)) ∧ Below w.heap.size w w' := by
  obtain ⟨pn, pa, pc, -, rfl, -, -⟩ := h.rd.shape
  obtain ⟨sa, sc, rfl, hsc, -, hS⟩ := h.syms.open (fun _ => rfl)
  have HS := Lib.hid hS
  obtain ⟨target, parts, syms⟩ := o
  dsimp only at *
  obtain ⟨ns, hns⟩ : ∃ n, n = syms.length := ⟨_, rfl⟩
  rw [← hns] at hl hsc ⊢
  have HNS := Lib.hid hns
  clear hS hns h
  go_enter Try.func10, Try.ntmps10
  go_wp2_with (first
    | ((with_reducible show wpList _ _ _ (⟨some 1, .box _ _, _, _, _, _⟩ :: _) _ _); go_must (refine wpList_box rfl ?_; intro w1 hx1 hb1 hs1; have HX1 := Lib.hid hx1; have HB1 := Lib.hid hb1; have hb1s := hb1.size; obtain ⟨c0, c1, c2⟩ := obj_box hx1; clear hx1 hb1)))
  go_loopw [3, 9] (fun v i wr => ∃ (k : Nat) (va : Option Addr) (vn vc : Nat), v = .slice va vn vc ∧ i = .int .i64 k ∧ k ≤ ns ∧ Hid (Ow S 9 wr w1.heap.size (.slice va vn vc) (definedO (syms.take k))) ∧ Hid (Below w1.heap.size w1 wr)) (fun _ i _ => ns - (intOf i).toNat)
  case atStart => exact ⟨0, none, 0, 0, rfl, rfl, Nat.zero_le _, Ow.nil _ _ _ _, Below.refl _ _⟩
  case round =>
    obtain ⟨k, va, vn, vc, rfl, rfl, hk, HO, HW⟩ := hrel
    have HB := Lib.hid (HB1.out.trans (HW.out.mono HB1.out.size))
    have HXr := Lib.hid (heap_below HW.out HX1.out)
    have hbs := HW.out.size
    
    by_cases hlt : k < ns
    · obtain ⟨x, hx⟩ : ∃ x, syms[k]? = some x := ⟨_, List.getElem?_eq_getElem (by have := HNS.out; omega)⟩
      obtain ⟨b, oo, rfl, e0, e1, e2, e3, e4, e5, hb0⟩ := sym_cells HS.out HB.out hx
      have HST := Lib.hid (def_step hx)
      have HDL : Hid ((definedO (syms.take k)).length ≤ 1000) := by
        have h1 := def_len (syms.take k)
        rw [List.length_take] at h1
        unfold Hid
        omega
      have HSB : Hid (seenB x = (!decide (x.bind = 0) && !decide (x.sec = 0) && !decide (x.name = []))) := rfl
      obtain ⟨name, bind, typ, sec, value, size⟩ := x
      dsimp only at *
      generalize seenB ⟨name, bind, typ, sec, value, size⟩ = sb at *
      clear hx
      by_cases hq : bind ≠ 0 ∧ sec ≠ 0 ∧ name ≠ []
      · obtain ⟨q1, q2, q3⟩ := hq
        have t1 : (bind != 0) = true := bne_iff_ne.2 q1
        have t2 : (sec != 0) = true := bne_iff_ne.2 q2
        have t3 : (name != []) = true := bne_iff_ne.2 q3
        have t4 : name.isEmpty = false := by simpa using q3
        have HN := Lib.hid (show definedO (syms.take (k + 1)) = definedO (syms.take k) ++ [name] by rw [HST.out, HSB.out, decide_eq_false q1, decide_eq_false q2, decide_eq_false q3]; rfl)
        clear HST HSB q1 q2 q3
        go_wp2_with (first
          | ((with_reducible show wpList _ _ _ (⟨none, .store _ (.tmp 5) _, _, _, _, _⟩ :: _) _ _); go_must (refine wpList_storeNew rfl rfl (by kernel_rfl) rfl (by simp [Value.oneCell']) ?_; intro w6 hh6 hb6; have HO6 := Lib.hid (HO.out.mono hb6); have HB6 := Lib.hid (HW.out.trans (hb6.mono HW.out.size)); have d0 := cell_rec hh6 0; have d1 := cell_rec hh6 1; have d2 := cell_rec hh6 2; have d3 := cell_rec hh6 3; simp only [List.getElem?_toArray, List.getElem?_cons_succ, List.getElem?_cons_zero] at d0 d1 d2 d3; clear hh6 hb6))
          | ((with_reducible show wpList _ _ _ (⟨some 30, _, _, _, _, _⟩ :: _) _ _); go_must (refine wpList_pushE TTexts HO6.out rfl rfl name rfl rfl (by have := HDL.out; omega) (by have := HDL.out; omega) HB6.out.size ?_; intro v7 w7 hv7 hg7 hb7; have HO7 := Lib.hid hv7; have HB7 := Lib.hid (HB6.out.trans (below_grownT HO6.out hg7 HB6.out.size)); clear hv7 hg7 hb7)))
        obtain ⟨m7, a7, c7, -, rfl, -, -⟩ := HO7.out.shape
        exact ⟨⟨k + 1, a7, m7, c7, rfl, rfl, by omega, by rw [HN.out]; exact HO7, HB7⟩, by simp [intOf]; omega⟩


      · have HN := Lib.hid (show definedO (syms.take (k + 1)) = definedO (syms.take k) by
          rw [HST.out, HSB.out, if_neg]
          intro h
          simp only [Bool.and_eq_true, Bool.not_eq_true', decide_eq_false_iff_not] at h
          exact hq ⟨h.1.1, h.1.2, h.2⟩)
        have HQ := Lib.hid hq
        clear HST HSB hq
        by_cases q1 : bind = 0
        · have t1 : (bind != 0) = false := by rw [q1]; rfl
          clear q1
          go_wp2_with (first
            | ((with_reducible show wpList _ _ _ (⟨none, .store _ (.tmp 5) _, _, _, _, _⟩ :: _) _ _); go_must (refine wpList_storeNew rfl rfl (by kernel_rfl) rfl (by simp [Value.oneCell']) ?_; intro w6 hh6 hb6; have HO6 := Lib.hid (HO.out.mono hb6); have HB6 := Lib.hid (HW.out.trans (hb6.mono HW.out.size)); have d0 := cell_rec hh6 0; have d1 := cell_rec hh6 1; have d2 := cell_rec hh6 2; have d3 := cell_rec hh6 3; simp only [List.getElem?_toArray, List.getElem?_cons_succ, List.getElem?_cons_zero] at d0 d1 d2 d3; clear hh6 hb6)))
          exact ⟨⟨k + 1, va, vn, vc, rfl, rfl, by omega, by rw [HN.out]; exact HO6, HB6⟩, by simp [intOf]; omega⟩
        have t1 : (bind != 0) = true := bne_iff_ne.2 q1
        by_cases q2 : sec = 0
        · have t2 : (sec != 0) = false := by rw [q2]; rfl
          clear q1 q2
          go_wp2_with (first
            | ((with_reducible show wpList _ _ _ (⟨none, .store _ (.tmp 5) _, _, _, _, _⟩ :: _) _ _); go_must (refine wpList_storeNew rfl rfl (by kernel_rfl) rfl (by simp [Value.oneCell']) ?_; intro w6 hh6 hb6; have HO6 := Lib.hid (HO.out.mono hb6); have HB6 := Lib.hid (HW.out.trans (hb6.mono HW.out.size)); have d0 := cell_rec hh6 0; have d1 := cell_rec hh6 1; have d2 := cell_rec hh6 2; have d3 := cell_rec hh6 3; simp only [List.getElem?_toArray, List.getElem?_cons_succ, List.getElem?_cons_zero] at d0 d1 d2 d3; clear hh6 hb6)))
          exact ⟨⟨k + 1, va, vn, vc, rfl, rfl, by omega, by rw [HN.out]; exact HO6, HB6⟩, by simp [intOf]; omega⟩
        have t2 : (sec != 0) = true := bne_iff_ne.2 q2
        have q3 : name = [] := by
          rcases Classical.em (name = []) with h | h
          · exact h
          · exact absurd ⟨q1, q2, h⟩ HQ.out
        have t3 : (name != []) = false := by rw [q3]; rfl
        have t4 : name.isEmpty = true := by rw [q3]; rfl
        clear q1 q2 q3
        go_wp2_with (first
          | ((with_reducible show wpList _ _ _ (⟨none, .store _ (.tmp 5) _, _, _, _, _⟩ :: _) _ _); go_must (refine wpList_storeNew rfl rfl (by kernel_rfl) rfl (by simp [Value.oneCell']) ?_; intro w6 hh6 hb6; have HO6 := Lib.hid (HO.out.mono hb6); have HB6 := Lib.hid (HW.out.trans (hb6.mono HW.out.size)); have d0 := cell_rec hh6 0; have d1 := cell_rec hh6 1; have d2 := cell_rec hh6 2; have d3 := cell_rec hh6 3; simp only [List.getElem?_toArray, List.getElem?_cons_succ, List.getElem?_cons_zero] at d0 d1 d2 d3; clear hh6 hb6)))
        exact ⟨⟨k + 1, va, vn, vc, rfl, rfl, by omega, by rw [HN.out]; exact HO6, HB6⟩, by simp [intOf]; omega⟩
    · obtain rfl : k = ns := by omega
      have HF : Hid (Ow S 9 wr w1.heap.size (.slice va vn vc) (definedO syms)) := by
        have h1 := HO.out
        rwa [List.take_of_length_le (by have := HNS.out; omega)] at h1
      go_wp2
      go_ret
      exact ⟨⟨va, vn, vc, rfl, HF.out.rebase HB1.out.size⟩, HB.out⟩
end Go.Proofs.Ytimnbnomaajmmaa
namespace Go.Proofs.Ytimnbnomaajmmaa
open Go.RowKit Go.Fd
theorem run_allocPart {a : Act} {w : World} {d : Option Tmp} {ty : TypeId} {pos : String} {aft : Array Edge} {g : Option (Nat × Bool)} :
    (execOp a.eval ⟨d, .alloc 43, ty, pos, aft, g⟩).run Try.prog w = .ok (.value (.pointer (some ⟨w.heap.size, 0, none⟩))) (w.alloc (.cells partZ 43)) := by
  kernel_rfl
theorem wpList_allocPart {ops : Array Oper} {rest : List Oper} {Q : Exit → Act → World → Prop} {a : Act} {w : World} {d : Option Tmp} {ty : TypeId} {pos : String} {aft : Array Edge}
    (h : ∀ w1, w1.heap[w.heap.size]? = some (.cells partZ 43 (0, 0)) → Below w.heap.size w w1 → w.heap.size < w1.heap.size → wpList Try.prog ops Q rest (a.put d (.pointer (some ⟨w.heap.size, 0, none⟩))) w1) :
    wpList Try.prog ops Q (⟨d, .alloc 43, ty, pos, aft, none⟩ :: rest) a w :=
  wpList_val rfl run_allocPart (h (w.alloc (.cells partZ 43)) (heap_alloc_last w _) (below_alloc w _) (by rw [World.size_alloc]; omega))
set_option maxHeartbeats 16000000 in
set_option maxRecDepth 100000 in
theorem refSame_eq (o : ObjM) (L M : List (PartM × Value × Value)) (pv sv pu su : Value) (w : World) (h : ObjAt w o L pv sv) (h' : ObjAt w o M pu su) (hl : o.parts.length ≤ 1000000) (hs : o.syms.length ≤ 1000000) (hr : ∀ p ∈ o.parts, p.relas.length ≤ 1000000) :
    Calls Try.prog 14 #[objV o pv sv, objV o pu su] w fun e w' => e = .returned (.bool true) ∧ Below w.heap.size w w' := by
  have HA := Lib.hid h
  have HA' := Lib.hid h'
  obtain ⟨pa, pc, rfl, hpc, -, hP⟩ := h.rd.open (fun _ => rfl)
  obtain ⟨qa, qc, rfl, hqc, -, hQ⟩ := h'.rd.open (fun _ => rfl)
  obtain ⟨sa, sc, rfl, hsc, -, hS⟩ := h.syms.open (fun _ => rfl)
  obtain ⟨ua, uc, rfl, huc, -, hU⟩ := h'.syms.open (fun _ => rfl)
  have HP := Lib.hid hP
  have HQ := Lib.hid hQ
  have HS := Lib.hid hS
  have HU := Lib.hid hU
  have hLn : L.length = o.parts.length := by rw [h.parts, List.length_map]
  have hMn : M.length = o.parts.length := by rw [h'.parts, List.length_map]
  have HLE : Hid (∀ (k : Nat) (p : PartM), o.parts[k]? = some p → ∃ dv rv, L[k]? = some (p, dv, rv)) := Lib.hid (fun k p hk => by
    rw [h.parts, List.getElem?_map, Option.map_eq_some_iff] at hk
    obtain ⟨⟨q, dv, rv⟩, hq, rfl⟩ := hk
    exact ⟨dv, rv, hq⟩)
  have HME : Hid (∀ (k : Nat) (p : PartM), o.parts[k]? = some p → ∃ dv rv, M[k]? = some (p, dv, rv)) := Lib.hid (fun k p hk => by
    rw [h'.parts, List.getElem?_map, Option.map_eq_some_iff] at hk
    obtain ⟨⟨q, dv, rv⟩, hq, rfl⟩ := hk
    exact ⟨dv, rv, hq⟩)
  have HRL := Lib.hid hr
  obtain ⟨target, parts, syms⟩ := o
  dsimp only at *
  rw [hLn] at hpc ⊢
  rw [hMn] at hqc ⊢
  obtain ⟨np, hnp⟩ : ∃ n, n = parts.length := ⟨_, rfl⟩
  obtain ⟨ns, hns⟩ : ∃ n, n = syms.length := ⟨_, rfl⟩
  rw [← hnp] at hpc hqc hl ⊢
  rw [← hns] at hsc huc hs ⊢
  have HNP := Lib.hid hnp
  have HNS := Lib.hid hns
  clear h h' hP hQ hS hU hLn hMn hnp hns hr
  go_enter Try.func14, Try.ntmps14
  go_wp2_with (first
    | ((with_reducible show wpList _ _ _ (⟨some 2, .box _ _, _, _, _, _⟩ :: _) _ _); go_must (refine wpList_box rfl ?_; intro w1 hx1 hb1 hs1; have HX1 := Lib.hid hx1; have HB1 := Lib.hid hb1; clear hx1 hb1))
    | ((with_reducible show wpList _ _ _ (⟨some 3, .box _ _, _, _, _, _⟩ :: _) _ _); go_must (refine wpList_box rfl ?_; intro w2 hx2 hb2 hs2; have HX2 := Lib.hid hx2; have HX12 := Lib.hid (heap_below hb2 HX1.out); have HB2 := Lib.hid (HB1.out.trans (hb2.mono HB1.out.size)); obtain ⟨c0, c1, c2⟩ := obj_box HX12.out; obtain ⟨d0, d1, d2⟩ := obj_box hx2; clear hx2 hb2)))
  clear c0 c1 c2 d0 d1 d2
  go_loopw [5] (fun i wr => ∃ k : Nat, i = .int .i64 k ∧ k ≤ ns ∧ Hid (Below w2.heap.size w2 wr)) (fun i _ => ns - (intOf i).toNat)
  case atStart => exact ⟨0, rfl, Nat.zero_le _, Below.refl _ _⟩
  case round =>
    obtain ⟨k, rfl, hk, HW⟩ := hrel
    have HB := Lib.hid (HB2.out.trans (HW.out.mono HB2.out.size))
    obtain ⟨c0, c1, c2⟩ := obj_box (heap_below HW.out HX12.out)
    obtain ⟨d0, d1, d2⟩ := obj_box (heap_below HW.out HX2.out)
    clear c0 c1 d0 d1
    by_cases hlt : k < ns
    · obtain ⟨x, hx⟩ : ∃ x, syms[k]? = some x := ⟨_, List.getElem?_eq_getElem (by have := HNS.out; omega)⟩
      obtain ⟨b1, o1, rfl, e0, e1, e2, e3, e4, e5, -⟩ := sym_cells HS.out HB.out hx
      obtain ⟨b2, o2, rfl, f0, f1, f2, f3, f4, f5, -⟩ := sym_cells HU.out HB.out hx
      clear hx
      go_wp2
      refine wp_region_quiet_lit (by kernel_rfl) (by kernel_rfl) ?_
      repeat (first
        | ((with_reducible show wpQuiet _ _ _ _ (⟨some 50, _, _, _, _, _⟩ :: _) _); refine wpQuiet_run rfl (by rintro _ ⟨n, rfl⟩; exact run_bin rfl rfl (neq_sym x x _ _ _)) ?_)
        | quiet_step (fail))
      refine wpQuiet_nil ?_
      rintro _ ⟨nq, rfl⟩
      rw [show (!decide (x = x)) = false by simp]
      go_wp2
      go_roundw
      case rel =>
        first
          | exact ⟨k + 1, by go_num, by omega, HW.out.drewN _⟩
          | ((repeat apply Exists.intro); exact ⟨⟨k + 1, by go_num, by omega, HW.out.drewN _⟩, rfl⟩)
      case measure => simp [intOf] <;> omega
    · obtain rfl : k = ns := by omega
      go_wp2
      go_loopw [6] (fun i wr => ∃ k : Nat, i = .int .i64 k ∧ k ≤ np ∧ Hid (Below w2.heap.size w2 wr)) (fun i _ => np - (intOf i).toNat)
      case atStart => exact ⟨0, rfl, Nat.zero_le _, HW.out⟩
      case round =>
        obtain ⟨j, rfl, hj, HWj⟩ := hrel
        have HBj := Lib.hid (HB2.out.trans (HWj.out.mono HB2.out.size))
        obtain ⟨c0, c1, c2⟩ := obj_box (heap_below HWj.out HX12.out)
        obtain ⟨d0, d1, d2⟩ := obj_box (heap_below HWj.out HX2.out)
        clear c0 c2 d0 d2
        by_cases hlt2 : j < np
        · obtain ⟨p, hp⟩ : ∃ p, parts[j]? = some p := ⟨_, List.getElem?_eq_getElem (by have := HNP.out; omega)⟩
          obtain ⟨dv, rv, hx1⟩ := HLE.out j p hp
          obtain ⟨du, ru, hx2⟩ := HME.out j p hp
          have HDV := Lib.hid (HA.out.data _ (List.mem_of_getElem? hx1))
          have HDU := Lib.hid (HA'.out.data _ (List.mem_of_getElem? hx2))
          obtain ⟨m9, p9, r9, hm9, rfl, -, -⟩ := HDV.out.shape
          obtain ⟨m8, p8, r8, hm8, rfl, -, -⟩ := HDU.out.shape
          have hmm : m8 = m9 := hm8.out.trans hm9.out.symm
          subst hmm
          obtain ⟨ra, rc, hrv, hrc, -, hR⟩ := (HA.out.rela _ (List.mem_of_getElem? hx1)).open (fun _ => rfl)
          obtain ⟨ta, tc, htv, htc, -, hT⟩ := (HA'.out.rela _ (List.mem_of_getElem? hx2)).open (fun _ => rfl)
          dsimp only at hrv htv
          subst hrv htv
          have HR := Lib.hid hR
          have HT := Lib.hid hT
          have hmr9 := HRL.out p (List.mem_of_getElem? hp)
          obtain ⟨b1, o1, rfl, e0, e1, e2, e3, e4, e5, -⟩ := part_cells HP.out HBj.out hx1
          obtain ⟨b2, o2, rfl, f0, f1, f2, f3, f4, f5, -⟩ := part_cells HQ.out HBj.out hx2
          obtain ⟨name, flags, align, size, data, relas⟩ := p
          dsimp only at *
          obtain ⟨mr, hmr⟩ : ∃ n, n = relas.length := ⟨_, rfl⟩
          rw [← hmr] at hrc htc hmr9 e5 f5
          have HMR := Lib.hid hmr
          clear hx1 hx2 hp hR hT hmr hm9 hm8
          have hAB := fun (x : Above wr) (b k : Nat) (h : b < wr.heap.size) => Above.cell x b k h
          have n1 := block_lt c1
          have n2 := block_lt d1
          have n3 := block_lt e0
          have n4 := block_lt f0
          go_upto_region 11 with (fail)
          go_cut [7, 8] from 58 to 67 (fun s7 s8 wx => ∃ g7 g8 : Nat, s7 = .pointer (some ⟨g7, 0, none⟩) ∧ s8 = .pointer (some ⟨g8, 0, none⟩) ∧ Hid (wx.heap[g7]? = some (.cells #[.string ⟨name.toArray⟩, .string ⟨flags.toArray⟩, .int .i64 align, .int .i64 size, .slice p9 m8 r9, .slice ra mr rc] 43 (0, 0))) ∧ Hid (wx.heap[g8]? = some (.cells #[.string ⟨name.toArray⟩, .string ⟨flags.toArray⟩, .int .i64 align, .int .i64 size, .slice p8 m8 r8, .slice ta mr tc] 43 (0, 0))) ∧ Hid (Below wr.heap.size wr wx))
          case first =>
            rename_i J1 K1 hJ1 hK1
            refine wp_region_held (S := SAb wr) (by kernel_rfl) ?_
            change wpAnyH _ _ _ _ _ 14 _ _ _
            have hb0 : Below wr.heap.size wr { wr with drawn := wr.drawn + 1 } := (Below.refl _ _).drew
            refine held_quiet (i := 0) (w0 := wr) rfl (by kernel_rfl) rfl rfl (fun _ _ _ _ h => h) hb0 ?_
            intro K hK
            go_big_quiet_op
            go_big_quiet_on
            refine held_quiet (i := 1) (w0 := wr) rfl (by kernel_rfl) rfl rfl (fun _ _ _ _ h => h) hb0 ?_
            intro K hK
            go_big_quiet_op
            go_big_quiet_on
            refine held_quiet (i := 2) (w0 := wr) rfl (by kernel_rfl) rfl rfl (fun _ _ _ _ h => h) hb0 ?_
            intro K hK
            go_big_quiet_op
            go_big_quiet_on
            refine held_quiet (i := 3) (w0 := wr) rfl (by kernel_rfl) rfl rfl (fun _ _ _ _ h => h) hb0 ?_
            intro K hK
            go_big_quiet_op
            go_big_quiet_on
            refine held_quiet (i := 4) (w0 := wr) rfl (by kernel_rfl) rfl rfl (fun _ _ _ _ h => h) hb0 ?_
            intro K hK
            go_big_quiet_op
            go_big_quiet_on
            refine held_quiet (i := 5) (w0 := wr) rfl (by kernel_rfl) rfl rfl (fun _ _ _ _ h => h) hb0 ?_
            intro K hK
            go_big_quiet_op
            go_big_quiet_on
            refine held_quiet (i := 6) (w0 := wr) rfl (by kernel_rfl) rfl rfl (fun _ _ _ _ h => h) hb0 ?_
            intro K hK
            go_big_quiet_op
            go_big_quiet_on
            refine held_quiet (i := 7) (w0 := wr) rfl (by kernel_rfl) rfl rfl (fun _ _ _ _ h => h) hb0 ?_
            intro K hK
            go_big_quiet_op
            go_big_quiet_on
            refine held_quiet (i := 8) (w0 := wr) rfl (by kernel_rfl) rfl rfl (fun _ _ _ _ h => h) hb0 ?_
            intro K hK
            go_big_quiet_op
            go_big_quiet_on
            refine held_quiet (i := 9) (w0 := wr) rfl (by kernel_rfl) rfl rfl (fun _ _ _ _ h => h) hb0 ?_
            intro K hK
            go_big_quiet_op
            go_big_quiet_on
            clear hAB
            refine wpAnyH_all (rs := [10, 11]) (by kernel_rfl) (by simp) ?_
            intro i hi
            simp only [List.mem_cons, List.not_mem_nil, or_false] at hi
            rcases hi with hi | hi
            · subst hi
              refine wpOp_of_list (i := 10) rfl ?_
              refine wpList_allocPart ?_
              intro wa hxa hba hsa
              refine ⟨hb0.trans (hba.mono hb0.size), ?_⟩
              refine wpAnyH_all (rs := [11]) (by kernel_rfl) (by simp) ?_
              intro i hi
              rw [List.mem_singleton] at hi
              subst hi
              refine wpOp_of_list (i := 11) rfl ?_
              refine wpList_allocPart ?_
              intro wb hxb hbb hsb
              have HAB0 := Lib.hid (hb0.trans ((hba.mono hb0.size).trans (hbb.mono (Nat.le_trans hb0.size hba.size))))
              refine ⟨HAB0.out, ?_⟩
              have HB7 := Lib.hid (heap_below hbb hxa)
              have HB8 := Lib.hid hxb
              have hge7 : wr.heap.size ≤ wr.heap.size := hb0.size
              have hge8 : wr.heap.size ≤ wa.heap.size := Nat.le_trans hb0.size hba.size
              have hne : ({ wr with drawn := wr.drawn + 1 } : World).heap.size < wa.heap.size := hsa
              clear hxa hxb hba hbb
              refine wpAnyH_all (rs := [12]) (by kernel_rfl) (by simp) ?_
              intro i hi
              rw [List.mem_singleton] at hi
              subst hi
              refine wpOp_of_list (i := 12) rfl ?_
              refine wpList_storeRowS HB7.out rfl rfl rfl (by kernel_rfl) (by simp [Value.oneCell']) ?_
              intro wc hhc hsc
              have HC7 := Lib.hid hhc
              have HC8 := Lib.hid (hsc.kept HB8.out (Nat.ne_of_gt hne))
              have HSC0 := Lib.hid (HAB0.out.trans (hsc.below HAB0.out.size (fun j hj => by rw [hj]; exact hge7)))
              refine ⟨HSC0.out, ?_⟩
              clear hhc hsc
              refine wpAnyH_all (rs := [13]) (by kernel_rfl) (by simp) ?_
              intro i hi
              rw [List.mem_singleton] at hi
              subst hi
              refine wpOp_of_list (i := 13) rfl ?_
              refine wpList_storeRowS HC8.out rfl rfl rfl (by kernel_rfl) (by simp [Value.oneCell']) ?_
              intro wy hhy hsy
              have HY8 := Lib.hid hhy
              have HY7 := Lib.hid (hsy.kept HC7.out (Nat.ne_of_lt hne))
              have HSY := Lib.hid (HSC0.out.trans (hsy.below HSC0.out.size (fun j hj => by rw [hj]; exact hge8)))
              refine ⟨HSY.out, ?_⟩
              clear hhy hsy hsa hsb
              refine wpAnyH_done (by kernel_rfl) ?_ _
              go_frame
              first
                | refine hK1 _ _ (Met.intro (hJ1 _ _ ?_))
                | refine Met.intro (hJ1 _ _ ?_)
              repeat apply Exists.intro
              refine ⟨?_, rfl⟩
              exact ⟨_, _, rfl, rfl, HY7, HY8, HSY⟩
            · subst hi
              refine wpOp_of_list (i := 11) rfl ?_
              refine wpList_allocPart ?_
              intro wa hxa hba hsa
              refine ⟨hb0.trans (hba.mono hb0.size), ?_⟩
              refine wpAnyH_all (rs := [10]) (by kernel_rfl) (by simp) ?_
              intro i hi
              rw [List.mem_singleton] at hi
              subst hi
              refine wpOp_of_list (i := 10) rfl ?_
              refine wpList_allocPart ?_
              intro wb hxb hbb hsb
              have HAB0 := Lib.hid (hb0.trans ((hba.mono hb0.size).trans (hbb.mono (Nat.le_trans hb0.size hba.size))))
              refine ⟨HAB0.out, ?_⟩
              have HB8 := Lib.hid (heap_below hbb hxa)
              have HB7 := Lib.hid hxb
              have hge8 : wr.heap.size ≤ wr.heap.size := hb0.size
              have hge7 : wr.heap.size ≤ wa.heap.size := Nat.le_trans hb0.size hba.size
              have hne : ({ wr with drawn := wr.drawn + 1 } : World).heap.size < wa.heap.size := hsa
              clear hxa hxb hba hbb
              refine wpAnyH_all (rs := [12]) (by kernel_rfl) (by simp) ?_
              intro i hi
              rw [List.mem_singleton] at hi
              subst hi
              refine wpOp_of_list (i := 12) rfl ?_
              refine wpList_storeRowS HB7.out rfl rfl rfl (by kernel_rfl) (by simp [Value.oneCell']) ?_
              intro wc hhc hsc
              have HC7 := Lib.hid hhc
              have HC8 := Lib.hid (hsc.kept HB8.out (Nat.ne_of_lt hne))
              have HSC0 := Lib.hid (HAB0.out.trans (hsc.below HAB0.out.size (fun j hj => by rw [hj]; exact hge7)))
              refine ⟨HSC0.out, ?_⟩
              clear hhc hsc
              refine wpAnyH_all (rs := [13]) (by kernel_rfl) (by simp) ?_
              intro i hi
              rw [List.mem_singleton] at hi
              subst hi
              refine wpOp_of_list (i := 13) rfl ?_
              refine wpList_storeRowS HC8.out rfl rfl rfl (by kernel_rfl) (by simp [Value.oneCell']) ?_
              intro wy hhy hsy
              have HY8 := Lib.hid hhy
              have HY7 := Lib.hid (hsy.kept HC7.out (Nat.ne_of_gt hne))
              have HSY := Lib.hid (HSC0.out.trans (hsy.below HSC0.out.size (fun j hj => by rw [hj]; exact hge8)))
              refine ⟨HSY.out, ?_⟩
              clear hhy hsy hsa hsb
              refine wpAnyH_done (by kernel_rfl) ?_ _
              go_frame
              first
                | refine hK1 _ _ (Met.intro (hJ1 _ _ ?_))
                | refine Met.intro (hJ1 _ _ ?_)
              repeat apply Exists.intro
              refine ⟨?_, rfl⟩
              exact ⟨_, _, rfl, rfl, HY7, HY8, HSY⟩
          case rest =>
            obtain ⟨g7, g8, rfl, rfl, HY7, HY8, HSY⟩ := hcut
            obtain ⟨wy, rfl⟩ : ∃ wy : World, wy = wc := ⟨_, rfl⟩
            have HWY := Lib.hid (HWj.out.trans (HSY.out.mono HWj.out.size))
            have HBY := Lib.hid (HBj.out.trans (HSY.out.mono HBj.out.size))
            have hk1 := run_str (HDV.out.mono HBY.out)
            have hk2 := run_str (HDU.out.mono HBY.out)
            clear hAB c1 d1 e0 e1 e2 e3 e4 e5 f0 f1 f2 f3 f4 f5 n1 n2 n3 n4
            obtain ⟨c0, c1, c2, c3, c4, c5⟩ := part_box (x := (⟨name, flags, align, size, data, relas⟩, .slice p9 m8 r9, .slice ra mr rc)) HY7.out
            obtain ⟨d0, d1, d2, d3, d4, d5⟩ := part_box (x := (⟨name, flags, align, size, data, relas⟩, .slice p8 m8 r8, .slice ta mr tc)) HY8.out
            dsimp only at c0 c1 c2 c3 c4 c5 d0 d1 d2 d3 d4 d5 hk1 hk2
            go_wp2
            clear c0 c1 c2 c3 c4 d0 d1 d2 d3 d4 hk1 hk2
            go_loopw [9] (fun i wr => ∃ k : Nat, i = .int .i64 k ∧ k ≤ mr ∧ Hid (Below wy.heap.size wy wr)) (fun i _ => mr - (intOf i).toNat)
            case atStart => exact ⟨0, rfl, Nat.zero_le _, Below.refl _ _⟩
            case round =>
              obtain ⟨q, rfl, hq, HWq⟩ := hrel
              have HBq := Lib.hid (HBY.out.trans (HWq.out.mono HBY.out.size))
              obtain ⟨c0, c1, c2, c3, c4, c5⟩ := part_box (x := (⟨name, flags, align, size, data, relas⟩, .slice p9 m8 r9, .slice ra mr rc)) (heap_below HWq.out HY7.out)
              obtain ⟨d0, d1, d2, d3, d4, d5⟩ := part_box (x := (⟨name, flags, align, size, data, relas⟩, .slice p8 m8 r8, .slice ta mr tc)) (heap_below HWq.out HY8.out)
              clear c0 c1 c2 c3 c4 d0 d1 d2 d3 d4
              dsimp only at c5 d5
              by_cases hlt3 : q < mr
              · obtain ⟨x, hx⟩ : ∃ x, relas[q]? = some x := ⟨_, List.getElem?_eq_getElem (by have := HMR.out; omega)⟩
                obtain ⟨b1, o1, rfl, e0, e1, e2, e3, -⟩ := rela_cells HR.out HBq.out hx
                obtain ⟨b2, o2, rfl, f0, f1, f2, f3, -⟩ := rela_cells HT.out HBq.out hx
                clear hx
                go_wp2
                refine wp_region_quiet_lit (by kernel_rfl) (by kernel_rfl) ?_
                repeat (first
                  | ((with_reducible show wpQuiet _ _ _ _ (⟨some 129, _, _, _, _, _⟩ :: _) _); refine wpQuiet_run rfl (by rintro _ ⟨n, rfl⟩; exact run_bin rfl rfl (neq_rela x x _ _ _)) ?_)
                  | quiet_step (fail))
                refine wpQuiet_nil ?_
                rintro _ ⟨nq, rfl⟩
                rw [show (!decide (x = x)) = false by simp]
                go_wp2
                go_roundw
                case rel =>
                  first
                    | exact ⟨q + 1, by go_num, by omega, HWq.out.drewN _⟩
                    | ((repeat apply Exists.intro); exact ⟨⟨q + 1, by go_num, by omega, HWq.out.drewN _⟩, rfl⟩)
                case measure => simp [intOf] <;> omega
              · obtain rfl : q = mr := by omega
                go_wp2
                go_roundw
                case rel => exact ⟨j + 1, by go_num, by omega, HWY.out.trans (HWq.out.mono HWY.out.size)⟩
                case measure => simp [intOf] <;> omega
        · obtain rfl : j = np := by omega
          go_wp2
          go_ret
          exact ⟨rfl, HBj.out⟩
end Go.Proofs.Ytimnbnomaajmmaa
namespace Go.Proofs.Ytimnbnomaajmmaa
open Go.RowKit Go.Fd
def psum (l : List PartM) : Nat := (l.map fun p => p.data.length + 24 * p.relas.length).sum
theorem psum_step {l : List PartM} {k : Nat} {x : PartM} (h : l[k]? = some x) : psum (l.take (k + 1)) = psum (l.take k) + (x.data.length + 24 * x.relas.length) := by
  rw [List.take_add_one, h]
  unfold psum
  simp
theorem psum_take (l : List PartM) (k : Nat) : psum (l.take k) ≤ psum l := by
  conv => rhs; rw [← List.take_append_drop k l]
  unfold psum
  rw [List.map_append, List.sum_append]
  omega
theorem psum_mem {l : List PartM} {p : PartM} (h : p ∈ l) : p.data.length + 24 * p.relas.length ≤ psum l := by
  induction l with
  | nil => cases h
  | cons x l ih =>
    unfold psum at *
    rw [List.map_cons, List.sum_cons]
    rcases List.mem_cons.1 h with rfl | h
    · omega
    · have := ih h; omega
def lightO (o : ObjM) : Bool := decide (psum o.parts ≤ 8192) && decide (o.parts.length ≤ 120) && decide (o.syms.length ≤ 300)
set_option maxHeartbeats 4000000 in
set_option maxRecDepth 100000 in
theorem light17_any (o : ObjM) (L : List (PartM × Value × Value)) (pv sv : Value) (w : World) (h : ObjAt w o L pv sv) (hp : o.parts.length ≤ 1000000000) (hs : psum o.parts ≤ 1000000000) :
    Calls Try.prog 6 #[objV o pv sv] w fun e w' => e = .returned (.bool (lightO o)) ∧ Below w.heap.size w w' := by
  have HH := Lib.hid h
  obtain ⟨pa, pc, rfl, hpc, -, hP⟩ := h.rd.open (fun _ => rfl)
  obtain ⟨sn, sa, sc, hsn, rfl, -, -⟩ := h.syms.shape
  have HP := Lib.hid hP
  have hLn : L.length = o.parts.length := by rw [h.parts, List.length_map]
  have HLP := Lib.hid h.parts
  obtain ⟨target, parts, syms⟩ := o
  dsimp only at *
  rw [hLn] at hpc ⊢
  obtain ⟨np, hnp⟩ : ∃ n, n = parts.length := ⟨_, rfl⟩
  rw [← hnp] at hpc hp hLn ⊢
  have HNP := Lib.hid hnp
  have HLN := Lib.hid hLn
  have HPS := Lib.hid hs
  have HLB : Hid (lightO ⟨target, parts, syms⟩ = (decide (psum parts ≤ 8192) && decide (np ≤ 120) && decide (sn ≤ 300))) := by
    unfold lightO
    rw [hnp, hsn.out]
    rfl
  generalize lightO ⟨target, parts, syms⟩ = q at *
  clear h hP hLn hnp hs
  go_enter Try.func6, Try.ntmps6
  go_wp2_with (first
    | ((with_reducible show wpList _ _ _ (⟨some 1, .box _ _, _, _, _, _⟩ :: _) _ _); go_must (refine wpList_box rfl ?_; intro w1 hx1 hb1 hs1; have HX1 := Lib.hid hx1; have HB1 := Lib.hid hb1; obtain ⟨c0, c1, c2⟩ := obj_box hx1; clear hx1 hb1)))
  clear c0 c1 c2
  go_loopw [3, 4] (fun x i wr => ∃ k : Nat, x = .int .i64 ((psum (parts.take k) : Nat) : Int) ∧ i = .int .i64 k ∧ k ≤ np ∧ Hid (Below w1.heap.size w1 wr)) (fun _ i _ => np - (intOf i).toNat)
  case atStart => exact ⟨0, by rw [List.take_zero]; rfl, rfl, Nat.zero_le _, Below.refl _ _⟩
  case round =>
    obtain ⟨k, rfl, rfl, hk, HW⟩ := hrel
    have HB := Lib.hid (HB1.out.trans (HW.out.mono HB1.out.size))
    have HXr := Lib.hid (heap_below HW.out HX1.out)
    obtain ⟨c0, c1, c2⟩ := obj_box HXr.out
    have hk9 := psum_take parts k
    by_cases hlt : k < np
    · obtain ⟨x, hx⟩ : ∃ x, L[k]? = some x := ⟨_, List.getElem?_eq_getElem (by have := HLN.out; omega)⟩
      obtain ⟨b, o, rfl, e0, e1, e2, e3, e4, e5, hb0⟩ := part_cells HP.out HB.out hx
      have hxp : parts[k]? = some x.1 := by rw [HLP.out, List.getElem?_map, hx]; rfl
      have HST := Lib.hid (psum_step hxp)
      have hk8 := psum_take parts (k + 1)
      obtain ⟨md, ad, cd, hmd, hdv, -, -⟩ := (HH.out.data x (List.mem_of_getElem? hx)).shape
      obtain ⟨mr, ar, cr, hmr, hrv, -, -⟩ := (HH.out.rela x (List.mem_of_getElem? hx)).shape
      obtain ⟨⟨name, flags, align, size, data, relas⟩, dv, rv⟩ := x
      dsimp only at *
      subst hdv hrv
      have HST2 := Lib.hid (show psum (parts.take (k + 1)) = psum (parts.take k) + (md + 24 * mr) by rw [HST.out, hmd.out, hmr.out])
      have hb1 : psum (parts.take k) + (md + 24 * mr) ≤ 1000000000 := by rw [← HST2.out]; exact Nat.le_trans hk8 HPS.out
      clear hx hxp HST hk8 hk9
      generalize psum (parts.take k) = ps at *
      go_wp2
      go_quiet (fail)
      have HWd := Lib.hid (HW.out.trans ((below_drewN (Below.refl _ wr) nq).mono HW.out.size))
      generalize wr.drewN nq = wd at *
      go_wp2
      go_roundw
      case rel => exact ⟨k + 1, (int_eq (by rw [HST2.out]; omega)), by go_num, by omega, HWd.out⟩
      case measure => simp [intOf] <;> omega
    · obtain rfl : k = np := by omega
      have HT : Hid (parts.take k = parts) := List.take_of_length_le (by have := HNP.out; omega)
      rw [HT.out]
      generalize psum parts = ps at *
      go_wp2
      all_goals go_ret
      all_goals refine ⟨?_, HB.out⟩
      all_goals rw [HLB.out]
      all_goals refine ret1 (bool_eq ?_)
      all_goals rw [Bool.eq_iff_iff]
      all_goals simp
      all_goals omega
end Go.Proofs.Ytimnbnomaajmmaa
namespace Go.Proofs.Ytimnbnomaajmmaa
open Go.RowKit Go.Fd
def p17 : PartM := ⟨[46, 116, 101, 120, 116], [97, 120], 2, 2, [1, 0], []⟩
def s17 : SymM := ⟨[102], 1, 0, 1, 0, 0⟩
def o17 : ObjM := ⟨3, [p17], [s17]⟩
theorem o17_may : mayO o17 = 0 := by decide +kernel
theorem o17_elf : mayE (elfO o17) = true ∧ (fileB (elfO o17)).length ≤ 24000 := by decide +kernel
theorem o17_file : fileO o17 = (fileB (elfO o17), 0) := by unfold fileO; rw [if_neg (by rw [o17_may]; simp), if_pos o17_elf.1]
theorem o17_ok : ObjOk o17 :=
  ⟨⟨⟨by decide, by decide⟩, fun p hp => (by rw [List.mem_singleton.1 hp]; exact ⟨⟨by decide, by decide⟩, ⟨by decide, by decide⟩, by decide⟩), fun p hp => (by rw [List.mem_singleton.1 hp]; exact ⟨Nat.zero_le _, fun x hx => by cases hx⟩), by decide, fun s hs => (by rw [List.mem_singleton.1 hs]; exact ⟨by decide, by decide⟩)⟩, by decide, fun p hp => (by rw [List.mem_singleton.1 hp]; exact ⟨by decide, by decide⟩), fun p hp => (by rw [List.mem_singleton.1 hp]; decide), fun s hs => (by rw [List.mem_singleton.1 hs]; decide)⟩
theorem o17_read : readO (fun l => modP l [] []) (fileB (elfO o17)) = (o17, 0) := (read_obj o17_ok.wf o17_file).1
theorem obj0_may : mayO objNo = 11 := by decide +kernel
theorem run_oneSymS {x : Operand} {s : SymM} {a : Act} {w : World} {d : Option Tmp} {ty : TypeId} {pos : String} {aft : Array Edge} {g : Option (Nat × Bool)} (hx : a.eval x = .agg (encSym s).toArray) :
    (execOp a.eval ⟨d, .buildSlice 23 1 #[(0, x)], ty, pos, aft, g⟩).run Try.prog w = .ok (.value (.slice (some ⟨w.heap.size, 0, none⟩) 1 1)) (w.alloc (.cells (encSym s).toArray 46)) := by
  simp only [execOp, List.map_toArray, List.map_cons, List.map_nil, hx]
  kernel_rfl
theorem wpList_lit10 {ops : Array Oper} {rest : List Oper} {Q : Exit → Act → World → Prop} {a : Act} {w : World} {d : Option Tmp} {ty : TypeId} {pos : String} {aft : Array Edge}
    (h : ∀ w1, Bs w1 (.slice (some ⟨w.heap.size, 0, none⟩) 2 2) [1, 0] → Below w.heap.size w w1 → wpList Try.prog ops Q rest (a.put d (.slice (some ⟨w.heap.size, 0, none⟩) 2 2)) w1) :
    wpList Try.prog ops Q (⟨d, .buildSlice 29 2 #[(0, .const (.int .u8 1)), (1, .const (.int .u8 0))], ty, pos, aft, none⟩ :: rest) a w :=
  wpList_val rfl (w' := w.alloc (.cells #[.int .u8 1, .int .u8 0] 5)) (by kernel_rfl) (h _ (bs_lit w [1, 0] _ 2 rfl rfl) (below_alloc w _))
theorem wpList_litPart {ops : Array Oper} {rest : List Oper} {Q : Exit → Act → World → Prop} {a : Act} {w : World} {d : Option Tmp} {ty : TypeId} {pos : String} {aft : Array Edge} {x : Operand} {p : PartM} {d1 d2 : Option Addr} {m c m2 c2 : Nat} (hx : a.eval x = partV (p, .slice d1 m c, .slice d2 m2 c2))
    (h : ∀ w1, RdR 6 encPart w1 (.slice (some ⟨w.heap.size, 0, none⟩) 1 1) [(p, Value.slice d1 m c, Value.slice d2 m2 c2)] → Below w.heap.size w w1 → wpList Try.prog ops Q rest (a.put d (.slice (some ⟨w.heap.size, 0, none⟩) 1 1)) w1) :
    wpList Try.prog ops Q (⟨d, .buildSlice 22 1 #[(0, x)], ty, pos, aft, none⟩ :: rest) a w :=
  wpList_val rfl (run_onePart hx) (h _ (rd_one rfl (heap_alloc_last w _) rfl) (below_alloc w _))
theorem wpList_litSym {ops : Array Oper} {rest : List Oper} {Q : Exit → Act → World → Prop} {a : Act} {w : World} {d : Option Tmp} {ty : TypeId} {pos : String} {aft : Array Edge} {x : Operand} {s : SymM} (hx : a.eval x = .agg (encSym s).toArray)
    (h : ∀ w1, RdR 6 encSym w1 (.slice (some ⟨w.heap.size, 0, none⟩) 1 1) [s] → Below w.heap.size w w1 → wpList Try.prog ops Q rest (a.put d (.slice (some ⟨w.heap.size, 0, none⟩) 1 1)) w1) :
    wpList Try.prog ops Q (⟨d, .buildSlice 23 1 #[(0, x)], ty, pos, aft, none⟩ :: rest) a w :=
  wpList_val rfl (run_oneSymS hx) (h _ (rd_one rfl (heap_alloc_last w _) rfl) (below_alloc w _))
theorem objNo_at (w : World) : ObjAt w objNo [] (.slice none 0 0) (.slice none 0 0) := (ObjOwn.zero w 0).at
set_option maxHeartbeats 8000000 in
set_option maxRecDepth 100000 in
theorem begun17_any (w : World) : Calls Try.prog 5 #[] w fun e w' => e = .returned (.bool true) ∧ Below w.heap.size w w' := by
  have HMY : Hid (∀ L pv sv wx, ObjAt wx o17 L pv sv → Calls Try.prog 12 #[objV o17 pv sv] wx fun e w' => e = .returned (.int .i64 0) ∧ Below wx.heap.size wx w') := Lib.hid (fun L pv sv wx h => by have := may6_any o17 L pv sv wx h o17_ok; rwa [o17_may] at this)
  have HM0 : Hid (∀ wx, Calls Try.prog 12 #[.agg objZ] wx fun e w' => e = .returned (.int .i64 11) ∧ Below wx.heap.size wx w') := Lib.hid (fun wx => by have := may6_any objNo [] _ _ wx (objNo_at wx) objNo_ok; rwa [obj0_may] at this)
  have HFI : Hid (∀ L pv sv wx, ObjAt wx o17 L pv sv → Calls Try.prog 8 #[objV o17 pv sv] wx fun e w' => (∃ a n c, e = .returned (.tuple #[.slice a n c, .int .i64 0]) ∧ Bs w' (.slice a n c) (fileB (elfO o17))) ∧ Below wx.heap.size wx w') := Lib.hid (fun L pv sv wx h1 => (file6_any o17 L pv sv wx h1 o17_ok).mono fun r w' ⟨v, h2, h3, h4⟩ => by
    rw [o17_file] at h2 h3
    obtain ⟨n, a, c, -, rfl, -, -⟩ := h3.shape
    exact ⟨⟨a, n, c, h2, h3.bs⟩, h4⟩)
  have HRD : Hid (∀ v wx, Bs wx v (fileB (elfO o17)) → Calls Try.prog 16 #[v] wx fun r w' => (∃ PL a1 c1 a2 c2, r = .returned (.tuple #[.agg #[.int .i64 3, .slice a1 1 c1, .slice a2 1 c2], .int .i64 0]) ∧ ObjAt w' o17 PL (.slice a1 1 c1) (.slice a2 1 c2)) ∧ Below wx.heap.size wx w') := Lib.hid (fun v wx h => (read6_any _ v wx o17_elf.2 h).mono fun r w' ⟨⟨PL, pv, sv, h1, h2⟩, h3⟩ => by
    rw [o17_read] at h1 h2
    have hl : PL.length = 1 := by have := congrArg List.length h2.parts; rw [List.length_map] at this; exact this.symm
    obtain ⟨n1, a1, c1, hn1, rfl, -, -⟩ := h2.po.shape
    obtain ⟨n2, a2, c2, hn2, rfl, -, -⟩ := h2.so.shape
    have e1 : n1 = 1 := hn1.out.trans hl
    have e2 : n2 = 1 := hn2.out.trans rfl
    subst e1 e2
    exact ⟨⟨PL, a1, c1, a2, c2, h1, h2.at⟩, h3⟩)
  have HDF : Hid (∀ L pv sv wx, ObjAt wx o17 L pv sv → Calls Try.prog 10 #[objV o17 pv sv] wx fun e w' => (∃ b o c, e = .returned (.slice (some ⟨b, o, none⟩) 1 c) ∧ w'.cell? ⟨b, o, none⟩ = some (.string ⟨#[102]⟩)) ∧ Below wx.heap.size wx w') := Lib.hid (fun L pv sv wx h => (defined6_any o17 L pv sv wx h (by decide)).mono fun r w' ⟨⟨a, n, c, h1, h2⟩, h3⟩ => by
    have hd : definedO o17.syms = [[102]] := by decide
    rw [hd] at h2
    obtain ⟨a', c', e1, -, -, h4⟩ := h2.rd.open []
    cases e1
    obtain ⟨b, off, rfl, h5⟩ := h4 0 (by decide)
    exact ⟨⟨b, off, c, h1, h5⟩, h3⟩)
  go_enter Try.func5, Try.ntmps5
  go_wp2_with (first
    | ((with_reducible show wpList _ _ _ (⟨some 7, _, _, _, _, _⟩ :: _) _ _); go_must (refine wpList_lit10 ?_; intro w1 hd1 hb1; have HD1 := Lib.hid hd1; have HB1 := Lib.hid hb1; clear hd1 hb1))
    | ((with_reducible show wpList _ _ _ (⟨some 9, _, _, _, _, _⟩ :: _) _ _); go_must (refine wpList_litPart (p := p17) rfl ?_; intro w2 hp2 hb2; have HP2 := Lib.hid hp2; have HD2 := Lib.hid (HD1.out.mono hb2); have HB2 := Lib.hid (HB1.out.trans (hb2.mono HB1.out.size)); clear hp2 hb2))
    | ((with_reducible show wpList _ _ _ (⟨some 11, _, _, _, _, _⟩ :: _) _ _); go_must (refine wpList_litSym (s := s17) rfl ?_; intro w3 hy3 hb3; have HO3 := Lib.hid (show ObjAt w3 o17 [(p17, Value.slice (some ⟨w.heap.size, 0, none⟩) 2 2, Value.slice none 0 0)] (.slice (some ⟨w1.heap.size, 0, none⟩) 1 1) (.slice (some ⟨w2.heap.size, 0, none⟩) 1 1) from ⟨rfl, HP2.out.mono hb3, (fun p hp => by rw [List.mem_singleton] at hp; subst hp; exact HD2.out.mono hb3), (fun p hp => by rw [List.mem_singleton] at hp; subst hp; exact RdR.nil _ _ _), hy3⟩); have HB3 := Lib.hid (HB2.out.trans (hb3.mono HB2.out.size)); clear hy3 hb3))
    | ((with_reducible show wpList _ _ _ (⟨some 1, .alloc _, _, _, _, _⟩ :: _) _ _); go_must (refine wpList_allocObj ?_; intro w4 hx4 hb4 hs4; have HX4 := Lib.hid hx4; have HB4 := Lib.hid hb4; clear hx4 hb4))
    | ((with_reducible show wpList _ _ _ (⟨none, .store _ (.tmp 1) _, _, _, _, _⟩ :: _) _ _); go_must (refine wpList_storeMade HX4.out rfl rfl (by kernel_rfl) rfl (by simp [Value.oneCell']) (Nat.le_refl _) (Nat.le_of_lt hs4) ?_; intro w5 hh5 hb5; have HX5 := Lib.hid hh5; have HO5 := Lib.hid (HO3.out.mono (HB4.out.trans hb5)); have HB5 := Lib.hid (HB3.out.trans ((HB4.out.trans hb5).mono HB3.out.size)); obtain ⟨c0, c1, c2⟩ := obj_box hh5; clear hh5 hb5))
    | (go_at_call 8; refine (HFI.out _ _ _ _ HO5.out).mono ?_; rintro e w6 ⟨⟨a6, n6, c6, rfl, ho6⟩, hb6⟩; have HF6 := Lib.hid ho6; have HX6 := Lib.hid (heap_below hb6 HX5.out); have HO6 := Lib.hid (HO5.out.mono hb6); have HB6 := Lib.hid (HB5.out.trans (hb6.mono HB5.out.size)); clear ho6 hb6)
    | (go_at_call 16; refine (HRD.out _ _ HF6.out).mono ?_; rintro e w7 ⟨⟨PL, a1, n1, a2, n2, rfl, ho7⟩, hb7⟩; have HQ7 := Lib.hid ho7; have HX7 := Lib.hid (heap_below hb7 HX6.out); have HO7 := Lib.hid (HO6.out.mono hb7); have HB7 := Lib.hid (HB6.out.trans (hb7.mono HB6.out.size)); clear ho7 hb7)
    | ((with_reducible show wpList _ _ _ (⟨some 4, .alloc _, _, _, _, _⟩ :: _) _ _); go_must (refine wpList_allocObj ?_; intro w8 hx8 hb8 hs8; have HY8 := Lib.hid hx8; have HB78 := Lib.hid hb8; clear hx8 hb8))
    | ((with_reducible show wpList _ _ _ (⟨none, .store _ (.tmp 4) _, _, _, _, _⟩ :: _) _ _); go_must (refine wpList_storeMade HY8.out rfl rfl (by kernel_rfl) rfl (by simp [Value.oneCell']) (Nat.le_refl _) (Nat.le_of_lt hs8) ?_; intro w9 hh9 hb9; have HY9 := Lib.hid hh9; have HX9 := Lib.hid (heap_below (HB78.out.trans hb9) HX7.out); have HO9 := Lib.hid (HO7.out.mono (HB78.out.trans hb9)); have HQ9 := Lib.hid (HQ7.out.mono (HB78.out.trans hb9)); have HB9 := Lib.hid (HB7.out.trans ((HB78.out.trans hb9).mono HB7.out.size)); obtain ⟨d0, d1, d2⟩ := obj_box hh9; clear hh9 hb9))
    | (go_at_call 10; refine (HDF.out _ _ _ _ HQ9.out).mono ?_; rintro e wA ⟨⟨bA, oA, cA, rfl, hcA⟩, hbA⟩; have HCA := Lib.hid hcA; have HOA := Lib.hid (HO9.out.mono hbA); have HXA := Lib.hid (heap_below hbA HX9.out); have HYA := Lib.hid (heap_below hbA HY9.out); have HBA := Lib.hid (HB9.out.trans (hbA.mono HB9.out.size)); obtain ⟨c0, c1, c2⟩ := obj_box HXA.out; clear hcA hbA)
    | (go_at_call 12; (with_reducible refine (HM0.out _).mono ?_); rintro e wC ⟨rfl, hbC⟩; have HCC := Lib.hid ((hbC.cell (block_lt HCB.out)).trans HCB.out); have HBC := Lib.hid (HBB.out.trans (hbC.mono HBB.out.size)); obtain ⟨d0, d1, d2⟩ := obj_box (heap_below hbC HYB.out); have e0 := HCC.out; clear hbC)
    | (go_at_call 12; refine (HMY.out _ _ _ _ HOA.out).mono ?_; rintro e wB ⟨rfl, hbB⟩; have HCB := Lib.hid ((hbB.cell (block_lt HCA.out)).trans HCA.out); have HYB := Lib.hid (heap_below hbB HYA.out); have HBB := Lib.hid (HBA.out.trans (hbB.mono HBA.out.size)); clear hbB))
  go_ret
  exact ⟨rfl, HBC.out⟩
end Go.Proofs.Ytimnbnomaajmmaa
namespace Go.Proofs.Ytimnbnomaajmmaa
open Go.RowKit Go.Fd
theorem nat_beq {a b : Nat} : ((a : Int) == (b : Int)) = decide (a = b) := by
  rw [Bool.eq_iff_iff, beq_iff_eq, decide_eq_true_iff]; omega
theorem nat_bne {a b : Nat} : ((a : Int) != (b : Int)) = !decide (a = b) := by
  rw [bne, nat_beq]
theorem zbeq {a : Nat} {b : Nat} {c : Int} (hc : c = (b : Int)) : ((a : Int) == c) = decide (a = b) := by subst hc; exact nat_beq
theorem zbne {a : Nat} {b : Nat} {c : Int} (hc : c = (b : Int)) : ((a : Int) != c) = !decide (a = b) := by subst hc; exact nat_bne
theorem u64_sub' {a b : Nat} (h : b ≤ a) (ha : a < 18446744073709551616) : IntKind.u64.wrap ((a : Int) - (b : Int)) = ((a - b : Nat) : Int) := by
  simp [IntKind.wrap, IntKind.bits, IntKind.signed]; omega
theorem and_self2 {n : Nat} (h : n ≠ 0) (h2 : n < 18446744073709551616) : (bits .and .u64 (n : Int) ((n : Int) - 1) == 0) = pow2B n := by
  have e : (n : Int) - 1 = ((n - 1 : Nat) : Int) := by omega
  rw [e, bits_and_u64_nat n (n - 1) (by omega) (by omega)]
  unfold pow2B
  rw [decide_eq_false h, Bool.eq_iff_iff]
  simp only [beq_iff_eq, Bool.and_eq_true, decide_eq_true_eq, Bool.not_false, true_and]
  omega
set_option maxRecDepth 100000 in
theorem wPower_any (n : Nat) (w : World) (hn : n < 18446744073709551616) : Calls Try.prog 97 #[U6 n] w fun r w' => r = .returned (.bool (pow2B n)) ∧ w = w' := by
  rcases Nat.eq_zero_or_pos n with rfl | hp
  · go_enter Try.func97, Try.ntmps97
    go_wp2
    go_ret
    exact ⟨rfl, rfl⟩
  · have HR := Lib.hid (and_self2 (by omega : n ≠ 0) hn)
    have h1 : ((n : Int) != 0) = true := by rw [zbne (a := n) (b := 0) (c := 0) rfl, decide_eq_false (by omega)]; rfl
    have h2 : 1 ≤ n := hp
    have h3 : IntKind.u64.wrap ((n : Int) - 1) = (n : Int) - 1 := by simp [IntKind.wrap, IntKind.bits, IntKind.signed]; omega
    have HX := Lib.hid hn
    clear hn hp
    go_enter Try.func97, Try.ntmps97
    go_wp2
    go_ret
    exact ⟨by rw [HR.out]; rfl, rfl⟩
theorem sec6 {s : WSec} {w : World} {g : Nat} {fr : Nat × Nat} {t : TypeId} (h : w.heap[g]? = some (.cells (encWS s).toArray t fr)) : w.cell? ⟨g, 0, none⟩ = some (U6 s.name) ∧ w.cell? ⟨g, 1, none⟩ = some (U6 s.typ) ∧ w.cell? ⟨g, 2, none⟩ = some (U6 s.addr) ∧ w.cell? ⟨g, 3, none⟩ = some (U6 s.align) ∧ w.cell? ⟨g, 4, none⟩ = some (U6 s.pl) ∧ w.cell? ⟨g, 5, none⟩ = some (U6 s.size) :=
  ⟨cell_rec h 0, cell_rec h 1, cell_rec h 2, cell_rec h 3, cell_rec h 4, cell_rec h 5⟩
theorem seg8 {s : WSeg} {w : World} {g : Nat} {fr : Nat × Nat} {t : TypeId} (h : w.heap[g]? = some (.cells (encWG s).toArray t fr)) : w.cell? ⟨g, 0, none⟩ = some (U6 s.typ) ∧ w.cell? ⟨g, 1, none⟩ = some (U6 s.flags) ∧ w.cell? ⟨g, 2, none⟩ = some (U6 s.off) ∧ w.cell? ⟨g, 3, none⟩ = some (U6 s.align) ∧ w.cell? ⟨g, 4, none⟩ = some (U6 s.pl) ∧ w.cell? ⟨g, 5, none⟩ = some (U6 s.psize) ∧ w.cell? ⟨g, 6, none⟩ = some (U6 s.mem) ∧ w.cell? ⟨g, 7, none⟩ = some (U6 s.msize) :=
  ⟨cell_rec h 0, cell_rec h 1, cell_rec h 2, cell_rec h 3, cell_rec h 4, cell_rec h 5, cell_rec h 6, cell_rec h 7⟩
theorem spn2 {a s : Nat} {w : World} {g : Nat} {fr : Nat × Nat} {t : TypeId} (h : w.heap[g]? = some (.cells #[U6 a, U6 s] t fr)) : w.cell? ⟨g, 0, none⟩ = some (U6 a) ∧ w.cell? ⟨g, 1, none⟩ = some (U6 s) :=
  ⟨cell_rec h 0, cell_rec h 1⟩
set_option maxRecDepth 100000 in
theorem wFull_any (s : WSec) (w : World) : Calls Try.prog 96 #[.agg (encWS s).toArray] w fun r w' => r = .returned (.bool (fullB s)) ∧ Below w.heap.size w w' := by
  have HR : Hid (fullB s = (!decide (s.typ = 0) && !decide (s.typ = 8))) := rfl
  have h1 : ((s.typ : Int) != 0) = !decide (s.typ = 0) := zbne rfl
  have h2 : ((s.typ : Int) != 8) = !decide (s.typ = 8) := zbne rfl
  obtain ⟨n, t, d, al, p, z⟩ := s
  dsimp only at h1 h2 HR
  generalize decide (t = 0) = q0 at *
  generalize decide (t = 8) = q8 at *
  cases q0 <;> cases q8
  all_goals
    simp only [Bool.not_true, Bool.not_false] at h1 h2
    go_enter Try.func96, Try.ntmps96
    go_wp2_with ((with_reducible show wpList _ _ _ (⟨some 1, .box _ _, _, _, _, _⟩ :: _) _ _); go_must (refine wpList_box rfl ?_; intro w1 hx1 hb1 hs1; have HX1 := Lib.hid hx1; have HB1 := Lib.hid hb1; clear hx1 hb1; obtain ⟨c0, c1, c2, c3, c4, c5⟩ := sec6 (s := ⟨n, t, d, al, p, z⟩) HX1.out; dsimp only at c0 c1 c2 c3 c4 c5))
    go_ret
    exact ⟨by rw [HR.out]; rfl, HB1.out⟩
set_option maxRecDepth 100000 in
theorem wWithin_any (a s n : Nat) (w : World) (ha : a < 18446744073709551616) (_hs : s < 18446744073709551616) (hn : n ≤ 1000000000) : Calls Try.prog 95 #[.agg #[U6 a, U6 s], .int .i64 n] w fun r w' => r = .returned (.bool (withinB a s n)) ∧ Below w.heap.size w w' := by
  have HR : Hid (withinB a s n = (decide (s = 0) || (decide (a ≤ n) && decide (s ≤ n - a)))) := rfl
  have h1 : ((s : Int) == 0) = decide (s = 0) := zbeq rfl
  have h2 : decide ((a : Int) ≤ (n : Int)) = decide (a ≤ n) := by simp
  by_cases h3 : a ≤ n
  · have h4 : IntKind.u64.wrap ((n : Int) - (a : Int)) = ((n - a : Nat) : Int) := u64_sub' h3 (by omega)
    have h6 : (n : Int) - (a : Int) = ((n - a : Nat) : Int) := by omega
    rw [decide_eq_true h3] at h2 HR
    have HX := Lib.hid ha
    clear ha
    generalize decide (s = 0) = q0 at *
    cases q0
    all_goals
      go_enter Try.func95, Try.ntmps95
      go_wp2_with ((with_reducible show wpList _ _ _ (⟨some 2, .box _ _, _, _, _, _⟩ :: _) _ _); go_must (refine wpList_box rfl ?_; intro w1 hx1 hb1 hs1; have HX1 := Lib.hid hx1; have HB1 := Lib.hid hb1; clear hx1 hb1; obtain ⟨c0, c1⟩ := spn2 HX1.out))
      go_ret
      exact ⟨by rw [HR.out]; rfl, HB1.out⟩
  · rw [decide_eq_false h3] at h2 HR
    have HX := Lib.hid ha
    clear ha
    generalize decide (s = 0) = q0 at *
    cases q0
    all_goals
      go_enter Try.func95, Try.ntmps95
      go_wp2_with ((with_reducible show wpList _ _ _ (⟨some 2, .box _ _, _, _, _, _⟩ :: _) _ _); go_must (refine wpList_box rfl ?_; intro w1 hx1 hb1 hs1; have HX1 := Lib.hid hx1; have HB1 := Lib.hid hb1; clear hx1 hb1; obtain ⟨c0, c1⟩ := spn2 HX1.out))
      go_ret
      exact ⟨by rw [HR.out]; rfl, HB1.out⟩
end Go.Proofs.Ytimnbnomaajmmaa
