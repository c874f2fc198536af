/-
  Part 7 of 8: laws and walks for objectReads_holds; no condition of its own.
-/
import Derived.Test.YtimnbnomaajmmaaGreatOr6
namespace Go.Proofs.YtimnbnomaajmmaaGreat
open Go.RowKit Go.Fd
theorem symW_len {l : List SymM} (hl : l.length ≤ 1000) : (symW l).1.length ≤ 24024 ∧ (symW l).2.1.length ≤ 129001 ∧ (symW l).2.2.1 ≤ 1001 := by
  by_cases h : symE l = 0
  · obtain ⟨-, h2, h3⟩ := symE_0 h
    rw [h3]
    dsimp only
    obtain ⟨h4, h5⟩ := build_ok h2
    have h6 := buildT_len (l.map (·.name)) fun s hs => by have := List.all_eq_true.1 h4 s hs; unfold mayS at this; simp at this; exact this.1
    have h7 : (l.zip (buildR (l.map (·.name))).2.1).length ≤ l.length := by rw [List.length_zip]; omega
    refine ⟨?_, ?_, ?_⟩
    · unfold symsB
      rw [List.length_append, List.length_replicate, flatz_len]
      omega
    · rw [h5]
      have := h6.1
      rw [List.length_map] at this
      show (buildT (l.map (·.name))).tab.length ≤ _
      omega
    · have := List.countP_le_length (p := fun s : SymM => decide (s.bind = 0)) (l := l)
      unfold locs
      omega
  · rw [symW_E h]
    dsimp only
    refine ⟨by simp, by simp, by omega⟩
theorem relaW_len {l : List RelaM} (hl : l.length ≤ 1000) : (relaW l).1.length ≤ 24000 := by
  unfold relaW
  split
  · simp
  · show (l.flatMap relaB).length ≤ _
    rw [rela_len]
    omega
theorem name_short {o : ObjM} (h : MayO o) : ∀ p ∈ o.parts, p.name.length ≤ 128 := fun p hp => by
  have h1 := (partE_0 ((partsE_0 _ _ h.parts).1 p hp)).1
  rw [named_may] at h1
  simp only [Bool.and_eq_true] at h1
  exact mayS_len h1.1.1.1.1.1
theorem elfO_data {o : ObjM} (ho : ObjOk o) (h : MayO o) : ∀ s ∈ (elfO o).secs, s.data.length ≤ 4194304 ∧ s.name.length ≤ 133 := by
  intro s hs
  have hs' : s ∈ o.parts.map secPart ++ relSecs (symtabNo o) 0 o.parts ++ [symSec o, strSec o] := hs
  have h9 := symW_len ho.wf.many
  rw [List.mem_append, List.mem_append] at hs'
  rcases hs' with (hs' | hs') | hs'
  · obtain ⟨p, hp, rfl⟩ := List.mem_map.1 hs'
    have h1 := ho.data p hp
    have h2 := name_short h p hp
    exact ⟨by show p.data.length ≤ _; omega, by show p.name.length ≤ _; omega⟩
  · obtain ⟨p, hp, j, hj, rfl⟩ := relSecs_mem _ _ hs'
    have h1 := relaW_len (ho.wf.relas p hp).1
    have h2 := name_short h p hp
    refine ⟨by show (relaW p.relas).1.length ≤ _; omega, ?_⟩
    show (relaN ++ p.name).length ≤ _
    rw [List.length_append, show relaN.length = 5 from rfl]
    omega
  · rcases List.mem_cons.1 hs' with rfl | hs'
    · exact ⟨by show (symW o.syms).1.length ≤ _; omega, by show symtabN.length ≤ _; decide⟩
    · rcases List.mem_singleton.1 hs' with rfl
      exact ⟨by show (symW o.syms).2.1.length ≤ _; omega, by show strtabN.length ≤ _; decide⟩
theorem relSecs_len (st : Nat) : ∀ (ps : List PartM) (i : Nat), (relSecs st i ps).length ≤ ps.length := by
  intro ps
  induction ps with
  | nil => intro i; simp [relSecs]
  | cons p ps ih =>
    intro i
    have := ih (i + 1)
    rw [relSecs]
    split
    · rw [List.length_cons, List.length_cons]; omega
    · rw [List.length_cons]; omega
theorem elfO_ok {o : ObjM} (ho : ObjOk o) (h : MayO o) : ElfOk (elfO o) := by
  have hd := elfO_data ho h
  have hl : (elfO o).secs.length ≤ 202 := by
    have h1 := relSecs_len (symtabNo o) o.parts 0
    have h2 := h.many.1
    show (o.parts.map secPart ++ relSecs (symtabNo o) 0 o.parts ++ [symSec o, strSec o]).length ≤ _
    rw [List.length_append, List.length_append, List.length_map]
    simp only [List.length_cons, List.length_nil]
    omega
  refine ⟨elfO_fits' ho.wf h (fun s hs => (hd s hs).1), ?_, fun s hs => by have := (hd s hs).2; omega, by omega, by show (0 : Nat) ≤ _; omega⟩
  have := dsum_le (fun s hs => (hd s hs).1)
  have h2 : (elfO o).secs.length * 4194304 ≤ 202 * 4194304 := Nat.mul_le_mul_right _ hl
  omega
theorem relSecs_snoc (st : Nat) (p : PartM) : ∀ (l : List PartM) (i : Nat), relSecs st i (l ++ [p]) = relSecs st i l ++ (if hasRel p then [relSec st (i + l.length) p] else []) := by
  intro l
  induction l with
  | nil => intro i; simp [relSecs]
  | cons x l ih =>
    intro i
    rw [List.cons_append, relSecs, relSecs, ih, List.length_cons, show i + 1 + l.length = i + (l.length + 1) by omega]
    split <;> simp
theorem count_take {ps : List PartM} {k : Nat} {p : PartM} (h : ps[k]? = some p) : (ps.take (k + 1)).countP hasRel = (ps.take k).countP hasRel + (if hasRel p then 1 else 0) := by
  rw [List.take_add_one, h]
  simp [List.countP_append, List.countP_cons]
/-- The parts' sections with their bytes, so many. -/
def secsK (L : List (PartM × Value × Value)) (k : Nat) : List (SecM × Value) := (L.take k).map fun x => (secPart x.1, x.2.1)
theorem secsK_succ {L : List (PartM × Value × Value)} {k : Nat} {x : PartM × Value × Value} (h : L[k]? = some x) : secsK L (k + 1) = secsK L k ++ [(secPart x.1, x.2.1)] := by
  unfold secsK
  rw [List.take_add_one, h]
  simp
theorem secsK_len {L : List (PartM × Value × Value)} {k : Nat} (h : k ≤ L.length) : (secsK L k).length = k := by
  unfold secsK
  rw [List.length_map, List.length_take]
  omega
theorem secsK_end (L : List (PartM × Value × Value)) : (secsK L L.length).map (·.1) = (L.map (·.1)).map secPart := by
  unfold secsK
  rw [List.take_length, List.map_map, List.map_map]
  rfl
/-- While a module's file is made: the file stands in block g, the module in block b. -/
structure FilInv (w wr : World) (g b : Nat) (hd : List Value) (bx : Array Value) (sv : Value) (T : List (SecM × Value)) : Prop where
  blk : wr.heap[g]? = some (.cells (hd ++ [sv, .slice none 0 0]).toArray 51 (0, 0))
  box : wr.heap[b]? = some (.cells bx 28 (0, 0))
  so : OwR 10 encSec 60 wr w.heap.size sv T
  data : ∀ p ∈ T, Bs w p.2 p.1.data ∨ OB wr w.heap.size p.2 p.1.data
  below : Below w.heap.size w wr
  hg : w.heap.size ≤ g
theorem FilInv.mono {w wr w' : World} {g b : Nat} {hd : List Value} {bx : Array Value} {sv : Value} {T : List (SecM × Value)} (h : FilInv w wr g b hd bx sv T) (hb : Below wr.heap.size wr w') : FilInv w w' g b hd bx sv T :=
  ⟨heap_below hb h.blk, heap_below hb h.box, h.so.mono hb, fun p hp => (h.data p hp).imp id fun h => h.mono hb, h.below.trans (hb.mono h.below.size), h.hg⟩
theorem FilInv.bs {w wr : World} {g b : Nat} {hd : List Value} {bx : Array Value} {sv : Value} {T : List (SecM × Value)} (h : FilInv w wr g b hd bx sv T) : ∀ p ∈ T, Bs wr p.2 p.1.data := fun p hp => by
  rcases h.data p hp with h1 | h1
  · exact h1.mono h.below
  · exact h1.bs
/-- A section more. -/
theorem FilInv.push {w wr w1 w2 : World} {g b : Nat} {hd : List Value} {bx : Array Value} {sv sv' dv : Value} {L : List (SecM × Value)} {s : SecM} (h : FilInv w wr g b hd bx sv L) (hdl : hd.length = 4) (ho : OwR 10 encSec 60 w1 w.heap.size sv' (L ++ [(s, dv)])) (hgr : wr.grownBy w1 sv.ownBlock) (hd0 : Bs w dv s.data ∨ OB wr w.heap.size dv s.data)
    (hb : w2.heap[g]? = some (.cells ((hd ++ [sv, .slice none 0 0]).toArray.setIfInBounds 4 sv') 51 (0, 0))) (hs : Stirs (fun k => k = g) w1 w2) : FilInv w w2 g b hd bx sv' (L ++ [(s, dv)]) := by
  have hk := keeps_own h.so hgr
  have hB : Below w.heap.size w w1 := h.below.trans (below_of_grown hgr h.below.size fun k hk => (World.ownsRow.lt h.so k hk).1)
  have hblk := hk _ _ _ _ (show 51 ≠ 60 by decide) h.blk
  have hbox := hk _ _ _ _ (show 28 ≠ 60 by decide) h.box
  have hne : ¬ b = g := fun e => by
    have h1 := h.blk
    rw [← e, h.box] at h1
    injection h1 with h1
    injection h1 with _ h1 _
    exact absurd h1 (by decide)
  refine ⟨?_, hs.kept hbox hne, owns_stirs ho hs (own_ne ho hblk (by decide)), fun p hp => ?_, hB.trans (hs.below hB.size fun k hk => by rw [hk]; exact h.hg), h.hg⟩
  · rw [hb]
    match hd, hdl with
    | [a, b, c, d], _ => rfl
  · have h0 : Bs w p.2 p.1.data ∨ OB wr w.heap.size p.2 p.1.data := by
      rcases List.mem_append.1 hp with hp | hp
      · exact h.data p hp
      · rw [List.mem_singleton] at hp
        rw [hp]
        exact hd0
    refine h0.imp id fun h0 => ?_
    have h1 := owns_grown h0 hgr (fun k hk hk2 => own_apart h0 h.so (by decide) hk hk2)
    exact owns_stirs h1 hs (own_ne h1 hblk (by decide))
/-- What else stands stays. -/
theorem FilInv.keeps {w wr w1 w2 : World} {g b : Nat} {hd : List Value} {bx : Array Value} {sv : Value} {L : List (SecM × Value)} (h : FilInv w wr g b hd bx sv L) (hgr : wr.grownBy w1 sv.ownBlock) (hs : Stirs (fun k => k = g) w1 w2) {c : Nat} {cs : Array Value} {t : TypeId} {fr : Nat × Nat} (hc : wr.heap[c]? = some (.cells cs t fr)) (h1 : t ≠ 60) (h2 : t ≠ 51) : w2.heap[c]? = some (.cells cs t fr) := by
  refine hs.kept (keeps_own h.so hgr _ _ _ _ h1 hc) fun e => ?_
  have h3 := h.blk
  rw [← e, hc] at h3
  injection h3 with h3
  injection h3 with _ h3 _
  exact h2 h3
end Go.Proofs.YtimnbnomaajmmaaGreat
namespace Go.Proofs.YtimnbnomaajmmaaGreat
open Go.RowKit Go.Fd
theorem u64W {n : Nat} (h : n ≤ 1000000000) : IntKind.u64.wrap (n : Int) = (n : Int) := by
  have := u64of_cast (n : Int)
  rw [this, u64of_pos (by omega) (by omega)]
  simp
theorem u32W {n : Nat} (h : n ≤ 1000000000) : IntKind.u32.wrap (n : Int) = (n : Int) := by
  simp [IntKind.wrap, IntKind.bits, IntKind.signed]
  omega
attribute [local irreducible] mayO fileO
set_option maxHeartbeats 16000000 in
set_option maxRecDepth 100000 in
theorem file6_any (o : ObjM) (L : List (PartM × Value × Value)) (pv sv : Value) (w : World) (h : ObjAt w o L pv sv) (ho : ObjOk o) :
    Calls Tryz.prog 11 #[objV o pv sv] w fun e w' => ∃ v, e = .returned (.tuple #[v, .int .i64 (fileO o).2]) ∧ OB w' w.heap.size v (fileO o).1 ∧ Below w.heap.size w w' := by
  have HMY := Lib.hid (fun wx (hb : Below w.heap.size w wx) => may6_any o L pv sv wx (h.mono hb) ho)
  have HSW := Lib.hid (fun wx (hb : Below w.heap.size w wx) => symsWrite_any o.syms _ wx ho.wf.many ho.wf.syms (h.syms.mono hb))
  have HEW := Lib.hid (fun (T : List (SecM × Value)) ev gv wx (hx : ElfAt wx (elfO o) T ev gv) (hm : MayO o) => writeE_any (elfO o) T ev gv wx hx (elfO_ok ho hm))
  have HH := Lib.hid h
  obtain ⟨pa, pc, rfl, hpc, -, hP⟩ := h.rd.open (fun _ => rfl)
  obtain ⟨sa, sc, rfl, hsc, -, hS⟩ := h.syms.open (fun _ => rfl)
  have HP := Lib.hid hP
  have hpl : o.parts.length = L.length := by rw [h.parts, List.length_map]
  have HFO : Hid (fileO o = if mayO o ≠ 0 then ([], mayO o) else if mayE (elfO o) = true then (fileB (elfO o), 0) else ([], 6)) := by unfold fileO; rfl
  have HFW : Hid (fileW (elfO o) = if mayE (elfO o) = true then (fileB (elfO o), 0) else ([], 1)) := rfl
  have HM0 := Lib.hid (mayO_0 (o := o))
  generalize hmo : mayO o = mo at *
  by_cases hm0 : mo = 0
  case neg =>
    have HR := Lib.hid (show fileO o = ([], mo) by rw [HFO.out, if_pos hm0])
    have hmb : (mo != 0) = true := bne_iff_ne.2 hm0
    clear hm0 HFO hmo HM0
    go_enter Tryz.func11, Tryz.ntmps11
    go_wp2_with (first
      | ((with_reducible show wpList _ _ _ (⟨some 1, .box _ _, _, _, _, _⟩ :: _) _ _); go_must (refine wpList_box rfl ?_; intro w1 hx1 hb1 hs1; have HX1 := Lib.hid hx1; have HB1 := Lib.hid hb1; obtain ⟨c0, c1, c2⟩ := obj_box hx1; clear hx1 hb1))
      | (go_at_call 13; refine (HMY.out _ HB1.out).mono ?_; rintro e w2 ⟨rfl, hb2⟩; have HB2 := Lib.hid (HB1.out.trans (hb2.mono HB1.out.size)); clear hb2))
    go_ret2
    exact ⟨_, by rw [HR.out]; rfl, by rw [HR.out]; exact OB.nil _ _, HB2.out⟩
  subst hm0
  have HMO := Lib.hid (HM0.out rfl)
  have HFI : Hid (fileO o = if mayE (elfO o) = true then (fileB (elfO o), 0) else ([], 6)) := by
    have := HFO.out
    rwa [if_neg (by simp)] at this
  clear HFO HM0 hmo
  have hm9 := HMO.out.many
  rw [hpl] at hm9
  obtain ⟨np, hnp⟩ : ∃ n, n = L.length := ⟨_, rfl⟩
  rw [← hnp] at hm9 hpc HMY HH ⊢
  have hnp9 := hm9.1
  have HNP := Lib.hid hnp
  have HOK := Lib.hid ho
  have HL := Lib.hid h.parts
  obtain ⟨rc, hrc⟩ : ∃ n, n = o.parts.countP hasRel := ⟨_, rfl⟩
  have HRC := Lib.hid hrc
  have hrc9 : rc ≤ 100 := by
    have := List.countP_le_length (p := hasRel) (l := o.parts)
    omega
  have HST : Hid (symtabNo o = np + rc + 1) := by
    unfold Hid symtabNo
    rw [hrc, hpl, hnp]
  obtain ⟨fl, hfl⟩ : ∃ fl : Nat, fl = if o.target = 3 then 1 else 0 := ⟨_, rfl⟩
  have HELF : Hid (elfO o = ⟨1, o.target, fl, 0, o.parts.map secPart ++ relSecs (symtabNo o) 0 o.parts ++ [symSec o, strSec o], []⟩) := by rw [hfl]; exact rfl
  have hfl2 : (o.target = 3 ∧ fl = 1) ∨ (¬ o.target = 3 ∧ fl = 0) := by
    by_cases h3 : o.target = 3
    · exact .inl ⟨h3, by rw [hfl, if_pos h3]⟩
    · exact .inr ⟨h3, by rw [hfl, if_neg h3]⟩
  clear hfl h hP hS hpl hnp ho hrc hm9
  rcases hfl2 with ⟨ht3, hfl⟩ | ⟨ht3, hfl⟩
  case' inl => have t3 : (o.target == 3) = true := by simpa using ht3
  case' inr => have t3 : (o.target == 3) = false := by simpa using ht3
  all_goals clear ht3
  all_goals have HFL := Lib.hid hfl
  all_goals clear hfl
  all_goals go_enter Tryz.func11, Tryz.ntmps11
  all_goals go_wp2_with (first
    | ((with_reducible show wpList _ _ _ (⟨some 1, .box _ _, _, _, _, _⟩ :: _) _ _); go_must (refine wpList_box rfl ?_; intro w1 hx1 hb1 hs1; have HX1 := Lib.hid hx1; have HB1 := Lib.hid hb1; obtain ⟨c0, c1, c2⟩ := obj_box hx1; clear hx1 hb1))
    | (go_at_call 13; refine (HMY.out _ HB1.out).mono ?_; rintro e w2 ⟨rfl, hb2⟩; have hs12 := hb2.size; have HX2 := Lib.hid (heap_below hb2 HX1.out); have HB2 := Lib.hid (HB1.out.trans (hb2.mono HB1.out.size)); obtain ⟨c0, c1, c2⟩ := obj_box HX2.out; clear hb2)
    | ((with_reducible show wpList _ _ _ (⟨some 5, .alloc _, _, _, _, _⟩ :: _) _ _); go_must (refine wpList_allocElf ?_; intro w3 hx3 hb3 hs3; have HE3 := Lib.hid hx3; have HX3 := Lib.hid (heap_below hb3 HX2.out); have HB3 := Lib.hid (HB2.out.trans (hb3.mono HB2.out.size)); obtain ⟨c0, c1, c2⟩ := obj_box HX3.out; clear hx3 hb3))
    | ((with_reducible show wpList _ _ _ (⟨none, .store _ (.tmp 5) _, _, _, _, _⟩ :: _) _ _); go_must (refine wpList_storeElf HE3.out rfl rfl rfl rfl (by simp [Value.oneCell']) (Nat.le_refl _) (Nat.le_of_lt hs3) ?_; intro w4 hh4 hb4; have HE4 := Lib.hid hh4; have HX4 := Lib.hid (heap_base hb4 HX3.out (by omega)); have HB4 := Lib.hid (HB3.out.trans (hb4.mono HB2.out.size)); obtain ⟨c0, c1, c2⟩ := obj_box HX4.out; obtain ⟨z0, z1, z2, z3, z4, z5⟩ := elf_box (e := ⟨1, o.target, 0, 0, [], []⟩) HE4.out; have hsz4 : w2.heap.size ≤ w4.heap.size := Nat.le_trans (Nat.le_of_lt hs3) hb4.size; clear hh4 hb4))
    | ((with_reducible show wpList _ _ _ (⟨none, .store _ (.tmp 31) _, _, _, _, _⟩ :: _) _ _); go_must (refine wpList_setN HE4.out (show 2 < 6 by decide) rfl rfl (Nat.le_refl _) hsz4 (fun w => by kernel_rfl) ?_; intro w5 hh5 hb5 hs5; have HE5 := Lib.hid (show w5.heap[w2.heap.size]? = some (.cells #[.int .i64 1, .int .i64 o.target, .int .u32 1, .int .u64 0, .slice none 0 0, .slice none 0 0] 51 (0, 0)) from hh5); have HX5 := Lib.hid (heap_base hb5 HX4.out (by omega)); have HB5 := Lib.hid (HB4.out.trans (hb5.mono HB2.out.size)); obtain ⟨c0, c1, c2⟩ := obj_box HX5.out; clear hh5 hb5)))
  all_goals first
    | have HI := Lib.hid (show FilInv w w5 w2.heap.size w.heap.size [.int .i64 1, .int .i64 o.target, .int .u32 (fl : Int), .int .u64 0] #[.int .i64 o.target, .slice pa np pc, .slice sa o.syms.length sc] (.slice none 0 0) [] from ⟨by rw [HFL.out]; exact HE5.out, HX5.out, OwR.nil _ _ _ _ _, (fun p hp => by cases hp), HB5.out, HB2.out.size⟩)
    | have HI := Lib.hid (show FilInv w w4 w2.heap.size w.heap.size [.int .i64 1, .int .i64 o.target, .int .u32 (fl : Int), .int .u64 0] #[.int .i64 o.target, .slice pa np pc, .slice sa o.syms.length sc] (.slice none 0 0) [] from ⟨by rw [HFL.out]; exact HE4.out, HX4.out, OwR.nil _ _ _ _ _, (fun p hp => by cases hp), HB4.out, HB2.out.size⟩)
  all_goals (
    have HG2 := HB2.out.size
    clear HMY t3
    go_loopw [6, 35] (fun x i wr => ∃ (k : Nat) (sq : Option Addr) (sn sr : Nat), x = .int .i64 (((o.parts.take k).countP hasRel : Nat) : Int) ∧ i = .int .i64 k ∧ k ≤ np ∧ Hid (FilInv w wr w2.heap.size w.heap.size [.int .i64 1, .int .i64 o.target, .int .u32 (fl : Int), .int .u64 0] #[.int .i64 o.target, .slice pa np pc, .slice sa o.syms.length sc] (.slice sq sn sr) (secsK L k))) (fun _ i _ => np - (intOf i).toNat)
    case atStart => exact ⟨0, none, 0, 0, by rw [List.take_zero]; rfl, rfl, Nat.zero_le _, HI.out⟩
    case round =>
      obtain ⟨k, sq, sn, sr, rfl, rfl, hk, HIr⟩ := hrel
      have hbs := HIr.out.below.size
      by_cases hlt : k < np
      · obtain ⟨x, hx⟩ : ∃ x, L[k]? = some x := ⟨_, List.getElem?_eq_getElem (by have := HNP.out; omega)⟩
        obtain ⟨b, oo, rfl, e0, e1, e2, e3, e4, e5, hb0⟩ := part_cells HP.out HIr.out.below hx
        have hxp : o.parts[k]? = some x.1 := by rw [HL.out, List.getElem?_map, hx]; rfl
        have HCT := Lib.hid (count_take hxp)
        have hc9 : (o.parts.take k).countP hasRel ≤ 100 := by
          have h1 := List.countP_le_length (p := hasRel) (l := o.parts.take k)
          rw [List.length_take] at h1
          omega
        have HSK := Lib.hid (secsK_succ hx)
        have HSL := Lib.hid (secsK_len (L := L) (k := k) (by have := HNP.out; omega))
        have HDB := Lib.hid (HH.out.data x (List.mem_of_getElem? hx))
        have HDS : Hid (Bs w x.2.1 (secPart x.1).data) := HDB
        have HSEC := Lib.hid (fun wx (hb : Below w.heap.size w wx) => section6_any x.1 x.2.1 x.2.2 wx (HDB.out.mono hb))
        have HHR : Hid (hasRel x.1 = decide (x.1.relas ≠ [])) := rfl
        obtain ⟨md, ad, cd, -, hdv, -, -⟩ := HDB.out.shape
        obtain ⟨mr, ar, cr, hmr, hrv, -, -⟩ := (HH.out.rela x (List.mem_of_getElem? hx)).shape
        generalize (o.parts.take k).countP hasRel = cn at *
        obtain ⟨⟨name, flags, align, size, data, relas⟩, dv, rv⟩ := x
        dsimp only at *
        subst hdv hrv
        clear hx hxp
        generalize hasRel ⟨name, flags, align, size, data, relas⟩ = hr at *
        generalize secPart ⟨name, flags, align, size, data, relas⟩ = sp at *
        go_wp2_with (first
          | ((with_reducible show wpList _ _ _ (⟨none, .store _ (.tmp 8) _, _, _, _, _⟩ :: _) _ _); go_must (refine wpList_storeNew rfl rfl (by kernel_rfl) rfl (by simp [Value.oneCell']) ?_; intro w6 hh6 hb6; have HH6 := Lib.hid hh6; have HI6 := Lib.hid (HIr.out.mono hb6); obtain ⟨d0, d1, d2, d3, d4, d5⟩ := part_box (x := (⟨name, flags, align, size, data, relas⟩, .slice ad md cd, .slice ar mr cr)) hh6; clear hh6 hb6)))
        have z4 : w6.cell? ⟨w2.heap.size, 4, none⟩ = some (.slice sq sn sr) := cell_rec HI6.out.blk 4
        have hAB := fun (x : Above w6) (b k : Nat) (h : b < w6.heap.size) => Above.cell x b k h
        have l0 := block_lt z4
        have l1 := block_lt d0
        refine wp_region_walk 5 [(3, .is (secV (sp, .slice ad md cd))), (4, Yld.one w6.heap.size 60 (encSec (sp, .slice ad md cd)).toArray)] (by kernel_rfl) (by kernel_rfl) ?_
        simp only [List.take_succ_cons, List.take_zero, List.drop_succ_cons, List.drop_zero]
        repeat (refine walk_quiet rfl rfl rfl ?_; intro K hK; go_big_quiet_op; go_big_quiet_on)
        refine walk_is rfl rfl (fun wx hwx _ => WpYld.callIsB (run_callL (vals := [_]) Tryz.func21 (by kernel_rfl) rfl rfl) (HSEC.out wx (HI6.out.below.trans (hwx.mono HI6.out.below.size)))) ?_
        go_frame
        refine walk_one rfl rfl (fun wx hwx _ => WpYld.val (run_oneSec rfl) (Yld.one_mk _ hwx).1 (Yld.one_mk _ hwx).2) (fun gb => ?_)
        go_frame
        refine walk_nil ?_
        intro wz hbz hF
        obtain ⟨hgb, hgo⟩ := Yld.one_got (hF 4 _ 43 _ rfl rfl rfl rfl)
        have HGB := Lib.hid hgo
        have HIZ := Lib.hid (HI6.out.mono hbz)
        have HHZ := Lib.hid (heap_below hbz HH6.out)
        clear hF hAB z4 hgo hbz
        refine wpList_cat TSec HIZ.out.so (rd_one rfl HGB.out rfl) rfl rfl (oneSec (L := [(sp, .slice ad md cd)]) (fun p hp => by rw [List.mem_singleton] at hp; rw [hp]; rfl)) (by rw [HSL.out]; simp; omega) (by rw [HSL.out]; simp; omega) HIZ.out.below.size ?_
        intro v7 w7 hv7 hg7 hb7
        have HG7 := Lib.hid hg7
        have HBL := Lib.hid (keeps_own HIZ.out.so hg7 _ _ _ _ (show 51 ≠ 60 by decide) HIZ.out.blk)
        have hsz7 : w.heap.size ≤ w7.heap.size := Nat.le_trans HIZ.out.below.size hb7.size
        obtain ⟨m7, q7, r7, -, rfl, _, _⟩ := (Reads.of_owns hv7).shape
        have HVV := Lib.hid (show OwR 10 encSec 60 w7 w.heap.size (.slice q7 m7 r7) (secsK L k ++ [(sp, .slice ad md cd)]) by unfold OwR; rw [List.length_append, List.flatMap_append]; exact hv7)
        clear hv7 hg7 hb7
        cases hr with
        | true =>
          have hm0 : ¬ mr = 0 := fun h => by
            have h1 := of_decide_eq_true HHR.out.symm
            exact h1 (List.length_eq_zero_iff.1 (by have := hmr.out; omega))
          go_wp2_with ((with_reducible show wpList _ _ _ (⟨none, .store _ (.tmp 45) _, _, _, _, _⟩ :: _) _ _); go_must (refine wpList_set HBL.out (Nat.lt_of_lt_of_eq (show 4 < 6 by decide) rfl) rfl rfl HG2 hsz7 (fun w => by kernel_rfl) ?_; intro w8 hh8 hb8 hs8; have HI8 := Lib.hid (FilInv.push HIZ.out rfl HVV.out HG7.out (.inl HDS.out) hh8 hs8); obtain ⟨d0, d1, d2, d3, d4, d5⟩ := part_box (x := (⟨name, flags, align, size, data, relas⟩, .slice ad md cd, .slice ar mr cr)) (HIZ.out.keeps HG7.out hs8 HHZ.out (by decide) (by decide)); clear hh8 hb8 hs8))
          go_roundw
          case rel => exact ⟨k + 1, q7, m7, r7, by rw [HCT.out]; go_num, by go_num, by omega, by rw [HSK.out]; exact HI8⟩
          case measure => simp [intOf] <;> omega
        | false =>
          have hm0 : mr = 0 := by
            have h1 := of_decide_eq_false HHR.out.symm
            have h2 : relas = [] := Classical.not_not.1 h1
            have := hmr.out
            rw [this, h2]
            rfl
          subst hm0
          go_wp2_with ((with_reducible show wpList _ _ _ (⟨none, .store _ (.tmp 45) _, _, _, _, _⟩ :: _) _ _); go_must (refine wpList_set HBL.out (Nat.lt_of_lt_of_eq (show 4 < 6 by decide) rfl) rfl rfl HG2 hsz7 (fun w => by kernel_rfl) ?_; intro w8 hh8 hb8 hs8; have HI8 := Lib.hid (FilInv.push HIZ.out rfl HVV.out HG7.out (.inl HDS.out) hh8 hs8); obtain ⟨d0, d1, d2, d3, d4, d5⟩ := part_box (x := (⟨name, flags, align, size, data, relas⟩, .slice ad md cd, .slice ar 0 cr)) (HIZ.out.keeps HG7.out hs8 HHZ.out (by decide) (by decide)); clear hh8 hb8 hs8))
          go_roundw
          case rel => exact ⟨k + 1, q7, m7, r7, by rw [HCT.out]; go_num, by go_num, by omega, by rw [HSK.out]; exact HI8⟩
          case measure => simp [intOf] <;> omega
      · obtain rfl : k = np := by omega
        have hpl : o.parts.length = k := by rw [HL.out, List.length_map]; exact HNP.out.symm
        have HE1 := Lib.hid (show (secsK L k).map (·.1) = o.parts.map secPart by rw [HNP.out, HL.out]; exact secsK_end L)
        have HT1 : (o.parts.take k).countP hasRel = rc := by rw [HRC.out, List.take_of_length_le (by omega)]
        rw [HT1]
        have hst9 : k + rc + 1 ≤ 201 := by omega
        have HSL := Lib.hid (secsK_len (L := L) (k := k) (by have := HNP.out; omega))
        clear HT1 HI
        have hu1 : IntKind.u32.wrap ((k : Int) + (rc : Int) + 1) = ((k + rc + 1 : Nat) : Int) := by
          rw [show ((k : Int) + (rc : Int) + 1) = ((k + rc + 1 : Nat) : Int) by omega]
          exact u32W (by omega)
        have hu2 : IntKind.u32.wrap ((k : Int) + (rc : Int) + 1 + 1) = ((k + rc + 1 + 1 : Nat) : Int) := by
          rw [show ((k : Int) + (rc : Int) + 1 + 1) = ((k + rc + 1 + 1 : Nat) : Int) by omega]
          exact u32W (by omega)
        obtain ⟨c0, c1, c2⟩ := obj_box HIr.out.box
        go_wp2
        go_loopw [62] (fun i wr => ∃ (j : Nat) (sq : Option Addr) (sn sr : Nat) (T : List (SecM × Value)), i = .int .i64 j ∧ j ≤ k ∧ Hid (FilInv w wr w2.heap.size w.heap.size [.int .i64 1, .int .i64 o.target, .int .u32 (fl : Int), .int .u64 0] #[.int .i64 o.target, .slice pa k pc, .slice sa o.syms.length sc] (.slice sq sn sr) T) ∧ Hid (T.map (·.1) = o.parts.map secPart ++ relSecs (symtabNo o) 0 (o.parts.take j))) (fun i _ => k - (intOf i).toNat)
        case atStart => exact ⟨0, sq, sn, sr, secsK L k, rfl, Nat.zero_le _, HIr, by rw [List.take_zero]; exact HE1.out.trans (List.append_nil _).symm⟩
        case round =>
          obtain ⟨j, tq, tn, tr, T, rfl, hj, HIj, HTM⟩ := hrel
          have hbj := HIj.out.below.size
          have htl : T.length ≤ k + j := by
            have h1 := congrArg List.length HTM.out
            have h2 := relSecs_len (symtabNo o) (o.parts.take j) 0
            rw [List.length_map, List.length_append, List.length_map] at h1
            rw [List.length_take] at h2
            omega
          by_cases hlt2 : j < k
          · obtain ⟨x, hx⟩ : ∃ x, L[j]? = some x := ⟨_, List.getElem?_eq_getElem (by have := HNP.out; omega)⟩
            obtain ⟨b, oo, rfl, e0, e1, e2, e3, e4, e5, hb0⟩ := part_cells HP.out HIj.out.below hx
            have hxp : o.parts[j]? = some x.1 := by rw [HL.out, List.getElem?_map, hx]; rfl
            have hmem : x.1 ∈ o.parts := List.mem_of_getElem? hxp
            have HTK := Lib.hid (show relSecs (symtabNo o) 0 (o.parts.take (j + 1)) = relSecs (symtabNo o) 0 (o.parts.take j) ++ (if hasRel x.1 then [relSec (k + rc + 1) j x.1] else []) by
              have h1 : (o.parts.take j).length = j := by rw [List.length_take]; omega
              rw [List.take_add_one, hxp, Option.toList_some, relSecs_snoc, h1, Nat.zero_add, HST.out])
            have HWR := Lib.hid (fun wx (hb : Below w.heap.size w wx) => writeRela_any x.1.relas x.2.2 wx (HOK.out.wf.relas x.1 hmem).1 (fun r hr => ((HOK.out.wf.relas x.1 hmem).2 r hr).1) ((HH.out.rela x (List.mem_of_getElem? hx)).mono hb))
            have HWL := Lib.hid (relaW_len (HOK.out.wf.relas x.1 hmem).1)
            have HW0 := relW_0 HMO.out x.1 hmem
            rw [HW0] at HWR
            have hnm := name_short HMO.out x.1 hmem
            have HHR : Hid (hasRel x.1 = decide (x.1.relas ≠ [])) := rfl
            have HRS : Hid (relSec (k + rc + 1) j x.1 = ⟨relaN ++ x.1.name, 4, 64, 0, 8, (relaW x.1.relas).1.length, k + rc + 1, j + 1, 24, (relaW x.1.relas).1⟩) := rfl
            obtain ⟨md, ad, cd, -, hdv, -, -⟩ := (HH.out.data x (List.mem_of_getElem? hx)).shape
            obtain ⟨mr, ar, cr, hmr, hrv, -, -⟩ := (HH.out.rela x (List.mem_of_getElem? hx)).shape
            obtain ⟨⟨name, flags, align, size, data, relas⟩, dv, rv⟩ := x
            dsimp only at *
            subst hdv hrv
            clear hx hxp hmem HW0
            generalize hasRel ⟨name, flags, align, size, data, relas⟩ = hr at *
            generalize relSec (k + rc + 1) j ⟨name, flags, align, size, data, relas⟩ = rs at *
            generalize (relaW relas).1 = rb at *
            cases hr with
            | false =>
              have hm0 : mr = 0 := by
                have h1 := of_decide_eq_false HHR.out.symm
                have h2 : relas = [] := Classical.not_not.1 h1
                have := hmr.out
                rw [this, h2]
                rfl
              subst hm0
              go_wp2_with (first
                | ((with_reducible show wpList _ _ _ (⟨none, .store _ (.tmp 11) _, _, _, _, _⟩ :: _) _ _); go_must (refine wpList_storeNew rfl rfl (by kernel_rfl) rfl (by simp [Value.oneCell']) ?_; intro w6 hh6 hb6; have HI6 := Lib.hid (HIj.out.mono hb6); obtain ⟨d0, d1, d2, d3, d4, d5⟩ := part_box (x := (⟨name, flags, align, size, data, relas⟩, .slice ad md cd, .slice ar 0 cr)) hh6; clear hh6 hb6)))
              exact ⟨⟨j + 1, tq, tn, tr, T, rfl, by omega, HI6, by show T.map (·.1) = _; rw [HTK.out, HTM.out]; simp⟩, by simp [intOf]; omega⟩
            | true =>
              have hm0 : ¬ mr = 0 := fun h => by
                have h1 := of_decide_eq_true HHR.out.symm
                exact h1 (List.length_eq_zero_iff.1 (by have := hmr.out; omega))
              have hcat : (⟨#[46, 114, 101, 108, 97]⟩ : ByteArray) ++ ⟨name.toArray⟩ = ⟨(relaN ++ name).toArray⟩ := cat_str relaN ⟨name.toArray⟩
              have hbig : ¬ 9223372036854775807 < 5 + name.length := by omega
              have hbig2 : ¬ 9223372036854775807 < name.length + 5 := by omega
              have hu3 : IntKind.u32.wrap ((j : Int) + 1) = ((j + 1 : Nat) : Int) := by
                rw [show ((j : Int) + 1) = ((j + 1 : Nat) : Int) by omega]
                exact u32W (by omega)
              have HNM := Lib.hid hnm
              clear hnm
              go_wp2_with (first
                | ((with_reducible show wpList _ _ _ (⟨none, .store _ (.tmp 11) _, _, _, _, _⟩ :: _) _ _); go_must (refine wpList_storeNew rfl rfl (by kernel_rfl) rfl (by simp [Value.oneCell']) ?_; intro w6 hh6 hb6; have HH6 := Lib.hid hh6; have HI6 := Lib.hid (HIj.out.mono hb6); obtain ⟨d0, d1, d2, d3, d4, d5⟩ := part_box (x := (⟨name, flags, align, size, data, relas⟩, .slice ad md cd, .slice ar mr cr)) hh6; clear hh6 hb6))
                | (go_at_call 22; refine (HWR.out _ HI6.out.below).mono ?_; rintro e w7 ⟨v', rfl, hov, hb7⟩; have HI7 := Lib.hid (HI6.out.mono hb7); have HOV := Lib.hid (hov.base HI6.out.below.size); obtain ⟨mv, qv, cv, hmv, rfl, -, -⟩ := hov.shape; have hmv9 : mv ≤ 24000 := (by have := hmv.out; have := HWL.out; omega); have huv := u64W (n := mv) (by omega); have z4 : w7.cell? ⟨w2.heap.size, 4, none⟩ = some (.slice tq tn tr) := cell_rec HI7.out.blk 4; obtain ⟨d0, d1, d2, d3, d4, d5⟩ := part_box (x := (⟨name, flags, align, size, data, relas⟩, .slice ad md cd, .slice ar mr cr)) (heap_below hb7 HH6.out); have HRS2 := Lib.hid (show rs = ⟨relaN ++ name, 4, 64, 0, 8, mv, k + rc + 1, j + 1, 24, rb⟩ by rw [HRS.out, hmv.out]); clear hb7 hov)
                | ((with_reducible show wpList _ _ _ (⟨some 95, _, _, _, _, _⟩ :: _) _ _); go_must (refine wpList_pushR TSec HI7.out.so rfl rfl (rs, .slice qv mv cv) (by rw [HRS2.out]; rfl) rfl (by rfl) (by omega) (by omega) HI7.out.below.size ?_; intro v8 w8 hv8 hg8 hb8; have HG8 := Lib.hid hg8; have HBL := Lib.hid (keeps_own HI7.out.so hg8 _ _ _ _ (show 51 ≠ 60 by decide) HI7.out.blk); have hsz8 : w.heap.size ≤ w8.heap.size := Nat.le_trans HI7.out.below.size hb8.size; obtain ⟨m8, q8, r8, -, rfl, _, _⟩ := hv8.shape; have HVV := Lib.hid hv8; clear hv8 hg8 hb8))
                | ((with_reducible show wpList _ _ _ (⟨none, .store _ (.tmp 96) _, _, _, _, _⟩ :: _) _ _); go_must (refine wpList_set HBL.out (Nat.lt_of_lt_of_eq (show 4 < 6 by decide) rfl) rfl rfl HG2 hsz8 (fun w => by kernel_rfl) ?_; intro w9 hh9 hb9 hs9; have HI9 := Lib.hid (FilInv.push HI7.out rfl HVV.out HG8.out (.inr (by rw [HRS2.out]; exact HOV.out)) hh9 hs9); clear hh9 hb9 hs9)))
              exact ⟨⟨j + 1, q8, m8, r8, T ++ [(rs, .slice qv mv cv)], rfl, by omega, HI9, by show (T ++ _).map (·.1) = _; rw [HTK.out, List.map_append, HTM.out]; simp⟩, by simp [intOf]; omega⟩
          · obtain rfl : j = k := by omega
            have HTE := Lib.hid (show T.map (·.1) = o.parts.map secPart ++ relSecs (symtabNo o) 0 o.parts by
              have := HTM.out
              rwa [List.take_of_length_le (by omega)] at this)
            have HSY : Hid (symSec o = ⟨symtabN, 2, 0, 0, 8, (symW o.syms).1.length, j + rc + 1 + 1, (symW o.syms).2.2.1, 24, (symW o.syms).1⟩) := by
              unfold Hid symSec
              rw [HST.out]
            have HSR : Hid (strSec o = ⟨strtabN, 3, 0, 0, 1, (symW o.syms).2.1.length, 0, 0, 0, (symW o.syms).2.1⟩) := rfl
            obtain ⟨n1, n2, n3⟩ := symW_len HOK.out.wf.many
            have hS0 := HMO.out.syms
            rw [hS0] at HSW
            have HEL := Lib.hid (show elfO o = ⟨1, o.target, fl, 0, o.parts.map secPart ++ relSecs (symtabNo o) 0 o.parts ++ [symSec o, strSec o], []⟩ from HELF.out)
            obtain ⟨c0, c1, c2⟩ := obj_box HIj.out.box
            generalize symSec o = ys at *
            generalize strSec o = zs at *
            have HN1 := Lib.hid n1
            have HN2 := Lib.hid n2
            generalize (symW o.syms).1 = yb at *
            generalize (symW o.syms).2.1 = zb at *
            generalize (symW o.syms).2.2.1 = lc at *
            have hu4 := u32W (n := lc) (by omega)
            clear hS0 HELF n1 n2 HTM HE1
            cases hme : mayE (elfO o) with
            | true =>
              rw [hme] at HFW HFI
              have HFW2 := Lib.hid (show fileW (elfO o) = (fileB (elfO o), 0) from HFW.out.trans (if_pos rfl))
              have HFI2 := Lib.hid (show fileO o = (fileB (elfO o), 0) from HFI.out.trans (if_pos rfl))
              clear hme HFW HFI
              go_wp2_with (first
                | (go_at_call 23; refine (HSW.out _ HIj.out.below).mono ?_; rintro e w7 ⟨v1, v2, rfl, hy, hz, hb7, hne⟩; have HI7 := Lib.hid (HIj.out.mono hb7); have HY := Lib.hid (hy.base HIj.out.below.size); have HZ := Lib.hid (hz.base HIj.out.below.size); obtain ⟨my, qy, cy, hmy, rfl, -, -⟩ := hy.shape; obtain ⟨mz, qz, cz, hmz, rfl, -, -⟩ := hz.shape; have hmy9 : my ≤ 24024 := (by have := hmy.out; have := HN1.out; omega); have hmz9 : mz ≤ 129001 := (by have := hmz.out; have := HN2.out; omega); have huy := u64W (n := my) (by omega); have huz := u64W (n := mz) (by omega); have HYS := Lib.hid (show ys = ⟨symtabN, 2, 0, 0, 8, my, j + rc + 1 + 1, lc, 24, yb⟩ by rw [HSY.out, hmy.out]); have HZS := Lib.hid (show zs = ⟨strtabN, 3, 0, 0, 1, mz, 0, 0, 0, zb⟩ by rw [HSR.out, hmz.out]); have z4 : w7.cell? ⟨w2.heap.size, 4, none⟩ = some (.slice tq tn tr) := cell_rec HI7.out.blk 4; clear hb7 hy hz hne)
                | ((with_reducible show wpList _ _ _ (⟨some 119, _, _, _, _, _⟩ :: _) _ _); go_must (refine wpList_pushR TSec HI7.out.so rfl rfl (ys, .slice qy my cy) (by rw [HYS.out]; rfl) rfl (by rfl) (by omega) (by omega) HI7.out.below.size ?_; intro v8 w8 hv8 hg8 hb8; have HG8 := Lib.hid hg8; have HBL := Lib.hid (keeps_own HI7.out.so hg8 _ _ _ _ (show 51 ≠ 60 by decide) HI7.out.blk); have hsz8 : w.heap.size ≤ w8.heap.size := Nat.le_trans HI7.out.below.size hb8.size; obtain ⟨m8, q8, r8, -, rfl, _, _⟩ := hv8.shape; have HVV := Lib.hid hv8; clear hv8 hg8 hb8))
                | ((with_reducible show wpList _ _ _ (⟨none, .store _ (.tmp 120) _, _, _, _, _⟩ :: _) _ _); go_must (refine wpList_set HBL.out (Nat.lt_of_lt_of_eq (show 4 < 6 by decide) rfl) rfl rfl HG2 hsz8 (fun w => by kernel_rfl) ?_; intro w9 hh9 hb9 hs9; have HI9 := Lib.hid (FilInv.push HI7.out rfl HVV.out HG8.out (.inr (by rw [HYS.out]; exact HY.out)) hh9 hs9); have HZ9 := Lib.hid (owns_stirs (owns_grown HZ.out HG8.out (fun k hk hk2 => Go.Fd.own_apart HZ.out HI7.out.so (by decide) hk hk2)) hs9 (own_ne (owns_grown HZ.out HG8.out (fun k hk hk2 => Go.Fd.own_apart HZ.out HI7.out.so (by decide) hk hk2)) HBL.out (by decide))); have z4 : w9.cell? ⟨w2.heap.size, 4, none⟩ = some (.slice q8 m8 r8) := cell_rec HI9.out.blk 4; clear hh9 hb9 hs9))
                | ((with_reducible show wpList _ _ _ (⟨some 129, _, _, _, _, _⟩ :: _) _ _); go_must (refine wpList_pushR TSec HI9.out.so rfl rfl (zs, .slice qz mz cz) (by rw [HZS.out]; rfl) rfl (by rfl) (by rw [List.length_append]; simp; omega) (by rw [List.length_append]; simp; omega) HI9.out.below.size ?_; intro va wa hva hga hba; have HGA := Lib.hid hga; have HBA := Lib.hid (keeps_own HI9.out.so hga _ _ _ _ (show 51 ≠ 60 by decide) HI9.out.blk); have hsza : w.heap.size ≤ wa.heap.size := Nat.le_trans HI9.out.below.size hba.size; obtain ⟨ma, qa, ra, -, rfl, _, _⟩ := hva.shape; have HVA := Lib.hid hva; clear hva hga hba))
                | ((with_reducible show wpList _ _ _ (⟨none, .store _ (.tmp 130) _, _, _, _, _⟩ :: _) _ _); go_must (refine wpList_set HBA.out (Nat.lt_of_lt_of_eq (show 4 < 6 by decide) rfl) rfl rfl HG2 hsza (fun w => by kernel_rfl) ?_; intro wb hhb hbb hsb; have HIB := Lib.hid (FilInv.push HI9.out rfl HVA.out HGA.out (.inr (by rw [HZS.out]; exact HZ9.out)) hhb hsb); have HIBE := Lib.hid (show ElfAt wb (elfO o) (T ++ [(ys, .slice qy my cy)] ++ [(zs, .slice qz mz cz)]) (.slice qa ma ra) (.slice none 0 0) from ⟨by rw [HEL.out]; show _ = (T ++ _ ++ _).map (·.1); rw [List.map_append, List.map_append, HTE.out]; simp, HIB.out.so.rd, HIB.out.bs, by rw [HEL.out]; exact RdR.nil _ _ _⟩); have HEWB : Hid (Calls Tryz.prog 24 #[.agg #[.int .i64 1, .int .i64 o.target, .int .u32 (fl : Int), .int .u64 0, .slice qa ma ra, .slice none 0 0]] wb fun r w' => ∃ v, r = .returned (.tuple #[v, .int .i64 0]) ∧ OB w' wb.heap.size v (fileB (elfO o)) ∧ Below wb.heap.size wb w') := Lib.hid (by have h1 := HEW.out _ (.slice qa ma ra) (.slice none 0 0) wb HIBE.out HMO.out; rw [show elfV (elfO o) (.slice qa ma ra) (.slice none 0 0) = .agg #[.int .i64 1, .int .i64 o.target, .int .u32 (fl : Int), .int .u64 0, .slice qa ma ra, .slice none 0 0] from by rw [HEL.out]; rfl, HFW2.out] at h1; exact h1); obtain ⟨z0, z1, z2, z3, z4, z5⟩ := elf_box (e := ⟨1, o.target, fl, 0, [], []⟩) HIB.out.blk; clear hhb hbb hsb))
                | (go_at_call 24; refine HEWB.out.mono ?_; rintro e wc ⟨vb, rfl, hob, hbc⟩; have HOBR := Lib.hid (hob.base HIB.out.below.size); have HBC := Lib.hid (HIB.out.below.trans (hbc.mono HIB.out.below.size)); clear hob hbc))
              go_ret2
              exact ⟨_, by rw [HFI2.out]; rfl, by rw [HFI2.out]; exact HOBR.out, HBC.out⟩
            | false =>
              rw [hme] at HFW HFI
              have HFW2 := Lib.hid (show fileW (elfO o) = ([], 1) from HFW.out.trans (if_neg (by simp)))
              have HFI2 := Lib.hid (show fileO o = ([], 6) from HFI.out.trans (if_neg (by simp)))
              clear hme HFW HFI
              go_wp2_with (first
                | (go_at_call 23; refine (HSW.out _ HIj.out.below).mono ?_; rintro e w7 ⟨v1, v2, rfl, hy, hz, hb7, hne⟩; have HI7 := Lib.hid (HIj.out.mono hb7); have HY := Lib.hid (hy.base HIj.out.below.size); have HZ := Lib.hid (hz.base HIj.out.below.size); obtain ⟨my, qy, cy, hmy, rfl, -, -⟩ := hy.shape; obtain ⟨mz, qz, cz, hmz, rfl, -, -⟩ := hz.shape; have hmy9 : my ≤ 24024 := (by have := hmy.out; have := HN1.out; omega); have hmz9 : mz ≤ 129001 := (by have := hmz.out; have := HN2.out; omega); have huy := u64W (n := my) (by omega); have huz := u64W (n := mz) (by omega); have HYS := Lib.hid (show ys = ⟨symtabN, 2, 0, 0, 8, my, j + rc + 1 + 1, lc, 24, yb⟩ by rw [HSY.out, hmy.out]); have HZS := Lib.hid (show zs = ⟨strtabN, 3, 0, 0, 1, mz, 0, 0, 0, zb⟩ by rw [HSR.out, hmz.out]); have z4 : w7.cell? ⟨w2.heap.size, 4, none⟩ = some (.slice tq tn tr) := cell_rec HI7.out.blk 4; clear hb7 hy hz hne)
                | ((with_reducible show wpList _ _ _ (⟨some 119, _, _, _, _, _⟩ :: _) _ _); go_must (refine wpList_pushR TSec HI7.out.so rfl rfl (ys, .slice qy my cy) (by rw [HYS.out]; rfl) rfl (by rfl) (by omega) (by omega) HI7.out.below.size ?_; intro v8 w8 hv8 hg8 hb8; have HG8 := Lib.hid hg8; have HBL := Lib.hid (keeps_own HI7.out.so hg8 _ _ _ _ (show 51 ≠ 60 by decide) HI7.out.blk); have hsz8 : w.heap.size ≤ w8.heap.size := Nat.le_trans HI7.out.below.size hb8.size; obtain ⟨m8, q8, r8, -, rfl, _, _⟩ := hv8.shape; have HVV := Lib.hid hv8; clear hv8 hg8 hb8))
                | ((with_reducible show wpList _ _ _ (⟨none, .store _ (.tmp 120) _, _, _, _, _⟩ :: _) _ _); go_must (refine wpList_set HBL.out (Nat.lt_of_lt_of_eq (show 4 < 6 by decide) rfl) rfl rfl HG2 hsz8 (fun w => by kernel_rfl) ?_; intro w9 hh9 hb9 hs9; have HI9 := Lib.hid (FilInv.push HI7.out rfl HVV.out HG8.out (.inr (by rw [HYS.out]; exact HY.out)) hh9 hs9); have HZ9 := Lib.hid (owns_stirs (owns_grown HZ.out HG8.out (fun k hk hk2 => Go.Fd.own_apart HZ.out HI7.out.so (by decide) hk hk2)) hs9 (own_ne (owns_grown HZ.out HG8.out (fun k hk hk2 => Go.Fd.own_apart HZ.out HI7.out.so (by decide) hk hk2)) HBL.out (by decide))); have z4 : w9.cell? ⟨w2.heap.size, 4, none⟩ = some (.slice q8 m8 r8) := cell_rec HI9.out.blk 4; clear hh9 hb9 hs9))
                | ((with_reducible show wpList _ _ _ (⟨some 129, _, _, _, _, _⟩ :: _) _ _); go_must (refine wpList_pushR TSec HI9.out.so rfl rfl (zs, .slice qz mz cz) (by rw [HZS.out]; rfl) rfl (by rfl) (by rw [List.length_append]; simp; omega) (by rw [List.length_append]; simp; omega) HI9.out.below.size ?_; intro va wa hva hga hba; have HGA := Lib.hid hga; have HBA := Lib.hid (keeps_own HI9.out.so hga _ _ _ _ (show 51 ≠ 60 by decide) HI9.out.blk); have hsza : w.heap.size ≤ wa.heap.size := Nat.le_trans HI9.out.below.size hba.size; obtain ⟨ma, qa, ra, -, rfl, _, _⟩ := hva.shape; have HVA := Lib.hid hva; clear hva hga hba))
                | ((with_reducible show wpList _ _ _ (⟨none, .store _ (.tmp 130) _, _, _, _, _⟩ :: _) _ _); go_must (refine wpList_set HBA.out (Nat.lt_of_lt_of_eq (show 4 < 6 by decide) rfl) rfl rfl HG2 hsza (fun w => by kernel_rfl) ?_; intro wb hhb hbb hsb; have HIB := Lib.hid (FilInv.push HI9.out rfl HVA.out HGA.out (.inr (by rw [HZS.out]; exact HZ9.out)) hhb hsb); have HIBE := Lib.hid (show ElfAt wb (elfO o) (T ++ [(ys, .slice qy my cy)] ++ [(zs, .slice qz mz cz)]) (.slice qa ma ra) (.slice none 0 0) from ⟨by rw [HEL.out]; show _ = (T ++ _ ++ _).map (·.1); rw [List.map_append, List.map_append, HTE.out]; simp, HIB.out.so.rd, HIB.out.bs, by rw [HEL.out]; exact RdR.nil _ _ _⟩); have HEWB : Hid (Calls Tryz.prog 24 #[.agg #[.int .i64 1, .int .i64 o.target, .int .u32 (fl : Int), .int .u64 0, .slice qa ma ra, .slice none 0 0]] wb fun r w' => ∃ v, r = .returned (.tuple #[v, .int .i64 1]) ∧ OB w' wb.heap.size v [] ∧ Below wb.heap.size wb w') := Lib.hid (by have h1 := HEW.out _ (.slice qa ma ra) (.slice none 0 0) wb HIBE.out HMO.out; rw [show elfV (elfO o) (.slice qa ma ra) (.slice none 0 0) = .agg #[.int .i64 1, .int .i64 o.target, .int .u32 (fl : Int), .int .u64 0, .slice qa ma ra, .slice none 0 0] from by rw [HEL.out]; rfl, HFW2.out] at h1; exact h1); obtain ⟨z0, z1, z2, z3, z4, z5⟩ := elf_box (e := ⟨1, o.target, fl, 0, [], []⟩) HIB.out.blk; clear hhb hbb hsb))
                | (go_at_call 24; refine HEWB.out.mono ?_; rintro e wc ⟨vb, rfl, hob, hbc⟩; have HOBR := Lib.hid (hob.base HIB.out.below.size); have HBC := Lib.hid (HIB.out.below.trans (hbc.mono HIB.out.below.size)); clear hob hbc))
              go_ret2
              exact ⟨_, by rw [HFI2.out]; rfl, by rw [HFI2.out]; exact OB.nil _ _, HBC.out⟩)
end Go.Proofs.YtimnbnomaajmmaaGreat
namespace Go.Proofs.YtimnbnomaajmmaaGreat
open Go.RowKit Go.Fd
theorem obRow2 {P : Program} {fn : Func} {p u : Tmp} {ty : TypeId} (h : fn.results = #[.cell p ty, .tmp u]) (tmps : Array Value) (w : World) (g : Nat) (t : TypeId) (cs : Array Value) (fr : Nat × Nat) (d : TypeDesc)
    (hp : tmps.getD p undef = .pointer (some ⟨g, 0, none⟩)) (hg : w.heap[g]? = some (.cells cs t fr))
    (hu : P.underlying ty = some d) (hd : (match d with | .struct _ | .array _ _ => true | _ => false) = true) (hi : (P.info? ty).map (·.size) = some cs.size) :
    (results fn tmps).run P w = .ok (.tuple #[.agg cs, tmps.getD u undef]) w := by
  rw [results_cell_tmp h, hp]
  simp [asAddr, Result.andThen, run_loadVar_row w g t ty cs fr d hg hu hd hi]
/-- What else stands stays. -/
theorem FilInv.keep2 {w wr w1 w2 : World} {g b : Nat} {hd : List Value} {bx : Array Value} {sv : Value} {L : List (SecM × Value)} (h : FilInv w wr g b hd bx sv L) (hgr : wr.grownBy w1 sv.ownBlock) (hs : Stirs (fun k => k = g) w1 w2) {c : Nat} {cs : Array Value} {t : TypeId} {fr : Nat × Nat} (hc : wr.heap[c]? = some (.cells cs t fr)) (h1 : t ≠ 60) (h2 : c ≠ g) : w2.heap[c]? = some (.cells cs t fr) :=
  hs.kept (keeps_own h.so hgr _ _ _ _ h1 hc) h2
theorem FilInv.stir {w wr w' : World} {g b r : Nat} {hd : List Value} {bx : Array Value} {sv : Value} {L : List (SecM × Value)} {cs : Array Value} {fr : Nat × Nat} (h : FilInv w wr g b hd bx sv L) (hr : wr.heap[r]? = some (.cells cs 51 fr)) (hrg : r ≠ g) (hb : w.heap.size ≤ r) (hs : Stirs (fun k => k = r) wr w') : FilInv w w' g b hd bx sv L := by
  have hne : ¬ b = r := fun e => by
    have h1 := hr
    rw [← e, h.box] at h1
    injection h1 with h1
    injection h1 with _ h1 _
    exact absurd h1 (by decide)
  refine ⟨hs.kept h.blk (fun e => hrg e.symm), hs.kept h.box hne, owns_stirs h.so hs (own_ne h.so hr (by decide)), fun p hp => (h.data p hp).imp id fun h1 => owns_stirs h1 hs (own_ne h1 hr (by decide)), h.below.trans (hs.below h.below.size fun k hk => by rw [hk]; exact hb), h.hg⟩
set_option maxHeartbeats 16000000 in
set_option maxRecDepth 100000 in
theorem refElf_any (o : ObjM) (L : List (PartM × Value × Value)) (pv sv : Value) (w : World) (h : ObjAt w o L pv sv) (ho : ObjOk o) (hmo : MayO o) :
    Calls Tryz.prog 43 #[objV o pv sv] w fun e w' => ∃ T ev, e = .returned (.tuple #[elfV (elfO o) ev (.slice none 0 0), .int .i64 0]) ∧ ElfAt w' (elfO o) T ev (.slice none 0 0) ∧ Below w.heap.size w w' := by
  have HSW := Lib.hid (fun wx (hb : Below w.heap.size w wx) => ref5Write_any o.syms _ wx ho.wf.many ho.wf.syms (fun s hs => by have := ho.syms s hs; omega) (h.syms.mono hb))
  have HH := Lib.hid h
  obtain ⟨pa, pc, rfl, hpc, -, hP⟩ := h.rd.open (fun _ => rfl)
  obtain ⟨sa, sc, rfl, hsc, -, hS⟩ := h.syms.open (fun _ => rfl)
  have HP := Lib.hid hP
  have hpl : o.parts.length = L.length := by rw [h.parts, List.length_map]
  have HMO := Lib.hid hmo
  have hm9 := HMO.out.many
  rw [hpl] at hm9
  obtain ⟨np, hnp⟩ : ∃ n, n = L.length := ⟨_, rfl⟩
  rw [← hnp] at hm9 hpc HH ⊢
  have hnp9 := hm9.1
  have HNP := Lib.hid hnp
  have HOK := Lib.hid ho
  have HL := Lib.hid h.parts
  obtain ⟨rc, hrc⟩ : ∃ n, n = o.parts.countP hasRel := ⟨_, rfl⟩
  have HRC := Lib.hid hrc
  have hrc9 : rc ≤ 100 := by
    have := List.countP_le_length (p := hasRel) (l := o.parts)
    omega
  have HST : Hid (symtabNo o = np + rc + 1) := by
    unfold Hid symtabNo
    rw [hrc, hpl, hnp]
  obtain ⟨fl, hfl⟩ : ∃ fl : Nat, fl = if o.target = 3 then 1 else 0 := ⟨_, rfl⟩
  have HELF : Hid (elfO o = ⟨1, o.target, fl, 0, o.parts.map secPart ++ relSecs (symtabNo o) 0 o.parts ++ [symSec o, strSec o], []⟩) := by rw [hfl]; exact rfl
  have hfl2 : (o.target = 3 ∧ fl = 1) ∨ (¬ o.target = 3 ∧ fl = 0) := by
    by_cases h3 : o.target = 3
    · exact .inl ⟨h3, by rw [hfl, if_pos h3]⟩
    · exact .inr ⟨h3, by rw [hfl, if_neg h3]⟩
  clear hfl h hP hS hpl hnp ho hrc hm9 hmo
  rcases hfl2 with ⟨ht3, hfl⟩ | ⟨ht3, hfl⟩
  case' inl => have t3 : (o.target == 3) = true := by simpa using ht3
  case' inr => have t3 : (o.target == 3) = false := by simpa using ht3
  all_goals clear ht3
  all_goals have HFL := Lib.hid hfl
  all_goals clear hfl
  all_goals go_enter Tryz.func43, Tryz.ntmps43
  all_goals go_wp2_with (first
    | ((with_reducible show wpList _ _ _ (⟨some 1, .box _ _, _, _, _, _⟩ :: _) _ _); go_must (refine wpList_box rfl ?_; intro w1 hx1 hb1 hs1; have HX1 := Lib.hid hx1; have HB1 := Lib.hid hb1; obtain ⟨c0, c1, c2⟩ := obj_box hx1; clear hx1 hb1))
    | ((with_reducible show wpList _ _ _ (⟨some 2, .alloc _, _, _, _, _⟩ :: _) _ _); go_must (refine wpList_allocElf ?_; intro w2 hx2 hb2 hs2; have HR2 := Lib.hid hx2; have HX2 := Lib.hid (heap_below hb2 HX1.out); have HB2 := Lib.hid (HB1.out.trans (hb2.mono HB1.out.size)); obtain ⟨c0, c1, c2⟩ := obj_box HX2.out; clear hx2 hb2))
    | ((with_reducible show wpList _ _ _ (⟨some 4, .alloc _, _, _, _, _⟩ :: _) _ _); go_must (refine wpList_allocElf ?_; intro w3 hx3 hb3 hs3; have HE3 := Lib.hid hx3; have HR3 := Lib.hid (heap_below hb3 HR2.out); have HX3 := Lib.hid (heap_below hb3 HX2.out); have HB3 := Lib.hid (HB2.out.trans (hb3.mono HB2.out.size)); obtain ⟨c0, c1, c2⟩ := obj_box HX3.out; clear hx3 hb3))
    | ((with_reducible show wpList _ _ _ (⟨none, .store _ (.tmp 4) _, _, _, _, _⟩ :: _) _ _); go_must (refine wpList_storeElf HE3.out rfl rfl rfl rfl (by simp [Value.oneCell']) (Nat.le_refl _) (Nat.le_of_lt hs3) ?_; intro w4 hh4 hb4; have HE4 := Lib.hid hh4; have HX4 := Lib.hid (heap_base hb4 HX3.out (by omega)); have HR4 := Lib.hid (heap_base hb4 HR3.out (by omega)); have HB4 := Lib.hid (HB3.out.trans (hb4.mono HB2.out.size)); obtain ⟨c0, c1, c2⟩ := obj_box HX4.out; obtain ⟨z0, z1, z2, z3, z4, z5⟩ := elf_box (e := ⟨1, o.target, 0, 0, [], []⟩) HE4.out; have hsz4 : w2.heap.size ≤ w4.heap.size := Nat.le_trans (Nat.le_of_lt hs3) hb4.size; clear hh4 hb4))
    | ((with_reducible show wpList _ _ _ (⟨none, .store _ (.tmp 25) _, _, _, _, _⟩ :: _) _ _); go_must (refine wpList_setN HE4.out (show 2 < 6 by decide) rfl rfl (Nat.le_refl _) hsz4 (fun w => by kernel_rfl) ?_; intro w5 hh5 hb5 hs5; have HE5 := Lib.hid (show w5.heap[w2.heap.size]? = some (.cells #[.int .i64 1, .int .i64 o.target, .int .u32 1, .int .u64 0, .slice none 0 0, .slice none 0 0] 51 (0, 0)) from hh5); have HX5 := Lib.hid (heap_base hb5 HX4.out (by omega)); have HR5 := Lib.hid (heap_base hb5 HR4.out (by omega)); have HB5 := Lib.hid (HB4.out.trans (hb5.mono HB2.out.size)); obtain ⟨c0, c1, c2⟩ := obj_box HX5.out; clear hh5 hb5)))
  all_goals first
    | have HI := Lib.hid (show FilInv w w5 w2.heap.size w.heap.size [.int .i64 1, .int .i64 o.target, .int .u32 (fl : Int), .int .u64 0] #[.int .i64 o.target, .slice pa np pc, .slice sa o.syms.length sc] (.slice none 0 0) [] from ⟨by rw [HFL.out]; exact HE5.out, HX5.out, OwR.nil _ _ _ _ _, (fun p hp => by cases hp), HB5.out, HB2.out.size⟩); have HRR := HR5
    | have HI := Lib.hid (show FilInv w w4 w2.heap.size w.heap.size [.int .i64 1, .int .i64 o.target, .int .u32 (fl : Int), .int .u64 0] #[.int .i64 o.target, .slice pa np pc, .slice sa o.syms.length sc] (.slice none 0 0) [] from ⟨by rw [HFL.out]; exact HE4.out, HX4.out, OwR.nil _ _ _ _ _, (fun p hp => by cases hp), HB4.out, HB2.out.size⟩); have HRR := HR4
  all_goals (
    have HG2 := HB2.out.size
    have hrg : w1.heap.size ≠ w2.heap.size := by omega
    clear t3
    go_loopw [6, 7] (fun x i wr => ∃ (k : Nat) (sq : Option Addr) (sn sr : Nat), x = .int .i64 (((o.parts.take k).countP hasRel : Nat) : Int) ∧ i = .int .i64 k ∧ k ≤ np ∧ Hid (FilInv w wr w2.heap.size w.heap.size [.int .i64 1, .int .i64 o.target, .int .u32 (fl : Int), .int .u64 0] #[.int .i64 o.target, .slice pa np pc, .slice sa o.syms.length sc] (.slice sq sn sr) (secsK L k)) ∧ Hid (wr.heap[w1.heap.size]? = some (.cells elfZ 51 (0, 0)))) (fun _ i _ => np - (intOf i).toNat)
    case atStart => exact ⟨0, none, 0, 0, by rw [List.take_zero]; rfl, rfl, Nat.zero_le _, HI.out, HRR.out⟩
    case round =>
      obtain ⟨k, sq, sn, sr, rfl, rfl, hk, HIr, HRr⟩ := hrel
      have hbs := HIr.out.below.size
      obtain ⟨c0, c1, c2⟩ := obj_box HIr.out.box
      by_cases hlt : k < np
      · obtain ⟨x, hx⟩ : ∃ x, L[k]? = some x := ⟨_, List.getElem?_eq_getElem (by have := HNP.out; omega)⟩
        obtain ⟨b, oo, rfl, e0, e1, e2, e3, e4, e5, hb0⟩ := part_cells HP.out HIr.out.below hx
        have hxp : o.parts[k]? = some x.1 := by rw [HL.out, List.getElem?_map, hx]; rfl
        have hmem : x.1 ∈ o.parts := List.mem_of_getElem? hxp
        have HCT := Lib.hid (count_take hxp)
        have hc9 : (o.parts.take k).countP hasRel ≤ 100 := by
          have h1 := List.countP_le_length (p := hasRel) (l := o.parts.take k)
          rw [List.length_take] at h1
          omega
        have HSK := Lib.hid (secsK_succ hx)
        have HSL := Lib.hid (secsK_len (L := L) (k := k) (by have := HNP.out; omega))
        have HDB := Lib.hid (HH.out.data x (List.mem_of_getElem? hx))
        have HDS : Hid (Bs w x.2.1 (secPart x.1).data) := HDB
        have hnm := (HOK.out.names x.1 hmem).2
        have HBI := Lib.hid (fun w => refBits_any x.1.flags w (by omega))
        have HHA := Lib.hid (fun w => refHas_any x.1.flags 110 w (by omega))
        have HS : Hid (secPart x.1 = ⟨x.1.name, if hasF x.1.flags 110 then 8 else 1, bitsN x.1.flags, 0, u64of x.1.align, u64of x.1.size, 0, 0, 0, x.1.data⟩) := rfl
        have hv1 := u64of_cast x.1.align
        have hv2 := u64of_cast x.1.size
        have HHR : Hid (hasRel x.1 = decide (x.1.relas ≠ [])) := rfl
        obtain ⟨md, ad, cd, -, hdv, -, -⟩ := HDB.out.shape
        obtain ⟨mr, ar, cr, hmr, hrv, -, -⟩ := (HH.out.rela x (List.mem_of_getElem? hx)).shape
        generalize (o.parts.take k).countP hasRel = cn at *
        obtain ⟨⟨name, flags, align, size, data, relas⟩, dv, rv⟩ := x
        dsimp only at *
        subst hdv hrv
        clear hx hxp hmem hnm
        generalize hasRel ⟨name, flags, align, size, data, relas⟩ = hr at *
        generalize secPart ⟨name, flags, align, size, data, relas⟩ = sp at *
        generalize bitsN flags = bn at *
        generalize hasF flags 110 = hf at *
        generalize u64of align = ua at *
        generalize u64of size = us at *
        go_wp2_with (first
          | ((with_reducible show wpList _ _ _ (⟨none, .store _ (.tmp 8) _, _, _, _, _⟩ :: _) _ _); go_must (refine wpList_storeNew rfl rfl (by kernel_rfl) rfl (by simp [Value.oneCell']) ?_; intro w6 hh6 hb6; have HH6 := Lib.hid hh6; have HI6 := Lib.hid (HIr.out.mono hb6); have HR6 := Lib.hid (heap_below hb6 HRr.out); obtain ⟨d0, d1, d2, d3, d4, d5⟩ := part_box (x := (⟨name, flags, align, size, data, relas⟩, .slice ad md cd, .slice ar mr cr)) hh6; clear hh6 hb6)))
        have hAB := fun (x : Above w6) (b k : Nat) (h : b < w6.heap.size) => Above.cell x b k h
        have l1 := block_lt d0
        refine wp_region_walk 15 [(4, .is (.int .u64 (bn : Int))), (14, Yld.new w6.heap.size 60 10)] (by kernel_rfl) (by kernel_rfl) ?_
        simp only [List.take_succ_cons, List.take_zero, List.drop_succ_cons, List.drop_zero]
        repeat (refine walk_quiet rfl rfl rfl ?_; intro K hK; go_big_quiet_op; go_big_quiet_on)
        refine walk_is rfl rfl (fun wx hwx _ => WpYld.callIsB (run_callL (vals := [S flags]) Tryz.func81 (by kernel_rfl) rfl rfl) (HBI.out wx)) ?_
        go_frame
        repeat (refine walk_quiet rfl rfl rfl ?_; intro K hK; go_big_quiet_op; go_big_quiet_on)
        refine walk_new rfl rfl (fun wx hwx _ => WpYld.val run_allocSec (Yld.new_mk _ hwx).1 (Yld.new_mk _ hwx).2) (fun gb => ?_)
        go_frame
        refine walk_nil ?_
        intro wz hbz hF
        obtain ⟨hgb, cs, hcs, hcn⟩ := Yld.new_got (hF 14 _ 9 _ rfl rfl rfl rfl)
        clear hF hAB d0 d1 d2 d3 d4 d5
        refine wpList_storeMade hcs rfl rfl (by kernel_rfl) (by rw [hcn]; rfl) (by simp [Value.oneCell']) hgb hbz.size ?_
        intro w7 hh7 hb7
        clear hcs hcn
        have HH7 := Lib.hid hh7
        have HB67 := Lib.hid (hbz.trans hb7)
        have HI7 := Lib.hid (HI6.out.mono HB67.out)
        have HHZ := Lib.hid (heap_below HB67.out HH6.out)
        have HR7 := Lib.hid (heap_below HB67.out HR6.out)
        have h67 := HB67.out.size
        have hr2 : w1.heap.size < w6.heap.size := (Array.getElem?_eq_some_iff.1 HR6.out).1
        clear hh7 hb7 hbz
        obtain ⟨d0, d1, d2, d3, d4, d5⟩ := part_box (x := (⟨name, flags, align, size, data, relas⟩, .slice ad md cd, .slice ar mr cr)) HHZ.out
        obtain ⟨z0, z1, z2, z3, z4, z5, z6, z7, z8, z9⟩ := sec_box (x := (⟨name, 1, bn, 0, ua, us, 0, 0, 0, data⟩, Value.slice ad md cd)) HH7.out
        have y4 : w7.cell? ⟨w2.heap.size, 4, none⟩ = some (.slice sq sn sr) := cell_rec HI7.out.blk 4
        cases hr with
        | true =>
          have hm0 : ¬ mr = 0 := fun h => by
            have h1 := of_decide_eq_true HHR.out.symm
            exact h1 (List.length_eq_zero_iff.1 (by have := hmr.out; omega))
          cases hf with
          | true =>
            have HS8 := Lib.hid (show sp = ⟨name, 8, bn, 0, ua, us, 0, 0, 0, data⟩ from HS.out)
            go_wp2_with (first
              | (go_at_call 82; refine (HHA.out _).mono ?_; rintro e w4' ⟨rfl, rfl⟩)
              | ((with_reducible show wpList _ _ _ (⟨none, .store _ (.tmp 56) _, _, _, _, _⟩ :: _) _ _); go_must (refine wpList_setN HH7.out (show 1 < 10 by decide) rfl rfl hgb h67 (fun w => by kernel_rfl) ?_; intro w8 hh8 hb8 hs8; have HH8 := Lib.hid (show w8.heap[gb]? = some (.cells #[.string ⟨name.toArray⟩, .int .u32 8, .int .u64 (bn : Int), .int .u64 0, .int .u64 (ua : Int), .int .u64 (us : Int), .int .u32 0, .int .u32 0, .int .u64 0, .slice ad md cd] 60 (0, 0)) from hh8); have HB68 := Lib.hid (HB67.out.trans hb8); have HI8 := Lib.hid (HI6.out.mono HB68.out); have HHY := Lib.hid (heap_below HB68.out HH6.out); have HR8 := Lib.hid (heap_below HB68.out HR6.out); obtain ⟨z0, z1, z2, z3, z4, z5, z6, z7, z8, z9⟩ := sec_box (x := (⟨name, 8, bn, 0, ua, us, 0, 0, 0, data⟩, Value.slice ad md cd)) HH8.out; have y4 : w8.cell? ⟨w2.heap.size, 4, none⟩ = some (.slice sq sn sr) := cell_rec HI8.out.blk 4; clear hh8 hb8 hs8))
              | ((with_reducible show wpList _ _ _ (⟨some 61, _, _, _, _, _⟩ :: _) _ _); go_must (refine wpList_pushR TSec HI8.out.so rfl rfl (sp, .slice ad md cd) (by rw [HS8.out]; rfl) rfl (by rfl) (by rw [HSL.out]; omega) (by rw [HSL.out]; omega) HI8.out.below.size ?_; intro v9 w9 hv9 hg9 hb9; have HG9 := Lib.hid hg9; have HBL := Lib.hid (keeps_own HI8.out.so hg9 _ _ _ _ (show 51 ≠ 60 by decide) HI8.out.blk); have hsz9 : w.heap.size ≤ w9.heap.size := Nat.le_trans HI8.out.below.size hb9.size; obtain ⟨m9, q9, r9, -, rfl, _, _⟩ := hv9.shape; have HVV := Lib.hid hv9; clear hv9 hg9 hb9))
              | ((with_reducible show wpList _ _ _ (⟨none, .store _ (.tmp 62) _, _, _, _, _⟩ :: _) _ _); go_must (refine wpList_set HBL.out (Nat.lt_of_lt_of_eq (show 4 < 6 by decide) rfl) rfl rfl HG2 hsz9 (fun w => by kernel_rfl) ?_; intro wA hhA hbA hsA; have HIA := Lib.hid (FilInv.push HI8.out rfl HVV.out HG9.out (.inl HDS.out) hhA hsA); have HRA := Lib.hid (HI8.out.keep2 HG9.out hsA HR8.out (by decide) hrg); obtain ⟨d0, d1, d2, d3, d4, d5⟩ := part_box (x := (⟨name, flags, align, size, data, relas⟩, .slice ad md cd, .slice ar mr cr)) (HI8.out.keeps HG9.out hsA HHY.out (by decide) (by decide)); clear hhA hbA hsA)))
            go_roundw
            case rel => exact ⟨k + 1, q9, m9, r9, by rw [HCT.out]; go_num, by go_num, by omega, by rw [HSK.out]; exact HIA, HRA⟩
            case measure => simp [intOf] <;> omega
          | false =>
            have HS8 := Lib.hid (show sp = ⟨name, 1, bn, 0, ua, us, 0, 0, 0, data⟩ from HS.out)
            go_wp2_with (first
              | (go_at_call 82; refine (HHA.out _).mono ?_; rintro e w4' ⟨rfl, rfl⟩)
              | ((with_reducible show wpList _ _ _ (⟨some 61, _, _, _, _, _⟩ :: _) _ _); go_must (refine wpList_pushR TSec HI7.out.so rfl rfl (sp, .slice ad md cd) (by rw [HS8.out]; rfl) rfl (by rfl) (by rw [HSL.out]; omega) (by rw [HSL.out]; omega) HI7.out.below.size ?_; intro v9 w9 hv9 hg9 hb9; have HG9 := Lib.hid hg9; have HBL := Lib.hid (keeps_own HI7.out.so hg9 _ _ _ _ (show 51 ≠ 60 by decide) HI7.out.blk); have hsz9 : w.heap.size ≤ w9.heap.size := Nat.le_trans HI7.out.below.size hb9.size; obtain ⟨m9, q9, r9, -, rfl, _, _⟩ := hv9.shape; have HVV := Lib.hid hv9; clear hv9 hg9 hb9))
              | ((with_reducible show wpList _ _ _ (⟨none, .store _ (.tmp 62) _, _, _, _, _⟩ :: _) _ _); go_must (refine wpList_set HBL.out (Nat.lt_of_lt_of_eq (show 4 < 6 by decide) rfl) rfl rfl HG2 hsz9 (fun w => by kernel_rfl) ?_; intro wA hhA hbA hsA; have HIA := Lib.hid (FilInv.push HI7.out rfl HVV.out HG9.out (.inl HDS.out) hhA hsA); have HRA := Lib.hid (HI7.out.keep2 HG9.out hsA HR7.out (by decide) hrg); obtain ⟨d0, d1, d2, d3, d4, d5⟩ := part_box (x := (⟨name, flags, align, size, data, relas⟩, .slice ad md cd, .slice ar mr cr)) (HI7.out.keeps HG9.out hsA HHZ.out (by decide) (by decide)); clear hhA hbA hsA)))
            go_roundw
            case rel => exact ⟨k + 1, q9, m9, r9, by rw [HCT.out]; go_num, by go_num, by omega, by rw [HSK.out]; exact HIA, HRA⟩
            case measure => simp [intOf] <;> omega
        | false =>
          have hm0 : mr = 0 := by
            have h1 := of_decide_eq_false HHR.out.symm
            have h2 : relas = [] := Classical.not_not.1 h1
            have := hmr.out
            rw [this, h2]
            rfl
          have hm0' : ¬ 0 < mr := by omega
          cases hf with
          | true =>
            have HS8 := Lib.hid (show sp = ⟨name, 8, bn, 0, ua, us, 0, 0, 0, data⟩ from HS.out)
            go_wp2_with (first
              | (go_at_call 82; refine (HHA.out _).mono ?_; rintro e w4' ⟨rfl, rfl⟩)
              | ((with_reducible show wpList _ _ _ (⟨none, .store _ (.tmp 56) _, _, _, _, _⟩ :: _) _ _); go_must (refine wpList_setN HH7.out (show 1 < 10 by decide) rfl rfl hgb h67 (fun w => by kernel_rfl) ?_; intro w8 hh8 hb8 hs8; have HH8 := Lib.hid (show w8.heap[gb]? = some (.cells #[.string ⟨name.toArray⟩, .int .u32 8, .int .u64 (bn : Int), .int .u64 0, .int .u64 (ua : Int), .int .u64 (us : Int), .int .u32 0, .int .u32 0, .int .u64 0, .slice ad md cd] 60 (0, 0)) from hh8); have HB68 := Lib.hid (HB67.out.trans hb8); have HI8 := Lib.hid (HI6.out.mono HB68.out); have HHY := Lib.hid (heap_below HB68.out HH6.out); have HR8 := Lib.hid (heap_below HB68.out HR6.out); obtain ⟨z0, z1, z2, z3, z4, z5, z6, z7, z8, z9⟩ := sec_box (x := (⟨name, 8, bn, 0, ua, us, 0, 0, 0, data⟩, Value.slice ad md cd)) HH8.out; have y4 : w8.cell? ⟨w2.heap.size, 4, none⟩ = some (.slice sq sn sr) := cell_rec HI8.out.blk 4; clear hh8 hb8 hs8))
              | ((with_reducible show wpList _ _ _ (⟨some 61, _, _, _, _, _⟩ :: _) _ _); go_must (refine wpList_pushR TSec HI8.out.so rfl rfl (sp, .slice ad md cd) (by rw [HS8.out]; rfl) rfl (by rfl) (by rw [HSL.out]; omega) (by rw [HSL.out]; omega) HI8.out.below.size ?_; intro v9 w9 hv9 hg9 hb9; have HG9 := Lib.hid hg9; have HBL := Lib.hid (keeps_own HI8.out.so hg9 _ _ _ _ (show 51 ≠ 60 by decide) HI8.out.blk); have hsz9 : w.heap.size ≤ w9.heap.size := Nat.le_trans HI8.out.below.size hb9.size; obtain ⟨m9, q9, r9, -, rfl, _, _⟩ := hv9.shape; have HVV := Lib.hid hv9; clear hv9 hg9 hb9))
              | ((with_reducible show wpList _ _ _ (⟨none, .store _ (.tmp 62) _, _, _, _, _⟩ :: _) _ _); go_must (refine wpList_set HBL.out (Nat.lt_of_lt_of_eq (show 4 < 6 by decide) rfl) rfl rfl HG2 hsz9 (fun w => by kernel_rfl) ?_; intro wA hhA hbA hsA; have HIA := Lib.hid (FilInv.push HI8.out rfl HVV.out HG9.out (.inl HDS.out) hhA hsA); have HRA := Lib.hid (HI8.out.keep2 HG9.out hsA HR8.out (by decide) hrg); obtain ⟨d0, d1, d2, d3, d4, d5⟩ := part_box (x := (⟨name, flags, align, size, data, relas⟩, .slice ad md cd, .slice ar mr cr)) (HI8.out.keeps HG9.out hsA HHY.out (by decide) (by decide)); clear hhA hbA hsA)))
            go_roundw
            case rel => exact ⟨k + 1, q9, m9, r9, by rw [HCT.out]; go_num, by go_num, by omega, by rw [HSK.out]; exact HIA, HRA⟩
            case measure => simp [intOf] <;> omega
          | false =>
            have HS8 := Lib.hid (show sp = ⟨name, 1, bn, 0, ua, us, 0, 0, 0, data⟩ from HS.out)
            go_wp2_with (first
              | (go_at_call 82; refine (HHA.out _).mono ?_; rintro e w4' ⟨rfl, rfl⟩)
              | ((with_reducible show wpList _ _ _ (⟨some 61, _, _, _, _, _⟩ :: _) _ _); go_must (refine wpList_pushR TSec HI7.out.so rfl rfl (sp, .slice ad md cd) (by rw [HS8.out]; rfl) rfl (by rfl) (by rw [HSL.out]; omega) (by rw [HSL.out]; omega) HI7.out.below.size ?_; intro v9 w9 hv9 hg9 hb9; have HG9 := Lib.hid hg9; have HBL := Lib.hid (keeps_own HI7.out.so hg9 _ _ _ _ (show 51 ≠ 60 by decide) HI7.out.blk); have hsz9 : w.heap.size ≤ w9.heap.size := Nat.le_trans HI7.out.below.size hb9.size; obtain ⟨m9, q9, r9, -, rfl, _, _⟩ := hv9.shape; have HVV := Lib.hid hv9; clear hv9 hg9 hb9))
              | ((with_reducible show wpList _ _ _ (⟨none, .store _ (.tmp 62) _, _, _, _, _⟩ :: _) _ _); go_must (refine wpList_set HBL.out (Nat.lt_of_lt_of_eq (show 4 < 6 by decide) rfl) rfl rfl HG2 hsz9 (fun w => by kernel_rfl) ?_; intro wA hhA hbA hsA; have HIA := Lib.hid (FilInv.push HI7.out rfl HVV.out HG9.out (.inl HDS.out) hhA hsA); have HRA := Lib.hid (HI7.out.keep2 HG9.out hsA HR7.out (by decide) hrg); obtain ⟨d0, d1, d2, d3, d4, d5⟩ := part_box (x := (⟨name, flags, align, size, data, relas⟩, .slice ad md cd, .slice ar mr cr)) (HI7.out.keeps HG9.out hsA HHZ.out (by decide) (by decide)); clear hhA hbA hsA)))
            go_roundw
            case rel => exact ⟨k + 1, q9, m9, r9, by rw [HCT.out]; go_num, by go_num, by omega, by rw [HSK.out]; exact HIA, HRA⟩
            case measure => simp [intOf] <;> omega
      · obtain rfl : k = np := by omega
        have hpl : o.parts.length = k := by rw [HL.out, List.length_map]; exact HNP.out.symm
        have HE1 := Lib.hid (show (secsK L k).map (·.1) = o.parts.map secPart by rw [HNP.out, HL.out]; exact secsK_end L)
        have HT1 : (o.parts.take k).countP hasRel = rc := by rw [HRC.out, List.take_of_length_le (by omega)]
        rw [HT1]
        have hst9 : k + rc + 1 ≤ 201 := by omega
        have HSL := Lib.hid (secsK_len (L := L) (k := k) (by have := HNP.out; omega))
        clear HT1 HI
        have hu1 : IntKind.u32.wrap ((k : Int) + (rc : Int) + 1) = ((k + rc + 1 : Nat) : Int) := by
          rw [show ((k : Int) + (rc : Int) + 1) = ((k + rc + 1 : Nat) : Int) by omega]
          exact u32W (by omega)
        have hu2 : IntKind.u32.wrap ((k : Int) + (rc : Int) + 1 + 1) = ((k + rc + 1 + 1 : Nat) : Int) := by
          rw [show ((k : Int) + (rc : Int) + 1 + 1) = ((k + rc + 1 + 1 : Nat) : Int) by omega]
          exact u32W (by omega)
        obtain ⟨c0, c1, c2⟩ := obj_box HIr.out.box
        go_wp2
        go_loopw [11] (fun i wr => ∃ (j : Nat) (sq : Option Addr) (sn sr : Nat) (T : List (SecM × Value)), i = .int .i64 j ∧ j ≤ k ∧ Hid (FilInv w wr w2.heap.size w.heap.size [.int .i64 1, .int .i64 o.target, .int .u32 (fl : Int), .int .u64 0] #[.int .i64 o.target, .slice pa k pc, .slice sa o.syms.length sc] (.slice sq sn sr) T) ∧ Hid (T.map (·.1) = o.parts.map secPart ++ relSecs (symtabNo o) 0 (o.parts.take j)) ∧ Hid (wr.heap[w1.heap.size]? = some (.cells elfZ 51 (0, 0)))) (fun i _ => k - (intOf i).toNat)
        case atStart => exact ⟨0, sq, sn, sr, secsK L k, rfl, Nat.zero_le _, HIr, by rw [List.take_zero]; exact HE1.out.trans (List.append_nil _).symm, HRr⟩
        case round =>
          obtain ⟨j, tq, tn, tr, T, rfl, hj, HIj, HTM, HRj⟩ := hrel
          obtain ⟨c0, c1, c2⟩ := obj_box HIj.out.box
          have hbj := HIj.out.below.size
          have htl : T.length ≤ k + j := by
            have h1 := congrArg List.length HTM.out
            have h2 := relSecs_len (symtabNo o) (o.parts.take j) 0
            rw [List.length_map, List.length_append, List.length_map] at h1
            rw [List.length_take] at h2
            omega
          by_cases hlt2 : j < k
          · obtain ⟨x, hx⟩ : ∃ x, L[j]? = some x := ⟨_, List.getElem?_eq_getElem (by have := HNP.out; omega)⟩
            obtain ⟨b, oo, rfl, e0, e1, e2, e3, e4, e5, hb0⟩ := part_cells HP.out HIj.out.below hx
            have hxp : o.parts[j]? = some x.1 := by rw [HL.out, List.getElem?_map, hx]; rfl
            have hmem : x.1 ∈ o.parts := List.mem_of_getElem? hxp
            have HTK := Lib.hid (show relSecs (symtabNo o) 0 (o.parts.take (j + 1)) = relSecs (symtabNo o) 0 (o.parts.take j) ++ (if hasRel x.1 then [relSec (k + rc + 1) j x.1] else []) by
              have h1 : (o.parts.take j).length = j := by rw [List.length_take]; omega
              rw [List.take_add_one, hxp, Option.toList_some, relSecs_snoc, h1, Nat.zero_add, HST.out])
            have HWR := Lib.hid (fun wx (hb : Below w.heap.size w wx) => ref5WriteRela_any x.1.relas x.2.2 wx (HOK.out.wf.relas x.1 hmem).1 (fun r hr => ((HOK.out.wf.relas x.1 hmem).2 r hr).1) ((HH.out.rela x (List.mem_of_getElem? hx)).mono hb))
            have HWL := Lib.hid (relaW_len (HOK.out.wf.relas x.1 hmem).1)
            have HW0 := relW_0 HMO.out x.1 hmem
            rw [HW0] at HWR
            have hnm := name_short HMO.out x.1 hmem
            have HHR : Hid (hasRel x.1 = decide (x.1.relas ≠ [])) := rfl
            have HRS : Hid (relSec (k + rc + 1) j x.1 = ⟨relaN ++ x.1.name, 4, 64, 0, 8, (relaW x.1.relas).1.length, k + rc + 1, j + 1, 24, (relaW x.1.relas).1⟩) := rfl
            obtain ⟨md, ad, cd, -, hdv, -, -⟩ := (HH.out.data x (List.mem_of_getElem? hx)).shape
            obtain ⟨mr, ar, cr, hmr, hrv, -, -⟩ := (HH.out.rela x (List.mem_of_getElem? hx)).shape
            obtain ⟨⟨name, flags, align, size, data, relas⟩, dv, rv⟩ := x
            dsimp only at *
            subst hdv hrv
            clear hx hxp hmem HW0
            generalize hasRel ⟨name, flags, align, size, data, relas⟩ = hr at *
            generalize relSec (k + rc + 1) j ⟨name, flags, align, size, data, relas⟩ = rs at *
            generalize (relaW relas).1 = rb at *
            cases hr with
            | false =>
              have hm0 : mr = 0 := by
                have h1 := of_decide_eq_false HHR.out.symm
                have h2 : relas = [] := Classical.not_not.1 h1
                have := hmr.out
                rw [this, h2]
                rfl
              subst hm0
              go_wp2_with (first
                | ((with_reducible show wpList _ _ _ (⟨none, .store _ (.tmp 12) _, _, _, _, _⟩ :: _) _ _); go_must (refine wpList_storeNew rfl rfl (by kernel_rfl) rfl (by simp [Value.oneCell']) ?_; intro w6 hh6 hb6; have HI6 := Lib.hid (HIj.out.mono hb6); have HR6 := Lib.hid (heap_below hb6 HRj.out); obtain ⟨d0, d1, d2, d3, d4, d5⟩ := part_box (x := (⟨name, flags, align, size, data, relas⟩, .slice ad md cd, .slice ar 0 cr)) hh6; clear hh6 hb6)))
              go_roundw
              case rel => exact ⟨j + 1, tq, tn, tr, T, by go_num, by omega, HI6, by show T.map (·.1) = _; rw [HTK.out, HTM.out]; simp, HR6⟩
              case measure => simp [intOf] <;> omega
            | true =>
              have hm0 : ¬ mr = 0 := fun h => by
                have h1 := of_decide_eq_true HHR.out.symm
                exact h1 (List.length_eq_zero_iff.1 (by have := hmr.out; omega))
              have hcat : (⟨#[46, 114, 101, 108, 97]⟩ : ByteArray) ++ ⟨name.toArray⟩ = ⟨(relaN ++ name).toArray⟩ := cat_str relaN ⟨name.toArray⟩
              have hbig : ¬ 9223372036854775807 < 5 + name.length := by omega
              have hbig2 : ¬ 9223372036854775807 < name.length + 5 := by omega
              have hu3 : IntKind.u32.wrap ((j : Int) + 1) = ((j + 1 : Nat) : Int) := by
                rw [show ((j : Int) + 1) = ((j + 1 : Nat) : Int) by omega]
                exact u32W (by omega)
              have HNM := Lib.hid hnm
              clear hnm
              go_wp2_with (first
                | ((with_reducible show wpList _ _ _ (⟨none, .store _ (.tmp 12) _, _, _, _, _⟩ :: _) _ _); go_must (refine wpList_storeNew rfl rfl (by kernel_rfl) rfl (by simp [Value.oneCell']) ?_; intro w6 hh6 hb6; have HH6 := Lib.hid hh6; have HI6 := Lib.hid (HIj.out.mono hb6); have HR6 := Lib.hid (heap_below hb6 HRj.out); obtain ⟨d0, d1, d2, d3, d4, d5⟩ := part_box (x := (⟨name, flags, align, size, data, relas⟩, .slice ad md cd, .slice ar mr cr)) hh6; clear hh6 hb6))
                | (go_at_call 83; refine (HWR.out _ HI6.out.below).mono ?_; rintro e w7 ⟨v', rfl, hov, hb7⟩; have HI7 := Lib.hid (HI6.out.mono hb7); have HR7 := Lib.hid (heap_below hb7 HR6.out); have HOV := Lib.hid (hov.base HI6.out.below.size); obtain ⟨mv, qv, cv, hmv, rfl, -, -⟩ := hov.shape; have hmv9 : mv ≤ 24000 := (by have := hmv.out; have := HWL.out; omega); have huv := u64W (n := mv) (by omega); have z4 : w7.cell? ⟨w2.heap.size, 4, none⟩ = some (.slice tq tn tr) := cell_rec HI7.out.blk 4; obtain ⟨d0, d1, d2, d3, d4, d5⟩ := part_box (x := (⟨name, flags, align, size, data, relas⟩, .slice ad md cd, .slice ar mr cr)) (heap_below hb7 HH6.out); have HRS2 := Lib.hid (show rs = ⟨relaN ++ name, 4, 64, 0, 8, mv, k + rc + 1, j + 1, 24, rb⟩ by rw [HRS.out, hmv.out]); clear hb7 hov)
                | ((with_reducible show wpList _ _ _ (⟨some 113, _, _, _, _, _⟩ :: _) _ _); go_must (refine wpList_pushR TSec HI7.out.so rfl rfl (rs, .slice qv mv cv) (by rw [HRS2.out]; rfl) rfl (by rfl) (by omega) (by omega) HI7.out.below.size ?_; intro v8 w8 hv8 hg8 hb8; have HG8 := Lib.hid hg8; have HBL := Lib.hid (keeps_own HI7.out.so hg8 _ _ _ _ (show 51 ≠ 60 by decide) HI7.out.blk); have hsz8 : w.heap.size ≤ w8.heap.size := Nat.le_trans HI7.out.below.size hb8.size; obtain ⟨m8, q8, r8, -, rfl, _, _⟩ := hv8.shape; have HVV := Lib.hid hv8; clear hv8 hg8 hb8))
                | ((with_reducible show wpList _ _ _ (⟨none, .store _ (.tmp 114) _, _, _, _, _⟩ :: _) _ _); go_must (refine wpList_set HBL.out (Nat.lt_of_lt_of_eq (show 4 < 6 by decide) rfl) rfl rfl HG2 hsz8 (fun w => by kernel_rfl) ?_; intro w9 hh9 hb9 hs9; have HI9 := Lib.hid (FilInv.push HI7.out rfl HVV.out HG8.out (.inr (by rw [HRS2.out]; exact HOV.out)) hh9 hs9); have HR9 := Lib.hid (HI7.out.keep2 HG8.out hs9 HR7.out (by decide) hrg); clear hh9 hb9 hs9)))
              go_roundw
              case rel => exact ⟨j + 1, q8, m8, r8, T ++ [(rs, .slice qv mv cv)], by go_num, by omega, HI9, by show (T ++ _).map (·.1) = _; rw [HTK.out, List.map_append, HTM.out]; simp, HR9⟩
              case measure => simp [intOf] <;> omega
          · obtain rfl : j = k := by omega
            have HTE := Lib.hid (show T.map (·.1) = o.parts.map secPart ++ relSecs (symtabNo o) 0 o.parts by
              have := HTM.out
              rwa [List.take_of_length_le (by omega)] at this)
            have HSY : Hid (symSec o = ⟨symtabN, 2, 0, 0, 8, (symW o.syms).1.length, j + rc + 1 + 1, (symW o.syms).2.2.1, 24, (symW o.syms).1⟩) := by
              unfold Hid symSec
              rw [HST.out]
            have HSR : Hid (strSec o = ⟨strtabN, 3, 0, 0, 1, (symW o.syms).2.1.length, 0, 0, 0, (symW o.syms).2.1⟩) := rfl
            obtain ⟨n1, n2, n3⟩ := symW_len HOK.out.wf.many
            have hS0 := HMO.out.syms
            rw [hS0] at HSW
            have HEL := Lib.hid (show elfO o = ⟨1, o.target, fl, 0, o.parts.map secPart ++ relSecs (symtabNo o) 0 o.parts ++ [symSec o, strSec o], []⟩ from HELF.out)
            obtain ⟨c0, c1, c2⟩ := obj_box HIj.out.box
            generalize symSec o = ys at *
            generalize strSec o = zs at *
            have HN1 := Lib.hid n1
            have HN2 := Lib.hid n2
            clear HST
            generalize (symW o.syms).1 = yb at *
            generalize (symW o.syms).2.1 = zb at *
            generalize (symW o.syms).2.2.1 = lc at *
            have hu4 := u32W (n := lc) (by omega)
            clear hS0 HELF n1 n2 HTM HE1
            go_wp2_with (first
              | (go_at_call 84; refine (HSW.out _ HIj.out.below).mono ?_; rintro e w7 ⟨v1, v2, rfl, hy, hz, hb7⟩; have HI7 := Lib.hid (HIj.out.mono hb7); have HY := Lib.hid (hy.base HIj.out.below.size); have HZ := Lib.hid (hz.base HIj.out.below.size); obtain ⟨my, qy, cy, hmy, rfl, -, -⟩ := hy.shape; obtain ⟨mz, qz, cz, hmz, rfl, -, -⟩ := hz.shape; have hmy9 : my ≤ 24024 := (by have := hmy.out; have := HN1.out; omega); have hmz9 : mz ≤ 129001 := (by have := hmz.out; have := HN2.out; omega); have huy := u64W (n := my) (by omega); have huz := u64W (n := mz) (by omega); have HYS := Lib.hid (show ys = ⟨symtabN, 2, 0, 0, 8, my, j + rc + 1 + 1, lc, 24, yb⟩ by rw [HSY.out, hmy.out]); have HZS := Lib.hid (show zs = ⟨strtabN, 3, 0, 0, 1, mz, 0, 0, 0, zb⟩ by rw [HSR.out, hmz.out]); have z4 : w7.cell? ⟨w2.heap.size, 4, none⟩ = some (.slice tq tn tr) := cell_rec HI7.out.blk 4; have HR7 := Lib.hid (heap_below hb7 HRj.out); clear hb7 hy hz)
              | ((with_reducible show wpList _ _ _ (⟨some 140, _, _, _, _, _⟩ :: _) _ _); go_must (refine wpList_pushR TSec HI7.out.so rfl rfl (ys, .slice qy my cy) (by rw [HYS.out]; rfl) rfl (by rfl) (by omega) (by omega) HI7.out.below.size ?_; intro v8 w8 hv8 hg8 hb8; have HG8 := Lib.hid hg8; have HBL := Lib.hid (keeps_own HI7.out.so hg8 _ _ _ _ (show 51 ≠ 60 by decide) HI7.out.blk); have hsz8 : w.heap.size ≤ w8.heap.size := Nat.le_trans HI7.out.below.size hb8.size; obtain ⟨m8, q8, r8, -, rfl, _, _⟩ := hv8.shape; have HVV := Lib.hid hv8; clear hv8 hg8 hb8))
              | ((with_reducible show wpList _ _ _ (⟨none, .store _ (.tmp 141) _, _, _, _, _⟩ :: _) _ _); go_must (refine wpList_set HBL.out (Nat.lt_of_lt_of_eq (show 4 < 6 by decide) rfl) rfl rfl HG2 hsz8 (fun w => by kernel_rfl) ?_; intro w9 hh9 hb9 hs9; have HI9 := Lib.hid (FilInv.push HI7.out rfl HVV.out HG8.out (.inr (by rw [HYS.out]; exact HY.out)) hh9 hs9); have HR9 := Lib.hid (HI7.out.keep2 HG8.out hs9 HR7.out (by decide) hrg); have HZ9 := Lib.hid (owns_stirs (owns_grown HZ.out HG8.out (fun k hk hk2 => Go.Fd.own_apart HZ.out HI7.out.so (by decide) hk hk2)) hs9 (own_ne (owns_grown HZ.out HG8.out (fun k hk hk2 => Go.Fd.own_apart HZ.out HI7.out.so (by decide) hk hk2)) HBL.out (by decide))); have z4 : w9.cell? ⟨w2.heap.size, 4, none⟩ = some (.slice q8 m8 r8) := cell_rec HI9.out.blk 4; clear hh9 hb9 hs9))
              | ((with_reducible show wpList _ _ _ (⟨some 150, _, _, _, _, _⟩ :: _) _ _); go_must (refine wpList_pushR TSec HI9.out.so rfl rfl (zs, .slice qz mz cz) (by rw [HZS.out]; rfl) rfl (by rfl) (by rw [List.length_append]; simp; omega) (by rw [List.length_append]; simp; omega) HI9.out.below.size ?_; intro va wa hva hga hba; have HGA := Lib.hid hga; have HBA := Lib.hid (keeps_own HI9.out.so hga _ _ _ _ (show 51 ≠ 60 by decide) HI9.out.blk); have hsza : w.heap.size ≤ wa.heap.size := Nat.le_trans HI9.out.below.size hba.size; obtain ⟨ma, qa, ra, -, rfl, _, _⟩ := hva.shape; have HVA := Lib.hid hva; clear hva hga hba))
              | ((with_reducible show wpList _ _ _ (⟨none, .store _ (.tmp 151) _, _, _, _, _⟩ :: _) _ _); go_must (refine wpList_set HBA.out (Nat.lt_of_lt_of_eq (show 4 < 6 by decide) rfl) rfl rfl HG2 hsza (fun w => by kernel_rfl) ?_; intro wb hhb hbb hsb; have HIB := Lib.hid (FilInv.push HI9.out rfl HVA.out HGA.out (.inr (by rw [HZS.out]; exact HZ9.out)) hhb hsb); have HRB := Lib.hid (HI9.out.keep2 HGA.out hsb HR9.out (by decide) hrg); obtain ⟨z0, z1, z2, z3, z4, z5⟩ := elf_box (e := ⟨1, o.target, fl, 0, [], []⟩) HIB.out.blk; clear hhb hbb hsb))
              | ((with_reducible show wpList _ _ _ (⟨none, .store _ (.tmp 2) _, _, _, _, _⟩ :: _) _ _); go_must (refine wpList_storeElfS HRB.out rfl rfl rfl rfl (by simp [Value.oneCell']) ?_; intro wc hhc hsc2; have HHC := Lib.hid hhc; have HIC := Lib.hid (HIB.out.stir HRB.out hrg HB1.out.size hsc2); clear hhc hsc2)))
            refine bodyPost_ret (obRow2 rfl _ _ w1.heap.size _ _ _ _ rfl HHC.out rfl rfl (by kernel_rfl)) rfl ⟨T ++ [(ys, .slice qy my cy)] ++ [(zs, .slice qz mz cz)], .slice qa ma ra, ?_, ⟨by rw [HEL.out]; show _ = (T ++ _ ++ _).map (·.1); rw [List.map_append, List.map_append, HTE.out]; simp, HIC.out.so.rd, HIC.out.bs, by rw [HEL.out]; exact RdR.nil _ _ _⟩, HIC.out.below⟩
            rw [show elfV (elfO o) (.slice qa ma ra) (.slice none 0 0) = .agg #[.int .i64 1, .int .i64 o.target, .int .u32 (fl : Int), .int .u64 0, .slice qa ma ra, .slice none 0 0] from by rw [HEL.out]; rfl]
            rfl)
end Go.Proofs.YtimnbnomaajmmaaGreat
namespace Go.Fd
open Go.RowKit
section
variable {P : Program} {L : List Oper} {Q : Exit → Act → World → Prop} {S : World → Prop} {fuel i : Nat} {listed : Array Bool} {a : Act} {w : World} {o : Oper}
structure Of (S : World → Prop) where
  w : World
  h : S w
theorem heldS_quiet (hi : L[i]? = some o) (hB : (Region.noSelect L.toArray && Region.free .any L.toArray listed i && (Region.ready .any L.toArray listed).contains i) = true) (hw : Region.wanted o (yielded L.toArray a.tmps) = true) (hv : valB o = true) [_hne : Nonempty (Of S)]
    (hQ : ∀ v c a w, Q (.panic c) (a.put o.dst v) w → Q (.panic c) a w) (hb : S w)
    (h : ∀ K : Act → Prop, (∀ a, wpAnyH P .any L.toArray Q S fuel (listed.setIfInBounds i true) a w → K a) → o.quiet P a (fun w => ∃ x : Of S, w = x.w) K) : wpAnyH P .any L.toArray Q S (fuel + 1) listed a w := by
  simp only [Bool.and_eq_true] at hB
  obtain ⟨⟨h1, h2⟩, h3⟩ := hB
  obtain ⟨v, k1, k2⟩ := h (fun a => wpAnyH P .any L.toArray Q S fuel (listed.setIfInBounds i true) a w) (fun _ h => h)
  refine wpAnyH_take (i := i) (oi := o) (v := v) (by simpa using hi) h1 h2 h3 (hQ v) (.inl ⟨hw, fun w' hw' => ?_⟩) hb k2
  have := k1 w' ⟨⟨w', hw'⟩, rfl⟩
  unfold Oper.quietAt at this
  generalize hr : (execOp a.eval o).run P w' = res at this
  cases res with
  | halt x w2 => exact this.elim
  | ok n w2 =>
    obtain ⟨u, rfl⟩ := valB_spec hv hr
    obtain ⟨rfl, rfl⟩ := (this : w2 = w' ∧ u = v)
    rfl
/-- One operation alone may come up. -/
theorem heldS_one (hr : Region.ready .any L.toArray listed = [i]) (hi : L[i]? = some o)
    (h : wpList P L.toArray (Exit.then (fun a' w' => S w' ∧ wpAnyH P .any L.toArray Q S fuel (listed.setIfInBounds i true) a' w') Q) [o] a w) : wpAnyH P .any L.toArray Q S (fuel + 1) listed a w := by
  refine wpAnyH_all hr (by simp) ?_
  intro j hj
  rw [List.mem_singleton] at hj
  subst hj
  exact wpOp_of_list (by simpa using hi) h
end
end Go.Fd
namespace Go.Proofs.YtimnbnomaajmmaaGreat
open Go.RowKit Go.Fd
/-- A module in memory of its own. -/
structure ObjOwn (w : World) (base : Nat) (o : ObjM) (PL : List (PartM × Value × Value)) (pv sv : Value) : Prop where
  parts : o.parts = PL.map (·.1)
  po : OwR 6 encPart 38 w base pv PL
  data : ∀ p ∈ PL, OB w base p.2.1 p.1.data
  rela : ∀ p ∈ PL, OwR 4 encRela 57 w base p.2.2 p.1.relas
  so : OwR 6 encSym 41 w base sv o.syms
  apd : PL.Pairwise fun p q => ∀ k, p.2.1.ownBlock = some k → q.2.1.ownBlock ≠ some k
  apr : PL.Pairwise fun p q => ∀ k, p.2.2.ownBlock = some k → q.2.2.ownBlock ≠ some k
theorem ObjOwn.at {w : World} {base : Nat} {o : ObjM} {PL : List (PartM × Value × Value)} {pv sv : Value} (h : ObjOwn w base o PL pv sv) : ObjAt w o PL pv sv :=
  ⟨h.parts, h.po.rd, fun p hp => (h.data p hp).bs, fun p hp => (h.rela p hp).rd, h.so.rd⟩
theorem ObjOwn.mono {w w' : World} {base : Nat} {o : ObjM} {PL : List (PartM × Value × Value)} {pv sv : Value} (h : ObjOwn w base o PL pv sv) (hb : Below w.heap.size w w') : ObjOwn w' base o PL pv sv :=
  ⟨h.parts, h.po.mono hb, fun p hp => (h.data p hp).mono hb, fun p hp => (h.rela p hp).mono hb, h.so.mono hb, h.apd, h.apr⟩
theorem ObjOwn.base {w : World} {base base' : Nat} {o : ObjM} {PL : List (PartM × Value × Value)} {pv sv : Value} (h : ObjOwn w base o PL pv sv) (hb : base' ≤ base) : ObjOwn w base' o PL pv sv :=
  ⟨h.parts, h.po.rebase hb, fun p hp => (h.data p hp).base hb, fun p hp => (h.rela p hp).rebase hb, h.so.rebase hb, h.apd, h.apr⟩
abbrev objZ : Array Value := #[.int .i64 0, .slice none 0 0, .slice none 0 0]
/-- While sections are gone over: the module stands in block g, the result's block is r, the file is in block b, the map in block mb. -/
structure ModInv (w wr : World) (base g r b mb : Nat) (bx : Array Value) (tg : Int) (pc sc pv sv : Value) (PL : List (PartM × Value × Value)) (Y : List SymM) (A : List (List UInt8 × Nat)) : Prop where
  blk : wr.heap[g]? = some (.cells #[.int .i64 tg, pc, sc] 28 (0, 0))
  res : wr.heap[r]? = some (.cells objZ 28 (0, 0))
  box : wr.heap[b]? = some (.cells bx 51 (0, 0))
  map : MapIs Tryz.prog 9 S wr mb (A.map entE)
  po : OwR 6 encPart 38 wr w.heap.size pv PL
  so : OwR 6 encSym 41 wr w.heap.size sv Y
  data : ∀ p ∈ PL, OB w base p.2.1 p.1.data
  rela : ∀ p ∈ PL, OwR 4 encRela 57 wr w.heap.size p.2.2 p.1.relas
  apd : PL.Pairwise fun p q => ∀ k, p.2.1.ownBlock = some k → q.2.1.ownBlock ≠ some k
  apr : PL.Pairwise fun p q => ∀ k, p.2.2.ownBlock = some k → q.2.2.ownBlock ≠ some k
  below : Below w.heap.size w wr
  hg : w.heap.size ≤ g
  hr : w.heap.size ≤ r
  ne : r ≠ g
  hm : w.heap.size ≤ mb
theorem cells_ne {w : World} {a b : Nat} {c1 c2 : Array Value} {t1 t2 : TypeId} {f1 f2 : Nat × Nat} (h1 : w.heap[a]? = some (.cells c1 t1 f1)) (h2 : w.heap[b]? = some (.cells c2 t2 f2)) (hne : t1 ≠ t2) : a ≠ b := fun e => by
  rw [e, h2] at h1
  injection h1 with h1
  injection h1 with _ h1 _
  exact hne h1.symm
theorem map_ne {κ : Type} {mk : κ → Value} {P : Program} {k : TypeId} {w : World} {a b : Nat} {c1 : Array Value} {t1 : TypeId} {f1 : Nat × Nat} {E : List (κ × Value)} (h1 : w.heap[a]? = some (.cells c1 t1 f1)) (h2 : MapIs P k mk w b E) : b ≠ a := fun e => by
  obtain ⟨es, c, hb, -⟩ := h2
  rw [e, h1] at hb
  cases hb
section
variable {w wr w1 w2 w' : World} {base g r b mb : Nat} {bx : Array Value} {tg : Int} {pc sc pc' sc' pv pv' sv sv' : Value} {PL : List (PartM × Value × Value)} {Y Y' : List SymM} {A A' : List (List UInt8 × Nat)}
theorem ModInv.mono (h : ModInv w wr base g r b mb bx tg pc sc pv sv PL Y A) (hb : Below wr.heap.size wr w') : ModInv w w' base g r b mb bx tg pc sc pv sv PL Y A :=
  ⟨heap_below hb h.blk, heap_below hb h.res, heap_below hb h.box, h.map.mono hb, h.po.mono hb, h.so.mono hb, h.data, fun p hp => (h.rela p hp).mono hb, h.apd, h.apr, h.below.trans (hb.mono h.below.size), h.hg, h.hr, h.ne, h.hm⟩
/-- The module's own cells are written. -/
theorem ModInv.store (h : ModInv w wr base g r b mb bx tg pc sc pv sv PL Y A) (hb : w2.heap[g]? = some (.cells #[.int .i64 tg, pc', sc'] 28 (0, 0))) (hs : Stirs (fun k => k = g) wr w2) : ModInv w w2 base g r b mb bx tg pc' sc' pv sv PL Y A :=
  ⟨hb, hs.kept h.res h.ne, hs.kept h.box (cells_ne h.box h.blk (by decide)), h.map.block (hs.block mb h.map.lt (map_ne h.blk h.map)), owns_stirs h.po hs (own_ne h.po h.blk (by decide)), owns_stirs h.so hs (own_ne h.so h.blk (by decide)), h.data, fun p hp => owns_stirs (h.rela p hp) hs (own_ne (h.rela p hp) h.blk (by decide)), h.apd, h.apr,
    h.below.trans (hs.below h.below.size fun k hk => by rw [hk]; exact h.hg), h.hg, h.hr, h.ne, h.hm⟩
/-- An entry put into the map. -/
theorem ModInv.put (h : ModInv w wr base g r b mb bx tg pc sc pv sv PL Y A) (hm : MapIs Tryz.prog 9 S w2 mb (A'.map entE)) (hg : wr.grownBy w2 (some mb)) : ModInv w w2 base g r b mb bx tg pc sc pv sv PL Y A' := by
  have hs : Stirs (fun k => k = mb) wr w2 := Stirs.of_grown hg fun k hk => (Option.some.inj hk).symm
  exact ⟨hs.kept h.blk (fun e => map_ne h.blk h.map e.symm), hs.kept h.res (fun e => map_ne h.res h.map e.symm), hs.kept h.box (fun e => map_ne h.box h.map e.symm), hm, owns_grown h.po hg (fun k hk e => own_noMap' h.po h.map (by rw [hk]; exact e)), owns_grown h.so hg (fun k hk e => own_noMap' h.so h.map (by rw [hk]; exact e)), h.data,
    fun p hp => owns_grown (h.rela p hp) hg (fun k hk e => own_noMap' (h.rela p hp) h.map (by rw [hk]; exact e)), h.apd, h.apr, h.below.trans (hs.below h.below.size fun k hk => by rw [hk]; exact h.hm), h.hg, h.hr, h.ne, h.hm⟩
/-- A part more. -/
theorem ModInv.grow {x : PartM × Value × Value} (h : ModInv w wr base g r b mb bx tg pc sc pv sv PL Y A) (ho : OwR 6 encPart 38 w1 w.heap.size pv' (PL ++ [x])) (hgr : wr.grownBy w1 pv.ownBlock) (hd : OB w base x.2.1 x.1.data) (hr : x.2.2 = .slice none 0 0) (hx : x.1.relas = []) (ha : ∀ p ∈ PL, ∀ k, p.2.1.ownBlock = some k → x.2.1.ownBlock ≠ some k) : ModInv w w1 base g r b mb bx tg pc sc pv' sv (PL ++ [x]) Y A := by
  have hk := keeps_own h.po hgr
  refine ⟨hk _ _ _ _ (show 28 ≠ 38 by decide) h.blk, hk _ _ _ _ (show 28 ≠ 38 by decide) h.res, hk _ _ _ _ (show 51 ≠ 38 by decide) h.box, h.map.kept hgr (own_noMap' h.po h.map), ho, owns_grown h.so hgr (fun k hk hk2 => Go.Fd.own_apart h.so h.po (by decide) hk hk2), fun p hp => ?_, fun p hp => ?_, ?_, ?_, h.below.trans (below_of_grown hgr h.below.size fun k hk => (World.ownsRow.lt h.po k hk).1), h.hg, h.hr, h.ne, h.hm⟩
  · rcases List.mem_append.1 hp with hp | hp
    · exact h.data p hp
    · rw [List.mem_singleton] at hp
      rw [hp]; exact hd
  · rcases List.mem_append.1 hp with hp | hp
    · exact owns_grown (h.rela p hp) hgr (fun k hk hk2 => Go.Fd.own_apart (h.rela p hp) h.po (by decide) hk hk2)
    · rw [List.mem_singleton] at hp
      rw [hp, hr, hx]; exact OwR.nil _ _ _ _ _
  · exact List.pairwise_append.2 ⟨h.apd, List.pairwise_singleton _ _, fun p hp q hq => by rw [List.mem_singleton] at hq; rw [hq]; exact ha p hp⟩
  · exact List.pairwise_append.2 ⟨h.apr, List.pairwise_singleton _ _, fun p hp q hq k _ hk2 => by rw [List.mem_singleton] at hq; rw [hq, hr] at hk2; cases hk2⟩
theorem pairwise_set {α : Type} {R : α → α → Prop} {l : List α} {i : Nat} {y : α} (h : l.Pairwise R) (h1 : ∀ (j : Nat) (x : α), j ≠ i → l[j]? = some x → R x y ∧ R y x) : (l.set i y).Pairwise R := by
  rw [List.pairwise_iff_getElem] at *
  intro a c ha hc hac
  rw [List.length_set] at ha hc
  rw [List.getElem_set, List.getElem_set]
  by_cases e1 : i = a
  · rw [if_pos e1, if_neg (by omega)]
    exact (h1 c _ (by omega) (List.getElem?_eq_getElem hc)).2
  · rw [if_neg e1]
    by_cases e2 : i = c
    · rw [if_pos e2]
      exact (h1 a _ (by omega) (List.getElem?_eq_getElem ha)).1
    · rw [if_neg e2]
      exact h a c ha hc hac
/-- A part's relocations. -/
theorem ModInv.row {i : Nat} {x : PartM × Value × Value} {l : List RelaM} {rv : Value} (h : ModInv w wr base g r b mb bx tg pc sc pv sv PL Y A) (hi : PL[i]? = some x) (ho : OwR 4 encRela 57 wr w.heap.size rv l) (hf : ∀ p ∈ PL, ∀ k, rv.ownBlock = some k → p.2.2.ownBlock ≠ some k)
    (hp2 : OwR 6 encPart 38 w2 w.heap.size pv (PL.set i ({ x.1 with relas := l }, x.2.1, rv))) (hs : Stirs (fun k => pv.ownBlock = some k) wr w2) : ModInv w w2 base g r b mb bx tg pc sc pv sv (PL.set i ({ x.1 with relas := l }, x.2.1, rv)) Y A := by
  have hno : ∀ {c : Nat} {cs : Array Value} {t : TypeId} {fr : Nat × Nat}, wr.heap[c]? = some (.cells cs t fr) → t ≠ 38 → ¬ pv.ownBlock = some c := fun hc ht e => own_ne h.po hc ht _ e rfl
  have hap : ∀ {n base e size : Nat} {v : Value} {xs : List Value}, wr.ownsRow base e size v n xs → e ≠ 38 → ∀ k, v.ownBlock = some k → ¬ pv.ownBlock = some k := fun hv he k hk hk2 => Go.Fd.own_apart hv h.po he hk hk2
  refine ⟨hs.kept h.blk (hno h.blk (by decide)), hs.kept h.res (hno h.res (by decide)), hs.kept h.box (hno h.box (by decide)), h.map.block (hs.block mb h.map.lt fun e => own_noMap' h.po h.map e.symm), hp2, owns_stirs h.so hs (hap h.so (by decide)), fun p hp => ?_, fun p hp => ?_, ?_, ?_, h.below.trans (hs.below h.below.size fun k hk => (World.ownsRow.lt h.po k hk).1), h.hg, h.hr, h.ne, h.hm⟩
  · rcases List.mem_or_eq_of_mem_set hp with hp | rfl
    · exact h.data p hp
    · exact h.data x (List.mem_of_getElem? hi)
  · rcases List.mem_or_eq_of_mem_set hp with hp | rfl
    · exact owns_stirs (h.rela p hp) hs (hap (h.rela p hp) (by decide))
    · exact owns_stirs ho hs (hap ho (by decide))
  · refine pairwise_set h.apd fun j y hj hy => ?_
    obtain ⟨h1, h2⟩ := List.getElem?_eq_some_iff.1 hy
    obtain ⟨h3, h4⟩ := List.getElem?_eq_some_iff.1 hi
    have hpw := List.pairwise_iff_getElem.1 h.apd
    rcases Nat.lt_or_gt_of_ne hj with h5 | h5
    · have h6 := hpw j i h1 h3 h5
      rw [h2, h4] at h6
      exact ⟨h6, fun k hk hk2 => h6 k hk2 hk⟩
    · have h6 := hpw i j h3 h1 h5
      rw [h2, h4] at h6
      exact ⟨fun k hk hk2 => h6 k hk2 hk, h6⟩
  · refine pairwise_set h.apr fun j y hj hy => ?_
    have hy' := List.mem_of_getElem? hy
    exact ⟨fun k hk hk2 => hf y hy' k hk2 hk, hf y hy'⟩
end
end Go.Proofs.YtimnbnomaajmmaaGreat
namespace Go.Proofs.YtimnbnomaajmmaaGreat
open Go.RowKit Go.Fd
theorem run_allocObj {a : Act} {w : World} {d : Option Tmp} {ty : TypeId} {pos : String} {aft : Array Edge} {g : Option (Nat × Bool)} :
    (execOp a.eval ⟨d, .alloc 28, ty, pos, aft, g⟩).run Tryz.prog w = .ok (.value (.pointer (some ⟨w.heap.size, 0, none⟩))) (w.alloc (.cells objZ 28)) := by
  kernel_rfl
theorem wpList_allocObj {ops : Array Oper} {rest : List Oper} {Q : Exit → Act → World → Prop} {a : Act} {w : World} {d : Option Tmp} {ty : TypeId} {pos : String} {aft : Array Edge}
    (h : ∀ w1, w1.heap[w.heap.size]? = some (.cells objZ 28 (0, 0)) → Below w.heap.size w w1 → w.heap.size < w1.heap.size → wpList Tryz.prog ops Q rest (a.put d (.pointer (some ⟨w.heap.size, 0, none⟩))) w1) :
    wpList Tryz.prog ops Q (⟨d, .alloc 28, ty, pos, aft, none⟩ :: rest) a w :=
  wpList_val rfl run_allocObj (h (w.alloc (.cells objZ 28)) (heap_alloc_last w _) (below_alloc w _) (by rw [World.size_alloc]; omega))
/-- A whole module into a block that was made; what else stays. -/
theorem wpList_storeObjS {ops : Array Oper} {rest : List Oper} {Q : Exit → Act → World → Prop} {a : Act} {w : World} {d : Option Tmp} {ty : TypeId} {pos : String} {aft : Array Edge} {p x : Operand} {c c' : Array Value} {g : Nat} (hg : w.heap[g]? = some (.cells c 28 (0, 0))) (hp : a.eval p = .pointer (some ⟨g, 0, none⟩)) (hx : a.eval x = .agg c')
    (ho : c.size = c'.size) (hs : c'.size = 3) (h1 : c'.all (·.oneCell') = true)
    (h : ∀ w1, w1.heap[g]? = some (.cells c' 28 (0, 0)) → Stirs (fun k => k = g) w w1 → wpList Tryz.prog ops Q rest (a.put d undef) w1) :
    wpList Tryz.prog ops Q (⟨d, .store 28 p x, ty, pos, aft, none⟩ :: rest) a w :=
  wpList_storeRowS hg hp hx ho (by rw [hs]; kernel_rfl) h1 h
theorem putE_put (A : List (List UInt8 × Nat)) (s : List UInt8) (n : Nat) : putE (A.map entE) s (I64 n) = (putN A s n).map entE := by
  have hm : (A.map entE).map (·.1) = A.map (·.1) := by rw [List.map_map]; rfl
  unfold putE putN
  rw [hm]
  by_cases h : s ∈ A.map (·.1)
  · rw [if_pos h, if_pos h, List.map_map, List.map_map]
    apply List.map_congr_left
    intro p _
    show (if (entE p).1 = s then _ else _) = entE (if p.1 = s then _ else _)
    by_cases e : p.1 = s
    · rw [if_pos (show (entE p).1 = s from e), if_pos e]; rfl
    · rw [if_neg (show ¬ (entE p).1 = s from e), if_neg e]
  · rw [if_neg h, if_neg h, List.map_append]
    rfl
theorem putN_len (A : List (List UInt8 × Nat)) (s : List UInt8) (n : Nat) : (putN A s n).length ≤ A.length + 1 := by
  unfold putN
  split
  · rw [List.length_map]; omega
  · rw [List.length_append]; simp
theorem trim_is (s : List UInt8) : Lib.trimPrefix s relaN = trimRel s := by
  unfold Lib.trimPrefix trimRel
  rw [pre_rel]
  by_cases h : s.take 5 = relaN
  · rw [decide_eq_true h, if_pos rfl, if_pos h]; rfl
  · rw [decide_eq_false h, if_neg (by simp), if_neg h]
theorem flat_set {α : Type} {k : Nat} {enc : α → List Value} (hk : ∀ x, (enc x).length = k) {x y : α} {c : Nat} {v : Value} (hc : c < k) (hy : enc y = (enc x).set c v) : ∀ (l : List α) (i : Nat), l[i]? = some x → (l.flatMap enc).set (i * k + c) v = (l.set i y).flatMap enc := by
  intro l
  induction l with
  | nil => intro i h; simp at h
  | cons z l ih =>
    intro i h
    cases i with
    | zero =>
      simp at h
      subst h
      rw [Nat.zero_mul, Nat.zero_add, List.set_cons_zero, List.flatMap_cons, List.flatMap_cons, List.set_append, if_pos (by rw [hk]; exact hc), hy]
    | succ i =>
      rw [List.set_cons_succ, List.flatMap_cons, List.flatMap_cons, List.set_append, if_neg (by rw [hk, Nat.succ_mul]; omega), hk, Nat.succ_mul, show i * k + k + c - k = i * k + c by omega, ih i (by simpa using h)]
theorem setRel_set {PL : List (PartM × Value × Value)} {i : Nat} {x : PartM × Value × Value} {l : List RelaM} {rv : Value} (h : PL[i]? = some x) : (PL.set i ({ x.1 with relas := l }, x.2.1, rv)).map (·.1) = setRel (PL.map (·.1)) i l := by
  unfold setRel
  apply List.ext_getElem?
  intro j
  rw [List.getElem?_map, List.getElem?_set, List.getElem?_modify, List.getElem?_map]
  by_cases e : i = j
  · subst e
    obtain ⟨hlt, hx⟩ := List.getElem?_eq_some_iff.1 h
    simp [hlt, ← hx]
  · simp [e]
/-- What is still to be gone over. -/
def restP (T : List (SecM × Value)) (k : Nat) (ps : List PartM) (A : List (List UInt8 × Nat)) : Option (List PartM) := modP ((T.drop k).map (·.1)) ps A
theorem restP_end (T : List (SecM × Value)) (ps : List PartM) (A : List (List UInt8 × Nat)) : restP T T.length ps A = some ps := by
  unfold restP
  rw [List.drop_length]
  rfl
theorem restP_part {T : List (SecM × Value)} {k : Nat} {x : SecM × Value} {ps : List PartM} {A : List (List UInt8 × Nat)} (h : T[k]? = some x) (ht : x.1.typ ≠ 4) : restP T k ps A = restP T (k + 1) (ps ++ [partOf x.1]) (putN A x.1.name ps.length) := by
  unfold restP
  rw [drop_get h, List.map_cons, modP, if_pos ht]
theorem restP_none {T : List (SecM × Value)} {k : Nat} {x : SecM × Value} {ps : List PartM} {A : List (List UInt8 × Nat)} (h : T[k]? = some x) (ht : x.1.typ = 4) (hl : lkp A (trimRel x.1.name) = none) : restP T k ps A = none := by
  unfold restP
  rw [drop_get h, List.map_cons, modP, if_neg (by omega), hl]
theorem restP_some {T : List (SecM × Value)} {k i : Nat} {x : SecM × Value} {ps : List PartM} {A : List (List UInt8 × Nat)} (h : T[k]? = some x) (ht : x.1.typ = 4) (hl : lkp A (trimRel x.1.name) = some i) : restP T k ps A = if (relaRd x.1.data).2 ≠ 0 then none else restP T (k + 1) (setRel ps i (relaRd x.1.data).1) A := by
  unfold restP
  rw [drop_get h, List.map_cons, modP, if_neg (by omega), hl]
theorem ModInv.own {w wr w' : World} {base g r b mb : Nat} {bx : Array Value} {tg : Int} {pc sc pv sv : Value} {PL : List (PartM × Value × Value)} {Y : List SymM} {A : List (List UInt8 × Nat)} (h : ModInv w wr base g r b mb bx tg pc sc pv sv PL Y A) (hs : Stirs (fun k => k = r) wr w') (hb : base ≤ w.heap.size) : ObjOwn w' base ⟨tg, PL.map (·.1), Y⟩ PL pv sv :=
  ⟨rfl, OwR.rebase (owns_stirs h.po hs (own_ne h.po h.res (by decide))) hb, fun p hp => (h.data p hp).mono (h.below.trans (hs.below h.below.size fun k hk => by rw [hk]; exact h.hr)), fun p hp => OwR.rebase (owns_stirs (h.rela p hp) hs (own_ne (h.rela p hp) h.res (by decide))) hb, OwR.rebase (owns_stirs h.so hs (own_ne h.so h.res (by decide))) hb, h.apd, h.apr⟩
theorem run_onePart {x : Operand} {p : PartM} {d1 d2 : Option Addr} {m c m2 c2 : Nat} {a : Act} {w : World} {d : Option Tmp} {ty : TypeId} {pos : String} {aft : Array Edge} {g : Option (Nat × Bool)} (hx : a.eval x = partV (p, .slice d1 m c, .slice d2 m2 c2)) :
    (execOp a.eval ⟨d, .buildSlice 25 1 #[(0, x)], ty, pos, aft, g⟩).run Tryz.prog w = .ok (.value (.slice (some ⟨w.heap.size, 0, none⟩) 1 1)) (w.alloc (.cells (encPart (p, .slice d1 m c, .slice d2 m2 c2)).toArray 38)) := by
  simp only [execOp, List.map_toArray, List.map_cons, List.map_nil, hx]
  kernel_rfl
theorem onePart {L : List (PartM × Value × Value)} (h : ∀ p ∈ L, p.2.1.oneCell' = true ∧ p.2.2.oneCell' = true) : (L.flatMap encPart).all (·.oneCell') = true := by
  rw [List.all_eq_true]
  intro x hx
  obtain ⟨p, hp, hx⟩ := List.mem_flatMap.1 hx
  have := h p hp
  simp only [encPart, List.mem_cons, List.not_mem_nil, or_false] at hx
  rcases hx with rfl | rfl | rfl | rfl | rfl | rfl <;> first | rfl | exact this.1 | exact this.2
/-- How it ends. -/
def ModRes (md : List SecM → Option (List PartM)) (e : ElfM) (base : Nat) (r : Ending) (w : World) : Prop :=
  (∃ o PL pv sv, secsO md e = some o ∧ r = .returned (.tuple #[objV o pv sv, .bool true]) ∧ ObjOwn w base o PL pv sv) ∨
  (secsO md e = none ∧ ∃ t a1 n1 c1 a2 n2 c2, r = .returned (.tuple #[.agg #[.int .i64 t, .slice a1 n1 c1, .slice a2 n2 c2], .bool false]))
set_option maxHeartbeats 16000000 in
set_option maxRecDepth 100000 in
theorem module6_any (e : ElfM) (L : List (SecM × Value)) (sv gv : Value) (base : Nat) (w : World) (h : ElfOwn w base e L sv gv) (hap : ApartS L) (hl : e.secs.length ≤ 1000) (hd : ∀ s ∈ e.secs, s.data.length ≤ 1000000 ∧ s.name.length ≤ 1000000000 ∧ (s.typ = 4 → s.data.length ≤ 24000)) (hx2 : ∀ s, e.secs[e.secs.length - 2]? = some s → s.data.length ≤ 100000) (hfit : e.fits) (hbase : base ≤ w.heap.size) :
    Calls Tryz.prog 15 #[elfV e sv gv] w fun r w' => ModRes (fun l => modP l [] []) e base r w' ∧ Below w.heap.size w w' := by
  have HH := Lib.hid h
  have HAP := Lib.hid hap
  have HD := Lib.hid hd
  have HX2' := Lib.hid hx2
  have HFT := Lib.hid hfit
  obtain ⟨xa, xc, rfl, hxc, -, hX⟩ := h.so.rd.open (fun _ => rfl)
  have HX := Lib.hid hX
  have hsl : e.secs.length = L.length := by rw [h.secs, List.length_map]
  have HES := Lib.hid h.secs
  have HSO : Hid (secsO (fun l => modP l [] []) e = if e.secs.length < 2 then none else if (symRd (e.secs[e.secs.length - 2]?.elim [] (·.data)) (e.secs[e.secs.length - 1]?.elim [] (·.data))).2 ≠ 0 then none else (modP (e.secs.take (e.secs.length - 2)) [] []).map fun ps => ⟨e.target, ps, (symRd (e.secs[e.secs.length - 2]?.elim [] (·.data)) (e.secs[e.secs.length - 1]?.elim [] (·.data))).1⟩) := rfl
  rw [hsl] at HSO hl
  obtain ⟨nl, hnl⟩ : ∃ n, n = L.length := ⟨_, rfl⟩
  rw [← hnl] at HSO hl hxc ⊢
  have HNL := Lib.hid hnl
  obtain ⟨gm, ga, gc, -, rfl, -, -⟩ := h.go.shape
  have HSLN := Lib.hid (hsl.trans hnl.symm)
  clear h hap hd hx2 hfit hX hsl hnl
  by_cases h2 : nl < 2
  · have HR := Lib.hid (show secsO (fun l => modP l [] []) e = none by rw [HSO.out, if_pos h2])
    go_enter Tryz.func15, Tryz.ntmps15
    go_wp2_with (first
      | ((with_reducible show wpList _ _ _ (⟨some 1, .box _ _, _, _, _, _⟩ :: _) _ _); go_must (refine wpList_box rfl ?_; intro w1 hx1 hb1 hs1; have HX1 := Lib.hid hx1; have HB1 := Lib.hid hb1; clear hx1 hb1))
      | ((with_reducible show wpList _ _ _ (⟨some 2, .alloc _, _, _, _, _⟩ :: _) _ _); go_must (refine wpList_allocObj ?_; intro w2 hx2 hb2 hs2; have HR2 := Lib.hid hx2; have HX2 := Lib.hid (heap_below hb2 HX1.out); have HB2 := Lib.hid (HB1.out.trans (hb2.mono HB1.out.size)); obtain ⟨c0, c1, c2, c3, c4, c5⟩ := elf_box HX2.out; clear hx2 hb2))
      | ((with_reducible show wpList _ _ _ (⟨some 4, .alloc _, _, _, _, _⟩ :: _) _ _); go_must (refine wpList_allocObj ?_; intro w3 hx3 hb3 hs3; have HE3 := Lib.hid hx3; have HR3 := Lib.hid (heap_below hb3 HR2.out); have HX3 := Lib.hid (heap_below hb3 HX2.out); have HB3 := Lib.hid (HB2.out.trans (hb3.mono HB2.out.size)); clear hx3 hb3))
      | ((with_reducible show wpList _ _ _ (⟨none, .store _ (.tmp 4) _, _, _, _, _⟩ :: _) _ _); go_must (refine wpList_storeObjS HE3.out rfl rfl rfl rfl (by simp [Value.oneCell']) ?_; intro w4 hh4 hs4; have HE4 := Lib.hid hh4; have HX4 := Lib.hid (hs4.kept HX3.out (by omega)); have HR4 := Lib.hid (hs4.kept HR3.out (by omega)); have HB4 := Lib.hid (HB3.out.trans (hs4.below HB3.out.size (fun k hk => by rw [hk]; exact HB2.out.size))); obtain ⟨c0, c1, c2, c3, c4, c5⟩ := elf_box HX4.out; obtain ⟨z0, z1, z2⟩ := obj_box HE4.out; clear hh4 hs4))
      | ((with_reducible show wpList _ _ _ (⟨none, .store _ (.tmp 2) _, _, _, _, _⟩ :: _) _ _); go_must (refine wpList_storeObjS HR4.out rfl rfl rfl rfl (by simp [Value.oneCell']) ?_; intro w5 hh5 hs5; have HH5 := Lib.hid hh5; have HB5 := Lib.hid (HB4.out.trans (hs5.below HB4.out.size (fun k hk => by rw [hk]; exact HB1.out.size))); clear hh5 hs5)))
    exact bodyPost_ret (obRow2 rfl _ _ w1.heap.size _ _ _ _ rfl HH5.out rfl rfl (by kernel_rfl)) rfl ⟨.inr ⟨HR.out, _, _, _, _, _, _, _, rfl⟩, HB5.out⟩
  obtain ⟨kk, rfl⟩ : ∃ kk, nl = kk + 2 := ⟨nl - 2, by omega⟩
  obtain ⟨x, hx⟩ : ∃ x, L[kk]? = some x := ⟨_, List.getElem?_eq_getElem (by have := HNL.out; omega)⟩
  obtain ⟨y, hy⟩ : ∃ y, L[kk + 1]? = some y := ⟨_, List.getElem?_eq_getElem (by have := HNL.out; omega)⟩
  have HMX := Lib.hid (List.mem_of_getElem? hx)
  have HMY := Lib.hid (List.mem_of_getElem? hy)
  have hex : e.secs[kk]? = some x.1 := by rw [HES.out, List.getElem?_map, hx]; rfl
  have hey : e.secs[kk + 1]? = some y.1 := by rw [HES.out, List.getElem?_map, hy]; rfl
  have HSP : Hid (secsO (fun l => modP l [] []) e = if (symRd x.1.data y.1.data).2 ≠ 0 then none else (modP (e.secs.take kk) [] []).map fun ps => ⟨e.target, ps, (symRd x.1.data y.1.data).1⟩) := by
    have := HSO.out
    rw [if_neg h2, show kk + 2 - 2 = kk by omega, show kk + 2 - 1 = kk + 1 by omega, hex, hey] at this
    exact this
  have HTK := Lib.hid (show e.secs.take kk = (L.take kk).map (·.1) by rw [HES.out, List.map_take])
  have HDX := Lib.hid (HX2'.out x.1 (by rw [HSLN.out]; exact hex))
  have HDY := Lib.hid (HD.out y.1 (List.mem_of_getElem? hey)).1
  have HSR : Hid (∀ wx, Below w.heap.size w wx → Calls Tryz.prog 32 #[x.2, y.2] wx fun e w' => ∃ v', e = .returned (.tuple #[v', .int .i64 (symRd x.1.data y.1.data).2]) ∧ OwR 6 encSym 41 w' wx.heap.size v' (symRd x.1.data y.1.data).1 ∧ Below wx.heap.size wx w') := Lib.hid (fun wx hb => symsRead_any x.1.data y.1.data x.2 y.2 wx (by have := HDX.out; omega) (by have := HDY.out; omega) ((HH.out.data x HMX.out).bs.mono hb) ((HH.out.data y HMY.out).bs.mono hb))
  clear HSO h2 hex hey
  obtain ⟨xm, xad, xcp, -, hxv, -, -⟩ := (HH.out.data x HMX.out).shape
  obtain ⟨ym, yad, ycp, -, hyv, -, -⟩ := (HH.out.data y HMY.out).shape
  generalize hsy : symRd x.1.data y.1.data = sy at *
  obtain ⟨Y, sc⟩ := sy
  obtain ⟨xs, xv⟩ := x
  obtain ⟨ys, yv⟩ := y
  dsimp only at *
  subst hxv hyv
  clear hsy
  go_enter Tryz.func15, Tryz.ntmps15
  go_wp2_with (first
    | ((with_reducible show wpList _ _ _ (⟨some 1, .box _ _, _, _, _, _⟩ :: _) _ _); go_must (refine wpList_box rfl ?_; intro w1 hx1 hb1 hs1; have HX1 := Lib.hid hx1; have HB1 := Lib.hid hb1; clear hx1 hb1))
    | ((with_reducible show wpList _ _ _ (⟨some 2, .alloc _, _, _, _, _⟩ :: _) _ _); go_must (refine wpList_allocObj ?_; intro w2 hx2 hb2 hs2; have HR2 := Lib.hid hx2; have HX2 := Lib.hid (heap_below hb2 HX1.out); have HB2 := Lib.hid (HB1.out.trans (hb2.mono HB1.out.size)); obtain ⟨c0, c1, c2, c3, c4, c5⟩ := elf_box HX2.out; clear hx2 hb2))
    | ((with_reducible show wpList _ _ _ (⟨some 4, .alloc _, _, _, _, _⟩ :: _) _ _); go_must (refine wpList_allocObj ?_; intro w3 hx3 hb3 hs3; have HE3 := Lib.hid hx3; have HR3 := Lib.hid (heap_below hb3 HR2.out); have HX3 := Lib.hid (heap_below hb3 HX2.out); have HB3 := Lib.hid (HB2.out.trans (hb3.mono HB2.out.size)); clear hx3 hb3))
    | ((with_reducible show wpList _ _ _ (⟨none, .store _ (.tmp 4) _, _, _, _, _⟩ :: _) _ _); go_must (refine wpList_storeObjS HE3.out rfl rfl rfl rfl (by simp [Value.oneCell']) ?_; intro w4 hh4 hs4; have HE4 := Lib.hid hh4; have HX4 := Lib.hid (hs4.kept HX3.out (by omega)); have HR4 := Lib.hid (hs4.kept HR3.out (by omega)); have HB4 := Lib.hid (HB3.out.trans (hs4.below HB3.out.size (fun k hk => by rw [hk]; exact HB2.out.size))); have hz4 := hs4.size; obtain ⟨c0, c1, c2, c3, c4, c5⟩ := elf_box HX4.out; obtain ⟨z0, z1, z2⟩ := obj_box HE4.out; clear hh4 hs4)))
  obtain ⟨bb, bo, rfl, x9⟩ : ∃ bb bo, xa = some ⟨bb, bo, none⟩ ∧ w4.cell? ⟨bb, bo + kk * 10 + 9, none⟩ = some (.slice xad xm xcp) ∧ w4.cell? ⟨bb, bo + (kk + 1) * 10 + 9, none⟩ = some (.slice yad ym ycp) ∧ bb < w.heap.size := by
    obtain ⟨bb, bo, rfl, -, -, -, -, -, -, -, -, -, q9, q0⟩ := sec_cells HX.out HB4.out hx
    obtain ⟨bb2, bo2, hbb, -, -, -, -, -, -, -, -, -, q9', -⟩ := sec_cells HX.out HB4.out hy
    cases hbb
    exact ⟨bb, bo, rfl, q9, q9', q0⟩
  obtain ⟨x9, y9, hbb⟩ := x9
  have hl12 : w.heap.size < w2.heap.size := by omega
  have hl24 : w2.heap.size ≤ w4.heap.size := by omega
  have hAB := fun (x : Of (fun wx => Below w2.heap.size w4 wx)) (b k : Nat) (h : b < w2.heap.size) => (show x.w.cell? ⟨b, k, none⟩ = w4.cell? ⟨b, k, none⟩ from by
    unfold World.cell?
    rw [x.h.block b h])
  have hb0 : Below w2.heap.size w4 { w4 with drawn := w4.drawn + 1 } := (Below.refl _ _).drew
  have hne : Nonempty (Of (fun wx => Below w2.heap.size w4 wx)) := ⟨⟨_, hb0⟩⟩
  have hbb2 : bb < w2.heap.size := by omega
  clear z0 z1 z2
  refine wp_region_held (S := fun wx => Below w2.heap.size w4 wx) (by kernel_rfl) ?_
  change wpAnyH _ _ _ _ _ 21 _ _ _
  refine heldS_quiet (i := 0) rfl (by kernel_rfl) rfl rfl (fun _ _ _ _ h => h) hb0 ?_
  intro K hK
  go_big_quiet_op
  go_big_quiet_on
  refine heldS_quiet (i := 1) rfl (by kernel_rfl) rfl rfl (fun _ _ _ _ h => h) hb0 ?_
  intro K hK
  go_big_quiet_op
  go_big_quiet_on
  refine heldS_quiet (i := 2) rfl (by kernel_rfl) rfl rfl (fun _ _ _ _ h => h) hb0 ?_
  intro K hK
  go_big_quiet_op
  go_big_quiet_on
  refine heldS_quiet (i := 3) rfl (by kernel_rfl) rfl rfl (fun _ _ _ _ h => h) hb0 ?_
  intro K hK
  go_big_quiet_op
  go_big_quiet_on
  refine heldS_quiet (i := 4) rfl (by kernel_rfl) rfl rfl (fun _ _ _ _ h => h) hb0 ?_
  intro K hK
  go_big_quiet_op
  go_big_quiet_on
  refine heldS_quiet (i := 5) rfl (by kernel_rfl) rfl rfl (fun _ _ _ _ h => h) hb0 ?_
  intro K hK
  go_big_quiet_op
  go_big_quiet_on
  refine heldS_quiet (i := 6) rfl (by kernel_rfl) rfl rfl (fun _ _ _ _ h => h) hb0 ?_
  intro K hK
  go_big_quiet_op
  go_big_quiet_on
  refine heldS_quiet (i := 7) rfl (by kernel_rfl) rfl rfl (fun _ _ _ _ h => h) hb0 ?_
  intro K hK
  go_big_quiet_op
  go_big_quiet_on
  refine heldS_quiet (i := 8) rfl (by kernel_rfl) rfl rfl (fun _ _ _ _ h => h) hb0 ?_
  intro K hK
  go_big_quiet_op
  go_big_quiet_on
  refine heldS_quiet (i := 9) rfl (by kernel_rfl) rfl rfl (fun _ _ _ _ h => h) hb0 ?_
  intro K hK
  go_big_quiet_op
  go_big_quiet_on
  refine heldS_quiet (i := 10) rfl (by kernel_rfl) rfl rfl (fun _ _ _ _ h => h) hb0 ?_
  intro K hK
  go_big_quiet_op
  go_big_quiet_on
  refine heldS_quiet (i := 11) rfl (by kernel_rfl) rfl rfl (fun _ _ _ _ h => h) hb0 ?_
  intro K hK
  go_big_quiet_op
  go_big_quiet_on
  refine heldS_quiet (i := 12) rfl (by kernel_rfl) rfl rfl (fun _ _ _ _ h => h) hb0 ?_
  intro K hK
  go_big_quiet_op
  go_big_quiet_on
  refine heldS_quiet (i := 13) rfl (by kernel_rfl) rfl rfl (fun _ _ _ _ h => h) hb0 ?_
  intro K hK
  go_big_quiet_op
  go_big_quiet_on
  refine heldS_one (i := 14) (by kernel_rfl) rfl ?_
  have hb0w : Below w.heap.size w { w4 with drawn := w4.drawn + 1 } := HB4.out.trans (hb0.mono (Nat.le_of_lt hl12))
  go_wp2_with (go_at_call 32; refine (HSR.out _ hb0w).mono ?_; rintro r5 w5 ⟨v5, rfl, hso5, hb5⟩)
  have hb5s : Below w2.heap.size w4 w5 := hb0.trans (hb5.mono hl24)
  refine ⟨hb5s, ?_⟩
  have HSO5 := Lib.hid (show OwR 6 encSym 41 w5 w.heap.size v5 Y from hso5.rebase (Nat.le_trans (Nat.le_of_lt hl12) hl24))
  have HE5 := Lib.hid (heap_below (w := { w4 with drawn := w4.drawn + 1 }) hb5 HE4.out)
  have HR5 := Lib.hid (heap_below (w := { w4 with drawn := w4.drawn + 1 }) hb5 HR4.out)
  have HX5 := Lib.hid (heap_below (w := { w4 with drawn := w4.drawn + 1 }) hb5 HX4.out)
  have HB5 := Lib.hid (hb0w.trans (hb5.mono hb0w.size))
  have hsz5 : w2.heap.size ≤ w5.heap.size := Nat.le_trans hl24 hb5.size
  obtain ⟨m5, a5, q5, -, rfl, -, -⟩ := hso5.shape
  clear hso5 hb5
  refine heldS_quiet (i := 15) rfl (by kernel_rfl) rfl rfl (fun _ _ _ _ h => h) hb5s ?_
  intro K hK
  go_big_quiet_op
  go_big_quiet_on
  refine heldS_quiet (i := 16) rfl (by kernel_rfl) rfl rfl (fun _ _ _ _ h => h) hb5s ?_
  intro K hK
  go_big_quiet_op
  go_big_quiet_on
  refine heldS_quiet (i := 17) rfl (by kernel_rfl) rfl rfl (fun _ _ _ _ h => h) hb5s ?_
  intro K hK
  go_big_quiet_op
  go_big_quiet_on
  refine heldS_quiet (i := 18) rfl (by kernel_rfl) rfl rfl (fun _ _ _ _ h => h) hb5s ?_
  intro K hK
  go_big_quiet_op
  go_big_quiet_on
  refine heldS_one (i := 19) (by kernel_rfl) rfl ?_
  refine wpList_set HE5.out (show 2 < 3 by decide) rfl rfl (Nat.le_refl _) hsz5 (fun w => by kernel_rfl) ?_
  intro w6 hh6 hb6 hs6
  have hb6s : Below w2.heap.size w4 w6 := hb5s.trans hb6
  refine ⟨hb6s, ?_⟩
  go_frame
  have HE6 := Lib.hid (show w6.heap[w2.heap.size]? = some (.cells #[.int .i64 e.target, .slice none 0 0, .slice a5 m5 q5] 28 (0, 0)) from hh6)
  have HR6 := Lib.hid (hs6.kept HR5.out (by omega))
  have HX6 := Lib.hid (hs6.kept HX5.out (by omega))
  have HSO6 := Lib.hid (owns_stirs HSO5.out hs6 (own_ne HSO5.out HE5.out (by decide)))
  have HB6 := Lib.hid (HB5.out.trans (hb6.mono (Nat.le_of_lt hl12)))
  have hsz6 : w2.heap.size ≤ w6.heap.size := Nat.le_trans hsz5 hb6.size
  clear hh6 hb6 hs6
  refine heldS_quiet (i := 20) rfl (by kernel_rfl) rfl rfl (fun _ _ _ _ h => h) hb6s ?_
  intro K hK
  go_big_quiet_op
  go_big_quiet_on
  refine wpAnyH_done (by kernel_rfl) ?_ _
  clear hAB hne hb0 hb0w hb5s hb6s
  obtain ⟨c0, c1, c2, c3, c4, c5⟩ := elf_box HX6.out
  obtain ⟨z0, z1, z2⟩ := obj_box HE6.out
  by_cases hsc : sc = 0
  case neg =>
    have hscb : (sc != 0) = true := bne_iff_ne.2 hsc
    have HR := Lib.hid (show secsO (fun l => modP l [] []) e = none by rw [HSP.out, if_pos hsc])
    clear hsc
    go_wp2_with (first
      | ((with_reducible show wpList _ _ _ (⟨none, .store _ (.tmp 2) _, _, _, _, _⟩ :: _) _ _); go_must (refine wpList_storeObjS HR6.out rfl rfl rfl rfl (by simp [Value.oneCell']) ?_; intro w7 hh7 hs7; have HH7 := Lib.hid hh7; have HB7 := Lib.hid (HB6.out.trans (hs7.below HB6.out.size (fun k hk => by rw [hk]; exact HB1.out.size))); clear hh7 hs7)))
    exact bodyPost_ret (obRow2 rfl _ _ w1.heap.size _ _ _ _ rfl HH7.out rfl rfl (by kernel_rfl)) rfl ⟨.inr ⟨HR.out, _, _, _, _, _, _, _, rfl⟩, HB7.out⟩
  subst hsc
  have HSQ := Lib.hid (show secsO (fun l => modP l [] []) e = (modP (e.secs.take kk) [] []).map fun ps => ⟨e.target, ps, Y⟩ by rw [HSP.out, if_neg (by simp)])
  have HIx := Lib.hid (show ModInv w (w6.alloc (.map #[] 0)) base w2.heap.size w1.heap.size w.heap.size w6.heap.size #[.int .i64 e.typ, .int .i64 e.target, .int .u32 (e.flags : Int), .int .u64 (e.entry : Int), .slice (some ⟨bb, bo, none⟩) (kk + 2) xc, .slice ga gm gc] e.target (.slice none 0 0) (.slice a5 m5 q5) (.slice none 0 0) (.slice a5 m5 q5) [] Y [] from
    ⟨heap_below (below_alloc w6 _) HE6.out, heap_below (below_alloc w6 _) HR6.out, heap_below (below_alloc w6 _) HX6.out, MapIs.made w6, OwR.nil _ _ _ _ _, OwR.mono HSO6.out (below_alloc w6 _), (fun p hp => by cases hp), (fun p hp => by cases hp), List.Pairwise.nil, List.Pairwise.nil, HB6.out.trans ((below_alloc w6 _).mono HB6.out.size), Nat.le_of_lt hl12, HB1.out.size, by omega, HB6.out.size⟩)
  have hlk : (L.take kk).length = kk := by rw [List.length_take]; have := HNL.out; omega
  have HLK := Lib.hid hlk
  obtain ⟨tv, htv, hrt⟩ := HH.out.so.rd.sliceTo TSec (fun _ => rfl) (n := kk) (k := .i64) (by have := HNL.out; omega)
  rw [← HNL.out] at htv
  have HTV := Lib.hid htv
  obtain ⟨ta, tc, htq, htc, -, hT⟩ := hrt.open (fun _ => rfl)
  rw [hlk] at htq htc
  subst htq
  have HT := Lib.hid hT
  have hmm := @run_makeMap Tryz.prog
  obtain ⟨b0, b1, b2, b3, b4, b5⟩ := elf_box HIx.out.box
  clear htv hrt hT hlk
  go_wp2_with (first
    | ((with_reducible show wpList _ _ _ (⟨some 50, _, _, _, _, _⟩ :: _) _ _); go_must (refine wpList_val rfl (exec_sliceTo HTV.out rfl rfl) ?_)))
  clear c0 c1 c2 c3 c4 c5 b0 b1 b2 b3 b4 b5 z0 z1 z2 x9 y9
  go_loopw [52] (fun i wr => ∃ (k : Nat) (pa : Option Addr) (pn pc : Nat) (PL : List (PartM × Value × Value)) (A : List (List UInt8 × Nat)), i = .int .i64 k ∧ k ≤ kk ∧ Hid (ModInv w wr base w2.heap.size w1.heap.size w.heap.size w6.heap.size #[.int .i64 e.typ, .int .i64 e.target, .int .u32 (e.flags : Int), .int .u64 (e.entry : Int), .slice (some ⟨bb, bo, none⟩) (kk + 2) xc, .slice ga gm gc] e.target (.slice pa pn pc) (.slice a5 m5 q5) (.slice pa pn pc) (.slice a5 m5 q5) PL Y A) ∧ Hid (modP (e.secs.take kk) [] [] = restP (L.take kk) k (PL.map (·.1)) A) ∧ Hid (∀ (s : List UInt8) (i : Nat), lkp A s = some i → i < PL.length) ∧ Hid (A.length ≤ k ∧ PL.length ≤ k) ∧ Hid (∀ p ∈ PL, ∃ (j : Nat) (y : SecM × Value), j < k ∧ L[j]? = some y ∧ p.2.1 = y.2)) (fun i _ => kk - (intOf i).toNat)
  case atStart => exact ⟨0, none, 0, 0, [], [], rfl, Nat.zero_le _, HIx.out, (by show modP _ _ _ = modP (((L.take kk).drop 0).map (·.1)) _ _; rw [HTK.out]; rfl), (fun s i h => by simp [lkp] at h), ⟨Nat.le_refl _, Nat.le_refl _⟩, (fun p hp => by cases hp)⟩
  case round =>
    obtain ⟨k, pa, pn, pc, PL, A, rfl, hk, HI, HRE, HLT, HLE, HSRC⟩ := hrel
    have hbs := HI.out.below.size
    by_cases hlt : k < kk
    · obtain ⟨x, hx⟩ : ∃ x, (L.take kk)[k]? = some x := ⟨_, List.getElem?_eq_getElem (by have := HLK.out; omega)⟩
      have hxL : L[k]? = some x := by
        rw [List.getElem?_take, if_pos hlt] at hx
        exact hx
      obtain ⟨sb, so, rfl, e0, e1, e2, e3, e4, e5, e6, e7, e8, e9, hb0⟩ := sec_cells HT.out HI.out.below hx
      have hxm : x.1 ∈ e.secs := by rw [HES.out]; exact List.mem_map.2 ⟨x, List.mem_of_getElem? hxL, rfl⟩
      have HFX := Lib.hid (HFT.out.secs x.1 hxm)
      have HDN := Lib.hid (HD.out x.1 hxm)
      have HXD := Lib.hid (HH.out.data x (List.mem_of_getElem? hxL))
      have HXB := Lib.hid (HXD.out.bs)
      have HAPX : Hid (∀ p ∈ PL, ∀ k, p.2.1.ownBlock = some k → x.2.ownBlock ≠ some k) := Lib.hid (fun p hp q hq => by
        obtain ⟨j, y, hj, hy, hpy⟩ := HSRC.out p hp
        rw [hpy] at hq
        obtain ⟨h1, h2⟩ := List.getElem?_eq_some_iff.1 hy
        obtain ⟨h3, h4⟩ := List.getElem?_eq_some_iff.1 hxL
        have h5 := List.pairwise_iff_getElem.1 HAP.out j k h1 h3 hj
        rw [h2, h4] at h5
        exact h5 q hq)
      have HSRC2 : Hid (∀ p ∈ PL, ∃ (j : Nat) (y : SecM × Value), j < k + 1 ∧ L[j]? = some y ∧ p.2.1 = y.2) := Lib.hid (fun p hp => by
        obtain ⟨j, y, hj, hy, hpy⟩ := HSRC.out p hp
        exact ⟨j, y, by omega, hy, hpy⟩)
      have HPART := Lib.hid (fun ht => restP_part (ps := PL.map (·.1)) (A := A) hx ht)
      have HNONE := Lib.hid (fun ht hl => restP_none (ps := PL.map (·.1)) (A := A) hx ht hl)
      have HSOME := Lib.hid (fun i ht (hl : lkp A (trimRel x.1.name) = some i) => restP_some (ps := PL.map (·.1)) hx ht hl)
      have HXL := Lib.hid hxL
      obtain ⟨xm, xad, xcp, -, hxv, -, -⟩ := HXD.out.shape
      obtain ⟨s, xv⟩ := x
      dsimp only at *
      subst hxv
      clear hx hxL hxm HSRC
      obtain ⟨name, typ, flags, addr, align, size, link, info, ent, data⟩ := s
      dsimp only at *
      obtain ⟨kl, hkl⟩ := keySL name (by have := HDN.out.2.1; omega)
      have hpn : Hid (pn = PL.length) := by
        obtain ⟨m', a', c', h1, h2, -, -⟩ := HI.out.po.shape
        cases h2
        exact h1
      have hpl9 : pn ≤ 1000 := by have := HLE.out.2; have := hpn.out; omega
      by_cases ht4 : typ = 4
      case neg =>
        have hnt : (((typ : Nat) : Int) != 4) = true := by rw [bne_iff_ne]; omega
        have HP2 := Lib.hid (HPART.out ht4)
        have hla : Hid ((A.map entE).length < maxLen) := by have := HLE.out.1; unfold Hid maxLen; rw [List.length_map]; omega
        have HPM : Hid (putE (A.map entE) name (.int .i64 (pn : Int)) = (putN A name PL.length).map entE) := by rw [hpn.out]; exact putE_put A name PL.length
        have HPL1 := Lib.hid (putN_len A name PL.length)
        have HLT2 : Hid (∀ (s : List UInt8) (i : Nat), lkp (putN A name PL.length) s = some i → i < PL.length + 1) := Lib.hid (fun s i h => by
          rw [lkp_putN] at h
          split at h
          · cases h; omega
          · have := HLT.out s i h; omega)
        have hbt : (((typ : Nat) : Int) == 8) = decide (typ = 8) := by
          rw [Bool.eq_iff_iff, beq_iff_eq, decide_eq_true_iff]
          omega
        have hwa := wrapEq (align : Int)
        have hws := wrapEq (size : Int)
        have HPO : Hid (partOf ⟨name, typ, flags, addr, align, size, link, info, ent, data⟩ = ⟨name, textN flags (decide (typ = 8)), wrap64 (align : Int), wrap64 (size : Int), data, []⟩) := rfl
        have HTX := Lib.hid (fun w => text6_any flags (decide (typ = 8)) w HFX.out.2.1)
        generalize partOf ⟨name, typ, flags, addr, align, size, link, info, ent, data⟩ = pt at *
        generalize textN flags (decide (typ = 8)) = tx at *
        generalize decide (typ = 8) = bt at *
        generalize wrap64 (align : Int) = al at *
        generalize wrap64 (size : Int) = sz at *
        clear ht4 HPART HNONE HSOME HLT
        go_wp2_with (first
        | ((with_reducible show wpList _ _ _ (⟨none, .store _ (.tmp 9) _, _, _, _, _⟩ :: _) _ _); go_must (refine wpList_storeNew rfl rfl (by kernel_rfl) rfl (by simp [Value.oneCell']) ?_; intro w7 hh7 hb7; have HH7 := Lib.hid hh7; have HI7 := Lib.hid (HI.out.mono hb7); have hz7 := hb7.size; obtain ⟨d0, d1, d2, d3, d4, d5, d6, d7, d8, d9⟩ := sec_box (x := (⟨name, typ, flags, addr, align, size, link, info, ent, data⟩, Value.slice xad xm xcp)) hh7; obtain ⟨z0, z1, z2⟩ := obj_box HI7.out.blk; clear hh7 hb7))
        | (at_mapUpdate; go_must (refine wpList_storeM TMS HI7.out.map hla.out (key := name) (val := .int .i64 (pn : Int)) hkl rfl rfl rfl ?_; intro w8 hm8 hg8 hs8; rw [HPM.out] at hm8; have HI8 := Lib.hid (HI7.out.put hm8 hg8); have HH8 := Lib.hid ((Stirs.of_grown (S := fun k => k = w6.heap.size) hg8 (fun k hk => (Option.some.inj hk).symm)).kept HH7.out (fun e => map_ne HH7.out HI7.out.map e.symm)); have hz8 := Nat.le_of_eq hs8.symm; obtain ⟨d0, d1, d2, d3, d4, d5, d6, d7, d8, d9⟩ := sec_box (x := (⟨name, typ, flags, addr, align, size, link, info, ent, data⟩, Value.slice xad xm xcp)) HH8.out; obtain ⟨z0, z1, z2⟩ := obj_box HI8.out.blk; clear hm8 hg8 hs8)))
        have hAB := fun (x : Above w8) (b k : Nat) (h : b < w8.heap.size) => Above.cell x b k h
        have l1 := block_lt d0
        have l2 := block_lt z0
        refine wp_region_walk 20 [(9, .is (S tx)), (19, Yld.one w8.heap.size 38 (encPart ((⟨name, tx, al, sz, data, []⟩ : PartM), .slice xad xm xcp, .slice none 0 0)).toArray)] (by kernel_rfl) (by kernel_rfl) ?_
        simp only [List.take_succ_cons, List.take_zero, List.drop_succ_cons, List.drop_zero]
        repeat (refine walk_quiet rfl rfl rfl ?_; intro K hK; go_big_quiet_op; go_big_quiet_on)
        refine walk_is rfl rfl (fun wx hwx _ => WpYld.callIsB (run_callL (vals := [_, _]) Tryz.func33 (by kernel_rfl) rfl rfl) (HTX.out wx)) ?_
        go_frame
        repeat (refine walk_quiet rfl rfl rfl ?_; intro K hK; go_big_quiet_op; go_big_quiet_on)
        refine walk_one rfl rfl (fun wx hwx _ => WpYld.val (run_onePart (p := (⟨name, tx, al, sz, data, []⟩ : PartM)) rfl) (Yld.one_mk _ hwx).1 (Yld.one_mk _ hwx).2) (fun gb => ?_)
        go_frame
        refine walk_nil ?_
        intro wz hbz hF
        obtain ⟨hgb, hgo⟩ := Yld.one_got (hF 19 _ 84 _ rfl rfl rfl rfl)
        have HGB := Lib.hid hgo
        have HIZ := Lib.hid (HI8.out.mono hbz)
        clear hF hAB hgo hbz z0 z1 z2 d0 d1 d2 d3 d4 d5 d6 d7 d8 d9
        have hlen : PL.length ≤ 1000 := by have := hpn.out; omega
        refine wpList_cat TPart HIZ.out.po (rd_one (x := ((⟨name, tx, al, sz, data, []⟩ : PartM), Value.slice xad xm xcp, Value.slice none 0 0)) rfl HGB.out rfl) rfl rfl (onePart (L := [((⟨name, tx, al, sz, data, []⟩ : PartM), Value.slice xad xm xcp, Value.slice none 0 0)]) (fun p hp => by rw [List.mem_singleton] at hp; rw [hp]; exact ⟨rfl, rfl⟩)) (by simp; omega) (by simp; omega) HIZ.out.below.size ?_
        intro v9 w9 hv9 hg9 hb9
        have hsz9 : w.heap.size ≤ w9.heap.size := Nat.le_trans HIZ.out.below.size hb9.size
        obtain ⟨m9, q9, r9, -, rfl, _, _⟩ := (Reads.of_owns hv9).shape
        have HVV := Lib.hid (show OwR 6 encPart 38 w9 w.heap.size (.slice q9 m9 r9) (PL ++ [((⟨name, tx, al, sz, data, []⟩ : PartM), Value.slice xad xm xcp, Value.slice none 0 0)]) by unfold OwR; rw [List.length_append, List.flatMap_append]; exact hv9)
        have HIG := Lib.hid (HIZ.out.grow HVV.out hg9 HXD.out rfl rfl HAPX.out)
        clear hv9 hg9 hb9
        have hg2 : w.heap.size ≤ w2.heap.size := Nat.le_of_lt hl12
        go_wp2_with ((with_reducible show wpList _ _ _ (⟨none, .store _ (.tmp 86) _, _, _, _, _⟩ :: _) _ _); go_must (refine wpList_set HIG.out.blk (show 1 < 3 by decide) rfl rfl hg2 hsz9 (fun w => by kernel_rfl) ?_; intro wA hhA hbA hsA; have HIA := Lib.hid (HIG.out.store (pc' := .slice q9 m9 r9) (sc' := .slice a5 m5 q5) hhA hsA); clear hhA hbA hsA))
        exact ⟨⟨k + 1, q9, m9, r9, PL ++ [((⟨name, tx, al, sz, data, []⟩ : PartM), Value.slice xad xm xcp, Value.slice none 0 0)], putN A name PL.length, rfl, by omega, HIA, (by show _ = restP _ _ (List.map _ (PL ++ _)) _; rw [HRE.out, HP2.out, HPO.out, List.length_map, List.map_append]; rfl), (by rw [List.length_append]; exact HLT2.out), ⟨by have := HLE.out.1; have := HPL1.out; omega, by have := HLE.out.2; rw [List.length_append]; simp; omega⟩, (fun p hp => by
          rcases List.mem_append.1 hp with hp | hp
          · exact HSRC2.out p hp
          · rw [List.mem_singleton] at hp
            exact ⟨k, _, by omega, HXL.out, by rw [hp]⟩)⟩, by simp [intOf]; omega⟩
      case pos =>
        have hnt : (((typ : Nat) : Int) != 4) = false := by rw [ht4]; rfl
        have HTR : Hid (∀ w, Calls Tryz.prog 34 #[.string ⟨name.toArray⟩, .string ⟨#[46, 114, 101, 108, 97]⟩] w fun e w' => e = .returned (S (trimRel name)) ∧ w = w') := Lib.hid (fun w => (Tryz.strings_TrimPrefix ⟨name.toArray⟩ ⟨relaN.toArray⟩ w).mono fun e w' h => ⟨by rw [h.1]; show _ = Ending.returned (Value.string ⟨(trimRel name).toArray⟩); rw [← trim_is], h.2.symm⟩)
        have htl : (trimRel name).length ≤ 1000000000 := by
          have := HDN.out.2.1
          unfold trimRel
          split
          · rw [List.length_drop]; omega
          · exact this
        obtain ⟨kt, hkt⟩ := keySL (trimRel name) (by omega)
        have HRD : Hid (∀ wx, Below w.heap.size w wx → Calls Tryz.prog 35 #[.slice xad xm xcp] wx fun e w' => ∃ v', e = .returned (.tuple #[v', .int .i64 (relaRd data).2]) ∧ OwR 4 encRela 57 w' wx.heap.size v' (relaRd data).1 ∧ Below wx.heap.size wx w') := Lib.hid (fun wx hb => readRela_big data _ wx (HDN.out.2.2 ht4) (HXB.out.mono hb))
        have HNO := Lib.hid (HNONE.out ht4)
        have HSM := Lib.hid (fun i => HSOME.out i ht4)
        have HLV : Hid (∀ o, lkp A (trimRel name) = o → lkp (A.map entE) (trimRel name) = o.map I64) := Lib.hid (fun o h => by rw [lookup_ent, h])
        generalize trimRel name = tn at *
        generalize relaRd data = rd at *
        obtain ⟨rl, rcode⟩ := rd
        dsimp only at *
        clear ht4 HPART HNONE HSOME hkl htl
        cases hlk : lkp A tn with
        | none =>
          have HR := Lib.hid (show secsO (fun l => modP l [] []) e = none by rw [HSQ.out, HRE.out, HNO.out hlk]; rfl)
          have HL1 : Hid (lookV true (.int .i64 0) (lkp (A.map entE) tn) = .tuple #[.int .i64 0, .bool false]) := congrArg (lookV true (.int .i64 0)) (HLV.out _ hlk)
          clear hlk
          go_wp2_with (first
            | ((with_reducible show wpList _ _ _ (⟨none, .store _ (.tmp 9) _, _, _, _, _⟩ :: _) _ _); go_must (refine wpList_storeNew rfl rfl (by kernel_rfl) rfl (by simp [Value.oneCell']) ?_; intro w7 hh7 hb7; have HH7 := Lib.hid hh7; have HI7 := Lib.hid (HI.out.mono hb7); have hz7 := hb7.size; obtain ⟨d0, d1, d2, d3, d4, d5, d6, d7, d8, d9⟩ := sec_box (x := (⟨name, typ, flags, addr, align, size, link, info, ent, data⟩, Value.slice xad xm xcp)) hh7; obtain ⟨z0, z1, z2⟩ := obj_box HI7.out.blk; clear hh7 hb7))
            | (go_at_call 34; refine (HTR.out _).mono ?_; rintro e w8 ⟨rfl, rfl⟩)
            | ((with_reducible show wpList _ _ _ (⟨some 92, _, _, _, _, _⟩ :: _) _ _); go_must (refine wpList_lookM TMS HI7.out.map (zeroI _) hkt HL1.out rfl rfl ?_))
            | (go_at_call 35; refine (HRD.out _ HI7.out.below).mono ?_; rintro e w8 ⟨v8, rfl, hr8, hb8⟩; have HI8 := Lib.hid (HI7.out.mono hb8); obtain ⟨z0, z1, z2⟩ := obj_box HI8.out.blk; clear hr8 hb8)
            | ((with_reducible show wpList _ _ _ (⟨none, .store _ (.tmp 2) _, _, _, _, _⟩ :: _) _ _); go_must (refine wpList_storeObjS HI8.out.res rfl rfl rfl rfl (by simp [Value.oneCell']) ?_; intro w9 hh9 hs9; have HH9 := Lib.hid hh9; have HB9 := Lib.hid (HI8.out.below.trans (hs9.below HI8.out.below.size (fun k hk => by rw [hk]; exact HB1.out.size))); clear hh9 hs9)))
          exact bodyPost_ret (obRow2 rfl _ _ w1.heap.size _ _ _ _ rfl HH9.out rfl rfl (by kernel_rfl)) rfl ⟨.inr ⟨HR.out, _, _, _, _, _, _, _, rfl⟩, HB9.out⟩
        | some i =>
          have HIL := Lib.hid (HLT.out tn i hlk)
          have HSI := Lib.hid (HSM.out i hlk)
          have HL1 : Hid (lookV true (.int .i64 0) (lkp (A.map entE) tn) = .tuple #[.int .i64 (i : Int), .bool true]) := congrArg (lookV true (.int .i64 0)) (HLV.out _ hlk)
          clear hlk
          by_cases hrc : rcode = 0
          case neg =>
            have HR := Lib.hid (show secsO (fun l => modP l [] []) e = none by rw [HSQ.out, HRE.out, HSI.out, if_pos hrc]; rfl)
            have hrb : (rcode != 0) = true := bne_iff_ne.2 hrc
            clear hrc
            go_wp2_with (first
          | ((with_reducible show wpList _ _ _ (⟨none, .store _ (.tmp 9) _, _, _, _, _⟩ :: _) _ _); go_must (refine wpList_storeNew rfl rfl (by kernel_rfl) rfl (by simp [Value.oneCell']) ?_; intro w7 hh7 hb7; have HH7 := Lib.hid hh7; have HI7 := Lib.hid (HI.out.mono hb7); have hz7 := hb7.size; obtain ⟨d0, d1, d2, d3, d4, d5, d6, d7, d8, d9⟩ := sec_box (x := (⟨name, typ, flags, addr, align, size, link, info, ent, data⟩, Value.slice xad xm xcp)) hh7; obtain ⟨z0, z1, z2⟩ := obj_box HI7.out.blk; clear hh7 hb7))
              | (go_at_call 34; refine (HTR.out _).mono ?_; rintro e w8 ⟨rfl, rfl⟩)
              | ((with_reducible show wpList _ _ _ (⟨some 92, _, _, _, _, _⟩ :: _) _ _); go_must (refine wpList_lookM TMS HI7.out.map (zeroI _) hkt HL1.out rfl rfl ?_))
              | (go_at_call 35; refine (HRD.out _ HI7.out.below).mono ?_; rintro e w8 ⟨v8, rfl, hr8, hb8⟩; have HI8 := Lib.hid (HI7.out.mono hb8); obtain ⟨z0, z1, z2⟩ := obj_box HI8.out.blk; clear hr8 hb8)
              | ((with_reducible show wpList _ _ _ (⟨none, .store _ (.tmp 2) _, _, _, _, _⟩ :: _) _ _); go_must (refine wpList_storeObjS HI8.out.res rfl rfl rfl rfl (by simp [Value.oneCell']) ?_; intro w9 hh9 hs9; have HH9 := Lib.hid hh9; have HB9 := Lib.hid (HI8.out.below.trans (hs9.below HI8.out.below.size (fun k hk => by rw [hk]; exact HB1.out.size))); clear hh9 hs9)))
            exact bodyPost_ret (obRow2 rfl _ _ w1.heap.size _ _ _ _ rfl HH9.out rfl rfl (by kernel_rfl)) rfl ⟨.inr ⟨HR.out, _, _, _, _, _, _, _, rfl⟩, HB9.out⟩
          subst hrc
          have HSN := Lib.hid (show restP (L.take kk) k (PL.map (·.1)) A = restP (L.take kk) (k + 1) (setRel (PL.map (·.1)) i rl) A from HSI.out.trans (if_neg (by simp)))
          obtain ⟨y, hy⟩ : ∃ y, PL[i]? = some y := ⟨_, List.getElem?_eq_getElem HIL.out⟩
          have HY := Lib.hid hy
          have hi9 : i < pn := by have := hpn.out; have := HIL.out; omega
          obtain ⟨pb, cap', hform⟩ := own_form HI.out.po (by have := HIL.out; omega)
          simp only [Value.slice.injEq] at hform
          obtain ⟨rfl, -, -⟩ := hform
          clear hy HSI cap'
          go_wp2_with (first
            | ((with_reducible show wpList _ _ _ (⟨none, .store _ (.tmp 9) _, _, _, _, _⟩ :: _) _ _); go_must (refine wpList_storeNew rfl rfl (by kernel_rfl) rfl (by simp [Value.oneCell']) ?_; intro w7 hh7 hb7; have HH7 := Lib.hid hh7; have HI7 := Lib.hid (HI.out.mono hb7); have hz7 := hb7.size; obtain ⟨d0, d1, d2, d3, d4, d5, d6, d7, d8, d9⟩ := sec_box (x := (⟨name, typ, flags, addr, align, size, link, info, ent, data⟩, Value.slice xad xm xcp)) hh7; obtain ⟨z0, z1, z2⟩ := obj_box HI7.out.blk; clear hh7 hb7))
            | (go_at_call 34; refine (HTR.out _).mono ?_; rintro e w8 ⟨rfl, rfl⟩)
            | ((with_reducible show wpList _ _ _ (⟨some 92, _, _, _, _, _⟩ :: _) _ _); go_must (refine wpList_lookM TMS HI7.out.map (zeroI _) hkt HL1.out rfl rfl ?_))
            | (go_at_call 35; refine (HRD.out _ HI7.out.below).mono ?_; rintro e w8 ⟨v8, rfl, hr8, hb8⟩; have HI8 := Lib.hid (HI7.out.mono hb8); have HR8 := Lib.hid hr8; obtain ⟨m8, q8, c8, -, rfl, -, -⟩ := hr8.shape; obtain ⟨z0, z1, z2⟩ := obj_box HI8.out.blk; clear hr8 hb8)
            | ((with_reducible show wpList _ _ _ (⟨none, .store _ (.tmp 113) _, _, _, _, _⟩ :: _) _ _); go_must (refine wpList_setRow (show w8.ownsRow w.heap.size 38 6 (.slice (some ⟨pb, 0, none⟩) pn pc) pn (PL.flatMap encPart) from (by have h1 := HI8.out.po; unfold OwR at h1; rw [← hpn.out] at h1; exact h1)) (j := i * 6 + 5) (by omega) rfl rfl HI8.out.below.size (fun w => by kernel_rfl) ?_; intro w9 ho9 hb9 hs9; have HO9 := Lib.hid ho9; have HS9 := Lib.hid hs9; clear ho9 hb9 hs9)))
          have HPO9 := Lib.hid (show OwR 6 encPart 38 w9 w.heap.size (.slice (some ⟨pb, 0, none⟩) pn pc) (PL.set i ({ y.1 with relas := rl }, y.2.1, .slice q8 m8 c8)) by
            have h1 := HO9.out
            rw [flat_set (k := 6) (enc := encPart) (fun _ => rfl) (x := y) (y := ({ y.1 with relas := rl }, y.2.1, .slice q8 m8 c8)) (show 5 < 6 by decide) rfl PL i HY.out] at h1
            unfold OwR
            rw [List.length_set, ← hpn.out]
            exact h1)
          have HI9 := Lib.hid (HI8.out.row HY.out (HR8.out.rebase HI7.out.below.size) (fun p hp q hq hq2 => by
            have h1 := (World.ownsRow.lt HR8.out q hq).1
            have h2 := (World.ownsRow.lt (HI7.out.rela p hp) q hq2).2
            omega) HPO9.out (HS9.out.sub fun q _ e => by rw [e]; rfl))
          exact ⟨⟨k + 1, some ⟨pb, 0, none⟩, pn, pc, PL.set i ({ y.1 with relas := rl }, y.2.1, .slice q8 m8 c8), A, rfl, by omega, HI9, (by show _ = restP _ _ (List.map _ _) _; rw [HRE.out, HSN.out, setRel_set HY.out]), (by rw [List.length_set]; exact HLT), ⟨by have := HLE.out.1; omega, by have := HLE.out.2; rw [List.length_set]; omega⟩, (fun p hp => by
            rcases List.mem_or_eq_of_mem_set hp with hp | rfl
            · exact HSRC2.out p hp
            · exact HSRC2.out y (List.mem_of_getElem? HY.out))⟩, by simp [intOf]; omega⟩
    · obtain rfl : k = kk := by omega
      obtain ⟨z0, z1, z2⟩ := obj_box HI.out.blk
      have HFIN := Lib.hid (show secsO (fun l => modP l [] []) e = some ⟨e.target, PL.map (·.1), Y⟩ by
        have h1 := HSQ.out
        rw [HRE.out] at h1
        have h2 := restP_end (L.take k) (PL.map (·.1)) A
        rw [HLK.out] at h2
        rw [h2] at h1
        exact h1)
      go_wp2_with (first
        | ((with_reducible show wpList _ _ _ (⟨none, .store _ (.tmp 2) _, _, _, _, _⟩ :: _) _ _); go_must (refine wpList_storeObjS HI.out.res rfl rfl rfl rfl (by simp [Value.oneCell']) ?_; intro w7 hh7 hs7; have HH7 := Lib.hid hh7; have HS7 := Lib.hid hs7; have HB7 := Lib.hid (HI.out.below.trans (hs7.below HI.out.below.size (fun k hk => by rw [hk]; exact HB1.out.size))); clear hh7 hs7)))
      exact bodyPost_ret (obRow2 rfl _ _ w1.heap.size _ _ _ _ rfl HH7.out rfl rfl (by kernel_rfl)) rfl ⟨.inl ⟨⟨e.target, PL.map (·.1), Y⟩, PL, .slice pa pn pc, .slice a5 m5 q5, HFIN.out, rfl, HI.out.own HS7.out hbase⟩, HB7.out⟩
end Go.Proofs.YtimnbnomaajmmaaGreat
namespace Go.Proofs.YtimnbnomaajmmaaGreat
open Go.RowKit Go.Fd
theorem setRel_all {Q : PartM → Prop} (hset : ∀ p l, Q p → Q { p with relas := l }) {ps : List PartM} (h : ∀ p ∈ ps, Q p) (i : Nat) (l : List RelaM) : ∀ p ∈ setRel ps i l, Q p := by
  intro p hp
  obtain ⟨j, hj⟩ := List.mem_iff_getElem?.1 hp
  unfold setRel at hj
  rw [List.getElem?_modify] at hj
  cases hq : ps[j]? with
  | none => rw [hq] at hj; simp at hj
  | some q =>
    rw [hq] at hj
    have hw := h q (List.mem_of_getElem? hq)
    simp only [Option.map_eq_map, Option.map_some, Option.some.injEq] at hj
    split at hj
    · subst hj; exact hset q l hw
    · subst hj; exact hw
theorem setRel_len (ps : List PartM) (i : Nat) (l : List RelaM) : (setRel ps i l).length = ps.length := by unfold setRel; rw [List.length_modify]
theorem modP_all {Q : PartM → Prop} (hset : ∀ p l, Q p → Q { p with relas := l }) : ∀ (ss : List SecM) (ps : List PartM) (A : List (List UInt8 × Nat)) (qs : List PartM), (∀ p ∈ ps, Q p) → (∀ s ∈ ss, Q (partOf s)) → modP ss ps A = some qs → (∀ p ∈ qs, Q p) ∧ qs.length ≤ ps.length + ss.length := by
  intro ss
  induction ss with
  | nil => intro ps A qs h _ e; cases e; exact ⟨h, Nat.le_refl _⟩
  | cons s ss ih =>
    intro ps A qs h hs e
    have hs' : ∀ x ∈ ss, Q (partOf x) := fun x hx => hs x (by simp [hx])
    rw [modP] at e
    split at e
    · have := ih _ _ _ (fun p hp => by
        rcases List.mem_append.1 hp with hp | hp
        · exact h p hp
        · rw [List.mem_singleton] at hp; subst hp; exact hs s (by simp)) hs' e
      refine ⟨this.1, ?_⟩
      have h2 := this.2
      rw [List.length_append, List.length_singleton] at h2
      rw [List.length_cons]; omega
    · split at e
      · cases e
      · split at e
        · cases e
        · have := ih _ _ _ (setRel_all hset h _ _) hs' e
          refine ⟨this.1, ?_⟩
          have h2 := this.2
          rw [setRel_len] at h2
          rw [List.length_cons]; omega
theorem modR_all {Q : PartM → Prop} (hset : ∀ p l, Q p → Q { p with relas := l }) : ∀ (ss : List SecM) (ps qs : List PartM), (∀ p ∈ ps, Q p) → (∀ s ∈ ss, Q (partOf s)) → modR ss ps = some qs → (∀ p ∈ qs, Q p) ∧ qs.length ≤ ps.length + ss.length := by
  intro ss
  induction ss with
  | nil => intro ps qs h _ e; cases e; exact ⟨h, Nat.le_refl _⟩
  | cons s ss ih =>
    intro ps qs h hs e
    have hs' : ∀ x ∈ ss, Q (partOf x) := fun x hx => hs x (by simp [hx])
    rw [modR] at e
    split at e
    · have := ih _ _ (fun p hp => by
        rcases List.mem_append.1 hp with hp | hp
        · exact h p hp
        · rw [List.mem_singleton] at hp; subst hp; exact hs s (by simp)) hs' e
      refine ⟨this.1, ?_⟩
      have h2 := this.2
      rw [List.length_append, List.length_singleton] at h2
      rw [List.length_cons]; omega
    · split at e
      · cases e
      · split at e
        · cases e
        · have := ih _ _ (setRel_all hset h _ _) hs' e
          refine ⟨this.1, ?_⟩
          have h2 := this.2
          rw [setRel_len] at h2
          rw [List.length_cons]; omega
theorem symRd_names (b names : List UInt8) : ∀ x ∈ (symRd b names).1, x.name.length ≤ 128 := by
  have hf : ∀ k L, foldU (stepSym b names) k = .ok L → ∀ x ∈ L, x.name.length ≤ 128 := by
    intro k
    induction k with
    | zero => intro L h x hx; cases h; simp at hx
    | succ k ih =>
      intro L h x hx
      rw [foldU] at h
      cases hq : foldU (stepSym b names) k with
      | error e => rw [hq] at h; cases h
      | ok L0 =>
        rw [hq] at h
        have h' : stepSym b names k L0 = .ok L := h
        unfold stepSym at h'
        split at h'
        · cases h'
        · split at h'
          · cases h'
          · split at h'
            · cases h'
            · cases h'
              rw [List.mem_append, List.mem_singleton] at hx
              rcases hx with hx | rfl
              · exact ih L0 hq x hx
              · unfold recS
                exact atR_len _ _
  unfold symRd
  split
  · simp
  · split
    · next L hL => exact hf _ _ hL
    · simp
theorem readE_few (l : List UInt8) : (readE l).1.secs.length ≤ 250 ∧ ∀ s ∈ (readE l).1.secs, s.name.length ≤ 128 := by
  have h0 : elf0.secs = [] := rfl
  unfold readE
  split
  · rw [h0]; exact ⟨Nat.zero_le _, fun s hs => by cases hs⟩
  · split
    · next h =>
      refine ⟨?_, fun s hs => ?_⟩
      · show (secsP l (nsecsP l)).length ≤ _
        have := h.1.n3
        rw [secsP_len]; unfold nsecsP; omega
      · obtain ⟨i, hi⟩ := List.mem_iff_getElem?.1 hs
        rw [secsP_get hi]
        unfold secP
        dsimp only
        exact atR_len _ _
    · rw [h0]; exact ⟨Nat.zero_le _, fun s hs => by cases hs⟩
theorem textN_len (n : Nat) (b : Bool) : (textN n b).length ≤ 5 := by
  rw [← textK_4]
  have := textK_len n 4
  rw [List.length_append]
  split
  · rw [List.length_singleton]; omega
  · rw [List.length_nil]; omega
/-- A small part. -/
def SmallP (p : PartM) : Prop := p.name.length ≤ 1000000000 ∧ p.flags.length ≤ 1000000000 ∧ p.data.length ≤ 24000
theorem small_set (p : PartM) (l : List RelaM) (h : SmallP p) : SmallP { p with relas := l } := ⟨h.1, h.2.1, h.2.2⟩
theorem small_of {s : SecM} (h : s.data.length ≤ 24000 ∧ s.name.length ≤ 1000000000) : SmallP (partOf s) := ⟨h.2, by show (textN _ _).length ≤ _; have := textN_len s.flags (decide (s.typ = 8)); omega, h.1⟩
/-- The two ways. -/
def Way (md : List SecM → Option (List PartM)) : Prop := md = (fun l => modP l [] []) ∨ md = (fun l => modR l [])
theorem way_ok {md : List SecM → Option (List PartM)} (hm : Way md) {e : ElfM} {o : ObjM} (hl : e.secs.length ≤ 1000) (hd : ∀ s ∈ e.secs, s.data.length ≤ 24000 ∧ s.name.length ≤ 1000000000) (hfit : e.fits) (h : secsO md e = some o) : ObjOk o := by
  have hwf : ObjWf o := secsO_wf (fun ss qs hs h => by
    rcases hm with rfl | rfl
    · exact modP_wf ss [] [] qs (fun p hp => by cases hp) hs h
    · exact modR_wf ss [] qs (fun p hp => by cases hp) hs h) hfit (fun s hs => (hd s hs).1) h
  unfold secsO at h
  split at h
  · cases h
  · split at h
    · cases h
    · cases hp : md (e.secs.take (e.secs.length - 2)) with
      | none => rw [hp] at h; cases h
      | some ps =>
        rw [hp] at h
        simp only [Option.map_some, Option.some.injEq] at h
        have hsm : (∀ p ∈ ps, SmallP p) ∧ ps.length ≤ 0 + (e.secs.take (e.secs.length - 2)).length := by
          have hs : ∀ s ∈ e.secs.take (e.secs.length - 2), SmallP (partOf s) := fun s hs => small_of (hd s (List.mem_of_mem_take hs))
          rcases hm with rfl | rfl
          · exact modP_all small_set _ [] [] ps (fun p hp => by cases hp) hs hp
          · exact modR_all small_set _ [] ps (fun p hp => by cases hp) hs hp
        subst h
        refine ⟨hwf, ?_, fun p hp => ⟨by have := (hsm.1 p hp).1; omega, by have := (hsm.1 p hp).2.1; omega⟩, fun p hp => by have := (hsm.1 p hp).2.2; omega, fun s hs => ?_⟩
        · have h1 := hsm.2
          rw [List.length_take] at h1
          show ps.length ≤ 1000
          omega
        · have h1 := symRd_names _ _ s hs
          omega
theorem objNo_ok : ObjOk objNo := ⟨⟨⟨by decide, by decide⟩, fun p hp => (by cases hp), fun p hp => (by cases hp), Nat.zero_le _, fun p hp => (by cases hp)⟩, Nat.zero_le _, fun p hp => (by cases hp), fun p hp => (by cases hp), fun p hp => (by cases hp)⟩
/-- A module comes in memory of its own, and an error's number. -/
def ReadRes (md : List SecM → Option (List PartM)) (l : List UInt8) (base : Nat) (r : Ending) (w : World) : Prop := ∃ PL pv sv, r = .returned (.tuple #[objV (readO md l).1 pv sv, .int .i64 (readO md l).2]) ∧ ObjOwn w base (readO md l).1 PL pv sv
theorem ObjOwn.zero (w : World) (base : Nat) : ObjOwn w base objNo [] (.slice none 0 0) (.slice none 0 0) := ⟨rfl, OwR.nil _ _ _ _ _, (fun p hp => by cases hp), (fun p hp => by cases hp), OwR.nil _ _ _ _ _, List.Pairwise.nil, List.Pairwise.nil⟩
theorem ReadRes.code {md : List SecM → Option (List PartM)} {l : List UInt8} {base : Nat} {w : World} {x : Int} (h : readO md l = (objNo, x)) : ReadRes md l base (.returned (.tuple #[.agg objZ, .int .i64 x])) w := by
  refine ⟨[], .slice none 0 0, .slice none 0 0, ?_, ?_⟩
  · rw [h]; rfl
  · rw [h]; exact ObjOwn.zero _ _
theorem readO_err {md : List SecM → Option (List PartM)} {l : List UInt8} (h : (readE l).2 ≠ 0) : readO md l = (objNo, (readE l).2) := by unfold readO; rw [if_pos h]
theorem readO_none {md : List SecM → Option (List PartM)} {l : List UInt8} (h : (readE l).2 = 0) (hs : secsO md (readE l).1 = none) : readO md l = (objNo, 4) := by unfold readO; rw [if_neg (by simp [h]), hs]
theorem readO_no {md : List SecM → Option (List PartM)} {l : List UInt8} {o : ObjM} (h : (readE l).2 = 0) (hs : secsO md (readE l).1 = some o) (hf : fileO o ≠ (l, 0)) : readO md l = (objNo, 4) := by unfold readO; rw [if_neg (by simp [h]), hs]; dsimp only; rw [if_neg hf]
theorem readO_yes {md : List SecM → Option (List PartM)} {l : List UInt8} {o : ObjM} (h : (readE l).2 = 0) (hs : secsO md (readE l).1 = some o) (hf : fileO o = (l, 0)) : readO md l = (o, 0) := by unfold readO; rw [if_neg (by simp [h]), hs]; dsimp only; rw [if_pos hf]
end Go.Proofs.YtimnbnomaajmmaaGreat
namespace Go.Proofs.YtimnbnomaajmmaaGreat
open Go.RowKit Go.Fd
/-- What is still to be gone over. -/
def restR (T : List (SecM × Value)) (k : Nat) (ps : List PartM) : Option (List PartM) := modR ((T.drop k).map (·.1)) ps
theorem restR_end (T : List (SecM × Value)) (ps : List PartM) : restR T T.length ps = some ps := by
  unfold restR
  rw [List.drop_length]
  rfl
theorem restR_part {T : List (SecM × Value)} {k : Nat} {x : SecM × Value} {ps : List PartM} (h : T[k]? = some x) (ht : x.1.typ ≠ 4) : restR T k ps = restR T (k + 1) (ps ++ [partOf x.1]) := by
  unfold restR
  rw [drop_get h, List.map_cons, modR, if_pos ht]
theorem restR_none {T : List (SecM × Value)} {k : Nat} {x : SecM × Value} {ps : List PartM} (h : T[k]? = some x) (ht : x.1.typ = 4) (hl : x.1.info < 1 ∨ ps.length < x.1.info) : restR T k ps = none := by
  unfold restR
  rw [drop_get h, List.map_cons, modR, if_neg (by omega), if_pos hl]
theorem restR_some {T : List (SecM × Value)} {k : Nat} {x : SecM × Value} {ps : List PartM} (h : T[k]? = some x) (ht : x.1.typ = 4) (hl : ¬ (x.1.info < 1 ∨ ps.length < x.1.info)) : restR T k ps = if (relaRd x.1.data).2 ≠ 0 then none else restR T (k + 1) (setRel ps (x.1.info - 1) (relaRd x.1.data).1) := by
  unfold restR
  rw [drop_get h, List.map_cons, modR, if_neg (by omega), if_neg hl]
/-- A module in memory of its own; its parts may share. -/
structure ObjOw (w : World) (base : Nat) (o : ObjM) (PL : List (PartM × Value × Value)) (pv sv : Value) : Prop where
  parts : o.parts = PL.map (·.1)
  po : OwR 6 encPart 38 w base pv PL
  data : ∀ p ∈ PL, OB w base p.2.1 p.1.data
  rela : ∀ p ∈ PL, OwR 4 encRela 57 w base p.2.2 p.1.relas
  so : OwR 6 encSym 41 w base sv o.syms
theorem ObjOw.at {w : World} {base : Nat} {o : ObjM} {PL : List (PartM × Value × Value)} {pv sv : Value} (h : ObjOw w base o PL pv sv) : ObjAt w o PL pv sv :=
  ⟨h.parts, h.po.rd, fun p hp => (h.data p hp).bs, fun p hp => (h.rela p hp).rd, h.so.rd⟩
theorem ObjOw.mono {w w' : World} {base : Nat} {o : ObjM} {PL : List (PartM × Value × Value)} {pv sv : Value} (h : ObjOw w base o PL pv sv) (hb : Below w.heap.size w w') : ObjOw w' base o PL pv sv :=
  ⟨h.parts, h.po.mono hb, fun p hp => (h.data p hp).mono hb, fun p hp => (h.rela p hp).mono hb, h.so.mono hb⟩
theorem ObjOw.base {w : World} {base base' : Nat} {o : ObjM} {PL : List (PartM × Value × Value)} {pv sv : Value} (h : ObjOw w base o PL pv sv) (hb : base' ≤ base) : ObjOw w base' o PL pv sv :=
  ⟨h.parts, h.po.rebase hb, fun p hp => (h.data p hp).base hb, fun p hp => (h.rela p hp).rebase hb, h.so.rebase hb⟩
theorem ObjOw.stir {w w' : World} {base r : Nat} {o : ObjM} {PL : List (PartM × Value × Value)} {pv sv : Value} {cs : Array Value} {fr : Nat × Nat} (h : ObjOw w base o PL pv sv) (hr : w.heap[r]? = some (.cells cs 28 fr)) (hs : Stirs (fun k => k = r) w w') : ObjOw w' base o PL pv sv :=
  ⟨h.parts, owns_stirs h.po hs (own_ne h.po hr (by decide)), fun p hp => owns_stirs (h.data p hp) hs (own_ne (h.data p hp) hr (by decide)), fun p hp => owns_stirs (h.rela p hp) hs (own_ne (h.rela p hp) hr (by decide)), owns_stirs h.so hs (own_ne h.so hr (by decide))⟩
theorem ObjOw.zero (w : World) (base : Nat) : ObjOw w base objNo [] (.slice none 0 0) (.slice none 0 0) := ⟨rfl, OwR.nil _ _ _ _ _, (fun p hp => by cases hp), (fun p hp => by cases hp), OwR.nil _ _ _ _ _⟩
/-- A module comes in memory of its own, and an error's number. -/
def ReadOw (md : List SecM → Option (List PartM)) (l : List UInt8) (base : Nat) (r : Ending) (w : World) : Prop := ∃ PL pv sv, r = .returned (.tuple #[objV (readO md l).1 pv sv, .int .i64 (readO md l).2]) ∧ ObjOw w base (readO md l).1 PL pv sv
theorem ReadOw.code {md : List SecM → Option (List PartM)} {l : List UInt8} {base : Nat} {w : World} {x : Int} (h : readO md l = (objNo, x)) : ReadOw md l base (.returned (.tuple #[.agg objZ, .int .i64 x])) w := by
  refine ⟨[], .slice none 0 0, .slice none 0 0, ?_, ?_⟩
  · rw [h]; rfl
  · rw [h]; exact ObjOw.zero _ _
/-- While sections are gone over: the module stands in block g, the result's block is r, the file is in block b. -/
structure RefInv (w wr : World) (base g r b : Nat) (bx : Array Value) (tg : Int) (pc sc pv : Value) (PL : List (PartM × Value × Value)) : Prop where
  blk : wr.heap[g]? = some (.cells #[.int .i64 tg, pc, sc] 28 (0, 0))
  res : wr.heap[r]? = some (.cells objZ 28 (0, 0))
  box : wr.heap[b]? = some (.cells bx 51 (0, 0))
  po : OwR 6 encPart 38 wr w.heap.size pv PL
  data : ∀ p ∈ PL, OB w base p.2.1 p.1.data
  rela : ∀ p ∈ PL, OwR 4 encRela 57 wr w.heap.size p.2.2 p.1.relas
  below : Below w.heap.size w wr
  hg : w.heap.size ≤ g
  hr : w.heap.size ≤ r
  ne : r ≠ g
section
variable {w wr w1 w2 w' : World} {base g r b : Nat} {bx : Array Value} {tg : Int} {pc sc pc' sc' pv pv' : Value} {PL : List (PartM × Value × Value)}
theorem RefInv.mono (h : RefInv w wr base g r b bx tg pc sc pv PL) (hb : Below wr.heap.size wr w') : RefInv w w' base g r b bx tg pc sc pv PL :=
  ⟨heap_below hb h.blk, heap_below hb h.res, heap_below hb h.box, h.po.mono hb, h.data, fun p hp => (h.rela p hp).mono hb, h.below.trans (hb.mono h.below.size), h.hg, h.hr, h.ne⟩
/-- The module's own cells are written. -/
theorem RefInv.store (h : RefInv w wr base g r b bx tg pc sc pv PL) (hb : w2.heap[g]? = some (.cells #[.int .i64 tg, pc', sc'] 28 (0, 0))) (hs : Stirs (fun k => k = g) wr w2) : RefInv w w2 base g r b bx tg pc' sc' pv PL :=
  ⟨hb, hs.kept h.res h.ne, hs.kept h.box (cells_ne h.box h.blk (by decide)), owns_stirs h.po hs (own_ne h.po h.blk (by decide)), h.data, fun p hp => owns_stirs (h.rela p hp) hs (own_ne (h.rela p hp) h.blk (by decide)), 
    h.below.trans (hs.below h.below.size fun k hk => by rw [hk]; exact h.hg), h.hg, h.hr, h.ne⟩
/-- A single part's own cells are written. -/
theorem RefInv.one {c : Nat} {cs : Array Value} {fr : Nat × Nat} (h : RefInv w wr base g r b bx tg pc sc pv PL) (hc : wr.heap[c]? = some (.cells cs 38 fr)) (hpv : ∀ k, pv.ownBlock = some k → k ≠ c) (hlt : w.heap.size ≤ c) (hs : Stirs (fun k => k = c) wr w2) : RefInv w w2 base g r b bx tg pc sc pv PL :=
  ⟨hs.kept h.blk (cells_ne h.blk hc (by decide)), hs.kept h.res (cells_ne h.res hc (by decide)), hs.kept h.box (cells_ne h.box hc (by decide)), owns_stirs h.po hs (fun k hk e => hpv k hk e), h.data, fun p hp => owns_stirs (h.rela p hp) hs (own_ne (h.rela p hp) hc (by decide)), 
    h.below.trans (hs.below h.below.size fun k hk => by rw [hk]; exact hlt), h.hg, h.hr, h.ne⟩
/-- A part more. -/
theorem RefInv.grow {x : PartM × Value × Value} (h : RefInv w wr base g r b bx tg pc sc pv PL) (ho : OwR 6 encPart 38 w1 w.heap.size pv' (PL ++ [x])) (hgr : wr.grownBy w1 pv.ownBlock) (hd : OB w base x.2.1 x.1.data) (hr : x.2.2 = .slice none 0 0) (hx : x.1.relas = []) : RefInv w w1 base g r b bx tg pc sc pv' (PL ++ [x]) := by
  have hk := keeps_own h.po hgr
  refine ⟨hk _ _ _ _ (show 28 ≠ 38 by decide) h.blk, hk _ _ _ _ (show 28 ≠ 38 by decide) h.res, hk _ _ _ _ (show 51 ≠ 38 by decide) h.box, ho, fun p hp => ?_, fun p hp => ?_, h.below.trans (below_of_grown hgr h.below.size fun k hk => (World.ownsRow.lt h.po k hk).1), h.hg, h.hr, h.ne⟩
  · rcases List.mem_append.1 hp with hp | hp
    · exact h.data p hp
    · rw [List.mem_singleton] at hp
      rw [hp]; exact hd
  · rcases List.mem_append.1 hp with hp | hp
    · exact owns_grown (h.rela p hp) hgr (fun k hk hk2 => Go.Fd.own_apart (h.rela p hp) h.po (by decide) hk hk2)
    · rw [List.mem_singleton] at hp
      rw [hp, hr, hx]; exact OwR.nil _ _ _ _ _
/-- A part's relocations. -/
theorem RefInv.row {i : Nat} {x : PartM × Value × Value} {l : List RelaM} {rv : Value} (h : RefInv w wr base g r b bx tg pc sc pv PL) (hi : PL[i]? = some x) (ho : OwR 4 encRela 57 wr w.heap.size rv l)
    (hp2 : OwR 6 encPart 38 w2 w.heap.size pv (PL.set i ({ x.1 with relas := l }, x.2.1, rv))) (hs : Stirs (fun k => pv.ownBlock = some k) wr w2) : RefInv w w2 base g r b bx tg pc sc pv (PL.set i ({ x.1 with relas := l }, x.2.1, rv)) := by
  have hno : ∀ {c : Nat} {cs : Array Value} {t : TypeId} {fr : Nat × Nat}, wr.heap[c]? = some (.cells cs t fr) → t ≠ 38 → ¬ pv.ownBlock = some c := fun hc ht e => own_ne h.po hc ht _ e rfl
  have hap : ∀ {n base e size : Nat} {v : Value} {xs : List Value}, wr.ownsRow base e size v n xs → e ≠ 38 → ∀ k, v.ownBlock = some k → ¬ pv.ownBlock = some k := fun hv he k hk hk2 => Go.Fd.own_apart hv h.po he hk hk2
  refine ⟨hs.kept h.blk (hno h.blk (by decide)), hs.kept h.res (hno h.res (by decide)), hs.kept h.box (hno h.box (by decide)), hp2, fun p hp => ?_, fun p hp => ?_, h.below.trans (hs.below h.below.size fun k hk => (World.ownsRow.lt h.po k hk).1), h.hg, h.hr, h.ne⟩
  · rcases List.mem_or_eq_of_mem_set hp with hp | rfl
    · exact h.data p hp
    · exact h.data x (List.mem_of_getElem? hi)
  · rcases List.mem_or_eq_of_mem_set hp with hp | rfl
    · exact owns_stirs (h.rela p hp) hs (hap (h.rela p hp) (by decide))
    · exact owns_stirs ho hs (hap ho (by decide))
/-- At the end: with symbols. -/
theorem RefInv.own {Y : List SymM} {sv : Value} (h : RefInv w wr base g r b bx tg pc sc pv PL) (ho : OwR 6 encSym 41 wr w.heap.size sv Y) (hs : Stirs (fun k => k = r) wr w') (hb : base ≤ w.heap.size) : ObjOw w' base ⟨tg, PL.map (·.1), Y⟩ PL pv sv :=
  ⟨rfl, OwR.rebase (owns_stirs h.po hs (own_ne h.po h.res (by decide))) hb, fun p hp => (h.data p hp).mono (h.below.trans (hs.below h.below.size fun k hk => by rw [hk]; exact h.hr)), fun p hp => OwR.rebase (owns_stirs (h.rela p hp) hs (own_ne (h.rela p hp) h.res (by decide))) hb, OwR.rebase (owns_stirs ho hs (own_ne ho h.res (by decide))) hb⟩
end
/-- The symbols and a code, in a region. -/
def YSym (B : Nat) (c : Int) (l : List SymM) : Yld := ⟨Option Addr × Nat × Nat, (none, 0, 0), fun v => .tuple #[.slice v.1 v.2.1 v.2.2, .int .i64 c], fun v w => OwR 6 encSym 41 w B (.slice v.1 v.2.1 v.2.2) l, fun _ _ _ h hb => h.mono hb⟩
theorem YSym_got {B : Nat} {c : Int} {l : List SymM} {a : Option Addr} {n m : Nat} {w : World} (h : (YSym B c l).R (.tuple #[.slice a n m, .int .i64 c]) w) : OwR 6 encSym 41 w B (.slice a n m) l := by
  obtain ⟨⟨a', n', m'⟩, e, h⟩ := h
  have e' : Value.tuple #[.slice a n m, .int .i64 c] = .tuple #[.slice a' n' m', .int .i64 c] := e
  simp only [Value.tuple.injEq, Array.mk.injEq, List.cons.injEq, and_true] at e'
  rw [e']
  exact h
/-- How it ends. -/
def RefRes (e : ElfM) (base : Nat) (r : Ending) (w : World) : Prop :=
  (∃ o PL a1 n1 c1 a2 n2 c2, secsO (fun l => modR l []) e = some o ∧ r = .returned (.tuple #[objV o (.slice a1 n1 c1) (.slice a2 n2 c2), .bool true]) ∧ ObjOw w base o PL (.slice a1 n1 c1) (.slice a2 n2 c2)) ∨
  (secsO (fun l => modR l []) e = none ∧ ∃ t a1 n1 c1 a2 n2 c2, r = .returned (.tuple #[.agg #[.int .i64 t, .slice a1 n1 c1, .slice a2 n2 c2], .bool false]))
end Go.Proofs.YtimnbnomaajmmaaGreat
namespace Go.Proofs.YtimnbnomaajmmaaGreat
open Go.RowKit Go.Fd
theorem free_rec {w : World} {g : Nat} {cs : Array Value} {t : TypeId} (h : w.heap[g]? = some (.cells cs t (0, 0))) (c : Nat) : w.frozen? ⟨g, c, none⟩ = false := by simp [World.frozen?, h]
theorem zeros_step {b : List UInt8} {j : Nat} (hj : j < b.length) (h : b.take j = List.replicate j 0) (h0 : b[j]?.getD 0 = 0) : b.take (j + 1) = List.replicate (j + 1) 0 := by
  rw [List.take_add_one, h, List.getElem?_eq_getElem hj, List.replicate_succ']
  rw [List.getElem?_eq_getElem hj] at h0
  simp at h0
  simp [h0]
theorem zeros_not {b : List UInt8} {j n : Nat} (hj : j < n) (hn : n ≤ b.length) (h0 : b[j]?.getD 0 ≠ 0) : b.take n ≠ List.replicate n 0 := by
  intro h
  apply h0
  have : (b.take n)[j]? = some 0 := by rw [h]; simp [hj]
  rw [List.getElem?_take, if_pos hj] at this
  rw [this]; rfl
set_option maxHeartbeats 4000000 in
set_option maxRecDepth 100000 in
theorem ref5Read_any (b names : List UInt8) (v u : Value) (w : World) (hl : b.length ≤ 100000) (hln : names.length ≤ 1000000000) (hv : Bs w v b) (hu : Bs w u names) :
    Calls Tryz.prog 41 #[v, u] w fun e w' => ∃ v', e = .returned (.tuple #[v', .int .i64 (symRd b names).2]) ∧ OwR 6 encSym 41 w' w.heap.size v' (symRd b names).1 ∧ Below w.heap.size w w' := by
  have HV := Lib.hid hv
  have HU := Lib.hid hu
  obtain ⟨ad, cap, rfl, hcap, _, hcl⟩ := hv.open
  have HCL := Lib.hid hcl
  obtain ⟨n, hn⟩ : ∃ n, n = b.length := ⟨_, rfl⟩
  rw [← hn] at hl hcap HV HCL ⊢
  have HN := Lib.hid hn
  have HLN := Lib.hid hln
  clear hv hu hn hln hcl
  by_cases h0 : n % 24 = 0
  · obtain ⟨m, rfl⟩ : ∃ m, n = 24 * m := ⟨n / 24, by omega⟩
    have hm0 : ¬ (16385 : Int) < (m : Int) := by omega
    clear h0
    rcases Nat.eq_zero_or_pos m with rfl | hm
    · have HR := Lib.hid (symRd_form (b := b) (names := names) (.inr (.inl (by have := HN.out; omega))))
      go_enter Tryz.func41, Tryz.ntmps41
      go_wp2
      go_ret2
      exact ⟨_, by rw [HR.out]; rfl, by rw [HR.out]; exact OwR.nil _ _ _ _ _, Below.refl _ _⟩
    · obtain ⟨bt, ot, had, -⟩ := HCL.out 0 (by omega)
      subst had
      have HCE : Hid (∀ i, i < 24 * m → w.cell? ⟨bt, ot + i, none⟩ = some (.int .u8 (b[i]?.getD 0).toNat)) := fun i hi => by
        obtain ⟨b', o', e1, e2⟩ := HCL.out i hi
        cases e1
        exact e2
      clear HCL
      have hd1 : ¬ (24 * (m : Int) < 24) := by omega
      go_enter Tryz.func41, Tryz.ntmps41
      go_wp2
      go_loop [6] (fun i => ∃ j : Nat, i = .int .i64 j ∧ j ≤ 24 ∧ Hid (b.take j = List.replicate j 0)) (fun i => 24 - (intOf i).toNat)
      case atStart => exact ⟨0, rfl, by omega, rfl⟩
      case round =>
        obtain ⟨j, rfl, hj, HJ⟩ := hrel
        by_cases hj24 : j < 24
        · have c := HCE.out j (by omega)
          by_cases hz : b[j]?.getD 0 = 0
          · have HJ1 := Lib.hid (zeros_step (by have := HN.out; omega) HJ.out hz)
            rw [hz] at c
            have HZ := Lib.hid hz
            clear hz
            go_wp2
            go_round
            case rel => exact ⟨j + 1, by go_num, by omega, HJ1.out⟩
            case measure => simp [intOf] <;> omega
          · have HR := Lib.hid (symRd_form (b := b) (names := names) (.inr (.inr (zeros_not (n := 24) hj24 (by have := HN.out; omega) hz))))
            have hz2 : (((b[j]?.getD 0).toNat : Int) != 0) = true := by simpa [← UInt8.toNat_inj] using hz
            have HZ := Lib.hid hz
            clear hz
            generalize b[j]?.getD 0 = y at *
            go_wp2
            go_ret2
            exact ⟨_, by rw [HR.out]; rfl, by rw [HR.out]; exact OwR.nil _ _ _ _ _, Below.refl _ _⟩
        · obtain rfl : j = 24 := by omega
          have HC0 : Hid (¬ (b.length % 24 ≠ 0 ∨ b.length < 24 ∨ b.take 24 ≠ List.replicate 24 0)) := by
            have := HN.out
            rintro (h | h | h)
            · omega
            · omega
            · exact h HJ.out
          clear HJ
          go_wp2
          go_loopw [7, 8] (fun lv i wr => ∃ (k p : Nat) (L : List SymM), i = .int .i64 p ∧ p ≤ 24 * m ∧ Hid (p = 24 * (k + 1) ∧ k + 1 ≤ m) ∧ Hid (foldU (stepSym b names) k = .ok L) ∧ Hid (OwR 6 encSym 41 wr w.heap.size lv L) ∧ Hid (Below w.heap.size w wr)) (fun _ i _ => 24 * m - (intOf i).toNat)
          case atStart => exact ⟨0, 24, [], rfl, by omega, ⟨rfl, by omega⟩, rfl, OwR.nil _ _ _ _ _, Below.refl _ _⟩
          case round =>
            obtain ⟨k, p, L, rfl, hp, HP, HF, HO, HB⟩ := hrel
            by_cases hlt : p < 24 * m
            · have hp24 : p + 24 ≤ 24 * m := by have := HP.out; omega
              obtain ⟨s2, hr2, hb2⟩ := slice_cut HV.out (p + 6) 2 (z := (p : Int) + 6) (y := (p : Int) + 8) (by omega) (by omega) (by have := HN.out; omega) (by have := HN.out; omega)
              have HN2 : Hid (∀ wx, Below w.heap.size w wx → Calls Tryz.prog 77 #[s2] wx fun e w' => e = .returned (.int .u64 (numLE ((b.drop (p + 6)).take 2))) ∧ wx = w') := fun wx hx => num_any _ _ _ (by rw [List.length_take]; omega) (hb2.mono hx)
              clear hb2
              obtain ⟨s3, hr3, hb3⟩ := slice_cut HV.out (p + 8) 8 (z := (p : Int) + 8) (y := (p : Int) + 16) (by omega) (by omega) (by have := HN.out; omega) (by have := HN.out; omega)
              have HN3 : Hid (∀ wx, Below w.heap.size w wx → Calls Tryz.prog 77 #[s3] wx fun e w' => e = .returned (.int .u64 (numLE ((b.drop (p + 8)).take 8))) ∧ wx = w') := fun wx hx => num_any _ _ _ (by rw [List.length_take]; omega) (hb3.mono hx)
              clear hb3
              obtain ⟨s4, hr4, hb4⟩ := slice_cut HV.out (p + 16) 8 (z := (p : Int) + 16) (y := (p : Int) + 24) (by omega) (by omega) (by have := HN.out; omega) (by have := HN.out; omega)
              have HN4 : Hid (∀ wx, Below w.heap.size w wx → Calls Tryz.prog 77 #[s4] wx fun e w' => e = .returned (.int .u64 (numLE ((b.drop (p + 16)).take 8))) ∧ wx = w') := fun wx hx => num_any _ _ _ (by rw [List.length_take]; omega) (hb4.mono hx)
              clear hb4
              obtain ⟨s0, hr0, hb0⟩ := slice_cut HV.out p 4 (z := (p : Int)) (y := (p : Int) + 4) (by omega) (by omega) (by have := HN.out; omega) (by have := HN.out; omega)
              have HN0 : Hid (∀ wx, Below w.heap.size w wx → Calls Tryz.prog 77 #[s0] wx fun e w' => e = .returned (.int .u64 (numLE ((b.drop p).take 4))) ∧ wx = w') := fun wx hx => num_any _ _ _ (by rw [List.length_take]; omega) (hb0.mono hx)
              clear hb0
              have c4 := HCE.out (p + 4) (by omega)
              have c5 := HCE.out (p + 5) (by omega)
              replace c4 := (HB.out.cell (block_lt c4)).trans c4
              replace c5 := (HB.out.cell (block_lt c5)).trans c5
              have HREC : Hid (∀ nm, recS b (k + 1) nm = ⟨nm, ((b[p + 4]?.getD 0).toNat : Int) / 16, ((b[p + 4]?.getD 0).toNat : Int) % 16, numLE ((b.drop (p + 6)).take 2), numLE ((b.drop (p + 8)).take 8), numLE ((b.drop (p + 16)).take 8)⟩) := by
                intro nm
                rw [HP.out.1]
                unfold recS
                rw [Int.natCast_ediv, Int.natCast_emod]
                rfl
              have HREC5 : Hid (rec5 b (k + 1) = b[p + 5]?.getD 0) := by rw [HP.out.1]; rfl
              have HRECA : Hid (recAt b (k + 1) = numLE ((b.drop p).take 4)) := by rw [HP.out.1]; rfl
              have hw2 := i64_small (Nat.lt_trans (numLE_cut b (p + 6) 2) (by decide))
              have hw0 := i64_small (numLE_cut b p 4)
              have HLL := Lib.hid (foldSym_len b names k L HF.out)
              have hbs := HB.out.size
              have hAB := fun (x : Above wr) (b k : Nat) (h : b < wr.heap.size) => Above.cell x b k h
              have hblt : bt < wr.heap.size := block_lt c4
              have hb4 : (b[p + 4]?.getD 0).toNat < 256 := UInt8.toNat_lt _
              have hb5 : (b[p + 5]?.getD 0).toNat < 256 := UInt8.toNat_lt _
              generalize b[p + 4]?.getD 0 = y4 at *
              generalize b[p + 5]?.getD 0 = y5 at *
              generalize numLE ((b.drop p).take 4) = n0 at *
              generalize numLE ((b.drop (p + 6)).take 2) = n2 at *
              generalize numLE ((b.drop (p + 8)).take 8) = n3 at *
              generalize numLE ((b.drop (p + 16)).take 8) = n4 at *
              go_wp2
              refine wp_region_walk 38 [(20, .is (.int .u64 n2)), (28, .is (.int .u64 n3)), (35, .is (.int .u64 n4)), (37, .new wr.heap.size 41 6)] (by kernel_rfl) (by kernel_rfl) ?_
              simp only [List.take_succ_cons, List.take_zero, List.drop_succ_cons, List.drop_zero]
              repeat (first
                | (refine walk_quiet rfl rfl rfl ?_; intro K hK; go_big_quiet_op; go_big_quiet_on)
                | (refine walk_is rfl rfl (fun wx hwx _ => WpYld.callIs (run_callL (vals := [s2]) Tryz.func77 (by kernel_rfl) rfl rfl) (HN2.out wx (HB.out.trans (hwx.mono HB.out.size)))) ?_; go_frame)
                | (refine walk_is rfl rfl (fun wx hwx _ => WpYld.callIs (run_callL (vals := [s3]) Tryz.func77 (by kernel_rfl) rfl rfl) (HN3.out wx (HB.out.trans (hwx.mono HB.out.size)))) ?_; go_frame)
                | (refine walk_is rfl rfl (fun wx hwx _ => WpYld.callIs (run_callL (vals := [s4]) Tryz.func77 (by kernel_rfl) rfl rfl) (HN4.out wx (HB.out.trans (hwx.mono HB.out.size)))) ?_; go_frame)
                | (refine walk_new rfl rfl (fun wx hwx _ => WpYld.val run_allocSym (Yld.new_mk _ hwx).1 (Yld.new_mk _ hwx).2) (fun gb => ?_); go_frame))
              refine walk_nil ?_
              intro wz hbz hF
              obtain ⟨hgB, cs, hgh, hgs⟩ := Yld.new_got (hF 37 _ 9 _ rfl rfl rfl rfl)
              refine wpList_storeMade hgh rfl rfl (by kernel_rfl) hgs (by simp [Value.oneCell']) hgB hbz.size ?_
              intro w1 hh1 hb1
              have hb01 := hbz.trans hb1
              have e0 := cell_rec hh1 0
              have e1 := cell_rec hh1 1
              have e2 := cell_rec hh1 2
              have e3 := cell_rec hh1 3
              have e4 := cell_rec hh1 4
              have e5 := cell_rec hh1 5
              simp only [List.getElem?_toArray, List.getElem?_cons_succ, List.getElem?_cons_zero] at e0 e1 e2 e3 e4 e5
              have c5' := (hb01.cell hblt (p := ⟨bt, ot + (p + 5), none⟩)).trans c5
              have HO1 := Lib.hid (HO.out.mono hb01)
              have HB1 := Lib.hid (HB.out.trans (hb01.mono HB.out.size))
              have HH1 := Lib.hid hh1
              have HB01 := Lib.hid hb01
              have hfz := free_rec hh1 0
              clear hb1 hbz hh1 hb01 hgh hgs hF hr2 hr3 hr4 hw2 hAB c4 c5
              generalize (y4.toNat : Int) / 16 = zb at *
              generalize (y4.toNat : Int) % 16 = zt at *
              have KC := Lib.hid (fun w => kinds_any zb zt w)
              by_cases hbad : kindB zb zt = false ∨ y5 ≠ 0
              · have HR := Lib.hid (symRd_err HC0.out (by have := HP.out; have := HN.out; omega) HF.out (step_arg (by rw [HREC.out, HREC5.out]; exact hbad)))
                cases hkb : kindB zb zt with
                | false =>
                  rw [hkb] at KC
                  have HX := Lib.hid hkb
                  have HX2 := Lib.hid hbad
                  clear hkb hbad
                  go_wp2_with (go_at_call 78; refine (KC.out _).mono ?_; rintro e w2 ⟨rfl, rfl⟩)
                  go_ret2
                  exact ⟨_, by rw [HR.out]; rfl, by rw [HR.out]; exact OwR.nil _ _ _ _ _, HB1.out⟩
                | true =>
                  have hy : ((y5.toNat : Int) != 0) = true := by
                    rw [hkb] at hbad
                    rcases hbad with h | h
                    · cases h
                    · simpa [← UInt8.toNat_inj] using h
                  rw [hkb] at KC
                  have HX := Lib.hid hkb
                  have HX2 := Lib.hid hbad
                  clear hkb hbad
                  go_wp2_with (go_at_call 78; refine (KC.out _).mono ?_; rintro e w2 ⟨rfl, rfl⟩)
                  go_ret2
                  exact ⟨_, by rw [HR.out]; rfl, by rw [HR.out]; exact OwR.nil _ _ _ _ _, HB1.out⟩
              · have hkb : kindB zb zt = true := by
                  cases h : kindB zb zt with
                  | true => rfl
                  | false => exact absurd (.inl h) hbad
                have hy : ((y5.toNat : Int) != 0) = false := by
                  have : y5 = 0 := by
                    rcases Classical.em (y5 = 0) with h | h
                    · exact h
                    · exact absurd (.inr h) hbad
                  rw [this]; rfl
                have HOKA : Hid (¬ (kindB (recS b (k + 1) []).bind (recS b (k + 1) []).typ = false ∨ rec5 b (k + 1) ≠ 0)) := by rw [HREC.out, HREC5.out]; exact hbad
                rw [hkb] at KC
                have HX := Lib.hid hkb
                clear hkb hbad
                have HNA := Lib.hid (fun wx (hx : Below w.heap.size w wx) => ref3At_any names (n0 : Int) u wx HLN.out (HU.out.mono hx))
                have HORD : Hid (ordL L (recS b (k + 1) []) = (decide (zb ≠ 0) || (match L.getLast? with | some y => decide (y.bind = 0) | none => true))) := by rw [HREC.out]; rfl
                have HSR : Hid (ordL L (recS b (k + 1) []) = false → symRd b names = ([], 24)) := fun ho => symRd_err HC0.out (by have := HP.out; have := HN.out; omega) HF.out (step_ord HOKA.out ho)
                have HSN : Hid (ordL L (recS b (k + 1) []) = true → (atR names (recAt b (k + 1))).2 ≠ 0 → symRd b names = ([], (atR names (recAt b (k + 1))).2)) := fun ho hz => symRd_err HC0.out (by have := HP.out; have := HN.out; omega) HF.out (step_name HOKA.out ho hz)
                have HSO : Hid (ordL L (recS b (k + 1) []) = true → (atR names (recAt b (k + 1))).2 = 0 → foldU (stepSym b names) (k + 1) = .ok (L ++ [recS b (k + 1) (atR names (recAt b (k + 1))).1])) := fun ho hz => foldU_ok HF.out (step_sym HOKA.out ho hz)
                rw [HRECA.out] at HSN HSO
                generalize atR names (n0 : Int) = r at *
                obtain ⟨nm, z⟩ := r
                rw [HORD.out] at HSR HSN HSO
                obtain ⟨ml, al, cal, hml, rfl, hmc, _⟩ := HO1.out.shape
                obtain rfl : ml = k := hml.out.trans HLL.out
                have HFIN : Hid (∃ bd : Bool, (decide (zb ≠ 0) || (match L.getLast? with | some y => decide (y.bind = 0) | none => true)) = bd) := ⟨_, rfl⟩
                -- what the last one's Bind is
                have HLAST : Hid (0 < ml → ∃ bl ol y, al = some ⟨bl, ol, none⟩ ∧ L.getLast? = some y ∧ w1.cell? ⟨bl, ol + (ml - 1) * 6 + 1, none⟩ = some (.int .i64 y.bind)) := by
                  intro hpos
                  obtain ⟨y, hx⟩ : ∃ y, L[ml - 1]? = some y := ⟨_, List.getElem?_eq_getElem (by rw [HLL.out]; omega)⟩
                  obtain ⟨a', c', e1, -, -, hcc⟩ := HO1.out.rd.open (fun _ => rfl)
                  obtain ⟨bl, ol, e2, h3⟩ := hcc (ml - 1) _ hx (by decide)
                  cases e1
                  have h4 := h3 1 (by decide)
                  rw [← Nat.add_assoc] at h4
                  exact ⟨bl, ol, _, e2, by rw [List.getLast?_eq_getElem?, HLL.out]; exact hx, h4⟩
                clear hml HFIN
                have hk5 : ml ≤ 5000 := by have := HP.out; omega
                rcases Nat.eq_zero_or_pos ml with h00 | hpos
                · have hnone : L.getLast? = none := by
                    have : L = [] := List.eq_nil_of_length_eq_zero (by rw [HLL.out]; exact h00)
                    rw [this]; rfl
                  have HSN' := Lib.hid (HSN.out (by rw [hnone]; simp))
                  have HSO' := Lib.hid (HSO.out (by rw [hnone]; simp))
                  have hdd : decide ((0 : Int) < (ml : Int)) = false := by simp [h00]
                  have hdd2 : decide (0 < ml) = false := by simp [h00]
                  have HX0 := Lib.hid h00
                  clear HSR HSN HSO hnone HLAST h00
                  by_cases hz : z = 0
                  · have HF1 := Lib.hid (HSO'.out hz)
                    subst hz
                    have HB4 := Lib.hid (show Below wr.heap.size wr (w1.setCell ⟨gb, 0, none⟩ (S nm)) from HB01.out.setCell hgB _)
                    have HO4 := Lib.hid (HO.out.mono HB4.out)
                    have HB5 := Lib.hid (HB.out.trans (HB4.out.mono HB.out.size))
                    have HP1 : Hid (p + 24 = 24 * (ml + 1 + 1) ∧ ml + 1 + 1 ≤ m) := by have := HP.out; constructor <;> omega
                    clear HSN' HSO'
                    go_wp2_with (first
                      | (go_at_call 78; refine (KC.out _).mono ?_; rintro e w2 ⟨rfl, rfl⟩)
                      | (go_at_call 77; refine (HN0.out w1 HB1.out).mono ?_; rintro e w2 ⟨rfl, rfl⟩)
                      | (go_at_call 68; refine (HNA.out w1 HB1.out).mono ?_; rintro e w2 ⟨rfl, rfl⟩)
                      | ((with_reducible show wpList _ _ _ (⟨some 129, _, _, _, _, _⟩ :: _) _ _); go_must (refine wpList_pushR TSym HO4.out rfl (by show Value.slice (some ⟨w1.heap.size, 0, none⟩) 1 1 = _; simp [World.setCell]) ⟨nm, zb, zt, n2, n3, n4⟩ rfl rfl (by simp [Value.oneCell']) (by have := HLL.out; omega) (by have := HLL.out; omega) HB5.out.size ?_; intro v6 w6 hv6 _ hb6; have HO6 := Lib.hid (show OwR 6 encSym 41 w6 w.heap.size v6 (L ++ [recS b (ml + 1) nm]) by rw [HREC.out]; exact hv6); have HB6 := Lib.hid (HB5.out.trans hb6); clear hv6 hb6)))
                    go_roundw
                    case rel =>
                      first
                        | exact ⟨ml + 1, p + 24, _, by go_num, by omega, HP1.out, HF1.out, HO6.out, HB6.out⟩
                        | ((repeat apply Exists.intro); exact ⟨⟨ml + 1, p + 24, _, by go_num, by omega, HP1.out, HF1.out, HO6.out, HB6.out⟩, rfl⟩)
                    case measure => simp [intOf] <;> omega
                  · have HR := Lib.hid (HSN'.out hz)
                    have hz2 : (z != 0) = true := by simpa using hz
                    have HZ := Lib.hid hz
                    clear hz HSN' HSO'
                    go_wp2_with (first
                      | (go_at_call 78; refine (KC.out _).mono ?_; rintro e w2 ⟨rfl, rfl⟩)
                      | (go_at_call 77; refine (HN0.out w1 HB1.out).mono ?_; rintro e w2 ⟨rfl, rfl⟩)
                      | (go_at_call 68; refine (HNA.out w1 HB1.out).mono ?_; rintro e w2 ⟨rfl, rfl⟩))
                    go_ret2
                    exact ⟨_, by rw [HR.out]; rfl, by rw [HR.out]; exact OwR.nil _ _ _ _ _, HB1.out⟩
                · obtain ⟨bl, ol, y, rfl, hlast, cy⟩ := HLAST.out hpos
                  rw [hlast] at HSR HSN HSO
                  have hdd : decide ((0 : Int) < (ml : Int)) = true := by simpa using hpos
                  have hdd2 : decide (0 < ml) = true := by simpa using hpos
                  have HLA := Lib.hid hlast
                  clear hlast HLAST
                  by_cases hzb : zb = 0
                  · have hzb1 : (zb == 0) = true := by simpa using hzb
                    by_cases hyb : y.bind = 0
                    · have hyb1 : (y.bind != 0) = false := by simpa using hyb
                      have HSN' := Lib.hid (HSN.out (by simp [hyb]))
                      have HSO' := Lib.hid (HSO.out (by simp [hyb]))
                      have HX3 := Lib.hid hyb
                      have HX4 := Lib.hid hzb
                      clear HSR HSN HSO hyb hzb
                      by_cases hz : z = 0
                      · have HF1 := Lib.hid (HSO'.out hz)
                        subst hz
                        have HB4 := Lib.hid (show Below wr.heap.size wr (w1.setCell ⟨gb, 0, none⟩ (S nm)) from HB01.out.setCell hgB _)
                        have HO4 := Lib.hid (HO.out.mono HB4.out)
                        have HB5 := Lib.hid (HB.out.trans (HB4.out.mono HB.out.size))
                        have HP1 : Hid (p + 24 = 24 * (ml + 1 + 1) ∧ ml + 1 + 1 ≤ m) := by have := HP.out; constructor <;> omega
                        clear HSN' HSO'
                        go_wp2_with (first
                          | (go_at_call 78; refine (KC.out _).mono ?_; rintro e w2 ⟨rfl, rfl⟩)
                          | (go_at_call 77; refine (HN0.out w1 HB1.out).mono ?_; rintro e w2 ⟨rfl, rfl⟩)
                          | (go_at_call 68; refine (HNA.out w1 HB1.out).mono ?_; rintro e w2 ⟨rfl, rfl⟩)
                          | ((with_reducible show wpList _ _ _ (⟨some 129, _, _, _, _, _⟩ :: _) _ _); go_must (refine wpList_pushR TSym HO4.out rfl (by show Value.slice (some ⟨w1.heap.size, 0, none⟩) 1 1 = _; simp [World.setCell]) ⟨nm, zb, zt, n2, n3, n4⟩ rfl rfl (by simp [Value.oneCell']) (by have := HLL.out; omega) (by have := HLL.out; omega) HB5.out.size ?_; intro v6 w6 hv6 _ hb6; have HO6 := Lib.hid (show OwR 6 encSym 41 w6 w.heap.size v6 (L ++ [recS b (ml + 1) nm]) by rw [HREC.out]; exact hv6); have HB6 := Lib.hid (HB5.out.trans hb6); clear hv6 hb6)))
                        go_roundw
                        case rel =>
                          first
                            | exact ⟨ml + 1, p + 24, _, by go_num, by omega, HP1.out, HF1.out, HO6.out, HB6.out⟩
                            | ((repeat apply Exists.intro); exact ⟨⟨ml + 1, p + 24, _, by go_num, by omega, HP1.out, HF1.out, HO6.out, HB6.out⟩, rfl⟩)
                        case measure => simp [intOf] <;> omega
                      · have HR := Lib.hid (HSN'.out hz)
                        have hz2 : (z != 0) = true := by simpa using hz
                        have HZ := Lib.hid hz
                        clear hz HSN' HSO'
                        go_wp2_with (first
                          | (go_at_call 78; refine (KC.out _).mono ?_; rintro e w2 ⟨rfl, rfl⟩)
                          | (go_at_call 77; refine (HN0.out w1 HB1.out).mono ?_; rintro e w2 ⟨rfl, rfl⟩)
                          | (go_at_call 68; refine (HNA.out w1 HB1.out).mono ?_; rintro e w2 ⟨rfl, rfl⟩))
                        go_ret2
                        exact ⟨_, by rw [HR.out]; rfl, by rw [HR.out]; exact OwR.nil _ _ _ _ _, HB1.out⟩
                    · have hyb1 : (y.bind != 0) = true := by simpa using hyb
                      have HR := Lib.hid (HSR.out (by simp [hyb, hzb]))
                      have HX3 := Lib.hid hyb
                      have HX4 := Lib.hid hzb
                      clear HSR HSN HSO hyb hzb
                      go_wp2_with (go_at_call 78; refine (KC.out _).mono ?_; rintro e w2 ⟨rfl, rfl⟩)
                      go_ret2
                      exact ⟨_, by rw [HR.out]; rfl, by rw [HR.out]; exact OwR.nil _ _ _ _ _, HB1.out⟩
                  · have hzb1 : (zb == 0) = false := by simpa using hzb
                    have HSN' := Lib.hid (HSN.out (by simp [hzb]))
                    have HSO' := Lib.hid (HSO.out (by simp [hzb]))
                    have HX4 := Lib.hid hzb
                    clear HSR HSN HSO hzb
                    by_cases hz : z = 0
                    · have HF1 := Lib.hid (HSO'.out hz)
                      subst hz
                      have HB4 := Lib.hid (show Below wr.heap.size wr (w1.setCell ⟨gb, 0, none⟩ (S nm)) from HB01.out.setCell hgB _)
                      have HO4 := Lib.hid (HO.out.mono HB4.out)
                      have HB5 := Lib.hid (HB.out.trans (HB4.out.mono HB.out.size))
                      have HP1 : Hid (p + 24 = 24 * (ml + 1 + 1) ∧ ml + 1 + 1 ≤ m) := by have := HP.out; constructor <;> omega
                      clear HSN' HSO'
                      go_wp2_with (first
                        | (go_at_call 78; refine (KC.out _).mono ?_; rintro e w2 ⟨rfl, rfl⟩)
                        | (go_at_call 77; refine (HN0.out w1 HB1.out).mono ?_; rintro e w2 ⟨rfl, rfl⟩)
                        | (go_at_call 68; refine (HNA.out w1 HB1.out).mono ?_; rintro e w2 ⟨rfl, rfl⟩)
                        | ((with_reducible show wpList _ _ _ (⟨some 129, _, _, _, _, _⟩ :: _) _ _); go_must (refine wpList_pushR TSym HO4.out rfl (by show Value.slice (some ⟨w1.heap.size, 0, none⟩) 1 1 = _; simp [World.setCell]) ⟨nm, zb, zt, n2, n3, n4⟩ rfl rfl (by simp [Value.oneCell']) (by have := HLL.out; omega) (by have := HLL.out; omega) HB5.out.size ?_; intro v6 w6 hv6 _ hb6; have HO6 := Lib.hid (show OwR 6 encSym 41 w6 w.heap.size v6 (L ++ [recS b (ml + 1) nm]) by rw [HREC.out]; exact hv6); have HB6 := Lib.hid (HB5.out.trans hb6); clear hv6 hb6)))
                      go_roundw
                      case rel =>
                        first
                          | exact ⟨ml + 1, p + 24, _, by go_num, by omega, HP1.out, HF1.out, HO6.out, HB6.out⟩
                          | ((repeat apply Exists.intro); exact ⟨⟨ml + 1, p + 24, _, by go_num, by omega, HP1.out, HF1.out, HO6.out, HB6.out⟩, rfl⟩)
                      case measure => simp [intOf] <;> omega
                    · have HR := Lib.hid (HSN'.out hz)
                      have hz2 : (z != 0) = true := by simpa using hz
                      have HZ := Lib.hid hz
                      clear hz HSN' HSO'
                      go_wp2_with (first
                        | (go_at_call 78; refine (KC.out _).mono ?_; rintro e w2 ⟨rfl, rfl⟩)
                        | (go_at_call 77; refine (HN0.out w1 HB1.out).mono ?_; rintro e w2 ⟨rfl, rfl⟩)
                        | (go_at_call 68; refine (HNA.out w1 HB1.out).mono ?_; rintro e w2 ⟨rfl, rfl⟩))
                      go_ret2
                      exact ⟨_, by rw [HR.out]; rfl, by rw [HR.out]; exact OwR.nil _ _ _ _ _, HB1.out⟩
            · have HRD := Lib.hid (symRd_ok HC0.out (by have := HP.out; have := HN.out; omega) HF.out)
              clear HF
              go_wp2
              go_ret2
              exact ⟨_, by rw [HRD.out]; rfl, by rw [HRD.out]; exact HO.out, HB.out⟩
  · have HR := Lib.hid (symRd_form (b := b) (names := names) (.inl (by rw [← HN.out]; exact h0)))
    have hz : ((n : Int) % 24 == 0) = false := by simp; omega
    have hz2 : ((n : Int) % 24 != 0) = true := by simp; omega
    have hz3 : ¬ (16385 : Int) < (n : Int) / 24 := by omega
    go_enter Tryz.func41, Tryz.ntmps41
    go_wp2
    go_ret2
    exact ⟨_, by rw [HR.out]; rfl, by rw [HR.out]; exact OwR.nil _ _ _ _ _, Below.refl _ _⟩
end Go.Proofs.YtimnbnomaajmmaaGreat
