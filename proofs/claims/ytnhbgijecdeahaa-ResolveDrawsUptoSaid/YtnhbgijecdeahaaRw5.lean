/-
  Part 5 of 6: laws and walks for resolve_all; no condition of its own.
-/
import Derived.Test.YtnhbgijecdeahaaRw4
import Derived.Test.YtnhbgijecdeahaaRows
import Derived.ProofKit
import Derived.SizedLaws
import Derived.OpenShut
import Derived.Lib.SmallJoins
import Derived.Deep.Fields
import Derived.SliceStrings
import Derived.Deep.Slices
import Derived.JoinedCond
import Derived.Deep.Strs
import Derived.Shelf.Vars
namespace Go.Proofs.Ytnhbgijecdeahaa
open Go.RowKit Go.Fd
abbrev nil3 : Value := .slice none 0 0
abbrev takZ : Array Value := #[nil3, nil3, nil3]
theorem run_allocTk {a : Act} {w : World} {d : Option Tmp} {ty : TypeId} {pos : String} {aft : Array Edge} {g : Option (Nat × Bool)} :
    (execOp a.eval ⟨d, .alloc 29, ty, pos, aft, g⟩).run Try.prog w = .ok (.value (.pointer (some ⟨w.heap.size, 0, none⟩))) (w.alloc (.cells takZ 29)) := by
  kernel_rfl
theorem wpList_allocTk {ops : Array Oper} {rest : List Oper} {Q : Exit → Act → World → Prop} {a : Act} {w : World} {d : Option Tmp} {ty : TypeId} {pos : String} {aft : Array Edge}
    (h : ∀ w1, w1.heap[w.heap.size]? = some (.cells takZ 29 (0, 0)) → Below w.heap.size w w1 → w.heap.size < w1.heap.size → wpList Try.prog ops Q rest (a.put d (.pointer (some ⟨w.heap.size, 0, none⟩))) w1) :
    wpList Try.prog ops Q (⟨d, .alloc 29, ty, pos, aft, none⟩ :: rest) a w :=
  wpList_val rfl run_allocTk (h (w.alloc (.cells takZ 29)) (heap_alloc_last w _) (below_alloc w _) (by rw [World.size_alloc]; omega))
theorem tak_box {w : World} {g : Nat} {a b c : Value} {ty : TypeId} {fr : Nat × Nat} (h : w.heap[g]? = some (.cells #[a, b, c] ty fr)) :
    w.cell? ⟨g, 0, none⟩ = some a ∧ w.cell? ⟨g, 1, none⟩ = some b ∧ w.cell? ⟨g, 2, none⟩ = some c :=
  ⟨cell_rec h 0, cell_rec h 1, cell_rec h 2⟩
/-- What is asked of inputs that are taken. -/
structure TkOk (l : List InM) : Prop where
  rs : RsOk l
  objs : ∀ o ∈ objsM l, ObjOk o
  names : ∀ x ∈ l, x.name.length ≤ 1000000000 ∧ ∀ m ∈ x.lib, m.name.length ≤ 1000000000
/-- What memory holds of what is taken. -/
structure TakenAt (w : World) (t : TakenM) (Y : List ObV) (mv nv wv : Value) : Prop where
  obs : ObsAt w t.mods Y
  mods : RdR 3 encOb w mv Y
  names : Rd S w nv t.names
  wins : RdR 6 encWin w wv t.wins
theorem TakenAt.mono {w w' : World} {t : TakenM} {Y : List ObV} {mv nv wv : Value} (h : TakenAt w t Y mv nv wv) (hb : Below w.heap.size w w') : TakenAt w' t Y mv nv wv :=
  ⟨h.obs.mono hb, h.mods.mono hb, Reads.mono h.names hb, h.wins.mono hb⟩
theorem TakenAt.no (w : World) : TakenAt w takenNo [] nil3 nil3 nil3 := ⟨⟨rfl, fun y hy => by cases hy⟩, OwR.rd (OwR.nil 3 encOb 36 w 0), Ow.rd (Ow.nil S 9 w 0), OwR.rd (OwR.nil 6 encWin 42 w 0)⟩
/-- The answer of Take. -/
def TakeRes (r : TakenM × Int) (e : Ending) (w : World) : Prop := ∃ Y mv nv wv, e = .returned (.tuple #[.agg #[mv, nv, wv], .int .i64 r.2]) ∧ TakenAt w r.1 Y mv nv wv
theorem faulty_len {l : List InM} (h : faultyM l = 0) : l.length ≤ 64 ∧ ∀ x ∈ l, x.lib.length ≤ 64 := by
  unfold faultyM at h
  split at h
  · exact absurd h (by decide)
  split at h
  · exact absurd h (by decide)
  split at h
  · exact absurd h (by decide)
  · rename_i h1 h2 h3
    refine ⟨by omega, fun x hx => ?_⟩
    rw [List.any_eq_true] at h3
    rcases Nat.lt_or_ge 64 x.lib.length with h4 | h4
    · exact absurd ⟨x, hx, by simpa using h4⟩ h3
    · exact h4
theorem firstE_drop {α : Type} {f : α → Int} {l : List α} {i : Nat} {x : α} (hx : l[i]? = some x) : firstE f (l.drop i) = if f x = 0 then firstE f (l.drop (i + 1)) else f x := by
  rw [drop_get hx]
  rfl
theorem ord_spot {l : List InM} {T : List Spot} {s : Spot} (h : s ∈ orderM 0 l T) : ∃ x, l[s.1]? = some x ∧ (s.2 = -1 ∨ ∃ (k : Nat) (m : MemM), s.2 = (k : Int) ∧ x.lib[k]? = some m) := by
  obtain ⟨j, x, hj, hs⟩ := mem_orderM.1 h
  rw [Nat.zero_add] at hs
  rcases mem_orderI.1 hs with ⟨-, rfl⟩ | ⟨k, hk, rfl, -⟩
  · exact ⟨x, hj, .inl rfl⟩
  · exact ⟨x, hj, .inr ⟨k, _, rfl, List.getElem?_eq_getElem hk⟩⟩
theorem objsI_len (x : InM) : (objsI x).length ≤ 1 + x.lib.length := by
  unfold objsI
  rw [List.length_append, List.length_map]
  split <;> simp
theorem objsM_len : ∀ (l : List InM), (objsM l).length ≤ l.length + memsM l
  | [] => by simp [objsM]
  | x :: l => by
    have ih := objsM_len l
    have h1 := objsI_len x
    unfold objsM memsM at *
    rw [List.flatMap_cons, List.length_append, List.length_cons, List.map_cons, List.sum_cons]
    omega
theorem InsAt.spot {w : World} {l : List InM} {V : List InV} {v : Value} (h : InsAt w l V v) {T : List Spot} {s : Spot} (hs : s ∈ orderM 0 l T) : ∃ y, obVAt V s = some y := by
  obtain ⟨x, hx, hs⟩ := ord_spot hs
  rw [h.eq, List.getElem?_map, Option.map_eq_some_iff] at hx
  obtain ⟨xv, hxv, rfl⟩ := hx
  unfold obVAt
  rw [hxv]
  rcases hs with e | ⟨k, m, e, hm⟩
  · rw [e]
    exact ⟨_, rfl⟩
  · rw [e]
    dsimp only
    rw [if_neg (by omega), Int.toNat_natCast]
    rw [(h.lib xv (List.mem_of_getElem? hxv)).1, List.getElem?_map, Option.map_eq_some_iff] at hm
    obtain ⟨mv, hmv, rfl⟩ := hm
    rw [hmv]
    exact ⟨_, rfl⟩
/-- While what is taken is put together: the answer stands in block g, the order is ov. -/
structure TkInv (w wr : World) (g : Nat) (O : List Spot) (ov : Value) (C : List ObV) (ns : List (List UInt8)) (mv nv : Value) : Prop where
  blk : wr.heap[g]? = some (.cells #[mv, nv, nil3] 29 (0, 0))
  ord : OwR 2 encSp 61 wr w.heap.size ov O
  mo : OwR 3 encOb 36 wr w.heap.size mv C
  na : Ow S 9 wr w.heap.size nv ns
  obs : ∀ y ∈ C, ObjMn wr w.heap.size y.1 y.2.1 y.2.2.1 y.2.2.2
  below : Below w.heap.size w wr
  hg : w.heap.size ≤ g
section
variable {w wr w1 w2 w' : World} {g : Nat} {O : List Spot} {ov : Value} {C : List ObV} {ns : List (List UInt8)} {mv nv mv' nv' : Value}
theorem TkInv.mono (h : TkInv w wr g O ov C ns mv nv) (hb : Below wr.heap.size wr w') : TkInv w w' g O ov C ns mv nv :=
  ⟨heap_below hb h.blk, h.ord.mono hb, h.mo.mono hb, h.na.mono hb, fun y hy => (h.obs y hy).mono hb, h.below.trans (hb.mono h.below.size), h.hg⟩
theorem tk_types : 29 ≠ 70 ∧ 29 ≠ 5 ∧ 29 ≠ 86 ∧ 29 ≠ 44 := by decide
theorem TkInv.name {x : List UInt8} (h : TkInv w wr g O ov C ns mv nv) (ho : Ow S 9 w1 w.heap.size nv' (ns ++ [x])) (hgr : wr.grownBy w1 nv.ownBlock) (hb : w2.heap[g]? = some (.cells #[mv, nv', nil3] 29 (0, 0))) (hs : Stirs (fun k => k = g) w1 w2) : TkInv w w2 g O ov C (ns ++ [x]) mv nv' := by
  have hk := keeps_own h.na hgr
  have hblk := hk _ _ _ _ (show 29 ≠ 9 by decide) h.blk
  have hmo := owns_grown h.mo hgr (fun k hk hk2 => Go.Fd.own_apart h.mo h.na (by decide) hk hk2)
  have hor := owns_grown h.ord hgr (fun k hk hk2 => Go.Fd.own_apart h.ord h.na (by decide) hk hk2)
  have hB : Below w.heap.size w w1 := h.below.trans (below_of_grown hgr h.below.size fun k hk => (World.ownsRow.lt h.na k hk).1)
  exact ⟨hb, owns_stirs hor hs (own_ne hor hblk (by decide)), owns_stirs hmo hs (own_ne hmo hblk (by decide)), owns_stirs ho hs (own_ne ho hblk (by decide)), fun y hy => ((h.obs y hy).grown h.na (by decide) hgr).stir hblk tk_types hs, hB.trans (hs.below hB.size fun k hk => by rw [hk]; exact h.hg), h.hg⟩
theorem TkInv.mod {x : ObV} (h : TkInv w wr g O ov C ns mv nv) (hx : ObjMn wr w.heap.size x.1 x.2.1 x.2.2.1 x.2.2.2) (ho : OwR 3 encOb 36 w1 w.heap.size mv' (C ++ [x])) (hgr : wr.grownBy w1 mv.ownBlock) (hb : w2.heap[g]? = some (.cells #[mv', nv, nil3] 29 (0, 0))) (hs : Stirs (fun k => k = g) w1 w2) : TkInv w w2 g O ov (C ++ [x]) ns mv' nv := by
  have hk := keeps_own h.mo hgr
  have hblk := hk _ _ _ _ (show 29 ≠ 36 by decide) h.blk
  have hna := owns_grown h.na hgr (fun k hk hk2 => Go.Fd.own_apart h.na h.mo (by decide) hk hk2)
  have hor := owns_grown h.ord hgr (fun k hk hk2 => Go.Fd.own_apart h.ord h.mo (by decide) hk hk2)
  have hB : Below w.heap.size w w1 := h.below.trans (below_of_grown hgr h.below.size fun k hk => (World.ownsRow.lt h.mo k hk).1)
  refine ⟨hb, owns_stirs hor hs (own_ne hor hblk (by decide)), owns_stirs ho hs (own_ne ho hblk (by decide)), owns_stirs hna hs (own_ne hna hblk (by decide)), fun y hy => ?_, hB.trans (hs.below hB.size fun k hk => by rw [hk]; exact h.hg), h.hg⟩
  have h0 : ObjMn wr w.heap.size y.1 y.2.1 y.2.2.1 y.2.2.2 := by
    rcases List.mem_append.1 hy with hy | hy
    · exact h.obs y hy
    · rw [List.mem_singleton] at hy
      rw [hy]
      exact hx
  exact (h0.grown h.mo (by decide) hgr).stir hblk tk_types hs
end
theorem TkInv.fin {w wr w1 w2 : World} {g r B : Nat} {O : List Spot} {ov : Value} {C : List ObV} {ns : List (List UInt8)} {mv nv wv : Value} {mods : List ObjM} {W : List WinM} {cs : Array Value} (h : TkInv w wr g O ov C ns mv nv) (he : mods = C.map (·.1)) (hw : OwR 6 encWin 42 wr B wv W) (h1 : Stirs (fun k => k = g) wr w1) (hr : w1.heap[r]? = some (.cells cs 29 (0, 0))) (h2 : Stirs (fun k => k = r) w1 w2) : TakenAt w2 ⟨mods, ns, W⟩ C mv nv wv := by
  refine ⟨⟨he, fun y hy => (((h.obs y hy).stir h.blk tk_types h1).stir hr tk_types h2).at⟩, ?_, ?_, ?_⟩
  · have a1 := owns_stirs h.mo h1 (own_ne h.mo h.blk (by decide))
    exact OwR.rd (owns_stirs a1 h2 (own_ne a1 hr (by decide)))
  · have a1 := owns_stirs h.na h1 (own_ne h.na h.blk (by decide))
    exact Ow.rd (owns_stirs a1 h2 (own_ne a1 hr (by decide)))
  · have a1 := owns_stirs hw h1 (own_ne hw h.blk (by decide))
    exact OwR.rd (owns_stirs a1 h2 (own_ne a1 hr (by decide)))
/-- A module that was copied, in a region; the same in a block of its own. -/
def YObO (B : Nat) (o : ObjM) : Yld := ⟨(Option Addr × Nat × Nat) × (Option Addr × Nat × Nat), ((none, 0, 0), (none, 0, 0)), fun q => objV o (.slice q.1.1 q.1.2.1 q.1.2.2) (.slice q.2.1 q.2.2.1 q.2.2.2), fun q w => ∃ M, ObjMn w B o M (.slice q.1.1 q.1.2.1 q.1.2.2) (.slice q.2.1 q.2.2.1 q.2.2.2), fun _ _ _ ⟨M, h⟩ hb => ⟨M, h.mono hb⟩⟩
theorem YObO_got {B : Nat} {o : ObjM} {a a' : Option Addr} {n c n' c' : Nat} {w : World} (h : (YObO B o).R (objV o (.slice a n c) (.slice a' n' c')) w) : ∃ M, ObjMn w B o M (.slice a n c) (.slice a' n' c') := by
  obtain ⟨⟨⟨b, m, d⟩, ⟨b', m', d'⟩⟩, e, M, h⟩ := h
  have e' : objV o (.slice a n c) (.slice a' n' c') = objV o (.slice b m d) (.slice b' m' d') := e
  simp only [objV, Value.agg.injEq, Array.mk.injEq, List.cons.injEq, true_and, and_true] at e'
  rw [e'.1, e'.2]
  exact ⟨M, h⟩
def YOneO (B : Nat) (o : ObjM) : Yld := ⟨Nat, 0, fun g => .slice (some ⟨g, 0, none⟩) 1 1, fun g w => ∃ M a n c a' n' c', w.heap[g]? = some (.cells #[.int .i64 o.target, .slice a n c, .slice a' n' c'] 36 (0, 0)) ∧ ObjMn w B o M (.slice a n c) (.slice a' n' c'), fun _ _ _ ⟨M, a, n, c, a', n', c', h1, h2⟩ hb => ⟨M, a, n, c, a', n', c', heap_below hb h1, h2.mono hb⟩⟩
theorem YOneO_got {B g : Nat} {o : ObjM} {w : World} (h : (YOneO B o).R (.slice (some ⟨g, 0, none⟩) 1 1) w) : ∃ M a n c a' n' c', w.heap[g]? = some (.cells #[.int .i64 o.target, .slice a n c, .slice a' n' c'] 36 (0, 0)) ∧ ObjMn w B o M (.slice a n c) (.slice a' n' c') := by
  obtain ⟨x, e, hr⟩ := h
  have : g = x := by
    have e' : (Value.slice (some ⟨g, 0, none⟩) 1 1) = .slice (some ⟨x, 0, none⟩) 1 1 := e
    injection e' with e'; injection e' with e'; injection e'
  subst this
  exact hr
theorem run_oneOb {x : Operand} {o : ObjM} {p p' : Option Addr} {m c m' c' : Nat} {a : Act} {w : World} {d : Option Tmp} {ty : TypeId} {pos : String} {aft : Array Edge} {g : Option (Nat × Bool)} (hx : a.eval x = objV o (.slice p m c) (.slice p' m' c')) :
    (execOp a.eval ⟨d, .buildSlice 25 1 #[(0, x)], ty, pos, aft, g⟩).run Try.prog w = .ok (.value (.slice (some ⟨w.heap.size, 0, none⟩) 1 1)) (w.alloc (.cells #[.int .i64 o.target, .slice p m c, .slice p' m' c'] 36)) := by
  simp only [execOp, List.map_toArray, List.map_cons, List.map_nil, hx]
  kernel_rfl
theorem paren_str (a b : List UInt8) : Value.string ((⟨a.toArray⟩ : ByteArray) ++ ((⟨#[40]⟩ : ByteArray) ++ ⟨b.toArray⟩ ++ ⟨#[41]⟩)) = S (a ++ ([40] ++ b ++ [41])) := by
  congr 1
attribute [local irreducible] walk
set_option maxHeartbeats 16000000 in
set_option maxRecDepth 100000 in
theorem takeRs_any (l : List InM) (V : List InV) (lv kv : Value) (known : List (List UInt8)) (w : World) (h : InsAt w l V lv) (hk : Rd S w kv known) (hl : l.length ≤ 1000000000) (hkn : known.length ≤ 1000000000) (hok : faultyM l = 0 → TkOk l) :
    Calls Try.prog 8 #[lv, kv] w fun e w' => TakeRes (resolveM l known) e w' ∧ Below w.heap.size w w' := by
  have HI := Lib.hid h
  have HK := Lib.hid hk
  have HKN := Lib.hid hkn
  have HRM : Hid (resolveM l known = if faultyM l ≠ 0 then (takenNo, faultyM l) else
      if 256 < (orderM 0 l (drawnM l).taken).length then (takenNo, 6) else
      if firstE mayO (objsM l) ≠ 0 then (takenNo, firstE mayO (objsM l)) else
      if (objsM l).any (fun o => !decide (o.target = ((objsM l)[0]?.elim 0 (·.target)))) = true then (takenNo, 11) else
      if (chosenM ((orderM 0 l (drawnM l).taken).map (objAt l)) known).2 ≠ 0 then (takenNo, (chosenM ((orderM 0 l (drawnM l).taken).map (objAt l)) known).2) else
      (⟨(orderM 0 l (drawnM l).taken).map (objAt l), (orderM 0 l (drawnM l).taken).map (nameAt l), (chosenM ((orderM 0 l (drawnM l).taken).map (objAt l)) known).1⟩, 0)) := rfl
  generalize resolveM l known = RES at *
  have HFA : Hid (∀ wx, Below w.heap.size w wx → Calls Try.prog 14 #[lv] wx fun e w' => e = .returned (.int .i64 (faultyM l)) ∧ Below wx.heap.size wx w') := Lib.hid fun wx hb => faultyR_any l V lv wx (HI.out.mono hb) hl
  have HLN := Lib.hid (fun hf : faultyM l = 0 => faulty_len hf)
  have HOK := Lib.hid hok
  obtain ⟨F, hF⟩ : ∃ F, F = faultyM l := ⟨_, rfl⟩
  rw [← hF] at HRM HFA HLN HOK
  clear h hk hl hkn hok
  by_cases hf : F = 0
  case neg =>
    have HR := Lib.hid (show RES = (takenNo, F) by rw [HRM.out, if_pos hf])
    have t1 : (F != 0) = true := bne_iff_ne.2 hf
    clear HRM hf hF HLN HOK
    go_enter Try.func8, Try.ntmps8
    go_wp2_with (first
      | ((with_reducible show wpList _ _ _ (⟨some 4, .alloc _, _, _, _, _⟩ :: _) _ _); go_must (refine wpList_allocTk ?_; intro w1 hx1 hb1 hs1; have HX1 := Lib.hid hx1; have HB1 := Lib.hid hb1; clear hx1 hb1))
      | (go_at_call 14; refine (HFA.out w1 HB1.out).mono ?_; rintro e w2 ⟨rfl, hb2⟩; have HX2 := Lib.hid (heap_below hb2 HX1.out); have HB2 := Lib.hid (HB1.out.trans (hb2.mono HB1.out.size)); clear hb2)
      | ((with_reducible show wpList _ _ _ (⟨none, .store _ (.tmp 4) _, _, _, _, _⟩ :: _) _ _); go_must (refine wpList_storeRowS HX2.out rfl rfl rfl (by kernel_rfl) (by simp [Value.oneCell']) ?_; intro w3 hh3 hs3; have HH3 := Lib.hid hh3; have HB3 := Lib.hid (HB2.out.trans (hs3.below HB2.out.size (fun k hk => by rw [hk]; exact Nat.le_refl _))); clear hh3 hs3)))
    exact bodyPost_ret (obRow2 rfl _ _ w.heap.size _ _ _ _ rfl HH3.out rfl rfl (by kernel_rfl)) rfl ⟨⟨[], nil3, nil3, nil3, by rw [HR.out]; rfl, by rw [HR.out]; exact TakenAt.no _⟩, HB3.out⟩
  have t1 : (F != 0) = false := by rw [hf]; rfl
  have HTK := Lib.hid (HOK.out hf)
  have HLL := Lib.hid (HLN.out hf)
  have HR0 := HRM.out
  rw [if_neg (by simpa using hf)] at HR0
  have HR0 := Lib.hid HR0
  clear HRM hF HLN HOK
  have HF0 := Lib.hid hf
  clear hf
  obtain ⟨a, cap, rfl, hcap, -, hP⟩ := HI.out.rd.open (fun _ => rfl)
  have HP := Lib.hid hP
  have hvl : l.length = V.length := by rw [HI.out.eq, List.length_map]
  have hV64 : V.length ≤ 64 := by rw [← hvl]; exact HLL.out.1
  have HM64 := Lib.hid (fun x (hx : x ∈ V) => show x.ml.length ≤ 64 by
    have h1 := HLL.out.2 x.x (by rw [HI.out.eq]; exact List.mem_map_of_mem hx)
    rwa [(HI.out.lib x hx).1, List.length_map] at h1)
  have HOBJ : Hid (∀ wx, Below w.heap.size w wx → Calls Try.prog 15 #[.slice a V.length cap] wx fun e w' => (∃ a n c, e = .returned (.slice a n c) ∧ OwR 3 encOb 36 w' wx.heap.size (.slice a n c) (V.flatMap objsV)) ∧ Below wx.heap.size wx w') := Lib.hid fun wx hb => objectsR_any l V _ wx (HI.out.mono hb) hV64 HM64.out
  have HDRW : Hid (∀ wx, Below w.heap.size w wx → Calls Try.prog 16 #[.slice a V.length cap] wx fun e w' => ∃ p mt tb mh H, e = .returned (.pointer (some ⟨p, 0, none⟩)) ∧ DrwAt w' wx.heap.size p (.slice a V.length cap) mt tb mh H (drawnM l) ∧ Below wx.heap.size wx w') := Lib.hid fun wx hb => drawnR_any l V _ wx (HI.out.mono hb) hV64 HM64.out HTK.out.rs
  have HORD : Hid (∀ wx base p mt tb mh H, Below w.heap.size w wx → DrwAt wx base p (.slice a V.length cap) mt tb mh H (drawnM l) → Calls Try.prog 17 #[.pointer (some ⟨p, 0, none⟩)] wx fun e w' => (∃ a n c, e = .returned (.slice a n c) ∧ OwR 2 encSp 61 w' wx.heap.size (.slice a n c) (orderM 0 l (drawnM l).taken)) ∧ Below wx.heap.size wx w') := Lib.hid fun wx base p mt tb mh H hb hd => orderR_any l V _ base p mt tb mh H (drawnM l) wx (HI.out.mono hb) hd hV64 HM64.out
  have HSPT := Lib.hid (fun s (hs : s ∈ orderM 0 l (drawnM l).taken) => (⟨HI.out.spot hs, ord_spot hs, (order_inside hs).2⟩ : (∃ y, obVAt V s = some y) ∧ (∃ x, l[s.1]? = some x ∧ (s.2 = -1 ∨ ∃ (k : Nat) (m : MemM), s.2 = (k : Int) ∧ x.lib[k]? = some m)) ∧ objAt l s ∈ objsM l))
  have HOBS := Lib.hid HI.out.obs
  obtain ⟨D, hD⟩ : ∃ D, D = drawnM l := ⟨_, rfl⟩
  obtain ⟨O, hO⟩ : ∃ O, O = orderM 0 l (drawnM l).taken := ⟨_, rfl⟩
  rw [← hO] at HR0 HORD HSPT
  rw [← hD] at HDRW HORD
  obtain ⟨Y, hY⟩ : ∃ Y, Y = V.flatMap objsV := ⟨_, rfl⟩
  rw [← hY] at HOBJ HOBS
  obtain ⟨n, hn⟩ : ∃ n, n = V.length := ⟨_, rfl⟩
  rw [← hn] at HFA HI HOBJ HDRW HORD hcap hvl hV64 ⊢
  have HN := Lib.hid hn
  clear hP hD hO hY hn hvl
  by_cases h2 : 256 < O.length
  case pos =>
    have HR := Lib.hid (show RES = (takenNo, 6) by rw [HR0.out, if_pos h2])
    have t2 : decide ((256 : Int) < (O.length : Int)) = true := decide_eq_true (by omega)
    go_enter Try.func8, Try.ntmps8
    go_wp2_with (first
      | ((with_reducible show wpList _ _ _ (⟨some 4, .alloc _, _, _, _, _⟩ :: _) _ _); go_must (refine wpList_allocTk ?_; intro w1 hx1 hb1 hs1; have HX1 := Lib.hid hx1; have HB1 := Lib.hid hb1; clear hx1 hb1))
      | (go_at_call 14; refine (HFA.out w1 HB1.out).mono ?_; rintro e w2 ⟨rfl, hb2⟩; have HX2 := Lib.hid (heap_below hb2 HX1.out); have HB2 := Lib.hid (HB1.out.trans (hb2.mono HB1.out.size)); clear hb2)
      | (go_at_call 15; refine (HOBJ.out w2 HB2.out).mono ?_; rintro e w3 ⟨⟨oa, om, oc, rfl, ho3⟩, hb3⟩; have HO3 := Lib.hid (OwR.rebase ho3 HB2.out.size); have HX3 := Lib.hid (heap_below hb3 HX2.out); have HB3 := Lib.hid (HB2.out.trans (hb3.mono HB2.out.size)); clear hb3 ho3)
      | (go_at_call 16; refine (HDRW.out w3 HB3.out).mono ?_; rintro e w4 ⟨p, mt, tb, mh, H, rfl, hd4, hb4⟩; have HD4 := Lib.hid hd4; have HX4 := Lib.hid (heap_below hb4 HX3.out); have HB4 := Lib.hid (HB3.out.trans (hb4.mono HB3.out.size)); clear hb4 hd4)
      | (go_at_call 17; refine (HORD.out w4 _ _ _ _ _ _ HB4.out HD4.out).mono ?_; rintro e w5 ⟨⟨ra, rm, rc, rfl, ho5⟩, hb5⟩; have HX5 := Lib.hid (heap_below hb5 HX4.out); have HB5 := Lib.hid (HB4.out.trans (hb5.mono HB4.out.size)); obtain ⟨_, _, _, hrm, e9, -, -⟩ := ho5.shape; cases e9; have hrm := hrm.out; subst hrm; clear hb5)
      | ((with_reducible show wpList _ _ _ (⟨none, .store _ (.tmp 4) _, _, _, _, _⟩ :: _) _ _); go_must (refine wpList_storeRowS HX5.out rfl rfl rfl (by kernel_rfl) (by simp [Value.oneCell']) ?_; intro w6 hh6 hs6; have HH6 := Lib.hid hh6; have HB6 := Lib.hid (HB5.out.trans (hs6.below HB5.out.size (fun k hk => by rw [hk]; exact Nat.le_refl _))); clear hh6 hs6)))
    exact bodyPost_ret (obRow2 rfl _ _ w.heap.size _ _ _ _ rfl HH6.out rfl rfl (by kernel_rfl)) rfl ⟨⟨[], nil3, nil3, nil3, by rw [HR.out]; rfl, by rw [HR.out]; exact TakenAt.no _⟩, HB6.out⟩
  have t2 : decide ((256 : Int) < (O.length : Int)) = false := decide_eq_false (by omega)
  have HR1 := HR0.out
  rw [if_neg h2] at HR1
  have HR1 := Lib.hid HR1
  clear HR0
  obtain ⟨no, hno⟩ : ∃ n, n = Y.length := ⟨_, rfl⟩
  have HNO := Lib.hid hno
  have hoy : (objsM l).length = no := by rw [HOBS.out.eq, List.length_map, hno]
  have hno9 : no ≤ 100000 := by
    have h1 := HTK.out.rs.total
    have h2 : (objsM l).length ≤ l.length + memsM l := objsM_len l
    omega
  have HOY := Lib.hid hoy
  have HMG := Lib.hid (fun i (y : ObV) (hy : Y[i]? = some y) => show (objsM l)[i]? = some y.1 by rw [HOBS.out.eq, List.getElem?_map, hy]; rfl)
  have HMAY := Lib.hid (fun (y : ObV) (hy : y ∈ Y) => show ObjOk y.1 from HTK.out.objs y.1 (by rw [HOBS.out.eq]; exact List.mem_map_of_mem hy))
  have HA0 : Hid (firstE mayO (objsM l) = firstE mayO ((objsM l).drop 0)) := rfl
  clear hno hoy
  go_enter Try.func8, Try.ntmps8
  go_wp2_with (first
    | ((with_reducible show wpList _ _ _ (⟨some 4, .alloc _, _, _, _, _⟩ :: _) _ _); go_must (refine wpList_allocTk ?_; intro w1 hx1 hb1 hs1; have HX1 := Lib.hid hx1; have HB1 := Lib.hid hb1; clear hx1 hb1))
    | (go_at_call 14; refine (HFA.out w1 HB1.out).mono ?_; rintro e w2 ⟨rfl, hb2⟩; have HX2 := Lib.hid (heap_below hb2 HX1.out); have HB2 := Lib.hid (HB1.out.trans (hb2.mono HB1.out.size)); clear hb2)
    | (go_at_call 15; refine (HOBJ.out w2 HB2.out).mono ?_; rintro e w3 ⟨⟨oa, om, oc, rfl, ho3⟩, hb3⟩; have HO3 := Lib.hid (OwR.rebase ho3 HB2.out.size); have HX3 := Lib.hid (heap_below hb3 HX2.out); have HB3 := Lib.hid (HB2.out.trans (hb3.mono HB2.out.size)); obtain ⟨_, _, _, hom, e9, -, -⟩ := ho3.shape; cases e9; obtain rfl : no = om := HNO.out.trans hom.out.symm; clear hb3 ho3 hom)
    | (go_at_call 16; refine (HDRW.out w3 HB3.out).mono ?_; rintro e w4 ⟨p, mt, tb, mh, H, rfl, hd4, hb4⟩; have HD4 := Lib.hid hd4; have HO4 := Lib.hid (HO3.out.mono hb4); have HX4 := Lib.hid (heap_below hb4 HX3.out); have HB4 := Lib.hid (HB3.out.trans (hb4.mono HB3.out.size)); clear hb4 hd4)
    | (go_at_call 17; refine (HORD.out w4 _ _ _ _ _ _ HB4.out HD4.out).mono ?_; rintro e w5 ⟨⟨ra, rm, rc, rfl, ho5⟩, hb5⟩; have HD5 := Lib.hid (HD4.out.mono hb5); have HO5 := Lib.hid (HO4.out.mono hb5); have HX5 := Lib.hid (heap_below hb5 HX4.out); have HB5 := Lib.hid (HB4.out.trans (hb5.mono HB4.out.size)); obtain ⟨_, _, _, hrm, e9, -, -⟩ := ho5.shape; cases e9; have hrm := hrm.out; subst hrm; clear hb5))
  obtain ⟨oa', oc', e9, hoc, -, hPY⟩ := (OwR.rd HO5.out).open (fun _ => rfl)
  injection e9 with e9 e8 e7
  subst e9 e7
  have HPY := Lib.hid hPY
  have HOB5 := Lib.hid (HOBS.out.mono HB5.out)
  have hno8 : no ≤ oc := by rw [HNO.out]; exact hoc
  have hs05 : w.heap.size < w5.heap.size := (Array.getElem?_eq_some_iff.1 HX5.out).1
  clear hPY hoc e8 HO3 HO4 HD4 HX1 HX2 HX3 HX4 HB1 HB2 HB3 HB4 HOBJ HDRW HFA
  go_wp2
  -- L1
  go_loopw [10, 11, 37] (fun _ _ i wr => ∃ k : Nat, i = .int .i64 k ∧ k ≤ no ∧ Hid (firstE mayO (objsM l) = firstE mayO ((objsM l).drop k)) ∧ Hid (Below w5.heap.size w5 wr)) (fun _ _ i _ => no - (intOf i).toNat)
  case atStart => exact ⟨0, rfl, Nat.zero_le _, HA0, Below.refl _ _⟩
  case round =>
    obtain ⟨k, rfl, hk, HA, HB⟩ := hrel
    have hbs := HB.out.size
    by_cases hlt : k < no
    · obtain ⟨y, hy⟩ : ∃ y, Y[k]? = some y := ⟨_, List.getElem?_eq_getElem (by have := HNO.out; omega)⟩
      obtain ⟨b, o, rfl, e0, e1, e2, hb0⟩ := ob_cells HPY.out HB.out hy
      have HST := Lib.hid (firstE_drop (f := mayO) (HMG.out k y hy))
      have HOJ := Lib.hid (HMAY.out y (List.mem_of_getElem? hy))
      have HAT := Lib.hid (HOB5.out.obj y (List.mem_of_getElem? hy))
      obtain ⟨o1, L1, pv1, sv1⟩ := y
      dsimp only at *
      obtain ⟨np1, ap1, cp1, -, rfl, -, -⟩ := HAT.out.rd.shape
      obtain ⟨ns1, as1, cs1, -, rfl, -, -⟩ := HAT.out.syms.shape
      have HMC : Hid (∀ wx, Below w5.heap.size w5 wx → Calls Try.prog 18 #[objV o1 (.slice ap1 np1 cp1) (.slice as1 ns1 cs1)] wx fun e w' => e = .returned (.int .i64 (mayO o1)) ∧ Below wx.heap.size wx w') := Lib.hid fun wx hb => may6_any o1 L1 _ _ wx (HAT.out.mono hb) HOJ.out
      obtain ⟨E, hE⟩ : ∃ E, E = mayO o1 := ⟨_, rfl⟩
      rw [← hE] at HST HMC
      clear hy hE
      by_cases hE0 : E = 0
      · have HA2 := Lib.hid (show firstE mayO (objsM l) = firstE mayO ((objsM l).drop (k + 1)) by rw [HA.out, HST.out, if_pos hE0])
        have t3 : (E != 0) = false := by rw [hE0]; rfl
        clear hE0
        go_wp2_with (first
          | ((with_reducible show wpList _ _ _ (⟨none, .store _ (.tmp 10) _, _, _, _, _⟩ :: _) _ _); go_must (refine wpList_storeNew rfl rfl (by kernel_rfl) rfl (by simp [Value.oneCell']) ?_; intro w6 hh6 hb6; have HB6 := Lib.hid (HB.out.trans (hb6.mono hbs)); obtain ⟨d0, d1, d2⟩ := obj_box hh6; clear hh6 hb6))
          | (go_at_call 18; refine (HMC.out w6 HB6.out).mono ?_; rintro e w7 ⟨rfl, hb7⟩; have HB7 := Lib.hid (HB6.out.trans (hb7.mono HB6.out.size)); clear hb7 d0 d1 d2))
        go_roundw
        case rel => exact ⟨k + 1, by go_num, by omega, HA2, HB7.out⟩
        case measure => simp [intOf] <;> omega
      · have HR := Lib.hid (show RES = (takenNo, E) by rw [HR1.out, if_pos (by rw [HA.out, HST.out, if_neg hE0]; exact hE0), HA.out, HST.out, if_neg hE0])
        have t3 : (E != 0) = true := bne_iff_ne.2 hE0
        clear hE0
        go_wp2_with (first
          | ((with_reducible show wpList _ _ _ (⟨none, .store _ (.tmp 10) _, _, _, _, _⟩ :: _) _ _); go_must (refine wpList_storeNew rfl rfl (by kernel_rfl) rfl (by simp [Value.oneCell']) ?_; intro w6 hh6 hb6; have HB6 := Lib.hid (HB.out.trans (hb6.mono hbs)); obtain ⟨d0, d1, d2⟩ := obj_box hh6; clear hh6 hb6))
          | (go_at_call 18; refine (HMC.out w6 HB6.out).mono ?_; rintro e w7 ⟨rfl, hb7⟩; have HB7 := Lib.hid (HB6.out.trans (hb7.mono HB6.out.size)); have HX7 := Lib.hid (heap_base HB7.out HX5.out hs05); have HB7 := Lib.hid (HB5.out.trans (HB7.out.mono HB5.out.size)); clear hb7 d0 d1 d2)
          | ((with_reducible show wpList _ _ _ (⟨none, .store _ (.tmp 4) _, _, _, _, _⟩ :: _) _ _); go_must (refine wpList_storeRowS HX7.out rfl rfl rfl (by kernel_rfl) (by simp [Value.oneCell']) ?_; intro w8 hh8 hs8; have HH8 := Lib.hid hh8; have HB8 := Lib.hid (HB7.out.trans (hs8.below HB7.out.size (fun k hk => by rw [hk]; exact Nat.le_refl _))); clear hh8 hs8)))
        exact bodyPost_ret (obRow2 rfl _ _ w.heap.size _ _ _ _ rfl HH8.out rfl rfl (by kernel_rfl)) rfl ⟨⟨[], nil3, nil3, nil3, by rw [HR.out]; rfl, by rw [HR.out]; exact TakenAt.no _⟩, HB8.out⟩
    · obtain rfl : no = k := by omega
      have HF1 := Lib.hid (show firstE mayO (objsM l) = 0 by rw [HA.out, List.drop_eq_nil_of_le (by have := HOY.out; omega)]; rfl)
      have HR2 := HR1.out
      rw [if_neg (by rw [HF1.out]; simp)] at HR2
      have HR2 := Lib.hid HR2
      have HBx := Lib.hid (HB5.out.trans (HB.out.mono HB5.out.size))
      have HB1x := Lib.hid HB.out
      clear HA HB HF1 HA0
      obtain ⟨TT, hTT⟩ : ∃ T, T = (objsM l)[0]?.elim 0 (·.target) := ⟨_, rfl⟩
      have HR2 := HR2.out
      rw [← hTT] at HR2
      have HR2 := Lib.hid HR2
      have HT0 := Lib.hid (fun (y : ObV) (hy : Y[0]? = some y) => show y.1.target = TT by rw [hTT, HMG.out 0 y hy]; rfl)
      have HA0 : Hid ((objsM l).any (fun o => !decide (o.target = TT)) = ((objsM l).drop 0).any (fun o => !decide (o.target = TT))) := rfl
      clear hTT hbs
      go_wp2
      -- L2
      go_loopw [13, 50] (fun _ i wr => ∃ k : Nat, i = .int .i64 k ∧ k ≤ no ∧ Hid ((objsM l).any (fun o => !decide (o.target = TT)) = ((objsM l).drop k).any (fun o => !decide (o.target = TT))) ∧ Hid (Below w5.heap.size w5 wr)) (fun _ i _ => no - (intOf i).toNat)
      case atStart => exact ⟨0, rfl, Nat.zero_le _, HA0, HB1x.out⟩
      case round =>
        obtain ⟨k, rfl, hk, HA, HB⟩ := hrel
        have hbs := HB.out.size
        by_cases hlt : k < no
        · obtain ⟨y, hy⟩ : ∃ y, Y[k]? = some y := ⟨_, List.getElem?_eq_getElem (by have := HNO.out; omega)⟩
          obtain ⟨y0, hy0⟩ : ∃ y, Y[0]? = some y := ⟨_, List.getElem?_eq_getElem (by have := HNO.out; omega)⟩
          obtain ⟨b, o, rfl, e0, e1, e2, hb0⟩ := ob_cells HPY.out HB.out hy
          obtain ⟨b', o', e9, f0, -, -, -⟩ := ob_cells HPY.out HB.out hy0
          cases e9
          rw [HT0.out y0 hy0, Nat.zero_mul, Nat.add_zero] at f0
          have h0 : 0 < no := by omega
          have HST := Lib.hid (any_drop (f := fun o : ObjM => !decide (o.target = TT)) (HMG.out k y hy))
          have HAT := Lib.hid (HOB5.out.obj y (List.mem_of_getElem? hy))
          obtain ⟨o1, L1, pv1, sv1⟩ := y
          dsimp only at *
          obtain ⟨np1, ap1, cp1, -, rfl, -, -⟩ := HAT.out.rd.shape
          obtain ⟨ns1, as1, cs1, -, rfl, -, -⟩ := HAT.out.syms.shape
          obtain ⟨E, hE⟩ : ∃ E, E = o1.target := ⟨_, rfl⟩
          rw [← hE] at HST e0
          clear hy hE hy0 HAT
          by_cases hE0 : E = TT
          · have HA2 := Lib.hid (show (objsM l).any (fun o => !decide (o.target = TT)) = ((objsM l).drop (k + 1)).any (fun o => !decide (o.target = TT)) by rw [HA.out, HST.out, decide_eq_true hE0]; rfl)
            have t3 : (E != TT) = false := by rw [hE0]; simp
            clear hE0
            go_wp2_with ((with_reducible show wpList _ _ _ (⟨none, .store _ (.tmp 13) _, _, _, _, _⟩ :: _) _ _); go_must (refine wpList_storeNew rfl rfl (by kernel_rfl) rfl (by simp [Value.oneCell']) ?_; intro w6 hh6 hb6; have HB6 := Lib.hid (HB.out.trans (hb6.mono hbs)); obtain ⟨d0, d1, d2⟩ := obj_box hh6; have f6 := (hb6.cell (p := ⟨b, o, none⟩) (block_lt f0)).trans f0; clear hh6 hb6))
            go_quiet (fail)
            have HB7 := Lib.hid (HB6.out.trans ((below_drewN (Below.refl w6.heap.size w6) nq).mono HB6.out.size))
            generalize w6.drewN nq = w7 at *
            clear d0 d1 d2 f6 f0 e0 e1 e2
            go_wp2
            go_roundw
            case rel => exact ⟨k + 1, by go_num, by omega, HA2, HB7.out⟩
            case measure => simp [intOf] <;> omega
          · have HR := Lib.hid (show RES = (takenNo, 11) by rw [HR2.out, if_pos (by rw [HA.out, HST.out, decide_eq_false hE0]; rfl)])
            have t3 : (E != TT) = true := bne_iff_ne.2 hE0
            clear hE0
            go_wp2_with ((with_reducible show wpList _ _ _ (⟨none, .store _ (.tmp 13) _, _, _, _, _⟩ :: _) _ _); go_must (refine wpList_storeNew rfl rfl (by kernel_rfl) rfl (by simp [Value.oneCell']) ?_; intro w6 hh6 hb6; have HB6 := Lib.hid (HB.out.trans (hb6.mono hbs)); obtain ⟨d0, d1, d2⟩ := obj_box hh6; have f6 := (hb6.cell (p := ⟨b, o, none⟩) (block_lt f0)).trans f0; clear hh6 hb6))
            go_quiet (fail)
            have HB7 := Lib.hid (HB6.out.trans ((below_drewN (Below.refl w6.heap.size w6) nq).mono HB6.out.size))
            generalize w6.drewN nq = w7 at *
            clear d0 d1 d2 f6 f0 e0 e1 e2
            have HX7 := Lib.hid (heap_base HB7.out HX5.out hs05)
            have HB8 := Lib.hid (HB5.out.trans (HB7.out.mono HB5.out.size))
            go_wp2_with ((with_reducible show wpList _ _ _ (⟨none, .store _ (.tmp 4) _, _, _, _, _⟩ :: _) _ _); go_must (refine wpList_storeRowS HX7.out rfl rfl rfl (by kernel_rfl) (by simp [Value.oneCell']) ?_; intro w8 hh8 hs8; have HH8 := Lib.hid hh8; have HB9 := Lib.hid (HB8.out.trans (hs8.below HB8.out.size (fun k hk => by rw [hk]; exact Nat.le_refl _))); clear hh8 hs8))
            exact bodyPost_ret (obRow2 rfl _ _ w.heap.size _ _ _ _ rfl HH8.out rfl rfl (by kernel_rfl)) rfl ⟨⟨[], nil3, nil3, nil3, by rw [HR.out]; rfl, by rw [HR.out]; exact TakenAt.no _⟩, HB9.out⟩
        · obtain rfl : no = k := by omega
          have HF1 := Lib.hid (show (objsM l).any (fun o => !decide (o.target = TT)) = false by rw [HA.out, List.drop_eq_nil_of_le (by have := HOY.out; omega)]; rfl)
          have HR3 := HR2.out
          rw [if_neg (by rw [HF1.out]; simp)] at HR3
          have HR3 := Lib.hid HR3
          clear HA HF1 HA0 HR2 HBx HB1x HPY hno8 HO5 HOY HMAY HMG
          go_wp2_with (first
            | ((with_reducible show wpList _ _ _ (⟨some 14, .alloc _, _, _, _, _⟩ :: _) _ _); go_must (refine wpList_allocTk ?_; intro w7 hx7 hb7 hs7; have HX7 := Lib.hid hx7; have HB7 := Lib.hid (HB.out.trans (hb7.mono hbs)); have HD7 := Lib.hid (HD5.out.mono (HB.out.trans (hb7.mono hbs))); clear hx7 hb7))
            | (go_at_call 17; refine (HORD.out w7 _ _ _ _ _ _ (HB5.out.trans (HB7.out.mono HB5.out.size)) HD7.out).mono ?_; rintro e w8 ⟨⟨qa, qm, qc, rfl, ho8⟩, hb8⟩; have HI8 := Lib.hid (show TkInv w5 w8 wr.heap.size O (.slice qa qm qc) [] [] nil3 nil3 from ⟨heap_below hb8 HX7.out, OwR.rebase ho8 HB7.out.size, OwR.nil _ _ _ _ _, Ow.nil _ _ _ _, (fun y hy => by cases hy), HB7.out.trans (hb8.mono HB7.out.size), hbs⟩); obtain ⟨_, _, _, hqm, e9, -, -⟩ := ho8.shape; cases e9; have HQM := Lib.hid hqm.out; clear hb8 ho8 hqm))
          have hq256 : qm ≤ 256 := by rw [HQM.out]; omega
          obtain ⟨g, hg⟩ : ∃ g, g = wr.heap.size := ⟨_, rfl⟩
          rw [← hg] at HI8 ⊢
          clear HD7 HX7 HB HB7 hg hs7
          go_wp2
          -- L3
          go_loopw [16, 17, 66] (fun _ _ i wr => ∃ (k : Nat) (C : List ObV) (ma na : Option Addr) (mn mc nn nc : Nat), i = .int .i64 k ∧ k ≤ qm ∧ Hid (TkInv w5 wr g O (.slice qa qm qc) C ((O.take k).map (nameAt l)) (.slice ma mn mc) (.slice na nn nc)) ∧ Hid (C.map (·.1) = (O.take k).map (objAt l))) (fun _ _ i _ => qm - (intOf i).toNat)
          case atStart => exact ⟨0, [], none, none, 0, 0, 0, 0, rfl, Nat.zero_le _, HI8.out, rfl⟩
          case round =>
            obtain ⟨k, C, ma, na, mn, mc, nn, nc, rfl, hk, HI3, HC⟩ := hrel
            have hbs3 := HI3.out.below.size
            by_cases hlt : k < qm
            · obtain ⟨s, hs⟩ : ∃ s, O[k]? = some s := ⟨_, List.getElem?_eq_getElem (by have := HQM.out; omega)⟩
              obtain ⟨qa', qc', e9, hqc, -, hPO⟩ := (OwR.rd HI3.out.ord).open (fun _ => rfl)
              injection e9 with e9 e8 e7
              subst e9 e7
              obtain ⟨sb, so, rfl, e0, e1, hsb⟩ := sp_cells hPO (Below.refl _ _) hs
              have hqc8 : qm ≤ qc := by rw [e8]; exact hqc
              clear e8 hqc
              obtain ⟨⟨y, hy⟩, ⟨x, hx, hm⟩, hyo⟩ := HSPT.out s (List.mem_of_getElem? hs)
              have HTN := Lib.hid (take_mapR (f := nameAt l) hs)
              have HTO := Lib.hid (take_mapR (f := objAt l) hs)
              have hcl : C.length ≤ 256 := by
                have h1 := congrArg List.length HC.out
                rw [List.length_map, List.length_map, List.length_take] at h1
                omega
              have hnl : ((O.take k).map (nameAt l)).length ≤ 256 := by
                rw [List.length_map, List.length_take]
                omega
              have HHM := Lib.hid hm
              rw [HI.out.eq, List.getElem?_map, Option.map_eq_some_iff] at hx
              obtain ⟨xv, hxv, rfl⟩ := hx
              obtain ⟨ib, io, rfl, i0, i1, i2, i3, i4, hib⟩ := in_cells HP.out ((HB5.out.trans (HI3.out.below.mono HB5.out.size))) hxv
              have hlx : l[s.1]? = some xv.x := by rw [HI.out.eq, List.getElem?_map, hxv]; rfl
              have hsn : s.1 < n := by rw [HN.out]; exact (List.getElem?_eq_some_iff.1 hxv).1
              have hNX := HTK.out.names xv.x (List.mem_of_getElem? hlx)
              obtain ⟨hyo2, hyat⟩ := obVAt_at HI.out hy
              have HYA := Lib.hid hyat
              have HYK := Lib.hid (HTK.out.objs y.1 (by rw [← hyo2]; exact hyo))
              have hs2 : -9223372036854775808 ≤ s.2 ∧ s.2 < 9223372036854775808 := by
                rcases hm with e | ⟨k2, m2, e, hm2⟩
                · omega
                · have h1 := (List.getElem?_eq_some_iff.1 hm2).1
                  have h2 := HLL.out.2 xv.x (List.mem_of_getElem? hlx)
                  omega
              have HCO := Lib.hid (fun wx (hb : Below w.heap.size w wx) (hd : DrwAt wx w3.heap.size p (.slice (some ⟨ib, io, none⟩) n cap) mt tb mh H D) => show Calls Try.prog 20 #[.pointer (some ⟨p, 0, none⟩), spotV s] wx fun e w' => e = .returned (obV y) ∧ Below wx.heap.size wx w' from objR_any l V _ s y _ p mt tb mh H D wx (HI.out.mono hb) hd hy hs2 (by rw [← HN.out]; omega))
              have HCP := Lib.hid (fun wx (hb : Below w.heap.size w wx) => copiedR_any y.1 y.2.1 y.2.2.1 y.2.2.2 wx (HYA.out.mono hb) (Nat.le_trans HYK.out.many (by decide)) (Nat.le_trans HYK.out.wf.many (by decide)) (fun q hq => ⟨Nat.le_trans (HYK.out.data q hq) (by decide), Nat.le_trans (HYK.out.wf.relas q hq).1 (by decide)⟩))
              rw [hyo2] at HTO
              obtain ⟨o1, L1, pv1, sv1⟩ := y
              dsimp only at *
              obtain ⟨np1, ap1, cp1, -, rfl, -, -⟩ := HYA.out.rd.shape
              obtain ⟨ns1, as1, cs1, -, rfl, -, -⟩ := HYA.out.syms.shape
              obtain ⟨si, sm⟩ := s
              obtain ⟨x, L0, pv0, sv0, lv, ml⟩ := xv
              dsimp only at *
              obtain ⟨nlx, alx, clx, hnlx, hlvx, -, -⟩ := (HI.out.lib _ (List.mem_of_getElem? hxv)).2.shape
              subst hlvx
              rcases hm with e | ⟨k2, m2, e, hm2⟩
              · subst e
                have hge : decide ((0 : Int) ≤ (-1 : Int)) = false := rfl
                have HNM := Lib.hid (show nameAt l (si, -1) = x.name by unfold nameAt; rw [hlx]; rfl)
                clear hy hyo hyo2 hyat hs hPO hlx hxv hsb HYA HYK
                go_wp2_with (first
                  | ((with_reducible show wpList _ _ _ (⟨none, .store _ (.tmp 16) _, _, _, _, _⟩ :: _) _ _); go_must (refine wpList_storeNew rfl rfl (by kernel_rfl) rfl (by simp [Value.oneCell']) ?_; intro w9 hh9 hb9; have HI9 := Lib.hid (HI3.out.mono hb9); have HS9 := Lib.hid (show w9.heap[wr.heap.size]? = some (.cells #[.int .i64 (si : Int), .int .i64 (-1)] 61 (0, 0)) from hh9); obtain ⟨d0, d1⟩ := sp_box (s := (si, (-1))) hh9; obtain ⟨z0, z1, z2⟩ := tak_box HI9.out.blk; have j0 := (hb9.cell (p := ⟨ib, io + si * 5, none⟩) (block_lt i0)).trans i0; have j4 := (hb9.cell (p := ⟨ib, io + si * 5 + 4, none⟩) (block_lt i4)).trans i4;  clear hh9 hb9))
                  | ((with_reducible show wpList _ _ _ (⟨some 98, _, _, _, _, _⟩ :: _) _ _); go_must (refine wpList_pushE TNm HI9.out.na rfl rfl x.name rfl rfl (by omega) (by omega) HI9.out.below.size ?_; intro v11 w11 hv11 hg11 hb11; have HG11 := Lib.hid hg11; have HV11 := Lib.hid hv11; have HK11 := Lib.hid (keeps_own HI9.out.na hg11 _ _ _ _ (show 29 ≠ 9 by decide) HI9.out.blk); have HS11 := Lib.hid (keeps_own HI9.out.na hg11 _ _ _ _ (show 61 ≠ 9 by decide) HS9.out); have hs11 : w5.heap.size ≤ w11.heap.size := Nat.le_trans HI9.out.below.size hb11.size; obtain ⟨n11, a11, c11, -, rfl, -, -⟩ := (Ow.rd hv11).shape; clear hv11 hg11 hb11))
                  | ((with_reducible show wpList _ _ _ (⟨none, .store _ (.tmp 99) _, _, _, _, _⟩ :: _) _ _); go_must (refine wpList_set HK11.out (show 1 < 3 by decide) rfl rfl HI9.out.hg hs11 (fun w => by kernel_rfl) ?_; intro w12 hh12 hb12 hs12; have HI12 := Lib.hid (TkInv.name HI9.out HV11.out HG11.out hh12 hs12); have HS12 := Lib.hid (hs12.kept HS11.out (cells_ne HS11.out HK11.out (by decide))); obtain ⟨y0, y1, y2⟩ := tak_box HI12.out.blk; obtain ⟨x0, x1⟩ := sp_box (s := (si, -1)) HS12.out; clear hh12 hb12 hs12)))
                have hAB := fun (x : Above w12) (b k : Nat) (h : b < w12.heap.size) => Above.cell x b k h
                have l1 := block_lt y0
                have l2 := block_lt x0
                refine wp_region_walk 7 [(4, .is (objV o1 (.slice ap1 np1 cp1) (.slice as1 ns1 cs1))), (5, YObO w5.heap.size o1), (6, YOneO w5.heap.size o1)] (by kernel_rfl) (by kernel_rfl) ?_
                simp only [List.take_succ_cons, List.take_zero, List.drop_succ_cons, List.drop_zero]
                try go_frame
                iterate 4 (refine walk_quiet rfl rfl rfl ?_; intro K hK; go_big_quiet_op; go_big_quiet_on)
                refine walk_is rfl rfl (fun wx hwx _ => WpYld.callIsB (run_callL (vals := [_, _]) Try.func20 (by kernel_rfl) rfl rfl) (HCO.out wx (HB5.out.trans ((HI12.out.below.trans (hwx.mono HI12.out.below.size)).mono HB5.out.size)) (HD5.out.mono (HI12.out.below.trans (hwx.mono HI12.out.below.size))))) ?_
                go_frame
                refine walk_made rfl rfl (fun wx hwx _ => WpYld.call (run_callL (vals := [_]) Try.func19 (by kernel_rfl) rfl rfl) ((HCP.out wx (HB5.out.trans ((HI12.out.below.trans (hwx.mono HI12.out.below.size)).mono HB5.out.size))).mono fun r w' ⟨⟨M, pa, pn, pc, sa, sn, sc, h1, h2⟩, h3⟩ => ⟨_, h1, ⟨((pa, pn, pc), (sa, sn, sc)), rfl, M, h2.base (Nat.le_trans HI12.out.below.size hwx.size)⟩, h3⟩)) ?_
                rintro ⟨⟨pa9, pn9, pc9⟩, ⟨sa9, sn9, sc9⟩⟩
                show walk _ _ _ _ _ _ _ _ (Act.put _ _ (objV o1 (.slice pa9 pn9 pc9) (.slice sa9 sn9 sc9)))
                go_frame
                refine walk_made rfl rfl (fun wx hwx hd => by
                  obtain ⟨M, hM⟩ := YObO_got (hd 5 _ 105 _ rfl rfl (by kernel_rfl) rfl rfl)
                  exact WpYld.val (run_oneOb rfl) ⟨wx.heap.size, rfl, M, _, _, _, _, _, _, heap_alloc_last wx _, hM.mono (below_alloc wx _)⟩ (below_alloc wx _)) ?_
                intro gb
                show walk _ _ _ _ _ _ _ _ (Act.put _ _ (.slice (some ⟨gb, 0, none⟩) 1 1))
                go_frame
                refine walk_nil ?_
                intro wz hbz hF
                obtain ⟨M, ua, un, uc, va, vn, vc, hgo, hMn⟩ := YOneO_got (hF 6 _ 106 _ rfl rfl rfl rfl)
                have HGO := Lib.hid hgo
                have HMN := Lib.hid hMn
                have HIz := Lib.hid (HI12.out.mono hbz)
                clear hF hAB hgo hMn hbz y0 y1 y2 x0 x1 l1 l2
                refine wpList_cat TOb HIz.out.mo (rd_one (k := 3) (enc := encOb) (x := ((o1, M, .slice ua un uc, .slice va vn vc) : ObV)) rfl HGO.out rfl) rfl rfl (by simp [encOb, Value.oneCell']) (by simp; omega) (by simp; omega) HIz.out.below.size ?_
                intro v13 w13 hv13 hg13 hb13
                have hs13 : w5.heap.size ≤ w13.heap.size := Nat.le_trans HIz.out.below.size hb13.size
                obtain ⟨m13, a13, c13, -, rfl, _, _⟩ := (Reads.of_owns hv13).shape
                have HV13 := Lib.hid (show OwR 3 encOb 36 w13 w5.heap.size (.slice a13 m13 c13) (C ++ [((o1, M, .slice ua un uc, .slice va vn vc) : ObV)]) by unfold OwR; rw [List.length_append, List.flatMap_append]; exact hv13)
                have HG13 := Lib.hid hg13
                have HK13 := Lib.hid (keeps_own HIz.out.mo hg13 _ _ _ _ (show 29 ≠ 36 by decide) HIz.out.blk)
                clear hv13 hg13 hb13
                go_wp2_with ((with_reducible show wpList _ _ _ (⟨none, .store _ (.tmp 108) _, _, _, _, _⟩ :: _) _ _); go_must (refine wpList_set HK13.out (show 0 < 3 by decide) rfl rfl HIz.out.hg hs13 (fun w => by kernel_rfl) ?_; intro w14 hh14 hb14 hs14; have HI14 := Lib.hid (TkInv.mod (x := ((o1, M, .slice ua un uc, .slice va vn vc) : ObV)) HIz.out HMN.out HV13.out HG13.out hh14 hs14); clear hh14 hb14 hs14))
                go_roundw
                case rel => exact ⟨k + 1, C ++ [((o1, M, .slice ua un uc, .slice va vn vc) : ObV)], a13, a11, m13, c13, n11, c11, by go_num, by omega, Lib.hid (by rw [HTN.out, HNM.out]; exact HI14.out), Lib.hid (by rw [HTO.out, List.map_append, HC.out]; rfl)⟩
                case measure => simp [intOf] <;> omega

              · obtain ⟨mv, hmv, hmm⟩ : ∃ mv, ml[k2]? = some mv ∧ mv.m = m2 := by
                  have h1 := hm2
                  rw [(HI.out.lib _ (List.mem_of_getElem? hxv)).1, List.getElem?_map, Option.map_eq_some_iff] at h1
                  exact h1
                obtain ⟨al', cl', e9, hlc, -, hLM⟩ := (HI.out.lib _ (List.mem_of_getElem? hxv)).2.open (fun _ => rfl)
                injection e9 with e9 e8 e7
                subst e9 e7
                obtain ⟨mb, mo, rfl, f0, -, -, -, hmb⟩ := mem_cells hLM ((HB5.out.trans (HI3.out.below.mono HB5.out.size))) hmv
                have hk2 : k2 < nlx := by rw [e8]; exact (List.getElem?_eq_some_iff.1 hmv).1
                have hnlc : nlx ≤ clx := by rw [e8]; exact hlc
                rw [hmm] at f0
                subst e
                have hge : decide ((0 : Int) ≤ (k2 : Int)) = true := decide_eq_true (by omega)
                have HNM := Lib.hid (show nameAt l (si, (k2 : Int)) = x.name ++ ([40] ++ m2.name ++ [41]) by unfold nameAt; rw [hlx]; dsimp only; rw [if_neg (by omega), Int.toNat_natCast, hm2])
                have hn1 := hNX.1
                have hn2 := hNX.2 m2 (List.mem_of_getElem? hm2)
                clear hy hyo hyo2 hyat hs hPO hlx hxv hsb HYA HYK hmv hmm e8 hlc hLM hm2 hNX hnlx hmb
                go_wp2_with (((with_reducible show wpList _ _ _ (⟨none, .store _ (.tmp 16) _, _, _, _, _⟩ :: _) _ _); go_must (refine wpList_storeNew rfl rfl (by kernel_rfl) rfl (by simp [Value.oneCell']) ?_; intro w9 hh9 hb9; have HI9 := Lib.hid (HI3.out.mono hb9); have HS9 := Lib.hid (show w9.heap[wr.heap.size]? = some (.cells #[.int .i64 (si : Int), .int .i64 (k2 : Int)] 61 (0, 0)) from hh9); obtain ⟨d0, d1⟩ := sp_box (s := (si, (k2 : Int))) hh9; obtain ⟨z0, z1, z2⟩ := tak_box HI9.out.blk; have j0 := (hb9.cell (p := ⟨ib, io + si * 5, none⟩) (block_lt i0)).trans i0; have j4 := (hb9.cell (p := ⟨ib, io + si * 5 + 4, none⟩) (block_lt i4)).trans i4; have f9 := (hb9.cell (p := ⟨mb, mo + k2 * 4, none⟩) (block_lt f0)).trans f0; clear hh9 hb9)))
                go_quiet (fail)
                have hbq := below_drewN (Below.refl w9.heap.size w9) nq
                have HI9 := Lib.hid (HI9.out.mono hbq)
                have HS9 := Lib.hid (heap_below hbq HS9.out)
                clear z0 z1 z2 d0 d1 j0 j4 f9 i0 i1 i2 i3 i4 f0 hbq
                generalize w9.drewN nq = w10 at *
                obtain ⟨z0, z1, z2⟩ := tak_box HI9.out.blk
                go_wp2_with (first
                  | ((with_reducible show wpList _ _ _ (⟨some 98, _, _, _, _, _⟩ :: _) _ _); go_must (refine wpList_pushE TNm HI9.out.na rfl rfl (x.name ++ ([40] ++ m2.name ++ [41])) (paren_str x.name m2.name) rfl (by omega) (by omega) HI9.out.below.size ?_; intro v11 w11 hv11 hg11 hb11; have HG11 := Lib.hid hg11; have HV11 := Lib.hid hv11; have HK11 := Lib.hid (keeps_own HI9.out.na hg11 _ _ _ _ (show 29 ≠ 9 by decide) HI9.out.blk); have HS11 := Lib.hid (keeps_own HI9.out.na hg11 _ _ _ _ (show 61 ≠ 9 by decide) HS9.out); have hs11 : w5.heap.size ≤ w11.heap.size := Nat.le_trans HI9.out.below.size hb11.size; obtain ⟨n11, a11, c11, -, rfl, -, -⟩ := (Ow.rd hv11).shape; clear hv11 hg11 hb11))
                  | ((with_reducible show wpList _ _ _ (⟨none, .store _ (.tmp 99) _, _, _, _, _⟩ :: _) _ _); go_must (refine wpList_set HK11.out (show 1 < 3 by decide) rfl rfl HI9.out.hg hs11 (fun w => by kernel_rfl) ?_; intro w12 hh12 hb12 hs12; have HI12 := Lib.hid (TkInv.name HI9.out HV11.out HG11.out hh12 hs12); have HS12 := Lib.hid (hs12.kept HS11.out (cells_ne HS11.out HK11.out (by decide))); obtain ⟨y0, y1, y2⟩ := tak_box HI12.out.blk; obtain ⟨x0, x1⟩ := sp_box (s := (si, (k2 : Int))) HS12.out; clear hh12 hb12 hs12)))
                have hAB := fun (x : Above w12) (b k : Nat) (h : b < w12.heap.size) => Above.cell x b k h
                have l1 := block_lt y0
                have l2 := block_lt x0
                refine wp_region_walk 7 [(4, .is (objV o1 (.slice ap1 np1 cp1) (.slice as1 ns1 cs1))), (5, YObO w5.heap.size o1), (6, YOneO w5.heap.size o1)] (by kernel_rfl) (by kernel_rfl) ?_
                simp only [List.take_succ_cons, List.take_zero, List.drop_succ_cons, List.drop_zero]
                try go_frame
                iterate 4 (refine walk_quiet rfl rfl rfl ?_; intro K hK; go_big_quiet_op; go_big_quiet_on)
                refine walk_is rfl rfl (fun wx hwx _ => WpYld.callIsB (run_callL (vals := [_, _]) Try.func20 (by kernel_rfl) rfl rfl) (HCO.out wx (HB5.out.trans ((HI12.out.below.trans (hwx.mono HI12.out.below.size)).mono HB5.out.size)) (HD5.out.mono (HI12.out.below.trans (hwx.mono HI12.out.below.size))))) ?_
                go_frame
                refine walk_made rfl rfl (fun wx hwx _ => WpYld.call (run_callL (vals := [_]) Try.func19 (by kernel_rfl) rfl rfl) ((HCP.out wx (HB5.out.trans ((HI12.out.below.trans (hwx.mono HI12.out.below.size)).mono HB5.out.size))).mono fun r w' ⟨⟨M, pa, pn, pc, sa, sn, sc, h1, h2⟩, h3⟩ => ⟨_, h1, ⟨((pa, pn, pc), (sa, sn, sc)), rfl, M, h2.base (Nat.le_trans HI12.out.below.size hwx.size)⟩, h3⟩)) ?_
                rintro ⟨⟨pa9, pn9, pc9⟩, ⟨sa9, sn9, sc9⟩⟩
                show walk _ _ _ _ _ _ _ _ (Act.put _ _ (objV o1 (.slice pa9 pn9 pc9) (.slice sa9 sn9 sc9)))
                go_frame
                refine walk_made rfl rfl (fun wx hwx hd => by
                  obtain ⟨M, hM⟩ := YObO_got (hd 5 _ 105 _ rfl rfl (by kernel_rfl) rfl rfl)
                  exact WpYld.val (run_oneOb rfl) ⟨wx.heap.size, rfl, M, _, _, _, _, _, _, heap_alloc_last wx _, hM.mono (below_alloc wx _)⟩ (below_alloc wx _)) ?_
                intro gb
                show walk _ _ _ _ _ _ _ _ (Act.put _ _ (.slice (some ⟨gb, 0, none⟩) 1 1))
                go_frame
                refine walk_nil ?_
                intro wz hbz hF
                obtain ⟨M, ua, un, uc, va, vn, vc, hgo, hMn⟩ := YOneO_got (hF 6 _ 106 _ rfl rfl rfl rfl)
                have HGO := Lib.hid hgo
                have HMN := Lib.hid hMn
                have HIz := Lib.hid (HI12.out.mono hbz)
                clear hF hAB hgo hMn hbz y0 y1 y2 x0 x1 l1 l2
                refine wpList_cat TOb HIz.out.mo (rd_one (k := 3) (enc := encOb) (x := ((o1, M, .slice ua un uc, .slice va vn vc) : ObV)) rfl HGO.out rfl) rfl rfl (by simp [encOb, Value.oneCell']) (by simp; omega) (by simp; omega) HIz.out.below.size ?_
                intro v13 w13 hv13 hg13 hb13
                have hs13 : w5.heap.size ≤ w13.heap.size := Nat.le_trans HIz.out.below.size hb13.size
                obtain ⟨m13, a13, c13, -, rfl, _, _⟩ := (Reads.of_owns hv13).shape
                have HV13 := Lib.hid (show OwR 3 encOb 36 w13 w5.heap.size (.slice a13 m13 c13) (C ++ [((o1, M, .slice ua un uc, .slice va vn vc) : ObV)]) by unfold OwR; rw [List.length_append, List.flatMap_append]; exact hv13)
                have HG13 := Lib.hid hg13
                have HK13 := Lib.hid (keeps_own HIz.out.mo hg13 _ _ _ _ (show 29 ≠ 36 by decide) HIz.out.blk)
                clear hv13 hg13 hb13
                go_wp2_with ((with_reducible show wpList _ _ _ (⟨none, .store _ (.tmp 108) _, _, _, _, _⟩ :: _) _ _); go_must (refine wpList_set HK13.out (show 0 < 3 by decide) rfl rfl HIz.out.hg hs13 (fun w => by kernel_rfl) ?_; intro w14 hh14 hb14 hs14; have HI14 := Lib.hid (TkInv.mod (x := ((o1, M, .slice ua un uc, .slice va vn vc) : ObV)) HIz.out HMN.out HV13.out HG13.out hh14 hs14); clear hh14 hb14 hs14))
                go_roundw
                case rel => exact ⟨k + 1, C ++ [((o1, M, .slice ua un uc, .slice va vn vc) : ObV)], a13, a11, m13, c13, n11, c11, by go_num, by omega, Lib.hid (by rw [HTN.out, HNM.out]; exact HI14.out), Lib.hid (by rw [HTO.out, List.map_append, HC.out]; rfl)⟩
                case measure => simp [intOf] <;> omega

            · obtain rfl : qm = k := by omega
              have HCE := Lib.hid (show C.map (·.1) = O.map (objAt l) by rw [HC.out, List.take_of_length_le (by have := HQM.out; omega)])
              have HIE := Lib.hid (show TkInv w5 wr g O (.slice qa qm qc) C (O.map (nameAt l)) (.slice ma mn mc) (.slice na nn nc) by
                have h1 := HI3.out
                rwa [List.take_of_length_le (by have := HQM.out; omega)] at h1)
              have HOC := Lib.hid (show ObsAt wr (O.map (objAt l)) C from ⟨HCE.out.symm, fun y hy => (HIE.out.obs y hy).at⟩)
              have HMO := Lib.hid (show ModsOk (O.map (objAt l)) from ⟨by rw [List.length_map]; omega, fun o ho => by
                obtain ⟨s, hs, rfl⟩ := List.mem_map.1 ho
                have h1 := (HSPT.out s hs).2.2
                have h2 := HTK.out.rs.objs _ h1
                have h3 := (HTK.out.objs _ h1).wf.syms
                exact ⟨h2.1, fun x hx => ⟨h2.2 x hx, (h3 x hx).1, (h3 x hx).2⟩⟩⟩)
              have HCH := Lib.hid (chosenR_any (O.map (objAt l)) C _ known kv wr HOC.out (OwR.rd HIE.out.mo) (Reads.mono HK.out (HB5.out.trans (HIE.out.below.mono HB5.out.size))) HMO.out HKN.out)
              obtain ⟨z0, z1, z2⟩ := tak_box HIE.out.blk
              generalize chosenM (O.map (objAt l)) known = CM at *
              obtain ⟨WM, EM⟩ := CM
              dsimp only at *
              clear HI3 HC HOC HMO HSPT HORD
              by_cases hE : EM = 0
              · have t6 : (EM != 0) = false := by rw [hE]; rfl
                have HR := Lib.hid (show RES = (⟨O.map (objAt l), O.map (nameAt l), WM⟩, 0) by rw [HR3.out, if_neg (by simpa using hE)])
                clear hE
                go_wp2_with (first
                  | (go_at_call 21; refine HCH.out.mono ?_; rintro e w15 ⟨⟨wa, wn, wc, rfl, hw15⟩, hb15⟩; have HW15 := Lib.hid hw15; have HI15 := Lib.hid (HIE.out.mono hb15); clear hw15 hb15)
                  | ((with_reducible show wpList _ _ _ (⟨none, .store _ (.tmp 122) _, _, _, _, _⟩ :: _) _ _); go_must (refine wpList_set HI15.out.blk (show 2 < 3 by decide) rfl rfl HI15.out.hg HI15.out.below.size (fun w => by kernel_rfl) ?_; intro w16 hh16 hb16 hs16; have HX16 := Lib.hid (hs16.kept (heap_base HI15.out.below HX5.out hs05) (by have := HI15.out.hg; omega)); have HS16 := Lib.hid hs16; have HB16 := Lib.hid (HB5.out.trans ((hs16.below HI15.out.below.size (fun k hk => by rw [hk]; exact HI15.out.hg) |> HI15.out.below.trans).mono HB5.out.size)); obtain ⟨y0, y1, y2⟩ := tak_box (a := .slice ma mn mc) (b := .slice na nn nc) (c := .slice wa wn wc) hh16; clear hh16 hb16 hs16))
                  | ((with_reducible show wpList _ _ _ (⟨none, .store _ (.tmp 4) _, _, _, _, _⟩ :: _) _ _); go_must (refine wpList_storeRowS HX16.out rfl rfl rfl (by kernel_rfl) (by simp [Value.oneCell']) ?_; intro w17 hh17 hs17; have HH17 := Lib.hid hh17; have HT17 := Lib.hid (HI15.out.fin HCE.out.symm HW15.out HS16.out HX16.out hs17); have HB17 := Lib.hid (HB16.out.trans (hs17.below HB16.out.size (fun k hk => by rw [hk]; exact Nat.le_refl _))); clear hh17 hs17)))
                exact bodyPost_ret (obRow2 rfl _ _ w.heap.size _ _ _ _ rfl HH17.out rfl rfl (by kernel_rfl)) rfl ⟨⟨C, _, _, _, by rw [HR.out]; rfl, by rw [HR.out]; exact HT17.out⟩, HB17.out⟩
              · have t6 : (EM != 0) = true := bne_iff_ne.2 hE
                have HR := Lib.hid (show RES = (takenNo, EM) by rw [HR3.out, if_pos hE])
                clear hE
                go_wp2_with (first
                  | (go_at_call 21; refine HCH.out.mono ?_; rintro e w15 ⟨⟨wa, wn, wc, rfl, hw15⟩, hb15⟩; have HI15 := Lib.hid (HIE.out.mono hb15); have HX15 := Lib.hid (heap_base HI15.out.below HX5.out hs05); have HB15 := Lib.hid (HB5.out.trans (HI15.out.below.mono HB5.out.size)); clear hw15 hb15)
                  | ((with_reducible show wpList _ _ _ (⟨none, .store _ (.tmp 4) _, _, _, _, _⟩ :: _) _ _); go_must (refine wpList_storeRowS HX15.out rfl rfl rfl (by kernel_rfl) (by simp [Value.oneCell']) ?_; intro w17 hh17 hs17; have HH17 := Lib.hid hh17; have HB17 := Lib.hid (HB15.out.trans (hs17.below HB15.out.size (fun k hk => by rw [hk]; exact Nat.le_refl _))); clear hh17 hs17)))
                exact bodyPost_ret (obRow2 rfl _ _ w.heap.size _ _ _ _ rfl HH17.out rfl rfl (by kernel_rfl)) rfl ⟨⟨[], nil3, nil3, nil3, by rw [HR.out]; rfl, by rw [HR.out]; exact TakenAt.no _⟩, HB17.out⟩
end Go.Proofs.Ytnhbgijecdeahaa
namespace Go.Proofs.Ytnhbgijecdeahaa
open Go.RowKit Go.Fd
def lightI (x : InM) : Bool := lightO x.obj && (x.lib.take 100).all (fun m => lightO m.obj)
def countM (m : MemM) : Nat := 1 + m.obj.syms.length
def countI (x : InM) : Nat := 1 + x.obj.syms.length + ((x.lib.take 100).map countM).sum
def lightR (l : List InM) : Bool := (l.take 100).all lightI && decide (((l.take 100).map countI).sum ≤ 300)
theorem all_drop {α : Type} {f : α → Bool} {l : List α} {k : Nat} {x : α} (h : l[k]? = some x) : (l.drop k).all f = (f x && (l.drop (k + 1)).all f) := by rw [drop_get h, List.all_cons]
theorem sum_take {α : Type} {f : α → Nat} {l : List α} {k : Nat} {x : α} (h : l[k]? = some x) : ((l.take (k + 1)).map f).sum = ((l.take k).map f).sum + f x := by
  rw [List.take_add_one, h, List.map_append, List.sum_append]
  simp
theorem sum_le {α : Type} {f : α → Nat} {B : Nat} : ∀ {l : List α}, (∀ x ∈ l, f x ≤ B) → (l.map f).sum ≤ l.length * B
  | [], _ => by simp
  | x :: l, h => by
    have ih := sum_le (l := l) (f := f) (B := B) fun y hy => h y (List.mem_cons_of_mem _ hy)
    have h1 := h x (List.mem_cons_self ..)
    rw [List.map_cons, List.sum_cons, List.length_cons, Nat.add_mul]
    omega
/-- What is asked of inputs that are looked at. -/
structure LtOk (l : List InM) : Prop where
  many : l.length ≤ 1000000000
  libs : ∀ x ∈ l, x.lib.length ≤ 1000000000
  obj : ∀ x ∈ l, x.obj.parts.length ≤ 1000000000 ∧ psum x.obj.parts ≤ 1000000000 ∧ x.obj.syms.length ≤ 1000000000
  mem : ∀ x ∈ l, ∀ m ∈ x.lib, m.obj.parts.length ≤ 1000000000 ∧ psum m.obj.parts ≤ 1000000000 ∧ m.obj.syms.length ≤ 1000000000
set_option maxHeartbeats 8000000 in
set_option maxRecDepth 100000 in
theorem light22_any (l : List InM) (V : List InV) (v : Value) (w : World) (h : InsAt w l V v) (hok : LtOk l) :
    Calls Try.prog 7 #[v] w fun e w' => e = .returned (.bool (lightR l)) ∧ Below w.heap.size w w' := by
  have HI := Lib.hid h
  have HK := Lib.hid hok
  obtain ⟨a, cap, rfl, hcap, -, hP⟩ := h.rd.open (fun _ => rfl)
  have HP := Lib.hid hP
  have hll : l.length = V.length := by rw [h.eq, List.length_map]
  have hn9 : V.length ≤ 1000000000 := by rw [← hll]; exact hok.many
  obtain ⟨n, hN⟩ : ∃ n, n = V.length := ⟨_, rfl⟩
  rw [← hN] at hcap hll hn9 ⊢
  have HN := Lib.hid hN
  have HLL := Lib.hid hll
  obtain ⟨T, hT⟩ : ∃ T, T = l.take 100 := ⟨_, rfl⟩
  have HTL := Lib.hid (show T.length = min 100 n by rw [hT, List.length_take, hll])
  have HTG := Lib.hid (fun i (hi : i < 100) => show T[i]? = l[i]? by rw [hT, List.getElem?_take, if_pos hi])
  have HLR := Lib.hid (show lightR l = (T.all lightI && decide ((T.map countI).sum ≤ 300)) by rw [hT]; rfl)
  have HTM := Lib.hid (fun x (hx : x ∈ T) => show countI x ≤ 200000000000 by
    have hxl : x ∈ l := List.mem_of_mem_take (hT ▸ hx)
    have h1 := (hok.obj x hxl).2.2
    have h2 : ((x.lib.take 100).map countM).sum ≤ (x.lib.take 100).length * 1000000001 := sum_le fun m hm => by
      have := (hok.mem x hxl m (List.mem_of_mem_take hm)).2.2
      unfold countM
      omega
    have h3 : (x.lib.take 100).length ≤ 100 := by rw [List.length_take]; omega
    unfold countI
    have h4 := Nat.mul_le_mul_right 1000000001 h3
    omega)
  generalize lightR l = q at *
  have HA0 : Hid (T.all lightI = (T.drop 0).all lightI) := rfl
  clear h hok hP hN hT
  go_enter Try.func7, Try.ntmps7
  go_wp2
  go_loopw [3, 4, 5] (fun s3 i _ wr => ∃ (k S : Nat), i = .int .i64 k ∧ s3 = .int .i64 S ∧ k ≤ n ∧ k ≤ 100 ∧ Hid (S = ((T.take k).map countI).sum) ∧ Hid (T.all lightI = (T.drop k).all lightI) ∧ Hid (Below w.heap.size w wr)) (fun _ i _ _ => 100 - (intOf i).toNat)
  case atStart => exact ⟨0, 0, rfl, rfl, Nat.zero_le _, Nat.zero_le _, rfl, HA0, Below.refl _ _⟩
  case round =>
    obtain ⟨k, S, rfl, rfl, hk, hk100, HS, HA, HB⟩ := hrel
    have hS9 : S ≤ 20000000000000 := by
      have h1 := sum_le (f := countI) (l := T.take k) fun x hx => HTM.out x (List.mem_of_mem_take hx)
      have h2 : (T.take k).length ≤ 100 := by rw [List.length_take]; omega
      have h3 := Nat.mul_le_mul_right 200000000000 h2
      have := HS.out
      omega
    by_cases hlt : k < n
    case neg =>
      have HF := Lib.hid (show q = decide (S ≤ 300) by
        have h1 : n ≤ k := by omega
        rw [HLR.out, HA.out, List.drop_eq_nil_of_le (by rw [HTL.out]; omega), HS.out, List.take_of_length_le (by rw [HTL.out]; omega)]
        rfl)
      have t0 : decide ((k : Int) < (n : Int)) = false := decide_eq_false (by omega)
      have t9 : decide ((S : Int) ≤ 300) = q := by rw [HF.out]; exact decide_eq_decide.2 (by omega)
      go_wp2
      go_ret
      exact ⟨by rw [← t9]; rfl, HB.out⟩
    case pos =>
    by_cases hl2 : k < 100
    case neg =>
      have HF := Lib.hid (show q = decide (S ≤ 300) by
        rw [HLR.out, HA.out, List.drop_eq_nil_of_le (by rw [HTL.out]; omega), HS.out, List.take_of_length_le (by rw [HTL.out]; omega)]
        rfl)
      have t0 : decide ((k : Int) < (n : Int)) = true := decide_eq_true (by omega)
      have t1 : decide ((k : Int) < 100) = false := decide_eq_false (by omega)
      have t9 : decide ((S : Int) ≤ 300) = q := by rw [HF.out]; exact decide_eq_decide.2 (by omega)
      go_wp2
      go_ret
      exact ⟨by rw [← t9]; rfl, HB.out⟩
    case pos =>
    have t0 : decide ((k : Int) < (n : Int)) = true := decide_eq_true (by omega)
    have t1 : decide ((k : Int) < 100) = true := decide_eq_true (by omega)
    obtain ⟨xv, hxv⟩ : ∃ x, V[k]? = some x := ⟨_, List.getElem?_eq_getElem (by have := HN.out; omega)⟩
    have hlx : l[k]? = some xv.x := by rw [HI.out.eq, List.getElem?_map, hxv]; rfl
    have htx : T[k]? = some xv.x := by rw [HTG.out k hl2]; exact hlx
    have hxm := List.mem_of_getElem? hxv
    have hlm := List.mem_of_getElem? hlx
    obtain ⟨b, o, rfl, i0, i1, i2, i3, i4, hib⟩ := in_cells HP.out HB.out hxv
    have HAD := Lib.hid (all_drop (f := lightI) htx)
    have HSD := Lib.hid (sum_take (f := countI) htx)
    have HLO := Lib.hid (fun wx (hb : Below w.heap.size w wx) => light17_any xv.x.obj xv.L xv.pv xv.sv wx ((HI.out.obj xv hxm).mono hb) (HK.out.obj _ hlm).1 (HK.out.obj _ hlm).2.1)
    have HLM := Lib.hid (fun (z : MemV) (hz : z ∈ xv.ml) wx (hb : Below w.heap.size w wx) => light17_any z.m.obj z.L z.pv z.sv wx ((HI.out.mem xv hxm z hz).mono hb) (HK.out.mem _ hlm z.m (by rw [(HI.out.lib xv hxm).1]; exact List.mem_map_of_mem hz)).1 (HK.out.mem _ hlm z.m (by rw [(HI.out.lib xv hxm).1]; exact List.mem_map_of_mem hz)).2.1)
    have HMS := Lib.hid (fun (z : MemV) (hz : z ∈ xv.ml) => (HI.out.mem xv hxm z hz).syms)
    have HZMP := Lib.hid (fun (z : MemV) (hz : z ∈ xv.ml) => show ∃ n a c, z.pv = .slice a n c by
      obtain ⟨n, a, c, -, h, -, -⟩ := (HI.out.mem xv hxm z hz).rd.shape
      exact ⟨n, a, c, h⟩)
    have HMB := Lib.hid (fun (z : MemV) (hz : z ∈ xv.ml) => (HK.out.mem _ hlm z.m (by rw [(HI.out.lib xv hxm).1]; exact List.mem_map_of_mem hz)).2.2)
    have hsl := (HK.out.obj _ hlm).2.2
    have hlb := HK.out.libs _ hlm
    obtain ⟨ns, asy, cs, hns, hsv, -, -⟩ := (HI.out.obj xv hxm).syms.shape
    obtain ⟨np, ap, cp, -, hpv, -, -⟩ := (HI.out.obj xv hxm).rd.shape
    obtain ⟨al, cl, hlv, hcl, -, hLM⟩ := (HI.out.lib xv hxm).2.open (fun _ => rfl)
    have HPM := Lib.hid hLM
    have HLE := Lib.hid (HI.out.lib xv hxm).1
    obtain ⟨nm, hnm⟩ : ∃ n, n = xv.ml.length := ⟨_, rfl⟩
    rw [← hnm] at hlv hcl
    have HNM := Lib.hid hnm
    obtain ⟨x, L, pv, sv, lv, ml⟩ := xv
    dsimp only at *
    subst hsv hpv hlv
    have hns9 : ns ≤ 1000000000 := by rw [hns.out]; exact hsl
    have HNS := Lib.hid hns.out
    have hnm9 : nm ≤ 1000000000 := by rw [hnm, ← List.length_map (f := fun (y : MemV) => y.m), ← HLE.out]; exact hlb
    obtain ⟨T2, hT2⟩ : ∃ T, T = x.lib.take 100 := ⟨_, rfl⟩
    have HT2L := Lib.hid (show T2.length = min 100 nm by rw [hT2, List.length_take, HLE.out, List.length_map, hnm])
    have HT2G := Lib.hid (fun i (hi : i < 100) => show T2[i]? = (ml[i]?).map (·.m) by rw [hT2, List.getElem?_take, if_pos hi, HLE.out, List.getElem?_map])
    have HLI := Lib.hid (show lightI x = (lightO x.obj && T2.all (fun m => lightO m.obj)) by rw [hT2]; rfl)
    have HCI := Lib.hid (show countI x = 1 + x.obj.syms.length + (T2.map countM).sum by rw [hT2]; rfl)
    have HCB := Lib.hid (HTM.out x (List.mem_of_getElem? htx))
    have HA20 : Hid (T2.all (fun m => lightO m.obj) = (T2.drop 0).all (fun m => lightO m.obj)) := rfl
    generalize lightI x = li at *
    generalize countI x = ci at *
    generalize lightO x.obj = lo at *
    clear hxv hlx htx hxm hlm hLM hnm hT2 hsl hlb hns
    cases lo with
    | false =>
      have HF := Lib.hid (show q = false by rw [HLR.out, HA.out, HAD.out, HLI.out]; rfl)
      go_wp2_with (go_at_call 13; refine (HLO.out _ HB.out).mono ?_; rintro e w1 ⟨rfl, hb1⟩; have HB1 := Lib.hid (HB.out.trans (hb1.mono HB.out.size)); clear hb1)
      go_ret
      exact ⟨by rw [HF.out]; rfl, HB1.out⟩
    | true =>
      go_wp2_with (go_at_call 13; refine (HLO.out _ HB.out).mono ?_; rintro e w1 ⟨rfl, hb1⟩; have HB1 := Lib.hid (HB.out.trans (hb1.mono HB.out.size)); have j0 := (hb1.cell (p := ⟨b, o + k * 5, none⟩) (block_lt i0)).trans i0; have j3 := (hb1.cell (p := ⟨b, o + k * 5 + 3, none⟩) (block_lt i3)).trans i3; have j4 := (hb1.cell (p := ⟨b, o + k * 5 + 4, none⟩) (block_lt i4)).trans i4; clear hb1 i0 i1 i2 i3 i4)
      obtain ⟨S0, hS0⟩ : ∃ s, s = S + 1 + ns := ⟨_, rfl⟩
      have HS0 := Lib.hid hS0
      have hS09 : S0 ≤ 20002000000000 := by omega
      have HI0 : Hid ((S : Int) + 1 + (ns : Int) = (S0 : Int)) := Lib.hid (by omega)
      have hw1 : IntKind.i64.wrap ((S : Int) + 1) = (S : Int) + 1 := by have := i64_nat (n := S + 1) (by omega); simpa using this
      have hw2 : IntKind.i64.wrap ((S : Int) + 1 + (ns : Int)) = (S : Int) + 1 + (ns : Int) := by have := i64_nat (n := S + 1 + ns) (by omega); simpa using this
      clear hS0
      have hsz1 := HB1.out.size
      clear j0
      go_loopw [3, 5] (fun s3 i wr2 => ∃ (j S2 : Nat), i = .int .i64 j ∧ s3 = .int .i64 S2 ∧ j ≤ nm ∧ j ≤ 100 ∧ Hid (S2 = S0 + ((T2.take j).map countM).sum) ∧ Hid (T2.all (fun m => lightO m.obj) = (T2.drop j).all (fun m => lightO m.obj)) ∧ Hid (Below w1.heap.size w1 wr2)) (fun _ i _ => 100 - (intOf i).toNat)
      case atStart => exact ⟨0, S0, rfl, by rw [← HI0.out], Nat.zero_le _, Nat.zero_le _, rfl, HA20, Below.refl _ _⟩
      case round =>
        obtain ⟨j, S2, rfl, rfl, hj, hj100, HS2, HA2, HB2⟩ := hrel
        have g4 := (HB2.out.cell (p := ⟨b, o + k * 5 + 4, none⟩) (block_lt j4)).trans j4
        have HBw := Lib.hid (HB1.out.trans (HB2.out.mono hsz1))
        by_cases hjn : j < nm
        case neg =>
          have t4 : decide ((j : Int) < (nm : Int)) = false := decide_eq_false (by omega)
          have HLT := Lib.hid (show T2.all (fun m => lightO m.obj) = true by rw [HA2.out, List.drop_eq_nil_of_le (by rw [HT2L.out]; omega)]; rfl)
          have HA3 := Lib.hid (show T.all lightI = (T.drop (k + 1)).all lightI by rw [HA.out, HAD.out, HLI.out, HLT.out]; rfl)
          have HS3 := Lib.hid (show S2 = ((T.take (k + 1)).map countI).sum by
            have h1 := HS2.out
            rw [List.take_of_length_le (by rw [HT2L.out]; omega)] at h1
            have h2 := HSD.out
            have h3 := HCI.out
            have h4 := HNS.out
            have h5 := HS.out
            have h6 := HS0.out
            omega)
          go_wp2
          go_roundw
          case rel => exact ⟨k + 1, S2, by go_num, rfl, by omega, by omega, HS3, HA3, HBw.out⟩
          case measure => simp [intOf] <;> omega
        case pos =>
        have t4 : decide ((j : Int) < (nm : Int)) = true := decide_eq_true (by omega)
        by_cases hj1 : j < 100
        case neg =>
          have t5 : decide ((j : Int) < 100) = false := decide_eq_false (by omega)
          have HLT := Lib.hid (show T2.all (fun m => lightO m.obj) = true by rw [HA2.out, List.drop_eq_nil_of_le (by rw [HT2L.out]; omega)]; rfl)
          have HA3 := Lib.hid (show T.all lightI = (T.drop (k + 1)).all lightI by rw [HA.out, HAD.out, HLI.out, HLT.out]; rfl)
          have HS3 := Lib.hid (show S2 = ((T.take (k + 1)).map countI).sum by
            have h1 := HS2.out
            rw [List.take_of_length_le (by rw [HT2L.out]; omega)] at h1
            have h2 := HSD.out
            have h3 := HCI.out
            have h4 := HNS.out
            have h5 := HS.out
            have h6 := HS0.out
            omega)
          go_wp2
          go_roundw
          case rel => exact ⟨k + 1, S2, by go_num, rfl, by omega, by omega, HS3, HA3, HBw.out⟩
          case measure => simp [intOf] <;> omega
        case pos =>
        have t5 : decide ((j : Int) < 100) = true := decide_eq_true (by omega)
        obtain ⟨z, hz⟩ : ∃ z, ml[j]? = some z := ⟨_, List.getElem?_eq_getElem (by have := HNM.out; omega)⟩
        have htz : T2[j]? = some z.m := by rw [HT2G.out j hj1, hz]; rfl
        have hzm := List.mem_of_getElem? hz
        obtain ⟨b2, o2, rfl, f0, f1, f2, f3, hfb⟩ := mem_cells HPM.out HBw.out hz
        have HZD := Lib.hid (all_drop (f := fun m : MemM => lightO m.obj) htz)
        have HZS := Lib.hid (sum_take (f := countM) htz)
        have HZL := Lib.hid (HLM.out z hzm)
        have HZB := HMB.out z hzm
        obtain ⟨ns2, as2, cs2, hns2, hsv2, -, -⟩ := (HMS.out z hzm).shape
        have HZP := Lib.hid (HZMP.out z hzm)
        obtain ⟨np2, ap2, cp2, hpv2⟩ := HZP.out
        obtain ⟨zm, zL, zpv, zsv⟩ := z
        dsimp only at *
        subst hsv2 hpv2
        have hns29 : ns2 ≤ 1000000000 := by rw [hns2.out]; exact HZB
        have HCM := Lib.hid (show countM zm = 1 + ns2 by unfold countM; rw [hns2.out])
        have hS29 : S2 ≤ 20202000000000 := by
          have h1 := sum_le (f := countM) (B := 1000000001) (l := T2.take j) fun m hm => by
            have h2 := List.mem_of_mem_take hm
            obtain ⟨i, hi⟩ := List.mem_iff_getElem?.1 h2
            have hi2 : i < 100 := by
              have h3 := (List.getElem?_eq_some_iff.1 hi).1
              rw [HT2L.out] at h3
              omega
            rw [HT2G.out i hi2, Option.map_eq_some_iff] at hi
            obtain ⟨z, hz, rfl⟩ := hi
            have := HMB.out z (List.mem_of_getElem? hz)
            unfold countM
            omega
          have h2 : (T2.take j).length ≤ 100 := by rw [List.length_take]; omega
          have h3 := Nat.mul_le_mul_right 1000000001 h2
          have := HS2.out
          omega
        have hw3 : IntKind.i64.wrap ((S2 : Int) + 1) = (S2 : Int) + 1 := by have := i64_nat (n := S2 + 1) (by omega); simpa using this
        have hw4 : IntKind.i64.wrap ((S2 : Int) + 1 + (ns2 : Int)) = (S2 : Int) + 1 + (ns2 : Int) := by have := i64_nat (n := S2 + 1 + ns2) (by omega); simpa using this
        generalize lightO zm.obj = lo2 at *
        clear hz htz hzm HZB hns2
        cases lo2 with
        | false =>
          have HF := Lib.hid (show q = false by rw [HLR.out, HA.out, HAD.out, HLI.out, HA2.out, HZD.out]; rfl)
          go_wp2_with (go_at_call 13; refine (HZL.out _ HBw.out).mono ?_; rintro e w2 ⟨rfl, hb2⟩; have HB3 := Lib.hid (HBw.out.trans (hb2.mono HBw.out.size)); clear hb2)
          go_ret
          exact ⟨by rw [HF.out]; rfl, HB3.out⟩
        | true =>
          have HA3 := Lib.hid (show T2.all (fun m => lightO m.obj) = (T2.drop (j + 1)).all (fun m => lightO m.obj) by rw [HA2.out, HZD.out]; rfl)
          go_wp2_with (go_at_call 13; refine (HZL.out _ HBw.out).mono ?_; rintro e w2 ⟨rfl, hb2⟩; have HB3 := Lib.hid (HB2.out.trans (hb2.mono HB2.out.size)); have k4 := (hb2.cell (p := ⟨b, o + k * 5 + 4, none⟩) (block_lt g4)).trans g4; have k3 := (hb2.cell (p := ⟨b2, o2 + j * 4 + 3, none⟩) (block_lt f3)).trans f3; clear hb2 g4 f0 f1 f2 f3)
          go_roundw
          case rel => exact ⟨j + 1, S2 + 1 + ns2, by go_num, by push_cast; rfl, by omega, by omega, Lib.hid (by rw [HZS.out, HCM.out, HS2.out]; omega), HA3, HB3.out⟩
          case measure => simp [intOf] <;> omega
end Go.Proofs.Ytnhbgijecdeahaa
namespace Go.Proofs.Ytnhbgijecdeahaa
open Go.RowKit Go.Fd
set_option maxRecDepth 100000 in
theorem run_winEq (x : WinM) (w : World) : (Op.equalIn 10000 42 (.agg (encWin x).toArray) (.agg (encWin x).toArray)).run Try.prog w = .ok true w := by
  have h2 : Try.prog.stoodInHeld 42 = false := by kernel_rfl
  have h3 : (Try.prog.fieldsOf 42).toList.map (fun f => (f.name, f.type, f.offset)) = [("Name", 9, 0), ("Mod", 3, 1), ("Sym", 3, 2), ("Common", 4, 3), ("Size", 40, 4), ("Align", 40, 5)] := by kernel_rfl
  have h4 : Try.prog.underlying 42 = some (.struct (Try.prog.fieldsOf 42)) := by kernel_rfl
  have a9 : ∀ w, (isAgg 9).run Try.prog w = .ok false w := fun w => by kernel_rfl
  have a3 : ∀ w, (isAgg 3).run Try.prog w = .ok false w := fun w => by kernel_rfl
  have a2 : ∀ w, (isAgg 4).run Try.prog w = .ok false w := fun w => by kernel_rfl
  have a53 : ∀ w, (isAgg 40).run Try.prog w = .ok false w := fun w => by kernel_rfl
  have u9 : Try.prog.underlying 9 = some .string := by kernel_rfl
  have u3 : Try.prog.underlying 3 = some (.int .i64) := by kernel_rfl
  have u2 : Try.prog.underlying 4 = some .bool := by kernel_rfl
  have u53 : Try.prog.underlying 40 = some (.int .u64) := by kernel_rfl
  have h5 := run_eqFields_flat (P := Try.prog) (d := 9999) (xs := (encWin x).toArray) (ys := (encWin x).toArray) (w := w) _ _ [(⟨x.name.toArray⟩ : ByteArray).toList == (⟨x.name.toArray⟩ : ByteArray).toList, x.mod == x.mod, x.sym == x.sym, x.common == x.common, (x.size : Int) == x.size, (x.align : Int) == x.align] h3
    ⟨by decide, a9 w, ⟨_, _, rfl, rfl, run_equalIn_string w 9998 _ _ _ u9⟩, by decide, a3 w, ⟨_, _, rfl, rfl, run_equalIn_int w 9998 _ _ _ _ _ u3⟩, by decide, a3 w, ⟨_, _, rfl, rfl, run_equalIn_int w 9998 _ _ _ _ _ u3⟩, by decide, a2 w, ⟨_, _, rfl, rfl, run_equalIn_bool w 9998 _ _ _ u2⟩, by decide, a53 w, ⟨_, _, rfl, rfl, run_equalIn_int w 9998 _ _ _ _ _ u53⟩, by decide, a53 w, ⟨_, _, rfl, rfl, run_equalIn_int w 9998 _ _ _ _ _ u53⟩, trivial⟩
  rw [run_equalIn_agg _ 9999 _ _ _ h4 h2, h5]
  refine congrArg (fun b => Result.ok b w) ?_
  simp
theorem neq_win (x : WinM) (p q : Operand) (w : World) : (do eqGuard .neq 42 p q (.agg (encWin x).toArray) (.agg (encWin x).toArray); binOp .neq 42 (.agg (encWin x).toArray) (.agg (encWin x).toArray) : Sem Value).run Try.prog w = .ok (.bool false) w := by
  have h1 : Try.prog.eqGuardType Try.prog.depth 42 = false := by kernel_rfl
  rw [Sem.run_bind, run_eqGuard_agg _ _ _ _ _ _ _ h1, Result.andThen_ok, run_neq_struct, run_winEq, Result.andThen_ok]
  rfl
theorem win_cells {w wr : World} {a : Option Addr} {l : List WinM} {x : WinM} {k : Nat}
    (hc : ∀ i x, l[i]? = some x → 0 < 6 → ∃ b off, a = some ⟨b, off, none⟩ ∧ ∀ c, c < 6 → w.cell? ⟨b, off + (i * 6 + c), none⟩ = (encWin x)[c]?) (hb : Below w.heap.size w wr) (hk : l[k]? = some x) :
    ∃ b o, a = some ⟨b, o, none⟩ ∧ wr.cell? ⟨b, o + k * 6, none⟩ = some (S x.name) ∧ wr.cell? ⟨b, o + k * 6 + 1, none⟩ = some (.int .i64 x.mod) ∧ wr.cell? ⟨b, o + k * 6 + 2, none⟩ = some (.int .i64 x.sym) ∧ wr.cell? ⟨b, o + k * 6 + 3, none⟩ = some (.bool x.common) ∧ wr.cell? ⟨b, o + k * 6 + 4, none⟩ = some (.int .u64 (x.size : Int)) ∧ wr.cell? ⟨b, o + k * 6 + 5, none⟩ = some (.int .u64 (x.align : Int)) ∧ b < w.heap.size := by
  obtain ⟨b, o, ha, hcc⟩ := hc k x hk (by decide)
  have hlt : b < w.heap.size := block_lt (v := S x.name) (by rw [hcc 0 (by decide)]; rfl)
  have hh : ∀ c, c < 6 → wr.cell? ⟨b, o + k * 6 + c, none⟩ = (encWin x)[c]? := fun c hc5 => by
    rw [Nat.add_assoc, hb.cell (p := ⟨b, o + (k * 6 + c), none⟩) hlt]
    exact hcc c hc5
  exact ⟨b, o, ha, hh 0 (by decide), hh 1 (by decide), hh 2 (by decide), hh 3 (by decide), hh 4 (by decide), hh 5 (by decide), hlt⟩
/-- What is asked of outcomes that are compared. -/
structure TkSm (t : TakenM) : Prop where
  many : t.mods.length ≤ 100000
  names : t.names.length = t.mods.length
  objs : ∀ o ∈ t.mods, o.parts.length ≤ 1000000 ∧ o.syms.length ≤ 1000000 ∧ ∀ p ∈ o.parts, p.relas.length ≤ 1000000
  wins : t.wins.length ≤ 1000000000
attribute [local irreducible] walk
set_option maxHeartbeats 16000000 in
set_option maxRecDepth 100000 in
theorem same22_eq (t : TakenM) (Y Z : List ObV) (mv nv wv mu nu wu : Value) (w : World) (h : TakenAt w t Y mv nv wv) (h' : TakenAt w t Z mu nu wu) (hok : TkSm t) :
    Calls Try.prog 9 #[.agg #[mv, nv, wv], .agg #[mu, nu, wu]] w fun e w' => e = .returned (.bool true) ∧ Below w.heap.size w w' := by
  have HOK := Lib.hid hok
  have HY := Lib.hid h.obs
  have HZ := Lib.hid h'.obs
  obtain ⟨ya, yc, rfl, hyc, -, hPY⟩ := h.mods.open (fun _ => rfl)
  obtain ⟨za, zc, rfl, hzc, -, hPZ⟩ := h'.mods.open (fun _ => rfl)
  have HPY := Lib.hid hPY
  have HPZ := Lib.hid hPZ
  have HNY := Lib.hid h.names
  have HNZ := Lib.hid h'.names
  obtain ⟨ny, nya, nyc, hny, rfl, hnyc, -⟩ := Reads.shape h.names
  obtain ⟨nz, nza, nzc, hnz, rfl, hnzc, -⟩ := Reads.shape h'.names
  obtain ⟨wya, wyc, rfl, hwyc, -, hQY⟩ := h.wins.open (fun _ => rfl)
  obtain ⟨wza, wzc, rfl, hwzc, -, hQZ⟩ := h'.wins.open (fun _ => rfl)
  have HQY := Lib.hid hQY
  have HQZ := Lib.hid hQZ
  have hyl : Y.length = t.mods.length := by rw [h.obs.eq, List.length_map]
  have hzl : Z.length = t.mods.length := by rw [h'.obs.eq, List.length_map]
  obtain ⟨n, hn⟩ : ∃ n, n = t.mods.length := ⟨_, rfl⟩
  have hn2 : ny = n := by rw [hny.out, hok.names, hn]
  have hn3 : nz = n := by rw [hnz.out, hok.names, hn]
  subst hn2
  subst hn3
  rw [← hn] at hyl hzl
  rw [hyl] at hyc ⊢
  rw [hzl] at hzc ⊢
  have HYL := Lib.hid hyl
  have HZL := Lib.hid hzl
  have HN := Lib.hid hn
  have hn9 : nz ≤ 100000 := by rw [hn]; exact hok.many
  obtain ⟨m, hm⟩ : ∃ m, m = t.wins.length := ⟨_, rfl⟩
  rw [← hm] at hwyc hwzc ⊢
  have HM := Lib.hid hm
  have hm9 : m ≤ 1000000000 := by rw [hm]; exact hok.wins
  have HNN := Lib.hid (show t.names.length = nz by rw [hok.names, hn])
  clear h h' hok hPY hPZ hQY hQZ hyl hzl hn hm hny hnz
  go_enter Try.func9, Try.ntmps9
  go_wp2_with (first
    | ((with_reducible show wpList _ _ _ (⟨some 2, .box _ _, _, _, _, _⟩ :: _) _ _); go_must (refine wpList_box rfl ?_; intro w1 hx1 hb1 hs1; have HX1 := Lib.hid hx1; have HB1 := Lib.hid hb1; clear hx1 hb1))
    | ((with_reducible show wpList _ _ _ (⟨some 3, .box _ _, _, _, _, _⟩ :: _) _ _); go_must (refine wpList_box rfl ?_; intro w2 hx2 hb2 hs2; have HX2 := Lib.hid (heap_below hb2 HX1.out); have HX3 := Lib.hid hx2; have HB2 := Lib.hid (HB1.out.trans (hb2.mono HB1.out.size)); obtain ⟨c0, c1, c2⟩ := tak_box HX2.out; obtain ⟨d0, d1, d2⟩ := tak_box HX3.out; clear hx2 hb2)))
  go_loopw [5] (fun i wr => ∃ k : Nat, i = .int .i64 k ∧ k ≤ nz ∧ Hid (Below w2.heap.size w2 wr)) (fun i _ => nz - (intOf i).toNat)
  case atStart => exact ⟨0, rfl, Nat.zero_le _, Below.refl _ _⟩
  case round =>
    obtain ⟨k, rfl, hk, HB⟩ := hrel
    have HBw := Lib.hid (HB2.out.trans (HB.out.mono HB2.out.size))
    have HXr := Lib.hid (heap_below HB.out HX2.out)
    have HXs := Lib.hid (heap_below HB.out HX3.out)
    obtain ⟨c0, c1, c2⟩ := tak_box HXr.out
    obtain ⟨d0, d1, d2⟩ := tak_box HXs.out
    by_cases hlt : k < nz
    · obtain ⟨y, hy⟩ : ∃ y, Y[k]? = some y := ⟨_, List.getElem?_eq_getElem (by have := HYL.out; omega)⟩
      obtain ⟨z, hz⟩ : ∃ z, Z[k]? = some z := ⟨_, List.getElem?_eq_getElem (by have := HZL.out; omega)⟩
      obtain ⟨s, hs⟩ : ∃ s, t.names[k]? = some s := ⟨_, List.getElem?_eq_getElem (by have := HNN.out; omega)⟩
      have hyz : y.1 = z.1 := by
        have h1 : t.mods[k]? = some y.1 := by rw [HY.out.eq, List.getElem?_map, hy]; rfl
        have h2 : t.mods[k]? = some z.1 := by rw [HZ.out.eq, List.getElem?_map, hz]; rfl
        exact Option.some.inj (h1.symm.trans h2)
      have hym : y.1 ∈ t.mods := by rw [HY.out.eq]; exact List.mem_map_of_mem (List.mem_of_getElem? hy)
      have HA1 := Lib.hid (HY.out.obj y (List.mem_of_getElem? hy))
      have HA2 := Lib.hid (HZ.out.obj z (List.mem_of_getElem? hz))
      obtain ⟨yb, yo, rfl, e0, e1, e2, hb0⟩ := ob_cells HPY.out HBw.out hy
      obtain ⟨zb, zo, rfl, f0, f1, f2, hb1⟩ := ob_cells HPZ.out HBw.out hz
      obtain ⟨nb, no, rfl, g0, hgb⟩ := rd_cell HNY.out HBw.out hs
      obtain ⟨mb, mo, rfl, i0, hib⟩ := rd_cell HNZ.out HBw.out hs
      obtain ⟨o1, L1, pv1, sv1⟩ := y
      obtain ⟨o2, L2, pv2, sv2⟩ := z
      dsimp only at *
      subst hyz
      have HSM := Lib.hid (fun wx (hb : Below w.heap.size w wx) => refSame_eq o1 L1 L2 pv1 sv1 pv2 sv2 wx (HA1.out.mono hb) (HA2.out.mono hb) (HOK.out.objs _ hym).1 (HOK.out.objs _ hym).2.1 (HOK.out.objs _ hym).2.2)
      have hs1 : (s != s) = false := by simp
      clear hy hz hs hym hb0 hb1 hgb hib
      go_wp2
      have hAB := fun (x : Above wr) (b k : Nat) (h : b < wr.heap.size) => Above.cell x b k h
      have l1 := block_lt c0
      have l2 := block_lt d0
      have l3 := block_lt e0
      have l4 := block_lt f0
      have l5 := block_lt g0
      have l6 := block_lt i0
      refine wp_region_walk 25 [(10, .is (.bool true))] (by kernel_rfl) (by kernel_rfl) ?_
      simp only [List.take_succ_cons, List.take_zero, List.drop_succ_cons, List.drop_zero]
      try go_frame
      iterate 10 (refine walk_quiet rfl rfl rfl ?_; intro K hK; go_big_quiet_op; go_big_quiet_on)
      refine walk_is rfl rfl (fun wx hwx _ => WpYld.callIsB (run_callL (vals := [_, _]) Try.func22 (by kernel_rfl) rfl rfl) (HSM.out wx (HBw.out.trans (hwx.mono HBw.out.size)))) ?_
      go_frame
      iterate 14 (refine walk_quiet rfl rfl rfl ?_; intro K hK; go_big_quiet_op; go_big_quiet_on)
      refine walk_nil ?_
      intro wz hbz _
      have HBz := Lib.hid (HB.out.trans (hbz.mono HB.out.size))
      clear hAB hbz c0 c1 c2 d0 d1 d2 e0 e1 e2 f0 f1 f2 g0 i0 l1 l2 l3 l4 l5 l6
      go_wp2
      go_roundw
      case rel => exact ⟨k + 1, by go_num, by omega, HBz.out⟩
      case measure => simp [intOf] <;> omega
    · obtain rfl : nz = k := by omega
      go_wp2
      -- L2
      go_loopw [6] (fun i wr => ∃ k : Nat, i = .int .i64 k ∧ k ≤ m ∧ Hid (Below w2.heap.size w2 wr)) (fun i _ => m - (intOf i).toNat)
      case atStart => exact ⟨0, rfl, Nat.zero_le _, HB.out⟩
      case round =>
        obtain ⟨k, rfl, hk, HB⟩ := hrel
        have HBw := Lib.hid (HB2.out.trans (HB.out.mono HB2.out.size))
        clear c0 c1 c2 d0 d1 d2
        obtain ⟨c0, c1, c2⟩ := tak_box (heap_below HB.out HX2.out)
        obtain ⟨d0, d1, d2⟩ := tak_box (heap_below HB.out HX3.out)
        by_cases hlt : k < m
        · obtain ⟨x, hx⟩ : ∃ y, t.wins[k]? = some y := ⟨_, List.getElem?_eq_getElem (by have := HM.out; omega)⟩
          obtain ⟨yb, yo, rfl, e0, e1, e2, e3, e4, e5, hb0⟩ := win_cells HQY.out HBw.out hx
          obtain ⟨zb, zo, rfl, f0, f1, f2, f3, f4, f5, hb1⟩ := win_cells HQZ.out HBw.out hx
          clear hx hb0 hb1
          go_wp2
          refine wp_region_quiet_lit (by kernel_rfl) (by kernel_rfl) ?_
          repeat (first
            | ((with_reducible show wpQuiet _ _ _ _ (⟨some 81, _, _, _, _, _⟩ :: _) _); refine wpQuiet_run rfl (by rintro _ ⟨n, rfl⟩; exact run_bin rfl rfl (neq_win x _ _ _)) ?_)
            | quiet_step (fail))
          refine wpQuiet_nil ?_
          rintro _ ⟨nq, rfl⟩
          go_wp2
          go_roundw
          case rel =>
            first
              | exact ⟨k + 1, by go_num, by omega, HB.out.drewN _⟩
              | ((repeat apply Exists.intro); exact ⟨⟨k + 1, by go_num, by omega, HB.out.drewN _⟩, rfl⟩)
          case measure => simp [intOf] <;> omega
        · obtain rfl : m = k := by omega
          go_wp2
          go_ret
          exact ⟨rfl, HBw.out⟩
end Go.Proofs.Ytnhbgijecdeahaa
namespace Go.Proofs.Ytnhbgijecdeahaa
open Go.RowKit Go.Fd
def want22 (n : List UInt8) : SymM := ⟨n, 1, 0, 0, 0, 0⟩
def abs22 (n : List UInt8) : SymM := ⟨n, 1, 0, 65521, 7, 0⟩
def ob22 (l : List SymM) : ObjM := ⟨3, [], l⟩
def in21 : List InM := [⟨[109], ob22 [want22 [102]], []⟩]
def in22 : List InM := [⟨[109], ob22 [want22 [102]], []⟩, ⟨[108], objNo, [⟨[97], ob22 [abs22 [102], want22 [103]]⟩, ⟨[98], ob22 [abs22 [103]]⟩, ⟨[99], ob22 [abs22 [104]]⟩]⟩]
theorem f21 : faultyM in21 = 0 ∧ faultyM in22 = 0 := by decide +kernel
theorem o21 : orderM 0 in21 (drawnM in21).taken = [(0, -1)] := by decide +kernel
theorem o22 : orderM 0 in22 (drawnM in22).taken = [(0, -1), (1, 0), (1, 1)] := by decide +kernel
theorem m21 : firstE mayO (objsM in21) = 0 ∧ firstE mayO (objsM in22) = 0 := by decide +kernel
theorem t21 : (objsM in21).any (fun o => !decide (o.target = ((objsM in21)[0]?.elim 0 (·.target)))) = false := by decide +kernel
theorem t22 : (objsM in22).any (fun o => !decide (o.target = ((objsM in22)[0]?.elim 0 (·.target)))) = false := by decide +kernel
theorem c21 : (chosenM [ob22 [want22 [102]]] []).2 = 18 := by
  unfold chosenM
  rw [if_neg (by decide +kernel), if_pos (by decide +kernel)]
theorem d21 : (chosenM [ob22 [want22 [102]]] [[102]]).2 = 0 := by
  unfold chosenM
  rw [if_neg (by decide +kernel), if_neg (by decide +kernel)]
abbrev mods22 : List ObjM := [ob22 [want22 [102]], ob22 [abs22 [102], want22 [103]], ob22 [abs22 [103]]]
theorem k22 : (seeO 0 mods22 choNo).wins.map (·.1) = [[102], [103]] := by decide +kernel
theorem c22 : chosenM mods22 [] = ([⟨[102], 1, 0, false, 0, 0⟩, ⟨[103], 2, 0, false, 0, 0⟩], 0) := by
  unfold chosenM
  rw [if_neg (by decide +kernel), if_neg (by decide +kernel), k22, List.mergeSort_of_pairwise (by decide)]
  decide +kernel
theorem r21 : (resolveM in21 []).2 = 18 := by
  unfold resolveM
  rw [if_neg (by simp [f21.1]), if_neg (by rw [o21]; decide), if_neg (by simp [m21.1]), if_neg (by simp [t21]), o21]
  show (if (chosenM [ob22 [want22 [102]]] []).2 ≠ 0 then _ else _ : TakenM × Int).2 = 18
  rw [if_pos (by rw [c21]; decide)]
  exact c21
theorem s21 : (resolveM in21 [[102]]).2 = 0 := by
  unfold resolveM
  rw [if_neg (by simp [f21.1]), if_neg (by rw [o21]; decide), if_neg (by simp [m21.1]), if_neg (by simp [t21]), o21]
  show (if (chosenM [ob22 [want22 [102]]] [[102]]).2 ≠ 0 then _ else _ : TakenM × Int).2 = 0
  rw [if_neg (by rw [d21]; decide)]
theorem r22 : resolveM in22 [] = (⟨mods22, [[109], [108, 40, 97, 41], [108, 40, 98, 41]], [⟨[102], 1, 0, false, 0, 0⟩, ⟨[103], 2, 0, false, 0, 0⟩]⟩, 0) := by
  unfold resolveM
  rw [if_neg (by simp [f21.2]), if_neg (by rw [o22]; decide), if_neg (by simp [m21.2]), if_neg (by simp [t22]), o22]
  show (if (chosenM mods22 []).2 ≠ 0 then _ else (_ : TakenM × Int)) = _
  rw [if_neg (by rw [c22]; decide)]
  show (⟨mods22, _, (chosenM mods22 []).1⟩, 0) = ((⟨_, _, _⟩, 0) : TakenM × Int)
  rw [c22]
  rfl
theorem ok_ob22 (l : List SymM) (h : l = [] ∨ (∃ a b, l = [abs22 [a], want22 [b]]) ∨ (∃ a, l = [abs22 [a]]) ∨ ∃ a, l = [want22 [a]]) (t : Int) (ht : t = 0 ∨ t = 3) : ObjOk ⟨t, [], l⟩ ∧ l.length ≤ 300 ∧ ∀ x ∈ l, x.name.length ≤ 9223372036854775807 := by
  have h1 : l.length ≤ 2 := by rcases h with rfl | ⟨a, b, rfl⟩ | ⟨a, rfl⟩ | ⟨a, rfl⟩ <;> simp
  have h2 : ∀ x ∈ l, x.name.length ≤ 1 ∧ x.value ≤ 7 ∧ x.size = 0 := by
    rcases h with rfl | ⟨a, b, rfl⟩ | ⟨a, rfl⟩ | ⟨a, rfl⟩ <;> simp [abs22, want22]
  exact ⟨⟨⟨by dsimp only; omega, (fun p hp => by cases hp), (fun p hp => by cases hp), by dsimp only; omega, fun s hs => by have := h2 s hs; omega⟩, by dsimp only; simp, (fun p hp => by cases hp), (fun p hp => by cases hp), fun s hs => by have := h2 s hs; omega⟩, by omega, fun x hx => by have := h2 x hx; omega⟩
theorem tk22 : TkOk in22 := by
  have h : ∀ o ∈ objsM in22, ObjOk o ∧ o.syms.length ≤ 300 ∧ ∀ x ∈ o.syms, x.name.length ≤ 9223372036854775807 := by
    have e : objsM in22 = [ob22 [want22 [102]], ob22 [abs22 [102], want22 [103]], ob22 [abs22 [103]], ob22 [abs22 [104]]] := rfl
    rw [e]
    intro o ho
    simp only [List.mem_cons, List.not_mem_nil, or_false] at ho
    rcases ho with rfl | rfl | rfl | rfl
    · exact ok_ob22 _ (.inr (.inr (.inr ⟨_, rfl⟩))) 3 (.inr rfl)
    · exact ok_ob22 _ (.inr (.inl ⟨_, _, rfl⟩)) 3 (.inr rfl)
    · exact ok_ob22 _ (.inr (.inr (.inl ⟨_, rfl⟩))) 3 (.inr rfl)
    · exact ok_ob22 _ (.inr (.inr (.inl ⟨_, rfl⟩))) 3 (.inr rfl)
  exact ⟨⟨fun o ho => (h o ho).2, by decide⟩, fun o ho => (h o ho).1, by
    intro x hx
    simp only [in22, List.mem_cons, List.not_mem_nil, or_false] at hx
    rcases hx with rfl | rfl <;> simp⟩
theorem tk21 : TkOk in21 := by
  have h : ∀ o ∈ objsM in21, ObjOk o ∧ o.syms.length ≤ 300 ∧ ∀ x ∈ o.syms, x.name.length ≤ 9223372036854775807 := by
    have e : objsM in21 = [ob22 [want22 [102]]] := rfl
    rw [e]
    intro o ho
    rw [List.mem_singleton] at ho
    subst ho
    exact ok_ob22 _ (.inr (.inr (.inr ⟨_, rfl⟩))) 3 (.inr rfl)
  exact ⟨⟨fun o ho => (h o ho).2, by decide⟩, fun o ho => (h o ho).1, by
    intro x hx
    simp only [in21, List.mem_cons, List.not_mem_nil, or_false] at hx
    subst hx
    simp⟩
end Go.Proofs.Ytnhbgijecdeahaa
namespace Go.Proofs.Ytnhbgijecdeahaa
open Go.RowKit Go.Fd
theorem rd_lits {α : Type} {k : Nat} {enc : α → List Value} {w : World} {g n : Nat} {cs : Array Value} {t : TypeId} {fr : Nat × Nat} {l : List α} (hk : ∀ x, (enc x).length = k) (hn : n = l.length) (h : w.heap[g]? = some (.cells cs t fr)) (hc : cs = (l.flatMap enc).toArray) : RdR k enc w (.slice (some ⟨g, 0, none⟩) n n) l := by
  subst hc hn
  refine ⟨flat_len hk l, _, _, rfl, Nat.le_refl _, (fun h => by cases h), fun j hj => ⟨g, 0, rfl, ?_⟩⟩
  rw [Nat.zero_add, cell_rec h j]
  simp
theorem run_allocSy {a : Act} {w : World} {d : Option Tmp} {ty : TypeId} {pos : String} {aft : Array Edge} {g : Option (Nat × Bool)} :
    (execOp a.eval ⟨d, .alloc 44, ty, pos, aft, g⟩).run Try.prog w = .ok (.value (.pointer (some ⟨w.heap.size, 0, none⟩))) (w.alloc (.cells #[.string ⟨#[]⟩, .int .i64 0, .int .i64 0, .int .i64 0, .int .u64 0, .int .u64 0] 44)) := by
  kernel_rfl
theorem wpList_allocSy {ops : Array Oper} {rest : List Oper} {Q : Exit → Act → World → Prop} {a : Act} {w : World} {d : Option Tmp} {ty : TypeId} {pos : String} {aft : Array Edge}
    (h : ∀ w1, w1.heap[w.heap.size]? = some (.cells #[.string ⟨#[]⟩, .int .i64 0, .int .i64 0, .int .i64 0, .int .u64 0, .int .u64 0] 44 (0, 0)) → Below w.heap.size w w1 → w.heap.size < w1.heap.size → wpList Try.prog ops Q rest (a.put d (.pointer (some ⟨w.heap.size, 0, none⟩))) w1) :
    wpList Try.prog ops Q (⟨d, .alloc 44, ty, pos, aft, none⟩ :: rest) a w :=
  wpList_val rfl run_allocSy (h _ (heap_alloc_last w _) (below_alloc w _) (by rw [World.size_alloc]; omega))
set_option maxRecDepth 100000 in
theorem want22_any (n : List UInt8) (w : World) : Calls Try.prog 11 #[S n] w fun e w' => e = .returned (symV (want22 n)) ∧ Below w.heap.size w w' := by
  go_enter Try.func11, Try.ntmps11
  go_wp2_with (first
    | ((with_reducible show wpList _ _ _ (⟨some 2, .alloc _, _, _, _, _⟩ :: _) _ _); go_must (refine wpList_allocSy ?_; intro w1 hx1 hb1 hs1; have HX1 := Lib.hid hx1; have HB1 := Lib.hid hb1; clear hx1 hb1))
    | ((with_reducible show wpList _ _ _ (⟨none, .store _ (.tmp 2) _, _, _, _, _⟩ :: _) _ _); go_must (refine wpList_storeRowS HX1.out rfl rfl rfl (by kernel_rfl) (by simp [Value.oneCell']) ?_; intro w3 hh3 hs3; have HH3 := Lib.hid hh3; have HB3 := Lib.hid (HB1.out.trans (hs3.below HB1.out.size (fun k hk => by rw [hk]; exact Nat.le_refl _))); clear hh3 hs3)))
  exact bodyPost_ret (results_cell_row rfl _ _ w.heap.size _ _ _ _ rfl HH3.out rfl rfl (by kernel_rfl)) rfl ⟨rfl, HB3.out⟩
set_option maxRecDepth 100000 in
theorem abs22_any (n : List UInt8) (w : World) : Calls Try.prog 12 #[S n] w fun e w' => e = .returned (symV (abs22 n)) ∧ Below w.heap.size w w' := by
  go_enter Try.func12, Try.ntmps12
  go_wp2_with (first
    | ((with_reducible show wpList _ _ _ (⟨some 2, .alloc _, _, _, _, _⟩ :: _) _ _); go_must (refine wpList_allocSy ?_; intro w1 hx1 hb1 hs1; have HX1 := Lib.hid hx1; have HB1 := Lib.hid hb1; clear hx1 hb1))
    | ((with_reducible show wpList _ _ _ (⟨none, .store _ (.tmp 2) _, _, _, _, _⟩ :: _) _ _); go_must (refine wpList_storeRowS HX1.out rfl rfl rfl (by kernel_rfl) (by simp [Value.oneCell']) ?_; intro w3 hh3 hs3; have HH3 := Lib.hid hh3; have HB3 := Lib.hid (HB1.out.trans (hs3.below HB1.out.size (fun k hk => by rw [hk]; exact Nat.le_refl _))); clear hh3 hs3)))
  exact bodyPost_ret (results_cell_row rfl _ _ w.heap.size _ _ _ _ rfl HH3.out rfl rfl (by kernel_rfl)) rfl ⟨rfl, HB3.out⟩
set_option maxRecDepth 100000 in
theorem module22_any (a : Option Addr) (n c : Nat) (w : World) : Calls Try.prog 10 #[.slice a n c] w fun e w' => e = .returned (.agg #[.int .i64 3, nil3, .slice a n c]) ∧ Below w.heap.size w w' := by
  go_enter Try.func10, Try.ntmps10
  go_wp2_with (first
    | ((with_reducible show wpList _ _ _ (⟨some 2, .alloc _, _, _, _, _⟩ :: _) _ _); go_must (refine wpList_allocObj ?_; intro w1 hx1 hb1 hs1; have HX1 := Lib.hid hx1; have HB1 := Lib.hid hb1; clear hx1 hb1))
    | ((with_reducible show wpList _ _ _ (⟨none, .store _ (.tmp 2) _, _, _, _, _⟩ :: _) _ _); go_must (refine wpList_storeRowS HX1.out rfl rfl rfl (by kernel_rfl) (by simp [Value.oneCell']) ?_; intro w3 hh3 hs3; have HH3 := Lib.hid hh3; have HB3 := Lib.hid (HB1.out.trans (hs3.below HB1.out.size (fun k hk => by rw [hk]; exact Nat.le_refl _))); clear hh3 hs3)))
  exact bodyPost_ret (results_cell_row rfl _ _ w.heap.size _ _ _ _ rfl HH3.out rfl rfl (by kernel_rfl)) rfl ⟨rfl, HB3.out⟩
theorem wpList_litSym2 {ops : Array Oper} {rest : List Oper} {Q : Exit → Act → World → Prop} {a : Act} {w : World} {d : Option Tmp} {ty : TypeId} {pos : String} {aft : Array Edge} {x y : Operand} {s t : SymM} (hx : a.eval x = .agg (encSym s).toArray) (hy : a.eval y = .agg (encSym t).toArray)
    (h : ∀ w1, RdR 6 encSym w1 (.slice (some ⟨w.heap.size, 0, none⟩) 2 2) [s, t] → Below w.heap.size w w1 → wpList Try.prog ops Q rest (a.put d (.slice (some ⟨w.heap.size, 0, none⟩) 2 2)) w1) :
    wpList Try.prog ops Q (⟨d, .buildSlice 34 2 #[(0, x), (1, y)], ty, pos, aft, none⟩ :: rest) a w := by
  refine wpList_val (w' := w.alloc (.cells ([s, t].flatMap encSym).toArray 44)) rfl ?_ (h _ (rd_lits (fun _ => rfl) rfl (heap_alloc_last w _) rfl) (below_alloc w _))
  simp only [execOp, List.map_toArray, List.map_cons, List.map_nil, hx, hy]
  kernel_rfl
theorem wpList_litLib3 {ops : Array Oper} {rest : List Oper} {Q : Exit → Act → World → Prop} {a : Act} {w : World} {d : Option Tmp} {ty : TypeId} {pos : String} {aft : Array Edge} {x y z : Operand} {n1 n2 n3 : List UInt8} {t1 t2 t3 : Int} {a1 b1 a2 b2 a3 b3 : Option Addr} {m1 c1 p1 q1 m2 c2 p2 q2 m3 c3 p3 q3 : Nat} {l : List MemV} (hl : l.flatMap encMem = [S n1, .int .i64 t1, .slice a1 m1 c1, .slice b1 p1 q1, S n2, .int .i64 t2, .slice a2 m2 c2, .slice b2 p2 q2, S n3, .int .i64 t3, .slice a3 m3 c3, .slice b3 p3 q3]) (hn : l.length = 3)
    (hx : a.eval x = .agg #[S n1, .int .i64 t1, .slice a1 m1 c1, .slice b1 p1 q1]) (hy : a.eval y = .agg #[S n2, .int .i64 t2, .slice a2 m2 c2, .slice b2 p2 q2]) (hz : a.eval z = .agg #[S n3, .int .i64 t3, .slice a3 m3 c3, .slice b3 p3 q3])
    (h : ∀ w1, RdR 4 encMem w1 (.slice (some ⟨w.heap.size, 0, none⟩) 3 3) l → Below w.heap.size w w1 → wpList Try.prog ops Q rest (a.put d (.slice (some ⟨w.heap.size, 0, none⟩) 3 3)) w1) :
    wpList Try.prog ops Q (⟨d, .buildSlice 37 3 #[(0, x), (1, y), (2, z)], ty, pos, aft, none⟩ :: rest) a w := by
  refine wpList_val (w' := w.alloc (.cells #[S n1, .int .i64 t1, .slice a1 m1 c1, .slice b1 p1 q1, S n2, .int .i64 t2, .slice a2 m2 c2, .slice b2 p2 q2, S n3, .int .i64 t3, .slice a3 m3 c3, .slice b3 p3 q3] 46)) rfl ?_ (h _ (rd_lits (fun _ => rfl) hn.symm (heap_alloc_last w _) (by rw [hl])) (below_alloc w _))
  simp only [execOp, List.map_toArray, List.map_cons, List.map_nil, hx, hy, hz]
  kernel_rfl
theorem wpList_litIn2 {ops : Array Oper} {rest : List Oper} {Q : Exit → Act → World → Prop} {a : Act} {w : World} {d : Option Tmp} {ty : TypeId} {pos : String} {aft : Array Edge} {x y : Operand} {n1 n2 : List UInt8} {t1 t2 : Int} {a1 b1 d1 a2 b2 d2 : Option Addr} {m1 c1 p1 q1 r1 s1 m2 c2 p2 q2 r2 s2 : Nat} {l : List InV} (hl : l.flatMap encIn = [S n1, .int .i64 t1, .slice a1 m1 c1, .slice b1 p1 q1, .slice d1 r1 s1, S n2, .int .i64 t2, .slice a2 m2 c2, .slice b2 p2 q2, .slice d2 r2 s2]) (hn : l.length = 2)
    (hx : a.eval x = .agg #[S n1, .int .i64 t1, .slice a1 m1 c1, .slice b1 p1 q1, .slice d1 r1 s1]) (hy : a.eval y = .agg #[S n2, .int .i64 t2, .slice a2 m2 c2, .slice b2 p2 q2, .slice d2 r2 s2])
    (h : ∀ w1, RdR 5 encIn w1 (.slice (some ⟨w.heap.size, 0, none⟩) 2 2) l → Below w.heap.size w w1 → wpList Try.prog ops Q rest (a.put d (.slice (some ⟨w.heap.size, 0, none⟩) 2 2)) w1) :
    wpList Try.prog ops Q (⟨d, .buildSlice 22 2 #[(0, x), (1, y)], ty, pos, aft, none⟩ :: rest) a w := by
  refine wpList_val (w' := w.alloc (.cells #[S n1, .int .i64 t1, .slice a1 m1 c1, .slice b1 p1 q1, .slice d1 r1 s1, S n2, .int .i64 t2, .slice a2 m2 c2, .slice b2 p2 q2, .slice d2 r2 s2] 39)) rfl ?_ (h _ (rd_lits (fun _ => rfl) hn.symm (heap_alloc_last w _) (by rw [hl])) (below_alloc w _))
  simp only [execOp, List.map_toArray, List.map_cons, List.map_nil, hx, hy]
  kernel_rfl
theorem rdR_take {α : Type} {k : Nat} {enc : α → List Value} {w : World} {a : Option Addr} {n c : Nat} {l : List α} (hk : ∀ x, (enc x).length = k) (h : RdR k enc w (.slice a n c) l) (m : Nat) (hm : m ≤ n) : RdR k enc w (.slice a m c) (l.take m) := by
  obtain ⟨h1, a', c', e, h2, h3, h4⟩ := h
  cases e
  have hl : (l.take m).length = m := by rw [List.length_take]; omega
  have h5 := flat_len hk (l.take m)
  rw [hl] at h5
  refine ⟨by rw [h5, hl], a, c, by rw [hl], by rw [hl]; omega, h3, fun j hj => ?_⟩
  rw [h5] at hj
  have hj2 : j < (l.flatMap enc).length := by rw [flat_len hk]; exact Nat.lt_of_lt_of_le hj (Nat.mul_le_mul_right k hm)
  obtain ⟨b, off, e1, e2⟩ := h4 j hj2
  refine ⟨b, off, e1, e2.trans ?_⟩
  have e3 : l.flatMap enc = (l.take m).flatMap enc ++ (l.drop m).flatMap enc := by rw [← List.flatMap_append, List.take_append_drop]
  rw [e3, List.getElem?_append_left (by rw [h5]; exact hj)]
theorem at_syms {w : World} {t : Int} {sv : Value} {l : List SymM} (h : RdR 6 encSym w sv l) : ObjAt w ⟨t, [], l⟩ [] nil3 sv := ⟨rfl, RdR.nil 6 encPart w, (fun p hp => by cases hp), (fun p hp => by cases hp), h⟩
theorem wpList_litS {ops : Array Oper} {rest : List Oper} {Q : Exit → Act → World → Prop} {a : Act} {w : World} {d : Option Tmp} {ty : TypeId} {pos : String} {aft : Array Edge} {x : Operand} {n : List UInt8} (hx : a.eval x = S n)
    (h : ∀ w1, Rd S w1 (.slice (some ⟨w.heap.size, 0, none⟩) 1 1) [n] → Below w.heap.size w w1 → wpList Try.prog ops Q rest (a.put d (.slice (some ⟨w.heap.size, 0, none⟩) 1 1)) w1) :
    wpList Try.prog ops Q (⟨d, .buildSlice 26 1 #[(0, x)], ty, pos, aft, none⟩ :: rest) a w := by
  refine wpList_val (w' := w.alloc (.cells #[S n] 9)) rfl ?_ (h _ ⟨rfl, _, _, rfl, Nat.le_refl _, (fun h => by cases h), fun j hj => ⟨w.heap.size, 0, rfl, ?_⟩⟩ (below_alloc w _))
  · simp only [execOp, List.map_toArray, List.map_cons, List.map_nil, hx]
    kernel_rfl
  · rw [Nat.zero_add, cell_rec (heap_alloc_last w _) j]
    simp
theorem InsAt.take {w : World} {l : List InM} {V : List InV} {a : Option Addr} {n c : Nat} (h : InsAt w l V (.slice a n c)) (m : Nat) (hm : m ≤ n) : InsAt w (l.take m) (V.take m) (.slice a m c) :=
  ⟨by rw [h.eq, List.map_take], rdR_take (k := 5) (enc := encIn) (fun _ => rfl) h.rd m hm, fun x hx => h.obj x (List.mem_of_mem_take hx), fun x hx => h.lib x (List.mem_of_mem_take hx), fun x hx => h.mem x (List.mem_of_mem_take hx)⟩
set_option maxHeartbeats 8000000 in
set_option maxRecDepth 100000 in
theorem begun22_any (w : World) : Calls Try.prog 6 #[] w fun e w' => e = .returned (.bool true) ∧ Below w.heap.size w w' := by
  go_enter Try.func6, Try.ntmps6
  go_wp2_with fail
  go_at_call 11
  refine (want22_any [102] w).mono ?_
  rintro e w1 ⟨rfl, hb1⟩
  have HB1 := Lib.hid hb1; clear hb1
  go_wp2_with ((with_reducible show wpList _ _ _ (⟨some 9, _, _, _, _, _⟩ :: _) _ _); go_must (refine wpList_litSym (s := want22 [102]) rfl ?_; intro w2 hr2 hb2; have HR9 := Lib.hid hr2; have HB2 := Lib.hid hb2; clear hr2 hb2))
  go_at_call 10
  refine (module22_any _ _ _ w2).mono ?_
  rintro e w3 ⟨rfl, hb3⟩
  have HB3 := Lib.hid hb3; clear hb3
  go_wp2_with fail
  go_at_call 12
  refine (abs22_any [102] w3).mono ?_
  rintro e w4 ⟨rfl, hb4⟩
  have HB4 := Lib.hid hb4; clear hb4
  go_wp2_with fail
  go_at_call 11
  refine (want22_any [103] w4).mono ?_
  rintro e w5 ⟨rfl, hb5⟩
  have HB5 := Lib.hid hb5; clear hb5
  go_wp2_with ((with_reducible show wpList _ _ _ (⟨some 14, _, _, _, _, _⟩ :: _) _ _); go_must (refine wpList_litSym2 (s := abs22 [102]) (t := want22 [103]) rfl rfl ?_; intro w6 hr6 hb6; have HR14 := Lib.hid hr6; have HB6 := Lib.hid hb6; clear hr6 hb6))
  go_at_call 10
  refine (module22_any _ _ _ w6).mono ?_
  rintro e w7 ⟨rfl, hb7⟩
  have HB7 := Lib.hid hb7; clear hb7
  go_wp2_with fail
  go_at_call 12
  refine (abs22_any [103] w7).mono ?_
  rintro e w8 ⟨rfl, hb8⟩
  have HB8 := Lib.hid hb8; clear hb8
  go_wp2_with ((with_reducible show wpList _ _ _ (⟨some 18, _, _, _, _, _⟩ :: _) _ _); go_must (refine wpList_litSym (s := abs22 [103]) rfl ?_; intro w9 hr9 hb9; have HR18 := Lib.hid hr9; have HB9 := Lib.hid hb9; clear hr9 hb9))
  go_at_call 10
  refine (module22_any _ _ _ w9).mono ?_
  rintro e w10 ⟨rfl, hb10⟩
  have HB10 := Lib.hid hb10; clear hb10
  go_wp2_with fail
  go_at_call 12
  refine (abs22_any [104] w10).mono ?_
  rintro e w11 ⟨rfl, hb11⟩
  have HB11 := Lib.hid hb11; clear hb11
  go_wp2_with ((with_reducible show wpList _ _ _ (⟨some 22, _, _, _, _, _⟩ :: _) _ _); go_must (refine wpList_litSym (s := abs22 [104]) rfl ?_; intro w12 hr12 hb12; have HR22 := Lib.hid hr12; have HB12 := Lib.hid hb12; clear hr12 hb12))
  go_at_call 10
  refine (module22_any _ _ _ w12).mono ?_
  rintro e w13 ⟨rfl, hb13⟩
  have HB13 := Lib.hid hb13; clear hb13
  go_wp2_with (first
    | ((with_reducible show wpList _ _ _ (⟨some 25, _, _, _, _, _⟩ :: _) _ _); go_must (refine wpList_litLib3 (l := [(⟨⟨[97], ob22 [abs22 [102], want22 [103]]⟩, [], nil3, .slice (some ⟨w5.heap.size, 0, none⟩) 2 2⟩ : MemV), ⟨⟨[98], ob22 [abs22 [103]]⟩, [], nil3, .slice (some ⟨w8.heap.size, 0, none⟩) 1 1⟩, ⟨⟨[99], ob22 [abs22 [104]]⟩, [], nil3, .slice (some ⟨w11.heap.size, 0, none⟩) 1 1⟩]) rfl rfl rfl rfl rfl ?_; intro w14 hr14 hb14; have HR25 := Lib.hid hr14; have HB14 := Lib.hid hb14; clear hr14 hb14))
    | ((with_reducible show wpList _ _ _ (⟨some 27, _, _, _, _, _⟩ :: _) _ _); go_must (refine wpList_litIn2 (l := [(⟨⟨[109], ob22 [want22 [102]], []⟩, [], nil3, .slice (some ⟨w1.heap.size, 0, none⟩) 1 1, nil3, []⟩ : InV), ⟨⟨[108], objNo, [⟨[97], ob22 [abs22 [102], want22 [103]]⟩, ⟨[98], ob22 [abs22 [103]]⟩, ⟨[99], ob22 [abs22 [104]]⟩]⟩, [], nil3, nil3, .slice (some ⟨w13.heap.size, 0, none⟩) 3 3, [(⟨⟨[97], ob22 [abs22 [102], want22 [103]]⟩, [], nil3, .slice (some ⟨w5.heap.size, 0, none⟩) 2 2⟩ : MemV), ⟨⟨[98], ob22 [abs22 [103]]⟩, [], nil3, .slice (some ⟨w8.heap.size, 0, none⟩) 1 1⟩, ⟨⟨[99], ob22 [abs22 [104]]⟩, [], nil3, .slice (some ⟨w11.heap.size, 0, none⟩) 1 1⟩]⟩]) rfl rfl rfl rfl ?_; intro w15 hr15 hb15; have HR27 := Lib.hid hr15; have HB15 := Lib.hid hb15; clear hr15 hb15)))
  have HC14 := Lib.hid (HB14.out.trans (HB15.out.mono HB14.out.size))
  have HC13 := Lib.hid (HB13.out.trans (HC14.out.mono HB13.out.size))
  have HC12 := Lib.hid (HB12.out.trans (HC13.out.mono HB12.out.size))
  have HC11 := Lib.hid (HB11.out.trans (HC12.out.mono HB11.out.size))
  have HC10 := Lib.hid (HB10.out.trans (HC11.out.mono HB10.out.size))
  have HC9 := Lib.hid (HB9.out.trans (HC10.out.mono HB9.out.size))
  have HC8 := Lib.hid (HB8.out.trans (HC9.out.mono HB8.out.size))
  have HC7 := Lib.hid (HB7.out.trans (HC8.out.mono HB7.out.size))
  have HC6 := Lib.hid (HB6.out.trans (HC7.out.mono HB6.out.size))
  have HC5 := Lib.hid (HB5.out.trans (HC6.out.mono HB5.out.size))
  have HC4 := Lib.hid (HB4.out.trans (HC5.out.mono HB4.out.size))
  have HC3 := Lib.hid (HB3.out.trans (HC4.out.mono HB3.out.size))
  have HC2 := Lib.hid (HB2.out.trans (HC3.out.mono HB2.out.size))
  have HC1 := Lib.hid (HB1.out.trans (HC2.out.mono HB1.out.size))
  have HIN := Lib.hid (show InsAt w15 in22 ([(⟨⟨[109], ob22 [want22 [102]], []⟩, [], nil3, .slice (some ⟨w1.heap.size, 0, none⟩) 1 1, nil3, []⟩ : InV), ⟨⟨[108], objNo, [⟨[97], ob22 [abs22 [102], want22 [103]]⟩, ⟨[98], ob22 [abs22 [103]]⟩, ⟨[99], ob22 [abs22 [104]]⟩]⟩, [], nil3, nil3, .slice (some ⟨w13.heap.size, 0, none⟩) 3 3, [(⟨⟨[97], ob22 [abs22 [102], want22 [103]]⟩, [], nil3, .slice (some ⟨w5.heap.size, 0, none⟩) 2 2⟩ : MemV), ⟨⟨[98], ob22 [abs22 [103]]⟩, [], nil3, .slice (some ⟨w8.heap.size, 0, none⟩) 1 1⟩, ⟨⟨[99], ob22 [abs22 [104]]⟩, [], nil3, .slice (some ⟨w11.heap.size, 0, none⟩) 1 1⟩]⟩]) (.slice (some ⟨w14.heap.size, 0, none⟩) 2 2) from ⟨rfl, HR27.out, (fun x hx => by
    simp only [List.mem_cons, List.not_mem_nil, or_false] at hx
    rcases hx with rfl | rfl
    · exact at_syms (HR9.out.mono HC3.out)
    · exact objNo_at w15), (fun x hx => by
    simp only [List.mem_cons, List.not_mem_nil, or_false] at hx
    rcases hx with rfl | rfl
    · exact ⟨rfl, RdR.nil 4 encMem w15⟩
    · exact ⟨rfl, HR25.out.mono HB15.out⟩), (fun x hx y hy => by
    simp only [List.mem_cons, List.not_mem_nil, or_false] at hx
    rcases hx with rfl | rfl
    · cases hy
    · simp only [List.mem_cons, List.not_mem_nil, or_false] at hy
      rcases hy with rfl | rfl | rfl
      · exact at_syms (HR14.out.mono HC7.out)
      · exact at_syms (HR18.out.mono HC10.out)
      · exact at_syms (HR22.out.mono HC13.out))⟩)
  have HBF := Lib.hid HC1.out
  have HT1 := Lib.hid (fun wx (hb : Below w15.heap.size w15 wx) => takeRs_any in22 _ _ nil3 [] wx (HIN.out.mono hb) (Rd.nil S wx) (by decide) (by decide) (fun _ => tk22))
  have HT2 := Lib.hid (fun wx (hb : Below w15.heap.size w15 wx) => takeRs_any in21 _ _ nil3 [] wx ((HIN.out.mono hb).take 1 (by omega)) (Rd.nil S wx) (by decide) (by decide) (fun _ => tk21))
  have HT3 := Lib.hid (fun wx kv (hb : Below w15.heap.size w15 wx) (hk : Rd S wx kv [[102]]) => takeRs_any in21 _ _ kv [[102]] wx ((HIN.out.mono hb).take 1 (by omega)) hk (by decide) (by decide) (fun _ => tk21))
  clear HC1 HC2 HC3 HC4 HC5 HC6 HC7 HC8 HC9 HC10 HC11 HC12 HC13 HC14 HR9 HR14 HR18 HR22 HR25 HR27 HIN HB1 HB2 HB3 HB4 HB5 HB6 HB7 HB8 HB9 HB10 HB11 HB12 HB13 HB14 HB15
  rw [r22] at HT1
  refine (HT1.out w15 (Below.refl _ _)).mono ?_
  rintro e w16 ⟨⟨Y, mv, nv, wv, rfl, hT⟩, hb16⟩
  obtain ⟨m1, ma, mc, hm1, rfl, -, -⟩ := hT.mods.shape
  obtain ⟨n1, na, nc, hn1, rfl, -, -⟩ := Reads.shape hT.names
  obtain ⟨b1, o1, e9, q1, -⟩ := rd_cell (k := 1) hT.names (Below.refl _ _) rfl
  obtain ⟨wa, wc, rfl, -, -, hQ⟩ := hT.wins.open (fun _ => rfl)
  obtain ⟨b2, o2, e8, -, q2, -⟩ := win_cells (k := 1) hQ (Below.refl _ _) rfl
  have e7 : m1 = 3 := hm1.out.trans (by have := congrArg List.length hT.obs.eq; rw [List.length_map] at this; exact this.symm)
  have e6 : n1 = 3 := hn1.out
  subst e7 e6 e9 e8
  have HQ1 := Lib.hid q1
  have HQ2 := Lib.hid q2
  have HB16 := Lib.hid hb16
  clear q1 q2 hT hm1 hn1 hQ hb16
  dsimp only
  go_wp2_with (first
    | ((with_reducible show wpList _ _ _ (⟨some 2, .alloc _, _, _, _, _⟩ :: _) _ _); go_must (refine wpList_allocTk ?_; intro w17 hx17 hb17 hs17; have HX17 := Lib.hid hx17; have HB17 := Lib.hid hb17; clear hx17 hb17))
    | ((with_reducible show wpList _ _ _ (⟨none, .store _ (.tmp 2) _, _, _, _, _⟩ :: _) _ _); go_must (refine wpList_storeRowS HX17.out rfl rfl rfl (by kernel_rfl) (by simp [Value.oneCell']) ?_; intro w18 hh18 hs18; have HX18 := Lib.hid hh18; have HB18 := Lib.hid (HB17.out.trans (hs18.below HB17.out.size (fun k hk => by rw [hk]; exact Nat.le_refl _))); clear hh18 hs18)))
  have HC18 := Lib.hid (HB16.out.trans (HB18.out.mono HB16.out.size))
  refine (HT2.out w18 HC18.out).mono ?_
  rintro e w19 ⟨⟨Y2, mv, nv, wv, he, hT⟩, hb19⟩
  rw [r21] at he
  subst he
  obtain ⟨m2, ma2, mc2, -, rfl, -, -⟩ := hT.mods.shape
  obtain ⟨n2, na2, nc2, -, rfl, -, -⟩ := Reads.shape hT.names
  obtain ⟨k2, wa2, wc2, -, rfl, -, -⟩ := hT.wins.shape
  have HB19 := Lib.hid hb19
  clear hT hb19
  dsimp only
  go_wp2_with (first
    | ((with_reducible show wpList _ _ _ (⟨some 4, .alloc _, _, _, _, _⟩ :: _) _ _); go_must (refine wpList_allocTk ?_; intro w20 hx20 hb20 hs20; have HX20 := Lib.hid hx20; have HB20 := Lib.hid hb20; clear hx20 hb20))
    | ((with_reducible show wpList _ _ _ (⟨none, .store _ (.tmp 4) _, _, _, _, _⟩ :: _) _ _); go_must (refine wpList_storeRowS HX20.out rfl rfl rfl (by kernel_rfl) (by simp [Value.oneCell']) ?_; intro w21 hh21 hs21; have HB21 := Lib.hid (HB20.out.trans (hs21.below HB20.out.size (fun k hk => by rw [hk]; exact Nat.le_refl _))); clear hh21 hs21))
    | ((with_reducible show wpList _ _ _ (⟨some 42, _, _, _, _, _⟩ :: _) _ _); go_must (refine wpList_litS (n := [102]) rfl ?_; intro w22 hr22 hb22; have HR22 := Lib.hid hr22; have HB22 := Lib.hid (HB19.out.trans ((HB21.out.trans (hb22.mono HB21.out.size)).mono HB19.out.size)); clear hr22 hb22)))
  have HC22 := Lib.hid (HC18.out.trans (HB22.out.mono HC18.out.size))
  refine (HT3.out w22 _ HC22.out HR22.out).mono ?_
  rintro e w23 ⟨⟨Y3, mv, nv, wv, he, hT⟩, hb23⟩
  rw [s21] at he
  subst he
  obtain ⟨m3, ma3, mc3, -, rfl, -, -⟩ := hT.mods.shape
  obtain ⟨n3, na3, nc3, -, rfl, -, -⟩ := Reads.shape hT.names
  obtain ⟨k3, wa3, wc3, -, rfl, -, -⟩ := hT.wins.shape
  have HB23 := Lib.hid (HB22.out.trans (hb23.mono HB22.out.size))
  clear hT hb23
  dsimp only
  go_wp2_with (first
    | ((with_reducible show wpList _ _ _ (⟨some 6, .alloc _, _, _, _, _⟩ :: _) _ _); go_must (refine wpList_allocTk ?_; intro w24 hx24 hb24 hs24; have HX24 := Lib.hid hx24; have HB24 := Lib.hid hb24; clear hx24 hb24))
    | ((with_reducible show wpList _ _ _ (⟨none, .store _ (.tmp 6) _, _, _, _, _⟩ :: _) _ _); go_must (refine wpList_storeRowS HX24.out rfl rfl rfl (by kernel_rfl) (by simp [Value.oneCell']) ?_; intro w25 hh25 hs25; have HB25 := Lib.hid (HB23.out.trans ((HB24.out.trans (hs25.below HB24.out.size (fun k hk => by rw [hk]; exact Nat.le_refl _))).mono HB23.out.size)); have HB26 := Lib.hid (HB18.out.trans (HB25.out.mono HB18.out.size)); obtain ⟨c0, c1, c2⟩ := tak_box (heap_below HB25.out HX18.out); have q1 := (HB26.out.cell (p := ⟨b1, o1 + 1, none⟩) (block_lt HQ1.out)).trans HQ1.out; have q2 := (HB26.out.cell (p := ⟨b2, o2 + 1 * 6 + 1, none⟩) (block_lt HQ2.out)).trans HQ2.out; have HBZ := Lib.hid (HBF.out.trans ((HB16.out.trans (HB26.out.mono HB16.out.size)).mono HBF.out.size)); (try dsimp only at q1 q2); rw [Nat.one_mul] at q2; clear hh25 hs25)))
  go_ret
  exact ⟨rfl, HBZ.out⟩
end Go.Proofs.Ytnhbgijecdeahaa
namespace Go.Proofs.Ytnhbgijecdeahaa
open Go.RowKit Go.Fd
theorem Grew.trans {a b : Nat} {c d e : Cho} (h1 : Grew a c d) (h2 : Grew b d e) : Grew (a + b) c e :=
  ⟨by have := h1.wins; have := h2.wins; omega, by have := h1.ranks; have := h2.ranks; omega, by have := h1.aligns; have := h2.aligns; omega⟩
theorem seeS_grewL (i : Nat) : ∀ (ss : List SymM) (k : Nat) (c : Cho), Grew (2 * ss.length) c (seeS i k ss c)
  | [], k, c => ⟨Nat.le_refl _, Nat.le_refl _, Nat.le_refl _⟩
  | s :: ss, k, c => by
    have h := (seeM_grew i k c s).trans (seeS_grewL i ss (k + 1) (seeM i k c s))
    rw [List.length_cons, show 2 * (ss.length + 1) = 2 + 2 * ss.length by omega]
    exact h
theorem seeO_grewL (B : Nat) : ∀ (os : List ObjM) (i : Nat) (c : Cho), (∀ o ∈ os, o.syms.length ≤ B) → Grew (2 * B * os.length) c (seeO i os c)
  | [], i, c, _ => ⟨Nat.le_refl _, Nat.le_refl _, Nat.le_refl _⟩
  | o :: os, i, c, hb => by
    have h1 := seeS_grewL i o.syms 0 c
    have h2 := seeO_grewL B os (i + 1) (seeS i 0 o.syms c) fun x hx => hb x (List.mem_cons_of_mem _ hx)
    have h3 := h1.trans h2
    have h4 := hb o (List.mem_cons_self ..)
    have h5 : 2 * o.syms.length + 2 * B * os.length ≤ 2 * B * (os.length + 1) := by
      rw [Nat.mul_add]
      omega
    rw [List.length_cons]
    exact ⟨by have := h3.wins; show (seeO (i + 1) os (seeS i 0 o.syms c)).wins.length ≤ _; omega, by have := h3.ranks; show (seeO (i + 1) os (seeS i 0 o.syms c)).ranks.length ≤ _; omega, by have := h3.aligns; show (seeO (i + 1) os (seeS i 0 o.syms c)).aligns.length ≤ _; omega⟩
theorem tkSm_no : TkSm takenNo := ⟨by decide, rfl, (fun o ho => by cases ho), by decide⟩
theorem tkSm_of {l : List InM} {known : List (List UInt8)} (hk : faultyM l = 0 → TkOk l) : TkSm (resolveM l known).1 := by
  by_cases h : (resolveM l known).2 = 0
  · obtain ⟨h1, h2, h3, h4, h5, h6⟩ := resolve_ok h
    have hK := hk h1
    rw [h6]
    have hm : ∀ o ∈ (orderM 0 l (drawnM l).taken).map (objAt l), o ∈ objsM l := fun o ho => by
      obtain ⟨s, hs, rfl⟩ := List.mem_map.1 ho
      exact (order_inside hs).2
    refine ⟨by dsimp only; rw [List.length_map]; omega, by dsimp only; rw [List.length_map, List.length_map], fun o ho => ?_, ?_⟩
    · have h7 := hK.objs o (hm o ho)
      exact ⟨Nat.le_trans h7.many (by decide), Nat.le_trans h7.wf.many (by decide), fun p hp => Nat.le_trans (h7.wf.relas p hp).1 (by decide)⟩
    · obtain ⟨-, -, h7⟩ := chosen_ok h5
      have h8 := (seeO_grewL 300 ((orderM 0 l (drawnM l).taken).map (objAt l)) 0 choNo fun o ho => (hK.rs.objs o (hm o ho)).1).wins
      dsimp only
      rw [h7, List.length_map, (mergeS_perm _).length_eq, List.length_map]
      rw [List.length_map] at h8
      have h9 : choNo.wins.length = 0 := rfl
      omega
  · rw [resolve_no h]
    exact tkSm_no
/-- What is known of inputs among the arguments. -/
structure LawOk (l : List InM) : Prop where
  lt : LtOk l
  tk : lightR l = true → faultyM l = 0 → TkOk l
  tot : lightR l = true → faultyM l = 0 → l.length + memsM l ≤ 300
end Go.Proofs.Ytnhbgijecdeahaa
namespace Go.Proofs.Ytnhbgijecdeahaa
open Go.RowKit Go.Fd
theorem TIn : SliceT Try.prog 22 39 5 96 := SliceT.mk' (z := .agg #[.string ⟨#[]⟩, .int .i64 0, .slice none 0 0, .slice none 0 0, .slice none 0 0]) (by kernel_rfl) (by kernel_rfl) rfl (by omega)
theorem InsAt.one {w : World} {l : List InM} {V : List InV} {v : Value} (h : InsAt w l V v) : (V.flatMap encIn).all (·.oneCell') = true := by
  rw [List.all_eq_true]
  intro x hx
  obtain ⟨y, hy, hx⟩ := List.mem_flatMap.1 hx
  obtain ⟨n1, a1, c1, -, e1, -, -⟩ := (h.obj y hy).rd.shape
  obtain ⟨n2, a2, c2, -, e2, -, -⟩ := (h.obj y hy).syms.shape
  obtain ⟨n3, a3, c3, -, e3, -, -⟩ := (h.lib y hy).2.shape
  simp only [encIn, List.mem_cons, List.not_mem_nil, or_false] at hx
  rcases hx with rfl | rfl | rfl | rfl | rfl
  · rfl
  · rfl
  · rw [e1]; rfl
  · rw [e2]; rfl
  · rw [e3]; rfl
theorem InsAt.more {w : World} {l : List InM} {V : List InV} {v u : Value} {x : InV} (h : InsAt w l V v) (hu : RdR 5 encIn w u (V ++ [x])) (ho : ObjAt w x.x.obj x.L x.pv x.sv) (hl : x.x.lib = x.ml.map (·.m)) (hr : RdR 4 encMem w x.lv x.ml) (hm : ∀ y ∈ x.ml, ObjAt w y.m.obj y.L y.pv y.sv) : InsAt w (l ++ [x.x]) (V ++ [x]) u := by
  refine ⟨by rw [h.eq, List.map_append]; rfl, hu, fun y hy => ?_, fun y hy => ?_, fun y hy => ?_⟩
  all_goals
    rcases List.mem_append.1 hy with hy | hy
  · exact h.obj y hy
  · rw [List.mem_singleton] at hy; subst hy; exact ho
  · exact h.lib y hy
  · rw [List.mem_singleton] at hy; subst hy; exact ⟨hl, hr⟩
  · exact h.mem y hy
  · rw [List.mem_singleton] at hy; subst hy; exact hm
theorem tkMore {l : List InM} {tg : Int} {ex nm nx : List UInt8} (hk : TkOk l) (ht : l.length + memsM l ≤ 300) (hg : 1 ≤ tg ∧ tg ≤ 3) (he : ex.length ≤ 128) (h1 : nm.length ≤ 1000) (h2 : nx.length ≤ 1000) : TkOk (l ++ [moreI nm nx tg ex]) := by
  have hob : objsM (l ++ [moreI nm nx tg ex]) = objsM l ++ [extraO tg ex] := by
    unfold objsM
    rw [List.flatMap_append]
    simp [objsI, moreI]
  refine ⟨⟨fun o ho => ?_, ?_⟩, fun o ho => ?_, fun x hx => ?_⟩
  · rw [hob] at ho
    rcases List.mem_append.1 ho with ho | ho
    · exact hk.rs.objs o ho
    · rw [List.mem_singleton] at ho
      subst ho
      exact ⟨by simp [extraO], fun x hx => by rw [List.mem_singleton.1 hx]; show ex.length ≤ _; omega⟩
  · unfold memsM at *
    rw [List.length_append, List.map_append, List.sum_append]
    simp [moreI]
    omega
  · rw [hob] at ho
    rcases List.mem_append.1 ho with ho | ho
    · exact hk.objs o ho
    · rw [List.mem_singleton] at ho
      subst ho
      exact ⟨⟨by show _ ≤ tg ∧ tg < _; omega, (fun p hp => by cases hp), (fun p hp => by cases hp), by simp [extraO], fun s hs => by rw [List.mem_singleton.1 hs]; exact ⟨by show (0 : Nat) < _; decide, by show (0 : Nat) < _; decide⟩⟩, by simp [extraO], (fun p hp => by cases hp), (fun p hp => by cases hp), fun s hs => by rw [List.mem_singleton.1 hs]; show ex.length ≤ _; omega⟩
  · rcases List.mem_append.1 hx with hx | hx
    · exact hk.names x hx
    · rw [List.mem_singleton] at hx
      subst hx
      exact ⟨by show nm.length ≤ _; omega, fun m hm => by rw [List.mem_singleton.1 hm]; show nx.length ≤ _; omega⟩
theorem wpList_litLib1 {ops : Array Oper} {rest : List Oper} {Q : Exit → Act → World → Prop} {a : Act} {w : World} {d : Option Tmp} {ty : TypeId} {pos : String} {aft : Array Edge} {x : Operand} {n1 : List UInt8} {t1 : Int} {a1 b1 : Option Addr} {m1 c1 p1 q1 : Nat}
    (hx : a.eval x = .agg #[S n1, .int .i64 t1, .slice a1 m1 c1, .slice b1 p1 q1])
    (h : ∀ w1, w1.heap[w.heap.size]? = some (.cells #[S n1, .int .i64 t1, .slice a1 m1 c1, .slice b1 p1 q1] 46 (0, 0)) → Below w.heap.size w w1 → wpList Try.prog ops Q rest (a.put d (.slice (some ⟨w.heap.size, 0, none⟩) 1 1)) w1) :
    wpList Try.prog ops Q (⟨d, .buildSlice 37 1 #[(0, x)], ty, pos, aft, none⟩ :: rest) a w := by
  refine wpList_val (w' := w.alloc (.cells #[S n1, .int .i64 t1, .slice a1 m1 c1, .slice b1 p1 q1] 46)) rfl ?_ (h _ (heap_alloc_last w _) (below_alloc w _))
  simp only [execOp, List.map_toArray, List.map_cons, List.map_nil, hx]
  kernel_rfl
theorem wpList_litSy1 {ops : Array Oper} {rest : List Oper} {Q : Exit → Act → World → Prop} {a : Act} {w : World} {d : Option Tmp} {ty : TypeId} {pos : String} {aft : Array Edge} {x : Operand} {s : SymM} (hx : a.eval x = .agg (encSym s).toArray)
    (h : ∀ w1, w1.heap[w.heap.size]? = some (.cells (encSym s).toArray 44 (0, 0)) → Below w.heap.size w w1 → wpList Try.prog ops Q rest (a.put d (.slice (some ⟨w.heap.size, 0, none⟩) 1 1)) w1) :
    wpList Try.prog ops Q (⟨d, .buildSlice 34 1 #[(0, x)], ty, pos, aft, none⟩ :: rest) a w :=
  wpList_val rfl (run_oneSymS hx) (h _ (heap_alloc_last w _) (below_alloc w _))
theorem plain_take {l : List InM} {k : Nat} {x : InM} (h : l[k]? = some x) : plainN (l.take (k + 1)) = plainN (l.take k) + if x.lib = [] then 1 else 0 := by
  unfold plainN
  rw [List.take_add_one, h, List.countP_append]
  by_cases e : x.lib = [] <;> simp [e]
attribute [local irreducible] walk
set_option maxHeartbeats 16000000 in
set_option maxRecDepth 100000 in
theorem resolveDraws_any (l : List InM) (V : List InV) (lv : Value) (ex : List UInt8) (w : World) (h : InsAt w l V lv) (hok : LawOk l) (hxl : ex.length ≤ 1000000000) :
    Calls Try.prog 3 #[lv, S ex] w fun e w' => e = .returned (.bool true) ∧ Below w.heap.size w w' := by
  have HI := Lib.hid h
  have HLT : Hid (∀ wx, Below w.heap.size w wx → Calls Try.prog 7 #[lv] wx fun e w' => e = .returned (.bool (lightR l)) ∧ Below wx.heap.size wx w') := Lib.hid fun wx hb => light22_any l V lv wx (HI.out.mono hb) hok.lt
  have HBG : Hid (∀ wx, Calls Try.prog 6 #[] wx fun e w' => e = .returned (.bool true) ∧ Below wx.heap.size wx w') := Lib.hid begun22_any
  have HTK := Lib.hid hok.tk
  have HTT := Lib.hid hok.tot
  have HLM := Lib.hid hok.lt.many
  obtain ⟨a, cap, rfl, hcap, -, hP⟩ := h.rd.open (fun _ => rfl)
  have HP := Lib.hid hP
  have hll : l.length = V.length := by rw [h.eq, List.length_map]
  obtain ⟨n, hN⟩ : ∃ n, n = V.length := ⟨_, rfl⟩
  rw [← hN] at hcap hll HLT HI ⊢
  have HN := Lib.hid hN
  have HLL := Lib.hid hll
  generalize lightR l = q at *
  clear h hok hP hN hll
  cases q with
  | false =>
    go_enter Try.func3, Try.ntmps3
    go_wp2_with (first
      | (go_at_call 6; refine (HBG.out _).mono ?_; rintro e w1 ⟨rfl, hb1⟩; have HB1 := Lib.hid hb1; clear hb1)
      | (go_at_call 7; refine (HLT.out w1 HB1.out).mono ?_; rintro e w2 ⟨rfl, hb2⟩; have HB2 := Lib.hid (HB1.out.trans (hb2.mono HB1.out.size)); clear hb2))
    go_ret
    exact ⟨rfl, HB2.out⟩
  | true =>
    by_cases hn9 : 30 < n
    · have t1 : decide ((30 : Int) < (n : Int)) = true := decide_eq_true (by omega)
      go_enter Try.func3, Try.ntmps3
      go_wp2_with (first
        | (go_at_call 6; refine (HBG.out _).mono ?_; rintro e w1 ⟨rfl, hb1⟩; have HB1 := Lib.hid hb1; clear hb1)
        | (go_at_call 7; refine (HLT.out w1 HB1.out).mono ?_; rintro e w2 ⟨rfl, hb2⟩; have HB2 := Lib.hid (HB1.out.trans (hb2.mono HB1.out.size)); clear hb2))
      go_ret
      exact ⟨rfl, HB2.out⟩
    have t1 : decide ((30 : Int) < (n : Int)) = false := decide_eq_false (by omega)
    have HT1 := Lib.hid (fun wx (hb : Below w.heap.size w wx) => takeRs_any l V _ nil3 [] wx (HI.out.mono hb) (Rd.nil S wx) HLM.out (by decide) (HTK.out rfl))
    have HSM := Lib.hid (tkSm_of (l := l) (known := []) (HTK.out rfl))
    have HNO := Lib.hid (fun hh : (resolveM l []).2 ≠ 0 => resolve_no hh)
    have HYS := Lib.hid (fun hh : (resolveM l []).2 = 0 => resolve_ok hh)
    have HLW := Lib.hid (fun (hh : (resolveM l []).2 = 0) (hl30 : l.length ≤ 30) (o : ObjM) (ho : (resolveM l []).1.mods[0]? = some o) (hex : ∀ w ∈ (resolveM l []).1.wins, w.name ≠ ex) (h0 : ex ≠ []) (hm : mayS ex = true) => draws_law (nm := [109, 111, 114, 101]) (nx := [120]) hh hl30 ho hex h0 hm)
    obtain ⟨R1, hR1⟩ : ∃ R, R = resolveM l [] := ⟨_, rfl⟩
    rw [← hR1] at HT1 HSM HNO HYS HLW
    obtain ⟨T1, e1⟩ := R1
    dsimp only at HSM HNO HYS HLW
    clear hR1
    by_cases he : e1 = 0
    case neg =>
      have t2 : (e1 != 0) = true := bne_iff_ne.2 he
      have HTN := Lib.hid (HNO.out he)
      clear he HNO HYS HLW HSM
      go_enter Try.func3, Try.ntmps3
      go_wp2_with (first
        | (go_at_call 6; refine (HBG.out _).mono ?_; rintro e w1 ⟨rfl, hb1⟩; have HB1 := Lib.hid hb1; clear hb1)
        | (go_at_call 7; refine (HLT.out w1 HB1.out).mono ?_; rintro e w2 ⟨rfl, hb2⟩; have HB2 := Lib.hid (HB1.out.trans (hb2.mono HB1.out.size)); clear hb2))
      refine (HT1.out w2 HB2.out).mono ?_
      rintro e w3 ⟨⟨Y1, mv, nv, wv, rfl, hT⟩, hb3⟩
      obtain ⟨m1, ma1, mc1, hm1, rfl, -, -⟩ := hT.mods.shape
      obtain ⟨n1, na1, nc1, -, rfl, -, -⟩ := Reads.shape hT.names
      obtain ⟨k1, wa1, wc1, hk1, rfl, -, -⟩ := hT.wins.shape
      have HA3 := Lib.hid hT
      have HM1 := Lib.hid (show m1 = T1.mods.length by rw [hm1.out, hT.obs.eq, List.length_map])
      have HK1 := Lib.hid hk1.out
      have HB3 := Lib.hid (HB2.out.trans (hb3.mono HB2.out.size))
      clear hT hb3 hm1 hk1
      dsimp only
      obtain rfl : m1 = 0 := by rw [HM1.out, HTN.out]; rfl
      go_wp2_with (first
        | ((with_reducible show wpList _ _ _ (⟨some 5, .alloc _, _, _, _, _⟩ :: _) _ _); go_must (refine wpList_allocTk ?_; intro w4 hx4 hb4 hs4; have HX4 := Lib.hid hx4; have HB4 := Lib.hid hb4; clear hx4 hb4))
        | ((with_reducible show wpList _ _ _ (⟨none, .store _ (.tmp 5) _, _, _, _, _⟩ :: _) _ _); go_must (refine wpList_storeRowS HX4.out rfl rfl rfl (by kernel_rfl) (by simp [Value.oneCell']) ?_; intro w5 hh5 hs5; have HX5 := Lib.hid hh5; have hb35 := HB4.out.trans (hs5.below HB4.out.size (fun k hk => by rw [hk]; exact Nat.le_refl _)); have HA5 := Lib.hid (HA3.out.mono hb35); have HB5 := Lib.hid (HB3.out.trans (hb35.mono HB3.out.size)); obtain ⟨c0, c1, c2⟩ := tak_box hh5; clear hh5 hs5 hb35)))
      go_ret
      exact ⟨rfl, HB5.out⟩
    have t2 : (e1 != 0) = false := by rw [he]; rfl
    have t3 : (e1 == 0) = true := by rw [he]; rfl
    have HOK := Lib.hid (HYS.out he)
    have HL2 := Lib.hid (HLW.out he)
    clear HNO HYS HLW he
    go_enter Try.func3, Try.ntmps3
    go_wp2_with (first
      | (go_at_call 6; refine (HBG.out _).mono ?_; rintro e w1 ⟨rfl, hb1⟩; have HB1 := Lib.hid hb1; clear hb1)
      | (go_at_call 7; refine (HLT.out w1 HB1.out).mono ?_; rintro e w2 ⟨rfl, hb2⟩; have HB2 := Lib.hid (HB1.out.trans (hb2.mono HB1.out.size)); clear hb2))
    refine (HT1.out w2 HB2.out).mono ?_
    rintro e w3 ⟨⟨Y1, mv, nv, wv, rfl, hT⟩, hb3⟩
    obtain ⟨m1, ma1, mc1, hm1, rfl, -, -⟩ := hT.mods.shape
    obtain ⟨n1, na1, nc1, -, rfl, -, -⟩ := Reads.shape hT.names
    obtain ⟨k1, wa1, wc1, hk1, rfl, -, -⟩ := hT.wins.shape
    have HA3 := Lib.hid hT
    have HM1 := Lib.hid (show m1 = T1.mods.length by rw [hm1.out, hT.obs.eq, List.length_map])
    have HK1 := Lib.hid hk1.out
    have HB3 := Lib.hid (HB2.out.trans (hb3.mono HB2.out.size))
    clear hT hb3 hm1 hk1
    dsimp only
    go_wp2_with (first
      | ((with_reducible show wpList _ _ _ (⟨some 5, .alloc _, _, _, _, _⟩ :: _) _ _); go_must (refine wpList_allocTk ?_; intro w4 hx4 hb4 hs4; have HX4 := Lib.hid hx4; have HB4 := Lib.hid hb4; clear hx4 hb4))
      | ((with_reducible show wpList _ _ _ (⟨none, .store _ (.tmp 5) _, _, _, _, _⟩ :: _) _ _); go_must (refine wpList_storeRowS HX4.out rfl rfl rfl (by kernel_rfl) (by simp [Value.oneCell']) ?_; intro w5 hh5 hs5; have HX5 := Lib.hid hh5; have hb35 := HB4.out.trans (hs5.below HB4.out.size (fun k hk => by rw [hk]; exact Nat.le_refl _)); have HA5 := Lib.hid (HA3.out.mono hb35); have HB5 := Lib.hid (HB3.out.trans (hb35.mono HB3.out.size)); obtain ⟨c0, c1, c2⟩ := tak_box hh5; clear hh5 hs5 hb35)))
    -- L1
    have HPM := Lib.hid (show plainN l ≤ m1 by
      have h1 := HOK.out.2.2.2.2.2
      have h2 := congrArg (fun r : TakenM × Int => r.1.mods.length) h1
      dsimp only at h2
      rw [HM1.out, h2, List.length_map]
      exact order_plain l 0 _)
    have hs5 := HB5.out.size
    go_loopw [7, 9] (fun s7 i wr => ∃ k : Nat, s7 = .int .i64 ((plainN (l.take k) : Nat) : Int) ∧ i = .int .i64 k ∧ k ≤ n ∧ Hid (Below w5.heap.size w5 wr)) (fun _ i _ => n - (intOf i).toNat)
    case atStart => exact ⟨0, rfl, rfl, Nat.zero_le _, Below.refl _ _⟩
    case round =>
      obtain ⟨k, rfl, rfl, hk, HB⟩ := hrel
      by_cases hlt : k < n
      · obtain ⟨xv, hxv⟩ : ∃ x, V[k]? = some x := ⟨_, List.getElem?_eq_getElem (by have := HN.out; omega)⟩
        have hlx : l[k]? = some xv.x := by rw [HI.out.eq, List.getElem?_map, hxv]; rfl
        obtain ⟨b, o, rfl, -, -, -, -, i4, -⟩ := in_cells HP.out (HB5.out.trans (HB.out.mono hs5)) hxv
        have HPT := Lib.hid (plain_take hlx)
        obtain ⟨hle, hlr⟩ := HI.out.lib xv (List.mem_of_getElem? hxv)
        obtain ⟨n3, a3, c3, hn3, hlv, -, -⟩ := hlr.shape
        have hpl : plainN (l.take k) ≤ 1000 := by
          unfold plainN
          refine Nat.le_trans List.countP_le_length ?_
          rw [List.length_take]
          omega
        obtain ⟨x, L, pv, sv, lv, ml⟩ := xv
        dsimp only at *
        subst hlv
        have hx3 : x.lib = [] ↔ n3 = 0 := by
          rw [hle, hn3.out, List.map_eq_nil_iff, ← List.length_eq_zero_iff]
        generalize plainN (l.take k) = p1 at *
        clear hxv hlx hle hlr
        by_cases h3 : n3 = 0
        · have HP2 := Lib.hid (show plainN (l.take (k + 1)) = p1 + 1 by rw [HPT.out, if_pos (hx3.2 h3)])
          subst h3
          clear hx3 hn3
          go_wp2
          go_roundw
          case rel => exact ⟨k + 1, by rw [HP2.out]; go_num, by go_num, by omega, HB.out⟩
          case measure => simp [intOf] <;> omega
        · have HP2 := Lib.hid (show plainN (l.take (k + 1)) = p1 by rw [HPT.out, if_neg (fun e => h3 (hx3.1 e))]; rfl)
          have t5 : ((n3 : Int) == 0) = false := by simp; omega
          clear hx3 hn3 h3
          go_wp2
          go_roundw
          case rel => exact ⟨k + 1, by rw [HP2.out], by go_num, by omega, HB.out⟩
          case measure => simp [intOf] <;> omega
      · obtain rfl : n = k := by omega
        have HPL := Lib.hid (show plainN (l.take n) ≤ m1 by rw [List.take_of_length_le (by have := HLL.out; omega)]; exact HPM.out)
        generalize plainN (l.take n) = pl at *
        clear c0 c1 c2
        obtain ⟨c0, c1, c2⟩ := tak_box (heap_below HB.out HX5.out)
        by_cases hm0 : m1 = 0
        · subst hm0
          obtain rfl : pl = 0 := by have := HPL.out; omega
          have HBE := Lib.hid (HB5.out.trans (HB.out.mono hs5))
          go_wp2
          go_ret
          exact ⟨rfl, HBE.out⟩
        obtain ⟨y0, hy0⟩ : ∃ y, Y1[0]? = some y := ⟨_, List.getElem?_eq_getElem (by have h1 := HM1.out; rw [HA5.out.obs.eq, List.length_map] at h1; omega)⟩
        have hty : T1.mods[0]? = some y0.1 := by rw [HA5.out.obs.eq, List.getElem?_map, hy0]; rfl
        obtain ⟨ya, yc, e9, -, -, hPY⟩ := HA5.out.mods.open (fun _ => rfl)
        injection e9 with e9 e8 e7
        subst e9 e7
        obtain ⟨b, o, rfl, e0, -, -, -⟩ := ob_cells hPY HB.out hy0
        rw [Nat.zero_mul, Nat.add_zero] at e0
        clear e8
        have hmo : 1 ≤ y0.1.target ∧ y0.1.target ≤ 3 := by
          obtain ⟨-, -, h3, -, -, h6⟩ := HOK.out
          have h7 : y0.1 ∈ T1.mods := List.mem_of_getElem? hty
          have h8 := congrArg (fun r : TakenM × Int => r.1.mods) h6
          dsimp only at h8
          rw [h8] at h7
          obtain ⟨s, hs, h9⟩ := List.mem_map.1 h7
          have h10 := firstE_all h3 (objAt l s) (order_inside hs).2
          rw [h9] at h10
          exact mayO_target h10
        have HTY := Lib.hid hty
        obtain ⟨tg, htg⟩ : ∃ t, t = y0.1.target := ⟨_, rfl⟩
        rw [← htg] at e0 hmo
        have HTG := Lib.hid htg
        have hm01 : 0 < m1 := by omega
        have t6 : decide ((0 : Int) < (m1 : Int)) = true := decide_eq_true (by omega)
        have t7 : decide ((m1 : Int) < (pl : Int)) = false := decide_eq_false (by have := HPL.out; omega)
        have t8 : (tg == 0) = false := by simp; omega
        have HMO := Lib.hid hmo
        clear hPY hy0 hty htg hmo
        obtain ⟨wx, hwx⟩ : ∃ x : World, x = wr := ⟨_, rfl⟩
        go_wp2
        clear c0 c1 c2 e0
        -- L2
        have HBr := Lib.hid HB.out
        have hk19 : k1 ≤ 1000000000 := by rw [HK1.out]; exact HSM.out.wins
        go_loopw [10] (fun i wr => ∃ k : Nat, i = .int .i64 k ∧ k ≤ k1 ∧ Hid (∀ x ∈ T1.wins.take k, x.name ≠ ex) ∧ Hid (Below w5.heap.size w5 wr)) (fun i _ => k1 - (intOf i).toNat)
        case atStart => exact ⟨0, rfl, Nat.zero_le _, (by intro x hx; simp at hx), HBr.out⟩
        case round =>
          obtain ⟨k, rfl, hk, HNE, HB⟩ := hrel
          obtain ⟨c0, c1, c2⟩ := tak_box (heap_below HB.out HX5.out)
          by_cases hlt : k < k1
          · obtain ⟨x, hx⟩ : ∃ x, T1.wins[k]? = some x := ⟨_, List.getElem?_eq_getElem (by have := HK1.out; omega)⟩
            obtain ⟨xa, xc, e9, hxc, -, hPX⟩ := HA5.out.wins.open (fun _ => rfl)
            injection e9 with e9 e8 e7
            subst e9 e7
            obtain ⟨b2, o2, rfl, f0, -, -, -, -, -, -⟩ := win_cells hPX HB.out hx
            have hkc : k1 ≤ wc1 := by rw [e8]; exact hxc
            have HNX := Lib.hid (show T1.wins.take (k + 1) = T1.wins.take k ++ [x] by rw [List.take_add_one, hx]; rfl)
            clear e8 hxc hPX hx
            by_cases hne : x.name = ex
            · have t9 : (x.name == ex) = true := by rw [hne]; simp
              have HBE := Lib.hid (HB5.out.trans (HB.out.mono hs5))
              clear hne
              go_wp2
              go_ret
              exact ⟨rfl, HBE.out⟩
            · have t9 : (x.name == ex) = false := by simpa using hne
              have HNE2 := Lib.hid (show ∀ y ∈ T1.wins.take (k + 1), y.name ≠ ex by
                rw [HNX.out]
                intro y hy
                rcases List.mem_append.1 hy with hy | hy
                · exact HNE.out y hy
                · rw [List.mem_singleton.1 hy]; exact hne)
              clear hne
              go_wp2
              go_roundw
              case rel => exact ⟨k + 1, by go_num, by omega, HNE2.out, HB.out⟩
              case measure => simp [intOf] <;> omega
          · obtain rfl : k1 = k := by omega
            have HNE2 := Lib.hid (show ∀ y ∈ T1.wins, y.name ≠ ex by
              have h1 := HNE.out
              rwa [List.take_of_length_le (by have := HK1.out; omega)] at h1)
            have HBE := Lib.hid (HB5.out.trans (HB.out.mono hs5))
            clear HNE
            -- L3
            by_cases hx0 : ex = []
            · have t10 : (ex == []) = true := by rw [hx0]; rfl
              have t12 : ex.isEmpty = true := by rw [hx0]; rfl
              clear hx0
              go_wp2
              go_ret
              exact ⟨rfl, HBE.out⟩
            have t10 : (ex == []) = false := by simpa using hx0
            have t12 : ex.isEmpty = false := by simpa using hx0
            by_cases hxl1 : 100 < ex.length
            · have t11 : decide ((100 : Int) < (ex.length : Int)) = true := decide_eq_true (by omega)
              clear hx0 hxl1
              go_wp2
              go_ret
              exact ⟨rfl, HBE.out⟩
            have t11 : decide ((100 : Int) < (ex.length : Int)) = false := decide_eq_false (by omega)
            have HX0 := Lib.hid hx0
            have HX1 := Lib.hid hxl1
            clear hx0 hxl1
            go_wp2
            clear t10 t11 t12 c0 c1 c2
            go_loopw [11] (fun i wr => ∃ k : Nat, i = .int .i64 k ∧ k ≤ ex.length ∧ Hid (0 ∉ ex.take k) ∧ Hid (Below w5.heap.size w5 wr)) (fun i _ => ex.length - (intOf i).toNat)
            case atStart => exact ⟨0, rfl, Nat.zero_le _, by simp [Hid], HB.out⟩
            case round =>
              obtain ⟨k, rfl, hk, HZ, HB⟩ := hrel
              by_cases hlt : k < ex.length
              · have hb : ∀ h, (⟨ex.toArray⟩ : ByteArray)[k]'h = ex[k] := fun _ => rfl
                have HBB := Lib.hid hb
                have HBE := Lib.hid (HB5.out.trans (HB.out.mono hs5))
                clear hb
                go_wp2
                · go_ret
                  exact ⟨rfl, HBE.out⟩
                · rename_i hz
                  have h0 : ex[k] ≠ 0 := by
                    intro e
                    have h1 := hz
                    rw [HBB.out, e] at h1
                    simp at h1
                  go_roundw
                  case rel =>
                    refine ⟨k + 1, by go_num, by omega, ?_, HB.out⟩
                    show 0 ∉ _
                    rw [take_snoc' ex k ex[k] (List.getElem?_eq_getElem hlt)]
                    intro hm
                    rcases List.mem_append.1 hm with hm | hm
                    · exact HZ.out hm
                    · simp at hm; exact h0 hm.symm
                  case measure => simp [intOf] <;> omega
              · obtain rfl : k = ex.length := by omega
                have HBE := Lib.hid (HB5.out.trans (HB.out.mono hs5))
                have HMS := Lib.hid (show mayS ex = true by
                  have h1 := HZ.out
                  rw [List.take_of_length_le (Nat.le_refl _)] at h1
                  unfold mayS
                  rw [decide_eq_false h1, decide_eq_true (by have := HX1.out; omega)]
                  rfl)
                clear HZ
                -- L4
                obtain ⟨oM, hoM⟩ : ∃ o, o = y0.1 := ⟨_, rfl⟩
                have hty2 := HTY.out
                rw [← hoM] at hty2
                have htg2 := HTG.out
                rw [← hoM] at htg2
                have HLZ := HL2.out (by rw [HLL.out]; omega) oM hty2 HNE2.out HX0.out HMS.out
                rw [← htg2] at HLZ
                have HLZ := Lib.hid HLZ
                have HFA := Lib.hid HOK.out.1
                have HMK := Lib.hid (tkMore (nm := [109, 111, 114, 101]) (nx := [120]) (ex := ex) (HTK.out trivial HFA.out) (HTT.out trivial HFA.out) HMO.out (by have := HX1.out; omega) (by decide) (by decide))
                have HIr := Lib.hid (HI.out.mono HBE.out)
                have hvl : V.length = n := HN.out.symm
                have hsw := HBE.out.size
                clear hty2 hoM htg2 HTY HTG HL2 hvl
                go_wp2_with (first
                  | ((with_reducible show wpList _ _ _ (⟨some 107, _, _, _, _, _⟩ :: _) _ _); go_must (refine wpList_cat TIn (World.ownsRow_nil wr wr.heap.size _ 5) (show Reads wr 5 (.slice a n cap) V.length (V.flatMap encIn) from HIr.out.rd) rfl rfl HIr.out.one (by have := HN.out; omega) (by have := HN.out; omega) (Nat.le_refl _) ?_; intro v7 w7 hv7 _ hb7; have HV7 := Lib.hid (show OwR 5 encIn 39 w7 wr.heap.size v7 V by (rw [Nat.zero_add, List.nil_append] at hv7; exact hv7)); have HB7 := Lib.hid hb7; obtain ⟨m7, a7, c7, -, rfl, -, -⟩ := HV7.out.shape; clear hv7 hb7))
                  | ((with_reducible show wpList _ _ _ (⟨some 111, _, _, _, _, _⟩ :: _) _ _); go_must (refine wpList_litSy1 (s := ⟨ex, 1, 0, 65521, 0, 0⟩) rfl ?_; intro w8 hr8 hb8; have HR8 := Lib.hid hr8; have HV8 := Lib.hid (HV7.out.mono hb8); have HB8 := Lib.hid (HB7.out.trans (hb8.mono HB7.out.size)); clear hr8 hb8))
                  | ((with_reducible show wpList _ _ _ (⟨some 114, _, _, _, _, _⟩ :: _) _ _); go_must (refine wpList_litLib1 (n1 := [120]) rfl ?_; intro w9 hr9 hb9; have HR9 := Lib.hid hr9; have HS9 := Lib.hid (heap_below hb9 HR8.out); have HV9 := Lib.hid (HV8.out.mono hb9); have HB9 := Lib.hid (HB8.out.trans (hb9.mono HB8.out.size)); clear hr9 hb9))
                  | ((with_reducible show wpList _ _ _ (⟨some 117, _, _, _, _, _⟩ :: _) _ _); go_must (refine wpList_pushR TIn HV9.out rfl rfl (⟨moreI [109, 111, 114, 101] [120] tg ex, [], nil3, nil3, .slice (some ⟨w8.heap.size, 0, none⟩) 1 1, [(⟨⟨[120], extraO tg ex⟩, [], nil3, .slice (some ⟨w7.heap.size, 0, none⟩) 1 1⟩ : MemV)]⟩ : InV) rfl rfl rfl (by have := HN.out; omega) (by have := HN.out; omega) HB9.out.size ?_; intro v10 w10 hv10 hg10 hb10; have HV10 := Lib.hid hv10; have HR10 := Lib.hid (keeps_own HV9.out hg10 _ _ _ _ (show 46 ≠ 39 by decide) HR9.out); have HS10 := Lib.hid (keeps_own HV9.out hg10 _ _ _ _ (show 44 ≠ 39 by decide) HS9.out); have HB10 := Lib.hid (HB9.out.trans hb10); obtain ⟨m10, a10, c10, -, rfl, -, -⟩ := HV10.out.shape; clear hv10 hg10 hb10)))
                have HIM := Lib.hid (InsAt.more (x := (⟨moreI [109, 111, 114, 101] [120] tg ex, [], nil3, nil3, .slice (some ⟨w8.heap.size, 0, none⟩) 1 1, [(⟨⟨[120], extraO tg ex⟩, [], nil3, .slice (some ⟨w7.heap.size, 0, none⟩) 1 1⟩ : MemV)]⟩ : InV)) (HIr.out.mono HB10.out) (OwR.rd HV10.out) (objNo_at w10) rfl (rd_lits (l := [(⟨⟨[120], extraO tg ex⟩, [], nil3, .slice (some ⟨w7.heap.size, 0, none⟩) 1 1⟩ : MemV)]) (fun _ => rfl) rfl HR10.out rfl) (fun y hy => by
                  rw [List.mem_singleton] at hy
                  subst hy
                  exact at_syms (rd_lits (l := [⟨ex, 1, 0, 65521, 0, 0⟩]) (fun _ => rfl) rfl HS10.out rfl)))
                have HT2 := Lib.hid (takeRs_any _ _ _ nil3 [] w10 HIM.out (Rd.nil S w10) (by rw [List.length_append, HLL.out]; show n + 1 ≤ _; omega) (by decide) (fun _ => HMK.out))
                have HBw := Lib.hid (HBE.out.trans (HB10.out.mono hsw))
                have HB5x := Lib.hid (HB.out.trans (HB10.out.mono HB.out.size))
                clear HIM HR10 HS10 HV10 HR9 HS9 HV9 HV8 HV7 HR8 HB7 HB8 HB9 HIr
                rw [HLZ.out] at HT2
                refine HT2.out.mono ?_
                rintro e w11 ⟨⟨Y2, mv, nv, wv, rfl, hT⟩, hb11⟩
                obtain ⟨m2, ma2, mc2, -, rfl, -, -⟩ := hT.mods.shape
                obtain ⟨n2, na2, nc2, -, rfl, -, -⟩ := Reads.shape hT.names
                obtain ⟨k2, wa2, wc2, -, rfl, -, -⟩ := hT.wins.shape
                have HZ11 := Lib.hid hT
                have HB11 := Lib.hid (HB5x.out.trans (hb11.mono HB5x.out.size))
                clear hT hb11
                dsimp only
                go_wp2_with (first
                  | ((with_reducible show wpList _ _ _ (⟨some 13, .alloc _, _, _, _, _⟩ :: _) _ _); go_must (refine wpList_allocTk ?_; intro w12 hx12 hb12 hs12; have HX12 := Lib.hid hx12; have HB12 := Lib.hid hb12; clear hx12 hb12))
                  | ((with_reducible show wpList _ _ _ (⟨none, .store _ (.tmp 13) _, _, _, _, _⟩ :: _) _ _); go_must (refine wpList_storeRowS HX12.out rfl rfl rfl (by kernel_rfl) (by simp [Value.oneCell']) ?_; intro w13 hh13 hs13; have hb13 := HB12.out.trans (hs13.below HB12.out.size (fun k hk => by rw [hk]; exact Nat.le_refl _)); have HZ13 := Lib.hid (HZ11.out.mono hb13); have HB13 := Lib.hid (HB11.out.trans (hb13.mono HB11.out.size)); have HA13 := Lib.hid (HA5.out.mono HB13.out); obtain ⟨c0, c1, c2⟩ := tak_box (heap_below HB13.out HX5.out); obtain ⟨d0, d1, d2⟩ := tak_box hh13; clear hh13 hs13 hb13))
                  | (go_at_call 9; refine (same22_eq T1 Y1 Y2 _ _ _ _ _ _ w13 HA13.out HZ13.out HSM.out).mono ?_; rintro e w14 ⟨rfl, hb14⟩; have HB14 := Lib.hid (HB5.out.trans ((HB13.out.trans (hb14.mono HB13.out.size)).mono hs5)); clear hb14))
                go_ret
                exact ⟨rfl, HB14.out⟩
end Go.Proofs.Ytnhbgijecdeahaa
namespace Go.Proofs.Ytnhbgijecdeahaa
open Go.ChangeShapes Go.WideShapes Go.ChangeAt Go.RowKit Go.Fd
theorem Try.own : ownKnob Try.prog.godebug = none := by kernel_rfl
theorem Try.laidOut : laidOutB Try.prog = true := by kernel_rfl
/-- All arguments read behind the call as they read before it. -/
theorem belowAll {H : Type} {enc : TypeId × Value → H} {W W' : World} (hb : Below W.heap.size W W') : ∀ {ts : List TypeId} {vs : List Value} {ds : List (DataW H)} {ps : List MemPlace},
    DataW.TrodAll enc Try.prog W 0 (fun _ => true) true ts vs ds ps → (∀ x ∈ ps, x.block < W.heap.size) → (∀ t ∈ ts, Try.prog.readableRec t = true ∧ t < Try.prog.types.size) →
    DataW.TrodAll enc Try.prog W' 0 (fun b => decide (b < W.heap.size)) true ts vs ds ps
  | [], vs, ds, ps, h, _, _ => by obtain ⟨rfl, rfl, rfl⟩ := trodAll_nil h; exact trodAll_mk0
  | t :: ts, vs, ds, ps, h, hlt, ht => by
    obtain ⟨v, vs', d, ds', p, q, rfl, rfl, rfl, h0, h1⟩ := trodAll_cons h
    exact trodAll_cons_mk (Below.trod Try.laidOut (ht t (by simp)).1 (ht t (by simp)).2 h0 hb fun x hx => hlt x (by simp [hx]))
      (belowAll hb h1 (fun x hx => hlt x (by simp [hx])) fun u hu => ht u (by simp [hu]))
/-- The same, the types asked as one closed fact. -/
theorem belowAllB {H : Type} {enc : TypeId × Value → H} {W W' : World} {ts : List TypeId} (ht : (ts.all fun t => Try.prog.readableRec t && decide (t < Try.prog.types.size)) = true) (hb : Below W.heap.size W W') {vs : List Value} {ds : List (DataW H)} {ps : List MemPlace}
    (h : DataW.TrodAll enc Try.prog W 0 (fun _ => true) true ts vs ds ps) (hlt : ∀ x ∈ ps, x.block < W.heap.size) : DataW.TrodAll enc Try.prog W' 0 (fun b => decide (b < W.heap.size)) true ts vs ds ps :=
  belowAll hb h hlt fun t htm => by
    have := List.all_eq_true.1 ht t htm
    simp only [Bool.and_eq_true, decide_eq_true_eq] at this
    exact this
theorem wf_u64 {x : Int} (h : (Lit.int .u64 x).wf = true) : 0 ≤ x ∧ x < 18446744073709551616 := by
  simp [Lit.wf, IntKind.min, IntKind.max, IntKind.signed, IntKind.bits] at h
  exact ⟨by omega, by omega⟩
theorem wf_i64' {x : Int} (h : (Lit.int .i64 x).wf = true) : -9223372036854775808 ≤ x ∧ x < 9223372036854775808 := by
  simp [Lit.wf, IntKind.min, IntKind.max, IntKind.signed, IntKind.bits] at h
  exact ⟨by omega, by omega⟩
theorem len_4 {α : Type} : ∀ {l : List α}, l.length = 4 → ∃ a0 a1 a2 a3, l = [a0, a1, a2, a3]
  | [a0, a1, a2, a3], _ => ⟨a0, a1, a2, a3, rfl⟩
theorem len_5 {α : Type} : ∀ {l : List α}, l.length = 5 → ∃ a0 a1 a2 a3 a4, l = [a0, a1, a2, a3, a4]
  | [a0, a1, a2, a3, a4], _ => ⟨a0, a1, a2, a3, a4, rfl⟩
theorem len_6 {α : Type} : ∀ {l : List α}, l.length = 6 → ∃ a0 a1 a2 a3 a4 a5, l = [a0, a1, a2, a3, a4, a5]
  | [a0, a1, a2, a3, a4, a5], _ => ⟨a0, a1, a2, a3, a4, a5, rfl⟩
end Go.Proofs.Ytnhbgijecdeahaa
namespace Go.Fd
def RelaM.fits (x : RelaM) : Prop := x.off < 18446744073709551616 ∧ -9223372036854775808 ≤ x.add ∧ x.add < 9223372036854775808
end Go.Fd
namespace Go.Proofs.Ytnhbgijecdeahaa
open Go.ChangeMaps Go.ChangeShapes Go.WideShapes Go.ChangeAt Go.RowKit Go.Fd
/-- A struct of cells, each field of one cell: how each reads. -/
theorem cells_struct {H : Type} {enc : TypeId × Value → H} {P : Program} {w : World} {base : Nat} {spare : Nat → Bool} {held : Bool} {t : TypeId} {fs : Array Field} {cs : List Value} {fuel : Nat} {y : DataW H × List MemPlace}
    (hs : P.underlying t = some (.struct fs)) (hone : Go.Deep.oneCellFields P fs = true) (hC : cs.length = fs.size) (h : DataW.trod enc P w base spare held fuel t cs = some y) :
    ∃ n, ∀ (j : Nat) (f : Field), fs[j]? = some f → ∃ x y, cs[j]? = some x ∧ DataW.trod enc P w base spare held n f.type [x] = some y := by
  obtain ⟨xs, n, _, hx, _, hlen, hg⟩ := DataW.trod_struct hs h
  refine ⟨n, fun j f hj => ?_⟩
  obtain ⟨o, k⟩ := Go.Deep.hone_of hone j f hj
  have hjl : j < fs.size := (Array.getElem?_eq_some_iff.1 hj).1
  have hcl : j < cs.length := by omega
  have h1 := hg j f hj
  rw [o, k] at h1
  have h2 : (List.drop j cs).take 1 = [cs[j]] := by
    rw [List.drop_eq_getElem_cons hcl]
    rfl
  rw [h2] at h1
  exact ⟨_, xs[j]'(by omega), List.getElem?_eq_getElem hcl, h1.trans (List.getElem?_eq_getElem _)⟩
end Go.Proofs.Ytnhbgijecdeahaa
namespace Go.Proofs.Ytnhbgijecdeahaa
open Go
theorem handed_cond {H : Type} {enc : TypeId × Value → H} {a : Assume} {C : Go.Checked} {os : Os} {f : FuncId} {fn : Func} {s : OpenSpec} {k : (H : Type) → List (DataW H) → Bool} (hk : s.cond = some k) {F : Stop.Interp} {conds : List PathCond} {apart fresh handsOn again : Bool}
    (own : ownKnob C.prog.godebug = none) (started : os.Started) (noInit : C.prog.inits.idxOf? f = none) (hfn : C.prog.funcs[f]? = some fn)
    (witness : ∃ (w : World) (tape : Tape) (i : Input), w.os = os ∧ (w.forCall tape i).Shaped C.prog ∧ i.vars = [] ∧ Input.okWide C.prog (w.forCall tape i) .any w.heap.size f i ∧
      s.pre6 enc C.prog fn conds apart (w.forCall tape i).memory i.args ∧ a.holds C.prog (lone (Frame.enter C.prog f i.args .normal) [] (w.forCall tape i)))
    (contract : ∀ (W : World) (base : Nat) (args : Array Value) (ds gs : List (DataW H)) (before : List MemPlace),
      (∀ (j : Nat) t v, fn.params[j]? = some t → args[j]? = some v → Value.okWide C.prog W .any base t v) →
      DataW.Whole enc C.prog fn.params.toList s.vars apart W args.toList ds gs before →
      k H (ds ++ gs) = true →
      (DataW.weightsEach C.prog (fn.params.toList ++ s.bare.plain.varTypes C.prog) (ds ++ gs)).all (· ≤ reachBytes) = true →
      W.ShapedOpen C.prog →
      Calls C.prog f args W fun e W' => ∃ v, e = .returned v ∧ (s.at F).post enc C.prog fn apart fresh handsOn again W args v W') :
    ReturnsInHanded a C os f .any (s.pre6 enc C.prog fn conds apart) ((s.at F).post enc C.prog fn apart fresh handsOn again) := by
  refine returnsInHanded_of_calls own started noInit witness ?_
  intro w tape i _ hsh _ hok hpre _
  obtain ⟨_, _, _, fn', hfn', _, _, _, _, hval⟩ := hok
  obtain rfl : fn' = fn := Option.some.inj (hfn'.symm.trans hfn)
  obtain ⟨ds, gs, before, hw, _, hkk⟩ := (OpenSpec.pre_some hk conds apart _ _).1 hpre.1
  refine (contract (w.forCall tape i) w.heap.size i.args ds gs before hval (DataW.Whole.of_heap (w' := w.forCall tape i) (by rfl) hw) hkk (hpre.2.weights hw) hsh).mono fun e W' ⟨v, he, hp⟩ => ?_
  subst he
  exact ChangeSpec.post_blind hp
end Go.Proofs.Ytnhbgijecdeahaa
namespace Go.Proofs.Ytnhbgijecdeahaa
open Go.ChangeMaps Go.ChangeShapes Go.WideShapes Go.ChangeAt Go.RowKit Go.Fd
section
variable {H : Type}
theorem bulkAll_append (xs ys : List (DataW H)) : Rows.uptoBulkAll (xs ++ ys) = Rows.uptoBulkAll xs + Rows.uptoBulkAll ys := by
  induction xs with
  | nil => simp [Rows.uptoBulkAll]
  | cons x xs ih => rw [List.cons_append, Rows.uptoBulkAll, Rows.uptoBulkAll, ih]; omega
theorem bulk_get {xs : List (DataW H)} {i : Nat} {x : DataW H} (h : xs[i]? = some x) : Rows.uptoBulk x ≤ Rows.uptoBulkAll xs := by
  induction xs generalizing i with
  | nil => simp at h
  | cons y xs ih =>
    rw [Rows.uptoBulkAll]
    cases i with
    | zero => simp at h; subst h; omega
    | succ i => have := ih (by simpa using h); omega
theorem bulk_pair {xs : List (DataW H)} {i j : Nat} {x y : DataW H} (hij : i < j) (hx : xs[i]? = some x) (hy : xs[j]? = some y) : Rows.uptoBulk x + Rows.uptoBulk y ≤ Rows.uptoBulkAll xs := by
  induction xs generalizing i j with
  | nil => simp at hx
  | cons z xs ih =>
    rw [Rows.uptoBulkAll]
    cases j with
    | zero => omega
    | succ j =>
      cases i with
      | zero => simp at hx; subst hx; have := bulk_get (xs := xs) (i := j) (by simpa using hy); omega
      | succ i => have := ih (i := i) (j := j) (by omega) (by simpa using hx) (by simpa using hy); omega
end
set_option maxRecDepth 100000 in
/-- A slice of records, as it is read, with a measure of each. -/
theorem trod_recs {H : Type} {enc : TypeId × Value → H} {W : World} {v : Value} {y : DataW H × List MemPlace} {fuel : Nat} {α : Type} {k : Nat} {ec : α → List Value} {good : α → Prop} {μ : α → Nat} {t e : TypeId}
    (ht : Try.prog.underlying t = some (.slice e)) (hc : Try.prog.cellsOf e = k) (hk0 : 0 < k) (hlen : ∀ x, (ec x).length = k)
    (hstep : ∀ n cs y, DataW.trod enc Try.prog W 0 (fun _ => true) true n e cs = some y → cs.length = k → ∃ x, cs = ec x ∧ good x ∧ μ x ≤ Rows.uptoBulk y.1)
    (h : DataW.trod enc Try.prog W 0 (fun _ => true) true fuel t [v] = some y) : ∃ l : List α, RdR k ec W v l ∧ (∀ x ∈ l, good x) ∧ (l.map μ).sum + 1 ≤ Rows.uptoBulk y.1 := by
  rcases Go.Deep.open_slice ht h with ⟨hcs, hx⟩ | ⟨a, len, cap, m, n, D, Pl, hcs, _, hl, hm, hmm, hd, hel⟩
  · simp at hcs
    subst hcs hx
    exact ⟨[], RdR.nil k ec W, (fun x hx => by cases hx), by simp [Rows.uptoBulk]⟩
  · simp at hcs
    subst hcs hd
    simp only [hc] at hel
    have hall : ∀ n', n' ≤ len → ∃ l : List α, l.length = n' ∧ (l.map μ).sum ≤ Rows.uptoBulkAll ((List.range n').map D) ∧ ∀ i x, l[i]? = some x → good x ∧ ∀ c, c < k → W.cell? (a.add (i * k + c)) = (ec x)[c]? := by
      intro n'
      induction n' with
      | zero => exact fun _ => ⟨[], rfl, by simp, fun i x h => by simp at h⟩
      | succ n' ih =>
        intro hn
        obtain ⟨l, h1, hs, h2⟩ := ih (by omega)
        obtain ⟨cs', h3, h4⟩ := hel n' (by simp at hmm; omega)
        obtain ⟨-, h5, h6⟩ := World.cells?_some h3
        obtain ⟨x, rfl, hg, hμ⟩ := hstep _ _ _ h4 h5
        dsimp only at hμ
        refine ⟨l ++ [x], by simp [h1], ?_, fun i y hi => ?_⟩
        · rw [List.range_succ, List.map_append, List.map_append, List.sum_append, bulkAll_append]
          simp [Rows.uptoBulkAll]
          omega
        · rcases Nat.lt_or_ge i n' with hlt | hge
          · rw [List.getElem?_append_left (by omega)] at hi
            exact h2 i y hi
          · rw [List.getElem?_append_right (by omega)] at hi
            have hi0 : i - l.length = 0 := by
              have := (List.getElem?_eq_some_iff.1 hi).1
              simp at this
              omega
            rw [hi0] at hi
            cases hi
            obtain rfl : i = n' := by omega
            refine ⟨hg, fun c hc => ?_⟩
            have := h6 c hc
            rwa [Go.Deep.add_add] at this
    obtain ⟨l, h1, hs, h2⟩ := hall len (Nat.le_refl _)
    refine ⟨l, ⟨by rw [flat_len hlen], some a, cap, by rw [h1], by omega, (fun h => by cases h), fun j hj => ?_⟩, fun x hx => ?_, ?_⟩
    · rw [flat_len hlen] at hj
      have hjk : j = j / k * k + j % k := by rw [Nat.mul_comm]; exact (Nat.div_add_mod j k).symm
      have hi : j / k < l.length := (Nat.div_lt_iff_lt_mul hk0).2 hj
      have hx : l[j / k]? = some l[j / k] := List.getElem?_eq_getElem hi
      have h3 := (h2 _ _ hx).2 (j % k) (Nat.mod_lt _ hk0)
      rw [← hjk] at h3
      have h4 := flat_get hlen l (j / k) (j % k) _ hx (Nat.mod_lt _ hk0)
      rw [← hjk] at h4
      obtain ⟨b, off, spot⟩ := a
      have hspot : spot = none := by
        have hl0 : 0 < l.length := Nat.lt_of_le_of_lt (Nat.zero_le _) hi
        have hx0 : l[0]? = some (l[0]'hl0) := List.getElem?_eq_getElem _
        have h0 := (h2 0 _ hx0).2 0 hk0
        have h5 : (ec (l[0]'hl0))[0]? = some ((ec (l[0]'hl0))[0]'(by rw [hlen]; exact hk0)) := List.getElem?_eq_getElem _
        rw [h5, Nat.zero_mul, Nat.zero_add] at h0
        simpa [Addr.add] using World.cell?_spot h0
      subst hspot
      refine ⟨b, off, rfl, ?_⟩
      rw [add_plain] at h3
      rw [h3, h4]
    · obtain ⟨i, hi⟩ := List.mem_iff_getElem?.1 hx
      exact (h2 i x hi).1
    · rw [Rows.uptoBulk]
      omega
theorem flat_one {α β : Type} (f : α → β) (l : List α) : l.flatMap (fun c => [f c]) = l.map f := by
  induction l with
  | nil => rfl
  | cons x l ih => rw [List.flatMap_cons, ih]; rfl
set_option maxRecDepth 100000 in
theorem trod_bytes {H : Type} {enc : TypeId × Value → H} {W : World} {v : Value} {y : DataW H × List MemPlace} {fuel : Nat} (h : DataW.trod enc Try.prog W 0 (fun _ => true) true fuel 67 [v] = some y) :
    ∃ l : List UInt8, Bs W v l ∧ l.length + 1 ≤ Rows.uptoBulk y.1 := by
  obtain ⟨l, h1, -, h3⟩ := trod_recs (α := UInt8) (k := 1) (ec := fun c => [B c]) (good := fun _ => True) (μ := fun _ => 1) (e := 5) (by kernel_rfl) (by kernel_rfl) (by decide) (fun _ => rfl) (fun n cs y h hl => by
    obtain ⟨z, rfl, hy, hw⟩ := DataW.trod_int Try.underlying5 h
    refine ⟨UInt8.ofNat z.toNat, ?_, trivial, ?_⟩
    · simp [Lit.wf, IntKind.min, IntKind.max, IntKind.signed, IntKind.bits] at hw
      simp [B]
      omega
    · rw [hy]
      simp [Rows.uptoBulk]) h
  refine ⟨l, ?_, by rw [List.map_const', List.sum_replicate_nat] at h3; omega⟩
  have e := flat_one B l
  unfold RdR at h1
  rw [e] at h1
  exact h1
theorem wf_i64 {x : Int} (h : (Lit.int .i64 x).wf = true) : -9223372036854775808 ≤ x ∧ x < 9223372036854775808 := by
  simp [Lit.wf, IntKind.min, IntKind.max, IntKind.signed, IntKind.bits] at h
  omega
/-- A struct of cells, each field of one cell: how each reads, with what was read. -/
theorem cells_struct2 {H : Type} {enc : TypeId × Value → H} {P : Program} {w : World} {base : Nat} {spare : Nat → Bool} {held : Bool} {t : TypeId} {fs : Array Field} {cs : List Value} {fuel : Nat} {y : DataW H × List MemPlace}
    (hs : P.underlying t = some (.struct fs)) (hone : Go.Deep.oneCellFields P fs = true) (hC : cs.length = fs.size) (h : DataW.trod enc P w base spare held fuel t cs = some y) :
    ∃ n ds, y.1 = .agg ds ∧ ∀ (j : Nat) (f : Field), fs[j]? = some f → ∃ x z, cs[j]? = some x ∧ DataW.trod enc P w base spare held n f.type [x] = some z ∧ ds[j]? = some z.1 := by
  obtain ⟨xs, n, _, hx, _, hlen, hg⟩ := DataW.trod_struct hs h
  refine ⟨n, xs.map (·.1), by rw [hx], fun j f hj => ?_⟩
  obtain ⟨o, k⟩ := Go.Deep.hone_of hone j f hj
  have hjl : j < fs.size := (Array.getElem?_eq_some_iff.1 hj).1
  have hcl : j < cs.length := by omega
  have h1 := hg j f hj
  rw [o, k] at h1
  have h2 : (List.drop j cs).take 1 = [cs[j]] := by
    rw [List.drop_eq_getElem_cons hcl]
    rfl
  rw [h2] at h1
  exact ⟨_, xs[j]'(by omega), List.getElem?_eq_getElem hcl, h1.trans (List.getElem?_eq_getElem _), by rw [List.getElem?_map, List.getElem?_eq_getElem (by omega)]; rfl⟩
end Go.Proofs.Ytnhbgijecdeahaa
namespace Go.Proofs.Ytnhbgijecdeahaa
open Go.ChangeMaps Go.ChangeShapes Go.WideShapes Go.ChangeAt Go.RowKit Go.Fd
set_option maxRecDepth 100000 in
theorem trod_relasB {H : Type} {enc : TypeId × Value → H} {W : World} {v : Value} {y : DataW H × List MemPlace} {fuel : Nat} (h : DataW.trod enc Try.prog W 0 (fun _ => true) true fuel 68 [v] = some y) :
    ∃ l : List RelaM, RdR 4 encRela W v l ∧ (∀ x ∈ l, x.fits) ∧ l.length + 1 ≤ Rows.uptoBulk y.1 := by
  obtain ⟨l, h1, h2, h3⟩ := trod_recs (α := RelaM) (k := 4) (ec := encRela) (good := RelaM.fits) (μ := fun _ => 1) (e := 86) (by kernel_rfl) (by kernel_rfl) (by decide) (fun _ => rfl) (fun n cs y h hl => by
    obtain ⟨xs, n', -, rfl, -, -, -⟩ := DataW.trod_struct Try.underlying86 h
    obtain ⟨m, hf⟩ := cells_struct Try.underlying86 (by kernel_rfl) hl h
    obtain ⟨c0, c1, c2, c3, rfl⟩ := len_4 hl
    obtain ⟨x0, y0, e0, t0⟩ := hf 0 _ rfl
    obtain ⟨x1, y1, e1, t1⟩ := hf 1 _ rfl
    obtain ⟨x2, y2, e2, t2⟩ := hf 2 _ rfl
    obtain ⟨x3, y3, e3, t3⟩ := hf 3 _ rfl
    cases e0; cases e1; cases e2; cases e3
    obtain ⟨n0, q0, -, w0⟩ := DataW.trod_int Try.underlying40 t0
    obtain ⟨n1, q1, -, -⟩ := DataW.trod_int Try.underlying3 t1
    obtain ⟨n2, q2, -, -⟩ := DataW.trod_int Try.underlying3 t2
    obtain ⟨n3, q3, -, w3⟩ := DataW.trod_int Try.underlying2 t3
    cases q0; cases q1; cases q2; cases q3
    have h0 := wf_u64 w0
    refine ⟨⟨n0.toNat, n1, n2, n3⟩, ?_, ⟨by show n0.toNat < _; omega, wf_i64' w3⟩, by simp [Rows.uptoBulk]⟩
    have i0 : ((n0.toNat : Nat) : Int) = n0 := by omega
    unfold encRela
    rw [i0]) h
  exact ⟨l, h1, h2, by rw [List.map_const', List.sum_replicate_nat] at h3; omega⟩
/-- What is known of a part among the arguments. -/
def PartGood (W : World) (p : PartM × Value × Value) : Prop := (p.1.name.length ≤ 9223372036854775807 ∧ p.1.flags.length ≤ 9223372036854775807) ∧ ((-9223372036854775808 ≤ p.1.align ∧ p.1.align < 9223372036854775808) ∧ (-9223372036854775808 ≤ p.1.size ∧ p.1.size < 9223372036854775808)) ∧ Bs W p.2.1 p.1.data ∧ RdR 4 encRela W p.2.2 p.1.relas ∧ ∀ x ∈ p.1.relas, x.fits
set_option maxRecDepth 100000 in
theorem trod_parts {H : Type} {enc : TypeId × Value → H} {W : World} {v : Value} {y : DataW H × List MemPlace} {fuel : Nat} (h : DataW.trod enc Try.prog W 0 (fun _ => true) true fuel 33 [v] = some y) :
    ∃ l : List (PartM × Value × Value), RdR 6 encPart W v l ∧ (∀ p ∈ l, PartGood W p) ∧ (l.map fun p => p.1.data.length + p.1.relas.length + 1).sum + 1 ≤ Rows.uptoBulk y.1 := by
  refine trod_recs (α := PartM × Value × Value) (k := 6) (ec := encPart) (good := PartGood W) (e := 70) (by kernel_rfl) (by kernel_rfl) (by decide) (fun _ => rfl) (fun n cs y h hl => ?_) h
  obtain ⟨m, ds, hy, hf⟩ := cells_struct2 Try.underlying70 (by kernel_rfl) hl h
  obtain ⟨c0, c1, c2, c3, c4, c5, rfl⟩ := len_6 hl
  obtain ⟨x0, y0, e0, t0, -⟩ := hf 0 _ rfl
  obtain ⟨x1, y1, e1, t1, -⟩ := hf 1 _ rfl
  obtain ⟨x2, y2, e2, t2, -⟩ := hf 2 _ rfl
  obtain ⟨x3, y3, e3, t3, -⟩ := hf 3 _ rfl
  obtain ⟨x4, y4, e4, t4, d4⟩ := hf 4 _ rfl
  obtain ⟨x5, y5, e5, t5, d5⟩ := hf 5 _ rfl
  cases e0; cases e1; cases e2; cases e3; cases e4; cases e5
  obtain ⟨s, q0, -, hs⟩ := DataW.trod_string Try.underlying9 t0
  obtain ⟨f, q1, -, hff⟩ := DataW.trod_string Try.underlying9 t1
  obtain ⟨n2, q2, -, w2⟩ := DataW.trod_int Try.underlying3 t2
  obtain ⟨n3, q3, -, w3⟩ := DataW.trod_int Try.underlying3 t3
  obtain ⟨dl, hdl, hdb⟩ := trod_bytes t4
  obtain ⟨rl, hrl, hrf, hrb⟩ := trod_relasB t5
  cases q0; cases q1; cases q2; cases q3
  have h2 := wf_i64 w2
  have h3 := wf_i64 w3
  unfold maxLen at hs hff
  have g1 : s.data.toList.length ≤ 9223372036854775807 := by simpa using hs
  have g2 : f.data.toList.length ≤ 9223372036854775807 := by simpa using hff
  refine ⟨(⟨s.data.toList, f.data.toList, n2, n3, dl, rl⟩, c4, c5), rfl, ⟨⟨g1, g2⟩, ⟨h2, h3⟩, hdl, hrl, hrf⟩, ?_⟩
  rw [hy, Rows.uptoBulk]
  have := bulk_pair (by decide : 4 < 5) d4 d5
  show dl.length + rl.length + 1 ≤ _
  omega
/-- A module by value, as it is read; how great it is. -/
structure ObjRead (W : World) (v : Value) (n : Nat) (o : ObjM) (L : List (PartM × Value × Value)) (pv sv : Value) : Prop where
  val : v = objV o pv sv
  at_ : ObjAt W o L pv sv
  target : -9223372036854775808 ≤ o.target ∧ o.target < 9223372036854775808
  good : ∀ p ∈ L, PartGood W p
  texts : ∀ s ∈ o.syms, s.name.length ≤ 9223372036854775807 ∧ s.value < 18446744073709551616 ∧ s.size < 18446744073709551616
  size : (L.map fun p => p.1.data.length + p.1.relas.length + 1).sum ≤ n
theorem ObjRead.arg {W : World} {v : Value} {n : Nat} {o : ObjM} {L : List (PartM × Value × Value)} {pv sv : Value} (h : ObjRead W v n o L pv sv) (hn : n ≤ 1048576) : ObjArg o := by
  have h1 := h.size
  have hs : psum o.parts ≤ 24 * (L.map fun p => p.1.data.length + p.1.relas.length + 1).sum ∧ o.parts.length ≤ (L.map fun p => p.1.data.length + p.1.relas.length + 1).sum := by
    rw [h.at_.parts]
    clear h h1
    induction L with
    | nil => exact ⟨Nat.zero_le _, Nat.zero_le _⟩
    | cons p L ih =>
      unfold psum at *
      simp only [List.map_cons, List.sum_cons, List.length_cons, List.length_map] at *
      omega
  have hp : ∀ p ∈ o.parts, ∃ q ∈ L, q.1 = p := fun p hp => by
    rw [h.at_.parts] at hp
    obtain ⟨q, hq, rfl⟩ := List.mem_map.1 hp
    exact ⟨q, hq, rfl⟩
  refine ⟨h.target, fun p hm => ?_, fun p hm x hx => ?_, fun s hs => (h.texts s hs).2, by omega, by omega, fun p hm => ?_, fun s hs => (h.texts s hs).1⟩
  · obtain ⟨q, hq, rfl⟩ := hp p hm
    exact (h.good q hq).2.1
  · obtain ⟨q, hq, rfl⟩ := hp p hm
    exact (h.good q hq).2.2.2.2 x hx
  · obtain ⟨q, hq, rfl⟩ := hp p hm
    exact (h.good q hq).1
end Go.Proofs.Ytnhbgijecdeahaa
namespace Go.Proofs.Ytnhbgijecdeahaa
open Go.ChangeMaps Go.ChangeShapes Go.WideShapes Go.ChangeAt Go.RowKit Go.Fd
set_option maxRecDepth 100000 in
theorem trod_symsL {H : Type} {enc : TypeId × Value → H} {W : World} {v : Value} {y : DataW H × List MemPlace} {fuel : Nat} (h : DataW.trod enc Try.prog W 0 (fun _ => true) true fuel 34 [v] = some y) :
    ∃ l : List SymM, RdR 6 encSym W v l ∧ (∀ x ∈ l, x.name.length ≤ 9223372036854775807 ∧ x.value < 18446744073709551616 ∧ x.size < 18446744073709551616) ∧ l.length ≤ Rows.uptoBulk y.1 := by
  obtain ⟨l, h1, h2, h3⟩ := trod_recs (α := SymM) (k := 6) (ec := encSym) (good := fun x => x.name.length ≤ 9223372036854775807 ∧ x.value < 18446744073709551616 ∧ x.size < 18446744073709551616) (μ := fun _ => 1) (e := 44) (by kernel_rfl) (by kernel_rfl) (by decide) (fun _ => rfl) (fun n cs y h hl => by
    obtain ⟨m, ds, hy, hf⟩ := cells_struct2 Try.underlying44 (by kernel_rfl) hl h
    obtain ⟨c0, c1, c2, c3, c4, c5, rfl⟩ := len_6 hl
    obtain ⟨x0, y0, e0, t0, -⟩ := hf 0 _ rfl
    obtain ⟨x1, y1, e1, t1, -⟩ := hf 1 _ rfl
    obtain ⟨x2, y2, e2, t2, -⟩ := hf 2 _ rfl
    obtain ⟨x3, y3, e3, t3, -⟩ := hf 3 _ rfl
    obtain ⟨x4, y4, e4, t4, -⟩ := hf 4 _ rfl
    obtain ⟨x5, y5, e5, t5, -⟩ := hf 5 _ rfl
    cases e0; cases e1; cases e2; cases e3; cases e4; cases e5
    obtain ⟨s, q0, -, hs⟩ := DataW.trod_string Try.underlying9 t0
    obtain ⟨n1, q1, -, -⟩ := DataW.trod_int Try.underlying3 t1
    obtain ⟨n2, q2, -, -⟩ := DataW.trod_int Try.underlying3 t2
    obtain ⟨n3, q3, -, -⟩ := DataW.trod_int Try.underlying3 t3
    obtain ⟨n4, q4, -, w4⟩ := DataW.trod_int Try.underlying40 t4
    obtain ⟨n5, q5, -, w5⟩ := DataW.trod_int Try.underlying40 t5
    cases q0; cases q1; cases q2; cases q3; cases q4; cases q5
    have h4 := wf_u64 w4
    have h5 := wf_u64 w5
    unfold maxLen at hs
    have g1 : s.data.toList.length ≤ 9223372036854775807 := by simpa using hs
    refine ⟨⟨s.data.toList, n1, n2, n3, n4.toNat, n5.toNat⟩, ?_, ⟨g1, by show n4.toNat < _; omega, by show n5.toNat < _; omega⟩, by rw [hy, Rows.uptoBulk]; omega⟩
    have i4 : ((n4.toNat : Nat) : Int) = n4 := by omega
    have i5 : ((n5.toNat : Nat) : Int) = n5 := by omega
    unfold encSym
    rw [i4, i5]) h
  exact ⟨l, h1, h2, by rw [List.map_const', List.sum_replicate_nat] at h3; omega⟩
/-- A module as it is read; how great it is. -/
structure ObGood (W : World) (n : Nat) (o : ObjM) (L : List (PartM × Value × Value)) (pv sv : Value) : Prop where
  rd : ObjRead W (objV o pv sv) n o L pv sv
  syms : o.syms.length ≤ n
theorem ObGood.mono {W : World} {n m : Nat} {o : ObjM} {L : List (PartM × Value × Value)} {pv sv : Value} (h : ObGood W n o L pv sv) (hm : n ≤ m) : ObGood W m o L pv sv :=
  ⟨⟨rfl, h.rd.at_, h.rd.target, h.rd.good, h.rd.texts, Nat.le_trans h.rd.size hm⟩, Nat.le_trans h.syms hm⟩
set_option maxRecDepth 100000 in
theorem trod_objC {H : Type} {enc : TypeId × Value → H} {W : World} {c0 c1 c2 : Value} {y : DataW H × List MemPlace} {fuel : Nat} (h : DataW.trod enc Try.prog W 0 (fun _ => true) true fuel 36 [c0, c1, c2] = some y) :
    ∃ o L, c0 = .int .i64 o.target ∧ ObGood W (Rows.uptoBulk y.1) o L c1 c2 := by
  obtain ⟨m, ds, hy, hf⟩ := cells_struct2 (cs := [c0, c1, c2]) Try.underlying36 (by kernel_rfl) rfl h
  obtain ⟨x0, y0, e0, t0, -⟩ := hf 0 _ rfl
  obtain ⟨x1, y1, e1, t1, d1⟩ := hf 1 _ rfl
  obtain ⟨x2, y2, e2, t2, d2⟩ := hf 2 _ rfl
  cases e0; cases e1; cases e2
  obtain ⟨n0, q0, -, w0⟩ := DataW.trod_int Try.underlying3 t0
  obtain ⟨L, hL, hg, hs⟩ := trod_parts t1
  obtain ⟨Y, hY, hYg, hYl⟩ := trod_symsL t2
  cases q0
  have h0 := wf_i64 w0
  have hb := bulk_pair (by decide : 1 < 2) d1 d2
  have hyb : Rows.uptoBulk y.1 = Rows.uptoBulkAll ds + 1 := by rw [hy, Rows.uptoBulk]
  refine ⟨⟨n0, L.map (·.1), Y⟩, L, rfl, ⟨⟨rfl, ⟨rfl, hL, fun p hp => (hg p hp).2.2.1, fun p hp => (hg p hp).2.2.2.1, hY⟩, h0, hg, hYg, ?_⟩, ?_⟩⟩
  · omega
  · dsimp only
    omega
theorem mem_sum {α : Type} {f : α → Nat} : ∀ {l : List α} {x : α}, x ∈ l → f x ≤ (l.map f).sum
  | y :: l, x, h => by
    rw [List.map_cons, List.sum_cons]
    rcases List.mem_cons.1 h with rfl | h
    · omega
    · have := mem_sum (f := f) h
      omega
theorem len_sum {α : Type} {f : α → Nat} : ∀ {l : List α}, (∀ x ∈ l, 1 ≤ f x) → l.length ≤ (l.map f).sum
  | [], _ => Nat.le_refl _
  | y :: l, h => by
    rw [List.map_cons, List.sum_cons, List.length_cons]
    have h1 := h y (List.mem_cons_self ..)
    have h2 := len_sum (f := f) (l := l) fun x hx => h x (List.mem_cons_of_mem _ hx)
    omega
theorem rd_map {α β : Type} {k : Nat} {enc : β → List Value} {f : α → β} {W : World} {v : Value} {l : List α} (h : RdR k (fun p => enc (f p)) W v l) : RdR k enc W v (l.map f) := by
  unfold RdR at *
  rw [List.length_map, List.flatMap_map]
  exact h
/-- A member as it is read. -/
def MemGood (W : World) (B : Nat) (y : MemV) : Prop := y.m.name.length ≤ B ∧ ObGood W B y.m.obj y.L y.pv y.sv
set_option maxRecDepth 100000 in
theorem trod_libs {H : Type} {enc : TypeId × Value → H} {W : World} {v : Value} {y : DataW H × List MemPlace} {fuel B : Nat} (hB : Rows.uptoBulk y.1 ≤ B) (h : DataW.trod enc Try.prog W 0 (fun _ => true) true fuel 37 [v] = some y) :
    ∃ l : List MemV, RdR 4 encMem W v l ∧ (∀ m ∈ l, MemGood W B m) ∧ l.length ≤ B := by
  obtain ⟨l, h1, h2, h3⟩ := trod_recs (α := (MemV × Nat)) (k := 4) (ec := fun p => encMem p.1) (good := fun p => MemGood W p.2 p.1 ∧ 1 ≤ p.2) (μ := fun p => p.2) (e := 46) (by kernel_rfl) (by kernel_rfl) (by decide) (fun _ => rfl) (fun n cs y h hl => by
    obtain ⟨c0, c1, c2, c3, rfl⟩ := len_4 hl
    obtain ⟨y0, y1, n', rfl, -, t0, t1⟩ := trod_struct2 Try.underlying46 h
    dsimp only at t0 t1
    rw [show Try.prog.cellsOf 9 = 1 from by kernel_rfl] at t0
    rw [show Try.prog.cellsOf 36 = 3 from by kernel_rfl] at t1
    simp only [List.drop_zero, List.take_succ_cons, List.take_zero, List.drop_succ_cons] at t0 t1
    obtain ⟨s, q0, hy0, hs⟩ := DataW.trod_string Try.underlying9 t0
    obtain ⟨o, L, e1, hg⟩ := trod_objC t1
    cases q0
    subst e1
    have hb : Rows.uptoBulk (DataW.agg [y0.1, y1.1]) = Rows.uptoBulk y0.1 + Rows.uptoBulk y1.1 + 1 := by simp only [Rows.uptoBulk, Rows.uptoBulkAll]; omega
    have hb0 : s.data.toList.length + 1 ≤ Rows.uptoBulk y0.1 := by rw [hy0]; simp [Rows.uptoBulk]
    refine ⟨(⟨⟨s.data.toList, o⟩, L, c2, c3⟩, Rows.uptoBulk (DataW.agg [y0.1, y1.1])), rfl, ⟨⟨?_, hg.mono ?_⟩, ?_⟩, Nat.le_refl _⟩
    · show s.data.toList.length ≤ Rows.uptoBulk (DataW.agg [y0.1, y1.1])
      omega
    · show _ ≤ Rows.uptoBulk (DataW.agg [y0.1, y1.1])
      omega
    · show 1 ≤ Rows.uptoBulk (DataW.agg [y0.1, y1.1])
      omega) h
  have h4 := len_sum (f := fun p : MemV × Nat => p.2) (l := l) fun p hp => (h2 p hp).2
  refine ⟨l.map (·.1), rd_map h1, fun m hm => ?_, by rw [List.length_map]; omega⟩
  obtain ⟨p, hp, rfl⟩ := List.mem_map.1 hm
  have h5 := mem_sum (f := fun p : MemV × Nat => p.2) hp
  have h6 := (h2 p hp).1
  exact ⟨Nat.le_trans h6.1 (by omega), h6.2.mono (by omega)⟩
/-- An input as it is read. -/
structure InGood (W : World) (B : Nat) (x : InV) : Prop where
  name : x.x.name.length ≤ B
  obj : ObGood W B x.x.obj x.L x.pv x.sv
  lib : x.x.lib = x.ml.map (·.m)
  rd : RdR 4 encMem W x.lv x.ml
  mem : ∀ y ∈ x.ml, MemGood W B y
  many : x.ml.length ≤ B
theorem MemGood.mono {W : World} {A B : Nat} {y : MemV} (h : MemGood W A y) (hb : A ≤ B) : MemGood W B y := ⟨Nat.le_trans h.1 hb, h.2.mono hb⟩
theorem InGood.mono {W : World} {A B : Nat} {x : InV} (h : InGood W A x) (hb : A ≤ B) : InGood W B x := ⟨Nat.le_trans h.name hb, h.obj.mono hb, h.lib, h.rd, fun y hy => (h.mem y hy).mono hb, Nat.le_trans h.many hb⟩
set_option maxRecDepth 100000 in
theorem reads_inputs {H : Type} {enc : TypeId × Value → H} {W : World} {base : Nat} {v : Value} {d : DataW H} {p : List MemPlace} (hv : Value.okWide Try.prog W .any base 22 v) (h : DataW.Trod enc Try.prog W 0 (fun _ => true) true 22 v d p) :
    ∃ V : List InV, InsAt W (V.map (·.x)) V v ∧ (∀ x ∈ V, InGood W (Rows.uptoBulk d) x) ∧ V.length ≤ Rows.uptoBulk d := by
  obtain ⟨a0, len, cap, rfl⟩ := okWide_slice (by kernel_rfl : Try.prog.underlying 22 = some (.slice 39)) hv
  obtain ⟨fuel, hf⟩ := h
  obtain ⟨l, h1, h2, h3⟩ := trod_recs (α := InV × Nat) (k := 5) (ec := fun p => encIn p.1) (good := fun p => InGood W p.2 p.1 ∧ 1 ≤ p.2) (μ := fun p => p.2) (e := 39) (by kernel_rfl) (by kernel_rfl) (by decide) (fun _ => rfl) (fun n cs y h hl => by
    obtain ⟨c0, c1, c2, c3, c4, rfl⟩ := len_5 hl
    obtain ⟨y0, y1, y2, n', rfl, -, t0, t1, t2⟩ := Deep.trod_struct3 Try.underlying39 h
    dsimp only at t0 t1 t2
    rw [show Try.prog.cellsOf 9 = 1 from by kernel_rfl] at t0
    rw [show Try.prog.cellsOf 36 = 3 from by kernel_rfl] at t1
    rw [show Try.prog.cellsOf 37 = 1 from by kernel_rfl] at t2
    simp only [List.drop_zero, List.take_succ_cons, List.take_zero, List.drop_succ_cons] at t0 t1 t2
    obtain ⟨s, q0, hy0, hs⟩ := DataW.trod_string Try.underlying9 t0
    obtain ⟨o, L, e1, hg⟩ := trod_objC t1
    obtain ⟨ml, hl1, hl2, hl3⟩ := trod_libs (Nat.le_refl _) t2
    cases q0
    subst e1
    have hb : Rows.uptoBulk (DataW.agg [y0.1, y1.1, y2.1]) = Rows.uptoBulk y0.1 + Rows.uptoBulk y1.1 + Rows.uptoBulk y2.1 + 1 := by simp only [Rows.uptoBulk, Rows.uptoBulkAll]; omega
    have hb0 : s.data.toList.length + 1 ≤ Rows.uptoBulk y0.1 := by rw [hy0]; simp [Rows.uptoBulk]
    refine ⟨(⟨⟨s.data.toList, o, ml.map (·.m)⟩, L, c2, c3, c4, ml⟩, Rows.uptoBulk (DataW.agg [y0.1, y1.1, y2.1])), rfl, ⟨⟨?_, hg.mono ?_, rfl, hl1, fun m hm => (hl2 m hm).mono ?_, ?_⟩, ?_⟩, Nat.le_refl _⟩
    · show s.data.toList.length ≤ Rows.uptoBulk (DataW.agg [y0.1, y1.1, y2.1])
      omega
    · show _ ≤ Rows.uptoBulk (DataW.agg [y0.1, y1.1, y2.1])
      omega
    · show _ ≤ Rows.uptoBulk (DataW.agg [y0.1, y1.1, y2.1])
      omega
    · show _ ≤ Rows.uptoBulk (DataW.agg [y0.1, y1.1, y2.1])
      dsimp only
      omega
    · show 1 ≤ Rows.uptoBulk (DataW.agg [y0.1, y1.1, y2.1])
      omega) hf
  have h3' : (l.map fun p => p.2).sum + 1 ≤ Rows.uptoBulk d := h3
  have h4 := len_sum (f := fun p : InV × Nat => p.2) (l := l) fun p hp => (h2 p hp).2
  have hG : ∀ x ∈ l.map (·.1), InGood W (Rows.uptoBulk d) x := fun x hx => by
    obtain ⟨p, hp, rfl⟩ := List.mem_map.1 hx
    have h5 := mem_sum (f := fun p : InV × Nat => p.2) hp
    exact (h2 p hp).1.mono (by omega)
  refine ⟨l.map (·.1), ⟨rfl, rd_map h1, fun x hx => (hG x hx).obj.rd.at_, fun x hx => ⟨(hG x hx).lib, (hG x hx).rd⟩, fun x hx y hy => ((hG x hx).mem y hy).2.rd.at_⟩, hG, by rw [List.length_map]; omega⟩
theorem objsM_mem {l : List InM} {o : ObjM} (h : o ∈ objsM l) : ∃ x ∈ l, o = x.obj ∨ ∃ m ∈ x.lib, o = m.obj := by
  unfold objsM at h
  obtain ⟨x, hx, ho⟩ := List.mem_flatMap.1 h
  refine ⟨x, hx, ?_⟩
  unfold objsI at ho
  rcases List.mem_append.1 ho with ho | ho
  · split at ho
    · rw [List.mem_singleton] at ho
      exact .inl ho
    · cases ho
  · obtain ⟨m, hm, rfl⟩ := List.mem_map.1 ho
    exact .inr ⟨m, hm, rfl⟩
theorem total_le : ∀ (l : List InM), l.length ≤ 100 → (∀ x ∈ l, x.lib.length ≤ 100) → l.length + memsM l ≤ (l.map countI).sum
  | [], _, _ => by simp [memsM]
  | x :: l, h, hb => by
    rw [List.length_cons] at h
    have ih := total_le l (by omega) fun y hy => hb y (List.mem_cons_of_mem _ hy)
    have h1 := hb x (List.mem_cons_self ..)
    have h2 : x.lib.length ≤ (x.lib.map countM).sum := len_sum fun m _ => by unfold countM; omega
    unfold memsM at *
    rw [List.map_cons, List.sum_cons, List.map_cons, List.sum_cons, List.length_cons]
    have h3 : countI x = 1 + x.obj.syms.length + (x.lib.map countM).sum := by
      unfold countI
      rw [List.take_of_length_le h1]
    omega
/-- Inputs that are read, and not too great, are as the laws ask. -/
theorem lawOk {W : World} {V : List InV} {B : Nat} (hB : B ≤ 1048576) (h : ∀ x ∈ V, InGood W B x) (hl : V.length ≤ B) : LawOk (V.map (·.x)) := by
  have ho : ∀ x ∈ V, ObjArg x.x.obj ∧ x.x.obj.syms.length ≤ B := fun x hx => ⟨(h x hx).obj.rd.arg hB, (h x hx).obj.syms⟩
  have hm : ∀ x ∈ V, ∀ m ∈ x.x.lib, ObjArg m.obj ∧ m.obj.syms.length ≤ B ∧ m.name.length ≤ B := fun x hx m hm => by
    rw [(h x hx).lib] at hm
    obtain ⟨y, hy, rfl⟩ := List.mem_map.1 hm
    have h1 := (h x hx).mem y hy
    exact ⟨h1.2.rd.arg hB, h1.2.syms, h1.1⟩
  refine ⟨⟨by rw [List.length_map]; omega, fun x hx => ?_, fun x hx => ?_, fun x hx m hmm => ?_⟩, fun hlt hf => ?_, fun hlt hf => ?_⟩
  · obtain ⟨y, hy, rfl⟩ := List.mem_map.1 hx
    rw [(h y hy).lib, List.length_map]
    have := (h y hy).many
    omega
  · obtain ⟨y, hy, rfl⟩ := List.mem_map.1 hx
    have h1 := ho y hy
    exact ⟨Nat.le_trans h1.1.parts (by decide), h1.1.sum, by omega⟩
  · obtain ⟨y, hy, rfl⟩ := List.mem_map.1 hx
    have h1 := hm y hy m hmm
    exact ⟨Nat.le_trans h1.1.parts (by decide), h1.1.sum, by omega⟩
  · obtain ⟨hl64, hm64⟩ := faulty_len hf
    unfold lightR at hlt
    rw [Bool.and_eq_true, decide_eq_true_eq, List.take_of_length_le (by omega)] at hlt
    obtain ⟨ha, hs⟩ := hlt
    rw [List.all_eq_true] at ha
    have hlo : ∀ o ∈ objsM (V.map (·.x)), ObjArg o ∧ lightO o = true := fun o hoo => by
      obtain ⟨x, hx, hc⟩ := objsM_mem hoo
      have h1 := ha x hx
      unfold lightI at h1
      rw [Bool.and_eq_true, List.take_of_length_le (by have := hm64 x hx; omega), List.all_eq_true] at h1
      obtain ⟨y, hy, rfl⟩ := List.mem_map.1 hx
      rcases hc with rfl | ⟨m, hmm, rfl⟩
      · exact ⟨(ho y hy).1, h1.1⟩
      · exact ⟨(hm y hy m hmm).1, h1.2 m hmm⟩
    refine ⟨⟨fun o hoo => ?_, ?_⟩, fun o hoo => ((hlo o hoo).1.ok (hlo o hoo).2).1, fun x hx => ?_⟩
    · have h1 := (hlo o hoo).2
      unfold lightO at h1
      simp only [Bool.and_eq_true, decide_eq_true_eq] at h1
      exact ⟨h1.2, (hlo o hoo).1.texts⟩
    · exact Nat.le_trans (total_le _ (by omega) fun x hx => by have := hm64 x hx; omega) (Nat.le_trans hs (by decide))
    · obtain ⟨y, hy, rfl⟩ := List.mem_map.1 hx
      have h1 := (h y hy).name
      exact ⟨by omega, fun m hmm => by have := (hm y hy m hmm).2.2; omega⟩
  · obtain ⟨hl64, hm64⟩ := faulty_len hf
    unfold lightR at hlt
    rw [Bool.and_eq_true, decide_eq_true_eq, List.take_of_length_le (by omega)] at hlt
    exact Nat.le_trans (total_le _ (by omega) fun x hx => by have := hm64 x hx; omega) hlt.2
set_option maxRecDepth 100000 in
theorem reads_strB {H : Type} {enc : TypeId × Value → H} {W : World} {base : Nat} {v : Value} {d : DataW H} {p : List MemPlace} (hv : Value.okWide Try.prog W .any base 9 v) (h : DataW.Trod enc Try.prog W 0 (fun _ => true) true 9 v d p) :
    ∃ l : List UInt8, v = S l ∧ l.length ≤ Rows.uptoBulk d := by
  have he : Try.prog.underlying 9 = some .string := by kernel_rfl
  obtain ⟨s, rfl, -, -, -⟩ := open_string he hv h
  obtain ⟨fuel, hf⟩ := h
  obtain ⟨s', q0, hy, -⟩ := DataW.trod_string Try.underlying9 hf
  have q1 : [Value.string s] = [Value.string s'] := q0
  obtain rfl : s = s' := by simpa using q1
  have hb : s.data.toList.length + 1 ≤ Rows.uptoBulk (d, p).1 := by rw [hy]; simp [Rows.uptoBulk]
  refine ⟨s.data.toList, by simp [S], ?_⟩
  have : s.data.toList.length + 1 ≤ Rows.uptoBulk d := hb
  omega
end Go.Proofs.Ytnhbgijecdeahaa
namespace Go.Proofs.Ytnhbgijecdeahaa
open Go.ChangeShapes Go.WideShapes Go.ChangeAt Go.RowKit Go.Fd
set_option maxRecDepth 100000 in
theorem resolveDrawsUpto_lifted (os : Os) (started : os.Started) (H : Type) (enc : TypeId × Value → H) (F : Stop.Interp) :
    ReturnsInHanded {} Try.checked os 3 .any ((Rows.OpenSpec.upto Rows.resolveDrawsSpec).pre6 enc Try.prog Try.f3 Rows.resolveDrawsUptoRow.domain false) (((Rows.OpenSpec.upto Rows.resolveDrawsSpec).at F).post enc Try.prog Try.f3 false true false false) := by
  refine handed_cond (C := Try.checked) (s := (Rows.OpenSpec.upto Rows.resolveDrawsSpec)) (k := Rows.uptoSmall) rfl Try.own started (by kernel_rfl) Try.func3
    (OpenSpec.witness (enc := enc) (C := Try.checked) (s := (Rows.OpenSpec.upto Rows.resolveDrawsSpec)) (k := Rows.uptoSmall) rfl false ⟨#[], #[.slice none 0 0, .string ⟨#[]⟩], []⟩ 8 (by kernel_rfl) (by kernel_rfl) (by kernel_rfl)
      (x := ([.nil, .lit (.string [])], [], [])) (by kernel_rfl) rfl (by kernel_rfl)) ?_
  intro W base args ds gs before hval0 hW hk hz hsh
  have hval : ∀ (j : Nat) t v, Try.f3.params[j]? = some t → args[j]? = some v → Value.okWide Try.prog W .any base t v := hval0
  have hW' := hW
  obtain ⟨p, q, hA0, hV, rfl, hfz, hnd⟩ := hW
  have hA : DataW.TrodAll enc Try.prog W 0 (fun _ => true) true Try.f3.params.toList args.toList ds p := hA0
  have hlt : ∀ x ∈ p, x.block < W.heap.size := fun x hx => hW'.lt x (by simp [hx])
  have hback : ∀ W', Below W.heap.size W W' → DataW.TrodAll enc Try.prog W' 0 (fun b => decide (b < W.heap.size)) true Try.f3.params.toList args.toList ds p :=
    fun W' hb => belowAllB (by kernel_rfl) hb hA hlt
  rw [Try.params3] at hA hval
  obtain ⟨v0, vs0, d0, ds0, p0, q0, hargs, rfl, rfl, h0, r0⟩ := trodAll_cons hA
  obtain ⟨v1, vs1, d1, ds1, p1, q1, rfl, rfl, rfl, h1, r1⟩ := trodAll_cons r0
  obtain ⟨rfl, rfl, rfl⟩ := trodAll_nil r1
  obtain rfl : args = #[v0, v1] := by
    cases args
    simp at hargs
    simp [hargs]
  clear hargs
  obtain ⟨rfl, rfl⟩ := trodVars_none hV
  have fin : ∀ (e : Ending) (W' : World), (e = .returned (.bool true) ∧ Below W.heap.size W W') → ∃ v, e = Ending.returned v ∧ ((Rows.OpenSpec.upto Rows.resolveDrawsSpec).at F).post enc Try.checked.prog Try.f3 false true false false W #[v0, v1] v W' := by
    rintro e W' ⟨rfl, hb⟩
    exact ⟨_, rfl, _, _, _, [], _, [], hW', trodAll_mk1 (shut_bool Try.underlying4 true), hback W' hb, rfl, hb.frame _, fun h => by cases h⟩
  obtain ⟨V, hin, hg, hl⟩ := reads_inputs (hval 0 22 v0 rfl rfl) h0
  obtain ⟨ex, rfl, hex⟩ := reads_strB (hval 1 9 v1 rfl rfl) h1
  have hb : Rows.uptoBulk d0 ≤ 1048576 ∧ Rows.uptoBulk d1 ≤ 1048576 := by
    have := of_decide_eq_true hk
    simp [Rows.uptoBulkAll] at this
    omega
  exact (resolveDraws_any (V.map (·.x)) V v0 ex W hin (lawOk hb.1 hg hl) (by omega)).mono fin
theorem resolveDrawsUpto_holds : Rows.ResolveDrawsUptoSaid :=
  OpenClaim.holds_of_cond 3 Try.f3 rfl rfl rfl rfl rfl rfl rfl ⟨rfl, rfl, rfl, rfl, rfl⟩ rfl rfl rfl rfl rfl (by kernel_rfl) Try.func3 (by kernel_rfl)
    (of_decide_eq_true (by kernel_rfl)) (by unfold Func.isWrapper; rw [if_neg (of_decide_eq_false (by kernel_rfl))]; exact ⟨rfl, rfl⟩)
    (fun os started H enc _ F => resolveDrawsUpto_lifted os started H enc F)
end Go.Proofs.Ytnhbgijecdeahaa
