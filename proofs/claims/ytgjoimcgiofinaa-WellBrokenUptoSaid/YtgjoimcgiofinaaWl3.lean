/-
  Part 3 of 7: laws and walks for well_both; no condition of its own.
-/
import Derived.Test.YtgjoimcgiofinaaWl2
import Derived.Deep.RegionLaw
import Derived.Defers
import Derived.Recover
import Derived.Laws.ResultCell
import Derived.Laws.OwnMore
namespace Go.Fd
open Go.RowKit
abbrev U64 (n : Nat) : Value := .int .u64 (n : Int)
/-- A row of values in a block of its own, made in a region. -/
def Yld.lit (B : Nat) (t : TypeId) (cs : Array Value) : Yld := ⟨Nat, 0, fun g => .slice (some ⟨g, 0, none⟩) cs.size cs.size, fun g w => B ≤ g ∧ w.heap[g]? = some (.cells cs t (0, 0)),
  fun g w w' ⟨h1, h2⟩ hb => ⟨h1, by rw [hb.block g (Array.getElem?_eq_some_iff.1 h2).1]; exact h2⟩⟩
theorem walk_lit {P : Program} {Up : Exit → Prop} {L r : List Oper} {M : List (Nat × Yld)} {a : Act} {w0 : World} {E : Act → Prop} {i : Nat} {o : Oper} {B : Nat} {t : TypeId} {cs : Array Value} (hw : Region.wanted o (yielded L.toArray a.tmps) = true) (hM : madeAt M i = some (Yld.lit B t cs)) (h : ∀ w, Below w0.heap.size w0 w → Deps L M a o w → WpYld P Up o a (Yld.lit B t cs) w) (hn : ∀ g : Nat, walk P Up L M w0 E (i + 1) r (a.put o.dst (.slice (some ⟨g, 0, none⟩) cs.size cs.size))) : walk P Up L M w0 E i (o :: r) a :=
  walk_made hw hM h hn
theorem Yld.lit_got {B g : Nat} {t : TypeId} {cs : Array Value} {w : World} (h : (Yld.lit B t cs).R (.slice (some ⟨g, 0, none⟩) cs.size cs.size) w) : B ≤ g ∧ w.heap[g]? = some (.cells cs t (0, 0)) := by
  obtain ⟨x, e, hr⟩ := h
  have : g = x := by
    have e' : (Value.slice (some ⟨g, 0, none⟩) cs.size cs.size) = .slice (some ⟨x, 0, none⟩) cs.size cs.size := e
    injection e' with e'; injection e' with e'; injection e'
  subst this
  exact hr
theorem Yld.lit_mk {w0 w : World} {t : TypeId} (cs : Array Value) (h : Below w0.heap.size w0 w) : (Yld.lit w0.heap.size t cs).R (.slice (some ⟨w.heap.size, 0, none⟩) cs.size cs.size) (w.alloc (.cells cs t)) ∧ Below w.heap.size w (w.alloc (.cells cs t)) :=
  ⟨⟨w.heap.size, rfl, h.size, heap_alloc_last w _⟩, below_alloc w _⟩
theorem walk_check {P : Program} {Up : Exit → Prop} {L r : List Oper} {M : List (Nat × Yld)} {a : Act} {w0 : World} {E : Act → Prop} {i : Nat} {d : Option Tmp} {ty : TypeId} {pos : String} {aft : Array Edge} {gd : Option (Nat × Bool)} {x : Operand} {p : Addr} (hw : Region.wanted ⟨d, .nilCheck x, ty, pos, aft, gd⟩ (yielded L.toArray a.tmps) = true) (hM : madeAt M i = none) (hp : a.eval x = .pointer (some p)) (hn : walk P Up L M w0 E (i + 1) r (a.put d (.pointer (some p)))) : walk P Up L M w0 E i (⟨d, .nilCheck x, ty, pos, aft, gd⟩ :: r) a :=
  walk_val hw hM (fun w _ _ => by simp only [execOp, hp]; rfl) hn
end Go.Fd
namespace Go.Proofs.Ytgjoimcgiofinaa
open Go.RowKit Go.Fd
theorem TF : SliceT Try.prog 96 5 1 1 := SliceT.mk' (z := .int .u8 0) (by kernel_rfl) (by kernel_rfl) rfl (by omega)
/-- A file's bytes behind a pointer. -/
def FileAt (w : World) (base g : Nat) (l : List UInt8) : Prop := ∃ v, w.heap[g]? = some (.cells #[v] 96 (0, 0)) ∧ base ≤ g ∧ OB w base v l
/-- Blocks of other elements' types, but for one block, stay as they are. -/
def KeepF (g : Nat) (w w' : World) : Prop := ∀ (b : Nat) cs e fr, b ≠ g → e ≠ 5 → w.heap[b]? = some (.cells cs e fr) → w'.heap[b]? = some (.cells cs e fr)
theorem KeepF.refl (g : Nat) (w : World) : KeepF g w w := fun _ _ _ _ _ _ h => h
theorem KeepF.trans {g : Nat} {w w' w'' : World} (h : KeepF g w w') (k : KeepF g w' w'') : KeepF g w w'' := fun b cs e fr hb he hh => k b cs e fr hb he (h b cs e fr hb he hh)
theorem KeepF.of {g : Nat} {w w' : World} (h : Keeps 5 w w') : KeepF g w w' := fun b cs e fr _ he hh => h b cs e fr he hh
theorem KeepF.below {g : Nat} {w w' : World} (h : Below w.heap.size w w') : KeepF g w w' := KeepF.of (keeps_below h)
theorem FileAt.mono {w w' : World} {base g : Nat} {l : List UInt8} (h : FileAt w base g l) (hb : Below w.heap.size w w') : FileAt w' base g l := by
  obtain ⟨v, h1, h2, h3⟩ := h
  exact ⟨v, heap_below hb h1, h2, h3.mono hb⟩
theorem ob_apart {w : World} {base g : Nat} {v : Value} {l : List UInt8} {cs : Array Value} {e : TypeId} {fr : Nat × Nat} (ho : OB w base v l) (hg : w.heap[g]? = some (.cells cs e fr)) (he : e ≠ 5) : ∀ k, v.ownBlock = some k → k ≠ g := by
  intro k hk hkg
  subst hkg
  rcases ho.2 with ⟨rfl, -⟩ | ⟨g', cap, cur, rfl, -, hh, -⟩
  · cases hk
  · simp only [Value.ownBlock, Option.some.injEq] at hk
    subst hk
    rw [hg] at hh
    cases hh
    exact he rfl
theorem free_rec' {w : World} {g : Nat} {cs : Array Value} {t : TypeId} (h : w.heap[g]? = some (.cells cs t (0, 0))) (c : Nat) : w.frozen? ⟨g, c, none⟩ = false := by simp [World.frozen?, h]
/-- The store of a file's bytes. -/
theorem wpList_storeF {ops : Array Oper} {rest : List Oper} {Q : Exit → Act → World → Prop} {a : Act} {w : World} {d : Option Tmp} {ty : TypeId} {pos : String} {aft : Array Edge} {p x : Operand} {g base : Nat} {v u : Value} {l : List UInt8} (hg : w.heap[g]? = some (.cells #[u] 96 (0, 0))) (hb : base ≤ g) (ho : OB w base v l) (hp : a.eval p = .pointer (some ⟨g, 0, none⟩)) (hx : a.eval x = v) (hbw : base ≤ w.heap.size)
    (h : ∀ w1, FileAt w1 base g l → Below base w w1 → KeepF g w w1 → wpList Try.prog ops Q rest (a.put d undef) w1) :
    wpList Try.prog ops Q (⟨d, .store 96 p x, ty, pos, aft, none⟩ :: rest) a w := by
  have hc : w.cell? ⟨g, 0, none⟩ = some u := cell_rec hg 0
  have hfz := free_rec' hg 0
  have hst : Stirs (fun k => k = g) w (w.setCell ⟨g, 0, none⟩ v) := stirs_setCell (S := fun k => k = g) _ g 0 _ rfl
  obtain ⟨m, ad, cap, hm, rfl, _, _⟩ := ho.shape
  refine wpList_did (w' := w.setCell ⟨g, 0, none⟩ (.slice ad m cap)) rfl ?_ (h _ ⟨.slice ad m cap, ?_, hb, ?_⟩ ?_ ?_)
  · simp only [execOp, hp, hx]
    simp [go_sem, hc, hfz]
  · simp [World.setCell, Array.getElem?_modify, hg]
  · exact owns_stirs ho hst (ob_apart ho hg (by decide))
  · exact hst.below hbw (fun k hk => by rw [hk]; exact hb)
  · intro b cs e fr hbg he hh
    simp [World.setCell, Array.getElem?_modify, Ne.symm hbg, hh]
/-- Bytes in a block of their own. -/
theorem bs_heap {w : World} {g : Nat} {l : List UInt8} {cs : Array Value} {t : TypeId} {fr : Nat × Nat} {n : Nat} (h : w.heap[g]? = some (.cells cs t fr)) (hc : cs = (l.map B).toArray) (hn : n = l.length) : Bs w (.slice (some ⟨g, 0, none⟩) n n) l := by
  subst hc hn
  refine ⟨by simp, _, _, rfl, Nat.le_refl _, (fun h => by cases h), fun j hj => ⟨g, 0, rfl, ?_⟩⟩
  rw [Nat.zero_add, cell_rec h j]
  simp
theorem wpList_catF {ops : Array Oper} {rest : List Oper} {Q : Exit → Act → World → Prop} {a : Act} {w : World} {d : Option Tmp} {ty : TypeId} {pos : String} {aft : Array Edge} {s x : Operand} {v u : Value} {base : Nat} {l m : List UInt8} (hown : OB w base v l) (hy : Bs w u m)
    (hs : a.eval s = v) (hx : a.eval x = u) (hn : l.length + m.length ≤ 140737488355328) (hb : base ≤ w.heap.size)
    (h : ∀ v' w', OB w' base v' (l ++ m) → w.grownBy w' v.ownBlock → Below base w w' → wpList Try.prog ops Q rest (a.put d v') w') {t2 : TypeId} (ht2 : t2 = 96) :
    wpList Try.prog ops Q (⟨d, .call { callee := .builtin .append, args := #[s, x], argTypes := #[96, t2] }, ty, pos, aft, none⟩ :: rest) a w := by
  subst ht2
  refine wpList_cat TF hown hy hs hx (allB _) (by omega) hn hb fun v' w' h1 h2 h3 => h v' w' ?_ h2 h3
  unfold OB
  rw [List.length_append, List.map_append]
  exact h1
/-- append in a region that draws: bytes of a file, and a row of bytes of its own. -/
theorem step_catF {P : Program} {ops : Array Oper} {o : Oper} {a : Act} {w : World} {K : Act → World → Prop} {Q : Exit → Act → World → Prop} {E : Prop}
    (hg : o.guard = none) (s x : Operand) (t : TypeId) (e : TypeId) (T : SliceT P t e 1 1) (hop : o.op = Op.call { callee := Callee.builtin Builtin.append, args := #[s, x], argTypes := #[t, t] })
    {base : Nat} {v : Value} {l m : List UInt8} {ad : Addr} {n c : Nat} (hown : w.ownsRow base e 1 v l.length (l.map B)) (hs : a.eval s = v) (hx : a.eval x = .slice (some ad) n c) (hm : n = m.length)
    (hc : ∀ j u, (m.map B)[j]? = some u → w.cell? (ad.add j) = some u) (hn : l.length + m.length ≤ 140737488355328) (hb : base ≤ w.heap.size)
    (hK : ∀ v' w', w'.ownsRow base e 1 v' (l ++ m).length ((l ++ m).map B) → w.grownBy w' v.ownBlock → K (a.put o.dst v') w') :
    if Region.wanted o (yielded ops a.tmps) = true then Oper.wp P o a w K Q else E := by
  have hw : Region.wanted o (yielded ops a.tmps) = true := by simp [Region.wanted, hg]
  rw [if_pos hw]
  obtain ⟨i, z, h1, h2, h3, h4, h5⟩ := T.info
  subst hm
  obtain ⟨v', w', hrun, h6, h7, -⟩ := run_append_own (w := w) base t o.type e i z 1 1 T.ht h1 h2 h3 h4 h5 T.pos v l.length (l.map B) hown ad m.length c (m.map B) (by simp) hc (fun u hu => List.all_eq_true.1 (allB m) u hu) (maxLen_of (by omega)) (by omega) hb
  unfold Oper.wp
  simp [execOp, hop, resolve, invoke, builtin, hs, hx, hrun, Result.andThen]
  refine hK v' w' ?_ h7
  rw [List.length_append, List.map_append]
  exact h6
theorem fileAt_set {w : World} {g base : Nat} {v u : Value} {l : List UInt8} (hg : w.heap[g]? = some (.cells #[u] 96 (0, 0))) (hb : base ≤ g) (ho : OB w base v l) (hbw : base ≤ w.heap.size) :
    FileAt (w.setCell ⟨g, 0, none⟩ v) base g l ∧ Below base w (w.setCell ⟨g, 0, none⟩ v) ∧ KeepF g w (w.setCell ⟨g, 0, none⟩ v) := by
  have hst : Stirs (fun k => k = g) w (w.setCell ⟨g, 0, none⟩ v) := stirs_setCell (S := fun k => k = g) _ g 0 _ rfl
  refine ⟨⟨v, ?_, hb, ?_⟩, ?_, ?_⟩
  · simp [World.setCell, Array.getElem?_modify, hg]
  · exact owns_stirs ho hst (ob_apart ho hg (by decide))
  · exact hst.below hbw (fun k hk => by rw [hk]; exact hb)
  · intro b cs e fr hbg he hh
    simp [World.setCell, Array.getElem?_modify, Ne.symm hbg, hh]
theorem flatf_step {ns : List Nat} {k size n : Nat} (h : ns[k]? = some n) : (ns.take (k + 1)).flatMap (fixed · size) = (ns.take k).flatMap (fixed · size) ++ fixed n size := by
  rw [List.take_add_one, h, List.flatMap_append]
  simp
set_option maxHeartbeats 1000000 in
set_option maxRecDepth 100000 in
theorem putF_any (ns : List Nat) (size b g base : Nat) (l : List UInt8) (w : World) (hf : FileAt w base g l) (hv : w.heap[b]? = some (.cells (ns.map U64).toArray 53 (0, 0))) (hbg : b ≠ g) (hs : size ≤ 8) (hl : l.length ≤ 1000000000) (hns : ns.length ≤ 10) (hn : ∀ n ∈ ns, n < 18446744073709551616) (hbase : base ≤ w.heap.size) (cap : Nat) (_hcap : ns.length ≤ cap) :
    Calls Try.prog 70 #[.pointer (some ⟨g, 0, none⟩), .int .i64 size, .slice (some ⟨b, 0, none⟩) ns.length cap] w fun r w' => r = .returned (.tuple #[]) ∧ FileAt w' base g (l ++ ns.flatMap (fixed · size)) ∧ Below base w w' ∧ KeepF g w w' := by
  have HF := Lib.hid hf
  have HV := Lib.hid hv
  have HN := Lib.hid hn
  obtain ⟨m, hm⟩ : ∃ m, m = ns.length := ⟨_, rfl⟩
  rw [← hm] at hns _hcap ⊢
  have HM := Lib.hid hm
  have HBG := Lib.hid hbg
  clear hf hv hn hm hbg
  go_enter Try.func70, Try.ntmps70
  go_wp2
  go_loopw [11] (fun i wr => ∃ k : Nat, i = .int .i64 k ∧ k ≤ m ∧ Hid (FileAt wr base g (l ++ (ns.take k).flatMap (fixed · size))) ∧ Hid (Below base w wr) ∧ Hid (KeepF g w wr)) (fun i _ => m - (intOf i).toNat)
  case atStart => exact ⟨0, rfl, Nat.zero_le _, by simpa [Hid] using HF.out, Below.refl _ _, KeepF.refl _ _⟩
  case round =>
    obtain ⟨k, rfl, hk, HO, HB, HK⟩ := hrel
    by_cases hlt : k < m
    · have X1 := Lib.hid (show ns[k]? = some (ns[k]'(by have := HM.out; omega)) from List.getElem?_eq_getElem _)
      generalize ns[k]'(by have := HM.out; omega) = n at *
      have hc := cell_rec (HK.out _ _ _ _ HBG.out (by decide) HV.out) k
      rw [List.getElem?_toArray, List.getElem?_map, X1.out] at hc
      simp only [Option.map_some] at hc
      have HST := Lib.hid (flatf_step (size := size) X1.out)
      have HLN := Lib.hid (show (l ++ (ns.take k).flatMap (fixed · size)).length ≤ 1000000100 by
        rw [List.length_append, flat_len' (fun n => length_fixed n size), List.length_take]
        have := Nat.mul_le_mul (Nat.min_le_left k ns.length) hs
        have := Nat.mul_le_mul_right 8 hk
        omega)
      have hnn := HN.out n (List.mem_of_getElem? X1.out)
      generalize hT : l ++ (ns.take k).flatMap (fixed · size) = T at *
      have HT := Lib.hid hT
      have HBR := Lib.hid HB.out
      clear hT
      go_wp2
      go_loopw [16] (fun j wx => ∃ i : Nat, j = .int .i64 i ∧ i ≤ size ∧ Hid (FileAt wx base g (T ++ fixed n i)) ∧ Hid (Below base w wx) ∧ Hid (KeepF g w wx)) (fun j _ => size - (intOf j).toNat)
      case atStart => exact ⟨0, rfl, Nat.zero_le _, by simpa [Hid, fixed] using HO.out, HBR.out, HK.out⟩
      case round =>
        obtain ⟨i, rfl, hi, HO2, HB2, HK2⟩ := hrel
        by_cases hlt2 : i < size
        · obtain ⟨v, hg, hbg, hov⟩ := HO2.out
          have HG := Lib.hid hg
          have c0 := cell_rec hg 0
          simp only [List.getElem?_toArray, List.getElem?_cons_zero] at c0
          have hAB := fun (x : Above wr) (b k : Nat) (h : b < wr.heap.size) => Above.cell x b k h
          have hblt : g < wr.heap.size := block_lt c0
          have HSH := Lib.hid (shr_byte n i)
          go_wp2
          have hlast := HG.out
          have hw8 : IntKind.i64.wrap (8 * (i : Int)) = 8 * (i : Int) := by
            have := i64_small (n := 8 * i) (by omega)
            simpa using this
          have HOV := Lib.hid (fun o => (show OB (wr.drew.alloc o) base v (T ++ fixed n i) from hov.mono (((Below.refl _ _).drew).alloc (Nat.le_refl _) o)))
          have HLC : Hid (∀ j u, ([UInt8.ofNat (n / 256 ^ i)].map B)[j]? = some u → (wr.drew.alloc (.cells #[.int .u8 ((n : Int) / 2 ^ (8 * i) % 256)] 5)).cell? ((⟨wr.heap.size, 0, none⟩ : Addr).add j) = some u) := by
            intro j u hj
            obtain rfl : j = 0 := by
              have := (List.getElem?_eq_some_iff.1 hj).1
              simp at this
              exact this
            rw [HSH.out]
            have := heap_alloc_last wr.drew (.cells #[.int .u8 ((UInt8.ofNat (n / 256 ^ i)).toNat : Int)] 5)
            exact (cell_rec this 0).trans hj
          have HLL := Lib.hid (show (T ++ fixed n i).length + [UInt8.ofNat (n / 256 ^ i)].length ≤ 140737488355328 by rw [List.length_append, length_fixed]; have h1 := HLN.out; simp; omega)
          have HBL := Lib.hid (fun o => (show base ≤ (wr.drew.alloc o).heap.size by rw [World.size_alloc]; have := HB2.out.size; simp; omega))
          have HGA := Lib.hid (fun o => heap_below (show Below wr.heap.size wr (wr.drew.alloc o) from ((Below.refl _ _).drew).alloc (Nat.le_refl _) o) HG.out)
          have HBA := Lib.hid (fun o => (show Below wr.heap.size wr (wr.drew.alloc o) from ((Below.refl _ _).drew).alloc (Nat.le_refl _) o))
          go_region_law (refine step_catF rfl (.tmp 22) (.tmp 28) 96 5 TF rfl (m := [UInt8.ofNat (n / 256 ^ i)]) (HOV.out _) rfl rfl rfl HLC.out HLL.out (HBL.out _) ?_; intro v3 w3 hv3 hg3; obtain ⟨m3, ad3, cap3, hm3, rfl, _, _⟩ := (show OB w3 base v3 (T ++ fixed n i ++ [UInt8.ofNat (n / 256 ^ i)]) from hv3).shape; have hg33 := keeps_own (HOV.out _) hg3 _ _ _ _ (by decide) (HGA.out _); have c3 := cell_rec hg33 0; have z3 := free_rec' hg33 0; simp only [List.getElem?_toArray, List.getElem?_cons_zero] at c3; have HG33 := Lib.hid hg33; have HV3 := Lib.hid hv3; have HGR3 := Lib.hid hg3; clear hg33 hv3 hg3)
          all_goals
            have HBX := Lib.hid (HB2.out.trans ((HBA.out (.cells #[.int .u8 ((n : Int) / 2 ^ (8 * i) % 256)] 5)).mono (Nat.le_trans hbase HB2.out.size)))
            have HB3 := Lib.hid (HBX.out.trans (below_of_grown HGR3.out (Nat.le_trans hbase HBX.out.size) fun k hk => (World.ownsRow.lt (HOV.out (.cells #[] 0)) k hk).1))
            have HK3 := Lib.hid ((HK2.out.trans (KeepF.below (g := g) (HBA.out (.cells #[.int .u8 ((n : Int) / 2 ^ (8 * i) % 256)] 5)))).trans (KeepF.of (keeps_own (HOV.out _) HGR3.out)))
            obtain ⟨hf4, hb4, hk4⟩ := fileAt_set HG33.out hbg (show OB w3 base (.slice ad3 m3 cap3) (T ++ fixed n i ++ [UInt8.ofNat (n / 256 ^ i)]) from HV3.out) (Nat.le_trans hbase HB3.out.size)
            have HF4 := Lib.hid (show FileAt (w3.setCell ⟨g, 0, none⟩ (.slice ad3 m3 cap3)) base g (T ++ fixed n (i + 1)) by rw [fixed_snoc, ← List.append_assoc]; exact hf4)
            have HB4 := Lib.hid (HB3.out.trans hb4)
            have HK4 := Lib.hid (HK3.out.trans hk4)
            clear hf4 hb4 hk4 c3 z3 c0 hov hg hAB hw8
            go_wp2
            go_roundw
            case rel =>
              first
                | exact ⟨i + 1, by go_num, by omega, HF4.out, HB4.out, HK4.out⟩
                | ((repeat apply Exists.intro); exact ⟨⟨i + 1, by go_num, by omega, HF4.out, HB4.out, HK4.out⟩, rfl⟩)
            case measure => simp [intOf] <;> omega
        · obtain rfl : i = size := by omega
          have HF4 := Lib.hid (show FileAt wr base g (l ++ (ns.take (k + 1)).flatMap (fixed · i)) by rw [HST.out, ← List.append_assoc, HT.out]; exact HO2.out)
          go_wp2
          go_roundw
          case rel =>
            first
              | exact ⟨k + 1, by go_num, by omega, HF4.out, HB2.out, HK2.out⟩
              | ((repeat apply Exists.intro); exact ⟨⟨k + 1, by go_num, by omega, HF4.out, HB2.out, HK2.out⟩, rfl⟩)
          case measure => simp [intOf] <;> omega
    · have hkn : ns.take k = ns := List.take_of_length_le (by have := HM.out; omega)
      rw [hkn] at HO
      go_wp2
      go_end0
      exact ⟨rfl, HO.out, HB.out, HK.out⟩
end Go.Proofs.Ytgjoimcgiofinaa
namespace Go.Fd
open Go.RowKit
section
variable {P : Program} (w : World)
theorem zeroCells_one {z : Value} (hz : z.cells = #[z]) (n : Nat) : Builtin.zeroCells z.cells n = (List.replicate n z).toArray := by
  rw [hz]
  unfold Builtin.zeroCells
  apply Array.ext
  · simp
  · intro j h1 h2
    simp [Nat.mod_one]
theorem run_asIntOf' (k : IntKind) (m : Int) : (asIntOf (.int k m)).run P w = .ok (k, m) w := rfl
theorem run_storeCells_nil' (a : Addr) : (storeCells a []).run P w = .ok () w := rfl
theorem run_append_zeros (base : Nat) (t u ty e : TypeId) (i : TypeInfo) (z : Value) (ku k : IntKind) (ht : P.underlying t = some (.slice e)) (hu : P.underlying u = some (.int ku)) (hi : P.info? e = some i) (hz : i.zero = some z)
    (hsize : i.size = 1) (hby : i.bytes = 1) (hzc : z.cells = #[z]) (h1 : z.oneCell' = true)
    (v : Value) (n : Nat) (xs : List Value) (hown : w.ownsRow base e 1 v n xs) (m : Nat) (hle : n + m ≤ 70368744177664) (hbase : base ≤ w.heap.size) :
    ∃ v' w', (Builtin.append_ #[t, u] ty #[v, .int k (m : Int)]).run P w = .ok v' w' ∧ w'.ownsRow base e 1 v' (n + m) (xs ++ List.replicate m z) ∧ w.grownBy w' v.ownBlock := by
  have hw : IntKind.i64.wrap (m : Int) = m := by simp [IntKind.wrap, IntKind.bits, IntKind.signed]; omega
  have hneg : ¬ ((m : Int) < 0) := by omega
  have hbig : ¬ (281474976710656 < (m : Int)) := by omega
  have hzn := zeroCells_one hzc
  have hlen : (xs ++ List.replicate m z).length = n + m := by rw [List.length_append, hown.1, List.length_replicate]; omega
  have grown : ∀ (old : Nat), old < n + m → ∀ (row : Option Nat),
      (w.drew.alloc (.cells (xs.toArray ++ (List.replicate m z).toArray ++ Builtin.zeroCells z.cells (grownCap w (n + m) old e - (n + m))) e)).ownsRow base e 1
        (.slice (some ⟨w.heap.size, 0, none⟩) (n + m) (grownCap w (n + m) old e)) (n + m) (xs ++ List.replicate m z) ∧
      w.grownBy (w.drew.alloc (.cells (xs.toArray ++ (List.replicate m z).toArray ++ Builtin.zeroCells z.cells (grownCap w (n + m) old e - (n + m))) e)) row := by
    intro old ho row
    have hge := grownCap_ge w (n + m) old e
    have hcm : grownCap w (n + m) old e ≤ maxLen := grownCap_le_maxLen w (n + m) old e (maxLen_of (by omega))
    refine ⟨⟨by rw [hlen, Nat.mul_one], .inr ⟨w.heap.size, _, _, rfl, hbase, heap_alloc_new w.drew _, hge, hcm, ?_, ?_⟩⟩, ⟨rfl, rfl, rfl, by simp, fun k hk _ => Below.heap_alloc w.drew _ k (by simpa using hk)⟩⟩
    · rw [hzn]
      have h3 := hown.1
      simp only [Array.size_append, List.size_toArray, List.length_replicate]
      omega
    · simp only [Array.toList_append, List.append_assoc, Nat.mul_one]
      rw [← List.append_assoc, ← hlen]
      exact List.take_left
  rcases hown.2 with ⟨rfl, rfl⟩ | ⟨g, cap, cur, rfl, hbg, hg, hnc, hcm, hcs, htake⟩
  · have hx : xs = [] := List.eq_nil_of_length_eq_zero (by simpa using hown.1)
    subst hx
    by_cases hm : m = 0
    · subst hm
      refine ⟨.slice none 0 0, w, ?_, World.ownsRow_nil w base e 1, ⟨rfl, rfl, rfl, Nat.le_refl _, fun _ _ _ => rfl⟩⟩
      simp [Builtin.append_, run_underlying ht, run_underlying hu, sizeOf, typeInfo, hi, hby, asInt, run_asIntOf', show IntKind.i64.wrap 0 = 0 from rfl]
    · have hgr := grown 0 (by omega) (Value.ownBlock (.slice none 0 0))
      have h48 : ¬ (281474976710656 < Builtin.nextslicecap m 0) := by rw [nextslicecap_zero (by omega)]; omega
      refine ⟨.slice (some ⟨w.heap.size, 0, none⟩) m (grownCap w m 0 e), w.drew.alloc (.cells ((List.replicate m z).toArray ++ Builtin.zeroCells z.cells (grownCap w m 0 e - m)) e), ?_, ?_, ?_⟩
      · simp [Builtin.append_, run_underlying ht, run_underlying hu, sizeOf, typeInfo, zeroValue, hi, hz, hsize, hby, asInt, run_asIntOf', hw, hm, hneg, hbig, h48, Question.forced, run_firstCells_none, newRow, grownCap, hzn]
        intro h
        omega
      · simpa using hgr.1
      · simpa using hgr.2
  · by_cases hroom : n + m ≤ cap
    · have hl : (List.replicate m z).length = m := List.length_replicate
      have hfit : n * 1 + (List.replicate m z).length ≤ cur.size := by rw [hl, hcs]; omega
      have hst := run_storeCells_at P g (n * 1) e (List.replicate m z) 0 cur w hg (by simpa using hfit) (fun u hu => by rw [(List.mem_replicate.1 hu).2]; exact h1)
      simp only [Nat.add_zero, Nat.mul_one] at hst
      by_cases hm : m = 0
      · subst hm
        refine ⟨.slice (some ⟨g, 0, none⟩) n cap, w, ?_, ?_, ⟨rfl, rfl, rfl, Nat.le_refl _, fun _ _ _ => rfl⟩⟩
        · simp [Builtin.append_, run_underlying ht, run_underlying hu, sizeOf, typeInfo, zeroValue, hi, hz, hby, asInt, run_asIntOf', show IntKind.i64.wrap 0 = 0 from rfl, Addr.add_lit, run_storeCells_nil', hnc]
        · rw [List.replicate_zero, List.append_nil, Nat.add_zero]
          exact hown
      refine ⟨.slice (some ⟨g, 0, none⟩) (n + m) cap, w.setRow g (cur.toList.take n ++ List.replicate m z ++ cur.toList.drop (n + m)).toArray, ?_, ?_, ?_⟩
      · simp [Builtin.append_, run_underlying ht, run_underlying hu, sizeOf, typeInfo, zeroValue, hi, hz, hsize, hby, asInt, run_asIntOf', hw, hm, hneg, hbig, hroom, hzn, Addr.add_lit, hst]
      · refine ⟨by rw [hlen, Nat.mul_one], .inr ⟨g, cap, _, rfl, hbg, setRow_heap w g cur _ e _ hg, hroom, hcm, ?_, ?_⟩⟩
        · simp only [List.size_toArray, List.length_append, List.length_take, List.length_drop, Array.length_toList, List.length_replicate]
          omega
        · rw [Nat.mul_one] at htake
          rw [htake, ← hlen, Nat.mul_one]
          exact List.take_left
      · exact ⟨rfl, rfl, rfl, by simp, fun k _ hk => setRow_other w g k _ (fun e => hk (by simp [Value.ownBlock, e]))⟩
    · have hgr := grown cap (by omega) (Value.ownBlock (.slice (some ⟨g, 0, none⟩) n cap))
      have hm : m ≠ 0 := by omega
      have holds : ∀ j u, xs[j]? = some u → w.cell? ((⟨g, 0, none⟩ : Addr).add j) = some u := hown.cells (g := g) rfl
      have hfo := run_firstCells_some (P := P) w.drew 1 n ⟨g, 0, none⟩ n cap xs hown.1 (by simpa using holds)
      have h48 : ¬ (281474976710656 < Builtin.nextslicecap (n + m) cap) := by
        have := growslice_fits (need := n + m) (old := cap) (bytes := 1) (by omega) (by omega)
        omega
      have h63 : ¬ (9223372036854775807 < ((n : Int) + (m : Int))) := by omega
      refine ⟨_, _, ?_, hgr.1, hgr.2⟩
      simp [Builtin.append_, run_underlying ht, run_underlying hu, sizeOf, typeInfo, zeroValue, hi, hz, hsize, hby, asInt, run_asIntOf', hw, hm, hneg, hbig, h48, h63, hroom, hfo, Question.forced, newRow, grownCap, hzn]
end
end Go.Fd
namespace Go.Proofs.Ytgjoimcgiofinaa
open Go.RowKit Go.Fd
/-- append of a made slice in a region that draws. -/
theorem step_zerosF {ops : Array Oper} {o : Oper} {a : Act} {w : World} {K : Act → World → Prop} {Q : Exit → Act → World → Prop} {E : Prop}
    (hg : o.guard = none) (s x : Operand) (hop : o.op = Op.call { callee := Callee.builtin Builtin.append, args := #[s, x], argTypes := #[96, 3] })
    {base : Nat} {v : Value} {l : List UInt8} (d : Nat) {k : IntKind} {z : Int} (hown : OB w base v l) (hs : a.eval s = v) (hx : a.eval x = .int k z) (hz : z = (d : Int)) (hn : l.length + d ≤ 70368744177664) (hb : base ≤ w.heap.size)
    (hK : ∀ v' w', OB w' base v' (l ++ List.replicate d 0) → w.grownBy w' v.ownBlock → K (a.put o.dst v') w') :
    if Region.wanted o (yielded ops a.tmps) = true then Oper.wp Try.prog o a w K Q else E := by
  have hw : Region.wanted o (yielded ops a.tmps) = true := by simp [Region.wanted, hg]
  rw [if_pos hw]
  subst hz
  have hinfo := info_parts (P := Try.prog) (e := 5) (z := .int .u8 0) (size := 1) (bytes := 1) (by kernel_rfl)
  obtain ⟨i, h2, h3, h4, h5⟩ := hinfo
  obtain ⟨v', w', hrun, h6, h7⟩ := run_append_zeros (P := Try.prog) w base 96 3 o.type 5 i (.int .u8 0) .i64 k TF.ht (by kernel_rfl) h2 h3 h4 h5 rfl rfl v l.length (l.map B) hown d hn hb
  unfold Oper.wp
  simp [execOp, hop, resolve, invoke, builtin, hs, hx, hrun, Result.andThen]
  refine hK v' w' ?_ h7
  unfold OB
  rw [List.length_append, List.map_append, List.length_replicate, List.map_replicate]
  exact h6
set_option maxHeartbeats 1000000 in
set_option maxRecDepth 100000 in
theorem fillF_any (d g base : Nat) (z : Int) (l : List UInt8) (w : World) (hf : FileAt w base g l) (hz : z = ((l.length + d : Nat) : Int)) (hl : l.length + d ≤ 10000000000) (hbase : base ≤ w.heap.size) :
    Calls Try.prog 71 #[.pointer (some ⟨g, 0, none⟩), .int .i64 z] w fun r w' => r = .returned (.tuple #[]) ∧ FileAt w' base g (l ++ List.replicate d 0) ∧ Below base w w' ∧ KeepF g w w' := by
  obtain ⟨v, hg, hbg, hov⟩ := hf
  have HG := Lib.hid hg
  have HOV0 := Lib.hid hov
  obtain ⟨m, ad, cap, hm, rfl, _, _⟩ := hov.shape
  have c0 := cell_rec hg 0
  simp only [List.getElem?_toArray, List.getElem?_cons_zero] at c0
  have hw8 : IntKind.i64.wrap (z - (m : Int)) = (d : Int) := by
    have h1 := hm.out
    rw [hz, ← h1]
    simp [IntKind.wrap, IntKind.bits, IntKind.signed]
    omega
  have HOV := Lib.hid (show OB w.drew base (.slice ad m cap) l from hov.mono ((Below.refl _ _).drew))
  have HBD := Lib.hid (show Below w.heap.size w w.drew from (Below.refl _ _).drew)
  have HGA := Lib.hid (heap_below HBD.out HG.out)
  have HLL := Lib.hid (show l.length + d ≤ 70368744177664 by omega)
  have HX := Lib.hid hz
  clear hov hg hz
  go_enter Try.func71, Try.ntmps71
  go_wp2
  go_region_law (refine step_zerosF rfl (.tmp 7) (.tmp 13) rfl d HOV.out rfl rfl rfl HLL.out ?_ ?_; exact hbase; intro v3 w3 hv3 hg3; obtain ⟨m3, ad3, cap3, hm3, rfl, _, _⟩ := hv3.shape; have hg33 := keeps_own HOV.out hg3 _ _ _ _ (by decide) HGA.out; have c3 := cell_rec hg33 0; have z3 := free_rec' hg33 0; simp only [List.getElem?_toArray, List.getElem?_cons_zero] at c3; have HG33 := Lib.hid hg33; have HV3 := Lib.hid hv3; have HGR3 := Lib.hid hg3; clear hg33 hv3 hg3)
  all_goals
    have HB3 := Lib.hid ((HBD.out.mono hbase).trans (below_of_grown HGR3.out (Nat.le_trans hbase HBD.out.size) fun k hk => (World.ownsRow.lt HOV.out k hk).1))
    have HK3 := Lib.hid ((KeepF.below (g := g) HBD.out).trans (KeepF.of (keeps_own HOV.out HGR3.out)))
    obtain ⟨hf4, hb4, hk4⟩ := fileAt_set HG33.out hbg HV3.out (Nat.le_trans hbase HB3.out.size)
    have HF4 := Lib.hid hf4
    have HB4 := Lib.hid (HB3.out.trans hb4)
    have HK4 := Lib.hid (HK3.out.trans hk4)
    clear hf4 hb4 hk4 c3 z3 c0 hbg hw8
    go_wp2
    go_end0
    exact ⟨rfl, HF4.out, HB4.out, HK4.out⟩
end Go.Proofs.Ytgjoimcgiofinaa
namespace Go.Proofs.Ytgjoimcgiofinaa
open Go.RowKit Go.Fd
def putL (size : Nat) (ns : List Nat) : List UInt8 := ns.flatMap (fixed · size)
theorem putL_len (size : Nat) (ns : List Nat) : (putL size ns).length = ns.length * size := flat_len' (fun n => length_fixed n size) ns
def headB (e : ElfM) (heads : Nat) : List UInt8 :=
  [127, 69, 76, 70, 2, 1, 1] ++ List.replicate 9 0 ++ putL 2 [u64of e.typ, mach e.target] ++ putL 4 [1] ++ putL 8 [e.entry, if segsB e = true then 64 else 0, heads] ++ putL 4 [e.flags] ++ putL 2 [64, 56, e.segs.length, 64, e.secs.length + 2, e.secs.length + 1]
theorem headB_len (e : ElfM) (heads : Nat) : (headB e heads).length = 64 := by
  unfold headB
  simp only [List.length_append, putL_len, List.length_replicate]
  rfl
theorem lit64_2 (x y : Int) (w : World) : (Instr.buildSlice 112 2 #[(0, .int .u64 x), (1, .int .u64 y)]).run Try.prog w = .ok (.slice (some ⟨w.heap.size, 0, none⟩) 2 2) (w.alloc (.cells #[.int .u64 x, .int .u64 y] 53)) := by kernel_rfl
theorem lit64_4 (x y z u : Int) (w : World) : (Instr.buildSlice 112 4 #[(0, .int .u64 x), (1, .int .u64 y), (2, .int .u64 z), (3, .int .u64 u)]).run Try.prog w = .ok (.slice (some ⟨w.heap.size, 0, none⟩) 4 4) (w.alloc (.cells #[.int .u64 x, .int .u64 y, .int .u64 z, .int .u64 u] 53)) := by kernel_rfl
theorem run_l2 {x y : Operand} {m n : Int} {a : Act} {w : World} {d : Option Tmp} {ty : TypeId} {pos : String} {aft : Array Edge} {g : Option (Nat × Bool)} (hx : a.eval x = .int .u64 m) (hy : a.eval y = .int .u64 n) :
    (execOp a.eval ⟨d, .buildSlice 112 2 #[(0, x), (1, y)], ty, pos, aft, g⟩).run Try.prog w = .ok (.value (.slice (some ⟨w.heap.size, 0, none⟩) 2 2)) (w.alloc (.cells #[.int .u64 m, .int .u64 n] 53)) := by
  simp only [execOp, List.map_toArray, List.map_cons, List.map_nil, hx, hy, Sem.run_bind, lit64_2, Result.andThen_ok]
  rfl
theorem run_l4 {x y z u : Operand} {m n p q : Int} {a : Act} {w : World} {d : Option Tmp} {ty : TypeId} {pos : String} {aft : Array Edge} {g : Option (Nat × Bool)} (hx : a.eval x = .int .u64 m) (hy : a.eval y = .int .u64 n) (hz : a.eval z = .int .u64 p) (hu : a.eval u = .int .u64 q) :
    (execOp a.eval ⟨d, .buildSlice 112 4 #[(0, x), (1, y), (2, z), (3, u)], ty, pos, aft, g⟩).run Try.prog w = .ok (.value (.slice (some ⟨w.heap.size, 0, none⟩) 4 4)) (w.alloc (.cells #[.int .u64 m, .int .u64 n, .int .u64 p, .int .u64 q] 53)) := by
  simp only [execOp, List.map_toArray, List.map_cons, List.map_nil, hx, hy, hz, hu, Sem.run_bind, lit64_4, Result.andThen_ok]
  rfl
set_option maxHeartbeats 4000000 in
set_option maxRecDepth 100000 in
theorem headF_any (e : ElfM) (nl gn : Nat) (a ga : Option Addr) (ca gc heads g base : Nat) (w : World) (hf : FileAt w base g []) (hnl : nl = e.secs.length) (hgn : gn = e.segs.length) (hfit : e.fits) (ht : e.typ = 1 ∨ e.typ = 2) (hn : nl ≤ 1000) (hg : gn ≤ 1000) (hh : heads ≤ 1000000000000) (hbase : base ≤ w.heap.size) :
    Calls Try.prog 69 #[.pointer (some ⟨g, 0, none⟩), elfV e (.slice a nl ca) (.slice ga gn gc), .int .i64 heads] w fun r w' => r = .returned (.tuple #[]) ∧ FileAt w' base g (headB e heads) ∧ Below base w w' ∧ KeepF g w w' := by
  have HF := Lib.hid hf
  have HFIT := Lib.hid hfit
  have hglt : g < w.heap.size := by obtain ⟨v, h1, -⟩ := hf; exact (Array.getElem?_eq_some_iff.1 h1).1
  obtain ⟨ty, hty, hty2⟩ : ∃ ty : Nat, e.typ = (ty : Int) ∧ ty ≤ 2 := by
    rcases ht with h | h
    · exact ⟨1, h, by omega⟩
    · exact ⟨2, h, by omega⟩
  have HTY := Lib.hid (show u64of e.typ = ty by rw [hty]; unfold u64of; omega)
  have HMC := Lib.hid (fun w => machine_any e.target w)
  have hml := mach_le e.target
  have HHB : Hid (headB e heads = [127, 69, 76, 70, 2, 1, 1] ++ List.replicate 9 0 ++ putL 2 [ty, mach e.target] ++ putL 4 [1] ++ putL 8 [e.entry, if decide (0 < gn) = true then 64 else 0, heads] ++ putL 4 [e.flags] ++ putL 2 [64, 56, gn, 64, nl + 2, nl + 1]) := by
    unfold headB segsB
    rw [HTY.out, hnl, hgn]
    exact rfl
  have HEN := Lib.hid hfit.entry
  have HFL := Lib.hid hfit.flags
  have hfl := hfit.flags
  generalize mach e.target = mt at *
  generalize headB e heads = HBY at *
  have HHT := Lib.hid ht
  clear hf hfit ht hnl hgn HTY
  obtain ⟨etyp, etarget, eflags, eentry, esecs, esegs⟩ := e
  dsimp only at *
  subst hty
  clear HFIT HHT
  go_enter Try.func69, Try.ntmps69
  go_wp2_with (first
    | ((with_reducible show wpList _ _ _ (⟨_, .box _ _, _, _, _, _⟩ :: _) _ _); go_must (refine wpList_box rfl ?_; intro w1 hx1 hb1 hs1; obtain ⟨c0, c1, c2, c3, c4, c5⟩ := elf_box (e := ⟨ty, etarget, eflags, eentry, esecs, esegs⟩) hx1; obtain ⟨v, hg1, hbg, hov⟩ := HF.out; have HG1 := Lib.hid (heap_below hb1 hg1); have HOV1 := Lib.hid (hov.mono hb1); have HB1 := Lib.hid (hb1.mono hbase); obtain ⟨m0, ad0, cap0, hm0, rfl, _, _⟩ := hov.shape; have z0 := cell_rec HG1.out 0; simp only [List.getElem?_toArray, List.getElem?_cons_zero] at z0; clear hg1 hov))
    | ((with_reducible show wpList _ _ _ (⟨some 12, _, _, _, _, _⟩ :: _) _ _); go_must (refine wpList_catF (HOV1.out.mono (below_alloc _ _)) (bs_heap (l := [127, 69, 76, 70, 2, 1, 1]) (n := 7) (heap_alloc_last _ _) rfl rfl) rfl rfl (by simp) (Nat.le_trans hbase (by rw [World.size_alloc]; have := HB1.out.size; omega)) (fun v3 w3 hv3 hg3 hb3 => ?_) rfl; have HG3 := Lib.hid (keeps_own (HOV1.out.mono (below_alloc _ _)) hg3 _ _ _ _ (by decide) (heap_below (below_alloc _ _) HG1.out)); have HX3 := Lib.hid (keeps_own (HOV1.out.mono (below_alloc _ _)) hg3 _ _ _ _ (by decide) (heap_below (below_alloc _ _) hx1)); have HV3 := Lib.hid hv3; have HB3 := Lib.hid ((HB1.out.trans ((below_alloc w1 _).mono (Nat.le_trans hbase HB1.out.size))).trans hb3); have HK3 := Lib.hid (((KeepF.below (g := g) hb1).trans (KeepF.below (below_alloc w1 _))).trans (KeepF.of (keeps_own (HOV1.out.mono (below_alloc _ _)) hg3))); clear hv3 hg3 hb3))
    | ((with_reducible show wpList _ _ _ (⟨none, .store _ _ _, _, _, _, _⟩ :: _) _ _); go_must (refine wpList_storeF HG3.out hbg HV3.out rfl rfl (Nat.le_trans hbase HB3.out.size) ?_; intro w4 hf4 hb4 hk4)))
  have HF4 := Lib.hid hf4
  have HX4 := Lib.hid (hk4 _ _ _ _ (by omega) (by decide) HX3.out)
  have HB4 := Lib.hid (HB3.out.trans hb4)
  have HK4 := Lib.hid (HK3.out.trans hk4)
  clear hf4 hb4 hk4 c0 c1 c2 c3 c4 c5 hx1 z0
  refine (fillF_any 9 g base 16 _ w4 HF4.out rfl (by decide) (Nat.le_trans hbase HB4.out.size)).mono ?_
  rintro r w5 ⟨rfl, hf, hb, hk⟩
  have HF5 := Lib.hid hf
  have HX5 := Lib.hid (hk _ _ _ _ (by omega) (by decide) HX4.out)
  have HB5 := Lib.hid (HB4.out.trans hb)
  have HK5 := Lib.hid (HK4.out.trans hk)
  clear hf hb hk
  obtain ⟨c0, c1, c2, c3, c4, c5⟩ := elf_box (e := ⟨ty, etarget, eflags, eentry, esecs, esegs⟩) HX5.out
  by_cases hgs : 0 < gn
  · have hdec := decide_eq_true hgs
    go_wp2
    have hAB := fun (x : Above w5) (b k : Nat) (h : b < w5.heap.size) => Above.cell x b k h
    have hblt : w.heap.size < w5.heap.size := block_lt c0
    refine wp_region_walk 8 [(6, .is (.int .u64 (mt : Int))), (7, .lit w5.heap.size 53 #[.int .u64 (ty : Int), .int .u64 (mt : Int)])] (by kernel_rfl) (by kernel_rfl) ?_
    simp only [List.take_succ_cons, List.take_zero, List.drop_succ_cons, List.drop_zero]
    repeat (first
      | (refine walk_quiet rfl rfl rfl ?_; intro K hK; go_big_quiet_op; go_big_quiet_on)
      | (refine walk_is rfl rfl (fun wx hwx _ => WpYld.callIs (run_callL (vals := [.int .i64 etarget]) Try.func83 (by kernel_rfl) rfl rfl) (HMC.out wx)) ?_; go_frame)
      | (refine walk_lit rfl rfl (fun wx hwx _ => WpYld.val (run_l2 rfl rfl) (Yld.lit_mk _ hwx).1 (Yld.lit_mk _ hwx).2) (fun gb => ?_); go_frame))
    refine walk_nil ?_
    intro wz hbz hF
    obtain ⟨hgB, hgl⟩ := Yld.lit_got (hF 7 _ 27 _ rfl rfl rfl rfl)
    have HL6 := Lib.hid hgl
    have HF6 := Lib.hid (HF5.out.mono hbz)
    have HX6 := Lib.hid (heap_below hbz HX5.out)
    have HB6 := Lib.hid (HB5.out.trans (hbz.mono (Nat.le_trans hbase HB5.out.size)))
    have HK6 := Lib.hid (HK5.out.trans (KeepF.below (g := g) hbz))
    have hgbg : gb ≠ g := fun h => by have := HB5.out.size; omega
    clear hF hbz hgl hAB hblt c0 c1 c2 c3 c4 c5
    go_wp2_with fail
    refine (putF_any [ty, mt] 2 _ g base _ _ HF6.out HL6.out hgbg (by decide) (by simp only [List.length_append, List.length_replicate, List.length_cons, List.length_nil]; omega) (Nat.le_of_ble_eq_true rfl) (by intro n hn; have h1 := HEN.out; have h2 := HFL.out; simp only [List.mem_cons, List.not_mem_nil, or_false] at hn; omega) (Nat.le_trans hbase HB6.out.size) 2 (Nat.le_refl _)).mono ?_
    rintro r w7 ⟨rfl, hf, hb, hk⟩
    have HF7 := Lib.hid hf
    have HX7 := Lib.hid (hk _ _ _ _ (by omega) (by decide) HX6.out)
    have HB7 := Lib.hid (HB6.out.trans hb)
    have HK7 := Lib.hid (HK6.out.trans hk)
    clear hf hb hk
    obtain ⟨c0, c1, c2, c3, c4, c5⟩ := elf_box (e := ⟨ty, etarget, eflags, eentry, esecs, esegs⟩) HX7.out
    go_wp2_with fail
    clear c0 c1 c2 c3 c4 c5
    refine (putF_any [1] 4 _ g base _ _ (HF7.out.mono (below_alloc _ _)) (heap_alloc_last _ _) (fun h => by have := HB7.out.size; omega) (by decide) (by simp only [List.length_append, flat_len' (fun n => length_fixed n _), List.length_replicate, List.length_cons, List.length_nil]; omega) (Nat.le_of_ble_eq_true rfl) (by intro n hn; have h1 := HEN.out; have h2 := HFL.out; simp only [List.mem_cons, List.not_mem_nil, or_false] at hn; omega) (Nat.le_trans hbase (by rw [World.size_alloc]; have := HB7.out.size; omega)) 1 (Nat.le_refl _)).mono ?_
    rintro r w8 ⟨rfl, hf, hb, hk⟩
    have HF8 := Lib.hid hf
    have HX8 := Lib.hid (hk _ _ _ _ (by omega) (by decide) (heap_below (below_alloc _ _) HX7.out))
    have HB8 := Lib.hid ((HB7.out.trans ((below_alloc w7 _).mono (Nat.le_trans hbase HB7.out.size))).trans hb)
    have HK8 := Lib.hid ((HK7.out.trans (KeepF.below (below_alloc w7 _))).trans hk)
    clear hf hb hk
    obtain ⟨c0, c1, c2, c3, c4, c5⟩ := elf_box (e := ⟨ty, etarget, eflags, eentry, esecs, esegs⟩) HX8.out
    go_wp2_with fail
    clear c0 c1 c2 c3 c4 c5
    refine (putF_any [eentry, 64, heads] 8 _ g base _ _ (HF8.out.mono (below_alloc _ _)) (heap_alloc_last _ _) (fun h => by have := HB8.out.size; omega) (by decide) (by simp only [List.length_append, flat_len' (fun n => length_fixed n _), List.length_replicate, List.length_cons, List.length_nil]; omega) (Nat.le_of_ble_eq_true rfl) (by intro n hn; have h1 := HEN.out; have h2 := HFL.out; simp only [List.mem_cons, List.not_mem_nil, or_false] at hn; omega) (Nat.le_trans hbase (by rw [World.size_alloc]; have := HB8.out.size; omega)) 3 (Nat.le_refl _)).mono ?_
    rintro r w9 ⟨rfl, hf, hb, hk⟩
    have HF9 := Lib.hid hf
    have HX9 := Lib.hid (hk _ _ _ _ (by omega) (by decide) (heap_below (below_alloc _ _) HX8.out))
    have HB9 := Lib.hid ((HB8.out.trans ((below_alloc w8 _).mono (Nat.le_trans hbase HB8.out.size))).trans hb)
    have HK9 := Lib.hid ((HK8.out.trans (KeepF.below (below_alloc w8 _))).trans hk)
    clear hf hb hk
    obtain ⟨c0, c1, c2, c3, c4, c5⟩ := elf_box (e := ⟨ty, etarget, eflags, eentry, esecs, esegs⟩) HX9.out
    go_wp2_with fail
    clear c0 c1 c2 c3 c4 c5
    refine (putF_any [eflags] 4 _ g base _ _ (HF9.out.mono (below_alloc _ _)) (heap_alloc_last _ _) (fun h => by have := HB9.out.size; omega) (by decide) (by simp only [List.length_append, flat_len' (fun n => length_fixed n _), List.length_replicate, List.length_cons, List.length_nil]; omega) (Nat.le_of_ble_eq_true rfl) (by intro n hn; have h1 := HEN.out; have h2 := HFL.out; simp only [List.mem_cons, List.not_mem_nil, or_false] at hn; omega) (Nat.le_trans hbase (by rw [World.size_alloc]; have := HB9.out.size; omega)) 1 (Nat.le_refl _)).mono ?_
    rintro r w10 ⟨rfl, hf, hb, hk⟩
    have HF10 := Lib.hid hf
    have HX10 := Lib.hid (hk _ _ _ _ (by omega) (by decide) (heap_below (below_alloc _ _) HX9.out))
    have HB10 := Lib.hid ((HB9.out.trans ((below_alloc w9 _).mono (Nat.le_trans hbase HB9.out.size))).trans hb)
    have HK10 := Lib.hid ((HK9.out.trans (KeepF.below (below_alloc w9 _))).trans hk)
    clear hf hb hk
    obtain ⟨c0, c1, c2, c3, c4, c5⟩ := elf_box (e := ⟨ty, etarget, eflags, eentry, esecs, esegs⟩) HX10.out
    go_wp2_with fail
    clear c0 c1 c2 c3 c4 c5
    refine (putF_any [64, 56, gn, 64, nl + 2, nl + 1] 2 _ g base _ _ (HF10.out.mono (below_alloc _ _)) (heap_alloc_last _ _) (fun h => by have := HB10.out.size; omega) (by decide) (by simp only [List.length_append, flat_len' (fun n => length_fixed n _), List.length_replicate, List.length_cons, List.length_nil]; omega) (Nat.le_of_ble_eq_true rfl) (by intro n hn; have h1 := HEN.out; have h2 := HFL.out; simp only [List.mem_cons, List.not_mem_nil, or_false] at hn; omega) (Nat.le_trans hbase (by rw [World.size_alloc]; have := HB10.out.size; omega)) 6 (Nat.le_refl _)).mono ?_
    rintro r w11 ⟨rfl, hf, hb, hk⟩
    have HF11 := Lib.hid hf
    have HX11 := Lib.hid (hk _ _ _ _ (by omega) (by decide) (heap_below (below_alloc _ _) HX10.out))
    have HB11 := Lib.hid ((HB10.out.trans ((below_alloc w10 _).mono (Nat.le_trans hbase HB10.out.size))).trans hb)
    have HK11 := Lib.hid ((HK10.out.trans (KeepF.below (below_alloc w10 _))).trans hk)
    clear hf hb hk
    go_wp2
    go_end0
    refine ⟨rfl, ?_, HB11.out, HK11.out⟩
    rw [HHB.out]
    rw [hdec]
    exact HF11.out
  · have hdec := decide_eq_false hgs
    go_wp2
    have hAB := fun (x : Above w5) (b k : Nat) (h : b < w5.heap.size) => Above.cell x b k h
    have hblt : w.heap.size < w5.heap.size := block_lt c0
    refine wp_region_walk 8 [(6, .is (.int .u64 (mt : Int))), (7, .lit w5.heap.size 53 #[.int .u64 (ty : Int), .int .u64 (mt : Int)])] (by kernel_rfl) (by kernel_rfl) ?_
    simp only [List.take_succ_cons, List.take_zero, List.drop_succ_cons, List.drop_zero]
    repeat (first
      | (refine walk_quiet rfl rfl rfl ?_; intro K hK; go_big_quiet_op; go_big_quiet_on)
      | (refine walk_is rfl rfl (fun wx hwx _ => WpYld.callIs (run_callL (vals := [.int .i64 etarget]) Try.func83 (by kernel_rfl) rfl rfl) (HMC.out wx)) ?_; go_frame)
      | (refine walk_lit rfl rfl (fun wx hwx _ => WpYld.val (run_l2 rfl rfl) (Yld.lit_mk _ hwx).1 (Yld.lit_mk _ hwx).2) (fun gb => ?_); go_frame))
    refine walk_nil ?_
    intro wz hbz hF
    obtain ⟨hgB, hgl⟩ := Yld.lit_got (hF 7 _ 27 _ rfl rfl rfl rfl)
    have HL6 := Lib.hid hgl
    have HF6 := Lib.hid (HF5.out.mono hbz)
    have HX6 := Lib.hid (heap_below hbz HX5.out)
    have HB6 := Lib.hid (HB5.out.trans (hbz.mono (Nat.le_trans hbase HB5.out.size)))
    have HK6 := Lib.hid (HK5.out.trans (KeepF.below (g := g) hbz))
    have hgbg : gb ≠ g := fun h => by have := HB5.out.size; omega
    clear hF hbz hgl hAB hblt c0 c1 c2 c3 c4 c5
    go_wp2_with fail
    refine (putF_any [ty, mt] 2 _ g base _ _ HF6.out HL6.out hgbg (by decide) (by simp only [List.length_append, List.length_replicate, List.length_cons, List.length_nil]; omega) (Nat.le_of_ble_eq_true rfl) (by intro n hn; have h1 := HEN.out; have h2 := HFL.out; simp only [List.mem_cons, List.not_mem_nil, or_false] at hn; omega) (Nat.le_trans hbase HB6.out.size) 2 (Nat.le_refl _)).mono ?_
    rintro r w7 ⟨rfl, hf, hb, hk⟩
    have HF7 := Lib.hid hf
    have HX7 := Lib.hid (hk _ _ _ _ (by omega) (by decide) HX6.out)
    have HB7 := Lib.hid (HB6.out.trans hb)
    have HK7 := Lib.hid (HK6.out.trans hk)
    clear hf hb hk
    obtain ⟨c0, c1, c2, c3, c4, c5⟩ := elf_box (e := ⟨ty, etarget, eflags, eentry, esecs, esegs⟩) HX7.out
    go_wp2_with fail
    clear c0 c1 c2 c3 c4 c5
    refine (putF_any [1] 4 _ g base _ _ (HF7.out.mono (below_alloc _ _)) (heap_alloc_last _ _) (fun h => by have := HB7.out.size; omega) (by decide) (by simp only [List.length_append, flat_len' (fun n => length_fixed n _), List.length_replicate, List.length_cons, List.length_nil]; omega) (Nat.le_of_ble_eq_true rfl) (by intro n hn; have h1 := HEN.out; have h2 := HFL.out; simp only [List.mem_cons, List.not_mem_nil, or_false] at hn; omega) (Nat.le_trans hbase (by rw [World.size_alloc]; have := HB7.out.size; omega)) 1 (Nat.le_refl _)).mono ?_
    rintro r w8 ⟨rfl, hf, hb, hk⟩
    have HF8 := Lib.hid hf
    have HX8 := Lib.hid (hk _ _ _ _ (by omega) (by decide) (heap_below (below_alloc _ _) HX7.out))
    have HB8 := Lib.hid ((HB7.out.trans ((below_alloc w7 _).mono (Nat.le_trans hbase HB7.out.size))).trans hb)
    have HK8 := Lib.hid ((HK7.out.trans (KeepF.below (below_alloc w7 _))).trans hk)
    clear hf hb hk
    obtain ⟨c0, c1, c2, c3, c4, c5⟩ := elf_box (e := ⟨ty, etarget, eflags, eentry, esecs, esegs⟩) HX8.out
    go_wp2_with fail
    clear c0 c1 c2 c3 c4 c5
    refine (putF_any [eentry, 0, heads] 8 _ g base _ _ (HF8.out.mono (below_alloc _ _)) (heap_alloc_last _ _) (fun h => by have := HB8.out.size; omega) (by decide) (by simp only [List.length_append, flat_len' (fun n => length_fixed n _), List.length_replicate, List.length_cons, List.length_nil]; omega) (Nat.le_of_ble_eq_true rfl) (by intro n hn; have h1 := HEN.out; have h2 := HFL.out; simp only [List.mem_cons, List.not_mem_nil, or_false] at hn; omega) (Nat.le_trans hbase (by rw [World.size_alloc]; have := HB8.out.size; omega)) 3 (Nat.le_refl _)).mono ?_
    rintro r w9 ⟨rfl, hf, hb, hk⟩
    have HF9 := Lib.hid hf
    have HX9 := Lib.hid (hk _ _ _ _ (by omega) (by decide) (heap_below (below_alloc _ _) HX8.out))
    have HB9 := Lib.hid ((HB8.out.trans ((below_alloc w8 _).mono (Nat.le_trans hbase HB8.out.size))).trans hb)
    have HK9 := Lib.hid ((HK8.out.trans (KeepF.below (below_alloc w8 _))).trans hk)
    clear hf hb hk
    obtain ⟨c0, c1, c2, c3, c4, c5⟩ := elf_box (e := ⟨ty, etarget, eflags, eentry, esecs, esegs⟩) HX9.out
    go_wp2_with fail
    clear c0 c1 c2 c3 c4 c5
    refine (putF_any [eflags] 4 _ g base _ _ (HF9.out.mono (below_alloc _ _)) (heap_alloc_last _ _) (fun h => by have := HB9.out.size; omega) (by decide) (by simp only [List.length_append, flat_len' (fun n => length_fixed n _), List.length_replicate, List.length_cons, List.length_nil]; omega) (Nat.le_of_ble_eq_true rfl) (by intro n hn; have h1 := HEN.out; have h2 := HFL.out; simp only [List.mem_cons, List.not_mem_nil, or_false] at hn; omega) (Nat.le_trans hbase (by rw [World.size_alloc]; have := HB9.out.size; omega)) 1 (Nat.le_refl _)).mono ?_
    rintro r w10 ⟨rfl, hf, hb, hk⟩
    have HF10 := Lib.hid hf
    have HX10 := Lib.hid (hk _ _ _ _ (by omega) (by decide) (heap_below (below_alloc _ _) HX9.out))
    have HB10 := Lib.hid ((HB9.out.trans ((below_alloc w9 _).mono (Nat.le_trans hbase HB9.out.size))).trans hb)
    have HK10 := Lib.hid ((HK9.out.trans (KeepF.below (below_alloc w9 _))).trans hk)
    clear hf hb hk
    obtain ⟨c0, c1, c2, c3, c4, c5⟩ := elf_box (e := ⟨ty, etarget, eflags, eentry, esecs, esegs⟩) HX10.out
    go_wp2_with fail
    clear c0 c1 c2 c3 c4 c5
    refine (putF_any [64, 56, gn, 64, nl + 2, nl + 1] 2 _ g base _ _ (HF10.out.mono (below_alloc _ _)) (heap_alloc_last _ _) (fun h => by have := HB10.out.size; omega) (by decide) (by simp only [List.length_append, flat_len' (fun n => length_fixed n _), List.length_replicate, List.length_cons, List.length_nil]; omega) (Nat.le_of_ble_eq_true rfl) (by intro n hn; have h1 := HEN.out; have h2 := HFL.out; simp only [List.mem_cons, List.not_mem_nil, or_false] at hn; omega) (Nat.le_trans hbase (by rw [World.size_alloc]; have := HB10.out.size; omega)) 6 (Nat.le_refl _)).mono ?_
    rintro r w11 ⟨rfl, hf, hb, hk⟩
    have HF11 := Lib.hid hf
    have HX11 := Lib.hid (hk _ _ _ _ (by omega) (by decide) (heap_below (below_alloc _ _) HX10.out))
    have HB11 := Lib.hid ((HB10.out.trans ((below_alloc w10 _).mono (Nat.le_trans hbase HB10.out.size))).trans hb)
    have HK11 := Lib.hid ((HK10.out.trans (KeepF.below (below_alloc w10 _))).trans hk)
    clear hf hb hk
    go_wp2
    go_end0
    refine ⟨rfl, ?_, HB11.out, HK11.out⟩
    rw [HHB.out]
    rw [hdec]
    exact HF11.out
end Go.Proofs.Ytgjoimcgiofinaa
namespace Go.Proofs.Ytgjoimcgiofinaa
open Go.RowKit Go.Fd
/-- Is a stretch in the bytes? -/
def inB (l : List UInt8) (at_ size : Nat) : Bool := decide (at_ ≤ l.length) && decide (size ≤ l.length - at_)
end Go.Proofs.Ytgjoimcgiofinaa
namespace Go.Proofs.Ytgjoimcgiofinaa
open Go.RowKit Go.Fd
/-- A number at a place, and whether it is there. -/
def gN (l : List UInt8) (a s : Nat) : Nat := (getR l a s false).1
def okB (l : List UInt8) (a s : Nat) : Bool := decide ((getR l a s false).2 = 0)
theorem gN_lt (l : List UInt8) (a s : Nat) : gN l a s < 256 ^ s := by
  unfold gN getR
  split
  · split
    · exact Nat.pow_pos (by omega)
    · split
      · exact Nat.pow_pos (by omega)
      · have h := numLE_lt ((l.drop (a : Int).toNat).take (s : Int).toNat)
        refine Nat.lt_of_lt_of_le h (Nat.pow_le_pow_right (by omega) ?_)
        rw [List.length_take]
        omega
  · exact Nat.pow_pos (by omega)
theorem gN2 (l : List UInt8) (a : Nat) : gN l a 2 < 65536 := gN_lt l a 2
theorem gN4 (l : List UInt8) (a : Nat) : gN l a 4 < 4294967296 := gN_lt l a 4
theorem gN8 (l : List UInt8) (a : Nat) : gN l a 8 < 18446744073709551616 := gN_lt l a 8
theorem okB_iff {l : List UInt8} {a s : Nat} (hs : Sized s) : okB l a s = decide (a + s ≤ l.length) := by
  unfold okB getR
  rw [if_pos hs]
  by_cases h : a + s ≤ l.length
  · rw [if_neg (by omega), if_neg (by omega), decide_eq_true h]; rfl
  · rw [decide_eq_false h]
    split
    · rfl
    · rw [if_pos (by omega)]; rfl
theorem gN_in {l : List UInt8} {a s : Nat} (hs : Sized s) (h : a + s ≤ l.length) : gN l a s = numLE ((l.drop a).take s) := by
  unfold gN getR
  rw [if_pos hs, if_neg (by omega), if_neg (by omega)]
  simp
/-- A segment's header, as it is read; whether it is there. -/
def segP (l : List UInt8) (a : Nat) : SegM := ⟨gN l a 4, gN l (a + 4) 4, gN l (a + 8) 8, gN l (a + 16) 8, gN l (a + 32) 8, gN l (a + 40) 8, gN l (a + 48) 8⟩
def segOk (l : List UInt8) (a : Nat) : Bool := okB l a 4 && okB l (a + 4) 4 && okB l (a + 8) 8 && okB l (a + 16) 8 && okB l (a + 32) 8 && okB l (a + 40) 8 && okB l (a + 48) 8
theorem sz2 : Sized 2 := by unfold Sized; omega
theorem sz4 : Sized 4 := by unfold Sized; omega
theorem sz8 : Sized 8 := by unfold Sized; omega
end Go.Proofs.Ytgjoimcgiofinaa
namespace Go.Fd
open Go.RowKit
section
variable {P : Program} {Up : Exit → Prop} {L r : List Oper} {M : List (Nat × Yld)} {a : Act} {w0 : World} {E : Act → Prop} {i : Nat} {o : Oper}
end
end Go.Fd
namespace Go.Proofs.Ytgjoimcgiofinaa
open Go.RowKit Go.Fd
end Go.Proofs.Ytgjoimcgiofinaa
namespace Go.Fd
open Go.RowKit
structure FlM where
  code : Int
  a : Int
  b : Int
deriving DecidableEq
abbrev encFl (f : FlM) : List Value := [.int .i64 f.code, .int .i64 f.a, .int .i64 f.b]
structure WSec where
  name : Nat
  typ : Nat
  addr : Nat
  align : Nat
  pl : Nat
  size : Nat
structure WSeg where
  typ : Nat
  flags : Nat
  off : Nat
  align : Nat
  pl : Nat
  psize : Nat
  mem : Nat
  msize : Nat
abbrev U6 (n : Nat) : Value := .int .u64 (n : Int)
abbrev encWS (s : WSec) : List Value := [U6 s.name, U6 s.typ, U6 s.addr, U6 s.align, U6 s.pl, U6 s.size]
abbrev encWG (s : WSeg) : List Value := [U6 s.typ, U6 s.flags, U6 s.off, U6 s.align, U6 s.pl, U6 s.psize, U6 s.mem, U6 s.msize]
/-- Have two stretches some in common? -/
def commonB (a s b t : Nat) : Bool := if b < a then decide (0 < s) && decide (a - b < t) else decide (0 < t) && decide (b - a < s)
/-- Is a stretch within the first n? -/
def withinB (a s n : Nat) : Bool := decide (s = 0) || (decide (a ≤ n) && decide (s ≤ n - a))
def fullB (s : WSec) : Bool := !decide (s.typ = 0) && !decide (s.typ = 8)
def pow2B (n : Nat) : Bool := !decide (n = 0) && decide (n &&& (n - 1) = 0)
def namedB (s : WSec) (tab : List UInt8) : Bool := decide (s.name < tab.length) && decide ((0 : UInt8) ∈ tab.drop s.name)
end Go.Fd
namespace Go.Proofs.Ytgjoimcgiofinaa
open Go.RowKit Go.Fd
def secW (l : List UInt8) (a : Nat) : WSec := ⟨gN l a 4, gN l (a + 4) 4, gN l (a + 16) 8, gN l (a + 48) 8, gN l (a + 24) 8, gN l (a + 32) 8⟩
def segW (l : List UInt8) (a : Nat) : WSeg := ⟨gN l a 4, gN l (a + 4) 4, gN l (a + 8) 8, gN l (a + 48) 8, gN l (a + 8) 8, gN l (a + 32) 8, gN l (a + 16) 8, gN l (a + 40) 8⟩
def secsW (l : List UInt8) (n : Nat) : List WSec := (List.range n).map fun i => secW l (gN l 40 8 + 64 * i)
def segsW (l : List UInt8) (n : Nat) : List WSeg := (List.range n).map fun i => segW l (gN l 32 8 + 56 * i)
theorem secsW_get {l : List UInt8} {n i : Nat} (h : i < n) : (secsW l n)[i]? = some (secW l (gN l 40 8 + 64 * i)) := by
  unfold secsW
  rw [List.getElem?_map, List.getElem?_range h]; rfl
theorem secsW_len (l : List UInt8) (n : Nat) : (secsW l n).length = n := by unfold secsW; simp
theorem segsW_len (l : List UInt8) (n : Nat) : (segsW l n).length = n := by unfold segsW; simp
theorem secsW_succ (l : List UInt8) (n : Nat) : secsW l (n + 1) = secsW l n ++ [secW l (gN l 40 8 + 64 * n)] := by
  unfold secsW; rw [List.range_succ, List.map_append]; rfl
theorem segsW_succ (l : List UInt8) (n : Nat) : segsW l (n + 1) = segsW l n ++ [segW l (gN l 32 8 + 56 * n)] := by
  unfold segsW; rw [List.range_succ, List.map_append]; rfl
/-- Does it begin as a file does? -/
def bad1 (l : List UInt8) : Bool := decide (l.length < 64) || !decide (l.take 7 = [127, 69, 76, 70, 2, 1, 1])
def bad2 (l : List UInt8) : Bool := (!decide (gN l 16 2 = 1) && !decide (gN l 16 2 = 2)) || !decide (gN l 20 4 = 1) || !decide (gN l 52 2 = 64) || (decide (0 < gN l 56 2) && !decide (gN l 54 2 = 56)) || !decide (gN l 58 2 = 64)
def bad3 (l : List UInt8) : Bool := !withinB (gN l 32 8) (gN l 56 2 * 56) l.length || !withinB (gN l 40 8) (gN l 60 2 * 64) l.length || decide (gN l 60 2 ≤ gN l 62 2)
def fl (b : Bool) (c a d : Int) : List FlM := if b = true then [⟨c, a, d⟩] else []
theorem fl_no {b : Bool} {c a d : Int} (h : b = false) : fl b c a d = [] := by rw [h]; rfl
theorem fl_yes {b : Bool} {c a d : Int} (h : b = true) : fl b c a d = [⟨c, a, d⟩] := by rw [h]; rfl
def headF (l : List UInt8) : List FlM := if bad1 l = true then [⟨1, 0, 0⟩] else fl (bad2 l) 2 0 0 ++ fl (bad3 l) 3 0 0
/-- The table of names. -/
def tabW (l : List UInt8) (t : WSec) : List UInt8 := if fullB t = true ∧ 0 < t.size then (l.drop t.pl).take t.size else []
/-- What a section's flaw tells. -/
def SecFl (l : List UInt8) (S : List WSec) (own : Nat) (f : FlM) : Prop :=
  (∃ (i : Nat) (s : WSec), S[i]? = some s ∧ f = ⟨4, i, 0⟩ ∧ fullB s = true ∧ withinB s.pl s.size l.length = false) ∨
  (∃ (i : Nat) (s : WSec), S[i]? = some s ∧ f = ⟨5, i, 0⟩ ∧ s.align ≠ 0 ∧ (pow2B s.align = false ∨ s.addr % s.align ≠ 0)) ∨
  (∃ (i : Nat) (s t : WSec), S[i]? = some s ∧ S[own]? = some t ∧ f = ⟨6, i, 0⟩ ∧ namedB s (tabW l t) = false) ∨
  (∃ (i k : Nat) (s t : WSec), i < k ∧ S[i]? = some s ∧ S[k]? = some t ∧ f = ⟨7, i, k⟩ ∧ fullB s = true ∧ fullB t = true ∧ commonB s.pl s.size t.pl t.size = true)
/-- What a flaw of a file with a sound header tells. -/
def FlOk (l : List UInt8) (f : FlM) : Prop := SecFl l (secsW l (gN l 60 2)) (gN l 62 2) f ∨ (8 ≤ f.code ∧ (gN l 56 2 ≠ 0 ∨ gN l 16 2 = 2))
/-- What the flaws of a file are. -/
def Checked (l : List UInt8) (F : List FlM) : Prop := (headF l ≠ [] → F = headF l) ∧ (headF l = [] → ∀ f ∈ F, FlOk l f)
end Go.Proofs.Ytgjoimcgiofinaa
namespace Go.Fd
def lightB (e : ElfM) : Bool := decide (dsum e.secs ≤ 32768) && decide (e.secs.length ≤ 300) && decide (e.segs.length ≤ 30)
end Go.Fd
namespace Go.Proofs.Ytgjoimcgiofinaa
open Go.RowKit Go.Fd
set_option maxHeartbeats 1000000 in
set_option maxRecDepth 100000 in
theorem light_any (e : ElfM) (L : List (SecM × Value)) (sv gv : Value) (w : World) (h : ElfAt w e L sv gv) (ho : ElfOk e) :
    Calls Try.prog 38 #[elfV e sv gv] w fun r w' => r = .returned (.bool (lightB e)) ∧ Below w.heap.size w w' := by
  obtain ⟨a, ca, rfl, hca, -, hc⟩ := h.rd.open (fun _ => rfl)
  obtain ⟨gn, ga, gc, hgn, rfl, hgc, _⟩ := h.segs.shape
  have HC := Lib.hid hc
  have HD := Lib.hid h.data
  have HSE := Lib.hid (fun k x (hk : L[k]? = some x) => sec_of h.secs hk)
  have HEL := Lib.hid (show e.secs.length = L.length by rw [h.secs, List.length_map])
  obtain ⟨nl, hnl⟩ : ∃ n, n = L.length := ⟨_, rfl⟩
  rw [← hnl] at hca ⊢
  have HL := Lib.hid hnl
  have hnl9 : nl ≤ 1000000000 := by have := ho.secs; have := HEL.out; omega
  have HDS := Lib.hid ho.data
  have HDT := Lib.hid (dsum_take e.secs)
  have HLB : Hid (lightB e = (decide (dsum e.secs ≤ 32768) && decide (nl ≤ 300) && decide (gn ≤ 30))) := by
    unfold lightB
    rw [HEL.out, ← HL.out, ← hgn.out]
    exact rfl
  generalize lightB e = lb at *
  clear hc h hnl ho
  go_enter Try.func38, Try.ntmps38
  go_wp2_with ((with_reducible show wpList _ _ _ (⟨_, .box _ _, _, _, _, _⟩ :: _) _ _); go_must (refine wpList_box rfl ?_; intro w1 hx1 hb1 hs1; obtain ⟨c0, c1, c2, c3, c4, c5⟩ := elf_box hx1))
  clear c0 c1 c2 c3
  go_loop [3, 4] (fun n i => ∃ k q : Nat, i = .int .i64 k ∧ k ≤ nl ∧ n = .int .i64 q ∧ q ≤ 2147483648 ∧ Hid (q = dsum (e.secs.take k))) (fun _ i => nl - (intOf i).toNat)
  case atStart => exact ⟨0, 0, rfl, Nat.zero_le _, rfl, by omega, rfl⟩
  case round =>
    obtain ⟨k, q, rfl, hk, rfl, hq, HQ⟩ := hrel
    by_cases hlt : k < nl
    · have X1 := Lib.hid (show L[k]? = some (L[k]'(by have := HL.out; omega)) from List.getElem?_eq_getElem _)
      generalize L[k]'(by have := HL.out; omega) = x at *
      obtain ⟨s, dv⟩ := x
      obtain ⟨dm, da, dc, hdm, rfl, _, _⟩ := (HD.out _ (List.mem_of_getElem? X1.out)).shape
      have X2 := Lib.hid (HSE.out _ _ X1.out)
      have HST := Lib.hid (dsum_step X2.out)
      have hq2 : q + dm ≤ 2147483648 := by
        have h1 := HDT.out (k + 1)
        have h2 := HDS.out
        have h3 := HST.out
        have h4 := HQ.out
        have h5 := hdm.out
        dsimp only at h3 h5
        omega
      have HQ2 := Lib.hid (show q + dm = dsum (e.secs.take (k + 1)) by rw [HST.out, HQ.out, hdm.out])
      obtain ⟨b1, o1, ha, z0, z1, z2, z3, z4, z5, z6, z7, z8, z9, -⟩ := sec_cells HC.out hb1 X1.out
      subst ha
      clear z0 z1 z2 z3 z4 z5 z6 z7 z8
      go_wp2
      go_round
      case rel => exact ⟨k + 1, q + dm, by go_num, by omega, by go_num, by omega, HQ2.out⟩
      case measure => simp [intOf] <;> omega
    · have HQ3 := Lib.hid (show q = dsum e.secs by
        rw [HQ.out, List.take_of_length_le (by have := HL.out; have := HEL.out; omega)])
      have HF : Hid (lb = (decide (q ≤ 32768) && decide (nl ≤ 300) && decide (gn ≤ 30))) := by rw [HLB.out, HQ3.out]; exact rfl
      by_cases hx1' : q ≤ 32768
      · by_cases hx2' : nl ≤ 300
        · have HR := Lib.hid (show lb = decide ((gn : Int) ≤ 30) by rw [HF.out, decide_eq_true hx1', decide_eq_true hx2', Bool.eq_iff_iff]; simp; omega)
          go_wp2
          go_ret
          exact ⟨by rw [HR.out]; rfl, hb1⟩
        · have HR := Lib.hid (show lb = false by rw [HF.out, decide_eq_false hx2']; simp)
          go_wp2
          go_ret
          exact ⟨by rw [HR.out]; rfl, hb1⟩
      · have HR := Lib.hid (show lb = false by rw [HF.out, decide_eq_false hx1']; simp)
        go_wp2
        go_ret
        exact ⟨by rw [HR.out]; rfl, hb1⟩
end Go.Proofs.Ytgjoimcgiofinaa
namespace Go.Fd
theorem plF_pre {g : Bool} {n : Nat} {l : List SecM} {k : Nat} : ∀ j, k ≤ j → j ≤ l.length → (plF g n (l.take j)).1.take k = (plF g n (l.take k)).1 := by
  intro j
  induction j with
  | zero => intro h1 _; obtain rfl : k = 0 := by omega
            rfl
  | succ j ih =>
    intro h1 h2
    rcases Nat.lt_or_ge j k with h3 | h3
    · obtain rfl : k = j + 1 := by omega
      rw [List.take_of_length_le]
      rw [plF_len, List.length_take]
      omega
    · have hx : l[j]? = some l[j] := List.getElem?_eq_getElem (by omega)
      rw [plF_step hx]
      show ((plF g n (l.take j)).1 ++ [_]).take k = _
      rw [List.take_append_of_le_length (by rw [plF_len, List.length_take]; omega), ih h3 (by omega)]
theorem plF_get {g : Bool} {n : Nat} {l : List SecM} {k : Nat} {x : SecM} (h : l[k]? = some x) : (plF g n l).1[k]? = some (placeS g (plF g n (l.take k)).2 x) := by
  have hk := (List.getElem?_eq_some_iff.1 h).1
  have h1 := plF_pre (g := g) (n := n) (l := l) (k := k + 1) l.length (by omega) (Nat.le_refl _)
  rw [List.take_length, plF_step h] at h1
  have h2 : ((plF g n l).1.take (k + 1))[k]? = (plF g n l).1[k]? := by rw [List.getElem?_take, if_pos (by omega)]
  rw [← h2, h1]
  show ((plF g n (l.take k)).1 ++ [_])[k]? = _
  have h3 : (plF g n (l.take k)).1.length = k := by rw [plF_len, List.length_take]; omega
  rw [List.getElem?_append_right (by omega), h3, Nat.sub_self]
  rfl
/-- Sections' bytes behind others, each at its place. -/
def bodyF (acc : List UInt8) (l : List (SecM × Nat)) : List UInt8 := l.foldl (fun acc p => acc ++ List.replicate (p.2 - acc.length) 0 ++ p.1.data) acc
theorem bodyF_step {acc : List UInt8} {l : List (SecM × Nat)} {k : Nat} {x : SecM × Nat} (h : l[k]? = some x) : bodyF acc (l.take (k + 1)) = bodyF acc (l.take k) ++ List.replicate (x.2 - (bodyF acc (l.take k)).length) 0 ++ x.1.data := by
  rw [List.take_add_one, h]
  unfold bodyF
  rw [List.foldl_append]
  rfl
theorem zipP {g : Bool} {n : Nat} {l : List SecM} {k : Nat} {x : SecM} (h : l[k]? = some x) : (l.zip (plF g n l).1)[k]? = some (x, placeS g (plF g n (l.take k)).2 x) := by
  rw [List.getElem?_zip_eq_some]
  exact ⟨h, plF_get h⟩
theorem body_len {g : Bool} {n : Nat} {l : List SecM} {acc : List UInt8} (ha : acc.length = n) (hp : ∀ s ∈ l, powB s.align = true) : ∀ k, k ≤ l.length → (bodyF acc ((l.zip (plF g n l).1).take k)).length = (plF g n (l.take k)).2 := by
  intro k
  induction k with
  | zero => intro _; exact ha
  | succ k ih =>
    intro hk
    have hx : l[k]? = some l[k] := List.getElem?_eq_getElem (by omega)
    have h1 := ih (by omega)
    have h2 := placeS_le (g := g) (p := (plF g n (l.take k)).2) (hp _ (List.mem_of_getElem? hx))
    rw [bodyF_step (zipP hx), plF_step hx, List.length_append, List.length_append, List.length_replicate, h1]
    show _ + _ + _ = placeS _ _ _ + _
    dsimp only
    omega
end Go.Fd
namespace Go.Proofs.Ytgjoimcgiofinaa
open Go.RowKit Go.Fd
def segBy (s : SegM) : List UInt8 := putL 4 [s.typ, s.flags] ++ putL 8 [s.off, s.vaddr, s.vaddr, s.filesz, s.memsz, s.align]
def hdrBy (name : Nat) (s : SecM) (p : Nat) : List UInt8 := putL 4 [name, s.typ] ++ putL 8 [s.flags, s.addr, p, s.size] ++ putL 4 [s.link, s.info] ++ putL 8 [s.align, s.ent]
theorem segBy_len (s : SegM) : (segBy s).length = 56 := by unfold segBy; simp only [List.length_append, putL_len]; rfl
theorem hdrBy_len (name : Nat) (s : SecM) (p : Nat) : (hdrBy name s p).length = 64 := by unfold hdrBy; simp only [List.length_append, putL_len]; rfl
/-- The names' places in the table. -/
def atsOf (e : ElfM) : List Nat := (buildR (namesOf e.secs)).2.1
/-- The header's and the segments' bytes. -/
def frontB (e : ElfM) : List UInt8 := headB e (headsOf e (tabOf e).length) ++ e.segs.flatMap segBy
theorem frontB_len (e : ElfM) : (frontB e).length = front e := by
  unfold frontB front
  rw [List.length_append, headB_len, flat_len' segBy_len]
  omega
def bodyB (e : ElfM) : List UInt8 := bodyF (frontB e) (e.secs.zip (placesOf e).1)
theorem bodyB_len {e : ElfM} (hp : ∀ s ∈ e.secs, powB s.align = true) : (bodyB e).length = (placesOf e).2 := by
  have := body_len (g := segsB e) (frontB_len e) hp e.secs.length (Nat.le_refl _)
  rw [List.take_of_length_le (by rw [List.length_zip, plF_len]; omega), List.take_length] at this
  exact this
/-- All ahead of the sections' headers. -/
def midB (e : ElfM) : List UInt8 := bodyB e ++ tabOf e ++ List.replicate (headsOf e (tabOf e).length + 64 - ((placesOf e).2 + (tabOf e).length)) 0
def hdrsB (e : ElfM) : List UInt8 := (e.secs.zip ((atsOf e).zip (placesOf e).1)).flatMap fun p => hdrBy p.2.1 p.1 p.2.2
def tabSec (n : Nat) : SecM := ⟨[], 3, 0, 0, 1, n, 0, 0, 0, []⟩
/-- A file's bytes. -/
def fileB (e : ElfM) : List UInt8 := midB e ++ hdrsB e ++ hdrBy ((atsOf e)[e.secs.length]?.getD 0) (tabSec (tabOf e).length) (placesOf e).2
def fileW (e : ElfM) : List UInt8 × Int := if mayE e = true then (fileB e, 0) else ([], 1)
theorem fileW_no {e : ElfM} (h : mayE e = false) : fileW e = ([], 1) := by unfold fileW; rw [if_neg (by simp [h])]
theorem fileW_ok {e : ElfM} (h : mayE e = true) : fileW e = (fileB e, 0) := by unfold fileW; rw [if_pos h]
/-- What is known of a file that may be. -/
structure MayK (e : ElfM) : Prop where
  typ : e.typ = 1 ∨ e.typ = 2
  mach : mach e.target ≠ 0
  secs : e.secs.length ≤ 250
  segs : e.segs.length ≤ 16
  fine : ∀ s ∈ e.secs, fineB s = true
  pow : ∀ s ∈ e.secs, powB s.align = true
  segp : ∀ s ∈ e.segs, powB s.align = true
  ok : (buildR (namesOf e.secs)).2.2 = 0
  names : ∀ s ∈ e.secs, mayS s.name = true
  len : headsOf e (tabOf e).length + 64 * (e.secs.length + 2) ≤ 4194304
theorem mayK {e : ElfM} (h : mayE e = true) : MayK e := by
  unfold mayE at h
  simp only [Bool.and_eq_true] at h
  obtain ⟨⟨h1, h2⟩, h3⟩ := h
  unfold may1 at h1
  simp only [Bool.and_eq_true, Bool.or_eq_true, Bool.not_eq_true', decide_eq_true_eq, decide_eq_false_iff_not] at h1
  unfold may2 at h2
  simp only [Bool.and_eq_true, List.all_eq_true, decide_eq_true_eq] at h2
  unfold may3 at h3
  simp only [Bool.and_eq_true, decide_eq_true_eq] at h3
  have hn := h3.1
  refine ⟨h1.1.1.1, h1.1.1.2, h1.1.2, h1.2, fun s hs => (h2.1 s hs).1, fun s hs => fineB_pow (h2.1 s hs).1, h2.2, hn, fun s hs => ?_, h3.2⟩
  have := (build_ok hn).1
  unfold namesOf at this
  rw [List.all_append, Bool.and_eq_true, List.all_map] at this
  exact List.all_eq_true.1 this.1 s hs
theorem heads_ge {e : ElfM} : (placesOf e).2 + (tabOf e).length ≤ headsOf e (tabOf e).length ∧ headsOf e (tabOf e).length < (placesOf e).2 + (tabOf e).length + 8 := by
  have := upN_le (n := (placesOf e).2 + (tabOf e).length) (a := 8) (by omega)
  exact this
theorem atsOf_len {e : ElfM} (h : MayK e) : (atsOf e).length = e.secs.length + 1 ∧ ∀ p ∈ atsOf e, p ≤ 130000 := by
  have := ats_ok h.ok (by rw [namesOf_len]; have := h.secs; omega)
  rw [namesOf_len] at this
  exact this
theorem midB_len {e : ElfM} (h : MayK e) : (midB e).length = headsOf e (tabOf e).length + 64 := by
  unfold midB
  rw [List.length_append, List.length_append, List.length_replicate, bodyB_len h.pow]
  have := heads_ge (e := e)
  omega
theorem place_bd {e : ElfM} (h : MayK e) (k : Nat) : (plF (segsB e) (front e) (e.secs.take k)).2 ≤ (placesOf e).2 := by
  have : ∀ j, k ≤ j → (plF (segsB e) (front e) (e.secs.take k)).2 ≤ (plF (segsB e) (front e) (e.secs.take j)).2 := by
    intro j
    induction j with
    | zero => intro hj; obtain rfl : k = 0 := by omega
              exact Nat.le_refl _
    | succ j ih =>
      intro hj
      rcases Nat.lt_or_ge j k with h3 | h3
      · obtain rfl : k = j + 1 := by omega
        exact Nat.le_refl _
      · refine Nat.le_trans (ih h3) ?_
        rcases Nat.lt_or_ge j e.secs.length with hl | hl
        · have hx : e.secs[j]? = some e.secs[j] := List.getElem?_eq_getElem hl
          rw [plF_step hx]
          have := placeS_le (g := segsB e) (p := (plF (segsB e) (front e) (e.secs.take j)).2) (h.pow _ (List.mem_of_getElem? hx))
          show _ ≤ placeS _ _ _ + _
          omega
        · rw [List.take_of_length_le hl, List.take_of_length_le (by omega)]
          exact Nat.le_refl _
  rcases Nat.lt_or_ge k e.secs.length with hk | hk
  · have := this e.secs.length (by omega)
    rw [List.take_length] at this
    exact this
  · rw [List.take_of_length_le hk]
    exact Nat.le_refl _
end Go.Proofs.Ytgjoimcgiofinaa
namespace Go.Proofs.Ytgjoimcgiofinaa
open Go.RowKit Go.Fd
theorem append_types {P : Program} {w : World} {t u ty e e' : TypeId} {b : Option Addr} {n c : Nat} {x : Value} (ht : P.underlying t = some (.slice e)) (hu : P.underlying u = some (.slice e')) : (Builtin.append_ #[t, u] ty #[.slice b n c, x]).run P w = (Builtin.append_ #[t, t] ty #[.slice b n c, x]).run P w := by
  simp [Builtin.append_, run_underlying ht, run_underlying hu]
theorem run_cat {P : Program} {w : World} {t ty e : TypeId} (T : SliceT P t e 1 1) {v u : Value} {base : Nat} {l m : List UInt8} (hown : w.ownsRow base e 1 v l.length (l.map B)) (hy : Bs w u m) (hn : l.length + m.length ≤ 140737488355328) (hb : base ≤ w.heap.size) :
    ∃ v' w', (Builtin.append_ #[t, t] ty #[v, u]).run P w = .ok v' w' ∧ w'.ownsRow base e 1 v' (l ++ m).length ((l ++ m).map B) ∧ w.grownBy w' v.ownBlock := by
  obtain ⟨i, z, h1', h2, h3, h4, h5⟩ := T.info
  obtain ⟨hl, au, cap, rfl, hcap, h00, hc⟩ := hy
  rcases au with _ | ad
  · have hm0 : m = [] := by
      cases m with
      | nil => rfl
      | cons c m => obtain ⟨b, off, h', _⟩ := hc 0 (by simp); cases h'
    subst hm0
    obtain rfl := h00 rfl
    refine ⟨v, w, run_append_owned_none (w := w) base t ty e i 1 T.ht h1' v l.length (l.map B) hown, ?_, World.grownBy.refl _ _⟩
    rw [List.append_nil]
    exact hown
  · obtain ⟨v', w', hrun, h6, h7, -⟩ := run_append_own (w := w) base t ty e i z 1 1 T.ht h1' h2 h3 h4 h5 T.pos v l.length (l.map B) hown ad m.length cap (m.map B) (by simp) (fun j y hj => by
      have hlt : j < (m.map B).length := (List.getElem?_eq_some_iff.1 hj).1
      obtain ⟨b, off, e1, e2⟩ := hc j hlt
      cases e1
      have e3 : (⟨b, off, none⟩ : Addr).add j = ⟨b, off + j, none⟩ := by unfold Addr.add; split <;> simp_all
      rw [e3, e2, hj]) (fun u hu => List.all_eq_true.1 (allB m) u hu) (maxLen_of (by omega)) (by omega) hb
    refine ⟨v', w', hrun, ?_, h7⟩
    rw [List.length_append, List.map_append]
    exact h6
theorem wpList_catU {ops : Array Oper} {rest : List Oper} {Q : Exit → Act → World → Prop} {a : Act} {w : World} {d : Option Tmp} {ty : TypeId} {pos : String} {aft : Array Edge} {s x : Operand} {v u : Value} {base : Nat} {l m : List UInt8} (hown : OB w base v l) (hy : Bs w u m)
    (hs : a.eval s = v) (hx : a.eval x = u) (hn : l.length + m.length ≤ 140737488355328) (hb : base ≤ w.heap.size)
    (h : ∀ v' w', OB w' base v' (l ++ m) → w.grownBy w' v.ownBlock → wpList Try.prog ops Q rest (a.put d v') w') :
    wpList Try.prog ops Q (⟨d, .call { callee := .builtin .append, args := #[s, x], argTypes := #[96, 23] }, ty, pos, aft, none⟩ :: rest) a w := by
  obtain ⟨v', w', hrun, h6, h7⟩ := run_cat (ty := ty) TF hown hy hn hb
  obtain ⟨m0, ad, cap, hm, rfl, _, _⟩ := hown.shape
  refine wpList_val (v := v') (w' := w') rfl ?_ (h v' w' h6 h7)
  have hr2 := (append_types (P := Try.prog) (w := w) (ty := ty) (b := ad) (n := m0) (c := cap) (x := u) TF.ht TB.ht).trans hrun
  simp [execOp, resolve, invoke, builtin, hs, hx, hr2, Result.andThen]
end Go.Proofs.Ytgjoimcgiofinaa
namespace Go.Proofs.Ytgjoimcgiofinaa
open Go.RowKit Go.Fd
theorem heap_base {w w' : World} {base b : Nat} {o : Obj} (h : Below base w w') (hb : w.heap[b]? = some o) (hlt : b < base) : w'.heap[b]? = some o := by rw [h.block b hlt]; exact hb
theorem FileAt.lt {w : World} {base g : Nat} {l : List UInt8} (h : FileAt w base g l) : g < w.heap.size := by obtain ⟨v, h1, -⟩ := h; exact (Array.getElem?_eq_some_iff.1 h1).1
set_option maxHeartbeats 4000000 in
set_option maxRecDepth 100000 in
theorem writeE_any (e : ElfM) (L : List (SecM × Value)) (sv gv : Value) (w : World) (h : ElfAt w e L sv gv) (ho : ElfOk e) :
    Calls Try.prog 39 #[elfV e sv gv] w fun r w' => ∃ v, r = .returned (.tuple #[v, .int .i64 (fileW e).2]) ∧ OB w' w.heap.size v (fileW e).1 ∧ Below w.heap.size w w' := by
  obtain ⟨a, ca, rfl, hca, -, hc⟩ := h.rd.open (fun _ => rfl)
  obtain ⟨ga, gc, rfl, hgc, -, hcg⟩ := h.segs.open (fun _ => rfl)
  have HC := Lib.hid hc
  have HCG := Lib.hid hcg
  have HAT := Lib.hid h
  have HOK := Lib.hid ho
  have HD := Lib.hid h.data
  have HSE := Lib.hid (fun k x (hk : L[k]? = some x) => sec_of h.secs hk)
  have HEL := Lib.hid (show e.secs.length = L.length by rw [h.secs, List.length_map])
  obtain ⟨nl, hnl⟩ : ∃ n, n = L.length := ⟨_, rfl⟩
  obtain ⟨gn, hgn⟩ : ∃ n, n = e.segs.length := ⟨_, rfl⟩
  rw [← hnl] at hca HAT ⊢
  rw [← hgn] at hgc HAT ⊢
  have HL := Lib.hid hnl
  have HGN := Lib.hid hgn
  have HMY := Lib.hid (fun wx (hx : Below w.heap.size w wx) => may_any e L _ _ wx (HAT.out.mono hx) HOK.out)
  clear hc hcg h hnl hgn ho
  cases hmy : mayE e with
  | false =>
    have HR := Lib.hid (fileW_no hmy)
    rw [hmy] at HMY
    clear hmy
    go_enter Try.func39, Try.ntmps39
    go_wp2_with (first
      | ((with_reducible show wpList _ _ _ (⟨_, .box _ _, _, _, _, _⟩ :: _) _ _); go_must (refine wpList_box rfl ?_; intro w1 hx1 hb1 hs1; obtain ⟨c0, c1, c2, c3, c4, c5⟩ := elf_box hx1)))
    refine (HMY.out _ hb1).mono ?_
    rintro r w2 ⟨rfl, hb2⟩
    go_wp2
    go_ret2
    exact ⟨_, by rw [HR.out]; rfl, by rw [HR.out]; exact OB.nil _ _, hb1.trans (hb2.mono hb1.size)⟩
  | true =>
    have HR := Lib.hid (fileW_ok hmy)
    have HK := Lib.hid (mayK hmy)
    rw [hmy] at HMY
    clear hmy
    have hnl2 : nl ≤ 250 := by have h1 := HK.out.secs; have h2 := HEL.out; have h3 := HL.out; omega
    have hgn2 : gn ≤ 16 := by have h1 := HK.out.segs; have h2 := HGN.out; omega
    go_enter Try.func39, Try.ntmps39
    go_wp2_with (first
      | ((with_reducible show wpList _ _ _ (⟨_, .box _ _, _, _, _, _⟩ :: _) _ _); go_must (refine wpList_box rfl ?_; intro w1 hx1 hb1 hs1; obtain ⟨c0, c1, c2, c3, c4, c5⟩ := elf_box hx1)))
    have HX1 := Lib.hid hx1
    have HB1 := Lib.hid hb1
    have hs1' := hs1
    clear hx1 hb1 c0 c1 c2 c3 c4 c5
    refine (HMY.out _ HB1.out).mono ?_
    rintro r w2 ⟨rfl, hb2⟩
    have HX2 := Lib.hid (heap_below hb2 HX1.out)
    have HB2 := Lib.hid (HB1.out.trans (hb2.mono HB1.out.size))
    have hs2 := hb2.size
    clear hb2 HMY
    obtain ⟨c0, c1, c2, c3, c4, c5⟩ := elf_box HX2.out
    have HNA := Lib.hid (names_any e L _ _ w2 (HAT.out.mono HB2.out) (by have := HL.out; omega))
    rw [HK.out.ok] at HNA
    go_wp2_with fail
    clear c0 c1 c2 c3 c4 c5
    refine HNA.out.mono ?_
    rintro r w3 ⟨v1, v2, rfl, ob1, ow2, hb3⟩
    have OB1 := Lib.hid (show OB w3 w2.heap.size v1 (tabOf e) from ob1)
    have OW2 := Lib.hid (show Ow I64 3 w3 w2.heap.size v2 (atsOf e) from ow2)
    have HX3 := Lib.hid (heap_below hb3 HX2.out)
    have HB3 := Lib.hid (HB2.out.trans (hb3.mono HB2.out.size))
    have hs3 := hb3.size
    obtain ⟨tn, ta, tc, htn, rfl, _, _⟩ := ob1.bs.shape
    replace htn : Hid (tn = (tabOf e).length) := htn
    obtain ⟨aa, ac, rfl, hac, -, haac⟩ := (show Rd I64 w3 v2 (atsOf e) from ow2.rd).open 0
    have HAC := Lib.hid haac
    obtain ⟨al, hal⟩ : ∃ al, al = (atsOf e).length := ⟨_, rfl⟩
    have HAK := Lib.hid (atsOf_len HK.out)
    have hal2 : al = nl + 1 := by have h1 := HAK.out.1; have h2 := HEL.out; have h3 := HL.out; omega
    rw [← hal] at hac ⊢
    have HALN := Lib.hid hal
    clear ob1 ow2 hb3 HNA haac hal
    subst hal2
    have htl : tn ≤ 40000 := by have h1 := tabOf_len e; have h2 := htn.out; have h3 := HEL.out; have h4 := HL.out; omega
    have HPL := Lib.hid (places_any e L _ _ tn w3 (HAT.out.mono HB3.out) (by have := HL.out; omega) (by have := HGN.out; omega) HK.out.pow HOK.out.fits.secs HOK.out.data (by omega))
    have HHD : Hid (headsOf e tn = headsOf e (tabOf e).length) := by rw [htn.out]; exact rfl
    have hhd : headsOf e tn + 64 * (nl + 2) ≤ 4194304 := by have h1 := HK.out.len; have h2 := HHD.out; have h3 := HEL.out; have h4 := HL.out; omega
    have HGE := Lib.hid (show (placesOf e).2 + tn ≤ headsOf e tn ∧ headsOf e tn < (placesOf e).2 + tn + 8 by have h1 := heads_ge (e := e); have h2 := HHD.out; have h3 := htn.out; omega)
    obtain ⟨hd, hhdd⟩ : ∃ hd, hd = headsOf e tn := ⟨_, rfl⟩
    obtain ⟨pe, hpe⟩ : ∃ pe, pe = (placesOf e).2 := ⟨_, rfl⟩
    rw [← hhdd] at HPL HHD hhd HGE
    rw [← hpe] at HPL HGE
    have HPE := Lib.hid hpe
    clear hhdd hpe
    obtain ⟨c0, c1, c2, c3, c4, c5⟩ := elf_box HX3.out
    go_wp2_with fail
    clear c0 c1 c2 c3 c4 c5
    refine HPL.out.mono ?_
    rintro r w4 ⟨v3, rfl, ow3, hb4⟩
    obtain ⟨pa, pc, rfl, hpc, -, hpac⟩ := (show Rd I64 w4 v3 (placesOf e).1 from ow3.rd).open 0
    have HPC := Lib.hid hpac
    have hpl : (placesOf e).1.length = nl := by have h1 := plF_len (g := segsB e) (n := front e) e.secs; have h2 := HEL.out; have h3 := HL.out; exact h1.trans (by omega)
    rw [hpl] at hpc ⊢
    have HPLN := Lib.hid hpl
    have HX4 := Lib.hid (heap_below hb4 HX3.out)
    have HB4w := Lib.hid (HB3.out.trans (hb4.mono HB3.out.size))
    have OB14 := Lib.hid (OB1.out.mono hb4)
    have HAC4 : Hid (∀ j, j < (atsOf e).length → ∃ b off, aa = some ⟨b, off, none⟩ ∧ w4.cell? ⟨b, off + j, none⟩ = some (I64 ((atsOf e)[j]?.getD 0))) := fun j hj => by
      obtain ⟨b, off, h1, h2⟩ := HAC.out j hj
      exact ⟨b, off, h1, (hb4.cell (block_lt h2)).trans h2⟩
    have hs4 := hb4.size
    have hG4 : w.heap.size < w4.heap.size := by omega
    have hwf4 : w.heap.size ≤ w3.heap.size := by omega
    clear ow3 hb4 hpac hpl HPL OB1 HAC
    obtain ⟨c0, c1, c2, c3, c4, c5⟩ := elf_box (heap_below (below_alloc w4 (.cells #[.slice none 0 0] 96)) HX4.out)
    go_wp2_with fail
    clear c0 c1 c2 c3 c4 c5
    refine (headF_any e nl gn a ga ca gc hd w4.heap.size w4.heap.size _ ⟨_, heap_alloc_last w4 _, Nat.le_refl _, OB.nil _ _⟩ (by have h2 := HEL.out; have h3 := HL.out; omega) HGN.out HOK.out.fits HK.out.typ (by omega) (by omega) (by omega) (by rw [World.size_alloc]; omega)).mono ?_
    rintro r w5 ⟨rfl, hf5, hb5, hk5⟩
    have HF5 := Lib.hid hf5
    have HB5 := Lib.hid ((below_alloc w4 _).trans hb5)
    clear hf5 hb5 hk5
    obtain ⟨c0, c1, c2, c3, c4, c5⟩ := elf_box (heap_base HB5.out HX4.out hG4)
    go_wp2
    go_loopw [40] (fun i wr => ∃ k : Nat, i = .int .i64 k ∧ k ≤ gn ∧ Hid (FileAt wr w4.heap.size w4.heap.size (headB e hd ++ (e.segs.take k).flatMap segBy)) ∧ Hid (Below w4.heap.size w4 wr)) (fun i _ => gn - (intOf i).toNat)
    case atStart => exact ⟨0, rfl, Nat.zero_le _, by simpa [Hid] using HF5.out, HB5.out⟩
    case round =>
      clear c0 c1 c2 c3 c4 c5
      obtain ⟨k, rfl, hk, HF, HB⟩ := hrel
      have hbs := HB.out.size
      have hgl := HF.out.lt
      have HBW := Lib.hid (HB4w.out.trans (HB.out.mono (by omega)))
      by_cases hlt : k < gn
      · have X1 := Lib.hid (show e.segs[k]? = some (e.segs[k]'(by have := HGN.out; omega)) from List.getElem?_eq_getElem _)
        generalize e.segs[k]'(by have := HGN.out; omega) = x at *
        obtain ⟨b1, o1, ha, c10, c11, c12, c13, c14, c15, c16, -⟩ := seg_cells HCG.out HBW.out X1.out
        subst ha
        have HFS := Lib.hid (HOK.out.fits.segs _ (List.mem_of_getElem? X1.out))
        have HST : Hid ((e.segs.take (k + 1)).flatMap segBy = (e.segs.take k).flatMap segBy ++ segBy x) := by rw [List.take_add_one, X1.out, List.flatMap_append]; simp [Hid]
        have HTL := Lib.hid (show (headB e hd ++ (e.segs.take k).flatMap segBy).length ≤ 5000 by
          rw [List.length_append, headB_len, flat_len' segBy_len, List.length_take]; omega)
        obtain ⟨typ, flags, off, vaddr, filesz, memsz, align⟩ := x
        generalize hT : headB e hd ++ (e.segs.take k).flatMap segBy = T at *
        have HT := Lib.hid hT
        clear hT
        dsimp only at *
        have hty : typ < 4294967296 := HFS.out.1
        have hfl : flags < 4294967296 := HFS.out.2.1
        go_wp2_with (first
          | ((with_reducible show wpList _ _ _ (⟨none, .store _ _ _, _, _, _, _⟩ :: _) _ _); go_must (refine wpList_storeNew rfl rfl (by kernel_rfl) rfl (by simp [Value.oneCell']) ?_; intro w6 hh6 hb6; obtain ⟨e0, e1, e2, e3, e4, e5, e6⟩ := seg_box (x := ⟨typ, flags, off, vaddr, filesz, memsz, align⟩) hh6; have HH6 := Lib.hid hh6; have HF6 := Lib.hid (HF.out.mono hb6); have HB6 := Lib.hid (HB.out.trans (hb6.mono HB.out.size)); have hr6 := HB.out.size; clear hb6 hh6)))
        refine (putF_any [typ, flags] 4 _ w4.heap.size w4.heap.size _ _ (HF6.out.mono (below_alloc _ _)) (heap_alloc_last _ _) (fun h => by have := HF6.out.lt; omega) (by decide) (by have h1 := HTL.out; (try simp only [List.length_append, flat_len' (fun n => length_fixed n _), List.length_replicate, List.length_cons, List.length_nil]); omega) (Nat.le_of_ble_eq_true rfl) (by intro n hn;  simp only [List.mem_cons, List.not_mem_nil, or_false] at hn; omega) (by rw [World.size_alloc]; have := HB6.out.size; omega) 2 (Nat.le_refl _)).mono ?_
        rintro r w7 ⟨rfl, hf, hb, hk⟩
        have HF7 := Lib.hid hf
        have HB7 := Lib.hid ((HB6.out.trans ((below_alloc w6 _).mono HB6.out.size)).trans hb)
        have HH7 := Lib.hid (hk _ _ _ _ (by omega) (by decide) (heap_below (below_alloc _ _) HH6.out))
        clear hf hb hk
        clear e0 e1 e2 e3 e4 e5 e6
        obtain ⟨e0, e1, e2, e3, e4, e5, e6⟩ := seg_box (x := ⟨typ, flags, off, vaddr, filesz, memsz, align⟩) HH7.out
        go_wp2_with fail
        refine (putF_any [off, vaddr, vaddr, filesz, memsz, align] 8 _ w4.heap.size w4.heap.size _ _ (HF7.out.mono (below_alloc _ _)) (heap_alloc_last _ _) (fun h => by have := HF7.out.lt; omega) (by decide) (by have h1 := HTL.out; (try simp only [List.length_append, flat_len' (fun n => length_fixed n _), List.length_cons, List.length_nil]); omega) (Nat.le_of_ble_eq_true rfl) (by intro n hn; have h1 := HFS.out.2.2.1; have h2 := HFS.out.2.2.2.1; have h3 := HFS.out.2.2.2.2.1; have h4 := HFS.out.2.2.2.2.2.1; have h5 := HFS.out.2.2.2.2.2.2; dsimp only at h1 h2 h3 h4 h5; simp only [List.mem_cons, List.not_mem_nil, or_false] at hn; omega) (by rw [World.size_alloc]; have := HB7.out.size; omega) 6 (Nat.le_refl _)).mono ?_
        rintro r w8 ⟨rfl, hf, hb, hk⟩
        have HF8 := Lib.hid hf
        have HB8 := Lib.hid ((HB7.out.trans ((below_alloc w7 _).mono HB7.out.size)).trans hb)
        clear hf hb hk
        have HF9 := Lib.hid (show FileAt w8 w4.heap.size w4.heap.size (headB e hd ++ (e.segs.take (k + 1)).flatMap segBy) by rw [HST.out, ← List.append_assoc, HT.out]; have := HF8.out; rw [List.append_assoc] at this; exact this)
        clear e0 e1 e2 e3 e4 e5 e6
        go_wp2
        go_roundw
        case rel =>
          first
            | exact ⟨k + 1, by go_num, by omega, HF9.out, HB8.out⟩
            | ((repeat apply Exists.intro); exact ⟨⟨k + 1, by go_num, by omega, HF9.out, HB8.out⟩, rfl⟩)
        case measure => simp [intOf] <;> omega
      · have hkn : e.segs.take k = e.segs := List.take_of_length_le (by have := HGN.out; omega)
        have HFR := Lib.hid (show FileAt wr w4.heap.size w4.heap.size (frontB e) by
          have := HF.out
          rw [hkn] at this
          unfold frontB
          rw [← HHD.out]
          exact this)
        have HBR := Lib.hid HB.out
        obtain ⟨c0, c1, c2, c3, c4, c5⟩ := elf_box (heap_base HB.out HX4.out hG4)
        clear HF hkn
        go_wp2
        go_loopw [70] (fun i wr => ∃ k : Nat, i = .int .i64 k ∧ k ≤ nl ∧ Hid (FileAt wr w4.heap.size w4.heap.size (bodyF (frontB e) ((e.secs.zip (placesOf e).1).take k))) ∧ Hid (Below w4.heap.size w4 wr)) (fun i _ => nl - (intOf i).toNat)
        case atStart => exact ⟨0, rfl, Nat.zero_le _, HFR.out, HBR.out⟩
        case round =>
          clear c0 c1 c2 c3 c4 c5
          obtain ⟨k, rfl, hk, HF, HB⟩ := hrel
          have hbs := HB.out.size
          have hgl := HF.out.lt
          have HBW := Lib.hid (HB4w.out.trans (HB.out.mono (by omega)))
          by_cases hlt : k < nl
          · have X1 := Lib.hid (show L[k]? = some (L[k]'(by have := HL.out; omega)) from List.getElem?_eq_getElem _)
            generalize L[k]'(by have := HL.out; omega) = x at *
            obtain ⟨s, dv⟩ := x
            have HDB := Lib.hid (HD.out _ (List.mem_of_getElem? X1.out))
            obtain ⟨dm, da, dc, hdm, rfl, _, _⟩ := HDB.out.shape
            have X2 := Lib.hid (HSE.out _ _ X1.out)
            have HZP := Lib.hid (zipP (g := segsB e) (n := front e) X2.out)
            have HPG := Lib.hid (plF_get (g := segsB e) (n := front e) X2.out)
            have HST := Lib.hid (show bodyF (frontB e) ((e.secs.zip (placesOf e).1).take (k + 1)) = bodyF (frontB e) ((e.secs.zip (placesOf e).1).take k) ++ List.replicate (placeS (segsB e) (plF (segsB e) (front e) (e.secs.take k)).2 s - (bodyF (frontB e) ((e.secs.zip (placesOf e).1).take k)).length) 0 ++ s.data from bodyF_step (acc := frontB e) HZP.out)
            have HLN := Lib.hid (body_len (g := segsB e) (frontB_len e) HK.out.pow k (by have h1 := HEL.out; have h2 := HL.out; omega))
            have HLE := Lib.hid (placeS_le (g := segsB e) (p := (plF (segsB e) (front e) (e.secs.take k)).2) (HK.out.pow _ (List.mem_of_getElem? X2.out)))
            have HPB := Lib.hid (place_bd HK.out (k + 1))
            rw [plF_step X2.out] at HPB
            have hp9 : placeS (segsB e) (plF (segsB e) (front e) (e.secs.take k)).2 s + dm ≤ 4194304 := by
              have h1 : placeS (segsB e) (plF (segsB e) (front e) (e.secs.take k)).2 s + s.data.length ≤ (placesOf e).2 := HPB.out
              have h2 := HGE.out.1
              have h3 := HPE.out
              have h4 := hdm.out
              dsimp only at h4
              omega
            obtain ⟨b1, o1, ha, c10, c11, c12, c13, c14, c15, c16, c17, c18, c19, -⟩ := sec_cells HC.out HBW.out X1.out
            subst ha
            obtain ⟨bP, oP, hP1, cP⟩ := HPC.out k (by have := HPLN.out; omega)
            have HPGx := HPG.out
            replace HPGx : (placesOf e).1[k]? = _ := HPGx
            rw [HPGx] at cP
            simp only [Option.getD_some] at cP
            replace cP := (HB.out.cell (block_lt cP)).trans cP
            subst hP1
            have HPGY := Lib.hid HPGx
            generalize hT : bodyF (frontB e) ((e.secs.zip (placesOf e).1).take k) = T at *
            have HT := Lib.hid hT
            have HTL := Lib.hid (show T.length = (plF (segsB e) (front e) (e.secs.take k)).2 by rw [← hT]; exact HLN.out)
            generalize placeS (segsB e) (plF (segsB e) (front e) (e.secs.take k)).2 s = p at *
            obtain ⟨d, hd1⟩ : ∃ d, p = T.length + d := ⟨p - T.length, by have h1 := HLE.out.1; have h2 := HTL.out; omega⟩
            have HD1 := Lib.hid hd1
            clear hT HPGx hd1
            obtain ⟨name, typ, flags, addr, align, size, link, info, ent, data⟩ := s
            dsimp only at *
            go_wp2_with (first
              | ((with_reducible show wpList _ _ _ (⟨none, .store _ _ _, _, _, _, _⟩ :: _) _ _); go_must (refine wpList_storeNew rfl rfl (by kernel_rfl) rfl (by simp [Value.oneCell']) ?_; intro w6 hh6 hb6; obtain ⟨e0, e1, e2, e3, e4, e5, e6, e7, e8, e9⟩ := sec_box (x := (⟨name, typ, flags, addr, align, size, link, info, ent, data⟩, .slice da dm dc)) hh6; have HH6 := Lib.hid hh6; have HF6 := Lib.hid (HF.out.mono hb6); have HB6 := Lib.hid (HB.out.trans (hb6.mono HB.out.size)); have hr6 := HB.out.size; have cP6 := (hb6.cell (block_lt cP)).trans cP; clear hb6 hh6)))
            refine (fillF_any d w4.heap.size w4.heap.size (p : Int) T w6 HF6.out (by rw [HD1.out]) (by have h1 := HD1.out; omega) HB6.out.size).mono ?_
            rintro r w7 ⟨rfl, hf, hb, hk⟩
            have HH7 := Lib.hid (hk _ _ _ _ (by omega) (by decide) HH6.out)
            have HB7 := Lib.hid (HB6.out.trans hb)
            obtain ⟨v7, hg7, hbg7, hov7⟩ := hf
            have HG7 := Lib.hid hg7
            have HV7 := Lib.hid hov7
            obtain ⟨m7, ad7, cap7, hm7, rfl, _, _⟩ := hov7.shape
            have z7 := cell_rec HG7.out 0
            simp only [List.getElem?_toArray, List.getElem?_cons_zero] at z7
            have HBD7 := Lib.hid (HDB.out.mono (HB4w.out.trans (HB7.out.mono (by omega))))
            clear hb hk hg7 hov7 e0 e1 e2 e3 e4 e5 e6 e7 e8 e9
            obtain ⟨e0, e1, e2, e3, e4, e5, e6, e7, e8, e9⟩ := sec_box (x := (⟨name, typ, flags, addr, align, size, link, info, ent, data⟩, .slice da dm dc)) HH7.out
            go_wp2_with (first
              | ((with_reducible show wpList _ _ _ (⟨some 83, _, _, _, _, _⟩ :: _) _ _); go_must (refine wpList_catU HV7.out HBD7.out rfl rfl (by rw [List.length_append, List.length_replicate]; have h1 := HD1.out; have h2 := hdm.out; omega) HB7.out.size ?_; intro v8 w8 hv8 hg8; have HG8 := Lib.hid (keeps_own HV7.out hg8 _ _ _ _ (by decide) HG7.out); have HV8 := Lib.hid hv8; have HB8 := Lib.hid (HB7.out.trans (below_of_grown hg8 HB7.out.size fun k hk => (World.ownsRow.lt HV7.out k hk).1)); clear hv8 hg8))
              | ((with_reducible show wpList _ _ _ (⟨none, .store _ _ _, _, _, _, _⟩ :: _) _ _); go_must (refine wpList_storeF HG8.out hbg7 HV8.out rfl rfl HB8.out.size ?_; intro w9 hf9 hb9 hk9)))
            have HF9 := Lib.hid (show FileAt w9 w4.heap.size w4.heap.size (bodyF (frontB e) ((e.secs.zip (placesOf e).1).take (k + 1))) by
              rw [HST.out]
              rw [show p - T.length = d by have h1 := HD1.out; omega]
              exact hf9)
            have HB9 := Lib.hid (HB8.out.trans hb9)
            clear hf9 hb9 hk9 z7 e0 e1 e2 e3 e4 e5 e6 e7 e8 e9
            go_roundw
            case rel =>
              first
                | exact ⟨k + 1, by go_num, by omega, HF9.out, HB9.out⟩
                | ((repeat apply Exists.intro); exact ⟨⟨k + 1, by go_num, by omega, HF9.out, HB9.out⟩, rfl⟩)
            case measure => simp [intOf] <;> omega
          · have hkn : (e.secs.zip (placesOf e).1).take k = e.secs.zip (placesOf e).1 := List.take_of_length_le (by rw [List.length_zip]; have h1 := HEL.out; have h2 := HL.out; omega)
            have HF6 := Lib.hid (show FileAt wr w4.heap.size w4.heap.size (bodyB e) by
              have := HF.out
              rw [hkn] at this
              exact this)
            have HBL := Lib.hid (show (bodyB e).length = pe by rw [bodyB_len HK.out.pow, ← HPE.out])
            have HB6 := Lib.hid HB.out
            have hpe4 : pe ≤ 4194304 := by have := HGE.out.1; omega
            clear HF HB hkn
            go_wp2_with fail
            refine (fillF_any 0 w4.heap.size w4.heap.size (pe : Int) (bodyB e) wr HF6.out (by rw [HBL.out]; rfl) (by have h1 := HBL.out; omega) HB6.out.size).mono ?_
            rintro r w7 ⟨rfl, hf, hb, hk⟩
            have HB7 := Lib.hid (HB6.out.trans hb)
            rw [List.replicate_zero, List.append_nil] at hf
            obtain ⟨v7, hg7, hbg7, hov7⟩ := hf
            have HG7 := Lib.hid hg7
            have HV7 := Lib.hid hov7
            obtain ⟨m7, ad7, cap7, hm7, rfl, _, _⟩ := hov7.shape
            have z7 := cell_rec HG7.out 0
            simp only [List.getElem?_toArray, List.getElem?_cons_zero] at z7
            have HTB7 := Lib.hid (OB14.out.bs.mono HB7.out)
            clear hb hk hg7 hov7
            go_wp2_with (first
              | ((with_reducible show wpList _ _ _ (⟨some 89, _, _, _, _, _⟩ :: _) _ _); go_must (refine wpList_catU HV7.out HTB7.out rfl rfl (by have h1 := HBL.out; have h2 := htn.out; omega) HB7.out.size ?_; intro v8 w8 hv8 hg8; have HG8 := Lib.hid (keeps_own HV7.out hg8 _ _ _ _ (by decide) HG7.out); have HV8 := Lib.hid hv8; have HB8 := Lib.hid (HB7.out.trans (below_of_grown hg8 HB7.out.size fun k hk => (World.ownsRow.lt HV7.out k hk).1)); clear hv8 hg8))
              | ((with_reducible show wpList _ _ _ (⟨none, .store _ _ _, _, _, _, _⟩ :: _) _ _); go_must (refine wpList_storeF HG8.out hbg7 HV8.out rfl rfl HB8.out.size ?_; intro w9 hf9 hb9 hk9)))
            have HF9 := Lib.hid hf9
            have HB9 := Lib.hid (HB8.out.trans hb9)
            clear hf9 hb9 hk9 z7
            have HTN : Hid ((bodyB e ++ tabOf e).length = pe + tn) := by
              show _ = _
              rw [List.length_append, HBL.out, ← htn.out]
            obtain ⟨dd, hdd⟩ : ∃ dd, hd + 64 = pe + tn + dd := ⟨hd + 64 - (pe + tn), by have := HGE.out.1; omega⟩
            have HDD := Lib.hid hdd
            clear hdd
            refine (fillF_any dd w4.heap.size w4.heap.size ((hd : Int) + 64) _ w9 HF9.out (by rw [HTN.out]; have := HDD.out; omega) (by rw [HTN.out]; have := HDD.out; omega) HB9.out.size).mono ?_
            rintro r w10 ⟨rfl, hf, hb, hk⟩
            have HF10 := Lib.hid (show FileAt w10 w4.heap.size w4.heap.size (midB e) by
              unfold midB
              rw [← HHD.out, ← HPE.out, ← htn.out, show hd + 64 - (pe + tn) = dd by have := HDD.out; omega]
              exact hf)
            have HB10 := Lib.hid (HB9.out.trans hb)
            have HML := Lib.hid (show (midB e).length = hd + 64 by rw [midB_len HK.out, ← HHD.out])
            clear hf hb hk
            obtain ⟨c0, c1, c2, c3, c4, c5⟩ := elf_box (heap_base HB10.out HX4.out hG4)
            go_wp2
            go_loopw [96] (fun i wr => ∃ k : Nat, i = .int .i64 k ∧ k ≤ nl ∧ Hid (FileAt wr w4.heap.size w4.heap.size (midB e ++ ((e.secs.zip ((atsOf e).zip (placesOf e).1)).take k).flatMap fun p => hdrBy p.2.1 p.1 p.2.2)) ∧ Hid (Below w4.heap.size w4 wr)) (fun i _ => nl - (intOf i).toNat)
            case atStart => exact ⟨0, rfl, Nat.zero_le _, by simpa [Hid] using HF10.out, HB10.out⟩
            case round =>
              clear c0 c1 c2 c3 c4 c5
              obtain ⟨k, rfl, hk, HF, HB⟩ := hrel
              have hbs := HB.out.size
              have hgl := HF.out.lt
              have HBW := Lib.hid (HB4w.out.trans (HB.out.mono (by omega)))
              by_cases hlt : k < nl
              · have X1 := Lib.hid (show L[k]? = some (L[k]'(by have := HL.out; omega)) from List.getElem?_eq_getElem _)
                generalize L[k]'(by have := HL.out; omega) = x at *
                obtain ⟨s, dv⟩ := x
                have HDB := Lib.hid (HD.out _ (List.mem_of_getElem? X1.out))
                obtain ⟨dm, da, dc, hdm, rfl, _, _⟩ := HDB.out.shape
                have X2 := Lib.hid (HSE.out _ _ X1.out)
                have HFS := Lib.hid (HOK.out.fits.secs _ (List.mem_of_getElem? X2.out))
                obtain ⟨b1, o1, ha, c10, c11, c12, c13, c14, c15, c16, c17, c18, c19, -⟩ := sec_cells HC.out HBW.out X1.out
                subst ha
                have XA := Lib.hid (show (atsOf e)[k]? = some ((atsOf e)[k]'(by have := HALN.out; omega)) from List.getElem?_eq_getElem _)
                have XP := Lib.hid (show (placesOf e).1[k]? = some ((placesOf e).1[k]'(by have := HPLN.out; omega)) from List.getElem?_eq_getElem _)
                have hpbx : ∀ x, (placesOf e).1[k]? = some x → x ≤ 4194304 := fun x hx => by
                  have h2 := plF_get (g := segsB e) (n := front e) X2.out
                  have h3 : (placesOf e).1[k]? = some (placeS (segsB e) (plF (segsB e) (front e) (e.secs.take k)).2 s) := h2
                  rw [h3] at hx
                  injection hx with hx
                  have h4 := place_bd HK.out (k + 1)
                  rw [plF_step X2.out] at h4
                  have h5 : placeS (segsB e) (plF (segsB e) (front e) (e.secs.take k)).2 s + s.data.length ≤ (placesOf e).2 := h4
                  have h6 := HPE.out
                  omega
                have hab : (atsOf e)[k]'(by have := HALN.out; omega) ≤ 130000 := HAK.out.2 _ (List.getElem_mem _)
                obtain ⟨bA, oA, hA1, cA⟩ := HAC4.out k (by have := HALN.out; omega)
                obtain ⟨bP, oP, hP1, cP⟩ := HPC.out k (by have := HPLN.out; omega)
                rw [XA.out] at cA
                rw [XP.out] at cP
                have HST : Hid (((e.secs.zip ((atsOf e).zip (placesOf e).1)).take (k + 1)).flatMap (fun p => hdrBy p.2.1 p.1 p.2.2) = ((e.secs.zip ((atsOf e).zip (placesOf e).1)).take k).flatMap (fun p => hdrBy p.2.1 p.1 p.2.2) ++ hdrBy ((atsOf e)[k]'(by have := HALN.out; omega)) s ((placesOf e).1[k]'(by have := HPLN.out; omega))) := by
                  rw [List.take_add_one, show (e.secs.zip ((atsOf e).zip (placesOf e).1))[k]? = some (s, _, _) by rw [List.getElem?_zip_eq_some]; exact ⟨X2.out, by rw [List.getElem?_zip_eq_some]; exact ⟨XA.out, XP.out⟩⟩, List.flatMap_append]
                  simp [Hid]
                generalize (atsOf e)[k]'(by have := HALN.out; omega) = na at *
                generalize (placesOf e).1[k]'(by have := HPLN.out; omega) = pl at *
                have hpb := hpbx _ XP.out
                clear hpbx
                simp only [Option.getD_some] at cA cP
                replace cA := (HB.out.cell (block_lt cA)).trans cA
                have cP0 := cP
                replace cP := (HB.out.cell (block_lt cP)).trans cP
                subst hA1
                subst hP1
                have HTL := Lib.hid (show (midB e ++ ((e.secs.zip ((atsOf e).zip (placesOf e).1)).take k).flatMap fun p => hdrBy p.2.1 p.1 p.2.2).length ≤ 8000000 by
                  rw [List.length_append, HML.out, flat_len' (f := fun p : SecM × Nat × Nat => hdrBy p.2.1 p.1 p.2.2) (fun p => hdrBy_len p.2.1 p.1 p.2.2), List.length_take]
                  omega)
                generalize hT : (midB e ++ ((e.secs.zip ((atsOf e).zip (placesOf e).1)).take k).flatMap fun p => hdrBy p.2.1 p.1 p.2.2) = T at *
                have HT := Lib.hid hT
                clear hT
                obtain ⟨name, typ, flags, addr, align, size, link, info, ent, data⟩ := s
                dsimp only at *
                have hty : typ < 4294967296 := HFS.out.1
                have hli : link < 4294967296 := HFS.out.2.2.2.2.2.1
                have hin : info < 4294967296 := HFS.out.2.2.2.2.2.2.1
                go_wp2_with (first
                  | ((with_reducible show wpList _ _ _ (⟨none, .store _ _ _, _, _, _, _⟩ :: _) _ _); go_must (refine wpList_storeNew rfl rfl (by kernel_rfl) rfl (by simp [Value.oneCell']) ?_; intro w6 hh6 hb6; obtain ⟨e0, e1, e2, e3, e4, e5, e6, e7, e8, e9⟩ := sec_box (x := (⟨name, typ, flags, addr, align, size, link, info, ent, data⟩, .slice da dm dc)) hh6; have HH6 := Lib.hid hh6; have HF6 := Lib.hid (HF.out.mono hb6); have HB6 := Lib.hid (HB.out.trans (hb6.mono HB.out.size)); have hr6 := HB.out.size; have cP6 := (hb6.cell (block_lt cP)).trans cP; have cA6 := (hb6.cell (block_lt cA)).trans cA; clear hb6 hh6)))
                have hAB := fun (x : Above w6) (b k : Nat) (h : b < w6.heap.size) => Above.cell x b k h
                have hbltA : bA < w6.heap.size := block_lt cA6
                have hbltE : wr.heap.size < w6.heap.size := block_lt e0
                go_wp2
                refine wp_region_walk 9 [(8, .lit w6.heap.size 53 #[.int .u64 (na : Int), .int .u64 (typ : Int)])] (by kernel_rfl) (by kernel_rfl) ?_
                simp only [List.take_succ_cons, List.take_zero, List.drop_succ_cons, List.drop_zero]
                repeat (first
                  | (refine walk_quiet rfl rfl rfl ?_; intro K hK; go_big_quiet_op; go_big_quiet_on)
                  | (refine walk_lit rfl rfl (fun wx hwx _ => WpYld.val (run_l2 rfl rfl) (Yld.lit_mk _ hwx).1 (Yld.lit_mk _ hwx).2) (fun gb => ?_); go_frame))
                refine walk_nil ?_
                intro wz hbz hF
                obtain ⟨hgB, hgl2⟩ := Yld.lit_got (hF 8 _ 109 _ rfl rfl rfl rfl)
                have HLT := Lib.hid hgl2
                have HFz := Lib.hid (HF6.out.mono hbz)
                have HBz := Lib.hid (HB6.out.trans (hbz.mono HB6.out.size))
                have HHz := Lib.hid (heap_below hbz HH6.out)
                have HF7 := HFz
                have HB7 := HBz
                have hgbg : gb ≠ w4.heap.size := by have := HF6.out.lt; omega
                clear hF hbz hgl2 hAB hbltA hbltE
                go_wp2_with fail
                refine (putF_any [na, typ] 4 _ w4.heap.size w4.heap.size _ _ HF7.out HLT.out hgbg (by decide) (by have h1 := HTL.out; (try simp only [List.length_append, flat_len' (fun n => length_fixed n _), List.length_replicate, List.length_cons, List.length_nil]); omega) (Nat.le_of_ble_eq_true rfl) (by intro n hn;  simp only [List.mem_cons, List.not_mem_nil, or_false] at hn; omega) HB7.out.size 2 (Nat.le_refl _)).mono ?_
                rintro r w8 ⟨rfl, hf, hb, hk⟩
                have HF8 := Lib.hid hf
                have HB8 := Lib.hid (HB7.out.trans hb)
                have HH8 := Lib.hid (hk _ _ _ _ (by omega) (by decide) HHz.out)
                clear hf hb hk
                clear e0 e1 e2 e3 e4 e5 e6 e7 e8 e9
                obtain ⟨e0, e1, e2, e3, e4, e5, e6, e7, e8, e9⟩ := sec_box (x := (⟨name, typ, flags, addr, align, size, link, info, ent, data⟩, .slice da dm dc)) HH8.out
                have cP8 := ((HB8.out.cell (block_lt cP0)).trans cP0)
                have hAB := fun (x : Above w8) (b k : Nat) (h : b < w8.heap.size) => Above.cell x b k h
                have hbltP : bP < w8.heap.size := block_lt cP8
                have hbltE : wr.heap.size < w8.heap.size := block_lt e0
                go_wp2
                refine wp_region_walk 12 [(11, .lit w8.heap.size 53 #[.int .u64 (flags : Int), .int .u64 (addr : Int), .int .u64 (pl : Int), .int .u64 (size : Int)])] (by kernel_rfl) (by kernel_rfl) ?_
                simp only [List.take_succ_cons, List.take_zero, List.drop_succ_cons, List.drop_zero]
                repeat (first
                  | (refine walk_quiet rfl rfl rfl ?_; intro K hK; go_big_quiet_op; go_big_quiet_on)
                  | (refine walk_lit rfl rfl (fun wx hwx _ => WpYld.val (run_l4 rfl rfl rfl rfl) (Yld.lit_mk _ hwx).1 (Yld.lit_mk _ hwx).2) (fun gc2 => ?_); go_frame))
                refine walk_nil ?_
                intro wy hby hF
                obtain ⟨hgB, hgl2⟩ := Yld.lit_got (hF 11 _ 122 _ rfl rfl rfl rfl)
                have HLT2 := Lib.hid hgl2
                have HF9 := Lib.hid (HF8.out.mono hby)
                have HB9 := Lib.hid (HB8.out.trans (hby.mono HB8.out.size))
                have HHy := Lib.hid (heap_below hby HH8.out)
                have hgcg : gc2 ≠ w4.heap.size := by have := HF8.out.lt; omega
                clear hF hby hgl2 hAB hbltP hbltE cP8
                go_wp2_with fail
                refine (putF_any [flags, addr, pl, size] 8 _ w4.heap.size w4.heap.size _ _ HF9.out HLT2.out hgcg (by decide) (by have h1 := HTL.out; (try simp only [List.length_append, flat_len' (fun n => length_fixed n _), List.length_cons, List.length_nil]); omega) (Nat.le_of_ble_eq_true rfl) (by intro n hn; have h1 := HFS.out.2.1; have h2 := HFS.out.2.2.1; have h3 := HFS.out.2.2.2.2.1; dsimp only at h1 h2 h3; simp only [List.mem_cons, List.not_mem_nil, or_false] at hn; omega) HB9.out.size 4 (Nat.le_refl _)).mono ?_
                rintro r w10 ⟨rfl, hf, hb, hk⟩
                have HF10 := Lib.hid hf
                have HB10 := Lib.hid (HB9.out.trans hb)
                have HH10 := Lib.hid (hk _ _ _ _ (by omega) (by decide) HHy.out)
                clear hf hb hk
                clear e0 e1 e2 e3 e4 e5 e6 e7 e8 e9
                obtain ⟨e0, e1, e2, e3, e4, e5, e6, e7, e8, e9⟩ := sec_box (x := (⟨name, typ, flags, addr, align, size, link, info, ent, data⟩, .slice da dm dc)) HH10.out
                go_wp2_with fail
                refine (putF_any [link, info] 4 _ w4.heap.size w4.heap.size _ _ (HF10.out.mono (below_alloc _ _)) (heap_alloc_last _ _) (fun h => by have := HF10.out.lt; omega) (by decide) (by have h1 := HTL.out; (try simp only [List.length_append, flat_len' (fun n => length_fixed n _), List.length_cons, List.length_nil]); omega) (Nat.le_of_ble_eq_true rfl) (by intro n hn;  simp only [List.mem_cons, List.not_mem_nil, or_false] at hn; omega) (by rw [World.size_alloc]; have := HB10.out.size; omega) 2 (Nat.le_refl _)).mono ?_
                rintro r w11 ⟨rfl, hf, hb, hk⟩
                have HF11 := Lib.hid hf
                have HB11 := Lib.hid ((HB10.out.trans ((below_alloc w10 _).mono HB10.out.size)).trans hb)
                have HH11 := Lib.hid (hk _ _ _ _ (by omega) (by decide) (heap_below (below_alloc _ _) HH10.out))
                clear hf hb hk
                clear e0 e1 e2 e3 e4 e5 e6 e7 e8 e9
                obtain ⟨e0, e1, e2, e3, e4, e5, e6, e7, e8, e9⟩ := sec_box (x := (⟨name, typ, flags, addr, align, size, link, info, ent, data⟩, .slice da dm dc)) HH11.out
                go_wp2_with fail
                refine (putF_any [align, ent] 8 _ w4.heap.size w4.heap.size _ _ (HF11.out.mono (below_alloc _ _)) (heap_alloc_last _ _) (fun h => by have := HF11.out.lt; omega) (by decide) (by have h1 := HTL.out; (try simp only [List.length_append, flat_len' (fun n => length_fixed n _), List.length_cons, List.length_nil]); omega) (Nat.le_of_ble_eq_true rfl) (by intro n hn; have h1 := HFS.out.2.2.2.1; have h2 := HFS.out.2.2.2.2.2.2.2; dsimp only at h1 h2; simp only [List.mem_cons, List.not_mem_nil, or_false] at hn; omega) (by rw [World.size_alloc]; have := HB11.out.size; omega) 2 (Nat.le_refl _)).mono ?_
                rintro r w12 ⟨rfl, hf, hb, hk⟩
                have HF12 := Lib.hid hf
                have HB12 := Lib.hid ((HB11.out.trans ((below_alloc w11 _).mono HB11.out.size)).trans hb)
                clear hf hb hk
                clear e0 e1 e2 e3 e4 e5 e6 e7 e8 e9
                have HF13 := Lib.hid (show FileAt w12 w4.heap.size w4.heap.size (midB e ++ ((e.secs.zip ((atsOf e).zip (placesOf e).1)).take (k + 1)).flatMap fun p => hdrBy p.2.1 p.1 p.2.2) by
                  rw [HST.out, ← List.append_assoc, HT.out]
                  have := HF12.out
                  simp only [List.append_assoc] at this
                  unfold hdrBy
                  simp only [List.append_assoc]
                  exact this)
                go_wp2
                go_roundw
                case rel =>
                  first
                    | exact ⟨k + 1, by go_num, by omega, HF13.out, HB12.out⟩
                    | ((repeat apply Exists.intro); exact ⟨⟨k + 1, by go_num, by omega, HF13.out, HB12.out⟩, rfl⟩)
                case measure => simp [intOf] <;> omega
              · have hkn : (e.secs.zip ((atsOf e).zip (placesOf e).1)).take k = e.secs.zip ((atsOf e).zip (placesOf e).1) := List.take_of_length_le (by rw [List.length_zip]; have h1 := HEL.out; have h2 := HL.out; omega)
                have HF20 := Lib.hid (show FileAt wr w4.heap.size w4.heap.size (midB e ++ hdrsB e) by
                  have := HF.out
                  rw [hkn] at this
                  exact this)
                have HB20 := Lib.hid HB.out
                have HTL := Lib.hid (show (midB e ++ hdrsB e).length ≤ 8000000 by
                  unfold hdrsB
                  rw [List.length_append, HML.out, flat_len' (f := fun p : SecM × Nat × Nat => hdrBy p.2.1 p.1 p.2.2) (fun p => hdrBy_len p.2.1 p.1 p.2.2), List.length_zip]
                  have h1 := HEL.out
                  have h2 := HL.out
                  have h3 : min e.secs.length ((atsOf e).zip (placesOf e).1).length ≤ e.secs.length := Nat.min_le_left _ _
                  omega)
                have XA := Lib.hid (show (atsOf e)[nl]? = some ((atsOf e)[nl]'(by have := HALN.out; omega)) from List.getElem?_eq_getElem _)
                have hab : (atsOf e)[nl]'(by have := HALN.out; omega) ≤ 130000 := HAK.out.2 _ (List.getElem_mem _)
                obtain ⟨bA, oA, hA1, cA⟩ := HAC4.out nl (by have := HALN.out; omega)
                rw [XA.out] at cA
                generalize (atsOf e)[nl]'(by have := HALN.out; omega) = na at *
                simp only [Option.getD_some] at cA
                replace cA := (HB.out.cell (block_lt cA)).trans cA
                subst hA1
                have HFB : Hid (fileB e = midB e ++ hdrsB e ++ hdrBy na (tabSec tn) pe) := by
                  unfold fileB
                  rw [← htn.out, ← HPE.out, show e.secs.length = nl by have h1 := HEL.out; have h2 := HL.out; omega, XA.out]
                  exact rfl
                generalize hT : midB e ++ hdrsB e = T at *
                have hpe5 : pe ≤ 4194304 := hpe4
                clear HF HB hkn hT
                obtain ⟨c0, c1, c2, c3, c4, c5⟩ := elf_box (heap_base HB20.out HX4.out hG4)
                go_wp2_with fail
                clear c0 c1 c2 c3 c4 c5
                refine (putF_any [na, 3] 4 _ w4.heap.size w4.heap.size _ _ (HF20.out.mono (below_alloc _ _)) (heap_alloc_last _ _) (fun h => by have := HF20.out.lt; omega) (by decide) (by have h1 := HTL.out; (try simp only [List.length_append, flat_len' (fun n => length_fixed n _), List.length_replicate, List.length_cons, List.length_nil]); omega) (Nat.le_of_ble_eq_true rfl) (by intro n hn;  simp only [List.mem_cons, List.not_mem_nil, or_false] at hn; omega) (by rw [World.size_alloc]; have := HB20.out.size; omega) 2 (Nat.le_refl _)).mono ?_
                rintro r w21 ⟨rfl, hf, hb, hk⟩
                have HF21 := Lib.hid hf
                have HB21 := Lib.hid ((HB20.out.trans ((below_alloc wr _).mono HB20.out.size)).trans hb)
                clear hf hb hk
                obtain ⟨c0, c1, c2, c3, c4, c5⟩ := elf_box (heap_base HB21.out HX4.out hG4)
                go_wp2_with fail
                clear c0 c1 c2 c3 c4 c5
                refine (putF_any [0, 0, pe, tn] 8 _ w4.heap.size w4.heap.size _ _ (HF21.out.mono (below_alloc _ _)) (heap_alloc_last _ _) (fun h => by have := HF21.out.lt; omega) (by decide) (by have h1 := HTL.out; (try simp only [List.length_append, flat_len' (fun n => length_fixed n _), List.length_cons, List.length_nil]); omega) (Nat.le_of_ble_eq_true rfl) (by intro n hn;  simp only [List.mem_cons, List.not_mem_nil, or_false] at hn; omega) (by rw [World.size_alloc]; have := HB21.out.size; omega) 4 (Nat.le_refl _)).mono ?_
                rintro r w22 ⟨rfl, hf, hb, hk⟩
                have HF22 := Lib.hid hf
                have HB22 := Lib.hid ((HB21.out.trans ((below_alloc w21 _).mono HB21.out.size)).trans hb)
                clear hf hb hk
                obtain ⟨c0, c1, c2, c3, c4, c5⟩ := elf_box (heap_base HB22.out HX4.out hG4)
                go_wp2_with fail
                clear c0 c1 c2 c3 c4 c5
                refine (putF_any [0, 0] 4 _ w4.heap.size w4.heap.size _ _ (HF22.out.mono (below_alloc _ _)) (heap_alloc_last _ _) (fun h => by have := HF22.out.lt; omega) (by decide) (by have h1 := HTL.out; (try simp only [List.length_append, flat_len' (fun n => length_fixed n _), List.length_cons, List.length_nil]); omega) (Nat.le_of_ble_eq_true rfl) (by intro n hn;  simp only [List.mem_cons, List.not_mem_nil, or_false] at hn; omega) (by rw [World.size_alloc]; have := HB22.out.size; omega) 2 (Nat.le_refl _)).mono ?_
                rintro r w23 ⟨rfl, hf, hb, hk⟩
                have HF23 := Lib.hid hf
                have HB23 := Lib.hid ((HB22.out.trans ((below_alloc w22 _).mono HB22.out.size)).trans hb)
                clear hf hb hk
                obtain ⟨c0, c1, c2, c3, c4, c5⟩ := elf_box (heap_base HB23.out HX4.out hG4)
                go_wp2_with fail
                clear c0 c1 c2 c3 c4 c5
                refine (putF_any [1, 0] 8 _ w4.heap.size w4.heap.size _ _ (HF23.out.mono (below_alloc _ _)) (heap_alloc_last _ _) (fun h => by have := HF23.out.lt; omega) (by decide) (by have h1 := HTL.out; (try simp only [List.length_append, flat_len' (fun n => length_fixed n _), List.length_cons, List.length_nil]); omega) (Nat.le_of_ble_eq_true rfl) (by intro n hn;  simp only [List.mem_cons, List.not_mem_nil, or_false] at hn; omega) (by rw [World.size_alloc]; have := HB23.out.size; omega) 2 (Nat.le_refl _)).mono ?_
                rintro r w24 ⟨rfl, hf, hb, hk⟩
                have HF24 := Lib.hid hf
                have HB24 := Lib.hid ((HB23.out.trans ((below_alloc w23 _).mono HB23.out.size)).trans hb)
                clear hf hb hk
                obtain ⟨v24, hg24, hbg24, hov24⟩ := HF24.out
                have z24 := cell_rec hg24 0
                simp only [List.getElem?_toArray, List.getElem?_cons_zero] at z24
                have HV24 := Lib.hid hov24
                clear hg24 hov24
                go_wp2
                go_ret2
                refine ⟨_, by rw [HR.out]; rfl, ?_, HB4w.out.trans (HB24.out.mono (by omega))⟩
                rw [HR.out]
                show OB w24 w.heap.size v24 (fileB e)
                rw [HFB.out]
                have := HV24.out.base (show w.heap.size ≤ w4.heap.size by omega)
                unfold hdrBy
                simp only [List.append_assoc] at this ⊢
                exact this
end Go.Proofs.Ytgjoimcgiofinaa
