/-
  Memory of pages: pages are mapped, and nothing is wrong.
-/
import Derived.Test.YtklgbkhnflodaaaPg4
namespace Go.Proofs.Ytklgbkhnflodaaa
open Go.RowKit Go.Fd

theorem find_app {L : List Ent} {k : Nat} (h : findE L k = none) (e : Ent) (he : e.n = k) : findE (L ++ [e]) k = some e := by
  unfold findE at *
  rw [List.find?_append, h]
  simp [he]
theorem or_zero8 {r : Nat} (hr : r < 8) : bits .or .i64 0 (r : Int) = (r : Int) := by
  have := or_i8 (r := 0) (q := r) (by omega) hr
  rw [Nat.zero_or] at this
  exact this
theorem foot_app {bp bm : Nat} {L : List Ent} {e : Ent} {k : Nat} (h : foot bp bm (L ++ [e]) k) : foot bp bm L k ∨ k = e.blk := by
  unfold foot at *
  rw [List.map_append, List.mem_append] at h
  rcases h with h | h | h | h
  · exact .inl (.inl h)
  · exact .inl (.inr (.inl h))
  · exact .inl (.inr (.inr h))
  · right; simpa using h

/-- What a round of Map has: the pages that are there, in this world. -/
structure Mapped (w : World) (base bp bm : Nat) (L : List Ent) (wr : World) (L1 : List Ent) (k : Nat) : Prop where
  is : PagesIs wr base bp bm L1
  st : Stirs (foot bp bm L) w wr
  ft : ∀ j, foot bp bm L1 j → foot bp bm L j ∨ w.heap.size ≤ j
  len : L1.length ≤ L.length + k

theorem Mapped.set {w wr : World} {base bp bm : Nat} {L L1 : List Ent} {k : Nat} (h : Mapped w base bp bm L wr L1 k) {e0 : Ent} (he : e0 ∈ L1) {r : Nat} (hr : r < 8) :
    Mapped w base bp bm L (wr.setCell ⟨e0.blk, 0, none⟩ (.int .i64 (r : Int))) (setE L1 e0.n r e0.c) k := by
  obtain ⟨hb, hlen, _, _, _⟩ := h.is.pg e0 he
  have ht : Stirs (· = e0.blk) wr (wr.setCell ⟨e0.blk, 0, none⟩ (.int .i64 (r : Int))) := stirs_setCell _ _ _ _ rfl
  refine ⟨h.is.upd he ht hr hlen ?_, h.st.trans ht ?_, fun j hj => h.ft j ((foot_set ..).1 hj), by rw [len_set]; exact h.len⟩
  · rw [block_set hb, pgCells_rights]
  · intro i hi e
    have := h.ft i (.inr (.inr (e ▸ List.mem_map.2 ⟨e0, he, rfl⟩)))
    rcases this with h | h
    · exact h
    · omega
theorem Mapped.new {w wr w2 : World} {base bp bm : Nat} {L L1 : List Ent} {k : Nat} (h : Mapped w base bp bm L wr L1 k) (hbase : base ≤ w.heap.size) {n : Nat} (hn : n < 18446744073709551616) (hf : findE L1 n = none)
    (hm : MapIs Try.prog 22 K64 w2 bm (putE (L1.map keyE) n (ptr wr.heap.size))) (hg : (wr.alloc (.cells (pgCells 0 zs) 66)).grownBy w2 (some bm)) :
    Mapped w base bp bm L w2 (L1 ++ [⟨n, wr.heap.size, 0, zs⟩]) (k + 1) := by
  refine ⟨h.is.new rfl (Nat.le_trans hbase h.st.size) hn (findE_none hf) hm hg, (h.st.alloc _).trans (Stirs.of_grown (S := (· = bm)) hg (fun k hk => by cases hk; rfl)) (fun i _ e => .inr (.inl e)), fun j hj => ?_, by have := h.len; simp; omega⟩
  rcases foot_app hj with h1 | h1
  · exact h.ft j h1
  · right
    have := h.st.size
    simp at h1
    omega

theorem exec_buildp {e : Operand → Value} {w : World} {d : Option Tmp} {ty : TypeId} {pos : String} {aft : Array Edge} {g : Option (Nat × Bool)} : (execOp e ⟨d, .build 66 #[], ty, pos, aft, g⟩).run Try.prog w = .ok (.value (.agg (pgCells 0 zs))) w := by
  simp [execOp, build_page]
theorem exec_boxp {e : Operand → Value} {w : World} {d : Option Tmp} {x : Operand} {ty : TypeId} {pos : String} {aft : Array Edge} {g : Option (Nat × Bool)} (hx : e x = .agg (pgCells 0 zs)) :
    (execOp e ⟨d, .box 66 x, ty, pos, aft, g⟩).run Try.prog w = .ok (.value (.pointer (some ⟨w.heap.size, 0, none⟩))) (w.alloc (.cells (pgCells 0 zs) 66)) := by
  simp [execOp, hx, box_page]

set_option maxRecDepth 100000 in
set_option maxHeartbeats 400000 in
theorem map_ok {base bp bm : Nat} {L : List Ent} (w : World) (hp : PagesIs w base bp bm L) (hbase : base ≤ w.heap.size) (hL : L.length ≤ 1000000) (a n r : Nat) (h : 1 ≤ r) (h7 : r ≤ 7) (hn : 1 ≤ n) (ho : a + n ≤ 18446744073709551616)
    (hc : clashB L (a / 4096) ((a + n - 1) / 4096) r = false) (hg : longB L (a / 4096) ((a + n - 1) / 4096) = false) :
    Calls Try.prog 10 #[ptr bp, .int .u64 a, .int .u64 n, .int .i64 r] w fun e w' => e = .returned (.int .i64 0) ∧ ∃ L', vw L' = mapV r (vw L) (a / 4096) ((a + n - 1) / 4096 + 1 - a / 4096) ∧ Mapped w base bp bm L w' L' 4096 := by
  have hz : (((n : Nat) : Int) == 0) = false := by simp; omega
  have HT := Lib.hid (there_is w hp (a / 4096) ((a + n - 1) / 4096) r (by omega) (by omega) (by omega))
  rw [hc] at HT
  have hle := thereN_le L (a / 4096) ((a + n - 1) / 4096)
  have hg' : (a + n - 1) / 4096 - a / 4096 < 4096 ∧ L.length - thereN L (a / 4096) ((a + n - 1) / 4096) + ((a + n - 1) / 4096 - a / 4096 + 1) ≤ 4096 := by
    unfold longB at hg; simp at hg; omega
  have hfl : a / 4096 ≤ (a + n - 1) / 4096 := Nat.div_le_div_right (by omega)
  obtain ⟨hg1, hg2⟩ := hg'
  clear hc hg
  generalize thereN L (a / 4096) ((a + n - 1) / 4096) = q at *
  have HP := Lib.hid hp
  clear hp
  have e1 : (((a / 4096 : Nat)) : Int) = (a : Int) / 4096 := Int.natCast_ediv ..
  have e2 : ((((a + n - 1) / 4096 : Nat)) : Int) = ((a + n - 1 : Nat) : Int) / 4096 := Int.natCast_ediv ..
  have hlim : (a + n - 1) / 4096 < 4503599627370496 := by omega
  generalize hF : a / 4096 = F at *
  generalize hG : (a + n - 1) / 4096 = G at *
  have E1 := Lib.hid e1
  have E2 := Lib.hid e2
  clear hF hG
  rw [e1, e2] at HT
  clear e1 e2
  go_enter Try.func10, Try.ntmps10
  go_wp2_with (first
    | (go_at_call 20; go_must (refine (last_in a n _ (by omega) (by omega)).mono ?_; rintro e w1 ⟨rfl, rfl⟩))
    | (go_at_call 21; go_must (refine (none_is _ HP.out).mono ?_; rintro e w1 ⟨rfl, rfl⟩))
    | (go_at_call 22; go_must (refine HT.out.mono ?_; rintro e w1 ⟨rfl, hb1⟩; obtain ⟨c0, c1⟩ := (HP.out.mono hb1).cells; have hlen := (HP.out.mono hb1).hm.len (t := 56) (e := 63) TM.ht 3; rw [List.length_map] at hlen; have e1 := E1.out.symm; have e2 := E2.out.symm)))
  have HM0 := Lib.hid (show Mapped w base bp bm L w1 L 0 from ⟨HP.out.mono hb1, Stirs.of_below hb1, fun _ h => .inl h, by omega⟩)
  have hr8 : r < 8 := by omega
  clear e1 e2 c0 c1 hlen
  go_loopw [15] (fun kv wr => ∃ (k : Nat) (L1 : List Ent), kv = .int .u64 k ∧ F ≤ k ∧ k ≤ G + 1 ∧ Hid (mapV r (vw L1) k (G + 1 - k) = mapV r (vw L) F (G + 1 - F)) ∧ Hid (Mapped w base bp bm L wr L1 (k - F))) (fun kv _ => G + 1 - (intOf kv).toNat)
  case atStart => exact ⟨F, L, rfl, Nat.le_refl _, by omega, rfl, by rw [Nat.sub_self]; exact HM0.out⟩
  case round =>
    obtain ⟨k, L1, rfl, hk1, hk2, HV, HMM⟩ := hrel
    by_cases hlt : k ≤ G
    · have HS := Lib.hid (show mapV r (vw L1) k (G + 1 - k) = mapV r (addP (vw L1) k r) (k + 1) (G + 1 - (k + 1)) by rw [show G + 1 - k = (G + 1 - (k + 1)) + 1 by omega, mapV])
      have HSz := Lib.hid (Nat.le_trans hbase HMM.out.st.size)
      obtain ⟨c0, c1⟩ := HMM.out.is.cells
      cases hf : findE L1 k with
      | some e0 =>
        have hl := HMM.out.is.lookK_some k (by omega) hf
        have HFM := Lib.hid (findE_mem hf)
        have hc := (HMM.out.is.page HFM.out.1).1
        have hr0 := (HMM.out.is.pg e0 HFM.out.1).2.2.2.2
        obtain ⟨q2, HQ, hq2, hor⟩ : ∃ q2, Hid (q2 = e0.r ||| r) ∧ q2 < 8 ∧ bits .or .i64 (e0.r : Int) (r : Int) = (q2 : Int) := ⟨_, rfl, or_lt8 hr0 hr8, or_i8 hr0 hr8⟩
        have hfr := block_free (HMM.out.is.pg e0 HFM.out.1).1 0
        clear hf
        have HV2 := Lib.hid (show mapV r (vw (setE L1 e0.n q2 e0.c)) (k + 1) (G + 1 - (k + 1)) = mapV r (vw L) F (G + 1 - F) by
          rw [HQ.out, vw_set HMM.out.is.nodup HFM.out.1, HFM.out.2, ← HS.out]; exact HV.out)
        have HN := Lib.hid (show Mapped w base bp bm L (wr.setCell ⟨e0.blk, 0, none⟩ (.int .i64 (q2 : Int))) (setE L1 e0.n q2 e0.c) (k + 1 - F) from
          let m := HMM.out.set HFM.out.1 hq2; ⟨m.is, m.st, m.ft, by have := m.len; omega⟩)
        go_wp2
        go_roundw
        case rel => exact ⟨k + 1, _, by go_num, by omega, by omega, HV2.out, HN.out⟩
        case measure => simp [intOf] <;> omega
      | none =>
        have hl := HMM.out.is.lookK_none k (by omega) hf
        have HF := Lib.hid hf
        have hroom : (L1.map keyE).length < maxLen := by have := HMM.out.len; unfold maxLen; rw [List.length_map]; omega
        have HRO := Lib.hid hroom
        have hor := or_zero8 hr8
        clear hf hroom
        go_wp2_with (first
          | (with_reducible show wpList _ _ _ (⟨some 93, _, _, _, _, _⟩ :: _) _ _; go_must (refine wpList_val rfl exec_buildp ?_))
          | (with_reducible show wpList _ _ _ (⟨some 94, _, _, _, _, _⟩ :: _) _ _; go_must (refine wpList_val rfl (exec_boxp rfl) ?_))
          | (at_mapUpdate; go_must (refine wpList_storeM TM (HMM.out.is.hm.mono (below_alloc _ _)) HRO.out (key := k) (key64 k (by omega)) rfl rfl rfl ?_; intro w2 hm2 hg2 hs2; have HNEW := Lib.hid (HMM.out.new hbase (by omega) HF.out hm2 hg2); have HFND := Lib.hid (find_app HF.out ⟨k, wr.heap.size, 0, zs⟩ rfl); clear hm2 hg2 hs2 hl c0 c1; obtain ⟨c0, c1⟩ := HNEW.out.is.cells; have hl := HNEW.out.is.lookK_some k (by omega) HFND.out; have HMEM := Lib.hid (findE_mem HFND.out).1; have hc := (HNEW.out.is.page HMEM.out).1; have hfr := block_free (HNEW.out.is.pg _ HMEM.out).1 0)))
        have hne : k ∉ L1.map (·.n) := findE_none HF.out
        go_roundw
        case rel =>
          have m := HNEW.out.set HMEM.out hr8
          exact ⟨k + 1, _, by go_num, by omega, by omega, by rw [vw_new hne, ← HS.out]; exact HV.out, ⟨m.is, m.st, m.ft, by have := m.len; omega⟩⟩
        case measure => simp [intOf] <;> omega
    · obtain rfl : k = G + 1 := by omega
      go_wp2
      go_ret
      have hv := HV.out
      rw [Nat.sub_self, mapV] at hv
      have m := HMM.out
      exact ⟨rfl, L1, hv, m.is, m.st, m.ft, by have := m.len; omega⟩
end Go.Proofs.Ytklgbkhnflodaaa
