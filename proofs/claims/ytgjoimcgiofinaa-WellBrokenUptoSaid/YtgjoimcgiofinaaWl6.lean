/-
  Part 6 of 7: laws and walks for well_both; no condition of its own.
-/
import Derived.Test.YtgjoimcgiofinaaWl5
import Derived.Deep.DeepCutAuto
import Derived.Test.YtgjoimcgiofinaaRows
import Derived.ProofKit
import Derived.SizedLaws
import Derived.OpenShut
import Derived.Lib.SmallJoins
import Derived.Deep.Fields
import Derived.SliceStrings
import Derived.Deep.Slices
import Derived.JoinedCond
import Derived.Shelf.Vars
namespace Go.Proofs.Ytgjoimcgiofinaa
open Go.RowKit Go.Fd
attribute [local irreducible] walk
set_option maxHeartbeats 8000000 in
set_option maxRecDepth 100000 in
theorem wSegments_any {w0 w : World} {p : Nat} {l : List UInt8} {bv : Value} {F : List FlM} {S : List WSec} {G : List WSeg} {fv sv : Value} {gm gc : Nat} {ga : Option Addr} (h : Lk w0 w p l bv F S G fv sv (.slice ga gm gc)) (hl : l.length ≤ 1000000000) (hG : G.length ≤ 300) (hfit : ∀ s ∈ G, WSeg.fits s) (hF : F.length ≤ 500000) :
    Calls Try.prog 75 #[.pointer (some ⟨p, 0, none⟩)] w fun r w' => r = .returned (.tuple #[]) ∧ ∃ X fm fa fc, Lk w0 w' p l bv (F ++ X) S G (.slice fa fm fc) sv (.slice ga gm gc) ∧ (∀ f ∈ X, f.code ≥ 8 ∧ (0 < G.length ∨ gN l 16 2 = 2)) := by
  have HFT := Lib.hid hfit
  have HGM := Lib.hid (own_len h.g)
  have HG := Lib.hid hG
  have hgm9 : gm ≤ 300 := by have := own_len h.g; omega
  have HL9 := Lib.hid hl
  obtain ⟨sm, sa, sc, -, rfl, _, _⟩ := h.s.shape
  obtain ⟨bm, ba, bc, hbm, rfl, _, _⟩ := h.b.shape
  have hbm9 : bm ≤ 1000000000 := by have := hbm.out; omega
  obtain ⟨fm0, fa0, fc0, -, rfl, _, _⟩ := h.f.shape
  have HL0 := Lib.hid (show Lk w0 w p l (.slice ba bm bc) (F ++ []) S G (.slice fa0 fm0 fc0) (.slice sa sm sc) (.slice ga gm gc) by rw [List.append_nil]; exact h)
  obtain ⟨-, -, -, c3⟩ := h.cells
  have HB24 := Lib.hid (gN8 l 24)
  have hty9 := gN2 l 16
  generalize hty : gN l 16 2 = ty at *
  have HTY := Lib.hid hty
  clear h hfit hl hG hty
  go_enter Try.func75, Try.ntmps75
  go_wp2
  clear c3
  go_loopw [2, 3, 16] (fun _ _ i wr => ∃ (k : Nat) (X : List FlM) (fm : Nat) (fa : Option Addr) (fc : Nat), i = .int .i64 k ∧ k ≤ gm ∧ Hid (Lk w0 wr p l (.slice ba bm bc) (F ++ X) S G (.slice fa fm fc) (.slice sa sm sc) (.slice ga gm gc)) ∧ Hid (∀ f ∈ X, f.code ≥ 8 ∧ (0 < G.length ∨ ty = 2)) ∧ X.length ≤ k) (fun _ _ i _ => gm - (intOf i).toNat)
  case atStart => exact ⟨0, [], fm0, fa0, fc0, rfl, Nat.zero_le _, HL0.out, (fun f hf => by cases hf), by simp⟩
  case round =>
    obtain ⟨k, X, fm, fa, fc, rfl, hk, HLR, HX, hxl⟩ := hrel
    by_cases hlt : k < gm
    · have X1 := Lib.hid (show G[k]? = some (G[k]'(by have := HGM.out; omega)) from List.getElem?_eq_getElem _)
      generalize G[k]'(by have := HGM.out; omega) = s at *
      have hft := HFT.out s (List.mem_of_getElem? X1.out)
      have HPOS := Lib.hid (show 0 < G.length by have := HGM.out; omega)
      obtain ⟨b2, o2, ha2, u0, u1, u2, u3, u4, u5, u6, u7⟩ := row_wg HLR.out.g X1.out
      subst ha2
      have HWI := Lib.hid (fun (wx : World) => wWithin_any s.pl s.psize bm wx hft.2.1 hft.2.2.1 hbm9)
      clear hft
      generalize withinB s.pl s.psize bm = wi at *
      go_wp2_with ((with_reducible show wpList _ _ _ (⟨none, .store _ _ _, _, _, _, _⟩ :: _) _ _); go_must (refine wpList_storeNew rfl rfl (by kernel_rfl) rfl (by simp [Value.oneCell']) ?_; intro w7 hh7 hb7; have HH7 := Lib.hid (show w7.heap[wr.heap.size]? = some (.cells (encWG s).toArray 140 (0, 0)) from hh7); have HL7 := Lib.hid (HLR.out.mono hb7); obtain ⟨q0, q1, q2, q3, q4, q5, q6, q7⟩ := seg8 HH7.out; clear hh7 hb7))
      obtain ⟨c0, -, -, -⟩ := HL7.out.cells
      clear u0 u1 u2 u3 u4 u5 u6 u7
      have hAB := fun (x : Above w7) (b k : Nat) (h : b < w7.heap.size) => Above.cell x b k h
      have l1 := block_lt c0
      have l2 := block_lt q0
      cases wi with
      | false =>
        refine wp_region_walk 20 [(8, .is (.bool false))] (by kernel_rfl) (by kernel_rfl) ?_
        simp only [List.take_succ_cons, List.take_zero, List.drop_succ_cons, List.drop_zero]
        try go_frame
        repeat (first
          | (refine walk_quiet rfl rfl rfl ?_; intro K hK; go_big_quiet_op; go_big_quiet_on)
          | (refine walk_skip rfl ?_; go_frame)
          | (refine walk_check rfl rfl rfl ?_; go_frame))
        refine walk_is rfl rfl (fun wx hwx _ => WpYld.callIsB (run_callL (vals := [_, _]) Try.func104 (by kernel_rfl) rfl rfl) (HWI.out wx)) ?_
        go_frame
        repeat (first
          | (refine walk_quiet rfl rfl rfl ?_; intro K hK; go_big_quiet_op; go_big_quiet_on)
          | (refine walk_skip rfl ?_; go_frame)
          | (refine walk_check rfl rfl rfl ?_; go_frame))
        refine walk_nil ?_
        intro w8 hb8 hF8
        have HL8 := Lib.hid (HL7.out.mono hb8)
        clear hF8 hb8 hAB l1 l2 c0 q0 q1 q2 q3 q4 q5 q6 q7
        go_wp2_with (go_at_call 102; refine (wNote_any HL8.out _ _ _ _ (by rw [List.length_append]; omega)).mono ?_; rintro e w9 ⟨rfl, Y, fm9, fa9, fc9, hY, hYl, hk9, hkk9⟩; have HL9 := Lib.hid (show Lk w0 w9 p l (.slice ba bm bc) (F ++ (X ++ Y)) S G (.slice fa9 fm9 fc9) (.slice sa sm sc) (.slice (some ⟨b2, o2, none⟩) gm gc) by rw [← List.append_assoc]; exact hk9); have HX2 := Lib.hid (show ∀ f ∈ X ++ Y, f.code ≥ 8 ∧ (0 < G.length ∨ ty = 2) from fun f hf => (List.mem_append.1 hf).elim (HX.out f) (fun h => ⟨by rw [hY f h]; decide, .inl HPOS.out⟩)); clear hk9 hkk9 hY)
        have hx2 : (X ++ Y).length ≤ k + 1 := by rw [List.length_append]; omega
        go_round
        case rel => exact ⟨k + 1, _, fm9, fa9, fc9, by go_num, by omega, HL9.out, HX2.out, hx2⟩
        case measure => simp [intOf] <;> omega
      | true =>
        refine wp_region_walk 20 [(8, .is (.bool true))] (by kernel_rfl) (by kernel_rfl) ?_
        simp only [List.take_succ_cons, List.take_zero, List.drop_succ_cons, List.drop_zero]
        try go_frame
        repeat (first
          | (refine walk_quiet rfl rfl rfl ?_; intro K hK; go_big_quiet_op; go_big_quiet_on)
          | (refine walk_skip rfl ?_; go_frame)
          | (refine walk_check rfl rfl rfl ?_; go_frame))
        refine walk_is rfl rfl (fun wx hwx _ => WpYld.callIsB (run_callL (vals := [_, _]) Try.func104 (by kernel_rfl) rfl rfl) (HWI.out wx)) ?_
        go_frame
        repeat (first
          | (refine walk_quiet rfl rfl rfl ?_; intro K hK; go_big_quiet_op; go_big_quiet_on)
          | (refine walk_skip rfl ?_; go_frame)
          | (refine walk_check rfl rfl rfl ?_; go_frame))
        refine walk_nil ?_
        intro w8 hb8 hF8
        have HL8 := Lib.hid (HL7.out.mono hb8)
        clear hF8 hb8 hAB l1 l2 c0 q0 q1 q2 q3 q4 q5 q6 q7
        go_wp2_with (go_at_call 102; refine (wNote_any HL8.out _ _ _ _ (by rw [List.length_append]; omega)).mono ?_; rintro e w9 ⟨rfl, Y, fm9, fa9, fc9, hY, hYl, hk9, hkk9⟩; have HL9 := Lib.hid (show Lk w0 w9 p l (.slice ba bm bc) (F ++ (X ++ Y)) S G (.slice fa9 fm9 fc9) (.slice sa sm sc) (.slice (some ⟨b2, o2, none⟩) gm gc) by rw [← List.append_assoc]; exact hk9); have HX2 := Lib.hid (show ∀ f ∈ X ++ Y, f.code ≥ 8 ∧ (0 < G.length ∨ ty = 2) from fun f hf => (List.mem_append.1 hf).elim (HX.out f) (fun h => ⟨by rw [hY f h]; decide, .inl HPOS.out⟩)); clear hk9 hkk9 hY)
        have hx2 : (X ++ Y).length ≤ k + 1 := by rw [List.length_append]; omega
        go_round
        case rel => exact ⟨k + 1, _, fm9, fa9, fc9, by go_num, by omega, HL9.out, HX2.out, hx2⟩
        case measure => simp [intOf] <;> omega
    · obtain rfl : gm = k := by omega
      obtain ⟨-, -, -, c3⟩ := HLR.out.cells
      go_wp2
      clear c3
      have HLS := Lib.hid HLR.out
      obtain ⟨wo, rfl⟩ : ∃ wo : World, wo = wr := ⟨_, rfl⟩
      go_loopw [4, 5, 48] (fun _ _ i wr => ∃ (k : Nat) (X : List FlM) (fm : Nat) (fa : Option Addr) (fc : Nat), i = .int .i64 k ∧ k ≤ gm ∧ Hid (Lk w0 wr p l (.slice ba bm bc) (F ++ X) S G (.slice fa fm fc) (.slice sa sm sc) (.slice ga gm gc)) ∧ Hid (∀ f ∈ X, f.code ≥ 8 ∧ (0 < G.length ∨ ty = 2)) ∧ X.length ≤ 300 + k) (fun _ _ i _ => gm - (intOf i).toNat)
      case atStart => exact ⟨0, X, fm, fa, fc, rfl, Nat.zero_le _, HLS.out, HX.out, by omega⟩
      case round =>
        clear HLS HX hxl hk hlt HLR
        obtain ⟨k, X, fm, fa, fc, rfl, hk, HLR, HX, hxl⟩ := hrel
        by_cases hlt : k < gm
        · have X1 := Lib.hid (show G[k]? = some (G[k]'(by have := HGM.out; omega)) from List.getElem?_eq_getElem _)
          generalize G[k]'(by have := HGM.out; omega) = s at *
          have hft := HFT.out s (List.mem_of_getElem? X1.out)
          have HPOS := Lib.hid (show 0 < G.length by have := HGM.out; omega)
          obtain ⟨b2, o2, ha2, u0, u1, u2, u3, u4, u5, u6, u7⟩ := row_wg HLR.out.g X1.out
          subst ha2
          have HEV := Lib.hid (fun (wx : World) => wEven_any s wx hft)
          clear hft
          cases hq1 : ((s.typ : Int) == 1) with
          | false =>
            go_wp2_with (first
              | ((with_reducible show wpList _ _ _ (⟨none, .store _ _ _, _, _, _, _⟩ :: _) _ _); go_must (refine wpList_storeNew rfl rfl (by kernel_rfl) rfl (by simp [Value.oneCell']) ?_; intro w7 hh7 hb7; have HH7 := Lib.hid (show w7.heap[wr.heap.size]? = some (.cells (encWG s).toArray 140 (0, 0)) from hh7); have HL7 := Lib.hid (HLR.out.mono hb7); obtain ⟨q0, q1, q2, q3, q4, q5, q6, q7⟩ := seg8 HH7.out; clear hh7 hb7))
              | (go_at_call 102; refine (wNote_any HL7.out _ _ _ _ (by rw [List.length_append]; omega)).mono ?_; rintro e w9 ⟨rfl, Y, fm9, fa9, fc9, hY, hYl, hk9, hkk9⟩; have HL9 := Lib.hid (show Lk w0 w9 p l (.slice ba bm bc) (F ++ (X ++ Y)) S G (.slice fa9 fm9 fc9) (.slice sa sm sc) (.slice (some ⟨b2, o2, none⟩) gm gc) by rw [← List.append_assoc]; exact hk9); have HX2 := Lib.hid (show ∀ f ∈ X ++ Y, f.code ≥ 8 ∧ (0 < G.length ∨ ty = 2) from fun f hf => (List.mem_append.1 hf).elim (HX.out f) (fun h => ⟨by rw [hY f h]; decide, .inl HPOS.out⟩)); clear hk9 hkk9 hY))
            have hx2 : (X ++ Y).length ≤ 300 + (k + 1) := by rw [List.length_append]; omega
            go_round
            case rel => exact ⟨k + 1, _, fm9, fa9, fc9, by go_num, by omega, HL9.out, HX2.out, hx2⟩
            case measure => simp [intOf] <;> omega
          | true =>
            go_wp2_with (first
              | ((with_reducible show wpList _ _ _ (⟨none, .store _ _ _, _, _, _, _⟩ :: _) _ _); go_must (refine wpList_storeNew rfl rfl (by kernel_rfl) rfl (by simp [Value.oneCell']) ?_; intro w7 hh7 hb7; have HH7 := Lib.hid (show w7.heap[wr.heap.size]? = some (.cells (encWG s).toArray 140 (0, 0)) from hh7); have HL7 := Lib.hid (HLR.out.mono hb7); obtain ⟨q0, q1, q2, q3, q4, q5, q6, q7⟩ := seg8 HH7.out; clear hh7 hb7))
              | (go_at_call 109; refine (HEV.out _).mono ?_; rintro e wu ⟨⟨bb, rfl⟩, hbu⟩; have HLU := Lib.hid (HL7.out.mono hbu); clear hbu q0 q1 q2 q3 q4 q5 q6 q7)
              | (go_at_call 102; refine (wNote_any HLU.out _ _ _ _ (by rw [List.length_append]; omega)).mono ?_; rintro e w9 ⟨rfl, Y, fm9, fa9, fc9, hY, hYl, hk9, hkk9⟩; have HL9 := Lib.hid (show Lk w0 w9 p l (.slice ba bm bc) (F ++ (X ++ Y)) S G (.slice fa9 fm9 fc9) (.slice sa sm sc) (.slice (some ⟨b2, o2, none⟩) gm gc) by rw [← List.append_assoc]; exact hk9); have HX2 := Lib.hid (show ∀ f ∈ X ++ Y, f.code ≥ 8 ∧ (0 < G.length ∨ ty = 2) from fun f hf => (List.mem_append.1 hf).elim (HX.out f) (fun h => ⟨by rw [hY f h]; decide, .inl HPOS.out⟩)); clear hk9 hkk9 hY))
            have hx2 : (X ++ Y).length ≤ 300 + (k + 1) := by rw [List.length_append]; omega
            go_round
            case rel => exact ⟨k + 1, _, fm9, fa9, fc9, by go_num, by omega, HL9.out, HX2.out, hx2⟩
            case measure => simp [intOf] <;> omega
        · obtain rfl : gm = k := by omega
          go_wp2_with fail
          refine (wPairs1_any HLR.out HG.out HFT.out 10 (by rw [List.length_append]; omega)).mono ?_
          rintro e wn ⟨rfl, Xn, fmn, fan, fcn, hkn, hxn, hln⟩
          have HLN := Lib.hid (show Lk w0 wn p l (.slice ba bm bc) (F ++ (X ++ Xn)) S G (.slice fan fmn fcn) (.slice sa sm sc) (.slice ga gm gc) by rw [← List.append_assoc]; exact hkn)
          have HXN := Lib.hid (show ∀ f ∈ X ++ Xn, f.code ≥ 8 ∧ (0 < G.length ∨ ty = 2) from fun f hf => (List.mem_append.1 hf).elim (HX.out f) (fun h => ⟨by rw [(hxn f h).1]; decide, .inl (hxn f h).2⟩))
          have hxnl : (X ++ Xn).length ≤ 100600 := by rw [List.length_append]; omega
          clear hkn hxn hln hxl HLR HX
          obtain ⟨-, -, -, c3⟩ := HLN.out.cells
          go_wp2
          clear c3
          generalize X ++ Xn = XN at *
          go_loopw [6, 7, 72] (fun _ _ i wr => ∃ (k : Nat) (X : List FlM) (fm : Nat) (fa : Option Addr) (fc : Nat), i = .int .i64 k ∧ k ≤ gm ∧ Hid (Lk w0 wr p l (.slice ba bm bc) (F ++ X) S G (.slice fa fm fc) (.slice sa sm sc) (.slice ga gm gc)) ∧ Hid (∀ f ∈ X, f.code ≥ 8 ∧ (0 < G.length ∨ ty = 2)) ∧ X.length ≤ 100600 + k) (fun _ _ i _ => gm - (intOf i).toNat)
          case atStart => exact ⟨0, XN, fmn, fan, fcn, rfl, Nat.zero_le _, HLN.out, HXN.out, by omega⟩
          case round =>
            clear HLN HXN hxnl hk hlt
            obtain ⟨k, X, fm, fa, fc, rfl, hk, HLR, HX, hxl⟩ := hrel
            by_cases hlt : k < gm
            · have X1 := Lib.hid (show G[k]? = some (G[k]'(by have := HGM.out; omega)) from List.getElem?_eq_getElem _)
              generalize G[k]'(by have := HGM.out; omega) = s at *
              have hft := HFT.out s (List.mem_of_getElem? X1.out)
              have HPOS := Lib.hid (show 0 < G.length by have := HGM.out; omega)
              obtain ⟨b2, o2, ha2, u0, u1, u2, u3, u4, u5, u6, u7⟩ := row_wg HLR.out.g X1.out
              subst ha2
              clear hft
              cases hq1 : ((s.typ : Int) == 1) with
              | false =>
                go_wp2_with (first
                  | ((with_reducible show wpList _ _ _ (⟨none, .store _ _ _, _, _, _, _⟩ :: _) _ _); go_must (refine wpList_storeNew rfl rfl (by kernel_rfl) rfl (by simp [Value.oneCell']) ?_; intro w7 hh7 hb7; have HH7 := Lib.hid (show w7.heap[wr.heap.size]? = some (.cells (encWG s).toArray 140 (0, 0)) from hh7); have HL7 := Lib.hid (HLR.out.mono hb7); obtain ⟨q0, q1, q2, q3, q4, q5, q6, q7⟩ := seg8 HH7.out; clear hh7 hb7))
                  | (go_at_call 102; refine (wNote_any HL7.out _ _ _ _ (by rw [List.length_append]; omega)).mono ?_; rintro e w9 ⟨rfl, Y, fm9, fa9, fc9, hY, hYl, hk9, hkk9⟩; have HL9 := Lib.hid (show Lk w0 w9 p l (.slice ba bm bc) (F ++ (X ++ Y)) S G (.slice fa9 fm9 fc9) (.slice sa sm sc) (.slice (some ⟨b2, o2, none⟩) gm gc) by rw [← List.append_assoc]; exact hk9); have HX2 := Lib.hid (show ∀ f ∈ X ++ Y, f.code ≥ 8 ∧ (0 < G.length ∨ ty = 2) from fun f hf => (List.mem_append.1 hf).elim (HX.out f) (fun h => ⟨by rw [hY f h]; decide, .inl HPOS.out⟩)); clear hk9 hkk9 hY))
                have hx2 : (X ++ Y).length ≤ 100600 + (k + 1) := by rw [List.length_append]; omega
                go_round
                case rel => exact ⟨k + 1, _, fm9, fa9, fc9, by go_num, by omega, HL9.out, HX2.out, hx2⟩
                case measure => simp [intOf] <;> omega
              | true =>
                go_wp2_with (first
                  | ((with_reducible show wpList _ _ _ (⟨none, .store _ _ _, _, _, _, _⟩ :: _) _ _); go_must (refine wpList_storeNew rfl rfl (by kernel_rfl) rfl (by simp [Value.oneCell']) ?_; intro w7 hh7 hb7; have HH7 := Lib.hid (show w7.heap[wr.heap.size]? = some (.cells (encWG s).toArray 140 (0, 0)) from hh7); have HL7 := Lib.hid (HLR.out.mono hb7); obtain ⟨q0, q1, q2, q3, q4, q5, q6, q7⟩ := seg8 HH7.out; clear hh7 hb7))
                  | (go_at_call 102; refine (wNote_any HL7.out _ _ _ _ (by rw [List.length_append]; omega)).mono ?_; rintro e w9 ⟨rfl, Y, fm9, fa9, fc9, hY, hYl, hk9, hkk9⟩; have HL9 := Lib.hid (show Lk w0 w9 p l (.slice ba bm bc) (F ++ (X ++ Y)) S G (.slice fa9 fm9 fc9) (.slice sa sm sc) (.slice (some ⟨b2, o2, none⟩) gm gc) by rw [← List.append_assoc]; exact hk9); have HX2 := Lib.hid (show ∀ f ∈ X ++ Y, f.code ≥ 8 ∧ (0 < G.length ∨ ty = 2) from fun f hf => (List.mem_append.1 hf).elim (HX.out f) (fun h => ⟨by rw [hY f h]; decide, .inl HPOS.out⟩)); clear hk9 hkk9 hY))
                have hx2 : (X ++ Y).length ≤ 100600 + (k + 1) := by rw [List.length_append]; omega
                go_round
                case rel => exact ⟨k + 1, _, fm9, fa9, fc9, by go_num, by omega, HL9.out, HX2.out, hx2⟩
                case measure => simp [intOf] <;> omega
            · obtain rfl : gm = k := by omega
              go_wp2_with fail
              refine (wPairs2_any HLR.out HG.out HFT.out 12 (by rw [List.length_append]; omega)).mono ?_
              rintro e wn2 ⟨rfl, Xm, fmm, fam, fcm, hkn, hxn, hln⟩
              have HLM := Lib.hid (show Lk w0 wn2 p l (.slice ba bm bc) (F ++ (X ++ Xm)) S G (.slice fam fmm fcm) (.slice sa sm sc) (.slice ga gm gc) by rw [← List.append_assoc]; exact hkn)
              have HXM := Lib.hid (show ∀ f ∈ X ++ Xm, f.code ≥ 8 ∧ (0 < G.length ∨ ty = 2) from fun f hf => (List.mem_append.1 hf).elim (HX.out f) (fun h => ⟨by rw [(hxn f h).1]; decide, .inl (hxn f h).2⟩))
              have hxml : (X ++ Xm).length ≤ 201000 := by rw [List.length_append]; omega
              clear hkn hxn hln hxl HLR HX
              have HU16 := Lib.hid (wU_any HLM.out 16 2 HL9.out)
              rw [HTY.out] at HU16
              obtain ⟨-, -, -, c3⟩ := HLM.out.cells
              generalize X ++ Xm = XM at *
              by_cases h2 : ty = 2
              · have e2 : ((ty : Int) == 2) = true := by rw [h2]; rfl
                have H2 := Lib.hid h2
                clear h2
                go_wp2_with (go_at_call 103; refine HU16.out.mono ?_; rintro e wu ⟨rfl, rfl⟩)
                clear c3 e2
                go_loopw [8, 10, 100] (fun b _ i wr => (∃ bb, b = .bool bb) ∧ ∃ (k : Nat), i = .int .i64 k ∧ k ≤ gm ∧ Hid (Lk w0 wr p l (.slice ba bm bc) (F ++ XM) S G (.slice fam fmm fcm) (.slice sa sm sc) (.slice ga gm gc))) (fun _ _ i _ => gm - (intOf i).toNat)
                case atStart => exact ⟨⟨_, rfl⟩, 0, rfl, Nat.zero_le _, HLM.out⟩
                case round =>
                  clear hk hlt
                  obtain ⟨⟨bb, rfl⟩, k, rfl, hk, HLR⟩ := hrel
                  by_cases hlt : k < gm
                  · have X1 := Lib.hid (show G[k]? = some (G[k]'(by have := HGM.out; omega)) from List.getElem?_eq_getElem _)
                    generalize G[k]'(by have := HGM.out; omega) = s at *
                    have hft := HFT.out s (List.mem_of_getElem? X1.out)
                    have HPOS := Lib.hid (show 0 < G.length by have := HGM.out; omega)
                    obtain ⟨b2, o2, ha2, u0, u1, u2, u3, u4, u5, u6, u7⟩ := row_wg HLR.out.g X1.out
                    subst ha2
                    have HCM := Lib.hid (fun (wx : World) => wCommon_any s.mem s.msize (gN l 24 8) 1 wx hft.2.2.2.1 HB24.out hft.2.2.2.2 (by decide))
                    generalize commonB s.mem s.msize (gN l 24 8) 1 = cm at *
                    clear hft
                    go_wp2_with ((with_reducible show wpList _ _ _ (⟨none, .store _ _ _, _, _, _, _⟩ :: _) _ _); go_must (refine wpList_storeNew rfl rfl (by kernel_rfl) rfl (by simp [Value.oneCell']) ?_; intro w7 hh7 hb7; have HH7 := Lib.hid (show w7.heap[wr.heap.size]? = some (.cells (encWG s).toArray 140 (0, 0)) from hh7); have HL7 := Lib.hid (HLR.out.mono hb7); obtain ⟨q0, q1, q2, q3, q4, q5, q6, q7⟩ := seg8 HH7.out; clear hh7 hb7))
                    clear u0 u1 u2 u3 u4 u5 u6 u7
                    have HU24 := Lib.hid (fun (wx : World) (hwx : Below w7.heap.size w7 wx) => wU_any (HL7.out.mono hwx) 24 8 HL9.out)
                    have hAB := fun (x : Above w7) (b k : Nat) (h : b < w7.heap.size) => Above.cell x b k h
                    have l2 := block_lt q0
                    cases bb with
                    | true =>
                      refine wp_region_walk 21 [(15, .is (U6 (gN l 24 8))), (17, .is (.bool cm))] (by kernel_rfl) (by kernel_rfl) ?_
                      simp only [List.take_succ_cons, List.take_zero, List.drop_succ_cons, List.drop_zero]
                      try go_frame
                      repeat (first
                        | (refine walk_quiet rfl rfl rfl ?_; intro K hK; go_big_quiet_op; go_big_quiet_on)
                        | (refine walk_skip rfl ?_; go_frame)
                        | (refine walk_check rfl rfl rfl ?_; go_frame))
                      refine walk_nil ?_
                      intro w8 hb8 hF8
                      have HL8 := Lib.hid (HL7.out.mono hb8)
                      clear hF8 hb8 hAB l2 q0 q1 q2 q3 q4 q5 q6 q7
                      go_wp2
                      go_round
                      case rel => exact ⟨⟨_, rfl⟩, k + 1, by go_num, by omega, HL8.out⟩
                      case measure => simp [intOf] <;> omega
                    | false =>
                      cases hq1 : ((s.typ : Int) == 1) with
                      | false =>
                        refine wp_region_walk 21 [(15, .is (U6 (gN l 24 8))), (17, .is (.bool cm))] (by kernel_rfl) (by kernel_rfl) ?_
                        simp only [List.take_succ_cons, List.take_zero, List.drop_succ_cons, List.drop_zero]
                        try go_frame
                        repeat (first
                          | (refine walk_quiet rfl rfl rfl ?_; intro K hK; go_big_quiet_op; go_big_quiet_on)
                          | (refine walk_skip rfl ?_; go_frame)
                          | (refine walk_check rfl rfl rfl ?_; go_frame))
                        refine walk_nil ?_
                        intro w8 hb8 hF8
                        have HL8 := Lib.hid (HL7.out.mono hb8)
                        clear hF8 hb8 hAB l2 q0 q1 q2 q3 q4 q5 q6 q7
                        go_wp2
                        go_round
                        case rel => exact ⟨⟨_, rfl⟩, k + 1, by go_num, by omega, HL8.out⟩
                        case measure => simp [intOf] <;> omega
                      | true =>
                        cases hq2 : (bits .and .u64 (s.flags : Int) 1 != 0) with
                        | false =>
                          refine wp_region_walk 21 [(15, .is (U6 (gN l 24 8))), (17, .is (.bool cm))] (by kernel_rfl) (by kernel_rfl) ?_
                          simp only [List.take_succ_cons, List.take_zero, List.drop_succ_cons, List.drop_zero]
                          try go_frame
                          repeat (first
                            | (refine walk_quiet rfl rfl rfl ?_; intro K hK; go_big_quiet_op; go_big_quiet_on)
                            | (refine walk_skip rfl ?_; go_frame)
                            | (refine walk_check rfl rfl rfl ?_; go_frame))
                          refine walk_nil ?_
                          intro w8 hb8 hF8
                          have HL8 := Lib.hid (HL7.out.mono hb8)
                          clear hF8 hb8 hAB l2 q0 q1 q2 q3 q4 q5 q6 q7
                          go_wp2
                          go_round
                          case rel => exact ⟨⟨_, rfl⟩, k + 1, by go_num, by omega, HL8.out⟩
                          case measure => simp [intOf] <;> omega
                        | true =>
                          refine wp_region_walk 21 [(15, .is (U6 (gN l 24 8))), (17, .is (.bool cm))] (by kernel_rfl) (by kernel_rfl) ?_
                          simp only [List.take_succ_cons, List.take_zero, List.drop_succ_cons, List.drop_zero]
                          try go_frame
                          repeat (first
                            | (refine walk_quiet rfl rfl rfl ?_; intro K hK; go_big_quiet_op; go_big_quiet_on)
                            | (refine walk_skip rfl ?_; go_frame)
                            | (refine walk_check rfl rfl rfl ?_; go_frame))
                          refine walk_is rfl rfl (fun wx hwx _ => WpYld.callIs (run_callL (vals := [_, _, _]) Try.func103 (by kernel_rfl) rfl rfl) (HU24.out wx hwx)) ?_
                          go_frame
                          repeat (first
                            | (refine walk_quiet rfl rfl rfl ?_; intro K hK; go_big_quiet_op; go_big_quiet_on)
                            | (refine walk_skip rfl ?_; go_frame)
                            | (refine walk_check rfl rfl rfl ?_; go_frame))
                          refine walk_is rfl rfl (fun wx hwx _ => WpYld.callIsB (run_callL (vals := [_, _]) Try.func108 (by kernel_rfl) rfl rfl) (HCM.out wx)) ?_
                          go_frame
                          repeat (first
                            | (refine walk_quiet rfl rfl rfl ?_; intro K hK; go_big_quiet_op; go_big_quiet_on)
                            | (refine walk_skip rfl ?_; go_frame)
                            | (refine walk_check rfl rfl rfl ?_; go_frame))
                          refine walk_nil ?_
                          intro w8 hb8 hF8
                          have HL8 := Lib.hid (HL7.out.mono hb8)
                          clear hF8 hb8 hAB l2 q0 q1 q2 q3 q4 q5 q6 q7
                          go_wp2
                          go_round
                          case rel => exact ⟨⟨_, rfl⟩, k + 1, by go_num, by omega, HL8.out⟩
                          case measure => simp [intOf] <;> omega
                  · obtain rfl : gm = k := by omega
                    have HX := HXM
                    go_wp2_with (go_at_call 102; refine (wNote_any HLR.out _ _ _ _ (by rw [List.length_append]; omega)).mono ?_; rintro e w9 ⟨rfl, Y, fm9, fa9, fc9, hY, hYl, hk9, hkk9⟩; have HL9' := Lib.hid (show Lk w0 w9 p l (.slice ba bm bc) (F ++ (XM ++ Y)) S G (.slice fa9 fm9 fc9) (.slice sa sm sc) (.slice ga gm gc) by rw [← List.append_assoc]; exact hk9); have HX2 := Lib.hid (show ∀ f ∈ XM ++ Y, f.code ≥ 8 ∧ (0 < G.length ∨ ty = 2) from fun f hf => (List.mem_append.1 hf).elim (HX.out f) (fun h => ⟨by rw [hY f h]; decide, .inr H2.out⟩)); clear hk9 hkk9 hY)
                    go_end0
                    exact ⟨rfl, _, fm9, fa9, fc9, HL9'.out, HX2.out⟩
              · have e2 : ((ty : Int) == 2) = false := by rw [beq_eq_false_iff_ne]; omega
                have H2 := Lib.hid h2
                clear h2
                go_wp2_with (go_at_call 103; refine HU16.out.mono ?_; rintro e wu ⟨rfl, rfl⟩)
                go_end0
                exact ⟨rfl, XM, fmm, fam, fcm, HLM.out, HXM.out⟩
end Go.Proofs.Ytgjoimcgiofinaa
namespace Go.Proofs.Ytgjoimcgiofinaa
open Go.RowKit Go.Fd
theorem wpList_allocSp {ops : Array Oper} {rest : List Oper} {Q : Exit → Act → World → Prop} {a : Act} {w : World} {d : Option Tmp} {ty : TypeId} {pos : String} {aft : Array Edge}
    (h : ∀ w1, w1.heap[w.heap.size]? = some (.cells #[.int .u64 0, .int .u64 0] 135 (0, 0)) → Below w.heap.size w w1 → w.heap.size < w1.heap.size → wpList Try.prog ops Q rest (a.put d (.pointer (some ⟨w.heap.size, 0, none⟩))) w1) :
    wpList Try.prog ops Q (⟨d, .alloc 135, ty, pos, aft, none⟩ :: rest) a w :=
  wpList_val rfl (by kernel_rfl) (h (w.alloc (.cells #[.int .u64 0, .int .u64 0] 135)) (heap_alloc_last w _) (below_alloc w _) (by rw [World.size_alloc]; omega))
/-- The ways that a header's first numbers are here. -/
def HdrWay (l : List UInt8) : Prop :=
  (gN l 16 2 = 1 ∧ gN l 20 4 = 1 ∧ gN l 52 2 = 64 ∧ gN l 56 2 = 0 ∧ gN l 58 2 = 64) ∨ (gN l 16 2 = 1 ∧ gN l 20 4 = 1 ∧ gN l 52 2 = 64 ∧ 0 < gN l 56 2 ∧ gN l 54 2 = 56 ∧ gN l 58 2 = 64) ∨
  (gN l 16 2 = 2 ∧ gN l 20 4 = 1 ∧ gN l 52 2 = 64 ∧ gN l 56 2 = 0 ∧ gN l 58 2 = 64) ∨ (gN l 16 2 = 2 ∧ gN l 20 4 = 1 ∧ gN l 52 2 = 64 ∧ 0 < gN l 56 2 ∧ gN l 54 2 = 56 ∧ gN l 58 2 = 64) ∨
  (gN l 16 2 = 129) ∨ (gN l 16 2 = 1 ∧ gN l 20 4 = 129) ∨ (gN l 16 2 = 1 ∧ gN l 20 4 = 1 ∧ gN l 52 2 = 192) ∨ (gN l 16 2 = 1 ∧ gN l 20 4 = 1 ∧ gN l 52 2 = 64 ∧ gN l 56 2 = 0 ∧ gN l 58 2 = 192)
set_option maxHeartbeats 4000000 in
set_option maxRecDepth 100000 in
theorem wHeader1_any {w0 w : World} {p : Nat} {l : List UInt8} {bv : Value} {F : List FlM} {S : List WSec} {G : List WSeg} {fv sv gv : Value} (h : Lk w0 w p l bv F S G fv sv gv) (hl : l.length ≤ 1000000000) (hF : F.length ≤ 10) (hbad : bad1 l = true) :
    Calls Try.prog 72 #[.pointer (some ⟨p, 0, none⟩)] w fun r w' => r = .returned (.bool false) ∧ ∃ fm fa fc, Lk w0 w' p l bv (F ++ [⟨1, 0, 0⟩]) S G (.slice fa fm fc) sv gv ∧ KeepL p w w' := by
  have HLK := Lib.hid h
  obtain ⟨c0, c1, -, -⟩ := h.cells
  obtain ⟨m, ad, cap, hm, rfl, _, _⟩ := h.b.shape
  have hm9 : m ≤ 1000000000 := by have := hm.out; omega
  have HFD := Lib.hid (wFind_any h true 1 0 0 (by omega))
  have HBS := Lib.hid h.bs
  have HBAD := Lib.hid hbad
  clear h hbad
  by_cases h2 : m < 64
  · have d2 : decide ((m : Int) < 64) = true := by simp; omega
    go_enter Try.func72, Try.ntmps72
    go_wp2_with (go_at_call 102; refine HFD.out.mono ?_; rintro e w1 ⟨rfl, fm, fa, fc, hk, hkk⟩; have HK := Lib.hid hk; have HKK := Lib.hid hkk; clear hk hkk)
    go_ret
    exact ⟨rfl, fm, fa, fc, HK.out, HKK.out⟩
  · have d2 : decide ((m : Int) < 64) = false := by simp; omega
    have hs7 := run_str (HBS.out.take (k := 7) (by omega))
    have hm64 : 64 ≤ m := Nat.not_lt.1 h2
    have d4 : (l.take 7 != [127, 69, 76, 70, 2, 1, 1]) = true := by
      have h1 := HBAD.out
      have h3 := hm.out
      unfold bad1 at h1
      simp only [Bool.or_eq_true, decide_eq_true_eq, Bool.not_eq_true', decide_eq_false_iff_not] at h1
      rw [bne_iff_ne]
      rcases h1 with h1 | h1
      · omega
      · exact h1
    have d4' : (l.take 7 == [127, 69, 76, 70, 2, 1, 1]) = false := by rw [bne] at d4; simpa using d4
    generalize l.take 7 = t7 at *
    go_enter Try.func72, Try.ntmps72
    go_wp2_with (first
      | (go_at_call 102; refine HFD.out.mono ?_; rintro e w1 ⟨rfl, fm, fa, fc, hk, hkk⟩; have HK := Lib.hid hk; have HKK := Lib.hid hkk; clear hk hkk))
    go_ret
    exact ⟨rfl, fm, fa, fc, HK.out, HKK.out⟩
set_option maxHeartbeats 4000000 in
set_option maxRecDepth 100000 in
theorem wHeader2_any {w0 w : World} {p : Nat} {l : List UInt8} {bv : Value} {S : List WSec} {G : List WSeg} {sv gv : Value} (h : Lk w0 w p l bv [] S G (.slice none 0 0) sv gv) (hl : l.length ≤ 1000000000) (hbad : bad1 l = false) (hway : HdrWay l) (hin : withinB (gN l 32 8) (gN l 56 2 * 56) l.length = true) :
    Calls Try.prog 72 #[.pointer (some ⟨p, 0, none⟩)] w fun r w' => r = .returned (.bool (decide (headF l = []))) ∧ ∃ fm fa fc, Lk w0 w' p l bv (headF l) S G (.slice fa fm fc) sv gv ∧ KeepL p w w' := by
  have HLK := Lib.hid h
  obtain ⟨c0, c1, -, -⟩ := h.cells
  obtain ⟨m, ad, cap, hm, rfl, _, _⟩ := h.b.shape
  have hm9 : m ≤ 1000000000 := by have := hm.out; omega
  have HBS := Lib.hid h.bs
  have HB1 := Lib.hid hbad
  have HIN := Lib.hid hin
  have HHF := Lib.hid (show headF l = fl (bad2 l) 2 0 0 ++ fl (bad3 l) 3 0 0 by unfold headF; rw [hbad]; rfl)
  have HBD2 : Hid (bad2 l = ((!decide (gN l 16 2 = 1) && !decide (gN l 16 2 = 2)) || !decide (gN l 20 4 = 1) || !decide (gN l 52 2 = 64) || (decide (0 < gN l 56 2) && !decide (gN l 54 2 = 56)) || !decide (gN l 58 2 = 64))) := rfl
  have HBD3 := Lib.hid (show bad3 l = (!withinB (gN l 40 8) (gN l 60 2 * 64) l.length || decide (gN l 60 2 ≤ gN l 62 2)) by unfold bad3; rw [hin]; rfl)
  have d2 : decide ((m : Int) < 64) = false := by
    have h1 := hbad
    have h3 := hm.out
    unfold bad1 at h1
    simp only [Bool.or_eq_false_iff, decide_eq_false_iff_not, Bool.not_eq_false', decide_eq_true_eq] at h1
    simp; omega
  have d4 : (l.take 7 != [127, 69, 76, 70, 2, 1, 1]) = false := by
    have h1 := hbad
    unfold bad1 at h1
    simp only [Bool.or_eq_false_iff, decide_eq_false_iff_not, Bool.not_eq_false', decide_eq_true_eq] at h1
    rw [h1.2]; rfl
  have d4' : (l.take 7 == [127, 69, 76, 70, 2, 1, 1]) = true := by rw [bne] at d4; simpa using d4
  have hs7 := run_str (HBS.out.take (k := 7) (by
    have h1 := hbad
    have h3 := hm.out
    unfold bad1 at h1
    simp only [Bool.or_eq_false_iff, decide_eq_false_iff_not, Bool.not_eq_false', decide_eq_true_eq] at h1
    omega))
  have HU : ∀ (a s : Nat), Hid (∀ (wx : World) (F : List FlM) (fv : Value), Lk w0 wx p l (.slice ad m cap) F S G fv sv gv → Calls Try.prog 103 #[.pointer (some ⟨p, 0, none⟩), .int .i64 a, .int .i64 s] wx fun r w' => r = .returned (U6 (gN l a s)) ∧ wx = w') := fun a s wx F fv hx => wU_any hx a s hl
  have HU16 : Hid (∀ (wx : World) (F : List FlM) (fv : Value), Lk w0 wx p l (.slice ad m cap) F S G fv sv gv → Calls Try.prog 103 #[.pointer (some ⟨p, 0, none⟩), .int .i64 16, .int .i64 2] wx fun r w' => r = .returned (U6 (gN l 16 2)) ∧ wx = w') := HU 16 2
  have HU56 : Hid (∀ (wx : World) (F : List FlM) (fv : Value), Lk w0 wx p l (.slice ad m cap) F S G fv sv gv → Calls Try.prog 103 #[.pointer (some ⟨p, 0, none⟩), .int .i64 56, .int .i64 2] wx fun r w' => r = .returned (U6 (gN l 56 2)) ∧ wx = w') := HU 56 2
  have HU60 : Hid (∀ (wx : World) (F : List FlM) (fv : Value), Lk w0 wx p l (.slice ad m cap) F S G fv sv gv → Calls Try.prog 103 #[.pointer (some ⟨p, 0, none⟩), .int .i64 60, .int .i64 2] wx fun r w' => r = .returned (U6 (gN l 60 2)) ∧ wx = w') := HU 60 2
  have HU20 : Hid (∀ (wx : World) (F : List FlM) (fv : Value), Lk w0 wx p l (.slice ad m cap) F S G fv sv gv → Calls Try.prog 103 #[.pointer (some ⟨p, 0, none⟩), .int .i64 20, .int .i64 4] wx fun r w' => r = .returned (U6 (gN l 20 4)) ∧ wx = w') := HU 20 4
  have HU52 : Hid (∀ (wx : World) (F : List FlM) (fv : Value), Lk w0 wx p l (.slice ad m cap) F S G fv sv gv → Calls Try.prog 103 #[.pointer (some ⟨p, 0, none⟩), .int .i64 52, .int .i64 2] wx fun r w' => r = .returned (U6 (gN l 52 2)) ∧ wx = w') := HU 52 2
  have HU54 : Hid (∀ (wx : World) (F : List FlM) (fv : Value), Lk w0 wx p l (.slice ad m cap) F S G fv sv gv → Calls Try.prog 103 #[.pointer (some ⟨p, 0, none⟩), .int .i64 54, .int .i64 2] wx fun r w' => r = .returned (U6 (gN l 54 2)) ∧ wx = w') := HU 54 2
  have HU58 : Hid (∀ (wx : World) (F : List FlM) (fv : Value), Lk w0 wx p l (.slice ad m cap) F S G fv sv gv → Calls Try.prog 103 #[.pointer (some ⟨p, 0, none⟩), .int .i64 58, .int .i64 2] wx fun r w' => r = .returned (U6 (gN l 58 2)) ∧ wx = w') := HU 58 2
  have HU32 : Hid (∀ (wx : World) (F : List FlM) (fv : Value), Lk w0 wx p l (.slice ad m cap) F S G fv sv gv → Calls Try.prog 103 #[.pointer (some ⟨p, 0, none⟩), .int .i64 32, .int .i64 8] wx fun r w' => r = .returned (U6 (gN l 32 8)) ∧ wx = w') := HU 32 8
  have HU40 : Hid (∀ (wx : World) (F : List FlM) (fv : Value), Lk w0 wx p l (.slice ad m cap) F S G fv sv gv → Calls Try.prog 103 #[.pointer (some ⟨p, 0, none⟩), .int .i64 40, .int .i64 8] wx fun r w' => r = .returned (U6 (gN l 40 8)) ∧ wx = w') := HU 40 8
  have HU62 : Hid (∀ (wx : World) (F : List FlM) (fv : Value), Lk w0 wx p l (.slice ad m cap) F S G fv sv gv → Calls Try.prog 103 #[.pointer (some ⟨p, 0, none⟩), .int .i64 62, .int .i64 2] wx fun r w' => r = .returned (U6 (gN l 62 2)) ∧ wx = w') := HU 62 2
  have HN56 := Lib.hid (gN2 l 56)
  have HN60 := Lib.hid (gN2 l 60)
  have HN32 := Lib.hid (gN8 l 32)
  have HN40 := Lib.hid (gN8 l 40)
  have HMM := Lib.hid (show l.length = m from hm.out.symm)
  have hm64 : 64 ≤ m := by have h9 := of_decide_eq_false d2; omega
  unfold HdrWay at hway
  clear h hbad hin HU
  generalize gN l 16 2 = n16 at *
  generalize gN l 20 4 = n20 at *
  generalize gN l 52 2 = n52 at *
  generalize gN l 54 2 = n54 at *
  generalize gN l 56 2 = n56 at *
  generalize gN l 58 2 = n58 at *
  generalize gN l 60 2 = n60 at *
  generalize gN l 62 2 = n62 at *
  generalize gN l 32 8 = n32 at *
  generalize gN l 40 8 = n40 at *
  generalize headF l = hf at *
  generalize l.take 7 = t7 at *
  go_enter Try.func72, Try.ntmps72
  go_upto_region 5 with (first
    | (go_at_call 103; with_reducible refine (HU16.out _ _ _ HLK.out).mono ?_; rintro e wu ⟨rfl, rfl⟩)
    | (go_at_call 103; with_reducible refine (HU56.out _ _ _ HLK.out).mono ?_; rintro e wu ⟨rfl, rfl⟩)
    | (go_at_call 103; with_reducible refine (HU60.out _ _ _ HLK.out).mono ?_; rintro e wu ⟨rfl, rfl⟩))
  clear hs7 d2 d4 d4' c0 c1
  go_cut [] (fun wx => Hid (∃ fm fa fc, Lk w0 wx p l (.slice ad m cap) (fl (bad2 l) 2 0 0) S G (.slice fa fm fc) sv gv ∧ KeepL p w wx))
  case first =>
    rcases hway with ⟨rfl, rfl, rfl, rfl, rfl⟩ | ⟨rfl, rfl, rfl, hg, rfl, rfl⟩ | ⟨rfl, rfl, rfl, rfl, rfl⟩ | ⟨rfl, rfl, rfl, hg, rfl, rfl⟩ | rfl | ⟨rfl, rfl⟩ | ⟨rfl, rfl, rfl⟩ | ⟨rfl, rfl, rfl, rfl, rfl⟩
    · have HB : Hid (bad2 l = false) := Lib.hid (by rw [HBD2.out]; simp)
      clear HBD2
      go_wp2_with (first
        | (go_at_call 103; with_reducible refine (HU20.out _ _ _ HLK.out).mono ?_; rintro e wu ⟨rfl, rfl⟩)
        | (go_at_call 103; with_reducible refine (HU52.out _ _ _ HLK.out).mono ?_; rintro e wu ⟨rfl, rfl⟩)
        | (go_at_call 103; with_reducible refine (HU54.out _ _ _ HLK.out).mono ?_; rintro e wu ⟨rfl, rfl⟩)
        | (go_at_call 103; with_reducible refine (HU58.out _ _ _ HLK.out).mono ?_; rintro e wu ⟨rfl, rfl⟩)
        | (go_at_call 102; refine (wFind_any HLK.out _ _ _ _ (by simp)).mono ?_; rintro e w1 ⟨rfl, fm1, fa1, fc1, hk, hkk⟩; have HK1 := Lib.hid hk; have HKK1 := Lib.hid hkk; clear hk hkk))
      go_meet
      have e1 := HK1.out
      rw [List.nil_append] at e1
      exact ⟨fm1, fa1, fc1, by rw [HB.out]; exact e1, HKK1.out⟩
    · have HB : Hid (bad2 l = false) := Lib.hid (by rw [HBD2.out]; simp)
      have dg : decide ((n56 : Int) > 0) = true := by simp; omega
      clear HBD2
      go_wp2_with (first
        | (go_at_call 103; with_reducible refine (HU20.out _ _ _ HLK.out).mono ?_; rintro e wu ⟨rfl, rfl⟩)
        | (go_at_call 103; with_reducible refine (HU52.out _ _ _ HLK.out).mono ?_; rintro e wu ⟨rfl, rfl⟩)
        | (go_at_call 103; with_reducible refine (HU54.out _ _ _ HLK.out).mono ?_; rintro e wu ⟨rfl, rfl⟩)
        | (go_at_call 103; with_reducible refine (HU58.out _ _ _ HLK.out).mono ?_; rintro e wu ⟨rfl, rfl⟩)
        | (go_at_call 102; refine (wFind_any HLK.out _ _ _ _ (by simp)).mono ?_; rintro e w1 ⟨rfl, fm1, fa1, fc1, hk, hkk⟩; have HK1 := Lib.hid hk; have HKK1 := Lib.hid hkk; clear hk hkk))
      go_meet
      have e1 := HK1.out
      rw [List.nil_append] at e1
      exact ⟨fm1, fa1, fc1, by rw [HB.out]; exact e1, HKK1.out⟩
    · have HB : Hid (bad2 l = false) := Lib.hid (by rw [HBD2.out]; simp)
      clear HBD2
      go_wp2_with (first
        | (go_at_call 103; with_reducible refine (HU20.out _ _ _ HLK.out).mono ?_; rintro e wu ⟨rfl, rfl⟩)
        | (go_at_call 103; with_reducible refine (HU52.out _ _ _ HLK.out).mono ?_; rintro e wu ⟨rfl, rfl⟩)
        | (go_at_call 103; with_reducible refine (HU54.out _ _ _ HLK.out).mono ?_; rintro e wu ⟨rfl, rfl⟩)
        | (go_at_call 103; with_reducible refine (HU58.out _ _ _ HLK.out).mono ?_; rintro e wu ⟨rfl, rfl⟩)
        | (go_at_call 102; refine (wFind_any HLK.out _ _ _ _ (by simp)).mono ?_; rintro e w1 ⟨rfl, fm1, fa1, fc1, hk, hkk⟩; have HK1 := Lib.hid hk; have HKK1 := Lib.hid hkk; clear hk hkk))
      go_meet
      have e1 := HK1.out
      rw [List.nil_append] at e1
      exact ⟨fm1, fa1, fc1, by rw [HB.out]; exact e1, HKK1.out⟩
    · have HB : Hid (bad2 l = false) := Lib.hid (by rw [HBD2.out]; simp)
      have dg : decide ((n56 : Int) > 0) = true := by simp; omega
      clear HBD2
      go_wp2_with (first
        | (go_at_call 103; with_reducible refine (HU20.out _ _ _ HLK.out).mono ?_; rintro e wu ⟨rfl, rfl⟩)
        | (go_at_call 103; with_reducible refine (HU52.out _ _ _ HLK.out).mono ?_; rintro e wu ⟨rfl, rfl⟩)
        | (go_at_call 103; with_reducible refine (HU54.out _ _ _ HLK.out).mono ?_; rintro e wu ⟨rfl, rfl⟩)
        | (go_at_call 103; with_reducible refine (HU58.out _ _ _ HLK.out).mono ?_; rintro e wu ⟨rfl, rfl⟩)
        | (go_at_call 102; refine (wFind_any HLK.out _ _ _ _ (by simp)).mono ?_; rintro e w1 ⟨rfl, fm1, fa1, fc1, hk, hkk⟩; have HK1 := Lib.hid hk; have HKK1 := Lib.hid hkk; clear hk hkk))
      go_meet
      have e1 := HK1.out
      rw [List.nil_append] at e1
      exact ⟨fm1, fa1, fc1, by rw [HB.out]; exact e1, HKK1.out⟩
    · have HB : Hid (bad2 l = true) := Lib.hid (by rw [HBD2.out]; simp)
      clear HBD2
      go_wp2_with (first
        | (go_at_call 103; with_reducible refine (HU20.out _ _ _ HLK.out).mono ?_; rintro e wu ⟨rfl, rfl⟩)
        | (go_at_call 103; with_reducible refine (HU52.out _ _ _ HLK.out).mono ?_; rintro e wu ⟨rfl, rfl⟩)
        | (go_at_call 103; with_reducible refine (HU54.out _ _ _ HLK.out).mono ?_; rintro e wu ⟨rfl, rfl⟩)
        | (go_at_call 103; with_reducible refine (HU58.out _ _ _ HLK.out).mono ?_; rintro e wu ⟨rfl, rfl⟩)
        | (go_at_call 102; refine (wFind_any HLK.out _ _ _ _ (by simp)).mono ?_; rintro e w1 ⟨rfl, fm1, fa1, fc1, hk, hkk⟩; have HK1 := Lib.hid hk; have HKK1 := Lib.hid hkk; clear hk hkk))
      go_meet
      have e1 := HK1.out
      rw [List.nil_append] at e1
      exact ⟨fm1, fa1, fc1, by rw [HB.out]; exact e1, HKK1.out⟩
    · have HB : Hid (bad2 l = true) := Lib.hid (by rw [HBD2.out]; simp)
      clear HBD2
      go_wp2_with (first
        | (go_at_call 103; with_reducible refine (HU20.out _ _ _ HLK.out).mono ?_; rintro e wu ⟨rfl, rfl⟩)
        | (go_at_call 103; with_reducible refine (HU52.out _ _ _ HLK.out).mono ?_; rintro e wu ⟨rfl, rfl⟩)
        | (go_at_call 103; with_reducible refine (HU54.out _ _ _ HLK.out).mono ?_; rintro e wu ⟨rfl, rfl⟩)
        | (go_at_call 103; with_reducible refine (HU58.out _ _ _ HLK.out).mono ?_; rintro e wu ⟨rfl, rfl⟩)
        | (go_at_call 102; refine (wFind_any HLK.out _ _ _ _ (by simp)).mono ?_; rintro e w1 ⟨rfl, fm1, fa1, fc1, hk, hkk⟩; have HK1 := Lib.hid hk; have HKK1 := Lib.hid hkk; clear hk hkk))
      go_meet
      have e1 := HK1.out
      rw [List.nil_append] at e1
      exact ⟨fm1, fa1, fc1, by rw [HB.out]; exact e1, HKK1.out⟩
    · have HB : Hid (bad2 l = true) := Lib.hid (by rw [HBD2.out]; simp)
      clear HBD2
      go_wp2_with (first
        | (go_at_call 103; with_reducible refine (HU20.out _ _ _ HLK.out).mono ?_; rintro e wu ⟨rfl, rfl⟩)
        | (go_at_call 103; with_reducible refine (HU52.out _ _ _ HLK.out).mono ?_; rintro e wu ⟨rfl, rfl⟩)
        | (go_at_call 103; with_reducible refine (HU54.out _ _ _ HLK.out).mono ?_; rintro e wu ⟨rfl, rfl⟩)
        | (go_at_call 103; with_reducible refine (HU58.out _ _ _ HLK.out).mono ?_; rintro e wu ⟨rfl, rfl⟩)
        | (go_at_call 102; refine (wFind_any HLK.out _ _ _ _ (by simp)).mono ?_; rintro e w1 ⟨rfl, fm1, fa1, fc1, hk, hkk⟩; have HK1 := Lib.hid hk; have HKK1 := Lib.hid hkk; clear hk hkk))
      go_meet
      have e1 := HK1.out
      rw [List.nil_append] at e1
      exact ⟨fm1, fa1, fc1, by rw [HB.out]; exact e1, HKK1.out⟩
    · have HB : Hid (bad2 l = true) := Lib.hid (by rw [HBD2.out]; simp)
      clear HBD2
      go_wp2_with (first
        | (go_at_call 103; with_reducible refine (HU20.out _ _ _ HLK.out).mono ?_; rintro e wu ⟨rfl, rfl⟩)
        | (go_at_call 103; with_reducible refine (HU52.out _ _ _ HLK.out).mono ?_; rintro e wu ⟨rfl, rfl⟩)
        | (go_at_call 103; with_reducible refine (HU54.out _ _ _ HLK.out).mono ?_; rintro e wu ⟨rfl, rfl⟩)
        | (go_at_call 103; with_reducible refine (HU58.out _ _ _ HLK.out).mono ?_; rintro e wu ⟨rfl, rfl⟩)
        | (go_at_call 102; refine (wFind_any HLK.out _ _ _ _ (by simp)).mono ?_; rintro e w1 ⟨rfl, fm1, fa1, fc1, hk, hkk⟩; have HK1 := Lib.hid hk; have HKK1 := Lib.hid hkk; clear hk hkk))
      go_meet
      have e1 := HK1.out
      rw [List.nil_append] at e1
      exact ⟨fm1, fa1, fc1, by rw [HB.out]; exact e1, HKK1.out⟩
  case rest =>
    have HCU := Lib.hid hcut
    obtain ⟨fm1, fa1, fc1, hk1, hkk1⟩ := hcut.out
    have HK1 := Lib.hid hk1
    have HKK1 := Lib.hid hkk1
    obtain ⟨c0, c1, -, -⟩ := hk1.cells
    clear hcut hk1 hkk1 HCU HBD2
    have hmul1 : IntKind.u64.wrap ((n56 : Int) * 56) = ((n56 * 56 : Nat) : Int) := by have := HN56.out; simp [IntKind.wrap, IntKind.bits, IntKind.signed]; omega
    have hmul2 : IntKind.u64.wrap ((n60 : Int) * 64) = ((n60 * 64 : Nat) : Int) := by have := HN60.out; simp [IntKind.wrap, IntKind.bits, IntKind.signed]; omega
    rw [HMM.out] at HIN HBD3
    have HWA := Lib.hid (fun (w' : World) => wWithin_any n32 (n56 * 56) m w' HN32.out (by have := HN56.out; omega) hm9)
    have HWB := Lib.hid (fun (w' : World) => wWithin_any n40 (n60 * 64) m w' HN40.out (by have := HN60.out; omega) hm9)
    rw [HIN.out] at HWA
    generalize withinB n40 (n60 * 64) m = q2 at *
    have hq3 : decide ((n62 : Int) ≥ (n60 : Int)) = decide (n60 ≤ n62) := by simp
    generalize n56 * 56 = z56 at *
    generalize n60 * 64 = z60 at *
    generalize bad2 l = b2 at *
    generalize bad3 l = b3 at *
    cases q2 with
    | false =>
      have HB3 : Hid (b3 = true) := Lib.hid (by rw [HBD3.out]; rfl)
      clear HBD3
      go_wp2_with (first
        | (go_at_call 103; with_reducible refine (HU32.out _ _ _ HK1.out).mono ?_; rintro e wu ⟨rfl, rfl⟩)
        | (go_at_call 103; with_reducible refine (HU40.out _ _ _ HK1.out).mono ?_; rintro e wu ⟨rfl, rfl⟩)
        | ((with_reducible show wpList _ _ _ (⟨some 6, .alloc _, _, _, _, _⟩ :: _) _ _); go_must (refine wpList_allocSp ?_; intro w6 hx6 hb6 hs6; have HX6 := Lib.hid hx6; have HB6 := Lib.hid ((hb6)); clear hx6 hb6))
        | ((with_reducible show wpList _ _ _ (⟨some 7, .alloc _, _, _, _, _⟩ :: _) _ _); go_must (refine wpList_allocSp ?_; intro w7 hx7 hb7 hs7; have HX7 := Lib.hid hx7; have HX67 := Lib.hid (heap_below hb7 HX6.out); have HB7 := Lib.hid (HB6.out.trans (hb7.mono HB6.out.size)); clear hx7 hb7))
        | ((with_reducible show wpList _ _ _ (⟨none, .store _ (.tmp 6) _, _, _, _, _⟩ :: _) _ _); go_must (refine wpList_storeRowS HX67.out rfl rfl rfl (by kernel_rfl) (by simp [Value.oneCell']) ?_; intro w8 hh8 hs8; have HH8 := Lib.hid hh8; have HX78 := Lib.hid (hs8.kept HX7.out (show ¬ w6.heap.size = wc.heap.size by omega)); have HB8 := Lib.hid (HB7.out.trans (hs8.below HB7.out.size (fun j hj => by rw [hj]; exact Nat.le_refl _))); clear hh8 hs8))
        | ((with_reducible show wpList _ _ _ (⟨none, .store _ (.tmp 7) _, _, _, _, _⟩ :: _) _ _); go_must (refine wpList_storeRowS HX78.out rfl rfl rfl (by kernel_rfl) (by simp [Value.oneCell']) ?_; intro w9 hh9 hs9; have HH9 := Lib.hid hh9; have HH89 := Lib.hid (hs9.kept HH8.out (show ¬ wc.heap.size = w6.heap.size by omega)); have HB9 := Lib.hid (HB8.out.trans (hs9.below HB8.out.size (fun j hj => by rw [hj]; omega))); clear hh9 hs9; have HK9 := Lib.hid (HK1.out.mono HB9.out); obtain ⟨e0, e1⟩ := spn2 HH89.out; obtain ⟨f0, f1⟩ := spn2 HH9.out; clear c0 c1; obtain ⟨c0, c1, -, -⟩ := HK9.out.cells)))
      have hAB := fun (x : Above w9) (b k : Nat) (h : b < w9.heap.size) => Above.cell x b k h
      have l1 := block_lt c0
      have l2 := block_lt e0
      have l3 := block_lt f0
      refine wp_region_walk 25 [(7, .is (.bool true)), (16, .is (.bool false)), (21, .is (U6 n62))] (by kernel_rfl) (by kernel_rfl) ?_
      simp only [List.take_succ_cons, List.take_zero, List.drop_succ_cons, List.drop_zero]
      go_frame
      repeat (first
        | (refine walk_quiet rfl rfl rfl ?_; intro K hK; go_big_quiet_op; go_big_quiet_on)
        | (refine walk_check rfl rfl rfl ?_; go_frame))
      refine walk_is rfl rfl (fun wx hwx _ => WpYld.callIsB (run_callL (vals := [_, _]) Try.func104 (by kernel_rfl) rfl rfl) (HWA.out wx)) ?_
      go_frame
      repeat (first
        | (refine walk_quiet rfl rfl rfl ?_; intro K hK; go_big_quiet_op; go_big_quiet_on)
        | (refine walk_check rfl rfl rfl ?_; go_frame))
      refine walk_is rfl rfl (fun wx hwx _ => WpYld.callIsB (run_callL (vals := [_, _]) Try.func104 (by kernel_rfl) rfl rfl) (HWB.out wx)) ?_
      go_frame
      repeat (first
        | (refine walk_quiet rfl rfl rfl ?_; intro K hK; go_big_quiet_op; go_big_quiet_on)
        | (refine walk_check rfl rfl rfl ?_; go_frame)
        | (refine walk_skip rfl ?_; go_frame))
      refine walk_nil ?_
      intro wz hbz hF
      have HKZ := Lib.hid (HK9.out.mono hbz)
      have HKKZ := Lib.hid (HKK1.out.trans ((KeepL.below HB9.out).trans (KeepL.below (p := p) hbz)))
      clear hF hbz hAB l1 l2 l3 c0 c1 e0 e1 f0 f1
      go_wp2_with (go_at_call 102; refine (wFind_any HKZ.out true _ _ _ (by unfold fl; split <;> simp)).mono ?_; rintro e wy ⟨rfl, fm2, fa2, fc2, hk, hkk⟩; have HK2 := Lib.hid hk; have HKK2 := Lib.hid (HKKZ.out.trans hkk); obtain ⟨-, c1, -, -⟩ := hk.cells; have HLN := Lib.hid (own_len hk.f); clear hk hkk)
      go_ret
      refine ⟨?_, fm2, fa2, fc2, ?_, HKK2.out⟩
      · refine congrArg (fun b => Ending.returned (Value.bool b)) ?_
        rw [HHF.out, HB3.out]
        have h9 := HLN.out
        subst h9
        cases b2 <;> rfl
      · rw [HHF.out, HB3.out]
        exact HK2.out
    | true =>
      by_cases hlt : n60 ≤ n62
      · rw [decide_eq_true hlt] at hq3 HBD3
        have HB3 : Hid (b3 = true) := Lib.hid (by rw [HBD3.out]; rfl)
        clear HBD3
        go_wp2_with (first
          | (go_at_call 103; with_reducible refine (HU32.out _ _ _ HK1.out).mono ?_; rintro e wu ⟨rfl, rfl⟩)
          | (go_at_call 103; with_reducible refine (HU40.out _ _ _ HK1.out).mono ?_; rintro e wu ⟨rfl, rfl⟩)
          | ((with_reducible show wpList _ _ _ (⟨some 6, .alloc _, _, _, _, _⟩ :: _) _ _); go_must (refine wpList_allocSp ?_; intro w6 hx6 hb6 hs6; have HX6 := Lib.hid hx6; have HB6 := Lib.hid ((hb6)); clear hx6 hb6))
          | ((with_reducible show wpList _ _ _ (⟨some 7, .alloc _, _, _, _, _⟩ :: _) _ _); go_must (refine wpList_allocSp ?_; intro w7 hx7 hb7 hs7; have HX7 := Lib.hid hx7; have HX67 := Lib.hid (heap_below hb7 HX6.out); have HB7 := Lib.hid (HB6.out.trans (hb7.mono HB6.out.size)); clear hx7 hb7))
          | ((with_reducible show wpList _ _ _ (⟨none, .store _ (.tmp 6) _, _, _, _, _⟩ :: _) _ _); go_must (refine wpList_storeRowS HX67.out rfl rfl rfl (by kernel_rfl) (by simp [Value.oneCell']) ?_; intro w8 hh8 hs8; have HH8 := Lib.hid hh8; have HX78 := Lib.hid (hs8.kept HX7.out (show ¬ w6.heap.size = wc.heap.size by omega)); have HB8 := Lib.hid (HB7.out.trans (hs8.below HB7.out.size (fun j hj => by rw [hj]; exact Nat.le_refl _))); clear hh8 hs8))
          | ((with_reducible show wpList _ _ _ (⟨none, .store _ (.tmp 7) _, _, _, _, _⟩ :: _) _ _); go_must (refine wpList_storeRowS HX78.out rfl rfl rfl (by kernel_rfl) (by simp [Value.oneCell']) ?_; intro w9 hh9 hs9; have HH9 := Lib.hid hh9; have HH89 := Lib.hid (hs9.kept HH8.out (show ¬ wc.heap.size = w6.heap.size by omega)); have HB9 := Lib.hid (HB8.out.trans (hs9.below HB8.out.size (fun j hj => by rw [hj]; omega))); clear hh9 hs9; have HK9 := Lib.hid (HK1.out.mono HB9.out); obtain ⟨e0, e1⟩ := spn2 HH89.out; obtain ⟨f0, f1⟩ := spn2 HH9.out; clear c0 c1; obtain ⟨c0, c1, -, -⟩ := HK9.out.cells)))
        have hAB := fun (x : Above w9) (b k : Nat) (h : b < w9.heap.size) => Above.cell x b k h
        have l1 := block_lt c0
        have l2 := block_lt e0
        have l3 := block_lt f0
        refine wp_region_walk 25 [(7, .is (.bool true)), (16, .is (.bool true)), (21, .is (U6 n62))] (by kernel_rfl) (by kernel_rfl) ?_
        simp only [List.take_succ_cons, List.take_zero, List.drop_succ_cons, List.drop_zero]
        go_frame
        repeat (first
          | (refine walk_quiet rfl rfl rfl ?_; intro K hK; go_big_quiet_op; go_big_quiet_on)
          | (refine walk_check rfl rfl rfl ?_; go_frame))
        refine walk_is rfl rfl (fun wx hwx _ => WpYld.callIsB (run_callL (vals := [_, _]) Try.func104 (by kernel_rfl) rfl rfl) (HWA.out wx)) ?_
        go_frame
        repeat (first
          | (refine walk_quiet rfl rfl rfl ?_; intro K hK; go_big_quiet_op; go_big_quiet_on)
          | (refine walk_check rfl rfl rfl ?_; go_frame))
        refine walk_is rfl rfl (fun wx hwx _ => WpYld.callIsB (run_callL (vals := [_, _]) Try.func104 (by kernel_rfl) rfl rfl) (HWB.out wx)) ?_
        go_frame
        repeat (first
          | (refine walk_quiet rfl rfl rfl ?_; intro K hK; go_big_quiet_op; go_big_quiet_on)
          | (refine walk_check rfl rfl rfl ?_; go_frame))
        refine walk_is rfl rfl (fun wx hwx _ => WpYld.callIsB (run_callL (vals := [_, _, _]) Try.func103 (by kernel_rfl) rfl rfl) ((HU62.out wx _ _ (HK9.out.mono hwx)).mono fun r w' h => ⟨h.1, by rw [h.2]; exact Below.refl _ _⟩)) ?_
        go_frame
        repeat (first
          | (refine walk_quiet rfl rfl rfl ?_; intro K hK; go_big_quiet_op; go_big_quiet_on)
          | (refine walk_check rfl rfl rfl ?_; go_frame))
        refine walk_nil ?_
        intro wz hbz hF
        have HKZ := Lib.hid (HK9.out.mono hbz)
        have HKKZ := Lib.hid (HKK1.out.trans ((KeepL.below HB9.out).trans (KeepL.below (p := p) hbz)))
        clear hF hbz hAB l1 l2 l3 c0 c1 e0 e1 f0 f1
        go_wp2_with (go_at_call 102; refine (wFind_any HKZ.out true _ _ _ (by unfold fl; split <;> simp)).mono ?_; rintro e wy ⟨rfl, fm2, fa2, fc2, hk, hkk⟩; have HK2 := Lib.hid hk; have HKK2 := Lib.hid (HKKZ.out.trans hkk); obtain ⟨-, c1, -, -⟩ := hk.cells; have HLN := Lib.hid (own_len hk.f); clear hk hkk)
        go_ret
        refine ⟨?_, fm2, fa2, fc2, ?_, HKK2.out⟩
        · refine congrArg (fun b => Ending.returned (Value.bool b)) ?_
          rw [HHF.out, HB3.out]
          have h9 := HLN.out
          subst h9
          cases b2 <;> rfl
        · rw [HHF.out, HB3.out]
          exact HK2.out
      · rw [decide_eq_false hlt] at hq3 HBD3
        have hlt2 : n62 < n60 := Nat.not_le.1 hlt
        have HB3 : Hid (b3 = false) := Lib.hid (by rw [HBD3.out]; rfl)
        clear HBD3
        go_wp2_with (first
          | (go_at_call 103; with_reducible refine (HU32.out _ _ _ HK1.out).mono ?_; rintro e wu ⟨rfl, rfl⟩)
          | (go_at_call 103; with_reducible refine (HU40.out _ _ _ HK1.out).mono ?_; rintro e wu ⟨rfl, rfl⟩)
          | ((with_reducible show wpList _ _ _ (⟨some 6, .alloc _, _, _, _, _⟩ :: _) _ _); go_must (refine wpList_allocSp ?_; intro w6 hx6 hb6 hs6; have HX6 := Lib.hid hx6; have HB6 := Lib.hid ((hb6)); clear hx6 hb6))
          | ((with_reducible show wpList _ _ _ (⟨some 7, .alloc _, _, _, _, _⟩ :: _) _ _); go_must (refine wpList_allocSp ?_; intro w7 hx7 hb7 hs7; have HX7 := Lib.hid hx7; have HX67 := Lib.hid (heap_below hb7 HX6.out); have HB7 := Lib.hid (HB6.out.trans (hb7.mono HB6.out.size)); clear hx7 hb7))
          | ((with_reducible show wpList _ _ _ (⟨none, .store _ (.tmp 6) _, _, _, _, _⟩ :: _) _ _); go_must (refine wpList_storeRowS HX67.out rfl rfl rfl (by kernel_rfl) (by simp [Value.oneCell']) ?_; intro w8 hh8 hs8; have HH8 := Lib.hid hh8; have HX78 := Lib.hid (hs8.kept HX7.out (show ¬ w6.heap.size = wc.heap.size by omega)); have HB8 := Lib.hid (HB7.out.trans (hs8.below HB7.out.size (fun j hj => by rw [hj]; exact Nat.le_refl _))); clear hh8 hs8))
          | ((with_reducible show wpList _ _ _ (⟨none, .store _ (.tmp 7) _, _, _, _, _⟩ :: _) _ _); go_must (refine wpList_storeRowS HX78.out rfl rfl rfl (by kernel_rfl) (by simp [Value.oneCell']) ?_; intro w9 hh9 hs9; have HH9 := Lib.hid hh9; have HH89 := Lib.hid (hs9.kept HH8.out (show ¬ wc.heap.size = w6.heap.size by omega)); have HB9 := Lib.hid (HB8.out.trans (hs9.below HB8.out.size (fun j hj => by rw [hj]; omega))); clear hh9 hs9; have HK9 := Lib.hid (HK1.out.mono HB9.out); obtain ⟨e0, e1⟩ := spn2 HH89.out; obtain ⟨f0, f1⟩ := spn2 HH9.out; clear c0 c1; obtain ⟨c0, c1, -, -⟩ := HK9.out.cells)))
        have hAB := fun (x : Above w9) (b k : Nat) (h : b < w9.heap.size) => Above.cell x b k h
        have l1 := block_lt c0
        have l2 := block_lt e0
        have l3 := block_lt f0
        refine wp_region_walk 25 [(7, .is (.bool true)), (16, .is (.bool true)), (21, .is (U6 n62))] (by kernel_rfl) (by kernel_rfl) ?_
        simp only [List.take_succ_cons, List.take_zero, List.drop_succ_cons, List.drop_zero]
        go_frame
        repeat (first
          | (refine walk_quiet rfl rfl rfl ?_; intro K hK; go_big_quiet_op; go_big_quiet_on)
          | (refine walk_check rfl rfl rfl ?_; go_frame))
        refine walk_is rfl rfl (fun wx hwx _ => WpYld.callIsB (run_callL (vals := [_, _]) Try.func104 (by kernel_rfl) rfl rfl) (HWA.out wx)) ?_
        go_frame
        repeat (first
          | (refine walk_quiet rfl rfl rfl ?_; intro K hK; go_big_quiet_op; go_big_quiet_on)
          | (refine walk_check rfl rfl rfl ?_; go_frame))
        refine walk_is rfl rfl (fun wx hwx _ => WpYld.callIsB (run_callL (vals := [_, _]) Try.func104 (by kernel_rfl) rfl rfl) (HWB.out wx)) ?_
        go_frame
        repeat (first
          | (refine walk_quiet rfl rfl rfl ?_; intro K hK; go_big_quiet_op; go_big_quiet_on)
          | (refine walk_check rfl rfl rfl ?_; go_frame))
        refine walk_is rfl rfl (fun wx hwx _ => WpYld.callIsB (run_callL (vals := [_, _, _]) Try.func103 (by kernel_rfl) rfl rfl) ((HU62.out wx _ _ (HK9.out.mono hwx)).mono fun r w' h => ⟨h.1, by rw [h.2]; exact Below.refl _ _⟩)) ?_
        go_frame
        repeat (first
          | (refine walk_quiet rfl rfl rfl ?_; intro K hK; go_big_quiet_op; go_big_quiet_on)
          | (refine walk_check rfl rfl rfl ?_; go_frame))
        refine walk_nil ?_
        intro wz hbz hF
        have HKZ := Lib.hid (HK9.out.mono hbz)
        have HKKZ := Lib.hid (HKK1.out.trans ((KeepL.below HB9.out).trans (KeepL.below (p := p) hbz)))
        clear hF hbz hAB l1 l2 l3 c0 c1 e0 e1 f0 f1
        go_wp2_with (go_at_call 102; refine (wFind_any HKZ.out false _ _ _ (by unfold fl; split <;> simp)).mono ?_; rintro e wy ⟨rfl, fm2, fa2, fc2, hk, hkk⟩; have HK2 := Lib.hid hk; have HKK2 := Lib.hid (HKKZ.out.trans hkk); obtain ⟨-, c1, -, -⟩ := hk.cells; have HLN := Lib.hid (own_len hk.f); clear hk hkk)
        go_ret
        refine ⟨?_, fm2, fa2, fc2, ?_, HKK2.out⟩
        · refine congrArg (fun b => Ending.returned (Value.bool b)) ?_
          rw [HHF.out, HB3.out]
          have h9 := HLN.out
          subst h9
          cases b2 <;> rfl
        · rw [HHF.out, HB3.out]
          exact HK2.out
end Go.Proofs.Ytgjoimcgiofinaa
namespace Go.Proofs.Ytgjoimcgiofinaa
open Go.RowKit Go.Fd
/-- What Check comes to. -/
def ChkRes (l : List UInt8) (base : Nat) (r : Ending) (w : World) : Prop := ∃ fv F, r = .returned fv ∧ OwR 3 encFl 67 w base fv F ∧ Checked l F
/-- What is asked of bytes that Check looks at. -/
structure Lookable (l : List UInt8) : Prop where
  len : l.length ≤ 1000000000
  way : bad1 l = true ∨ (bad1 l = false ∧ HdrWay l ∧ withinB (gN l 32 8) (gN l 56 2 * 56) l.length = true)
  few : headF l = [] → gN l 60 2 ≤ 300 ∧ gN l 56 2 ≤ 300 ∧ gN l 40 8 ≤ 1000000000 ∧ gN l 32 8 ≤ 1000000000 ∧ gN l 62 2 < gN l 60 2
set_option maxHeartbeats 4000000 in
set_option maxRecDepth 100000 in
theorem wCheck_any (l : List UInt8) (v : Value) (w : World) (hk : Lookable l) (hv : Bs w v l) :
    Calls Try.prog 40 #[v] w fun r w' => ChkRes l w.heap.size r w' ∧ Below w.heap.size w w' := by
  have HV := Lib.hid hv
  have HK := Lib.hid hk
  obtain ⟨m, ad, cap, -, rfl, _, _⟩ := hv.shape
  clear hv
  cases hb1 : bad1 l with
  | true =>
    have HB1 := Lib.hid hb1
    have HHF := Lib.hid (show headF l = [⟨1, 0, 0⟩] by unfold headF; rw [if_pos hb1])
    clear hb1 hk
    go_enter Try.func40, Try.ntmps40
    go_wp2_with ((with_reducible show wpList _ _ _ (⟨some 6, .box _ _, _, _, _, _⟩ :: _) _ _); go_must (refine wpList_box rfl ?_; intro w1 hx1 hb1 hs1; have HL1 := Lib.hid (show Lk w w1 w.heap.size l (.slice ad m cap) [] [] [] (.slice none 0 0) (.slice none 0 0) (.slice none 0 0) from ⟨hx1, Nat.le_refl _, hb1, HV.out, OwR.nil _ _ _ _ _, OwR.nil _ _ _ _ _, OwR.nil _ _ _ _ _⟩); clear hx1 hb1))
    refine (wHeader1_any HL1.out HK.out.len (by simp) HB1.out).mono ?_
    rintro e w2 ⟨rfl, fm, fa, fc, hk2, -⟩
    have HL2 := Lib.hid hk2
    obtain ⟨-, c1, -, -⟩ := hk2.cells
    clear hk2
    go_wp2
    go_ret
    exact ⟨⟨_, _, rfl, HL2.out.f, by rw [List.nil_append, ← HHF.out]; exact ⟨fun _ => rfl, fun h => by rw [HHF.out] at h; cases h⟩⟩, HL2.out.below⟩
  | false =>
    have HB1 := Lib.hid hb1
    have HWAY := Lib.hid (hk.way.resolve_left (by simp [hb1]))
    clear hb1 hk
    cases hq : decide (headF l = []) with
    | false =>
      have HHF := Lib.hid (of_decide_eq_false hq)
      have HQ := Lib.hid hq
      clear hq
      go_enter Try.func40, Try.ntmps40
      go_wp2_with ((with_reducible show wpList _ _ _ (⟨some 6, .box _ _, _, _, _, _⟩ :: _) _ _); go_must (refine wpList_box rfl ?_; intro w1 hx1 hb1 hs1; have HL1 := Lib.hid (show Lk w w1 w.heap.size l (.slice ad m cap) [] [] [] (.slice none 0 0) (.slice none 0 0) (.slice none 0 0) from ⟨hx1, Nat.le_refl _, hb1, HV.out, OwR.nil _ _ _ _ _, OwR.nil _ _ _ _ _, OwR.nil _ _ _ _ _⟩); clear hx1 hb1))
      have HH := Lib.hid (wHeader2_any HL1.out HK.out.len HB1.out HWAY.out.2.1 HWAY.out.2.2)
      rw [HQ.out] at HH
      refine HH.out.mono ?_
      rintro e w2 ⟨rfl, fm, fa, fc, hk2, -⟩
      have HL2 := Lib.hid hk2
      obtain ⟨-, c1, -, -⟩ := hk2.cells
      clear hk2
      go_wp2
      go_ret
      exact ⟨⟨_, _, rfl, HL2.out.f, ⟨fun _ => rfl, fun h => absurd h HHF.out⟩⟩, HL2.out.below⟩
    | true =>
      have HHF := Lib.hid (of_decide_eq_true hq)
      have HQ := Lib.hid hq
      have HFEW := Lib.hid (HK.out.few HHF.out)
      clear hq
      go_enter Try.func40, Try.ntmps40
      go_wp2_with ((with_reducible show wpList _ _ _ (⟨some 6, .box _ _, _, _, _, _⟩ :: _) _ _); go_must (refine wpList_box rfl ?_; intro w1 hx1 hb1 hs1; have HL1 := Lib.hid (show Lk w w1 w.heap.size l (.slice ad m cap) [] [] [] (.slice none 0 0) (.slice none 0 0) (.slice none 0 0) from ⟨hx1, Nat.le_refl _, hb1, HV.out, OwR.nil _ _ _ _ _, OwR.nil _ _ _ _ _, OwR.nil _ _ _ _ _⟩); clear hx1 hb1))
      have HH := Lib.hid (wHeader2_any HL1.out HK.out.len HB1.out HWAY.out.2.1 HWAY.out.2.2)
      rw [HQ.out, HHF.out] at HH
      refine HH.out.mono ?_
      rintro e w2 ⟨rfl, fm, fa, fc, hk2, -⟩
      have HL2 := Lib.hid hk2
      clear hk2
      go_wp2_with fail
      refine (wRead_any HL2.out HK.out.len HFEW.out.1 HFEW.out.2.1 HFEW.out.2.2.1 HFEW.out.2.2.2.1).mono ?_
      rintro e w3 ⟨rfl, sm, sa, sc, gm, ga, gc, hk3⟩
      have HL3 := Lib.hid hk3
      clear hk3
      go_wp2_with fail
      refine (wSections_any HL3.out HK.out.len (by rw [secsW_len]; exact HFEW.out.1) (secsW_fits _ _) (by rw [secsW_len]; exact HFEW.out.2.2.2.2) (by simp)).mono ?_
      rintro e w4 ⟨rfl, X, fm4, fa4, fc4, hk4, hx4, hl4⟩
      have HL4 := Lib.hid hk4
      have HX4 := Lib.hid hx4
      have HXL := Lib.hid hl4
      clear hk4 hx4 hl4
      go_wp2_with fail
      refine (wSegments_any HL4.out HK.out.len (by rw [segsW_len]; exact HFEW.out.2.1) (segsW_fits _ _) (by have := HXL.out; rw [List.nil_append]; omega)).mono ?_
      rintro e w5 ⟨rfl, Y, fm5, fa5, fc5, hk5, hx5⟩
      have HL5 := Lib.hid hk5
      have HX5 := Lib.hid hx5
      obtain ⟨-, c1, -, -⟩ := hk5.cells
      clear hk5 hx5
      go_wp2
      go_ret
      refine ⟨⟨_, _, rfl, HL5.out.f, ⟨fun h => absurd HHF.out h, fun _ f hf => ?_⟩⟩, HL5.out.below⟩
      rw [List.nil_append] at hf
      rcases List.mem_append.1 hf with h | h
      · exact .inl (HX4.out f h)
      · have := HX5.out f h
        rw [segsW_len] at this
        exact .inr ⟨this.1, this.2.imp (fun h => by omega) id⟩
/-- What Sound comes to. -/
def SndRes (l : List UInt8) (r : Ending) : Prop := ∃ F, r = .returned (.bool (decide (F = ([] : List FlM)))) ∧ Checked l F
set_option maxRecDepth 100000 in
theorem wSound_any (l : List UInt8) (v : Value) (w : World) (hk : Lookable l) (hv : Bs w v l) :
    Calls Try.prog 42 #[v] w fun r w' => SndRes l r ∧ Below w.heap.size w w' := by
  have HC := Lib.hid (wCheck_any l v w hk hv)
  obtain ⟨m, ad, cap, -, rfl, _, _⟩ := hv.shape
  clear hv hk
  go_enter Try.func42, Try.ntmps42
  go_wp2_with fail
  refine HC.out.mono ?_
  rintro e w1 ⟨⟨fv, F, rfl, ho, hc⟩, hb⟩
  obtain ⟨n, a, c, hn, rfl, _, _⟩ := ho.shape
  have HE := Lib.hid (show decide (n = 0) = decide (F = []) by
    have := hn.out
    cases F with
    | nil => simp at this; simp [this]
    | cons x F => simp at this; simp; omega)
  have e1 : ((n : Int) == 0) = decide (n = 0) := zbeq rfl
  have HCC := Lib.hid hc
  have HB := Lib.hid hb
  clear ho hc hb hn
  generalize decide (n = 0) = q at *
  go_wp2
  go_ret
  exact ⟨⟨F, by rw [← HE.out]; rfl, HCC.out⟩, HB.out⟩
end Go.Proofs.Ytgjoimcgiofinaa
namespace Go.Proofs.Ytgjoimcgiofinaa
open Go.RowKit Go.Fd
theorem look_file {e : ElfM} (hm : mayE e = true) : Lookable (fileB e) := by
  have h := mayK hm
  have n := head_num h
  have hfg := front_ge h
  have hle := h.len
  have hs := h.secs
  have hg := h.segs
  refine ⟨by rw [n.len]; omega, .inr ⟨?_, ?_, ?_⟩, fun _ => ?_⟩
  · unfold bad1
    rw [n.magic, n.len]
    simp; omega
  · unfold HdrWay
    rw [n.typ, n.one, n.hsize, n.gsize, n.ssize, n.ng]
    rcases h.typ with h1 | h1 <;> rw [h1]
    · rcases Nat.eq_zero_or_pos e.segs.length with h2 | h2
      · exact .inl ⟨rfl, rfl, rfl, h2, rfl⟩
      · exact .inr (.inl ⟨rfl, rfl, rfl, h2, rfl, rfl⟩)
    · rcases Nat.eq_zero_or_pos e.segs.length with h2 | h2
      · exact .inr (.inr (.inl ⟨rfl, rfl, rfl, h2, rfl⟩))
      · exact .inr (.inr (.inr (.inl ⟨rfl, rfl, rfl, h2, rfl, rfl⟩)))
  · unfold withinB
    rw [n.front, n.ng, n.len]
    simp only [Bool.or_eq_true, Bool.and_eq_true, decide_eq_true_eq]
    right; split <;> omega
  · rw [n.ns, n.ng, n.heads, n.front, n.own]
    refine ⟨by omega, by omega, by omega, ?_, by omega⟩
    split <;> omega
/-- What a flaw of a file that was written tells. -/
def FlWr (e : ElfM) (f : FlM) : Prop := (8 ≤ f.code ∧ (e.segs.length ≠ 0 ∨ e.typ = 2)) ∨ (f.code = 5 ∧ ∃ (j : Nat) (s : SecM), f.a = (j : Int) + 1 ∧ e.secs[j]? = some s ∧ s.align ≠ 0 ∧ s.addr % s.align ≠ 0)
theorem checked_file {e : ElfM} (hm : mayE e = true) (hf : e.fits) {F : List FlM} (hc : Checked (fileB e) F) : ∀ f ∈ F, FlWr e f :=
  fun f h => fl_written hm hf (hc.2 (head_sound (mayK hm)) f h)
theorem sound_file {e : ElfM} (hm : mayE e = true) (hf : e.fits) (hg : e.segs = []) (ht : e.typ = 1) (ha : ∀ s ∈ e.secs, s.addr = 0) {F : List FlM} (hc : Checked (fileB e) F) : F = [] := by
  cases F with
  | nil => rfl
  | cons f F =>
    exfalso
    rcases checked_file hm hf hc f (by simp) with ⟨_, h | h⟩ | ⟨_, j, s, _, hj, _, h⟩
    · rw [hg] at h; exact h rfl
    · rw [ht] at h; exact absurd h (by decide)
    · rw [ha s (List.mem_of_getElem? hj), Nat.zero_mod] at h
      exact h rfl
theorem look_nil : Lookable [] := ⟨by simp, .inl (by decide), fun h => by cases h⟩
theorem checked_nil {F : List FlM} (hc : Checked [] F) : F = [⟨1, 0, 0⟩] := hc.1 (by decide)
end Go.Proofs.Ytgjoimcgiofinaa
namespace Go.Proofs.Ytgjoimcgiofinaa
open Go.RowKit Go.Fd
abbrev elf1 : ElfM := ⟨1, 1, 0, 0, [], []⟩
set_option maxRecDepth 100000 in
theorem elf1_may : mayE elf1 = true ∧ (fileB elf1).length = 208 := by decide +kernel
theorem elf1_ok : ElfOk elf1 := ⟨⟨by decide, by decide, by decide, by decide, (fun s hs => by cases hs), (fun s hs => by cases hs)⟩, by decide, (fun s hs => by cases hs), by decide, by decide⟩
theorem nil_at (w : World) (t g : Int) : ElfAt w ⟨t, g, 0, 0, [], []⟩ [] (.slice none 0 0) (.slice none 0 0) := ⟨rfl, RdR.nil _ _ _, (fun p hp => by cases hp), RdR.nil _ _ _⟩
end Go.Proofs.Ytgjoimcgiofinaa
namespace Go.Proofs.Ytgjoimcgiofinaa
open Go.RowKit Go.Fd
theorem snd_nil {r : Ending} (h : SndRes [] r) : r = .returned (.bool false) := by
  obtain ⟨F, h1, h2⟩ := h
  rw [checked_nil h2] at h1
  exact h1
theorem snd_file {e : ElfM} (hm : mayE e = true) (hf : e.fits) (hg : e.segs = []) (ht : e.typ = 1) (ha : ∀ s ∈ e.secs, s.addr = 0) {r : Ending} (h : SndRes (fileB e) r) : r = .returned (.bool true) := by
  obtain ⟨F, h1, h2⟩ := h
  rw [sound_file hm hf hg ht ha h2] at h1
  exact h1
set_option maxHeartbeats 4000000 in
set_option maxRecDepth 100000 in
theorem begun6_any (w : World) : Calls Try.prog 37 #[] w fun e w' => e = .returned (.bool true) ∧ Below w.heap.size w w' := by
  have HW := Lib.hid (fun w => writeE_any elf1 [] (.slice none 0 0) (.slice none 0 0) w (nil_at w 1 1) elf1_ok)
  rw [fileW_ok elf1_may.1] at HW
  have HSO : Hid (∀ v w, Bs w v (fileB elf1) → Calls Try.prog 42 #[v] w fun r w' => r = .returned (.bool true) ∧ Below w.heap.size w w') := Lib.hid (fun v w hv => (wSound_any (fileB elf1) v w (look_file elf1_may.1) hv).mono fun r w' ⟨h1, h2⟩ => ⟨snd_file elf1_may.1 elf1_ok.fits rfl rfl (fun s hs => by cases hs) h1, h2⟩)
  have HSN : Hid (∀ w, Calls Try.prog 42 #[.slice none 0 0] w fun r w' => r = .returned (.bool false) ∧ Below w.heap.size w w') := Lib.hid (fun w => (wSound_any [] (.slice none 0 0) w look_nil (Bs.nil _)).mono fun r w' ⟨h1, h2⟩ => ⟨snd_nil h1, h2⟩)
  have HCN := Lib.hid (fun w => wCheck_any [] (.slice none 0 0) w look_nil (Bs.nil _))
  generalize fileB elf1 = B at *
  go_enter Try.func37, Try.ntmps37
  go_wp2_with fail
  refine (HW.out _).mono ?_
  rintro e w1 ⟨v1, rfl, hv1, hb1⟩
  have HV1 := Lib.hid hv1.bs
  have HB1 := Lib.hid hb1
  obtain ⟨m1, a1, q1, -, rfl, _, _⟩ := hv1.shape
  clear hv1 hb1
  go_wp2_with fail
  refine (HCN.out _).mono ?_
  rintro e w2 ⟨⟨fv, F, rfl, ho, hc⟩, hb2⟩
  obtain rfl := checked_nil hc
  obtain ⟨g, cap, hfv⟩ := own_form ho (by simp)
  have HO := Lib.hid ho
  have HB2 := Lib.hid (HB1.out.trans (hb2.mono HB1.out.size))
  have HV2 := Lib.hid (HV1.out.mono hb2)
  subst hfv
  clear ho hc hb2
  go_wp2_with fail
  refine (HSO.out _ _ HV2.out).mono ?_
  rintro e w3 ⟨rfl, hb3⟩
  have HO3 := Lib.hid (HO.out.mono hb3)
  have c0 : w3.cell? ⟨g, 0, none⟩ = some (.int .i64 1) := by
    have := World.ownsRow.cellAt (g := g) (cap := cap) HO3.out 0 (by simp)
    simpa using this
  have HB3 := Lib.hid (HB2.out.trans (hb3.mono HB2.out.size))
  clear hb3
  go_wp2_with fail
  refine (HSN.out _).mono ?_
  rintro e w4 ⟨rfl, hb4⟩
  have HB4 := Lib.hid (HB3.out.trans (hb4.mono HB3.out.size))
  clear hb4 c0
  go_wp2
  go_ret
  exact ⟨rfl, HB4.out⟩
end Go.Proofs.Ytgjoimcgiofinaa
namespace Go.Proofs.Ytgjoimcgiofinaa
open Go.RowKit Go.Fd
/-- One number of a row that is owned. -/
theorem wpList_setRowI {P : Program} {ops : Array Oper} {rest : List Oper} {Q : Exit → Act → World → Prop} {a : Act} {w : World} {d : Option Tmp} {ty t e : TypeId} {pos : String} {aft : Array Edge} {p x : Operand} {g j base size n cap : Nat} {xs : List Value} {ki : IntKind} {z : Int} (hown : w.ownsRow base e size (.slice (some ⟨g, 0, none⟩) n cap) n xs) (hj : j < n * size) (hp : a.eval p = .pointer (some ⟨g, j, none⟩)) (hx : a.eval x = .int ki z) (hBw : base ≤ w.heap.size) (hs : ∀ w, (sizeOf t).run P w = .ok 1 w)
    (h : ∀ w1, w1.ownsRow base e size (.slice (some ⟨g, 0, none⟩) n cap) n (xs.set j (.int ki z)) → Below base w w1 → Stirs (fun k => k = g) w w1 → wpList P ops Q rest (a.put d undef) w1) :
    wpList P ops Q (⟨d, .store t p x, ty, pos, aft, none⟩ :: rest) a w := by
  have hc : w.cell? ⟨g, j, none⟩ = some (xs[j]'(by rw [hown.1]; exact hj)) := (hown.cellAt j hj).trans (List.getElem?_eq_getElem _)
  have hfz := hown.frozenAt j
  have hst : Stirs (fun k => k = g) w (w.setCell ⟨g, j, none⟩ (.int ki z)) := stirs_setCell (S := fun k => k = g) _ g j _ rfl
  refine wpList_did (w' := w.setCell ⟨g, j, none⟩ (.int ki z)) rfl ?_ (h _ (hown.stored j _).1 (hst.below hBw (fun k hk => by rw [hk]; exact (hown.lt g rfl).1)) hst)
  simp only [execOp, hp, hx]
  simp [go_sem, hs, hc, hfz]
def zeroS (s : SecM) : SecM := { s with addr := 0 }
def zeroE (e : ElfM) : ElfM := { e with typ := 1, segs := [], secs := e.secs.map zeroS }
/-- The first k sections' addresses made zero. -/
def zs (L : List (SecM × Value)) (k : Nat) : List (SecM × Value) := (L.take k).map (fun p => (zeroS p.1, p.2)) ++ L.drop k
theorem zs_len (L : List (SecM × Value)) (k : Nat) : (zs L k).length = L.length := by unfold zs; simp; omega
theorem zs_zero (L : List (SecM × Value)) : zs L 0 = L := by unfold zs; simp
theorem zs_all (L : List (SecM × Value)) : (zs L L.length).map (·.1) = (L.map (·.1)).map zeroS := by unfold zs; simp [Function.comp_def]
theorem zs_mem {L : List (SecM × Value)} {k : Nat} {p : SecM × Value} (h : p ∈ zs L k) : ∃ q ∈ L, p.2 = q.2 ∧ p.1.data = q.1.data := by
  unfold zs at h
  rcases List.mem_append.1 h with h | h
  · obtain ⟨q, hq, rfl⟩ := List.mem_map.1 h
    exact ⟨q, List.mem_of_mem_take hq, rfl, rfl⟩
  · exact ⟨p, List.mem_of_mem_drop h, rfl, rfl⟩
theorem zs_set {L : List (SecM × Value)} {k : Nat} {s : SecM} {dv : Value} (hk : L[k]? = some (s, dv)) : ((zs L k).flatMap encSec).set (k * 10 + 3) (.int .u64 0) = (zs L (k + 1)).flatMap encSec := by
  have hlt := (List.getElem?_eq_some_iff.1 hk).1
  have hd : L.drop k = (s, dv) :: L.drop (k + 1) := by
    rw [List.drop_eq_getElem_cons hlt]
    congr 1
    exact (List.getElem?_eq_some_iff.1 hk).2
  have ht : L.take (k + 1) = L.take k ++ [(s, dv)] := by rw [List.take_add_one, hk]; rfl
  unfold zs
  have hl : (((L.take k).map (fun p : SecM × Value => (zeroS p.1, p.2))).flatMap encSec).length = k * 10 := by
    rw [flat_len (k := 10) (fun _ => rfl), List.length_map, List.length_take, Nat.min_eq_left (Nat.le_of_lt hlt)]
  rw [hd, ht, List.map_append, List.flatMap_append, List.flatMap_cons, List.set_append, if_neg (by omega), hl, Nat.add_sub_cancel_left, List.set_append, if_pos (by show 3 < 10; decide), List.flatMap_append, List.flatMap_append, List.append_assoc]
  rfl
theorem zero_ok {e : ElfM} (h : ElfOk e) : ElfOk (zeroE e) := by
  have hs : ∀ s ∈ (zeroE e).secs, ∃ x ∈ e.secs, s = zeroS x := fun s hs => by
    obtain ⟨x, hx, rfl⟩ := List.mem_map.1 hs
    exact ⟨x, hx, rfl⟩
  have hd : dsum (zeroE e).secs = dsum e.secs := by
    unfold dsum zeroE
    simp only [List.map_map]
    rfl
  refine ⟨⟨by show (-9223372036854775808 : Int) ≤ 1 ∧ (1 : Int) < 9223372036854775808; omega, h.fits.2, h.fits.3, h.fits.4, fun s hx => ?_, fun s hx => by cases hx⟩, by rw [hd]; exact h.data, fun s hx => ?_, by show (e.secs.map zeroS).length ≤ _; rw [List.length_map]; exact h.secs, by show ([] : List SegM).length ≤ _; simp⟩
  · obtain ⟨x, hx', rfl⟩ := hs s hx
    have := h.fits.secs x hx'
    exact ⟨this.1, this.2.1, by show 0 < _; omega, this.2.2.2⟩
  · obtain ⟨x, hx', rfl⟩ := hs s hx
    exact h.names x hx'
theorem zero_addr {e : ElfM} : ∀ s ∈ (zeroE e).secs, s.addr = 0 := fun s hs => by
  obtain ⟨x, hx, rfl⟩ := List.mem_map.1 hs
  rfl
/-- What memory holds while addresses are made zero: the file's block, its sections, their bytes. -/
structure ZInv (w wr : World) (base g k : Nat) (c : Array Value) (L : List (SecM × Value)) (sv : Value) : Prop where
  blk : wr.heap[g]? = some (.cells c 61 (0, 0))
  so : OwR 10 encSec 69 wr base sv (zs L k)
  tw : ∀ p ∈ L, Twined wr base p.2 p.1.data
  below : Below w.heap.size w wr
  hb : w.heap.size ≤ base
  hbw : base ≤ wr.heap.size
theorem ZInv.next {w wr w1 : World} {base g k : Nat} {c : Array Value} {L : List (SecM × Value)} {s : SecM} {dv : Value} {g0 n cap : Nat} (h : ZInv w wr base g k c L (.slice (some ⟨g0, 0, none⟩) n cap)) (hk : L[k]? = some (s, dv)) (hn : n = L.length)
    (ho : w1.ownsRow base 69 10 (.slice (some ⟨g0, 0, none⟩) n cap) n (((zs L k).flatMap encSec).set (k * 10 + 3) (.int .u64 0))) (hs : Stirs (fun k => k = g0) wr w1) : ZInv w w1 base g (k + 1) c L (.slice (some ⟨g0, 0, none⟩) n cap) := by
  obtain ⟨cs0, fz0, hcs0⟩ := own_kind h.so g0 rfl
  have hlt := (World.ownsRow.lt h.so g0 rfl).1
  refine ⟨hs.kept h.blk (fun e => ?_), ?_, fun p hp => (h.tw p hp).stirs hs hcs0 (by decide), h.below.trans (hs.below h.below.size (fun j hj => by rw [hj]; exact Nat.le_trans h.hb hlt)), h.hb, Nat.le_trans h.hbw hs.size⟩
  · subst e
    rw [h.blk] at hcs0
    cases hcs0
  · rw [zs_set hk] at ho
    unfold OwR
    rw [zs_len, ← hn]
    exact ho
theorem ZInv.at {w wr : World} {base g : Nat} {c : Array Value} {L : List (SecM × Value)} {sv : Value} {e : ElfM} (h : ZInv w wr base g L.length c L sv) (he : e.secs = L.map (·.1)) : ElfAt wr (zeroE e) (zs L L.length) sv (.slice none 0 0) :=
  ⟨by rw [zs_all, ← he]; rfl, h.so.rd, fun p hp => by
    obtain ⟨q, hq, h1, h2⟩ := zs_mem hp
    rw [h1, h2]
    exact (h.tw q hq).bs, RdR.nil _ _ _⟩
end Go.Proofs.Ytgjoimcgiofinaa
namespace Go.Proofs.Ytgjoimcgiofinaa
open Go.RowKit Go.Fd
theorem row_fl {w : World} {base : Nat} {a : Option Addr} {m c : Nat} {F : List FlM} {f : FlM} {k : Nat} (h : OwR 3 encFl 67 w base (.slice a m c) F) (hk : F[k]? = some f) :
    ∃ b o, a = some ⟨b, o, none⟩ ∧ w.cell? ⟨b, o + k * 3, none⟩ = some (.int .i64 f.code) ∧ w.cell? ⟨b, o + k * 3 + 1, none⟩ = some (.int .i64 f.a) ∧ w.cell? ⟨b, o + k * 3 + 2, none⟩ = some (.int .i64 f.b) := by
  obtain ⟨a', c', hv, _, _, hc⟩ := h.rd.open (fun _ => rfl)
  injection hv with h1 _ _
  obtain ⟨b, o, ha, hcc⟩ := hc k f hk (by decide)
  have hd : ∀ j v, (encFl f)[j]? = some v → w.cell? ⟨b, o + k * 3 + j, none⟩ = some v := fun j v hj => by
    have h3 : j < 3 := (List.getElem?_eq_some_iff.1 hj).1
    have := (hcc j h3).trans hj
    rwa [← Nat.add_assoc] at this
  exact ⟨b, o, h1.trans ha, hd 0 _ rfl, hd 1 _ rfl, hd 2 _ rfl⟩
theorem own_max {w : World} {base e size n m c : Nat} {a : Option Addr} {xs : List Value} (h : w.ownsRow base e size (.slice a m c) n xs) : m ≤ 9223372036854775807 := by
  rcases h.2 with ⟨h1, h2⟩ | ⟨g, cap, cur, hv, _, _, h3, h4, _⟩
  · injection h1 with _ h _; omega
  · injection hv with _ h _; unfold maxLen at h4; omega
theorem fl_len_of {w : World} {base : Nat} {a : Option Addr} {m c : Nat} {F : List FlM} (h : OwR 3 encFl 67 w base (.slice a m c) F) : m = F.length := own_len h
attribute [local irreducible] walk
set_option maxHeartbeats 8000000 in
set_option maxRecDepth 100000 in
theorem wellWritten_any (e : ElfM) (L : List (SecM × Value)) (sv gv : Value) (w : World) (h : ElfAt w e L sv gv) (ho : ElfOk e) (hdl : dsum e.secs ≤ 1000000000) :
    Calls Try.prog 8 #[elfV e sv gv] w fun r w' => r = .returned (.bool true) ∧ Below w.heap.size w w' := by
  have HA := Lib.hid h
  have HO := Lib.hid ho
  have HOZ := Lib.hid (zero_ok ho)
  obtain ⟨a, ca, rfl, hca, -, hc⟩ := h.rd.open (fun _ => rfl)
  obtain ⟨gm, ga, gc, -, rfl, _, _⟩ := h.segs.shape
  obtain ⟨sm, hsm⟩ : ∃ n, n = L.length := ⟨_, rfl⟩
  have HSL := Lib.hid hsm
  have HC := Lib.hid hc
  have HLE := Lib.hid (fun w' (hb : Below w.heap.size w w') => light_any e L _ _ w' (h.mono hb) ho)
  have HCP := Lib.hid (fun w' (hb : Below w.heap.size w w') => copy_any e L _ _ w' (h.mono hb) ho hdl)
  have HWE := Lib.hid (fun w' (hb : Below w.heap.size w w') => writeE_any e L _ _ w' (h.mono hb) ho)
  have HSE := Lib.hid (fun k x (hk : L[k]? = some x) => sec_of h.secs hk)
  have HES := Lib.hid h.secs
  rw [← hsm] at hca HLE HCP HWE ⊢
  clear h ho hdl hc hsm
  generalize lightB e = le at *
  go_enter Try.func8, Try.ntmps8
  go_wp2_with ((with_reducible show wpList _ _ _ (⟨some 1, .box _ _, _, _, _, _⟩ :: _) _ _); go_must (refine wpList_box rfl ?_; intro w1 hx1 hb1 hs1; have HX1 := Lib.hid hx1; have HB1 := Lib.hid hb1; clear hx1 hb1))
  refine (begun6_any _).mono ?_
  rintro r w2 ⟨rfl, hb2⟩
  have HX2 := Lib.hid (heap_below hb2 HX1.out)
  have HB2 := Lib.hid (HB1.out.trans (hb2.mono HB1.out.size))
  clear hb2
  obtain ⟨c0, c1, c2, c3, c4, c5⟩ := elf_box HX2.out
  go_wp2_with fail
  refine (HLE.out _ HB2.out).mono ?_
  rintro r w3 ⟨rfl, hb3⟩
  have HX3 := Lib.hid (heap_below hb3 HX2.out)
  have HB3 := Lib.hid (HB2.out.trans (hb3.mono HB2.out.size))
  clear hb3 c0 c1 c2 c3 c4 c5
  cases le with
  | false =>
    go_wp2
    go_ret
    exact ⟨rfl, HB3.out⟩
  | true =>
    obtain ⟨c0, c1, c2, c3, c4, c5⟩ := elf_box HX3.out
    by_cases hbig : 40 < sm
    · go_wp2
      go_ret
      exact ⟨rfl, HB3.out⟩
    have hsm40 : sm ≤ 40 := by omega
    have d40 : decide ((40 : Int) < (sm : Int)) = false := decide_eq_false (by omega)
    clear hbig
    go_wp2_with fail
    clear d40
    refine (HWE.out _ HB3.out).mono ?_
    rintro r w4 ⟨v4, rfl, hv4, hb4⟩
    have HX4 := Lib.hid (heap_below hb4 HX3.out)
    have HB4 := Lib.hid (HB3.out.trans (hb4.mono HB3.out.size))
    clear hb4 c0 c1 c2 c3 c4 c5
    cases hmay : mayE e with
    | false =>
      rw [fileW_no hmay] at hv4 ⊢
      obtain ⟨m4, a4, q4, hm4, rfl, _, _⟩ := hv4.shape
      obtain rfl : m4 = 0 := hm4.out
      clear hv4 hm4 hmay
      go_wp2
      go_ret
      exact ⟨rfl, HB4.out⟩
    | true =>
      rw [fileW_ok hmay] at hv4 ⊢
      have HCK := Lib.hid (wCheck_any (fileB e) _ w4 (look_file hmay) hv4.bs)
      have HCF := Lib.hid (fun F hc => checked_file (F := F) hmay HO.out.fits hc)
      obtain ⟨m4, a4, q4, -, rfl, _, _⟩ := hv4.shape
      clear hv4 hmay
      go_wp2_with fail
      refine HCK.out.mono ?_
      rintro r w5 ⟨⟨fv, F, rfl, hof, hck⟩, hb5⟩
      have HFL := Lib.hid (HCF.out F hck)
      have HOF := Lib.hid hof
      obtain ⟨fm, fa, fc, -, rfl, _, _⟩ := hof.shape
      have HFM := Lib.hid (fl_len_of hof)
      have HX5 := Lib.hid (heap_below hb5 HX4.out)
      have HB5 := Lib.hid (HB4.out.trans (hb5.mono HB4.out.size))
      have hfm9 := own_max hof
      clear hof hck hb5 HCK HCF
      go_wp2
      go_loopw [6] (fun i wr => ∃ (k : Nat), i = .int .i64 k ∧ k ≤ fm ∧ Hid (Below w5.heap.size w5 wr)) (fun i _ => fm - (intOf i).toNat)
      case atStart => exact ⟨0, rfl, Nat.zero_le _, Below.refl _ _⟩
      case round =>
        obtain ⟨k, rfl, hk, HBR⟩ := hrel
        have HXr := Lib.hid (heap_below HBR.out HX5.out)
        have HBw := Lib.hid (HB5.out.trans (HBR.out.mono HB5.out.size))
        obtain ⟨c0, c1, c2, c3, c4, c5⟩ := elf_box HXr.out
        by_cases hlt : k < fm
        · have X1 := Lib.hid (show F[k]? = some (F[k]'(by have := HFM.out; omega)) from List.getElem?_eq_getElem _)
          generalize F[k]'(by have := HFM.out; omega) = f at *
          have hfl := HFL.out f (List.mem_of_getElem? X1.out)
          obtain ⟨b1, o1, ha1, u0, u1, u2⟩ := row_fl (HOF.out.mono HBR.out) X1.out
          subst ha1
          clear c0 c1 c2 c3 c5 u2
          obtain ⟨fcode, fA, fB⟩ := f
          dsimp only at u0 u1
          have hAB := fun (x : Above wr) (b k : Nat) (h : b < wr.heap.size) => Above.cell x b k h
          have l1 := block_lt u0
          have l2 := block_lt c4
          rcases hfl with ⟨h8, -⟩ | ⟨h5, j, s, hfa, hj, hal, hmod⟩
          · have h8' : 8 ≤ fcode := h8
            have e1 : (fcode != 5) = true := by rw [bne_iff_ne]; omega
            have e2 : (fcode == 5) = false := by rw [beq_eq_false_iff_ne]; omega
            have e3 : decide (fcode < 8) = false := decide_eq_false (by omega)
            clear h8
            go_wp2
            refine wp_region_walk 51 [] (by kernel_rfl) (by kernel_rfl) ?_
            simp only [List.take_succ_cons, List.take_zero, List.drop_succ_cons, List.drop_zero]
            try go_frame
            repeat (first
              | (refine walk_quiet rfl rfl rfl ?_; intro K hK; go_big_quiet_op; go_big_quiet_on)
              | (refine walk_skip rfl ?_; go_frame)
              | (refine walk_check rfl rfl rfl ?_; go_frame))
            refine walk_nil ?_
            intro w8 hb8 hF8
            have HB8 := Lib.hid (HBR.out.trans (hb8.mono HBR.out.size))
            clear hF8 hb8 hAB l1 l2 u0 u1 c4 e1 e2 e3
            go_wp2
            go_round
            case rel => exact ⟨k + 1, by go_num, by omega, HB8⟩
            case measure => simp [intOf] <;> omega
          · obtain rfl : fcode = 5 := h5
            obtain rfl : fA = (j : Int) + 1 := hfa
            have HX := Lib.hid (And.intro hal hmod)
            obtain ⟨x, hx, hxs⟩ : ∃ x, L[j]? = some x ∧ x.1 = s := by
              rw [HES.out, List.getElem?_map] at hj
              cases hx : L[j]? with
              | none => rw [hx] at hj; cases hj
              | some x => rw [hx] at hj; exact ⟨x, rfl, Option.some.inj hj⟩
            have hjs : j < sm := by have := (List.getElem?_eq_some_iff.1 hx).1; have := HSL.out; omega
            obtain ⟨b2, o2, ha2, z0, z1, z2, z3, z4, z5, z6, z7, z8, z9, -⟩ := sec_cells HC.out HBw.out hx
            subst ha2
            rw [hxs] at z3 z4
            clear z0 z1 z2 z5 z6 z7 z8 z9 hx hxs hj
            have l3 := block_lt z3
            generalize hr : s.addr % s.align = r at *
            have hmd : ((s.addr : Int)).tmod (s.align : Int) = (r : Int) := by rw [Int.tmod_eq_emod_of_nonneg (by omega), ← hr]; rfl
            have hmd2 : ((s.addr : Int)) % (s.align : Int) = (r : Int) := by rw [← hr]; rfl
            have hr2 : ((r : Int) == 0) = false := by rw [beq_eq_false_iff_ne]; omega
            have hal2 : ((s.align : Int) == 0) = false := by rw [beq_eq_false_iff_ne]; omega
            have hal3 : 1 ≤ (s.align : Int) := by omega
            have hA0 : (((j : Int) + 1) == 0) = false := by rw [beq_eq_false_iff_ne]; omega
            have hA1 : decide ((sm : Int) < (j : Int) + 1) = false := decide_eq_false (by omega)
            have hwj : IntKind.i64.wrap ((j : Int) + 1 - 1) = (j : Int) := by
              have := i64_nat (n := j) (by omega)
              rw [show (j : Int) + 1 - 1 = (j : Int) by omega]; exact this
            have hwj2 : IntKind.i64.wrap (j : Int) = (j : Int) := i64_nat (n := j) (by omega)
            clear hr hal hmod
            go_wp2
            refine wp_region_walk 51 [] (by kernel_rfl) (by kernel_rfl) ?_
            simp only [List.take_succ_cons, List.take_zero, List.drop_succ_cons, List.drop_zero]
            try go_frame
            repeat (first
              | (refine walk_quiet rfl rfl rfl ?_; intro K hK; go_big_quiet_op; go_big_quiet_on)
              | (refine walk_skip rfl ?_; go_frame)
              | (refine walk_check rfl rfl rfl ?_; go_frame))
            refine walk_nil ?_
            intro w8 hb8 hF8
            have HB8 := Lib.hid (HBR.out.trans (hb8.mono HBR.out.size))
            clear hF8 hb8 hAB l1 l2 l3 u0 u1 c4 z3 z4 hmd hmd2 hr2 hal2 hal3 hA0 hA1 hwj hwj2
            go_wp2
            go_round
            case rel => exact ⟨k + 1, by go_num, by omega, HB8⟩
            case measure => simp [intOf] <;> omega
        · obtain rfl : k = fm := by omega
          have HXR5 := Lib.hid HXr.out
          go_wp2_with fail
          obtain ⟨wo, rfl⟩ : ∃ wo : World, wo = wr := ⟨_, rfl⟩
          refine (HCP.out _ HBw.out).mono ?_
          rintro r w6 ⟨L', sv', gv', rfl, hsame, hso, htw, hgo, hb6⟩
          have HSO6 := Lib.hid hso
          have HTW6 := Lib.hid htw
          have HSAME := Lib.hid (show e.secs = L'.map (·.1) by rw [hsame]; exact HA.out.secs)
          obtain ⟨sm', sa', sc', hsm', rfl, _, _⟩ := hso.shape
          obtain ⟨gm', ga', gc', -, rfl, _, _⟩ := hgo.shape
          have HB56 := Lib.hid hb6
          have HSM' := Lib.hid hsm'.out
          have hsm9 : sm' ≤ 1000000000 := by have h1 := HO.out.secs; have h2 := congrArg List.length HSAME.out; rw [List.length_map] at h2; have h3 := HSM'.out; omega
          clear hb6 hsame hso htw hgo hsm' c0 c1 c2 c3 c4 c5
          go_wp2_with (first
            | ((with_reducible show wpList _ _ _ (⟨some 7, .alloc _, _, _, _, _⟩ :: _) _ _); go_must (refine wpList_allocElf ?_; intro w7 hx7 hb7 hs7; have HY7 := Lib.hid hx7; have HB67 := Lib.hid hb7; clear hx7 hb7))
            | ((with_reducible show wpList _ _ _ (⟨none, .store _ (.tmp 7) _, _, _, _, _⟩ :: _) _ _); go_must (refine wpList_storeElf HY7.out rfl rfl rfl rfl (by simp [Value.oneCell']) (Nat.le_refl _) (Nat.le_of_lt hs7) ?_; intro w8 hh8 hb8; have HY8 := Lib.hid (show w8.heap[w6.heap.size]? = some (.cells #[.int .i64 e.typ, .int .i64 e.target, .int .u32 (e.flags : Int), .int .u64 (e.entry : Int), .slice sa' sm' sc', .slice ga' gm' gc'] 61 (0, 0)) from hh8); have HB68 := Lib.hid (HB67.out.trans hb8); have HS8 := Lib.hid hb8.size; clear hh8 hb8))
            | ((with_reducible show wpList _ _ _ (⟨none, .store _ (.tmp 106) _, _, _, _, _⟩ :: _) _ _); go_must (refine wpList_set HY8.out (show 5 < 6 by decide) rfl rfl (Nat.le_refl _) (by have h1 := HS8.out; have h2 := HS8.out; omega) (fun w => by kernel_rfl) ?_; intro w9 hh hb hs; have HY9 := Lib.hid hh; have HB69 := Lib.hid (HB68.out.trans hb); have HS9 := Lib.hid hb.size; clear hh hb hs))
            | ((with_reducible show wpList _ _ _ (⟨none, .store _ (.tmp 107) _, _, _, _, _⟩ :: _) _ _); go_must (refine wpList_setI HY9.out (show 0 < 6 by decide) rfl rfl (fun w => by kernel_rfl) ?_; intro wa hh hs; have hb := hs.below (B := w6.heap.size) (by have h1 := HS8.out; have h2 := HS9.out; omega) (fun j hj => by rw [hj]; exact Nat.le_refl _); have HYA := Lib.hid (show wa.heap[w6.heap.size]? = some (.cells #[.int .i64 1, .int .i64 e.target, .int .u32 (e.flags : Int), .int .u64 (e.entry : Int), .slice sa' sm' sc', .slice none 0 0] 61 (0, 0)) from hh); have HB6A := Lib.hid (HB69.out.trans hb); clear hh hb hs)))
          have HZ0 : Hid (ZInv wo wa wo.heap.size w6.heap.size 0 #[.int .i64 1, .int .i64 e.target, .int .u32 (e.flags : Int), .int .u64 (e.entry : Int), .slice sa' sm' sc', .slice none 0 0] L' (.slice sa' sm' sc')) := Lib.hid ⟨HYA.out, by rw [zs_zero]; exact HSO6.out.mono HB6A.out, fun p hp => (HTW6.out p hp).mono HB6A.out, HB56.out.trans (HB6A.out.mono HB56.out.size), Nat.le_refl _, Nat.le_trans HB56.out.size HB6A.out.size⟩
          clear HSO6 HTW6 HY7 HY8 HY9 HYA
          go_loopw [8] (fun i wr => ∃ (k : Nat), i = .int .i64 k ∧ k ≤ sm' ∧ Hid (ZInv wo wr wo.heap.size w6.heap.size k #[.int .i64 1, .int .i64 e.target, .int .u32 (e.flags : Int), .int .u64 (e.entry : Int), .slice sa' sm' sc', .slice none 0 0] L' (.slice sa' sm' sc'))) (fun i _ => sm' - (intOf i).toNat)
          case atStart => exact ⟨0, rfl, Nat.zero_le _, HZ0⟩
          case round =>
            clear hk hlt
            obtain ⟨k, rfl, hk, HZ⟩ := hrel
            have c0 := cell_rec HZ.out.blk 0
            have c1 := cell_rec HZ.out.blk 1
            have c2 := cell_rec HZ.out.blk 2
            have c3 := cell_rec HZ.out.blk 3
            have c4 := cell_rec HZ.out.blk 4
            have c5 := cell_rec HZ.out.blk 5
            simp only [List.getElem?_toArray, List.getElem?_cons_zero, List.getElem?_cons_succ] at c0 c1 c2 c3 c4 c5
            by_cases hlt : k < sm'
            · have X1 := Lib.hid (show L'[k]? = some (L'[k]'(by have := HSM'.out; omega)) from List.getElem?_eq_getElem _)
              generalize L'[k]'(by have := HSM'.out; omega) = x at *
              obtain ⟨s, dv⟩ := x
              obtain ⟨g0, cap0, hq⟩ := own_form HZ.out.so (by rw [zs_len]; have := HSM'.out; omega)
              have hq1 : sa' = some ⟨g0, 0, none⟩ := by injection hq
              subst hq1
              have HOW : Hid (wr.ownsRow wo.heap.size 69 10 (.slice (some ⟨g0, 0, none⟩) sm' sc') sm' ((zs L' k).flatMap encSec)) := Lib.hid (by have := HZ.out.so; unfold OwR at this; rw [zs_len, ← HSM'.out] at this; exact this)
              clear hq
              go_wp2_with ((with_reducible show wpList _ _ _ (⟨none, .store _ (.tmp 119) _, _, _, _, _⟩ :: _) _ _); go_must (refine wpList_setRowI HOW.out (j := k * 10 + 3) (by omega) rfl rfl HZ.out.hbw (fun w => by kernel_rfl) ?_; intro wn hown hbn hsn; have HZN := Lib.hid (HZ.out.next X1.out HSM'.out hown hsn); clear hown hbn hsn c0 c1 c2 c3 c4 c5))
              go_round
              case rel => exact ⟨k + 1, by go_num, by omega, HZN⟩
              case measure => simp [intOf] <;> omega
            · obtain rfl : k = sm' := by omega
              have HAT : Hid (ElfAt wr (zeroE e) (zs L' L'.length) (.slice sa' k sc') (.slice none 0 0)) := Lib.hid (ZInv.at (by have := HZ.out; rw [HSM'.out] at this ⊢; exact this) HSAME.out)
              have HBR := Lib.hid (HBw.out.trans (HZ.out.below.mono HBw.out.size))
              have HWZ := Lib.hid (writeE_any (zeroE e) _ _ _ wr HAT.out HOZ.out)
              go_wp2_with fail
              refine HWZ.out.mono ?_
              rintro r wx ⟨vx, rfl, hvx, hbx⟩
              have HBX := Lib.hid (HBR.out.trans (hbx.mono HBR.out.size))
              clear hbx c0 c1 c2 c3 c4 c5
              cases hmz : mayE (zeroE e) with
              | false =>
                rw [fileW_no hmz] at hvx ⊢
                obtain ⟨mx, ax, qx, -, rfl, _, _⟩ := hvx.shape
                clear hvx hmz
                go_wp2
                go_ret
                exact ⟨rfl, HBX.out⟩
              | true =>
                rw [fileW_ok hmz] at hvx ⊢
                have HSO0 := Lib.hid (wSound_any (fileB (zeroE e)) vx wx (look_file hmz) hvx.bs)
                have HSO : Hid (Calls Try.prog 42 #[vx] wx fun r w' => r = Ending.returned (.bool true) ∧ Below wx.heap.size wx w') := Lib.hid (HSO0.out.mono fun r w' ⟨h1, h2⟩ => ⟨snd_file hmz HOZ.out.fits rfl rfl zero_addr h1, h2⟩)
                obtain ⟨mx, ax, qx, -, rfl, _, _⟩ := hvx.shape
                clear hvx hmz HSO0
                go_wp2_with fail
                refine HSO.out.mono ?_
                rintro r wy ⟨rfl, hby⟩
                have HBY := Lib.hid (HBX.out.trans (hby.mono HBX.out.size))
                clear hby
                go_wp2
                go_ret
                exact ⟨by simp, HBY.out⟩
end Go.Proofs.Ytgjoimcgiofinaa
namespace Go.Proofs.Ytgjoimcgiofinaa
open Go.ChangeShapes Go.WideShapes Go.ChangeAt Go.RowKit Go.Fd
theorem Try.own : ownKnob Try.prog.godebug = none := by kernel_rfl
theorem Try.laidOut : laidOutB Try.prog = true := by kernel_rfl
/-- All arguments read behind the call as they read before it. -/
theorem belowAll {H : Type} {enc : TypeId × Value → H} {W W' : World} (hb : Below W.heap.size W W') : ∀ {ts : List TypeId} {vs : List Value} {ds : List (DataW H)} {ps : List MemPlace},
    DataW.TrodAll enc Try.prog W 0 (fun _ => true) true ts vs ds ps → (∀ x ∈ ps, x.block < W.heap.size) → (∀ t ∈ ts, Try.prog.readableRec t = true ∧ t < Try.prog.types.size) →
    DataW.TrodAll enc Try.prog W' 0 (fun b => decide (b < W.heap.size)) true ts vs ds ps
  | [], vs, ds, ps, h, _, _ => by obtain ⟨rfl, rfl, rfl⟩ := trodAll_nil h; exact trodAll_mk0
  | t :: ts, vs, ds, ps, h, hlt, ht => by
    obtain ⟨v, vs', d, ds', p, q, rfl, rfl, rfl, h0, h1⟩ := trodAll_cons h
    exact trodAll_cons_mk (Below.trod Try.laidOut (ht t (by simp)).1 (ht t (by simp)).2 h0 hb fun x hx => hlt x (by simp [hx]))
      (belowAll hb h1 (fun x hx => hlt x (by simp [hx])) fun u hu => ht u (by simp [hu]))
/-- The same, the types asked as one closed fact. -/
theorem belowAllB {H : Type} {enc : TypeId × Value → H} {W W' : World} {ts : List TypeId} (ht : (ts.all fun t => Try.prog.readableRec t && decide (t < Try.prog.types.size)) = true) (hb : Below W.heap.size W W') {vs : List Value} {ds : List (DataW H)} {ps : List MemPlace}
    (h : DataW.TrodAll enc Try.prog W 0 (fun _ => true) true ts vs ds ps) (hlt : ∀ x ∈ ps, x.block < W.heap.size) : DataW.TrodAll enc Try.prog W' 0 (fun b => decide (b < W.heap.size)) true ts vs ds ps :=
  belowAll hb h hlt fun t htm => by
    have := List.all_eq_true.1 ht t htm
    simp only [Bool.and_eq_true, decide_eq_true_eq] at this
    exact this
theorem wf_u64 {x : Int} (h : (Lit.int .u64 x).wf = true) : 0 ≤ x ∧ x < 18446744073709551616 := by
  simp [Lit.wf, IntKind.min, IntKind.max, IntKind.signed, IntKind.bits] at h
  exact ⟨by omega, by omega⟩
theorem len_6 {α : Type} : ∀ {l : List α}, l.length = 6 → ∃ a0 a1 a2 a3 a4 a5, l = [a0, a1, a2, a3, a4, a5]
  | [a0, a1, a2, a3, a4, a5], _ => ⟨a0, a1, a2, a3, a4, a5, rfl⟩
theorem len_7 {α : Type} : ∀ {l : List α}, l.length = 7 → ∃ a0 a1 a2 a3 a4 a5 a6, l = [a0, a1, a2, a3, a4, a5, a6]
  | [a0, a1, a2, a3, a4, a5, a6], _ => ⟨a0, a1, a2, a3, a4, a5, a6, rfl⟩
end Go.Proofs.Ytgjoimcgiofinaa
namespace Go.Fd
end Go.Fd
namespace Go.Proofs.Ytgjoimcgiofinaa
open Go.ChangeMaps Go.ChangeShapes Go.WideShapes Go.ChangeAt Go.RowKit Go.Fd
/-- A struct of cells, each field of one cell: how each reads. -/
theorem cells_struct {H : Type} {enc : TypeId × Value → H} {P : Program} {w : World} {base : Nat} {spare : Nat → Bool} {held : Bool} {t : TypeId} {fs : Array Field} {cs : List Value} {fuel : Nat} {y : DataW H × List MemPlace}
    (hs : P.underlying t = some (.struct fs)) (hone : Go.Deep.oneCellFields P fs = true) (hC : cs.length = fs.size) (h : DataW.trod enc P w base spare held fuel t cs = some y) :
    ∃ n, ∀ (j : Nat) (f : Field), fs[j]? = some f → ∃ x y, cs[j]? = some x ∧ DataW.trod enc P w base spare held n f.type [x] = some y := by
  obtain ⟨xs, n, _, hx, _, hlen, hg⟩ := DataW.trod_struct hs h
  refine ⟨n, fun j f hj => ?_⟩
  obtain ⟨o, k⟩ := Go.Deep.hone_of hone j f hj
  have hjl : j < fs.size := (Array.getElem?_eq_some_iff.1 hj).1
  have hcl : j < cs.length := by omega
  have h1 := hg j f hj
  rw [o, k] at h1
  have h2 : (List.drop j cs).take 1 = [cs[j]] := by
    rw [List.drop_eq_getElem_cons hcl]
    rfl
  rw [h2] at h1
  exact ⟨_, xs[j]'(by omega), List.getElem?_eq_getElem hcl, h1.trans (List.getElem?_eq_getElem _)⟩
end Go.Proofs.Ytgjoimcgiofinaa
namespace Go.Proofs.Ytgjoimcgiofinaa
open Go
theorem handed_cond {H : Type} {enc : TypeId × Value → H} {a : Assume} {C : Go.Checked} {os : Os} {f : FuncId} {fn : Func} {s : OpenSpec} {k : (H : Type) → List (DataW H) → Bool} (hk : s.cond = some k) {F : Stop.Interp} {conds : List PathCond} {apart fresh handsOn again : Bool}
    (own : ownKnob C.prog.godebug = none) (started : os.Started) (noInit : C.prog.inits.idxOf? f = none) (hfn : C.prog.funcs[f]? = some fn)
    (witness : ∃ (w : World) (tape : Tape) (i : Input), w.os = os ∧ (w.forCall tape i).Shaped C.prog ∧ i.vars = [] ∧ Input.okWide C.prog (w.forCall tape i) .any w.heap.size f i ∧
      s.pre6 enc C.prog fn conds apart (w.forCall tape i).memory i.args ∧ a.holds C.prog (lone (Frame.enter C.prog f i.args .normal) [] (w.forCall tape i)))
    (contract : ∀ (W : World) (base : Nat) (args : Array Value) (ds gs : List (DataW H)) (before : List MemPlace),
      (∀ (j : Nat) t v, fn.params[j]? = some t → args[j]? = some v → Value.okWide C.prog W .any base t v) →
      DataW.Whole enc C.prog fn.params.toList s.vars apart W args.toList ds gs before →
      k H (ds ++ gs) = true →
      (DataW.weightsEach C.prog (fn.params.toList ++ s.bare.plain.varTypes C.prog) (ds ++ gs)).all (· ≤ reachBytes) = true →
      W.ShapedOpen C.prog →
      Calls C.prog f args W fun e W' => ∃ v, e = .returned v ∧ (s.at F).post enc C.prog fn apart fresh handsOn again W args v W') :
    ReturnsInHanded a C os f .any (s.pre6 enc C.prog fn conds apart) ((s.at F).post enc C.prog fn apart fresh handsOn again) := by
  refine returnsInHanded_of_calls own started noInit witness ?_
  intro w tape i _ hsh _ hok hpre _
  obtain ⟨_, _, _, fn', hfn', _, _, _, _, hval⟩ := hok
  obtain rfl : fn' = fn := Option.some.inj (hfn'.symm.trans hfn)
  obtain ⟨ds, gs, before, hw, _, hkk⟩ := (OpenSpec.pre_some hk conds apart _ _).1 hpre.1
  refine (contract (w.forCall tape i) w.heap.size i.args ds gs before hval (DataW.Whole.of_heap (w' := w.forCall tape i) (by rfl) hw) hkk (hpre.2.weights hw) hsh).mono fun e W' ⟨v, he, hp⟩ => ?_
  subst he
  exact ChangeSpec.post_blind hp
end Go.Proofs.Ytgjoimcgiofinaa
namespace Go.Proofs.Ytgjoimcgiofinaa
open Go.ChangeMaps Go.ChangeShapes Go.WideShapes Go.ChangeAt Go.RowKit Go.Fd
section
variable {H : Type}
theorem bulkAll_append (xs ys : List (DataW H)) : Rows.uptoBulkAll (xs ++ ys) = Rows.uptoBulkAll xs + Rows.uptoBulkAll ys := by
  induction xs with
  | nil => simp [Rows.uptoBulkAll]
  | cons x xs ih => rw [List.cons_append, Rows.uptoBulkAll, Rows.uptoBulkAll, ih]; omega
theorem bulk_get {xs : List (DataW H)} {i : Nat} {x : DataW H} (h : xs[i]? = some x) : Rows.uptoBulk x ≤ Rows.uptoBulkAll xs := by
  induction xs generalizing i with
  | nil => simp at h
  | cons y xs ih =>
    rw [Rows.uptoBulkAll]
    cases i with
    | zero => simp at h; subst h; omega
    | succ i => have := ih (by simpa using h); omega
theorem bulk_pair {xs : List (DataW H)} {i j : Nat} {x y : DataW H} (hij : i < j) (hx : xs[i]? = some x) (hy : xs[j]? = some y) : Rows.uptoBulk x + Rows.uptoBulk y ≤ Rows.uptoBulkAll xs := by
  induction xs generalizing i j with
  | nil => simp at hx
  | cons z xs ih =>
    rw [Rows.uptoBulkAll]
    cases j with
    | zero => omega
    | succ j =>
      cases i with
      | zero => simp at hx; subst hx; have := bulk_get (xs := xs) (i := j) (by simpa using hy); omega
      | succ i => have := ih (i := i) (j := j) (by omega) (by simpa using hx) (by simpa using hy); omega
end
set_option maxRecDepth 100000 in
/-- A slice of records, as it is read, with a measure of each. -/
theorem trod_recs {H : Type} {enc : TypeId × Value → H} {W : World} {v : Value} {y : DataW H × List MemPlace} {fuel : Nat} {α : Type} {k : Nat} {ec : α → List Value} {good : α → Prop} {μ : α → Nat} {t e : TypeId}
    (ht : Try.prog.underlying t = some (.slice e)) (hc : Try.prog.cellsOf e = k) (hk0 : 0 < k) (hlen : ∀ x, (ec x).length = k)
    (hstep : ∀ n cs y, DataW.trod enc Try.prog W 0 (fun _ => true) true n e cs = some y → cs.length = k → ∃ x, cs = ec x ∧ good x ∧ μ x ≤ Rows.uptoBulk y.1)
    (h : DataW.trod enc Try.prog W 0 (fun _ => true) true fuel t [v] = some y) : ∃ l : List α, RdR k ec W v l ∧ (∀ x ∈ l, good x) ∧ (l.map μ).sum + 1 ≤ Rows.uptoBulk y.1 := by
  rcases Go.Deep.open_slice ht h with ⟨hcs, hx⟩ | ⟨a, len, cap, m, n, D, Pl, hcs, _, hl, hm, hmm, hd, hel⟩
  · simp at hcs
    subst hcs hx
    exact ⟨[], RdR.nil k ec W, (fun x hx => by cases hx), by simp [Rows.uptoBulk]⟩
  · simp at hcs
    subst hcs hd
    simp only [hc] at hel
    have hall : ∀ n', n' ≤ len → ∃ l : List α, l.length = n' ∧ (l.map μ).sum ≤ Rows.uptoBulkAll ((List.range n').map D) ∧ ∀ i x, l[i]? = some x → good x ∧ ∀ c, c < k → W.cell? (a.add (i * k + c)) = (ec x)[c]? := by
      intro n'
      induction n' with
      | zero => exact fun _ => ⟨[], rfl, by simp, fun i x h => by simp at h⟩
      | succ n' ih =>
        intro hn
        obtain ⟨l, h1, hs, h2⟩ := ih (by omega)
        obtain ⟨cs', h3, h4⟩ := hel n' (by simp at hmm; omega)
        obtain ⟨-, h5, h6⟩ := World.cells?_some h3
        obtain ⟨x, rfl, hg, hμ⟩ := hstep _ _ _ h4 h5
        dsimp only at hμ
        refine ⟨l ++ [x], by simp [h1], ?_, fun i y hi => ?_⟩
        · rw [List.range_succ, List.map_append, List.map_append, List.sum_append, bulkAll_append]
          simp [Rows.uptoBulkAll]
          omega
        · rcases Nat.lt_or_ge i n' with hlt | hge
          · rw [List.getElem?_append_left (by omega)] at hi
            exact h2 i y hi
          · rw [List.getElem?_append_right (by omega)] at hi
            have hi0 : i - l.length = 0 := by
              have := (List.getElem?_eq_some_iff.1 hi).1
              simp at this
              omega
            rw [hi0] at hi
            cases hi
            obtain rfl : i = n' := by omega
            refine ⟨hg, fun c hc => ?_⟩
            have := h6 c hc
            rwa [Go.Deep.add_add] at this
    obtain ⟨l, h1, hs, h2⟩ := hall len (Nat.le_refl _)
    refine ⟨l, ⟨by rw [flat_len hlen], some a, cap, by rw [h1], by omega, (fun h => by cases h), fun j hj => ?_⟩, fun x hx => ?_, ?_⟩
    · rw [flat_len hlen] at hj
      have hjk : j = j / k * k + j % k := by rw [Nat.mul_comm]; exact (Nat.div_add_mod j k).symm
      have hi : j / k < l.length := (Nat.div_lt_iff_lt_mul hk0).2 hj
      have hx : l[j / k]? = some l[j / k] := List.getElem?_eq_getElem hi
      have h3 := (h2 _ _ hx).2 (j % k) (Nat.mod_lt _ hk0)
      rw [← hjk] at h3
      have h4 := flat_get hlen l (j / k) (j % k) _ hx (Nat.mod_lt _ hk0)
      rw [← hjk] at h4
      obtain ⟨b, off, spot⟩ := a
      have hspot : spot = none := by
        have hl0 : 0 < l.length := Nat.lt_of_le_of_lt (Nat.zero_le _) hi
        have hx0 : l[0]? = some (l[0]'hl0) := List.getElem?_eq_getElem _
        have h0 := (h2 0 _ hx0).2 0 hk0
        have h5 : (ec (l[0]'hl0))[0]? = some ((ec (l[0]'hl0))[0]'(by rw [hlen]; exact hk0)) := List.getElem?_eq_getElem _
        rw [h5, Nat.zero_mul, Nat.zero_add] at h0
        simpa [Addr.add] using World.cell?_spot h0
      subst hspot
      refine ⟨b, off, rfl, ?_⟩
      rw [add_plain] at h3
      rw [h3, h4]
    · obtain ⟨i, hi⟩ := List.mem_iff_getElem?.1 hx
      exact (h2 i x hi).1
    · rw [Rows.uptoBulk]
      omega
theorem flat_one {α β : Type} (f : α → β) (l : List α) : l.flatMap (fun c => [f c]) = l.map f := by
  induction l with
  | nil => rfl
  | cons x l ih => rw [List.flatMap_cons, ih]; rfl
set_option maxRecDepth 100000 in
theorem trod_bytes {H : Type} {enc : TypeId × Value → H} {W : World} {v : Value} {y : DataW H × List MemPlace} {fuel : Nat} (h : DataW.trod enc Try.prog W 0 (fun _ => true) true fuel 23 [v] = some y) :
    ∃ l : List UInt8, Bs W v l ∧ l.length + 1 ≤ Rows.uptoBulk y.1 := by
  obtain ⟨l, h1, -, h3⟩ := trod_recs (α := UInt8) (k := 1) (ec := fun c => [B c]) (good := fun _ => True) (μ := fun _ => 1) (e := 5) (by kernel_rfl) (by kernel_rfl) (by decide) (fun _ => rfl) (fun n cs y h hl => by
    obtain ⟨z, rfl, hy, hw⟩ := DataW.trod_int Try.underlying5 h
    refine ⟨UInt8.ofNat z.toNat, ?_, trivial, ?_⟩
    · simp [Lit.wf, IntKind.min, IntKind.max, IntKind.signed, IntKind.bits] at hw
      simp [B]
      omega
    · rw [hy]
      simp [Rows.uptoBulk]) h
  refine ⟨l, ?_, by rw [List.map_const', List.sum_replicate_nat] at h3; omega⟩
  have e := flat_one B l
  unfold RdR at h1
  rw [e] at h1
  exact h1
theorem wf_u32 {x : Int} (h : (Lit.int .u32 x).wf = true) : 0 ≤ x ∧ x < 4294967296 := by
  simp [Lit.wf, IntKind.min, IntKind.max, IntKind.signed, IntKind.bits] at h
  omega
theorem wf_i64 {x : Int} (h : (Lit.int .i64 x).wf = true) : -9223372036854775808 ≤ x ∧ x < 9223372036854775808 := by
  simp [Lit.wf, IntKind.min, IntKind.max, IntKind.signed, IntKind.bits] at h
  omega
theorem len_10 {α : Type} {l : List α} (h : l.length = 10) : ∃ a0 a1 a2 a3 a4 a5 a6 a7 a8 a9, l = [a0, a1, a2, a3, a4, a5, a6, a7, a8, a9] := by
  match l, h with
  | a0 :: a1 :: a2 :: l, h =>
    obtain ⟨b0, b1, b2, b3, b4, b5, b6, rfl⟩ := len_7 (l := l) (by simpa using h)
    exact ⟨_, _, _, _, _, _, _, _, _, _, rfl⟩
/-- A struct of cells, each field of one cell: how each reads, with what was read. -/
theorem cells_struct2 {H : Type} {enc : TypeId × Value → H} {P : Program} {w : World} {base : Nat} {spare : Nat → Bool} {held : Bool} {t : TypeId} {fs : Array Field} {cs : List Value} {fuel : Nat} {y : DataW H × List MemPlace}
    (hs : P.underlying t = some (.struct fs)) (hone : Go.Deep.oneCellFields P fs = true) (hC : cs.length = fs.size) (h : DataW.trod enc P w base spare held fuel t cs = some y) :
    ∃ n ds, y.1 = .agg ds ∧ ∀ (j : Nat) (f : Field), fs[j]? = some f → ∃ x z, cs[j]? = some x ∧ DataW.trod enc P w base spare held n f.type [x] = some z ∧ ds[j]? = some z.1 := by
  obtain ⟨xs, n, _, hx, _, hlen, hg⟩ := DataW.trod_struct hs h
  refine ⟨n, xs.map (·.1), by rw [hx], fun j f hj => ?_⟩
  obtain ⟨o, k⟩ := Go.Deep.hone_of hone j f hj
  have hjl : j < fs.size := (Array.getElem?_eq_some_iff.1 hj).1
  have hcl : j < cs.length := by omega
  have h1 := hg j f hj
  rw [o, k] at h1
  have h2 : (List.drop j cs).take 1 = [cs[j]] := by
    rw [List.drop_eq_getElem_cons hcl]
    rfl
  rw [h2] at h1
  exact ⟨_, xs[j]'(by omega), List.getElem?_eq_getElem hcl, h1.trans (List.getElem?_eq_getElem _), by rw [List.getElem?_map, List.getElem?_eq_getElem (by omega)]; rfl⟩
/-- A file by value, as it is read; how great it is. -/
structure ElfRead (W : World) (v : Value) (n : Nat) (e : ElfM) (L : List (SecM × Value)) (sv gv : Value) : Prop where
  val : v = elfV e sv gv
  at_ : ElfAt W e L sv gv
  fits : e.fits
  names : ∀ s ∈ e.secs, s.name.length ≤ 9223372036854775807
  size : (L.map fun p => p.1.data.length + 1).sum + e.segs.length ≤ n
set_option maxRecDepth 100000 in
theorem trod_segs {H : Type} {enc : TypeId × Value → H} {W : World} {v : Value} {y : DataW H × List MemPlace} {fuel : Nat} (h : DataW.trod enc Try.prog W 0 (fun _ => true) true fuel 59 [v] = some y) :
    ∃ l : List SegM, RdR 7 encSeg W v l ∧ (∀ s ∈ l, s.fits) ∧ l.length ≤ Rows.uptoBulk y.1 := by
  obtain ⟨l, h1, h2, h3⟩ := trod_recs (α := SegM) (k := 7) (ec := encSeg) (good := SegM.fits) (μ := fun _ => 1) (e := 99) (by kernel_rfl) (by kernel_rfl) (by decide) (fun _ => rfl) (fun n cs y h hl => by
    obtain ⟨xs, n', -, rfl, -, -, -⟩ := DataW.trod_struct Try.underlying99 h
    obtain ⟨m, hf⟩ := cells_struct Try.underlying99 (by kernel_rfl) hl h
    obtain ⟨c0, c1, c2, c3, c4, c5, c6, rfl⟩ := len_7 hl
    obtain ⟨x0, y0, e0, t0⟩ := hf 0 _ rfl
    obtain ⟨x1, y1, e1, t1⟩ := hf 1 _ rfl
    obtain ⟨x2, y2, e2, t2⟩ := hf 2 _ rfl
    obtain ⟨x3, y3, e3, t3⟩ := hf 3 _ rfl
    obtain ⟨x4, y4, e4, t4⟩ := hf 4 _ rfl
    obtain ⟨x5, y5, e5, t5⟩ := hf 5 _ rfl
    obtain ⟨x6, y6, e6, t6⟩ := hf 6 _ rfl
    cases e0; cases e1; cases e2; cases e3; cases e4; cases e5; cases e6
    obtain ⟨n0, q0, -, w0⟩ := DataW.trod_int Try.underlying57 t0
    obtain ⟨n1, q1, -, w1⟩ := DataW.trod_int Try.underlying57 t1
    obtain ⟨n2, q2, -, w2⟩ := DataW.trod_int Try.underlying53 t2
    obtain ⟨n3, q3, -, w3⟩ := DataW.trod_int Try.underlying53 t3
    obtain ⟨n4, q4, -, w4⟩ := DataW.trod_int Try.underlying53 t4
    obtain ⟨n5, q5, -, w5⟩ := DataW.trod_int Try.underlying53 t5
    obtain ⟨n6, q6, -, w6⟩ := DataW.trod_int Try.underlying53 t6
    cases q0; cases q1; cases q2; cases q3; cases q4; cases q5; cases q6
    have h0 := wf_u32 w0
    have h1 := wf_u32 w1
    have h2 := wf_u64 w2
    have h3 := wf_u64 w3
    have h4 := wf_u64 w4
    have h5 := wf_u64 w5
    have h6 := wf_u64 w6
    refine ⟨⟨n0.toNat, n1.toNat, n2.toNat, n3.toNat, n4.toNat, n5.toNat, n6.toNat⟩, ?_, ⟨by show n0.toNat < _; omega, by show n1.toNat < _; omega, by show n2.toNat < _; omega, by show n3.toNat < _; omega, by show n4.toNat < _; omega, by show n5.toNat < _; omega, by show n6.toNat < _; omega⟩, by simp [Rows.uptoBulk]⟩
    simp only [encSeg, Int.toNat_of_nonneg h0.1, Int.toNat_of_nonneg h1.1, Int.toNat_of_nonneg h2.1, Int.toNat_of_nonneg h3.1, Int.toNat_of_nonneg h4.1, Int.toNat_of_nonneg h5.1, Int.toNat_of_nonneg h6.1]) h
  exact ⟨l, h1, h2, by rw [List.map_const', List.sum_replicate_nat] at h3; omega⟩
set_option maxRecDepth 100000 in
theorem trod_secs {H : Type} {enc : TypeId × Value → H} {W : World} {v : Value} {y : DataW H × List MemPlace} {fuel : Nat} (h : DataW.trod enc Try.prog W 0 (fun _ => true) true fuel 58 [v] = some y) :
    ∃ l : List (SecM × Value), RdR 10 encSec W v l ∧ (∀ p ∈ l, p.1.fits ∧ p.1.name.length ≤ 9223372036854775807 ∧ Bs W p.2 p.1.data) ∧ (l.map fun p => p.1.data.length + 1).sum + 1 ≤ Rows.uptoBulk y.1 := by
  refine trod_recs (α := SecM × Value) (k := 10) (ec := encSec) (good := fun p => p.1.fits ∧ p.1.name.length ≤ 9223372036854775807 ∧ Bs W p.2 p.1.data) (e := 69) (by kernel_rfl) (by kernel_rfl) (by decide) (fun _ => rfl) (fun n cs y h hl => ?_) h
  obtain ⟨m, ds, hy, hf⟩ := cells_struct2 Try.underlying69 (by kernel_rfl) hl h
  obtain ⟨c0, c1, c2, c3, c4, c5, c6, c7, c8, c9, rfl⟩ := len_10 hl
  obtain ⟨x0, y0, e0, t0, -⟩ := hf 0 _ rfl
  obtain ⟨x1, y1, e1, t1, -⟩ := hf 1 _ rfl
  obtain ⟨x2, y2, e2, t2, -⟩ := hf 2 _ rfl
  obtain ⟨x3, y3, e3, t3, -⟩ := hf 3 _ rfl
  obtain ⟨x4, y4, e4, t4, -⟩ := hf 4 _ rfl
  obtain ⟨x5, y5, e5, t5, -⟩ := hf 5 _ rfl
  obtain ⟨x6, y6, e6, t6, -⟩ := hf 6 _ rfl
  obtain ⟨x7, y7, e7, t7, -⟩ := hf 7 _ rfl
  obtain ⟨x8, y8, e8, t8, -⟩ := hf 8 _ rfl
  obtain ⟨x9, y9, e9, t9, d9⟩ := hf 9 _ rfl
  cases e0; cases e1; cases e2; cases e3; cases e4; cases e5; cases e6; cases e7; cases e8; cases e9
  obtain ⟨s, q0, -, hs⟩ := DataW.trod_string Try.underlying9 t0
  obtain ⟨n1, q1, -, w1⟩ := DataW.trod_int Try.underlying57 t1
  obtain ⟨n2, q2, -, w2⟩ := DataW.trod_int Try.underlying53 t2
  obtain ⟨n3, q3, -, w3⟩ := DataW.trod_int Try.underlying53 t3
  obtain ⟨n4, q4, -, w4⟩ := DataW.trod_int Try.underlying53 t4
  obtain ⟨n5, q5, -, w5⟩ := DataW.trod_int Try.underlying53 t5
  obtain ⟨n6, q6, -, w6⟩ := DataW.trod_int Try.underlying57 t6
  obtain ⟨n7, q7, -, w7⟩ := DataW.trod_int Try.underlying57 t7
  obtain ⟨n8, q8, -, w8⟩ := DataW.trod_int Try.underlying53 t8
  obtain ⟨dl, hdl, hdb⟩ := trod_bytes t9
  cases q0; cases q1; cases q2; cases q3; cases q4; cases q5; cases q6; cases q7; cases q8
  have h1 := wf_u32 w1
  have h2 := wf_u64 w2
  have h3 := wf_u64 w3
  have h4 := wf_u64 w4
  have h5 := wf_u64 w5
  have h6 := wf_u32 w6
  have h7 := wf_u32 w7
  have h8 := wf_u64 w8
  unfold maxLen at hs
  refine ⟨(⟨s.data.toList, n1.toNat, n2.toNat, n3.toNat, n4.toNat, n5.toNat, n6.toNat, n7.toNat, n8.toNat, dl⟩, c9), ?_, ⟨⟨by show n1.toNat < _; omega, by show n2.toNat < _; omega, by show n3.toNat < _; omega, by show n4.toNat < _; omega, by show n5.toNat < _; omega, by show n6.toNat < _; omega, by show n7.toNat < _; omega, by show n8.toNat < _; omega⟩, by show s.data.toList.length ≤ _; simpa using hs, hdl⟩, ?_⟩
  · simp only [encSec, Int.toNat_of_nonneg h1.1, Int.toNat_of_nonneg h2.1, Int.toNat_of_nonneg h3.1, Int.toNat_of_nonneg h4.1, Int.toNat_of_nonneg h5.1, Int.toNat_of_nonneg h6.1, Int.toNat_of_nonneg h7.1, Int.toNat_of_nonneg h8.1]
  · rw [hy, Rows.uptoBulk]
    have := bulk_get d9
    show dl.length + 1 ≤ _
    omega
set_option maxRecDepth 100000 in
theorem reads_elf {H : Type} {enc : TypeId × Value → H} {W : World} {base : Nat} {v : Value} {d : DataW H} {p : List MemPlace} (hv : Value.okWide Try.prog W .any base 61 v) (h : DataW.Trod enc Try.prog W 0 (fun _ => true) true 61 v d p) :
    ∃ e L sv gv, ElfRead W v (Rows.uptoBulk d) e L sv gv := by
  obtain ⟨cs, rfl, hsz⟩ := okWide_struct Try.underlying61 hv
  have h6 : cs.toList.length = 6 := by simp [hsz]; kernel_rfl
  obtain ⟨fuel, hf0⟩ := h
  obtain ⟨m, ds, hy, hf⟩ := cells_struct2 (cs := cs.toList) Try.underlying61 (by kernel_rfl) h6 hf0
  obtain ⟨c0, c1, c2, c3, c4, c5, hcs⟩ := len_6 h6
  rw [hcs] at hf
  obtain ⟨x0, y0, e0, t0, -⟩ := hf 0 _ rfl
  obtain ⟨x1, y1, e1, t1, -⟩ := hf 1 _ rfl
  obtain ⟨x2, y2, e2, t2, -⟩ := hf 2 _ rfl
  obtain ⟨x3, y3, e3, t3, -⟩ := hf 3 _ rfl
  obtain ⟨x4, y4, e4, t4, d4⟩ := hf 4 _ rfl
  obtain ⟨x5, y5, e5, t5, d5⟩ := hf 5 _ rfl
  cases e0; cases e1; cases e2; cases e3; cases e4; cases e5
  obtain ⟨n0, q0, -, w0⟩ := DataW.trod_int Try.underlying3 t0
  obtain ⟨n1, q1, -, w1⟩ := DataW.trod_int Try.underlying3 t1
  obtain ⟨n2, q2, -, w2⟩ := DataW.trod_int Try.underlying57 t2
  obtain ⟨n3, q3, -, w3⟩ := DataW.trod_int Try.underlying53 t3
  obtain ⟨L, hL, hg, hs⟩ := trod_secs t4
  obtain ⟨G, hG, hgg, hgs⟩ := trod_segs t5
  cases q0; cases q1; cases q2; cases q3
  have h0 := wf_i64 w0
  have h1 := wf_i64 w1
  have h2 := wf_u32 w2
  have h3 := wf_u64 w3
  have hbp := bulk_pair (by decide : 4 < 5) d4 d5
  refine ⟨⟨n0, n1, n2.toNat, n3.toNat, L.map (·.1), G⟩, L, c4, c5, ?_, ⟨rfl, hL, fun p hp => (hg p hp).2.2, hG⟩, ⟨h0, h1, by show n2.toNat < _; omega, by show n3.toNat < _; omega, fun s hs => ?_, hgg⟩, fun s hs => ?_, ?_⟩
  · have : cs = #[.int .i64 n0, .int .i64 n1, .int .u32 n2, .int .u64 n3, c4, c5] := by
      rw [← Array.toList_inj, hcs]
    rw [this]
    simp only [elfV, Int.toNat_of_nonneg h2.1, Int.toNat_of_nonneg h3.1]
  · obtain ⟨p, hp, rfl⟩ := List.mem_map.1 hs
    exact (hg p hp).1
  · obtain ⟨p, hp, rfl⟩ := List.mem_map.1 hs
    exact (hg p hp).2.1
  · dsimp only at hy
    rw [hy, Rows.uptoBulk]
    show _ + G.length ≤ _
    omega
theorem ElfRead.ok {W : World} {v : Value} {n : Nat} {e : ElfM} {L : List (SecM × Value)} {sv gv : Value} (h : ElfRead W v n e L sv gv) (hn : n ≤ 1048576) : ElfOk e ∧ dsum e.secs ≤ 1048576 := by
  have h1 := h.size
  have hs : dsum e.secs + e.secs.length = (L.map fun p => p.1.data.length + 1).sum := by
    rw [h.at_.secs]
    clear h h1
    induction L with
    | nil => rfl
    | cons p L ih =>
      unfold dsum at *
      simp only [List.map_cons, List.sum_cons, List.length_cons] at *
      omega
  refine ⟨⟨h.fits, by omega, h.names, by omega, by omega⟩, by omega⟩
end Go.Proofs.Ytgjoimcgiofinaa
namespace Go.Proofs.Ytgjoimcgiofinaa
open Go.ChangeShapes Go.WideShapes Go.ChangeAt Go.RowKit Go.Fd
set_option maxRecDepth 100000 in
theorem wellWrittenUpto_lifted (os : Os) (started : os.Started) (H : Type) (enc : TypeId × Value → H) (F : Stop.Interp) :
    ReturnsInHanded {} Try.checked os 8 .any ((Rows.OpenSpec.upto Rows.wellWrittenSpec).pre6 enc Try.prog Try.f8 Rows.wellWrittenUptoRow.domain false) (((Rows.OpenSpec.upto Rows.wellWrittenSpec).at F).post enc Try.prog Try.f8 false true false false) := by
  refine handed_cond (C := Try.checked) (s := (Rows.OpenSpec.upto Rows.wellWrittenSpec)) (k := Rows.uptoSmall) rfl Try.own started (by kernel_rfl) Try.func8
    (OpenSpec.witness (enc := enc) (C := Try.checked) (s := (Rows.OpenSpec.upto Rows.wellWrittenSpec)) (k := Rows.uptoSmall) rfl false ⟨#[], #[.agg #[.int .i64 0, .int .i64 0, .int .u32 0, .int .u64 0, .slice none 0 0, .slice none 0 0]], []⟩ 8 (by kernel_rfl) (by kernel_rfl) (by kernel_rfl)
      (x := ([.agg [.lit (.int .i64 0), .lit (.int .i64 0), .lit (.int .u32 0), .lit (.int .u64 0), .nil, .nil]], [], [])) (by kernel_rfl) rfl (by kernel_rfl)) ?_
  intro W base args ds gs before hval0 hW hk hz hsh
  have hval : ∀ (j : Nat) t v, Try.f8.params[j]? = some t → args[j]? = some v → Value.okWide Try.prog W .any base t v := hval0
  have hW' := hW
  obtain ⟨p, q, hA0, hV, rfl, hfz, hnd⟩ := hW
  have hA : DataW.TrodAll enc Try.prog W 0 (fun _ => true) true Try.f8.params.toList args.toList ds p := hA0
  have hlt : ∀ x ∈ p, x.block < W.heap.size := fun x hx => hW'.lt x (by simp [hx])
  have hback : ∀ W', Below W.heap.size W W' → DataW.TrodAll enc Try.prog W' 0 (fun b => decide (b < W.heap.size)) true Try.f8.params.toList args.toList ds p :=
    fun W' hb => belowAllB (by kernel_rfl) hb hA hlt
  rw [Try.params8] at hA hval
  obtain ⟨v0, vs0, d0, ds0, p0, q0, hargs, rfl, rfl, h0, r0⟩ := trodAll_cons hA
  obtain ⟨rfl, rfl, rfl⟩ := trodAll_nil r0
  obtain rfl : args = #[v0] := by
    cases args
    simp at hargs
    simp [hargs]
  clear hargs
  obtain ⟨rfl, rfl⟩ := trodVars_none hV
  have fin : ∀ (e : Ending) (W' : World), (e = .returned (.bool true) ∧ Below W.heap.size W W') → ∃ v, e = Ending.returned v ∧ ((Rows.OpenSpec.upto Rows.wellWrittenSpec).at F).post enc Try.checked.prog Try.f8 false true false false W #[v0] v W' := by
    rintro e W' ⟨rfl, hb⟩
    exact ⟨_, rfl, _, _, _, [], _, [], hW', trodAll_mk1 (shut_bool Try.underlying4 true), hback W' hb, rfl, hb.frame _, fun h => by cases h⟩
  obtain ⟨e, L, sv, gv, hr0⟩ := reads_elf (hval 0 61 v0 rfl rfl) h0
  have hb : Rows.uptoBulk d0 ≤ 1048576 := by
    have := of_decide_eq_true hk
    simp [Rows.uptoBulkAll] at this
    omega
  obtain rfl := hr0.val
  exact (wellWritten_any e L sv gv W hr0.at_ (hr0.ok hb).1 (Nat.le_trans (hr0.ok hb).2 (by decide))).mono fin
theorem wellWrittenUpto_holds : Rows.WellWrittenUptoSaid :=
  OpenClaim.holds_of_cond 8 Try.f8 rfl rfl rfl rfl rfl rfl rfl ⟨rfl, rfl, rfl, rfl, rfl⟩ rfl rfl rfl rfl rfl (by kernel_rfl) Try.func8 (by kernel_rfl)
    (of_decide_eq_true (by kernel_rfl)) (by unfold Func.isWrapper; rw [if_neg (of_decide_eq_false (by kernel_rfl))]; exact ⟨rfl, rfl⟩)
    (fun os started H enc _ F => wellWrittenUpto_lifted os started H enc F)
end Go.Proofs.Ytgjoimcgiofinaa
