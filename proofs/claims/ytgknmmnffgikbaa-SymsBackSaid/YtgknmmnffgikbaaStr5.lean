/-
  Tables of names are read and searched.
-/
import Derived.Test.YtgknmmnffgikbaaConv
import Derived.Test.YtgknmmnffgikbaaStr1
import Derived.Lib.IndexLaws
import Derived.Lib.IndexBytes
namespace Go.Proofs.Ytgknmmnffgikbaa
open Go.RowKit Go.Fd

/-- The name at a place. -/
def atR (tab : List UInt8) (at_ : Int) : List UInt8 × Int :=
  if at_ < 0 ∨ (tab.length : Int) ≤ at_ then ([], 5) else match upto0 (tab.drop at_.toNat) with
    | none => ([], 4)
    | some g => if 128 < g.length then ([], 7) else (g, 0)

theorem strsAt_any (tab : List UInt8) (at_ : Int) (v : Value) (w : World) (hl : tab.length ≤ 1000000000) (hv : Bs w v tab) :
    Calls Try.prog 18 #[v, .int .i64 at_] w fun e w' => e = .returned (.tuple #[S (atR tab at_).1, .int .i64 (atR tab at_).2]) ∧ w = w' := by
  have HT := Lib.hid (octText_any tab at_ v w hl hv)
  obtain ⟨m, ad, cap, hm, rfl, hcap, _⟩ := hv.shape
  clear hv
  by_cases h1 : at_ < 0
  · have HR := Lib.hid (show atR tab at_ = ([], 5) by rw [atR, if_pos (.inl h1)])
    go_enter Try.func18, Try.ntmps18
    go_wp2
    go_ret2
    exact ⟨by rw [HR.out]; rfl, rfl⟩
  by_cases h2 : (m : Int) ≤ at_
  · have HR := Lib.hid (show atR tab at_ = ([], 5) by rw [atR, if_pos (.inr (by rw [← hm.out]; exact h2))])
    go_enter Try.func18, Try.ntmps18
    go_wp2
    go_ret2
    exact ⟨by rw [HR.out]; rfl, rfl⟩
  have hat : atR tab at_ = match upto0 (tab.drop at_.toNat) with | none => ([], 4) | some g => if 128 < g.length then ([], 7) else (g, 0) := by
    rw [atR, if_neg (by rw [← hm.out]; omega)]
  have htx : textR tab at_ = match upto0 (tab.drop at_.toNat) with | none => ([], 2) | some g => (g, 0) := by rw [textR, if_neg (by rw [← hm.out]; omega)]; rfl
  cases hu : upto0 (tab.drop at_.toNat) with
  | none =>
    rw [hu] at hat htx
    have HR := Lib.hid hat
    rw [htx] at HT
    clear hat htx hu
    go_enter Try.func18, Try.ntmps18
    go_wp2_with (go_at_call 55; go_must (refine HT.out.mono ?_; rintro e w1 ⟨rfl, rfl⟩))
    go_ret2
    exact ⟨by rw [HR.out]; rfl, rfl⟩
  | some g =>
    rw [hu] at hat htx
    simp only at hat
    rw [htx] at HT
    have hgl := (upto0_prefix _ _ hu).2
    rw [List.length_drop] at hgl
    have hgb : g.length ≤ 1000000000 := by omega
    clear htx hu hgl
    by_cases hg : 128 < g.length
    · rw [if_pos hg] at hat
      have HR := Lib.hid hat
      clear hat
      go_enter Try.func18, Try.ntmps18
      go_wp2_with (go_at_call 55; go_must (refine HT.out.mono ?_; rintro e w1 ⟨rfl, rfl⟩))
      go_ret2
      exact ⟨by rw [HR.out]; rfl, rfl⟩
    · rw [if_neg hg] at hat
      have HR := Lib.hid hat
      clear hat
      go_enter Try.func18, Try.ntmps18
      go_wp2_with (go_at_call 55; go_must (refine HT.out.mono ?_; rintro e w1 ⟨rfl, rfl⟩))
      go_ret2
      exact ⟨by rw [HR.out]; rfl, rfl⟩

theorem upto0_hit (l : List UInt8) (k : Nat) (hk : k < l.length) (h : l[k]?.getD 0 = 0) : upto0 (l.drop k) = some [] := by
  rw [List.drop_eq_getElem_cons hk, upto0]
  rw [List.getElem?_eq_getElem hk, Option.getD_some] at h
  rw [if_pos h]
theorem upto0_miss (l : List UInt8) (k : Nat) (hk : k < l.length) (h : ¬ l[k]?.getD 0 = 0) : upto0 (l.drop k) = (upto0 (l.drop (k + 1))).map ((l[k]?.getD 0) :: ·) := by
  rw [List.drop_eq_getElem_cons hk, upto0]
  rw [List.getElem?_eq_getElem hk, Option.getD_some] at h ⊢
  rw [if_neg h]
theorem u8_zero (c : UInt8) : ((c.toNat : Int) == 0) = decide (c = 0) := by
  by_cases h : c = 0
  · subst h; rfl
  · rw [decide_eq_false h]
    have : c.toNat ≠ 0 := fun e => h (UInt8.toNat_inj.1 e)
    exact beq_eq_false_iff_ne.2 (by omega)

set_option maxRecDepth 100000 in
theorem ref3At_any (l : List UInt8) (at_ : Int) (v : Value) (w : World) (hl : l.length ≤ 1000000000) (hv : Bs w v l) :
    Calls Try.prog 21 #[v, .int .i64 at_] w fun e w' => e = .returned (.tuple #[S (atR l at_).1, .int .i64 (atR l at_).2]) ∧ w = w' := by
  have hv0 := hv
  obtain ⟨a, cap, rfl, hcap, _, hc⟩ := hv.open
  have HC := Lib.hid hc
  clear hc
  by_cases h1 : at_ < 0
  · have HR := Lib.hid (show atR l at_ = ([], 5) by rw [atR, if_pos (.inl h1)])
    go_enter Try.func21, Try.ntmps21
    go_wp2
    go_ret2
    exact ⟨by rw [HR.out]; rfl, rfl⟩
  by_cases h2 : (l.length : Int) ≤ at_
  · have HR := Lib.hid (show atR l at_ = ([], 5) by rw [atR, if_pos (.inr h2)])
    go_enter Try.func21, Try.ntmps21
    go_wp2
    go_ret2
    exact ⟨by rw [HR.out]; rfl, rfl⟩
  obtain ⟨s, rfl⟩ := Int.eq_ofNat_of_zero_le (by omega : 0 ≤ at_)
  have HR := Lib.hid (show atR l s = match upto0 (l.drop s) with | none => ([], 4) | some g => if 128 < g.length then ([], 7) else (g, 0) by rw [atR, if_neg (by omega), Int.toNat_natCast])
  have hs : s ≤ l.length := by omega
  go_enter Try.func21, Try.ntmps21
  go_wp2
  go_loop [6] (fun i => ∃ k : Nat, s ≤ k ∧ k ≤ l.length ∧ i = .int .i64 k ∧ Hid (upto0 (l.drop s) = (upto0 (l.drop k)).map ((l.drop s).take (k - s) ++ ·))) (fun i => l.length - (intOf i).toNat)
  case atStart => exact ⟨s, Nat.le_refl _, hs, rfl, by show _ = _; simp⟩
  case round =>
    obtain ⟨k, hsk, hk, rfl, HP⟩ := hrel
    by_cases hlt : k < l.length
    · obtain ⟨b, off, rfl, hcell⟩ := HC.out k hlt
      have HHIT := Lib.hid (upto0_hit l k hlt)
      have HMISS := Lib.hid (upto0_miss l k hlt)
      have HTL := Lib.hid (show ((l.drop s).take (k - s)).length = k - s by rw [List.length_take, List.length_drop]; omega)
      have HTK := Lib.hid (show (l.drop s).take (k + 1 - s) = (l.drop s).take (k - s) ++ [l[k]?.getD 0] by
        rw [show k + 1 - s = (k - s) + 1 by omega]
        refine take_snoc' _ _ _ ?_
        rw [List.getElem?_drop, show s + (k - s) = k by omega, List.getElem?_eq_getElem hlt]; rfl)
      have hz := u8_zero (l[k]?.getD 0)
      generalize l[k]?.getD 0 = c at *
      by_cases hc0 : c = 0
      · rw [decide_eq_true hc0] at hz
        have hr2 : atR l s = if 128 < k - s then ([], 7) else ((l.drop s).take (k - s), 0) := by rw [HR.out, HP.out, HHIT.out hc0]; simp only [Option.map_some, List.append_nil]; rw [HTL.out]
        clear hc0
        by_cases hbig : 128 < k - s
        · rw [if_pos hbig] at hr2
          have HR2 := Lib.hid hr2
          have hb2 : (128 : Int) < (k : Int) - s := by omega
          clear hr2
          go_wp2
          go_ret2
          exact ⟨by rw [HR2.out]; rfl, rfl⟩
        · rw [if_neg hbig] at hr2
          have HR2 := Lib.hid hr2
          have hb2 : ¬ (128 : Int) < (k : Int) - s := by omega
          clear hr2
          obtain ⟨v', hrun, hv'⟩ := run_sliceB hv0 (i := s) (j := k) (k := .i64) (k' := .i64) (by omega) (by omega) (by omega)
          have HRUN := Lib.hid hrun
          have hstr := run_str hv'
          rw [show ((s : Int)).toNat = s from rfl, show ((k : Int) - (s : Int)).toNat = k - s by omega] at hstr
          clear hrun
          go_wp2_with (with_reducible show wpList _ _ _ (⟨some 34, _, _, _, _, _⟩ :: _) _ _; refine wpList_val rfl (exec_slice2 HRUN.out rfl rfl rfl) ?_)
          go_ret2
          exact ⟨by rw [HR2.out]; rfl, rfl⟩
      · rw [decide_eq_false hc0] at hz
        have HP2 := Lib.hid (show upto0 (l.drop s) = (upto0 (l.drop (k + 1))).map ((l.drop s).take (k + 1 - s) ++ ·) by rw [HP.out, HMISS.out hc0, HTK.out]; simp [Function.comp_def])
        clear hc0
        go_wp2
        go_round
        case rel => exact ⟨k + 1, by omega, by omega, by go_num, HP2.out⟩
        case measure => simp [intOf] <;> omega
    · obtain rfl : k = l.length := by omega
      have HR2 := Lib.hid (show atR l s = ([], 4) by rw [HR.out, HP.out]; simp [upto0])
      go_wp2
      go_ret2
      exact ⟨by rw [HR2.out]; rfl, rfl⟩

theorem _root_.Go.RowKit.Below.drewN {B : Nat} {a w : World} (h : Below B a w) (n : Nat) : Below B a (w.drewN n) := ⟨h.os, h.tape, h.output, h.size, h.block⟩

/-- The least place of a name. -/
def findR (tab name : List UInt8) : Int × Bool := if mayS name = true then (if 0 ≤ Lib.index tab (name ++ [0]) then (Lib.index tab (name ++ [0]), true) else (0, false)) else (0, false)

theorem index_any (l x : List UInt8) (v u : Value) (mx : Int) (w : World) (hl : l.length ≤ 1000000000) (hx : x.length ≤ 1000000000) (hv : Bs w v l) (hu : Bs w u x) (hvp : ∃ a n c, v = .slice (some a) n c) (hup : ∃ a n c, u = .slice (some a) n c) (hmx : w.cell? ⟨0, 0, none⟩ = some (.int .i64 mx)) :
    Calls Try.prog 56 #[v, u] w fun e w' => e = .returned (.int .i64 (Lib.index l x)) ∧ ∃ q, w' = w.drewN q := by
  obtain ⟨a1, n1, c1, rfl⟩ := hvp
  obtain ⟨a2, n2, c2, rfl⟩ := hup
  obtain ⟨b1, hcap1, e1, hle1, _, h1⟩ := hv.open
  obtain ⟨b2, hcap2, e2, hle2, _, h2⟩ := hu.open
  simp only [Value.slice.injEq] at e1 e2
  obtain ⟨rfl, rfl, rfl⟩ := e1
  obtain ⟨rfl, rfl, rfl⟩ := e2
  have hb : ∀ (l : List UInt8) (y : Int), y ∈ (l.map fun c : UInt8 => (c.toNat : Int)) → 0 ≤ y ∧ y < 256 := fun l y hy => by
    obtain ⟨c, _, rfl⟩ := List.mem_map.1 hy
    have := c.toNat_lt
    omega
  have hcell : ∀ (l : List UInt8) (a : Addr), (∀ i, i < l.length → ∃ b off, some a = some (⟨b, off, none⟩ : Addr) ∧ w.cell? ⟨b, off + i, none⟩ = some (.int .u8 (l[i]?.getD 0).toNat)) → ∀ i, i < l.length → w.cell? (a.add i) = some (.int .u8 ((l.map fun c : UInt8 => (c.toNat : Int)).getD i 0)) := fun l a h i hi => by
    obtain ⟨b, off, e, hc⟩ := h i hi
    cases e
    have e1 : (⟨b, off, none⟩ : Addr).add i = ⟨b, off + i, none⟩ := by unfold Addr.add; split <;> simp_all
    rw [e1, hc]
    simp [List.getD, List.getElem?_map, List.getElem?_eq_getElem hi]
  have := Try.bytes_Index_at a1 a2 l.length c1 x.length c2 (l.map fun c : UInt8 => (c.toNat : Int)) (x.map fun c : UInt8 => (c.toNat : Int)) mx w (by simp) (by simp) (hb l) (hb x) (hcell l a1 h1) (hcell x a2 h2) hle1 (by omega) (by omega) hmx
  rw [bytesOf_nums, bytesOf_nums] at this
  exact this

set_option maxRecDepth 100000 in
theorem strsFind_any (tab name : List UInt8) (v : Value) (mx : Int) (w : World) (hl : tab.length ≤ 1000000000) (hv : Bs w v tab) (hvp : ∃ a n c, v = .slice (some a) n c) (hmx : w.cell? ⟨0, 0, none⟩ = some (.int .i64 mx)) :
    Calls Try.prog 19 #[v, S name] w fun e w' => e = .returned (.tuple #[.int .i64 (findR tab name).1, .bool (findR tab name).2]) ∧ Below w.heap.size w w' := by
  have HC := Lib.hid (strsMay_any name w)
  cases hmay : mayS name with
  | false =>
    have HR := Lib.hid (show findR tab name = (0, false) by unfold findR; rw [hmay]; rfl)
    rw [hmay] at HC
    clear hmay
    go_enter Try.func19, Try.ntmps19
    go_wp2_with (go_at_call 54; go_must (refine HC.out.mono ?_; rintro e w2 ⟨rfl, rfl⟩))
    go_ret2
    rw [HR.out]
    exact ⟨rfl, Below.refl _ _⟩
  | true =>
    have HLN := Lib.hid (mayS_len hmay)
    have HF : Hid (findR tab name = if 0 ≤ Lib.index tab (name ++ [0]) then (Lib.index tab (name ++ [0]), true) else (0, false)) := by unfold findR; rw [if_pos hmay]; rfl
    rw [hmay] at HC
    have hge := Lib.index_ge tab (name ++ [0])
    have HI := Lib.hid (fun w1 u (hb : Below w.heap.size w w1) (hu : Bs w1 u (name ++ [0])) hup => index_any tab (name ++ [0]) v u mx w1 hl (by have := HLN.out; simp; omega) (hv.mono hb) hu hvp hup ((hb.cell (block_lt hmx)).trans hmx))
    have hle := Lib.index_le tab (name ++ [0])
    generalize Lib.index tab (name ++ [0]) = z at *
    clear hmay hmx hv
    by_cases hz : 0 ≤ z
    · rw [if_pos hz] at HF
      go_enter Try.func19, Try.ntmps19
      go_wp2_with (first
        | (go_at_call 54; go_must (refine HC.out.mono ?_; rintro e w2 ⟨rfl, rfl⟩))
        | ((with_reducible show wpList _ _ _ (⟨some 12, _, _, _, _, _⟩ :: _) _ _); go_must (refine wpList_convS rfl ?_; intro v1 w1 hv1 hb1))
        | ((with_reducible show wpList _ _ _ (⟨some 14, _, _, _, _, _⟩ :: _) _ _); go_must (refine wpList_pushF hv1 rfl rfl 0 rfl (by have := HLN.out; omega) ?_ hb1.size; intro v2 w2 hv2 hp2 hb2))
        | (go_at_call 56; go_must (refine (HI.out _ _ (hb1.trans hb2) hv2 (by obtain ⟨b, c, h⟩ := hp2; exact ⟨_, _, _, h⟩)).mono ?_; rintro e w3 ⟨rfl, q, rfl⟩)))
      go_ret2
      rw [HF.out]
      exact ⟨ret2 (int_eq (by first | rfl | omega)) (bool_eq (by first | rfl | simp [hz])), (hb1.trans hb2).drewN q⟩
    · rw [if_neg hz] at HF
      go_enter Try.func19, Try.ntmps19
      go_wp2_with (first
        | (go_at_call 54; go_must (refine HC.out.mono ?_; rintro e w2 ⟨rfl, rfl⟩))
        | ((with_reducible show wpList _ _ _ (⟨some 12, _, _, _, _, _⟩ :: _) _ _); go_must (refine wpList_convS rfl ?_; intro v1 w1 hv1 hb1))
        | ((with_reducible show wpList _ _ _ (⟨some 14, _, _, _, _, _⟩ :: _) _ _); go_must (refine wpList_pushF hv1 rfl rfl 0 rfl (by have := HLN.out; omega) ?_ hb1.size; intro v2 w2 hv2 hp2 hb2))
        | (go_at_call 56; go_must (refine (HI.out _ _ (hb1.trans hb2) hv2 (by obtain ⟨b, c, h⟩ := hp2; exact ⟨_, _, _, h⟩)).mono ?_; rintro e w3 ⟨rfl, q, rfl⟩)))
      go_ret2
      rw [HF.out]
      exact ⟨ret2 (int_eq (by first | rfl | omega)) (bool_eq (by first | rfl | simp [hz])), (hb1.trans hb2).drewN q⟩

/-- An instance of a name and a 0 behind it. -/
theorem occ_iff (l name : List UInt8) (k : Nat) : Lib.occAt l (name ++ [0]) k = true ↔ (k + name.length < l.length ∧ (l.drop k).take name.length = name ∧ l[k + name.length]?.getD 1 = 0) := by
  unfold Lib.occAt
  rw [List.isPrefixOf_iff_prefix]
  constructor
  · rintro ⟨t, ht⟩
    have hlen := congrArg List.length ht
    simp at hlen
    have hk : k + name.length < l.length := by omega
    refine ⟨hk, ?_, ?_⟩
    · rw [← ht, List.append_assoc, List.take_left]
    · have : (l.drop k)[name.length]? = some 0 := by rw [← ht]; simp
      rw [List.getElem?_drop] at this
      rw [this]; rfl
  · rintro ⟨h1, h2, h3⟩
    refine ⟨(l.drop k).drop (name.length + 1), ?_⟩
    have h4 : (l.drop k).take (name.length + 1) = name ++ [0] := by
      rw [take_snoc' (l.drop k) name.length 0, h2]
      rw [List.getElem?_drop]
      rw [List.getElem?_eq_getElem h1] at h3 ⊢
      simpa using h3
    rw [← h4, List.take_append_drop]

set_option maxRecDepth 100000 in
theorem ref3Find_any (l name : List UInt8) (v : Value) (w : World) (hl : l.length ≤ 1000000000) (hn : name.length ≤ 9223372036854775807) (hv : Bs w v l) :
    Calls Try.prog 22 #[v, S name] w fun e w' => e = .returned (.tuple #[.int .i64 (findR l name).1, .bool (findR l name).2]) ∧ w = w' := by
  have HC := Lib.hid (ref3May_any name w hn)
  have hv0 := Lib.hid hv
  obtain ⟨a, cap, rfl, hcap, _, hc⟩ := hv.open
  have HO := Lib.hid hc
  clear hc hv
  cases hmay : mayS name with
  | false =>
    have HR := Lib.hid (show findR l name = (0, false) by unfold findR; rw [hmay]; rfl)
    rw [hmay] at HC
    clear hmay
    go_enter Try.func22, Try.ntmps22
    go_wp2_with (go_at_call 57; go_must (refine HC.out.mono ?_; rintro e w2 ⟨rfl, rfl⟩))
    go_ret2
    exact ⟨by rw [HR.out]; rfl, rfl⟩
  | true =>
    have HF : Hid (findR l name = if 0 ≤ Lib.index l (name ++ [0]) then (Lib.index l (name ++ [0]), true) else (0, false)) := by unfold findR; rw [if_pos hmay]; rfl
    rw [hmay] at HC
    have hnl := mayS_len hmay
    clear hmay
    go_enter Try.func22, Try.ntmps22
    go_wp2_with (go_at_call 57; go_must (refine HC.out.mono ?_; rintro e w2 ⟨rfl, rfl⟩))
    go_loop [6] (fun i => ∃ k : Nat, i = .int .i64 k ∧ k ≤ l.length ∧ Hid (Lib.NoOcc l (name ++ [0]) k)) (fun i => l.length + 1 - (intOf i).toNat)
    case atStart => exact ⟨0, rfl, Nat.zero_le _, Lib.NoOcc.zero _ _⟩
    case round =>
      obtain ⟨k, rfl, hk, HK⟩ := hrel
      have HIFF := Lib.hid (occ_iff l name k)
      by_cases hlt : k + name.length < l.length
      · obtain ⟨b, off, rfl, hcell⟩ := HO.out (k + name.length) hlt
        obtain ⟨v', hrun, hv'⟩ := run_sliceB hv0.out (i := k) (j := k + name.length) (k := .i64) (k' := .i64) (by omega) (by omega) (by omega)
        have HRUN := Lib.hid hrun
        have hstr := run_str hv'
        rw [show ((k : Int)).toNat = k from rfl, show ((k : Int) + (name.length : Int) - (k : Int)).toNat = name.length by omega] at hstr
        have hz := u8_zero (l[k + name.length]?.getD 0)
        have HG : Hid (l[k + name.length]?.getD 1 = l[k + name.length]?.getD 0) := by rw [List.getElem?_eq_getElem hlt]; rfl
        generalize l[k + name.length]?.getD 0 = c at *
        generalize hs2 : (l.drop k).take name.length = s2 at *
        have HS2 := Lib.hid hs2
        clear hrun hs2
        by_cases heq : s2 = name
        · have hb : (s2 == name) = true := by simpa using heq
          have HE := Lib.hid heq
          clear heq
          by_cases hc0 : c = 0
          · rw [decide_eq_true hc0] at hz
            have HR := Lib.hid (show findR l name = ((k : Int), true) by
              have ho := HIFF.out.2 ⟨hlt, HE.out, HG.out.trans hc0⟩
              have := Lib.index_hit HK.out hk ho
              rw [HF.out, this, if_pos (by omega)])
            clear hc0
            go_wp2_with (((with_reducible show wpList _ _ _ (⟨some 25, _, _, _, _, _⟩ :: _) _ _); refine wpList_val rfl (exec_slice2 HRUN.out rfl rfl rfl) ?_))
            go_ret2
            exact ⟨by rw [HR.out]; rfl, rfl⟩
          · rw [decide_eq_false hc0] at hz
            have HN := Lib.hid (HK.out.succ (show Lib.occAt l (name ++ [0]) k = false by
              rw [Bool.eq_false_iff]
              intro h
              exact hc0 (HG.out.symm.trans (HIFF.out.1 h).2.2)))
            clear hc0
            go_wp2_with (((with_reducible show wpList _ _ _ (⟨some 25, _, _, _, _, _⟩ :: _) _ _); refine wpList_val rfl (exec_slice2 HRUN.out rfl rfl rfl) ?_))
            go_round
            case rel => exact ⟨k + 1, by go_num, by omega, HN.out⟩
            case measure => simp [intOf] <;> omega
        · have hb : (s2 == name) = false := by simpa using heq
          have HN := Lib.hid (HK.out.succ (show Lib.occAt l (name ++ [0]) k = false by
            rw [Bool.eq_false_iff]
            intro h
            exact heq ((HIFF.out.1 h).2.1)))
          clear heq
          go_wp2_with (((with_reducible show wpList _ _ _ (⟨some 25, _, _, _, _, _⟩ :: _) _ _); refine wpList_val rfl (exec_slice2 HRUN.out rfl rfl rfl) ?_))
          go_round
          case rel => exact ⟨k + 1, by go_num, by omega, HN.out⟩
          case measure => simp [intOf] <;> omega
      · have HR := Lib.hid (show findR l name = (0, false) by
          have := Lib.index_past (sub := name ++ [0]) (by simp) HK.out (by simp; omega)
          rw [HF.out, this, if_neg (by omega)])
        go_wp2
        go_ret2
        exact ⟨by rw [HR.out]; rfl, rfl⟩
end Go.Proofs.Ytgknmmnffgikbaa
