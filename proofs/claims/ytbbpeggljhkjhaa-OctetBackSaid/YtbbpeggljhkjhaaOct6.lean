/-
  LEB128 numbers, read: the reference's groups, ReadLeb, ReadSleb.
-/
import Derived.Test.YtbbpeggljhkjhaaByt
import Derived.Laws.BitsAllLaws
namespace Go.Proofs.Ytbbpeggljhkjhaa
open Go.RowKit Go.Fd

abbrev W8 (n : Nat) : Value := .int .u64 (n : Int)
def OW (w : World) (base : Nat) (v : Value) (l : List Nat) : Prop := w.ownsRow base 23 1 v l.length (l.map W8)
theorem TW : SliceT Try.prog 46 23 1 8 := SliceT.mk' (z := .int .u64 0) (by kernel_rfl) (by kernel_rfl) rfl (by omega)
theorem OW.nil (w : World) (base : Nat) : OW w base (.slice none 0 0) [] := World.ownsRow_nil _ _ _ _

theorem OW.shape {w : World} {base : Nat} {v : Value} {l : List Nat} (h : OW w base v l) : ∃ m a cap, Hid (m = l.length) ∧ v = .slice a m cap ∧ m ≤ cap ∧ (a = none → cap = 0) := Reads.shape (Reads.of_owns h)
theorem OW.open {w : World} {base : Nat} {v : Value} {l : List Nat} (h : OW w base v l) : ∃ a cap, v = .slice a l.length cap ∧ l.length ≤ cap ∧
    ∀ i, i < l.length → ∃ b off, a = some ⟨b, off, none⟩ ∧ w.cell? ⟨b, off + i, none⟩ = some (.int .u64 (l[i]?.getD 0 : Nat)) := by
  obtain ⟨h1, a, cap, h2, h3, h0, h4⟩ := Reads.of_owns h
  refine ⟨a, cap, h2, h3, fun i hi => ?_⟩
  obtain ⟨b, off, e1, e2⟩ := h4 i (by simpa using hi)
  refine ⟨b, off, e1, e2.trans ?_⟩
  simp [List.getElem?_map, List.getElem?_eq_getElem hi]
theorem OW.mono {w w' : World} {base : Nat} {v : Value} {l : List Nat} (h : OW w base v l) (hb : Below w.heap.size w w') : OW w' base v l := owns_mono h hb

theorem wpList_pushW {ops : Array Oper} {rest : List Oper} {Q : Exit → Act → World → Prop} {a : Act} {w : World} {d : Option Tmp} {ty : TypeId} {pos : String} {aft : Array Edge} {s x : Operand} {v : Value} {base : Nat} {l : List Nat} (hown : OW w base v l)
    (hs : a.eval s = v) (hx : a.eval x = .slice (some ⟨w.heap.size, 0, none⟩) 1 1) {k : Int} (c : Nat) (hc : k = c) (hn : l.length + 1 ≤ 1000000000000) (hb : base ≤ w.heap.size)
    (h : ∀ v' w', OW w' base v' (l ++ [c]) → w.grownBy w' v.ownBlock → Below base w w' → wpList Try.prog ops Q rest (a.put d v') w') :
    wpList Try.prog ops Q (⟨d, .call { callee := .builtin .append, args := #[s, x], argTypes := #[46, 46] }, ty, pos, aft, none⟩ :: rest) a (w.alloc (.cells #[.int .u64 k] 23)) := by
  refine wpList_push TW hown hs hx rfl rfl (by omega) (by omega) hb fun v' w' h1 h2 h3 => h v' w' ?_ h2 h3
  unfold OW
  rw [List.length_append, List.map_append]
  subst hc
  exact h1

def sevens : List UInt8 → Option (List UInt8)
  | [] => none
  | c :: r => if c.toNat < 128 then some [c] else (sevens r).map (c :: ·)

def sevenR (l : List UInt8) (at_ : Int) : List UInt8 × Int :=
  if at_ < 0 ∨ (l.length : Int) < at_ then ([], 5) else match sevens (l.drop at_.toNat) with
    | none => ([], 2)
    | some g => if g.length > 10 then ([], 3) else (g, 0)

theorem sevens_hit (l : List UInt8) (k : Nat) (hk : k < l.length) (h : (l[k]?.getD 0).toNat < 128) : sevens (l.drop k) = some [l[k]?.getD 0] := by
  rw [List.drop_eq_getElem_cons hk, sevens]
  rw [List.getElem?_eq_getElem hk, Option.getD_some] at h ⊢
  rw [if_pos h]
theorem sevens_miss (l : List UInt8) (k : Nat) (hk : k < l.length) (h : ¬ (l[k]?.getD 0).toNat < 128) : sevens (l.drop k) = (sevens (l.drop (k + 1))).map ((l[k]?.getD 0) :: ·) := by
  rw [List.drop_eq_getElem_cons hk, sevens]
  rw [List.getElem?_eq_getElem hk, Option.getD_some] at h ⊢
  rw [if_neg h]

def low7 (g : List UInt8) : List Nat := g.map fun c => c.toNat % 128

set_option maxRecDepth 100000 in
theorem groups_any (l : List UInt8) (at_ : Int) (v : Value) (w : World) (hl : l.length ≤ 1000000000) (hv : Bs w v l) (hat : at_ < 9223372036854775808) :
    Calls Try.prog 31 #[v, .int .i64 at_] w fun e w' =>
      ∃ v', e = .returned (.tuple #[v', .int .i64 (sevenR l at_).2]) ∧ OW w' w.heap.size v' (low7 (sevenR l at_).1) ∧ Below w.heap.size w w' := by
  obtain ⟨a, cap, rfl, hcap, _, hc⟩ := hv.open
  have HC := Lib.hid hc
  clear hc
  by_cases h1 : at_ < 0
  · have HR := Lib.hid (show sevenR l at_ = ([], 5) by rw [sevenR, if_pos (.inl h1)])
    go_enter Try.func31, Try.ntmps31
    go_wp2
    go_ret2
    exact ⟨_, by rw [HR.out]; rfl, by rw [HR.out]; exact OW.nil _ _, Below.refl _ _⟩
  by_cases h2 : (l.length : Int) < at_
  · have HR := Lib.hid (show sevenR l at_ = ([], 5) by rw [sevenR, if_pos (.inr h2)])
    go_enter Try.func31, Try.ntmps31
    go_wp2
    go_ret2
    exact ⟨_, by rw [HR.out]; rfl, by rw [HR.out]; exact OW.nil _ _, Below.refl _ _⟩
  obtain ⟨s, rfl⟩ := Int.eq_ofNat_of_zero_le (by omega : 0 ≤ at_)
  have HR := Lib.hid (show sevenR l s = match sevens (l.drop s) with | none => ([], 2) | some g => if g.length > 10 then ([], 3) else (g, 0) by rw [sevenR, if_neg (by omega), Int.toNat_natCast])
  have hs : s ≤ l.length := by omega
  clear hat
  go_enter Try.func31, Try.ntmps31
  go_wp2
  go_loopw [6, 7] (fun v i wr => ∃ (k : Nat) (pre : List UInt8), s ≤ k ∧ k ≤ l.length ∧ i = .int .i64 k ∧ pre.length = k - s ∧ sevens (l.drop s) = (sevens (l.drop k)).map (pre ++ ·) ∧ OW wr w.heap.size v (low7 pre) ∧ Below w.heap.size w wr) (fun _ i _ => l.length - (intOf i).toNat)
  case atStart => exact ⟨s, [], Nat.le_refl _, hs, rfl, by simp, by simp, OW.nil _ _, Below.refl _ _⟩
  case round =>
    obtain ⟨k, pre, hsk, hk, rfl, hpl, hp, hown, hb⟩ := hrel
    have HP := Lib.hid hp
    have hpl' : pre.length ≤ 1000000000 := by omega
    have HPL := Lib.hid hpl
    clear hp hpl
    by_cases hlt : k < l.length
    · obtain ⟨b, off, rfl, hcell⟩ := HC.out k hlt
      have hcell' : wr.cell? ⟨b, off + k, none⟩ = some (.int .u8 (l[k]?.getD 0).toNat) := (hb.cell (block_lt hcell)).trans hcell
      have hbw := block_lt hcell
      clear hcell
      have hhit := sevens_hit l k hlt
      have hmiss := sevens_miss l k hlt
      generalize l[k]?.getD 0 = c at *
      have hu := c.toNat_lt
      by_cases hc : c.toNat < 128
      · have HE := Lib.hid (show sevens (l.drop s) = some (pre ++ [c]) by rw [HP.out, hhit hc]; rfl)
        clear hhit hmiss
        have HPL' := Lib.hid (show (low7 pre).length = pre.length by simp [low7])
        by_cases h10 : pre.length + 1 > 10
        · have HR2 := Lib.hid (show sevenR l s = ([], 3) by rw [HR.out, HE.out]; exact if_pos (by simpa using h10))
          go_wp2_with (at_builtin; go_must (refine wpList_pushW hown rfl rfl (c.toNat % 128) (by omega) (by rw [HPL'.out]; omega) hb.size ?_; intro v1 w1 hown1 hg1 hb1; have hc1 := (hb1.cell (p := ⟨b, off + k, none⟩) hbw).trans hcell'; obtain ⟨m, a1, cap1, hm, rfl, hm1, _⟩ := hown1.shape; have hm10 : 10 < m := by (have := hm.out; rw [List.length_append, HPL'.out] at this; simp at this; omega)))
          go_ret2
          exact ⟨.slice none 0 0, by rw [HR2.out]; rfl, by rw [HR2.out]; exact OW.nil _ _, hb.trans hb1⟩
        · have HR2 := Lib.hid (show sevenR l s = (pre ++ [c], 0) by rw [HR.out, HE.out]; exact if_neg (by simpa using h10))
          go_wp2_with (at_builtin; go_must (refine wpList_pushW hown rfl rfl (c.toNat % 128) (by omega) (by rw [HPL'.out]; omega) hb.size ?_; intro v1 w1 hown1 hg1 hb1; have hc1 := (hb1.cell (p := ⟨b, off + k, none⟩) hbw).trans hcell'; obtain ⟨m, a1, cap1, hm, rfl, hm1, _⟩ := hown1.shape; have hm10 : m ≤ 10 := by (have := hm.out; rw [List.length_append, HPL'.out] at this; simp at this; omega)))
          go_ret2
          exact ⟨_, by rw [HR2.out]; rfl, by rw [HR2.out]; simpa [low7] using hown1, hb.trans hb1⟩
      · have HE := Lib.hid (show sevens (l.drop s) = (sevens (l.drop (k + 1))).map ((pre ++ [c]) ++ ·) by rw [HP.out, hmiss hc]; simp [Function.comp_def])
        clear hhit hmiss
        have HPL' := Lib.hid (show (low7 pre).length = pre.length by simp [low7])
        go_wp2_with (at_builtin; go_must (refine wpList_pushW hown rfl rfl (c.toNat % 128) (by omega) (by rw [HPL'.out]; omega) hb.size ?_; intro v1 w1 hown1 hg1 hb1; have hc1 := (hb1.cell (p := ⟨b, off + k, none⟩) hbw).trans hcell'))
        go_roundw
        case rel => exact ⟨k + 1, pre ++ [c], by omega, by omega, by go_num, by have := HPL.out; simp; omega, HE.out, by simpa [low7] using hown1, hb.trans hb1⟩
        case measure => simp [intOf] <;> omega
    · obtain rfl : k = l.length := by omega
      have HE := Lib.hid (show sevens (l.drop s) = none by rw [HP.out]; simp [sevens])
      go_wp2
      go_ret2
      exact ⟨_, by rw [HR.out, HE.out]; rfl, by rw [HR.out, HE.out]; exact OW.nil _ _, hb⟩

/-- The number that sevens of bits make. -/
def lebVal : List Nat → Nat
  | [] => 0
  | d :: r => d + 128 * lebVal r

theorem lebVal_snoc (g : List Nat) (d : Nat) : lebVal (g ++ [d]) = lebVal g + d * 128 ^ g.length := by
  induction g with
  | nil => simp [lebVal]
  | cons c g ih => rw [List.cons_append, lebVal, ih, lebVal, List.length_cons, Nat.pow_succ, Nat.mul_add, Nat.add_assoc]; congr 2; rw [Nat.mul_comm (128 ^ g.length) 128, Nat.mul_left_comm]
theorem lebVal_lt (g : List Nat) (h : ∀ d ∈ g, d < 128) : lebVal g < 128 ^ g.length := by
  induction g with
  | nil => simp [lebVal]
  | cons c g ih =>
    have h1 := h c (by simp)
    have h2 := ih fun d hd => h d (by simp [hd])
    rw [lebVal, List.length_cons, Nat.pow_succ]; omega

theorem low7_lt (g : List UInt8) : ∀ d ∈ low7 g, d < 128 := by
  intro d hd
  obtain ⟨c, _, rfl⟩ := List.mem_map.1 hd
  exact Nat.mod_lt _ (by omega)

/-- A group of seven bits, put above those that are there. -/
theorem or_group (n d i : Nat) (hn : n < 128 ^ i) (hi : i ≤ 9) (hd : d < 128) (h9 : i = 9 → d ≤ 1) :
    d * 128 ^ i < 18446744073709551616 ∧ bits .or .u64 (n : Int) ((d * 128 ^ i : Nat) : Int) = ((n + d * 128 ^ i : Nat) : Int) := by
  have h1 : d * 128 ^ i < 18446744073709551616 := by
    by_cases h : i = 9
    · subst h
      have := h9 rfl
      calc d * 128 ^ 9 ≤ 1 * 128 ^ 9 := Nat.mul_le_mul_right _ this
        _ < _ := by decide
    · calc d * 128 ^ i ≤ 128 * 128 ^ 8 := Nat.mul_le_mul (by omega) (Nat.pow_le_pow_right (by omega) (by omega))
        _ < _ := by decide
  have h2 : n < 18446744073709551616 := by
    calc n < 128 ^ i := hn
      _ ≤ 128 ^ 9 := Nat.pow_le_pow_right (by omega) hi
      _ ≤ _ := by decide
  refine ⟨h1, ?_⟩
  rw [u64_or_nat _ _ h2 h1]
  have e : (128 : Nat) ^ i = 2 ^ (7 * i) := by rw [Nat.pow_mul]
  rw [Nat.or_comm, nat_join (7 * i) _ _ (by rw [e]; exact Nat.mul_mod_left _ _) (by rw [← e]; exact hn), Nat.add_comm]

theorem or_groupW (n d i : Nat) (hn : n < 128 ^ i) (hi : i ≤ 9) (hd : d < 128) (h9 : i = 9 → d ≤ 1) :
    bits .or .u64 (n : Int) (IntKind.u64.wrap ((d : Int) * 2 ^ (7 * i))) = ((n + d * 128 ^ i : Nat) : Int) := by
  obtain ⟨h1, h2⟩ := or_group n d i hn hi hd h9
  rw [← h2, IntKind.wrap_u64]
  have e : (128 : Nat) ^ i = 2 ^ (7 * i) := by rw [Nat.pow_mul]
  rw [e] at h1 ⊢
  rw [show (d : Int) * 2 ^ (7 * i) = ((d * 2 ^ (7 * i) : Nat) : Int) by simp, Int.emod_eq_of_lt (by omega) (by omega)]

def readLebR (l : List UInt8) (at_ : Int) : Nat × Nat × Int :=
  if (sevenR l at_).2 ≠ 0 then (0, 0, (sevenR l at_).2) else if (sevenR l at_).1.length = 10 ∧ 1 < (low7 (sevenR l at_).1)[9]?.getD 0 then (0, 0, 3) else (lebVal (low7 (sevenR l at_).1), (sevenR l at_).1.length, 0)

theorem sevens_len (l g : List UInt8) (h : sevens l = some g) : 1 ≤ g.length := by
  cases l with
  | nil => simp [sevens] at h
  | cons c r =>
    rw [sevens] at h
    split at h
    · simp at h; subst h; simp
    · cases hr : sevens r with
      | none => rw [hr] at h; simp at h
      | some x => rw [hr] at h; simp at h; subst h; simp
theorem sevenR_len (l : List UInt8) (at_ : Int) (h : (sevenR l at_).2 = 0) : 1 ≤ (sevenR l at_).1.length ∧ (sevenR l at_).1.length ≤ 10 := by
  rw [sevenR] at h ⊢
  split at h
  · simp at h
  · next h0 =>
    rw [if_neg h0]
    split at h
    · simp at h
    · next g hg =>
      have := sevens_len _ _ hg
      split at h
      · simp at h
      · next h1 => simp only [if_neg h1]; exact ⟨this, by simpa using h1⟩

set_option maxRecDepth 100000 in
theorem refReadLeb_any (l : List UInt8) (at_ : Int) (v : Value) (w : World) (hl : l.length ≤ 1000000000) (hv : Bs w v l) (hat : at_ < 9223372036854775808) :
    Calls Try.prog 9 #[v, .int .i64 at_] w fun e w' =>
      e = .returned (.tuple #[.int .u64 (readLebR l at_).1, .int .i64 (readLebR l at_).2.1, .int .i64 (readLebR l at_).2.2]) ∧ Below w.heap.size w w' := by
  have hg := groups_any l at_ v w hl hv hat
  have HLE := Lib.hid (sevenR_len l at_)
  have HR := Lib.hid (show readLebR l at_ = if (sevenR l at_).2 ≠ 0 then (0, 0, (sevenR l at_).2) else if (sevenR l at_).1.length = 10 ∧ 1 < (low7 (sevenR l at_).1)[9]?.getD 0 then (0, 0, 3) else (lebVal (low7 (sevenR l at_).1), (sevenR l at_).1.length, 0) from rfl)
  generalize sevenR l at_ = r at *
  obtain ⟨g, e⟩ := r
  have HG := Lib.hid hg
  clear hg hat
  by_cases he : e = 0
  · subst he
    have hlen := HLE.out rfl
    obtain ⟨hl1, hl10⟩ := hlen
    have hlow : (low7 g).length = g.length := by simp [low7]
    have HL7 := Lib.hid (low7_lt g)
    rw [← hlow] at hl1 hl10
    have HR2 := Lib.hid (show readLebR l at_ = if (low7 g).length = 10 ∧ 1 < (low7 g)[9]?.getD 0 then (0, 0, 3) else (lebVal (low7 g), (low7 g).length, 0) by rw [HR.out, hlow]; rfl)
    clear hlow HLE HR
    generalize low7 g = q at *
    go_enter Try.func9, Try.ntmps9
    go_wp2_with (go_at_call 31; refine HG.out.mono ?_; rintro e w1 ⟨v1, rfl, hown, hb1⟩; obtain ⟨a1, cap1, rfl, hcap1, hc1⟩ := hown.open; have HC := Lib.hid hc1; clear hc1)
    go_loop [9, 10] (fun n i => ∃ k : Nat, k ≤ q.length ∧ i = .int .i64 k ∧ n = .int .u64 (lebVal (q.take k)) ∧ (9 < k → q[9]?.getD 0 ≤ 1)) (fun _ i => q.length - (intOf i).toNat)
    case atStart => exact ⟨0, Nat.zero_le _, rfl, rfl, by omega⟩
    case round =>
      obtain ⟨k, hk, rfl, rfl, h9⟩ := hrel
      have H9 := Lib.hid h9
      clear h9
      by_cases hlt : k < q.length
      · obtain ⟨b, off, rfl, hcell⟩ := HC.out k hlt
        have hdm : q[k]?.getD 0 < 128 := HL7.out _ (by rw [List.getElem?_eq_getElem hlt]; exact List.getElem_mem _)
        have HS := Lib.hid (take_snoc' q k (q[k]?.getD 0) (by rw [List.getElem?_eq_getElem hlt]; rfl))
        have HV := Lib.hid (lebVal_snoc (q.take k) (q[k]?.getD 0))
        have htl : (q.take k).length = k := by rw [List.length_take]; omega
        have HN := Lib.hid (Nat.lt_of_lt_of_eq (lebVal_lt (q.take k) fun d hd => HL7.out d (List.mem_of_mem_take hd)) (by rw [htl]))
        have HTL := Lib.hid htl
        clear htl
        have HO := Lib.hid (fun h => or_group (lebVal (q.take k)) (q[k]?.getD 0) k HN.out (by omega) hdm h)
        have HK := Lib.hid (show ∀ d, q[k]?.getD 0 = d → k = 9 → q[9]?.getD 0 = d by rintro d rfl rfl; rfl)
        generalize q[k]?.getD 0 = d at *
        generalize lebVal (q.take k) = n at *
        by_cases hk9 : k = 9
        · subst hk9
          have HK2 := Lib.hid (HK.out d rfl rfl)
          by_cases hd1 : 1 < d
          · have HR3 := Lib.hid (show readLebR l at_ = (0, 0, 3) by rw [HR2.out]; exact if_pos ⟨by omega, by rw [HK2.out]; exact hd1⟩)
            go_wp2
            go_ret3
            exact ⟨by rw [HR3.out]; rfl, hb1⟩
          · have HO' := Lib.hid (HO.out fun _ => by omega).2
            go_wp2
            go_round
            case rel => exact ⟨10, by omega, rfl, by rw [HS.out, HV.out, HTL.out, ← HO'.out]; simp, fun _ => by rw [HK2.out]; omega⟩
            case measure => simp [intOf] <;> omega
        · have hb9 : ((k : Int) == 9) = false := beq_eq_false_iff_ne.2 (by omega)
          have HO' := Lib.hid (or_groupW n d k HN.out (by omega) hdm fun h => absurd h hk9)
          go_wp2
          go_round
          case rel => exact ⟨k + 1, by omega, by go_num, by rw [HS.out, HV.out, HTL.out, HO'.out], fun h => by omega⟩
          case measure => simp [intOf] <;> omega
      · obtain rfl : k = q.length := by omega
        have HR3 := Lib.hid (show readLebR l at_ = (lebVal q, q.length, 0) by rw [HR2.out]; exact if_neg (fun h => by have := H9.out (by omega); omega))
        go_wp2
        go_ret3
        exact ⟨by rw [HR3.out]; simp, hb1⟩
  · have HR2 := Lib.hid (show readLebR l at_ = (0, 0, e) by rw [HR.out]; exact if_pos he)
    have he' : (e != 0) = true := bne_iff_ne.2 he
    clear he
    go_enter Try.func9, Try.ntmps9
    go_wp2_with (go_at_call 31; refine HG.out.mono ?_; rintro e w1 ⟨v1, rfl, hown, hb1⟩)
    go_ret3
    exact ⟨by rw [HR2.out]; rfl, hb1⟩
end Go.Proofs.Ytbbpeggljhkjhaa
