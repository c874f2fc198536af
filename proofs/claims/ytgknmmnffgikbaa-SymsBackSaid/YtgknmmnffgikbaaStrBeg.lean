/-
  Tables of names: what the statements use: same numbers, and their own example.
-/
import Derived.Test.YtgknmmnffgikbaaStr4
import Derived.Test.YtgknmmnffgikbaaStr5
import Derived.Test.YtgknmmnffgikbaaLaw1
namespace Go.Proofs.Ytgknmmnffgikbaa
open Go.RowKit Go.Fd

theorem rd_lit {α : Type} (mk : α → Value) (w : World) (l : List α) (cs : Array Value) (n : Nat) (e : TypeId) (h : cs = (l.map mk).toArray) (hn : n = l.length) : Rd mk (w.alloc (.cells cs e)) (.slice (some ⟨w.heap.size, 0, none⟩) n n) l := by
  subst h hn
  refine ⟨by simp, _, _, rfl, Nat.le_refl _, (fun h => by cases h), fun j hj => ⟨w.heap.size, 0, rfl, ?_⟩⟩
  rw [Nat.zero_add]
  exact (Go.World.cell?_alloc_new _ _ _ _).trans (by simp)

theorem take_step {α : Type} {l m : List α} {k : Nat} {x y : α} (hx : l[k]? = some x) (hy : m[k]? = some y) (h : l.take k = m.take k) (e : x = y) : l.take (k + 1) = m.take (k + 1) := by
  subst e
  rw [List.take_add_one, List.take_add_one, hx, hy, h]

set_option maxRecDepth 100000 in
theorem ints_any (l m : List Nat) (v u : Value) (w : World) (hl : l.length ≤ 1000000000) (hm : m.length ≤ 1000000000) (hv : Rd I64 w v l) (hu : Rd I64 w u m) :
    Calls Try.prog 23 #[v, u] w fun e w' => e = .returned (.bool (decide (l = m))) ∧ Below w.heap.size w w' := by
  obtain ⟨a, ca, rfl, hca, hna, hc⟩ := hv.open 0
  obtain ⟨b, cb, rfl, hcb, hnb, hd⟩ := hu.open 0
  have HC := Lib.hid hc
  have HD := Lib.hid hd
  clear hc hd hna hnb hv hu
  obtain ⟨nl, hnl⟩ : ∃ n, n = l.length := ⟨_, rfl⟩
  obtain ⟨nm, hnm⟩ : ∃ n, n = m.length := ⟨_, rfl⟩
  rw [← hnl] at hl hca HC ⊢
  rw [← hnm] at hm hcb HD ⊢
  have HL := Lib.hid hnl
  have HM := Lib.hid hnm
  clear hnl hnm
  by_cases hlen : nl = nm
  · subst hlen
    go_enter Try.func23, Try.ntmps23
    go_wp2
    go_loopw [5] (fun i wr => ∃ k : Nat, i = .int .i64 k ∧ k ≤ nl ∧ Hid (l.take k = m.take k) ∧ Hid (Below w.heap.size w wr)) (fun i _ => nl - (intOf i).toNat)
    case atStart => exact ⟨0, rfl, Nat.zero_le _, by simp [Hid], Below.refl _ _⟩
    case round =>
      obtain ⟨k, rfl, hk, HT, HB⟩ := hrel
      by_cases hlt : k < nl
      · obtain ⟨b1, o1, ha, hc1⟩ := HC.out k hlt
        obtain ⟨b2, o2, hb, hc2⟩ := HD.out k hlt
        subst ha hb
        have hd1 := (HB.out.cell (block_lt hc1)).trans hc1
        have hd2 := (HB.out.cell (block_lt hc2)).trans hc2
        have X1 := Lib.hid (show l[k]? = some (l[k]?.getD 0) by rw [List.getElem?_eq_getElem (by have := HL.out; omega)]; rfl)
        have X2 := Lib.hid (show m[k]? = some (m[k]?.getD 0) by rw [List.getElem?_eq_getElem (by have := HM.out; omega)]; rfl)
        clear hc1 hc2
        generalize l[k]?.getD 0 = x at *
        generalize m[k]?.getD 0 = y at *
        by_cases hxy : x = y
        · have hz : (((x : Int) != (y : Int)) : Bool) = false := by simp [hxy]
          have HN := Lib.hid (take_step X1.out X2.out HT.out hxy)
          clear hxy
          go_wp2
          go_quiet (fail)
          go_wp2
          go_roundw
          case rel =>
            first
              | exact ⟨k + 1, by go_num, by omega, HN.out, HB.out.drewN _⟩
              | ((repeat apply Exists.intro); exact ⟨⟨k + 1, by go_num, by omega, HN.out, HB.out.drewN _⟩, rfl⟩)
          case measure => simp [intOf] <;> omega
        · have hz : (((x : Int) != (y : Int)) : Bool) = true := by simpa using fun e => hxy (by omega)
          have HN := Lib.hid (show decide (l = m) = false by
            rw [decide_eq_false_iff_not]
            intro e
            subst e
            have h1 := X1.out
            rw [X2.out] at h1
            exact hxy (Option.some.inj h1).symm)
          clear hxy
          go_wp2
          go_quiet (fail)
          go_wp2
          go_ret
          exact ⟨by rw [HN.out]; rfl, HB.out.drewN _⟩
      · have HN := Lib.hid (show decide (l = m) = true by
          rw [decide_eq_true_iff]
          have e : k = nl := by omega
          have := HT.out
          rw [e, List.take_of_length_le (by have := HL.out; omega), List.take_of_length_le (by have := HM.out; omega)] at this
          exact this)
        go_wp2
        go_ret
        exact ⟨by rw [HN.out]; rfl, HB.out⟩
  · have HN := Lib.hid (show decide (l = m) = false by
      rw [decide_eq_false_iff_not]
      intro e
      subst e
      exact hlen (HL.out.trans HM.out.symm))
    go_enter Try.func23, Try.ntmps23
    go_wp2
    go_ret
    exact ⟨by rw [HN.out]; rfl, Below.refl _ _⟩

theorem begun_lit : buildR [[97, 98], [], [98], [97, 98]] = ([0, 97, 98, 0, 98, 0], [1, 0, 4, 1], 0) := by decide +kernel
theorem begun_at : atR [0, 97, 98, 0, 98, 0] 1 = ([97, 98], 0) := by decide +kernel

set_option maxHeartbeats 1000000 in
set_option maxRecDepth 100000 in
theorem begun3_any (w : World) : Calls Try.prog 15 #[] w fun e w' => e = .returned (.bool true) ∧ Below w.heap.size w w' := by
  have HP := Lib.hid (build_any [[97, 98], [], [98], [97, 98]] _ _ (by decide) (rd_lit S w [[97, 98], [], [98], [97, 98]] #[.string ⟨#[97, 98]⟩, .string ⟨#[]⟩, .string ⟨#[98]⟩, .string ⟨#[97, 98]⟩] 4 9 rfl rfl))
  rw [begun_lit, World.size_alloc] at HP
  have HW := Lib.hid (below_alloc w (.cells #[.string ⟨#[97, 98]⟩, .string ⟨#[]⟩, .string ⟨#[98]⟩, .string ⟨#[97, 98]⟩] 9))
  go_enter Try.func15, Try.ntmps15
  go_wp2_with fail
  refine HP.out.mono ?_
  rintro e w1 ⟨v1, v2, rfl, hv1, hv2, hb1⟩
  have HQ := Lib.hid (strsAt_any _ 1 _ _ (by decide) hv1.bs)
  rw [begun_at] at HQ
  obtain ⟨g1, c1, rfl, -, -, -, -, -⟩ := hv1.open (by decide)
  obtain ⟨g2, c2, rfl, -, -, -, hcell, -⟩ := hv2.open 0 (by decide)
  have hcl := hcell 2 (by decide)
  have HB := Lib.hid (HW.out.trans (hb1.mono (by omega)))
  clear hcell hv1 hv2 hb1
  go_wp2_with fail
  refine HQ.out.mono ?_
  rintro e w2 ⟨rfl, rfl⟩
  go_wp2
  go_ret
  exact ⟨rfl, HB.out⟩
end Go.Proofs.Ytgknmmnffgikbaa
