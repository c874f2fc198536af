/-
  Resolve: the statements ResolveDraws and ResolveWins, within their bound.
-/
import Derived.Test.YtnhbgijecdeahaaRw5
import Derived.Sort.Walk0
import Derived.Shelf.Vars
namespace Go.Proofs.Ytnhbgijecdeahaa
open Go.RowKit Go.Fd
theorem wins_law {l : List InM} (h : (resolveM l []).2 = 0) : (∀ x ∈ (resolveM l []).1.wins, WinOk (resolveM l []).1.mods x) ∧ ((resolveM l []).1.wins.map (·.name)).Pairwise (· < ·) := by
  obtain ⟨-, -, h3, -, h5, h6⟩ := resolve_ok h
  rw [h6]
  refine ⟨fun x hx => chosen_wins h5 (fun m k y hy => ?_) hx, (chosen_names h5).1⟩
  obtain ⟨o, ho, hk⟩ := hy
  have h7 := List.mem_of_getElem? ho
  obtain ⟨s, hs, rfl⟩ := List.mem_map.1 h7
  have h8 := (mayO_0 (firstE_all h3 (objAt l s) (order_inside hs).2)).syms
  have h9 := (symW_0 h8).1
  rw [List.any_eq_false] at h9
  have h10 := h9 y (List.mem_of_getElem? hk)
  unfold symBad at h10
  simp only [Bool.or_eq_true, Bool.not_eq_true', not_or] at h10
  have h11 := kindB_pos (by simpa using h10.1.1)
  exact ⟨h11.2.1, h11.1⟩
theorem any_take {α : Type} {f : α → Bool} {l : List α} {k : Nat} {x : α} (h : l[k]? = some x) : (l.take (k + 1)).any f = ((l.take k).any f || f x) := by
  rw [List.take_add_one, h, List.any_append]
  simp
theorem strongM_no {s : SymM} {n : List UInt8} (h : s.name ≠ n) : strongM s n = false := by
  unfold strongM
  rw [decide_eq_false h]
  rfl
theorem strongM_yes {s : SymM} {n : List UInt8} (h : s.name = n) : strongM s n = (decide (s.bind = 1) && !decide (s.sec = 0) && !decide (s.sec = 65522)) := by
  unfold strongM
  rw [decide_eq_true h, Bool.true_and]
attribute [local irreducible] walk
set_option maxHeartbeats 16000000 in
set_option maxRecDepth 100000 in
theorem resolveWins_any (l : List InM) (V : List InV) (lv : Value) (w : World) (h : InsAt w l V lv) (hok : LawOk l) :
    Calls Try.prog 4 #[lv] w fun e w' => e = .returned (.bool true) ∧ Below w.heap.size w w' := by
  have HI := Lib.hid h
  have HLT : Hid (∀ wx, Below w.heap.size w wx → Calls Try.prog 7 #[lv] wx fun e w' => e = .returned (.bool (lightR l)) ∧ Below wx.heap.size wx w') := Lib.hid fun wx hb => light22_any l V lv wx (HI.out.mono hb) hok.lt
  have HBG : Hid (∀ wx, Calls Try.prog 6 #[] wx fun e w' => e = .returned (.bool true) ∧ Below wx.heap.size wx w') := Lib.hid begun22_any
  have HTK := Lib.hid hok.tk
  have HLM := Lib.hid hok.lt.many
  generalize lightR l = q at *
  clear h hok
  cases q with
  | false =>
    go_enter Try.func4, Try.ntmps4
    go_wp2_with (first
      | (go_at_call 6; refine (HBG.out _).mono ?_; rintro e w1 ⟨rfl, hb1⟩; have HB1 := Lib.hid hb1; clear hb1)
      | (go_at_call 7; refine (HLT.out w1 HB1.out).mono ?_; rintro e w2 ⟨rfl, hb2⟩; have HB2 := Lib.hid (HB1.out.trans (hb2.mono HB1.out.size)); clear hb2))
    go_ret
    exact ⟨rfl, HB2.out⟩
  | true =>
    have HT1 := Lib.hid (fun wx (hb : Below w.heap.size w wx) => takeRs_any l V _ nil3 [] wx (HI.out.mono hb) (Rd.nil S wx) HLM.out (by decide) (HTK.out rfl))
    have HSM := Lib.hid (tkSm_of (l := l) (known := []) (HTK.out rfl))
    have HWL := Lib.hid (fun hh : (resolveM l []).2 = 0 => wins_law hh)
    obtain ⟨R1, hR1⟩ : ∃ R, R = resolveM l [] := ⟨_, rfl⟩
    rw [← hR1] at HT1 HSM HWL
    obtain ⟨T1, e1⟩ := R1
    dsimp only at HSM HWL
    clear hR1
    by_cases he : e1 = 0
    case neg =>
      have t2 : (e1 != 0) = true := bne_iff_ne.2 he
      clear he HWL HSM
      go_enter Try.func4, Try.ntmps4
      go_wp2_with (first
        | (go_at_call 6; refine (HBG.out _).mono ?_; rintro e w1 ⟨rfl, hb1⟩; have HB1 := Lib.hid hb1; clear hb1)
        | (go_at_call 7; refine (HLT.out w1 HB1.out).mono ?_; rintro e w2 ⟨rfl, hb2⟩; have HB2 := Lib.hid (HB1.out.trans (hb2.mono HB1.out.size)); clear hb2))
      refine (HT1.out w2 HB2.out).mono ?_
      rintro e w3 ⟨⟨Y1, mv, nv, wv, rfl, hT⟩, hb3⟩
      obtain ⟨m1, ma1, mc1, hm1, rfl, -, -⟩ := hT.mods.shape
      obtain ⟨n1, na1, nc1, -, rfl, -, -⟩ := Reads.shape hT.names
      obtain ⟨k1, wa1, wc1, hk1, rfl, -, -⟩ := hT.wins.shape
      have HA3 := Lib.hid hT
      have HM1 := Lib.hid (show m1 = T1.mods.length by rw [hm1.out, hT.obs.eq, List.length_map])
      have HK1 := Lib.hid hk1.out
      have HB3 := Lib.hid (HB2.out.trans (hb3.mono HB2.out.size))
      clear hT hb3 hm1 hk1
      dsimp only
      go_wp2_with (first
        | ((with_reducible show wpList _ _ _ (⟨some 3, .alloc _, _, _, _, _⟩ :: _) _ _); go_must (refine wpList_allocTk ?_; intro w4 hx4 hb4 hs4; have HX4 := Lib.hid hx4; have HB4 := Lib.hid hb4; clear hx4 hb4))
        | ((with_reducible show wpList _ _ _ (⟨none, .store _ (.tmp 3) _, _, _, _, _⟩ :: _) _ _); go_must (refine wpList_storeRowS HX4.out rfl rfl rfl (by kernel_rfl) (by simp [Value.oneCell']) ?_; intro w5 hh5 hs5; have HX5 := Lib.hid hh5; have hb35 := HB4.out.trans (hs5.below HB4.out.size (fun k hk => by rw [hk]; exact Nat.le_refl _)); have HA5 := Lib.hid (HA3.out.mono hb35); have HB5 := Lib.hid (HB3.out.trans (hb35.mono HB3.out.size)); obtain ⟨c0, c1, c2⟩ := tak_box hh5; clear hh5 hs5 hb35)))
      go_ret
      exact ⟨rfl, HB5.out⟩
    have t2 : (e1 != 0) = false := by rw [he]; rfl
    have HW := Lib.hid (HWL.out he)
    clear HWL he
    go_enter Try.func4, Try.ntmps4
    go_wp2_with (first
      | (go_at_call 6; refine (HBG.out _).mono ?_; rintro e w1 ⟨rfl, hb1⟩; have HB1 := Lib.hid hb1; clear hb1)
      | (go_at_call 7; refine (HLT.out w1 HB1.out).mono ?_; rintro e w2 ⟨rfl, hb2⟩; have HB2 := Lib.hid (HB1.out.trans (hb2.mono HB1.out.size)); clear hb2))
    refine (HT1.out w2 HB2.out).mono ?_
    rintro e w3 ⟨⟨Y1, mv, nv, wv, rfl, hT⟩, hb3⟩
    obtain ⟨m1, ma1, mc1, hm1, rfl, -, -⟩ := hT.mods.shape
    obtain ⟨n1, na1, nc1, -, rfl, -, -⟩ := Reads.shape hT.names
    obtain ⟨k1, wa1, wc1, hk1, rfl, -, -⟩ := hT.wins.shape
    have HA3 := Lib.hid hT
    have HM1 := Lib.hid (show m1 = T1.mods.length by rw [hm1.out, hT.obs.eq, List.length_map])
    have HK1 := Lib.hid hk1.out
    have HB3 := Lib.hid (HB2.out.trans (hb3.mono HB2.out.size))
    clear hT hb3 hm1 hk1
    dsimp only
    go_wp2_with (first
      | ((with_reducible show wpList _ _ _ (⟨some 3, .alloc _, _, _, _, _⟩ :: _) _ _); go_must (refine wpList_allocTk ?_; intro w4 hx4 hb4 hs4; have HX4 := Lib.hid hx4; have HB4 := Lib.hid hb4; clear hx4 hb4))
      | ((with_reducible show wpList _ _ _ (⟨none, .store _ (.tmp 3) _, _, _, _, _⟩ :: _) _ _); go_must (refine wpList_storeRowS HX4.out rfl rfl rfl (by kernel_rfl) (by simp [Value.oneCell']) ?_; intro w5 hh5 hs5; have HX5 := Lib.hid hh5; have hb35 := HB4.out.trans (hs5.below HB4.out.size (fun k hk => by rw [hk]; exact Nat.le_refl _)); have HA5 := Lib.hid (HA3.out.mono hb35); have HB5 := Lib.hid (HB3.out.trans (hb35.mono HB3.out.size)); obtain ⟨c0, c1, c2⟩ := tak_box hh5; clear hh5 hs5 hb35)))
    have hs5 := HB5.out.size
    have hk9 : k1 ≤ 1000000000 := by rw [HK1.out]; exact HSM.out.wins
    have hm9 : m1 ≤ 100000 := by rw [HM1.out]; exact HSM.out.many
    -- L1
    go_loopw [5, 6, 7, 8, 9, 10, 11] (fun i _ _ _ _ _ _ wr => ∃ k : Nat, i = .int .i64 k ∧ k ≤ k1 ∧ Hid (Below w5.heap.size w5 wr)) (fun i _ _ _ _ _ _ _ => k1 - (intOf i).toNat)
    case atStart => exact ⟨0, rfl, Nat.zero_le _, Below.refl _ _⟩
    case round =>
      obtain ⟨i, rfl, hi, HB⟩ := hrel
      have hbs := HB.out.size
      clear c0 c1 c2
      obtain ⟨c0, c1, c2⟩ := tak_box (heap_below HB.out HX5.out)
      by_cases hlt : i < k1
      case neg =>
        obtain rfl : k1 = i := by omega
        have HBE := Lib.hid (HB5.out.trans (HB.out.mono hs5))
        go_wp2
        go_ret
        exact ⟨rfl, HBE.out⟩
      obtain ⟨x, hx⟩ : ∃ x, T1.wins[i]? = some x := ⟨_, List.getElem?_eq_getElem (by have := HK1.out; omega)⟩
      have HWO := Lib.hid (HW.out.1 x (List.mem_of_getElem? hx))
      obtain ⟨xa, xc, e9, hxc, -, hPX⟩ := HA5.out.wins.open (fun _ => rfl)
      injection e9 with e9 e8 e7
      subst e9 e7
      have HPX := Lib.hid hPX
      have hkc : k1 ≤ wc1 := by rw [e8]; exact hxc
      obtain ⟨b, o, rfl, f0, f1, f2, f3, f4, f5, hfb⟩ := win_cells HPX.out HB.out hx
      have HPV := Lib.hid (fun j (hj : i = j + 1) => show ∃ y, T1.wins[j]? = some y ∧ y.name < x.name by
        subst hj
        have h1 := List.pairwise_iff_getElem.1 HW.out.2
        obtain ⟨h2, h3⟩ := List.getElem?_eq_some_iff.1 hx
        have h4 := h1 j (j + 1) (by rw [List.length_map]; omega) (by rw [List.length_map]; exact h2) (by omega)
        rw [List.getElem_map, List.getElem_map, h3] at h4
        exact ⟨_, List.getElem?_eq_getElem (by omega), h4⟩)
      obtain ⟨xn, xm, xs, xco, xsz, xal⟩ := x
      dsimp only at *
      clear e8 hxc hPX hx hfb
      go_upto_region 12 with ((with_reducible show wpList _ _ _ (⟨none, .store _ (.tmp 6) _, _, _, _, _⟩ :: _) _ _); go_must (refine wpList_storeNew rfl rfl (by kernel_rfl) rfl (by simp [Value.oneCell']) ?_; intro w6 hh6 hb6; have HX6 := Lib.hid (show w6.heap[wr.heap.size]? = some (.cells (winC ⟨xn, xm, xs, xco, xsz, xal⟩) 42 (0, 0)) from hh6); have HB6 := Lib.hid (HB.out.trans (hb6.mono hbs)); clear hh6 hb6))
      clear c0 c1 c2 f0 f1 f2 f3 f4 f5
      have hs6 := HB6.out.size
      go_frame
      go_cut [49] from 36 to 49 (fun s49 wx => s49 = .bool false ∧ Hid (Below w6.heap.size w6 wx))
      case first =>
        obtain ⟨c0, c1, c2⟩ := tak_box (heap_below HB6.out HX5.out)
        obtain ⟨g0, g1, g2, g3, g4, g5⟩ := win_box HX6.out
        have HFI := Lib.hid (fun nq => below_drewN (Below.refl w6.heap.size w6) nq)
        cases i with
        | zero =>
          go_quiet (fail)
          go_wp2
          go_meet
          exact ⟨rfl, HFI.out nq⟩
        | succ j =>
          obtain ⟨y, hy, hlt2⟩ := HPV.out j rfl
          obtain ⟨b', o', e9, p0, -, -, -, -, -, -⟩ := win_cells HPX.out HB6.out hy
          cases e9
          have tl : Op.bytesLess y.name xn = true := by rw [bytesLess_eq]; exact decide_eq_true hlt2
          clear hy hlt2
          go_quiet (fail)
          go_wp2
          go_meet
          exact ⟨rfl, HFI.out nq⟩
      case rest =>
        obtain ⟨rfl, HBc⟩ := hcut
        have HBw := Lib.hid (HB6.out.trans (HBc.out.mono hs6))
        have HX6c := Lib.hid (heap_below HBc.out HX6.out)
        have HX5c := Lib.hid (heap_below HBw.out HX5.out)
        have hsw := HBw.out.size
        obtain ⟨c0, c1, c2⟩ := tak_box HX5c.out
        obtain ⟨G, hG⟩ : ∃ G : ObjM → Bool, G = fun o => o.syms.any fun s => strongM s xn := ⟨_, rfl⟩
        have HG := Lib.hid hG
        obtain ⟨ya, yc, e9, hyc, -, hPY⟩ := HA5.out.mods.open (fun _ => rfl)
        have hyl : Y1.length = m1 := by rw [HM1.out, HA5.out.obs.eq, List.length_map]
        rw [hyl] at e9 hyc
        injection e9 with e9 e8 e7
        subst e9 e7
        have HPY := Lib.hid hPY
        have HYL := Lib.hid hyl
        clear e8 hG hPY hyl HPV HB6 HBc HX6
        go_wp2
        clear c0 c1 c2
        -- L2
        go_loopw [7, 8, 9, 10] (fun s7 s8 _ _ wr2 => ∃ m : Nat, s8 = .int .i64 m ∧ m ≤ m1 ∧ s7 = .bool ((T1.mods.take m).any G) ∧ Hid (Below wc.heap.size wc wr2)) (fun _ s8 _ _ _ => m1 - (intOf s8).toNat)
        case atStart => exact ⟨0, rfl, Nat.zero_le _, rfl, Below.refl _ _⟩
        case round =>
          obtain ⟨m, rfl, hm, rfl, HB2⟩ := hrel
          have HB2w := Lib.hid (HBw.out.trans (HB2.out.mono hsw))
          obtain ⟨c0, c1, c2⟩ := tak_box (heap_below HB2.out HX5c.out)
          by_cases hlm : m < m1
          · obtain ⟨y, hy⟩ : ∃ y, Y1[m]? = some y := ⟨_, List.getElem?_eq_getElem (by have := HYL.out; omega)⟩
            have hty : T1.mods[m]? = some y.1 := by rw [HA5.out.obs.eq, List.getElem?_map, hy]; rfl
            have HAT := Lib.hid (any_take (f := G) hty)
            have HTY := Lib.hid hty
            have hyat := HA5.out.obs.obj y (List.mem_of_getElem? hy)
            obtain ⟨yb, yo, rfl, -, -, e2, -⟩ := ob_cells HPY.out HB2w.out hy
            obtain ⟨sya, syc, hsv, hsc, -, hPS⟩ := hyat.syms.open (fun _ => rfl)
            have HPS := Lib.hid hPS
            have HYC := Lib.hid (fun wx (hb : Below w5.heap.size w5 wx) => ob_cells HPY.out hb hy)
            have hsl : y.1.syms.length ≤ 1000000 := (HSM.out.objs y.1 (List.mem_of_getElem? hty)).2.1
            obtain ⟨⟨tg, prts, syms⟩, L1, pv1, sv1⟩ := y
            dsimp only at *
            obtain ⟨ns, hns⟩ : ∃ n, n = syms.length := ⟨_, rfl⟩
            rw [← hns] at hsv hsc hsl
            subst hsv
            have HNS := Lib.hid hns
            have HGY := Lib.hid (show G ⟨tg, prts, syms⟩ = syms.any (fun s => strongM s xn) by rw [HG.out])
            obtain ⟨PRE, hPRE⟩ : ∃ b, b = (T1.mods.take m).any G := ⟨_, rfl⟩
            rw [← hPRE] at HAT ⊢
            have hs2 := HB2.out.size
            clear hty hyat hPS hy hns hPRE
            go_wp2
            clear c0 c1 c2 e2
            -- L3
            go_loopw [7, 9, 10] (fun s7 s9 _ wr3 => ∃ k : Nat, s9 = .int .i64 k ∧ k ≤ ns ∧ s7 = .bool (PRE || (syms.take k).any fun s => strongM s xn) ∧ Hid (Below wc.heap.size wc wr3)) (fun _ s9 _ _ => ns - (intOf s9).toNat)
            case atStart => exact ⟨0, rfl, Nat.zero_le _, by simp, HB2.out⟩
            case round =>
              obtain ⟨k, rfl, hk, rfl, HB3⟩ := hrel
              have HB3w := Lib.hid (HBw.out.trans (HB3.out.mono hsw))
              obtain ⟨c0, c1, c2⟩ := tak_box (heap_below HB3.out HX5c.out)
              obtain ⟨yb', yo', e9, -, -, e2, -⟩ := HYC.out _ HB3w.out
              cases e9
              by_cases hlk : k < ns
              · obtain ⟨s, hs⟩ : ∃ s, syms[k]? = some s := ⟨_, List.getElem?_eq_getElem (by have := HNS.out; omega)⟩
                obtain ⟨zb, zo, rfl, i0, i1, i2, i3, i4, i5, -⟩ := sym_cells HPS.out HB3w.out hs
                have HNB0 := any_take (f := fun s : SymM => strongM s xn) hs
                have HSA := Lib.hid (show SymAt T1.mods m k s from ⟨_, HTY.out, hs⟩)
                obtain ⟨B, hB⟩ : ∃ b, b = (PRE || (syms.take k).any fun s => strongM s xn) := ⟨_, rfl⟩
                have HNB := Lib.hid (show (PRE || (syms.take (k + 1)).any fun s => strongM s xn) = (B || strongM s xn) by rw [HNB0, hB, Bool.or_assoc])
                rw [← hB]
                obtain ⟨sn, sbi, sty, sse, sva, ssi⟩ := s
                dsimp only at *
                clear hs HNB0 hB
                by_cases hnm : sn = xn
                case neg =>
                  have t9 : (sn != xn) = true := bne_iff_ne.2 hnm
                  have HFV := Lib.hid (show strongM ⟨sn, sbi, sty, sse, sva, ssi⟩ xn = false from strongM_no hnm)
                  skip
                  go_wp2_with ((with_reducible show wpList _ _ _ (⟨none, .store _ (.tmp 10) _, _, _, _, _⟩ :: _) _ _); go_must (refine wpList_storeNew rfl rfl (by kernel_rfl) rfl (by simp [Value.oneCell']) ?_; intro w9 hh9 hb9; have HB9 := Lib.hid (HB3.out.trans (hb9.mono HB3.out.size)); obtain ⟨d0, d1, d2, d3, d4, d5⟩ := sym_box (s := ⟨sn, sbi, sty, sse, sva, ssi⟩) hh9; obtain ⟨g0, g1, g2, g3, g4, g5⟩ := win_box (heap_below HB9.out HX6c.out); clear hh9 hb9))
                  go_roundw
                  case rel => exact ⟨k + 1, by go_num, by omega, by rw [HNB.out, HFV.out, Bool.or_false], HB9.out⟩
                  case measure => simp [intOf] <;> omega
                subst hnm
                have HFY := Lib.hid (show strongM ⟨sn, sbi, sty, sse, sva, ssi⟩ sn = _ from strongM_yes rfl)
                by_cases hb0 : sbi = 0
                case pos =>
                  have t10 : (sbi == 0) = true := by rw [hb0]; rfl
                  have HFV := Lib.hid (show strongM ⟨sn, sbi, sty, sse, sva, ssi⟩ sn = false by rw [HFY.out]; simp [hb0])
                  clear hb0
                  go_wp2_with ((with_reducible show wpList _ _ _ (⟨none, .store _ (.tmp 10) _, _, _, _, _⟩ :: _) _ _); go_must (refine wpList_storeNew rfl rfl (by kernel_rfl) rfl (by simp [Value.oneCell']) ?_; intro w9 hh9 hb9; have HB9 := Lib.hid (HB3.out.trans (hb9.mono HB3.out.size)); obtain ⟨d0, d1, d2, d3, d4, d5⟩ := sym_box (s := ⟨sn, sbi, sty, sse, sva, ssi⟩) hh9; obtain ⟨g0, g1, g2, g3, g4, g5⟩ := win_box (heap_below HB9.out HX6c.out); clear hh9 hb9))
                  go_roundw
                  case rel => exact ⟨k + 1, by go_num, by omega, by rw [HNB.out, HFV.out, Bool.or_false], HB9.out⟩
                  case measure => simp [intOf] <;> omega
                have t10 : (sbi == 0) = false := by simpa using hb0
                by_cases hb1 : sbi = 1
                case neg =>
                  have t11 : (sbi == 1) = false := by simpa using hb1
                  have HFV := Lib.hid (show strongM ⟨sn, sbi, sty, sse, sva, ssi⟩ sn = false by rw [HFY.out]; simp [hb1])
                  clear hb1 hb0
                  cases B
                  case false =>
                    go_wp2_with ((with_reducible show wpList _ _ _ (⟨none, .store _ (.tmp 10) _, _, _, _, _⟩ :: _) _ _); go_must (refine wpList_storeNew rfl rfl (by kernel_rfl) rfl (by simp [Value.oneCell']) ?_; intro w9 hh9 hb9; have HB9 := Lib.hid (HB3.out.trans (hb9.mono HB3.out.size)); obtain ⟨d0, d1, d2, d3, d4, d5⟩ := sym_box (s := ⟨sn, sbi, sty, sse, sva, ssi⟩) hh9; obtain ⟨g0, g1, g2, g3, g4, g5⟩ := win_box (heap_below HB9.out HX6c.out); clear hh9 hb9))
                    go_roundw
                    case rel => exact ⟨k + 1, by go_num, by omega, by rw [HNB.out, HFV.out]; rfl, HB9.out⟩
                    case measure => simp [intOf] <;> omega
                  case true =>
                    go_wp2_with ((with_reducible show wpList _ _ _ (⟨none, .store _ (.tmp 10) _, _, _, _, _⟩ :: _) _ _); go_must (refine wpList_storeNew rfl rfl (by kernel_rfl) rfl (by simp [Value.oneCell']) ?_; intro w9 hh9 hb9; have HB9 := Lib.hid (HB3.out.trans (hb9.mono HB3.out.size)); obtain ⟨d0, d1, d2, d3, d4, d5⟩ := sym_box (s := ⟨sn, sbi, sty, sse, sva, ssi⟩) hh9; obtain ⟨g0, g1, g2, g3, g4, g5⟩ := win_box (heap_below HB9.out HX6c.out); clear hh9 hb9))
                    go_roundw
                    case rel => exact ⟨k + 1, by go_num, by omega, by rw [HNB.out, HFV.out]; rfl, HB9.out⟩
                    case measure => simp [intOf] <;> omega
                have t11 : (sbi == 1) = true := by rw [hb1]; rfl
                by_cases hs0 : sse = 0
                case pos =>
                  have t12 : (sse == 0) = true := by rw [hs0]; rfl
                  have t13 : (sse != 0) = false := by rw [hs0]; rfl
                  have hne := HWO.out.need m k _ HSA.out rfl hb1 hs0
                  have t14 : decide (xm < 0) = false := decide_eq_false (by have h1 : 0 ≤ xm := hne; omega)
                  have HFV := Lib.hid (show strongM ⟨sn, sbi, sty, sse, sva, ssi⟩ sn = false by rw [HFY.out]; simp [hs0])
                  clear hb1 hb0 hs0 hne
                  cases B
                  case false =>
                    go_wp2_with ((with_reducible show wpList _ _ _ (⟨none, .store _ (.tmp 10) _, _, _, _, _⟩ :: _) _ _); go_must (refine wpList_storeNew rfl rfl (by kernel_rfl) rfl (by simp [Value.oneCell']) ?_; intro w9 hh9 hb9; have HB9 := Lib.hid (HB3.out.trans (hb9.mono HB3.out.size)); obtain ⟨d0, d1, d2, d3, d4, d5⟩ := sym_box (s := ⟨sn, sbi, sty, sse, sva, ssi⟩) hh9; obtain ⟨g0, g1, g2, g3, g4, g5⟩ := win_box (heap_below HB9.out HX6c.out); clear hh9 hb9))
                    go_roundw
                    case rel => exact ⟨k + 1, by go_num, by omega, by rw [HNB.out, HFV.out]; rfl, HB9.out⟩
                    case measure => simp [intOf] <;> omega
                  case true =>
                    go_wp2_with ((with_reducible show wpList _ _ _ (⟨none, .store _ (.tmp 10) _, _, _, _, _⟩ :: _) _ _); go_must (refine wpList_storeNew rfl rfl (by kernel_rfl) rfl (by simp [Value.oneCell']) ?_; intro w9 hh9 hb9; have HB9 := Lib.hid (HB3.out.trans (hb9.mono HB3.out.size)); obtain ⟨d0, d1, d2, d3, d4, d5⟩ := sym_box (s := ⟨sn, sbi, sty, sse, sva, ssi⟩) hh9; obtain ⟨g0, g1, g2, g3, g4, g5⟩ := win_box (heap_below HB9.out HX6c.out); clear hh9 hb9))
                    go_roundw
                    case rel => exact ⟨k + 1, by go_num, by omega, by rw [HNB.out, HFV.out]; rfl, HB9.out⟩
                    case measure => simp [intOf] <;> omega
                have t12 : (sse == 0) = false := by simpa using hs0
                have t13 : (sse != 0) = true := bne_iff_ne.2 hs0
                by_cases hs2 : sse = 65522
                case pos =>
                  have t15 : (sse != 65522) = false := by rw [hs2]; rfl
                  have HFV := Lib.hid (show strongM ⟨sn, sbi, sty, sse, sva, ssi⟩ sn = false by rw [HFY.out]; simp [hs2])
                  clear hb1 hb0 hs0 hs2
                  cases B
                  case false =>
                    go_wp2_with ((with_reducible show wpList _ _ _ (⟨none, .store _ (.tmp 10) _, _, _, _, _⟩ :: _) _ _); go_must (refine wpList_storeNew rfl rfl (by kernel_rfl) rfl (by simp [Value.oneCell']) ?_; intro w9 hh9 hb9; have HB9 := Lib.hid (HB3.out.trans (hb9.mono HB3.out.size)); obtain ⟨d0, d1, d2, d3, d4, d5⟩ := sym_box (s := ⟨sn, sbi, sty, sse, sva, ssi⟩) hh9; obtain ⟨g0, g1, g2, g3, g4, g5⟩ := win_box (heap_below HB9.out HX6c.out); clear hh9 hb9))
                    go_roundw
                    case rel => exact ⟨k + 1, by go_num, by omega, by rw [HNB.out, HFV.out]; rfl, HB9.out⟩
                    case measure => simp [intOf] <;> omega
                  case true =>
                    go_wp2_with ((with_reducible show wpList _ _ _ (⟨none, .store _ (.tmp 10) _, _, _, _, _⟩ :: _) _ _); go_must (refine wpList_storeNew rfl rfl (by kernel_rfl) rfl (by simp [Value.oneCell']) ?_; intro w9 hh9 hb9; have HB9 := Lib.hid (HB3.out.trans (hb9.mono HB3.out.size)); obtain ⟨d0, d1, d2, d3, d4, d5⟩ := sym_box (s := ⟨sn, sbi, sty, sse, sva, ssi⟩) hh9; obtain ⟨g0, g1, g2, g3, g4, g5⟩ := win_box (heap_below HB9.out HX6c.out); clear hh9 hb9))
                    go_roundw
                    case rel => exact ⟨k + 1, by go_num, by omega, by rw [HNB.out, HFV.out]; rfl, HB9.out⟩
                    case measure => simp [intOf] <;> omega
                have t15 : (sse != 65522) = true := bne_iff_ne.2 hs2
                have HFV := Lib.hid (show strongM ⟨sn, sbi, sty, sse, sva, ssi⟩ sn = true by rw [HFY.out]; simp [hb1, hs0, hs2])
                clear hb1 hb0 hs0 hs2
                cases B
                case false =>
                  go_wp2_with ((with_reducible show wpList _ _ _ (⟨none, .store _ (.tmp 10) _, _, _, _, _⟩ :: _) _ _); go_must (refine wpList_storeNew rfl rfl (by kernel_rfl) rfl (by simp [Value.oneCell']) ?_; intro w9 hh9 hb9; have HB9 := Lib.hid (HB3.out.trans (hb9.mono HB3.out.size)); obtain ⟨d0, d1, d2, d3, d4, d5⟩ := sym_box (s := ⟨sn, sbi, sty, sse, sva, ssi⟩) hh9; obtain ⟨g0, g1, g2, g3, g4, g5⟩ := win_box (heap_below HB9.out HX6c.out); clear hh9 hb9))
                  go_roundw
                  case rel => exact ⟨k + 1, by go_num, by omega, by rw [HNB.out, HFV.out]; rfl, HB9.out⟩
                  case measure => simp [intOf] <;> omega
                case true =>
                  go_wp2_with ((with_reducible show wpList _ _ _ (⟨none, .store _ (.tmp 10) _, _, _, _, _⟩ :: _) _ _); go_must (refine wpList_storeNew rfl rfl (by kernel_rfl) rfl (by simp [Value.oneCell']) ?_; intro w9 hh9 hb9; have HB9 := Lib.hid (HB3.out.trans (hb9.mono HB3.out.size)); obtain ⟨d0, d1, d2, d3, d4, d5⟩ := sym_box (s := ⟨sn, sbi, sty, sse, sva, ssi⟩) hh9; obtain ⟨g0, g1, g2, g3, g4, g5⟩ := win_box (heap_below HB9.out HX6c.out); clear hh9 hb9))
                  go_roundw
                  case rel => exact ⟨k + 1, by go_num, by omega, by rw [HNB.out, HFV.out]; rfl, HB9.out⟩
                  case measure => simp [intOf] <;> omega
              · obtain rfl : ns = k := by omega
                have HE := Lib.hid (show (T1.mods.take (m + 1)).any G = (PRE || (syms.take ns).any fun s => strongM s xn) by rw [HAT.out, HGY.out, List.take_of_length_le (by have := HNS.out; omega)])
                go_wp2
                go_roundw
                case rel => exact ⟨m + 1, by go_num, by omega, by rw [HE.out], HB3.out⟩
                case measure => simp [intOf] <;> omega
          · obtain rfl : m1 = m := by omega
            have HBE := Lib.hid (HBw.out.trans (HB2.out.mono hsw))
            have HTE := Lib.hid (show T1.mods.take m1 = T1.mods from List.take_of_length_le (by rw [← HM1.out]; exact Nat.le_refl _))
            rw [HTE.out]
            obtain ⟨g0, g1, g2, g3, g4, g5⟩ := win_box (heap_below HB2.out HX6c.out)
            dsimp only at g0 g1 g2 g3 g4 g5
            have HST := Lib.hid (fun (hh : T1.mods.any G = true) => show ∃ m k y, SymAt T1.mods m k y ∧ strongM y xn = true by
              rw [List.any_eq_true] at hh
              obtain ⟨o, ho, h1⟩ := hh
              rw [HG.out, List.any_eq_true] at h1
              obtain ⟨y, hy, h2⟩ := h1
              obtain ⟨m, hm⟩ := List.mem_iff_getElem?.1 ho
              obtain ⟨k, hk⟩ := List.mem_iff_getElem?.1 hy
              exact ⟨m, k, y, ⟨o, hm, hk⟩, h2⟩)
            obtain ⟨ST, hST⟩ : ∃ b, b = T1.mods.any G := ⟨_, rfl⟩
            rw [← hST] at HST ⊢
            clear hST HTE
            by_cases hx0 : xm < 0
            · have t20 : decide (xm < 0) = true := decide_eq_true hx0
              obtain ⟨gco, hns⟩ := HWO.out.lost hx0
              have hco : xco = false := gco
              clear gco
              have hsf : ST = false := by
                cases ST with
                | false => rfl
                | true =>
                  obtain ⟨m, k, y, h1, h2⟩ := HST.out rfl
                  have h3 : strongM y xn = false := hns m k y h1
                  rw [h2] at h3
                  cases h3
              subst hco hsf
              clear hns hx0
              go_wp2
              go_roundw
              case rel => exact ⟨i + 1, by go_num, by omega, HBE.out⟩
              case measure => simp [intOf] <;> omega
            have t20 : decide (xm < 0) = false := decide_eq_false hx0
            obtain ⟨m', k', s', hSA, gxm, gxs, gsn, hb0, hs0, gco, hstr⟩ := HWO.out.won (by show 0 ≤ xm; omega)
            have hxm : xm = (m' : Int) := gxm
            have hxs : xs = (k' : Int) := gxs
            have hsn : s'.name = xn := gsn
            have hco : xco = decide (s'.sec = 65522) := gco
            clear gxm gxs gsn gco
            have HSR := Lib.hid (fun (hh : ST = true) => show s'.bind = 1 ∧ s'.sec ≠ 65522 from hstr (HST.out hh))
            obtain ⟨oM, hoM, hsk⟩ := hSA
            obtain ⟨y, hy⟩ : ∃ y, Y1[m']? = some y := ⟨_, List.getElem?_eq_getElem (by have h1 := (List.getElem?_eq_some_iff.1 hoM).1; have := HYL.out; have := HM1.out; omega)⟩
            have hyo : y.1 = oM := by
              have h1 : T1.mods[m']? = some y.1 := by rw [HA5.out.obs.eq, List.getElem?_map, hy]; rfl
              exact Option.some.inj (h1.symm.trans hoM)
            have hm' : m' < m1 := by have h1 := (List.getElem?_eq_some_iff.1 hy).1; have := HYL.out; omega
            obtain ⟨yb, yo, rfl, -, -, e2, -⟩ := ob_cells HPY.out HBE.out hy
            obtain ⟨sya, syc, hsv, hsc, -, hPS⟩ := (HA5.out.obs.obj y (List.mem_of_getElem? hy)).syms.open (fun _ => rfl)
            rw [hyo] at hsv hsc hPS
            rw [hsv] at e2
            obtain ⟨zb, zo, rfl, i0, i1, i2, i3, i4, i5, -⟩ := sym_cells hPS HBE.out hsk
            have hk' : k' < oM.syms.length := (List.getElem?_eq_some_iff.1 hsk).1
            obtain ⟨ns, hns⟩ : ∃ n, n = oM.syms.length := ⟨_, rfl⟩
            rw [← hns] at hk' e2 hsc
            obtain ⟨sn, sbi, sty, sse, sva, ssi⟩ := s'
            dsimp only at *
            subst hxm hxs hsn
            have HCO := Lib.hid hco
            have t21 : (sbi == 0) = false := by simpa using hb0
            have t22 : (sse == 0) = false := by simpa using hs0
            clear hPS hsv hy hyo hoM hsk hns hco hx0 hb0 hs0 hstr HST
            go_wp2
            have hAB := fun (x : Above wr) (b k : Nat) (h : b < wr.heap.size) => Above.cell x b k h
            have l1 := block_lt c0
            have l2 := block_lt g1
            have l3 := block_lt e2
            have l4 := block_lt i0
            refine wp_region_walk 12 [(11, Yld.new wr.heap.size 44 6)] (by kernel_rfl) (by kernel_rfl) ?_
            simp only [List.take_succ_cons, List.take_zero, List.drop_succ_cons, List.drop_zero]
            try go_frame
            iterate 11 (refine walk_quiet rfl rfl rfl ?_; intro K hK; go_big_quiet_op; go_big_quiet_on)
            refine walk_new rfl rfl (fun wx hwx _ => WpYld.val run_allocSy (Yld.new_mk _ hwx).1 (Yld.new_mk _ hwx).2) (fun gb => ?_)
            go_frame
            refine walk_nil ?_
            intro wz hbz hF
            obtain ⟨hgb, cs, hcs, hcn⟩ := Yld.new_got (hF 11 _ 11 _ rfl rfl rfl rfl)
            have HGB := Lib.hid (heap_below hbz (heap_below HB2.out HX6c.out))
            have hbE := HBE.out.size
            have HBz := Lib.hid (HBE.out.trans (hbz.mono hbE))
            have hlw := block_lt (cell_rec (heap_below HB2.out HX6c.out) 0 |>.trans rfl)
            clear hF hAB l1 l2 l3 l4 c0 c1 c2 e2 i0 i1 i2 i3 i4 i5 g0 g1 g2 g3 g4 g5
            refine wpList_storeRowS hcs rfl rfl (by rw [hcn]; rfl) (by kernel_rfl) (by simp [Value.oneCell']) ?_
            intro w15 hh15 hs15
            have HB15 := Lib.hid (HBz.out.trans (hs15.below HBz.out.size (fun k hk => by rw [hk]; omega)))
            obtain ⟨d0, d1, d2, d3, d4, d5⟩ := sym_box (s := ⟨sn, sbi, sty, sse, sva, ssi⟩) hh15
            obtain ⟨g0, g1, g2, g3, g4, g5⟩ := win_box (hs15.kept HGB.out (by omega))
            dsimp only at g0 g1 g2 g3 g4 g5 d0 d1 d2 d3 d4 d5
            clear hh15 hs15 hcs hcn hgb hbz
            cases ST with
            | true =>
              obtain ⟨hb1, hs2⟩ := HSR.out rfl
              have hcf := HCO.out
              rw [decide_eq_false hs2] at hcf
              have t23 : (sbi != 1) = false := by rw [hb1]; rfl
              have t24 : (sse == 65522) = false := by simpa using hs2
              subst hcf
              clear hb1 hs2
              go_wp2
              go_roundw
              case rel => exact ⟨i + 1, by go_num, by omega, HB15.out⟩
              case measure => simp [intOf] <;> omega
            | false =>
              by_cases hs2 : sse = 65522
              · have hcf := HCO.out
                rw [decide_eq_true hs2] at hcf
                have t24 : (sse == 65522) = true := by rw [hs2]; rfl
                subst hcf
                clear hs2
                go_wp2
                go_roundw
                case rel => exact ⟨i + 1, by go_num, by omega, HB15.out⟩
                case measure => simp [intOf] <;> omega
              · have hcf := HCO.out
                rw [decide_eq_false hs2] at hcf
                have t24 : (sse == 65522) = false := by simpa using hs2
                subst hcf
                clear hs2
                go_wp2
                go_roundw
                case rel => exact ⟨i + 1, by go_num, by omega, HB15.out⟩
                case measure => simp [intOf] <;> omega
end Go.Proofs.Ytnhbgijecdeahaa
namespace Go.Proofs.Ytnhbgijecdeahaa
open Go.ChangeShapes Go.WideShapes Go.ChangeAt Go.RowKit Go.Fd
set_option maxRecDepth 100000 in
theorem resolveWinsUpto_lifted (os : Os) (started : os.Started) (H : Type) (enc : TypeId × Value → H) (F : Stop.Interp) :
    ReturnsInHanded {} Try.checked os 4 .any ((Rows.OpenSpec.upto Rows.resolveWinsSpec).pre6 enc Try.prog Try.f4 Rows.resolveWinsUptoRow.domain false) (((Rows.OpenSpec.upto Rows.resolveWinsSpec).at F).post enc Try.prog Try.f4 false true false false) := by
  refine handed_cond (C := Try.checked) (s := (Rows.OpenSpec.upto Rows.resolveWinsSpec)) (k := Rows.uptoSmall) rfl Try.own started (by kernel_rfl) Try.func4
    (OpenSpec.witness (enc := enc) (C := Try.checked) (s := (Rows.OpenSpec.upto Rows.resolveWinsSpec)) (k := Rows.uptoSmall) rfl false ⟨#[], #[.slice none 0 0], []⟩ 8 (by kernel_rfl) (by kernel_rfl) (by kernel_rfl)
      (x := ([.nil], [], [])) (by kernel_rfl) rfl (by kernel_rfl)) ?_
  intro W base args ds gs before hval0 hW hk hz hsh
  have hval : ∀ (j : Nat) t v, Try.f4.params[j]? = some t → args[j]? = some v → Value.okWide Try.prog W .any base t v := hval0
  have hW' := hW
  obtain ⟨p, q, hA0, hV, rfl, hfz, hnd⟩ := hW
  have hA : DataW.TrodAll enc Try.prog W 0 (fun _ => true) true Try.f4.params.toList args.toList ds p := hA0
  have hlt : ∀ x ∈ p, x.block < W.heap.size := fun x hx => hW'.lt x (by simp [hx])
  have hback : ∀ W', Below W.heap.size W W' → DataW.TrodAll enc Try.prog W' 0 (fun b => decide (b < W.heap.size)) true Try.f4.params.toList args.toList ds p :=
    fun W' hb => belowAllB (by kernel_rfl) hb hA hlt
  rw [Try.params4] at hA hval
  obtain ⟨v0, vs0, d0, ds0, p0, q0, hargs, rfl, rfl, h0, r0⟩ := trodAll_cons hA
  obtain ⟨rfl, rfl, rfl⟩ := trodAll_nil r0
  obtain rfl : args = #[v0] := by
    cases args
    simp at hargs
    simp [hargs]
  clear hargs
  obtain ⟨rfl, rfl⟩ := trodVars_none hV
  have fin : ∀ (e : Ending) (W' : World), (e = .returned (.bool true) ∧ Below W.heap.size W W') → ∃ v, e = Ending.returned v ∧ ((Rows.OpenSpec.upto Rows.resolveWinsSpec).at F).post enc Try.checked.prog Try.f4 false true false false W #[v0] v W' := by
    rintro e W' ⟨rfl, hb⟩
    exact ⟨_, rfl, _, _, _, [], _, [], hW', trodAll_mk1 (shut_bool Try.underlying4 true), hback W' hb, rfl, hb.frame _, fun h => by cases h⟩
  obtain ⟨V, hin, hg, hl⟩ := reads_inputs (hval 0 22 v0 rfl rfl) h0
  have hb : Rows.uptoBulk d0 ≤ 1048576 := by
    have := of_decide_eq_true hk
    simp [Rows.uptoBulkAll] at this
    omega
  exact (resolveWins_any (V.map (·.x)) V v0 W hin (lawOk hb hg hl)).mono fin
theorem resolveWinsUpto_holds : Rows.ResolveWinsUptoSaid :=
  OpenClaim.holds_of_cond 4 Try.f4 rfl rfl rfl rfl rfl rfl rfl ⟨rfl, rfl, rfl, rfl, rfl⟩ rfl rfl rfl rfl rfl (by kernel_rfl) Try.func4 (by kernel_rfl)
    (of_decide_eq_true (by kernel_rfl)) (by unfold Func.isWrapper; rw [if_neg (of_decide_eq_false (by kernel_rfl))]; exact ⟨rfl, rfl⟩)
    (fun os started H enc _ F => resolveWinsUpto_lifted os started H enc F)
end Go.Proofs.Ytnhbgijecdeahaa
namespace Go.Proofs.Ytnhbgijecdeahaa
theorem resolve_all : Rows.ResolveDrawsUptoSaid ∧ Rows.ResolveWinsUptoSaid := ⟨resolveDrawsUpto_holds, resolveWinsUpto_holds⟩
end Go.Proofs.Ytnhbgijecdeahaa
#print axioms Go.Proofs.Ytnhbgijecdeahaa.resolve_all
