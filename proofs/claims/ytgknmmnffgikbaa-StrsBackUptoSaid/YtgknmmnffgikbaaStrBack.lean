/-
  The statement StrsBack, walked.
-/
import Derived.Test.YtgknmmnffgikbaaStrBackP
namespace Go.Proofs.Ytgknmmnffgikbaa
open Go.RowKit Go.Fd

set_option maxHeartbeats 4000000 in
set_option maxRecDepth 100000 in
theorem strsBack_any (names : List (List UInt8)) (nv : Value) (mx : Int) (w : World) (hnv : Rd S w nv names) (hmx : w.cell? ⟨0, 0, none⟩ = some (.int .i64 mx)) :
    Calls Try.prog 4 #[nv] w fun e w' => e = .returned (.bool true) ∧ Below w.heap.size w w' := by
  have HNV := Lib.hid hnv
  obtain ⟨ad, cap, rfl, hmc, hna, hc0⟩ := hnv.open []
  have HC0 := Lib.hid hc0
  obtain ⟨m, hm⟩ : ∃ m, m = names.length := ⟨_, rfl⟩
  rw [← hm] at hmc HC0 HNV ⊢
  have HM := Lib.hid hm
  have HMX := Lib.hid hmx
  have HW0 := Lib.hid (block_lt hmx)
  clear hnv hmx hc0 hm
  by_cases hbig : 200 < m
  · go_enter Try.func4, Try.ntmps4
    go_wp2_with fail
    refine (begun3_any _).mono ?_
    rintro e w1 ⟨rfl, hb1⟩
    go_wp2
    go_ret
    exact ⟨rfl, hb1⟩
  have HNL := Lib.hid (show names.length ≤ 200 by have := HM.out; omega)
  have HP1 := Lib.hid (fun t w h => build_any names t w (Nat.le_trans HNL.out (by decide)) h)
  by_cases hok : (buildR names).2.2 = 0
  · obtain ⟨hall, hR⟩ := build_ok hok
    have HALL := Lib.hid hall
    rw [hR] at HP1
    clear hok hall hR
    have HLEN := Lib.hid (buildT_len names (fun x hx => mayS_len (List.all_eq_true.1 HALL.out x hx)))
    have HTLEN := Lib.hid (show (buildT names).tab.length ≤ 1000000000 by have h1 := HLEN.out.1; have h2 := HNL.out; omega)
    have HOL := Lib.hid (show (buildT names).out.length = m by have h1 := HLEN.out.2.1; have h2 := HM.out; omega)
    have HAT := Lib.hid (fun i s (hi : names[i]? = some s) => build_at HALL.out hi)
    have HSAME := Lib.hid (fun s t p q hs ht h1 h2 m1 m2 => @build_same names s t p q hs ht h1 h2 m1 m2)
    have HMOST := Lib.hid (build_most names)
    have HHEAD := Lib.hid (build_head names)
    have HMB := Lib.hid (fun k => mostN_le (names.take k) (fun x hx => mayS_len (List.all_eq_true.1 HALL.out x (List.mem_of_mem_take hx))))
    generalize (buildT names).tab = T at *
    generalize (buildT names).out = O at *
    generalize (buildT names).at_ = A at *
    go_enter Try.func4, Try.ntmps4
    go_wp2_with fail
    refine (begun3_any _).mono ?_
    rintro e w1 ⟨rfl, hb1⟩
    have HB1 := Lib.hid hb1
    clear hb1
    go_wp2_with fail
    refine (HP1.out _ _ (by have := HNV.out.mono HB1.out; exact this)).mono ?_
    rintro e w2 ⟨bv, lv, rfl, hbv, hlv, hb2⟩
    have HB2 := Lib.hid (HB1.out.trans (hb2.mono HB1.out.size))
    have HBV := Lib.hid hbv
    have HLV := Lib.hid hlv
    clear hb2 hlv
    obtain ⟨gb, cb, rfl, -, -, hTcap, hTcell, -⟩ := hbv.open (by have := HHEAD.out; obtain ⟨b, hb⟩ := this; rw [hb]; simp)
    clear hTcell
    obtain ⟨tl, htl⟩ : ∃ tl, tl = T.length := ⟨_, rfl⟩
    rw [← htl] at HBV ⊢ hTcap
    have HTL := Lib.hid htl
    clear htl hbv
    have htl2 : tl ≤ 1000000000 := by have := HTL.out; have := HTLEN.out; omega
    obtain ⟨ml, al, cl, hml, rfl, hmlc, _⟩ := HLV.out.shape
    have hml2 : ml = m := by have := hml.out; have := HOL.out; omega
    subst hml2
    go_wp2
    go_loopw [6, 7] (fun mv iv wr => ∃ k : Nat, iv = .int .i64 k ∧ k ≤ ml ∧ mv = I64 (mostN (names.take k)) ∧ Hid (Below w2.heap.size w2 wr)) (fun _ iv _ => ml - (intOf iv).toNat)
    case atStart => exact ⟨0, rfl, Nat.zero_le _, rfl, Below.refl _ _⟩
    case round =>
      obtain ⟨k, rfl, hk, rfl, HB⟩ := hrel
      have hmb := HMB.out k
      have htk : (names.take k).length = k := by rw [List.length_take]; have := HM.out; omega
      rw [htk] at hmb
      clear htk
      by_cases hlt : k < ml
      · obtain ⟨b1, o1, ha, hc1⟩ := HC0.out k (by have := HM.out; omega)
        have HA := Lib.hid ha
        subst ha
        have hwr := HB2.out.trans (HB.out.mono HB2.out.size)
        have HWR := Lib.hid hwr
        have hd1 := (hwr.cell (block_lt hc1)).trans hc1
        have X1 := Lib.hid (show names[k]? = some (names[k]?.getD []) by rw [List.getElem?_eq_getElem (by have := HM.out; omega)]; rfl)
        have HTS := Lib.hid (take_snoc' names k _ X1.out)
        have HMN := Lib.hid (show mostN (names.take (k + 1)) = mostN (names.take k) + (names[k]?.getD []).length + 1 by rw [HTS.out, mostN_snoc])
        obtain ⟨p, hp, hlk, hin, hmay⟩ := HAT.out k _ X1.out
        have HPL := Lib.hid hp
        have HLK := Lib.hid hlk
        have HIN := Lib.hid hin
        have HMAY := Lib.hid hmay
        have hslen := mayS_len hmay
        have hplt := hin.lt
        have HATR := Lib.hid (at_place hin hmay)
        obtain ⟨kf, hkf, hfind⟩ := find_place hin hmay
        have HFIND := Lib.hid hfind
        clear hp hlk hin hmay hfind hc1 hwr
        generalize names[k]?.getD [] = s at *
        have hp2 : p ≤ 1000000000 := by have := HTL.out; omega
        clear hplt
        obtain ⟨gl, cl', e1, _, _, _, hlc, _⟩ := (HLV.out.mono HB.out).open 0 (by have := HOL.out; omega)
        simp only [Value.slice.injEq] at e1
        obtain ⟨rfl, -, rfl⟩ := e1
        have hlk := hlc k (by have := HOL.out; omega)
        rw [show O[k]?.getD 0 = p by rw [HPL.out]; rfl] at hlk
        have HLC := Lib.hid hlc
        clear hlc
        have HBW := Lib.hid (HBV.out.mono HB.out)
        have HP2 := Lib.hid (strsAt_any T p _ _ HTLEN.out HBW.out.bs)
        have HP3 := Lib.hid (strsFind_any T s _ mx _ HTLEN.out HBW.out.bs ⟨_, _, _, rfl⟩ ((HWR.out.cell HW0.out).trans HMX.out))
        rw [HATR.out] at HP2
        rw [HFIND.out] at HP3
        have hse : (s == s) = true := by simp
        go_wp2_with fail
        refine HP2.out.mono ?_
        rintro e w3 ⟨rfl, rfl⟩
        go_wp2_with fail
        refine HP3.out.mono ?_
        rintro e w4 ⟨rfl, hb4⟩
        have HB4 := Lib.hid (HB.out.trans (hb4.mono HB.out.size))
        have hd4 := (hb4.cell (block_lt hd1)).trans hd1
        have hl4 := (hb4.cell (block_lt hlk)).trans hlk
        have HBX := Lib.hid hb4
        clear hd1 hlk hb4 HP2 HP3
        go_wp2
        go_loopw [12] (fun jv wr => ∃ j : Nat, jv = .int .i64 j ∧ j ≤ k ∧ Hid (Below w4.heap.size w4 wr)) (fun jv _ => k - (intOf jv).toNat)
        case atStart => exact ⟨0, rfl, Nat.zero_le _, Below.refl _ _⟩
        case round =>
          obtain ⟨j, rfl, hj, HBJ⟩ := hrel
          by_cases hjk : j < k
          · obtain ⟨b2, o2, ha2, hc2⟩ := HC0.out j (by have := HM.out; omega)
            cases ha2
            have hw4 := HB2.out.trans (HB4.out.mono HB2.out.size)
            have hwj := hw4.trans (HBJ.out.mono hw4.size)
            have hdj := (hwj.cell (block_lt hc2)).trans hc2
            have hdk := (HBJ.out.cell (block_lt hd4)).trans hd4
            have hlk := (HBJ.out.cell (block_lt hl4)).trans hl4
            have X2 := Lib.hid (show names[j]? = some (names[j]?.getD []) by rw [List.getElem?_eq_getElem (by have := HM.out; omega)]; rfl)
            obtain ⟨q, hq, hlq, hin2, hmay2⟩ := HAT.out j _ X2.out
            have hlj0 := HLC.out j (by have := HOL.out; omega)
            rw [show O[j]?.getD 0 = q by rw [hq]; rfl] at hlj0
            have HSM := Lib.hid (HSAME.out _ _ _ _ HLK.out hlq HIN.out hin2 HMAY.out hmay2)
            have hqlt := hin2.lt
            have hq2 : q ≤ 1000000000 := by have := HTL.out; omega
            have hlj1 := (HBX.out.cell (block_lt hlj0)).trans hlj0
            have hlj := (HBJ.out.cell (block_lt hlj1)).trans hlj1
            clear hc2 hw4 hwj hq hlq hin2 hmay2 hqlt hlj0 hlj1
            generalize names[j]?.getD [] = t at *
            by_cases hst : s = t
            · have hpq := HSM.out.1 hst
              have hb : (s == t) = true := by simpa using hst
              have hpp : ((p : Int) == (q : Int)) = true := by rw [hpq]; simp
              clear hst hpq
              go_wp2
              go_quiet (fail)
              go_wp2
              go_roundw
              case rel =>
                first
                  | exact ⟨j + 1, by go_num, by omega, HBJ.out.drewN _⟩
                  | ((repeat apply Exists.intro); exact ⟨⟨j + 1, by go_num, by omega, HBJ.out.drewN _⟩, rfl⟩)
              case measure => simp [intOf] <;> omega
            · have hpq : ¬ p = q := fun e => hst (HSM.out.2 e)
              have hb : (s == t) = false := by simpa using hst
              have hpp : ((p : Int) == (q : Int)) = false := by simpa using fun e => hpq (by omega)
              clear hst hpq
              go_wp2
              go_quiet (fail)
              go_wp2
              go_roundw
              case rel =>
                first
                  | exact ⟨j + 1, by go_num, by omega, HBJ.out.drewN _⟩
                  | ((repeat apply Exists.intro); exact ⟨⟨j + 1, by go_num, by omega, HBJ.out.drewN _⟩, rfl⟩)
              case measure => simp [intOf] <;> omega
          · go_wp2
            go_roundw
            case rel => exact ⟨k + 1, by go_num, by omega, by rw [HMN.out]; exact nat_eq rfl, HB4.out.trans (HBJ.out.mono HB4.out.size)⟩
            case measure => simp [intOf] <;> omega
      · have hkm : k = ml := by omega
        subst hkm
        have HBW := Lib.hid (HBV.out.mono HB.out)
        have hml3 : tl ≤ mostN (names.take k) := by
          have h1 := HMOST.out
          have h2 := HTL.out
          rw [List.take_of_length_le (by have := HM.out; omega)]
          omega
        obtain ⟨tb, htb⟩ := HHEAD.out
        have hcell0 : World.cell? wr ⟨gb, 0, none⟩ = some (.int .u8 0) := by
          obtain ⟨g', c', e1, _, _, _, hcc, _⟩ := HBW.out.open (by rw [htb]; simp)
          simp only [Value.slice.injEq, Option.some.injEq, Addr.mk.injEq, and_true] at e1
          obtain ⟨rfl, -, rfl⟩ := e1
          have := hcc 0 (by rw [htb]; simp)
          rw [htb] at this
          simpa using this
        have htl0 : 0 < tl := by have := HTL.out; rw [htb] at this; simp at this; omega
        clear htb
        go_wp2
        go_ret
        exact ⟨rfl, HB2.out.trans (HB.out.mono HB2.out.size)⟩
  · obtain ⟨hr1, hr2⟩ := build_bad hok
    generalize buildR names = r at *
    obtain ⟨r1, r2, r3⟩ := r
    dsimp only at hok hr1 hr2
    subst hr1 hr2
    have h3 : (r3 == (0 : Int)) = false := by simpa using hok
    have h4 : (r3 != (0 : Int)) = true := by simpa using hok
    clear hok
    go_enter Try.func4, Try.ntmps4
    go_wp2_with fail
    refine (begun3_any _).mono ?_
    rintro e w1 ⟨rfl, hb1⟩
    have HB1 := Lib.hid hb1
    clear hb1
    go_wp2_with fail
    refine (HP1.out _ _ (by have := HNV.out.mono HB1.out; exact this)).mono ?_
    rintro e w2 ⟨bv, lv, rfl, hbv, hlv, hb2⟩
    have HB2 := Lib.hid (HB1.out.trans (hb2.mono HB1.out.size))
    obtain ⟨m1, a1, c1, h1, rfl, _, _⟩ := hbv.shape
    obtain ⟨m2, a2, c2, h2, rfl, _, _⟩ := hlv.shape
    obtain rfl : m1 = 0 := h1.out
    obtain rfl : m2 = 0 := h2.out
    clear hb2 hbv hlv h1 h2
    go_wp2
    go_ret
    exact ⟨rfl, HB2.out⟩
end Go.Proofs.Ytgknmmnffgikbaa
