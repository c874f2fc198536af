/-
  Well-formed files: both statements. Within the bound.
-/
import Derived.Test.YtgjoimcgiofinaaWl6
import Derived.Shelf.Vars
namespace Go.Proofs.Ytgjoimcgiofinaa
open Go.RowKit Go.Fd
theorem numLE_set : ∀ (x : List UInt8) (i : Nat) (b c : UInt8), x[i]? = some c → numLE (x.set i b) + c.toNat * 256 ^ i = numLE x + b.toNat * 256 ^ i
  | [], _, _, _, h => by cases h
  | y :: x, 0, b, c, h => by
    have : y = c := by simpa using h
    subst this
    simp [numLE]; omega
  | y :: x, i + 1, b, c, h => by
    have ih := numLE_set x i b c (by simpa using h)
    simp only [List.set_cons_succ, numLE, Nat.pow_succ]
    have h1 : c.toNat * (256 ^ i * 256) = 256 * (c.toNat * 256 ^ i) := by rw [← Nat.mul_assoc, Nat.mul_comm]
    have h2 : b.toNat * (256 ^ i * 256) = 256 * (b.toNat * 256 ^ i) := by rw [← Nat.mul_assoc, Nat.mul_comm]
    omega
theorem numLE_ge : ∀ (x : List UInt8) (i : Nat) (c : UInt8), x[i]? = some c → c.toNat * 256 ^ i ≤ numLE x
  | [], _, _, h => by cases h
  | y :: x, 0, c, h => by
    have : y = c := by simpa using h
    subst this
    simp [numLE]
  | y :: x, i + 1, c, h => by
    have ih := numLE_ge x i c (by simpa using h)
    have h1 : c.toNat * (256 ^ i * 256) = 256 * (c.toNat * 256 ^ i) := by rw [← Nat.mul_assoc, Nat.mul_comm]
    simp only [numLE, Nat.pow_succ]
    omega
theorem numLE_mod (x : List UInt8) (c : UInt8) (h : x[0]? = some c) : numLE x % 256 = c.toNat := by
  cases x with
  | nil => cases h
  | cons y x =>
    have : y = c := by simpa using h
    subst this
    have := y.toNat_lt
    simp only [numLE]
    omega
theorem gN_num {l : List UInt8} {a s : Nat} (hs : Sized s) (h : a + s ≤ l.length) : gN l a s = numLE ((l.drop a).take s) := by
  unfold gN getR
  rw [if_pos hs, if_neg (by omega), if_neg (by omega)]
  simp
theorem gN_set_off {l : List UInt8} {j a s : Nat} {b : UInt8} (hs : Sized s) (hl : a + s ≤ l.length) (h : j < a ∨ a + s ≤ j) : gN (l.set j b) a s = gN l a s := by
  rw [gN_num hs (by rw [List.length_set]; exact hl), gN_num hs hl]
  congr 1
  rcases h with h | h
  · rw [List.drop_set_of_lt h]
  · rw [List.drop_set, if_neg (by omega), List.take_set, List.set_eq_of_length_le (by rw [List.length_take]; omega)]
theorem gN_set_in {l : List UInt8} {j a s : Nat} {b c : UInt8} (hs : Sized s) (hl : a + s ≤ l.length) (h1 : a ≤ j) (h2 : j < a + s) (hc : l[j]? = some c) : gN (l.set j b) a s + c.toNat * 256 ^ (j - a) = gN l a s + b.toNat * 256 ^ (j - a) := by
  rw [gN_num hs (by rw [List.length_set]; exact hl), gN_num hs hl, List.drop_set, if_neg (by omega), List.take_set]
  refine numLE_set _ _ _ _ ?_
  rw [List.getElem?_take, if_pos (by omega), List.getElem?_drop, show a + (j - a) = j by omega]
  exact hc
theorem gN_byte {l : List UInt8} {a s : Nat} {c : UInt8} (hs : Sized s) (h0 : 0 < s) (hl : a + s ≤ l.length) (hc : l[a]? = some c) : gN l a s % 256 = c.toNat := by
  rw [gN_num hs hl]
  refine numLE_mod _ _ ?_
  rw [List.getElem?_take, if_pos h0, List.getElem?_drop]
  exact hc
theorem gN_top {l : List UInt8} {j a s : Nat} {c : UInt8} (hs : Sized s) (hl : a + s ≤ l.length) (h1 : a ≤ j) (h2 : j < a + s) (hc : l[j]? = some c) : c.toNat * 256 ^ (j - a) ≤ gN l a s := by
  rw [gN_num hs hl]
  refine numLE_ge _ _ _ ?_
  rw [List.getElem?_take, if_pos (by omega), List.getElem?_drop, show a + (j - a) = j by omega]
  exact hc
def brkAt : Nat → Nat
  | 0 => 0 | 1 => 16 | 2 => 20 | 3 => 52 | 4 => 58 | 5 => 47 | _ => 62
def brkCode : Nat → Int
  | 0 => 1 | 1 => 2 | 2 => 2 | 3 => 2 | 4 => 2 | 5 => 3 | _ => 3
/-- A byte with its greatest bit turned. -/
def brk (l : List UInt8) (j c : Nat) : List UInt8 := l.set j (UInt8.ofNat (c + 128))
theorem u8_128 {c : Nat} (h : c < 128) : (UInt8.ofNat (c + 128)).toNat = c + 128 := by rw [UInt8.toNat_ofNat']; omega
theorem brk_ok {e : ElfM} (hm : mayE e = true) (hg : e.segs = []) (ht : e.typ = 1) (hs : e.secs.length ≤ 40) {n : Nat} (hn : n < 7) :
    ∃ c, c < 128 ∧ (fileB e)[brkAt n]? = some (UInt8.ofNat c) ∧ headF (brk (fileB e) (brkAt n) c) = [⟨brkCode n, 0, 0⟩] ∧ Lookable (brk (fileB e) (brkAt n) c) := by
  have h := mayK hm
  have N := head_num h
  have hle := h.len
  have hlen : (fileB e).length ≤ 4194304 := by rw [N.len]; exact hle
  have h64 : 128 ≤ (fileB e).length := by rw [N.len]; omega
  have hfg := front_ge h
  have N1 := N.typ; have N2 := N.one; have N3 := N.hsize; have N4 := N.ng; have N5 := N.ssize; have N6 := N.ns; have N7 := N.own; have N8 := N.heads; have N9 := N.magic
  have N10 := N.len
  have N11 := N.front
  rw [ht] at N1
  rw [hg] at N4
  rw [show segsB e = false by unfold segsB; rw [hg]; rfl] at N11
  simp only [Bool.false_eq_true, if_false] at N11
  generalize headsOf e (tabOf e).length = hd at *
  generalize e.secs.length = sl at *
  generalize fileB e = l at *
  clear N hm hg ht h
  have got : ∀ j, j < l.length → ∃ c : Nat, c < 256 ∧ l[j]? = some (UInt8.ofNat c) ∧ (UInt8.ofNat c).toNat = c := fun j hj => ⟨l[j].toNat, l[j].toNat_lt, by rw [List.getElem?_eq_getElem hj]; simp, by simp⟩
  have s2 : Sized ((2 : Nat) : Int) := sz2
  have s4 : Sized ((4 : Nat) : Int) := sz4
  have s8 : Sized ((8 : Nat) : Int) := sz8
  have key : ∀ (j c : Nat) (T1 T2 T3 T5 T7 T8 : Nat) (code : Int), c < 128 → l[j]? = some (UInt8.ofNat c) → 7 ≤ j → (j < 56 ∨ 58 ≤ j) → (j < 60 ∨ 62 ≤ j) → (j < 32 ∨ 40 ≤ j) →
      gN (brk l j c) 16 2 = T1 → gN (brk l j c) 20 4 = T2 → gN (brk l j c) 52 2 = T3 → gN (brk l j c) 58 2 = T5 → gN (brk l j c) 62 2 = T7 → gN (brk l j c) 40 8 = T8 →
      (T1 = 129 ∧ T8 = hd ∧ T7 = sl + 1 ∧ T2 = 1 ∧ T3 = 64 ∧ T5 = 64 ∧ code = 2 ∨ T1 = 1 ∧ (T2 = 129 ∧ T3 = 64 ∧ T5 = 64 ∧ T8 = hd ∧ T7 = sl + 1 ∧ code = 2 ∨ T2 = 1 ∧ (T3 = 192 ∧ T5 = 64 ∧ T8 = hd ∧ T7 = sl + 1 ∧ code = 2 ∨ T3 = 64 ∧ (T5 = 192 ∧ T8 = hd ∧ T7 = sl + 1 ∧ code = 2 ∨ T5 = 64 ∧ code = 3 ∧ (l.length < T8 ∨ sl + 2 ≤ T7))))) →
      headF (brk l j c) = [⟨code, 0, 0⟩] ∧ Lookable (brk l j c) := by
    intro j c T1 T2 T3 T5 T7 T8 code hc hj h7 h56 h60 h32 e1 e2 e3 e5 e7 e8 hw
    have hlb : (brk l j c).length = l.length := by unfold brk; rw [List.length_set]
    have e4 : gN (brk l j c) 56 2 = 0 := by unfold brk; rw [gN_set_off s2 (by omega) (by omega)]; exact N4
    have e6 : gN (brk l j c) 60 2 = sl + 2 := by unfold brk; rw [gN_set_off s2 (by omega) (by omega)]; exact N6
    have e9 : gN (brk l j c) 32 8 = 0 := by unfold brk; rw [gN_set_off s8 (by omega) (by omega)]; exact N11
    have em : (brk l j c).take 7 = [127, 69, 76, 70, 2, 1, 1] := by unfold brk; rw [List.take_set, List.set_eq_of_length_le (by rw [List.length_take]; omega)]; exact N9
    have b1 : bad1 (brk l j c) = false := by unfold bad1; rw [em, hlb]; simp; omega
    have hh : headF (brk l j c) = [⟨code, 0, 0⟩] := by
      unfold headF
      rw [if_neg (by simp [b1])]
      unfold bad2 bad3 withinB
      rw [e1, e2, e3, e4, e5, e6, e7, e8, e9, hlb]
      rcases hw with ⟨rfl, rfl, rfl, rfl, rfl, rfl, rfl⟩ | ⟨rfl, ⟨rfl, rfl, rfl, rfl, rfl, rfl⟩ | ⟨rfl, ⟨rfl, rfl, rfl, rfl, rfl⟩ | ⟨rfl, ⟨rfl, rfl, rfl, rfl⟩ | ⟨rfl, rfl, hz⟩⟩⟩⟩
      iterate 4
        · rw [fl_yes (by simp), fl_no (by simp; omega)]; rfl
      · rw [fl_no (by simp), fl_yes (by simp; omega)]; rfl
    refine ⟨hh, ⟨by rw [hlb]; omega, .inr ⟨b1, ?_, by rw [e9, e4]; unfold withinB; simp⟩, fun hz => by rw [hh] at hz; cases hz⟩⟩
    unfold HdrWay
    rw [e1, e2, e3, e4, e5]
    rcases hw with ⟨rfl, rfl, rfl, rfl, rfl, rfl, rfl⟩ | ⟨rfl, ⟨rfl, rfl, rfl, rfl, rfl, rfl⟩ | ⟨rfl, ⟨rfl, rfl, rfl, rfl, rfl⟩ | ⟨rfl, ⟨rfl, rfl, rfl, rfl⟩ | ⟨rfl, rfl, hz⟩⟩⟩⟩ <;> simp
  have off : ∀ {j c a s : Nat}, Sized (s : Int) → a + s ≤ l.length → (j < a ∨ a + s ≤ j) → gN (brk l j c) a s = gN l a s := fun hs hl hj => gN_set_off hs hl hj
  have ins : ∀ {j c a s : Nat}, c < 128 → l[j]? = some (UInt8.ofNat c) → Sized (s : Int) → a + s ≤ l.length → a ≤ j → j < a + s → gN (brk l j c) a s = gN l a s + 128 * 256 ^ (j - a) := by
    intro j c a s hc hj hs hl h1 h2
    have := gN_set_in (b := UInt8.ofNat (c + 128)) hs hl h1 h2 hj
    rw [u8_128 hc, show (UInt8.ofNat c).toNat = c by rw [UInt8.toNat_ofNat']; omega, Nat.add_mul] at this
    show gN (l.set j _) a s = _
    generalize 256 ^ (j - a) = P at *
    generalize c * P = Q at *
    omega
  rcases (by omega : n = 0 ∨ n = 1 ∨ n = 2 ∨ n = 3 ∨ n = 4 ∨ n = 5 ∨ n = 6) with rfl | rfl | rfl | rfl | rfl | rfl | rfl
  · have h0 : l[0]? = some (UInt8.ofNat 127) := by
      have := congrArg (·[0]?) N9
      simpa [List.getElem?_take] using this
    have hlb : (brk l 0 127).length = l.length := by unfold brk; rw [List.length_set]
    have b1 : bad1 (brk l 0 127) = true := by
      unfold bad1 brk
      rw [List.take_set, N9]
      simp
    have hh : headF (brk l 0 127) = [⟨1, 0, 0⟩] := by unfold headF; rw [if_pos b1]
    exact ⟨127, by omega, h0, hh, ⟨by show (brk l 0 127).length ≤ _; rw [hlb]; omega, .inl b1, fun hz => by
      have hz' : headF (brk l 0 127) = [] := hz
      rw [hh] at hz'; cases hz'⟩⟩
  · obtain ⟨c, hc, hj, hcc⟩ := got 16 (by omega)
    have hb := gN_byte s2 (by omega) (show 16 + 2 ≤ l.length by omega) hj
    rw [hcc, N1] at hb
    have hc2 : c < 128 := by omega
    have ei := ins hc2 hj s2 (show 16 + 2 ≤ l.length by omega) (by omega) (by omega)
    have hi : 16 - 16 = 0 := rfl
    rw [N1] at ei
    exact ⟨c, hc2, hj, key 16 c _ _ _ _ _ _ 2 hc2 hj (by omega) (by omega) (by omega) (by omega) ei ((off s4 (by omega) (by omega)).trans N2) ((off s2 (by omega) (by omega)).trans N3) ((off s2 (by omega) (by omega)).trans N5) ((off s2 (by omega) (by omega)).trans N7) ((off s8 (by omega) (by omega)).trans N8) (by omega)⟩
  · obtain ⟨c, hc, hj, hcc⟩ := got 20 (by omega)
    have hb := gN_byte s4 (by omega) (show 20 + 4 ≤ l.length by omega) hj
    rw [hcc, N2] at hb
    have hc2 : c < 128 := by omega
    have ei := ins hc2 hj s4 (show 20 + 4 ≤ l.length by omega) (by omega) (by omega)
    rw [N2] at ei
    exact ⟨c, hc2, hj, key 20 c _ _ _ _ _ _ 2 hc2 hj (by omega) (by omega) (by omega) (by omega) ((off s2 (by omega) (by omega)).trans N1) ei ((off s2 (by omega) (by omega)).trans N3) ((off s2 (by omega) (by omega)).trans N5) ((off s2 (by omega) (by omega)).trans N7) ((off s8 (by omega) (by omega)).trans N8) (by omega)⟩
  · obtain ⟨c, hc, hj, hcc⟩ := got 52 (by omega)
    have hb := gN_byte s2 (by omega) (show 52 + 2 ≤ l.length by omega) hj
    rw [hcc, N3] at hb
    have hc2 : c < 128 := by omega
    have ei := ins hc2 hj s2 (show 52 + 2 ≤ l.length by omega) (by omega) (by omega)
    rw [N3] at ei
    exact ⟨c, hc2, hj, key 52 c _ _ _ _ _ _ 2 hc2 hj (by omega) (by omega) (by omega) (by omega) ((off s2 (by omega) (by omega)).trans N1) ((off s4 (by omega) (by omega)).trans N2) ei ((off s2 (by omega) (by omega)).trans N5) ((off s2 (by omega) (by omega)).trans N7) ((off s8 (by omega) (by omega)).trans N8) (by omega)⟩
  · obtain ⟨c, hc, hj, hcc⟩ := got 58 (by omega)
    have hb := gN_byte s2 (by omega) (show 58 + 2 ≤ l.length by omega) hj
    rw [hcc, N5] at hb
    have hc2 : c < 128 := by omega
    have ei := ins hc2 hj s2 (show 58 + 2 ≤ l.length by omega) (by omega) (by omega)
    rw [N5] at ei
    exact ⟨c, hc2, hj, key 58 c _ _ _ _ _ _ 2 hc2 hj (by omega) (by omega) (by omega) (by omega) ((off s2 (by omega) (by omega)).trans N1) ((off s4 (by omega) (by omega)).trans N2) ((off s2 (by omega) (by omega)).trans N3) ei ((off s2 (by omega) (by omega)).trans N7) ((off s8 (by omega) (by omega)).trans N8) (by omega)⟩
  · obtain ⟨c, hc, hj, hcc⟩ := got 47 (by omega)
    have hb := gN_top s8 (show 40 + 8 ≤ l.length by omega) (show 40 ≤ 47 by omega) (by omega) hj
    rw [hcc, N8] at hb
    have hc2 : c < 128 := by have h7 : 256 ^ (47 - 40) = 72057594037927936 := rfl; rw [h7] at hb; omega
    have ei := ins hc2 hj s8 (show 40 + 8 ≤ l.length by omega) (by omega) (by omega)
    rw [N8] at ei
    have h7 : 256 ^ (47 - 40) = 72057594037927936 := rfl
    rw [h7] at ei
    exact ⟨c, hc2, hj, key 47 c _ _ _ _ _ _ 3 hc2 hj (by omega) (by omega) (by omega) (by omega) ((off s2 (by omega) (by omega)).trans N1) ((off s4 (by omega) (by omega)).trans N2) ((off s2 (by omega) (by omega)).trans N3) ((off s2 (by omega) (by omega)).trans N5) ((off s2 (by omega) (by omega)).trans N7) ei (by omega)⟩
  · obtain ⟨c, hc, hj, hcc⟩ := got 62 (by omega)
    have hb := gN_byte s2 (by omega) (show 62 + 2 ≤ l.length by omega) hj
    rw [hcc, N7] at hb
    have hc2 : c < 128 := by omega
    have ei := ins hc2 hj s2 (show 62 + 2 ≤ l.length by omega) (by omega) (by omega)
    rw [N7] at ei
    exact ⟨c, hc2, hj, key 62 c _ _ _ _ _ _ 3 hc2 hj (by omega) (by omega) (by omega) (by omega) ((off s2 (by omega) (by omega)).trans N1) ((off s4 (by omega) (by omega)).trans N2) ((off s2 (by omega) (by omega)).trans N3) ((off s2 (by omega) (by omega)).trans N5) ei ((off s8 (by omega) (by omega)).trans N8) (by omega)⟩
end Go.Proofs.Ytgjoimcgiofinaa
namespace Go.Proofs.Ytgjoimcgiofinaa
open Go.RowKit Go.Fd
theorem snd_broken {l : List UInt8} {x : FlM} (hh : headF l = [x]) {r : Ending} (h : SndRes l r) : r = .returned (.bool false) := by
  obtain ⟨F, h1, h2⟩ := h
  have : F = [x] := by rw [← hh]; exact h2.1 (by rw [hh]; simp)
  rw [this] at h1
  exact h1
theorem checked_broken {l : List UInt8} {x : FlM} (hh : headF l = [x]) {F : List FlM} (h : Checked l F) : F = [x] := by
  rw [← hh]; exact h.1 (by rw [hh]; simp)
theorem wpList_ats {ops : Array Oper} {rest : List Oper} {Q : Exit → Act → World → Prop} {a : Act} {w : World} {d : Option Tmp} {ty : TypeId} {pos : String} {aft : Array Edge}
    (h : ∀ w1, w1.heap[w.heap.size]? = some (.cells #[.int .i64 0, .int .i64 16, .int .i64 20, .int .i64 52, .int .i64 58, .int .i64 47, .int .i64 62] 3 (0, 0)) → Below w.heap.size w w1 → wpList Try.prog ops Q rest (a.put d (.slice (some ⟨w.heap.size, 0, none⟩) 7 7)) w1) :
    wpList Try.prog ops Q (⟨d, .buildSlice 26 7 #[(0, .const (.int .i64 0)), (1, .const (.int .i64 16)), (2, .const (.int .i64 20)), (3, .const (.int .i64 52)), (4, .const (.int .i64 58)), (5, .const (.int .i64 47)), (6, .const (.int .i64 62))], ty, pos, aft, none⟩ :: rest) a w :=
  wpList_val rfl (by kernel_rfl) (h (w.alloc (.cells #[.int .i64 0, .int .i64 16, .int .i64 20, .int .i64 52, .int .i64 58, .int .i64 47, .int .i64 62] 3)) (heap_alloc_last w _) (below_alloc w _))
theorem wpList_codes {ops : Array Oper} {rest : List Oper} {Q : Exit → Act → World → Prop} {a : Act} {w : World} {d : Option Tmp} {ty : TypeId} {pos : String} {aft : Array Edge}
    (h : ∀ w1, w1.heap[w.heap.size]? = some (.cells #[.int .i64 1, .int .i64 2, .int .i64 2, .int .i64 2, .int .i64 2, .int .i64 3, .int .i64 3] 3 (0, 0)) → Below w.heap.size w w1 → wpList Try.prog ops Q rest (a.put d (.slice (some ⟨w.heap.size, 0, none⟩) 7 7)) w1) :
    wpList Try.prog ops Q (⟨d, .buildSlice 26 7 #[(0, .const (.int .i64 1)), (1, .const (.int .i64 2)), (2, .const (.int .i64 2)), (3, .const (.int .i64 2)), (4, .const (.int .i64 2)), (5, .const (.int .i64 3)), (6, .const (.int .i64 3))], ty, pos, aft, none⟩ :: rest) a w :=
  wpList_val rfl (by kernel_rfl) (h (w.alloc (.cells #[.int .i64 1, .int .i64 2, .int .i64 2, .int .i64 2, .int .i64 2, .int .i64 3, .int .i64 3] 3)) (heap_alloc_last w _) (below_alloc w _))
theorem xor_128 {c : Nat} (h : c < 128) : bits .xor .u8 (c : Int) 128 = (c : Int) + 128 := by
  have : ∀ c : Fin 128, bits .xor .u8 ((c.val : Nat) : Int) 128 = ((c.val + 128 : Nat) : Int) := by decide +kernel
  exact this ⟨c, h⟩
theorem brk_map {l : List UInt8} {j c : Nat} (h : c < 128) : (l.map B).set j (.int .u8 ((c : Int) + 128)) = (brk l j c).map B := by
  unfold brk
  rw [List.map_set]
  congr 1
  show _ = Value.int .u8 _
  rw [u8_128 h]
  rfl
theorem eql_fl1 (p q : Operand) (w : World) : (do eqGuard .eql 67 p q (.agg #[.int .i64 1, .int .i64 0, .int .i64 0]) (.agg #[.int .i64 1, .int .i64 0, .int .i64 0]); binOp .eql 67 (.agg #[.int .i64 1, .int .i64 0, .int .i64 0]) (.agg #[.int .i64 1, .int .i64 0, .int .i64 0]) : Sem Value).run Try.prog w = .ok (.bool true) w := by kernel_rfl
theorem eql_fl2 (p q : Operand) (w : World) : (do eqGuard .eql 67 p q (.agg #[.int .i64 2, .int .i64 0, .int .i64 0]) (.agg #[.int .i64 2, .int .i64 0, .int .i64 0]); binOp .eql 67 (.agg #[.int .i64 2, .int .i64 0, .int .i64 0]) (.agg #[.int .i64 2, .int .i64 0, .int .i64 0]) : Sem Value).run Try.prog w = .ok (.bool true) w := by kernel_rfl
theorem eql_fl3 (p q : Operand) (w : World) : (do eqGuard .eql 67 p q (.agg #[.int .i64 3, .int .i64 0, .int .i64 0]) (.agg #[.int .i64 3, .int .i64 0, .int .i64 0]); binOp .eql 67 (.agg #[.int .i64 3, .int .i64 0, .int .i64 0]) (.agg #[.int .i64 3, .int .i64 0, .int .i64 0]) : Sem Value).run Try.prog w = .ok (.bool true) w := by kernel_rfl
attribute [local irreducible] walk
set_option maxHeartbeats 8000000 in
set_option maxRecDepth 100000 in
theorem wellBroken_any (e : ElfM) (kk : Int) (L : List (SecM × Value)) (sv gv : Value) (w : World) (h : ElfAt w e L sv gv) (ho : ElfOk e) (hdl : dsum e.secs ≤ 1000000000) (hkk : -9223372036854775808 ≤ kk ∧ kk < 9223372036854775808) :
    Calls Try.prog 9 #[elfV e sv gv, .int .i64 kk] w fun r w' => r = .returned (.bool true) ∧ Below w.heap.size w w' := by
  have HA := Lib.hid h
  have HO := Lib.hid ho
  have HOZ := Lib.hid (zero_ok ho)
  obtain ⟨sm, a, ca, hsm, rfl, _, _⟩ := h.rd.shape
  obtain ⟨gm, ga, gc, -, rfl, _, _⟩ := h.segs.shape
  have HSL := Lib.hid hsm.out
  have HLE := Lib.hid (fun w' (hb : Below w.heap.size w w') => light_any e L _ _ w' (h.mono hb) ho)
  have HCP := Lib.hid (fun w' (hb : Below w.heap.size w w') => copy_any e L _ _ w' (h.mono hb) ho hdl)
  have HES := Lib.hid h.secs
  clear h ho hdl hsm
  generalize lightB e = le at *
  go_enter Try.func9, Try.ntmps9
  go_wp2_with ((with_reducible show wpList _ _ _ (⟨some 2, .box _ _, _, _, _, _⟩ :: _) _ _); go_must (refine wpList_box rfl ?_; intro w1 hx1 hb1 hs1; have HX1 := Lib.hid hx1; have HB1 := Lib.hid hb1; clear hx1 hb1))
  refine (begun6_any _).mono ?_
  rintro r w2 ⟨rfl, hb2⟩
  have HX2 := Lib.hid (heap_below hb2 HX1.out)
  have HB2 := Lib.hid (HB1.out.trans (hb2.mono HB1.out.size))
  clear hb2
  obtain ⟨c0, c1, c2, c3, c4, c5⟩ := elf_box HX2.out
  go_wp2_with fail
  refine (HLE.out _ HB2.out).mono ?_
  rintro r w3 ⟨rfl, hb3⟩
  have HX3 := Lib.hid (heap_below hb3 HX2.out)
  have HB3 := Lib.hid (HB2.out.trans (hb3.mono HB2.out.size))
  clear hb3 c0 c1 c2 c3 c4 c5
  cases le with
  | false =>
    go_wp2
    go_ret
    exact ⟨rfl, HB3.out⟩
  | true =>
    obtain ⟨c0, c1, c2, c3, c4, c5⟩ := elf_box HX3.out
    by_cases hbig : 40 < sm
    · go_wp2
      go_ret
      exact ⟨rfl, HB3.out⟩
    have hsm40 : sm ≤ 40 := by omega
    have d40 : decide ((40 : Int) < (sm : Int)) = false := decide_eq_false (by omega)
    clear hbig
    by_cases hneg : kk < 0
    · go_wp2
      go_ret
      exact ⟨rfl, HB3.out⟩
    have dneg : decide (kk < 0) = false := decide_eq_false hneg
    have HS40 := Lib.hid (show e.secs.length ≤ 40 by have h1 := HSL.out; rw [HES.out, List.length_map]; omega)
    have hk0 : 0 ≤ kk := by omega
    clear hneg
    go_wp2_with fail
    clear d40 dneg
    refine (HCP.out _ HB3.out).mono ?_
    rintro r w6 ⟨L', sv', gv', rfl, hsame, hso, htw, hgo, hb6⟩
    have HSO6 := Lib.hid hso
    have HTW6 := Lib.hid htw
    have HSAME := Lib.hid (show e.secs = L'.map (·.1) by rw [hsame]; exact HA.out.secs)
    obtain ⟨sm', sa', sc', hsm', rfl, _, _⟩ := hso.shape
    obtain ⟨gm', ga', gc', -, rfl, _, _⟩ := hgo.shape
    have HB56 := Lib.hid hb6
    have HSM' := Lib.hid hsm'.out
    have hsm9 : sm' ≤ 1000000000 := by have h1 := HO.out.secs; have h2 := congrArg List.length HSAME.out; rw [List.length_map] at h2; have h3 := HSM'.out; omega
    clear hb6 hsame hso htw hgo hsm' c0 c1 c2 c3 c4 c5
    go_wp2_with (first
      | ((with_reducible show wpList _ _ _ (⟨some 5, .alloc _, _, _, _, _⟩ :: _) _ _); go_must (refine wpList_allocElf ?_; intro w7 hx7 hb7 hs7; have HY7 := Lib.hid hx7; have HB67 := Lib.hid hb7; clear hx7 hb7))
      | ((with_reducible show wpList _ _ _ (⟨none, .store _ (.tmp 5) _, _, _, _, _⟩ :: _) _ _); go_must (refine wpList_storeElf HY7.out rfl rfl rfl rfl (by simp [Value.oneCell']) (Nat.le_refl _) (Nat.le_of_lt hs7) ?_; intro w8 hh8 hb8; have HY8 := Lib.hid (show w8.heap[w6.heap.size]? = some (.cells #[.int .i64 e.typ, .int .i64 e.target, .int .u32 (e.flags : Int), .int .u64 (e.entry : Int), .slice sa' sm' sc', .slice ga' gm' gc'] 61 (0, 0)) from hh8); have HB68 := Lib.hid (HB67.out.trans hb8); have HS8 := Lib.hid hb8.size; clear hh8 hb8))
      | ((with_reducible show wpList _ _ _ (⟨none, .store _ (.tmp 30) _, _, _, _, _⟩ :: _) _ _); go_must (refine wpList_setI HY8.out (show 0 < 6 by decide) rfl rfl (fun w => by kernel_rfl) ?_; intro w9 hh hs; have hb := hs.below (B := w6.heap.size) (by have h1 := HS8.out; have h2 := HS8.out; omega) (fun j hj => by rw [hj]; exact Nat.le_refl _); have HY9 := Lib.hid hh; have HB69 := Lib.hid (HB68.out.trans hb); have HS9 := Lib.hid hb.size; clear hh hb hs))
      | ((with_reducible show wpList _ _ _ (⟨none, .store _ (.tmp 31) _, _, _, _, _⟩ :: _) _ _); go_must (refine wpList_set HY9.out (show 5 < 6 by decide) rfl rfl (Nat.le_refl _) (by have h1 := HS8.out; have h2 := HS9.out; omega) (fun w => by kernel_rfl) ?_; intro wa hh hb hs; have HYA := Lib.hid (show wa.heap[w6.heap.size]? = some (.cells #[.int .i64 1, .int .i64 e.target, .int .u32 (e.flags : Int), .int .u64 (e.entry : Int), .slice sa' sm' sc', .slice none 0 0] 61 (0, 0)) from hh); have HB6A := Lib.hid (HB69.out.trans hb); clear hh hb hs)))
    have HZ0 : Hid (ZInv w3 wa w3.heap.size w6.heap.size 0 #[.int .i64 1, .int .i64 e.target, .int .u32 (e.flags : Int), .int .u64 (e.entry : Int), .slice sa' sm' sc', .slice none 0 0] L' (.slice sa' sm' sc')) := Lib.hid ⟨HYA.out, by rw [zs_zero]; exact HSO6.out.mono HB6A.out, fun p hp => (HTW6.out p hp).mono HB6A.out, HB56.out.trans (HB6A.out.mono HB56.out.size), Nat.le_refl _, Nat.le_trans HB56.out.size HB6A.out.size⟩
    clear HSO6 HTW6 HY7 HY8 HY9 HYA
    go_loopw [6] (fun i wr => ∃ (k : Nat), i = .int .i64 k ∧ k ≤ sm' ∧ Hid (ZInv w3 wr w3.heap.size w6.heap.size k #[.int .i64 1, .int .i64 e.target, .int .u32 (e.flags : Int), .int .u64 (e.entry : Int), .slice sa' sm' sc', .slice none 0 0] L' (.slice sa' sm' sc'))) (fun i _ => sm' - (intOf i).toNat)
    case atStart => exact ⟨0, rfl, Nat.zero_le _, HZ0⟩
    case round =>
      skip
      obtain ⟨k, rfl, hk, HZ⟩ := hrel
      have c0 := cell_rec HZ.out.blk 0
      have c1 := cell_rec HZ.out.blk 1
      have c2 := cell_rec HZ.out.blk 2
      have c3 := cell_rec HZ.out.blk 3
      have c4 := cell_rec HZ.out.blk 4
      have c5 := cell_rec HZ.out.blk 5
      simp only [List.getElem?_toArray, List.getElem?_cons_zero, List.getElem?_cons_succ] at c0 c1 c2 c3 c4 c5
      by_cases hlt : k < sm'
      · have X1 := Lib.hid (show L'[k]? = some (L'[k]'(by have := HSM'.out; omega)) from List.getElem?_eq_getElem _)
        generalize L'[k]'(by have := HSM'.out; omega) = x at *
        obtain ⟨s, dv⟩ := x
        obtain ⟨g0, cap0, hq⟩ := own_form HZ.out.so (by rw [zs_len]; have := HSM'.out; omega)
        have hq1 : sa' = some ⟨g0, 0, none⟩ := by injection hq
        subst hq1
        have HOW : Hid (wr.ownsRow w3.heap.size 69 10 (.slice (some ⟨g0, 0, none⟩) sm' sc') sm' ((zs L' k).flatMap encSec)) := Lib.hid (by have := HZ.out.so; unfold OwR at this; rw [zs_len, ← HSM'.out] at this; exact this)
        clear hq
        go_wp2_with ((with_reducible show wpList _ _ _ (⟨none, .store _ (.tmp 43) _, _, _, _, _⟩ :: _) _ _); go_must (refine wpList_setRowI HOW.out (j := k * 10 + 3) (by omega) rfl rfl HZ.out.hbw (fun w => by kernel_rfl) ?_; intro wn hown hbn hsn; have HZN := Lib.hid (HZ.out.next X1.out HSM'.out hown hsn); clear hown hbn hsn c0 c1 c2 c3 c4 c5))
        go_round
        case rel => exact ⟨k + 1, by go_num, by omega, HZN⟩
        case measure => simp [intOf] <;> omega
      · obtain rfl : k = sm' := by omega
        have HAT : Hid (ElfAt wr (zeroE e) (zs L' L'.length) (.slice sa' k sc') (.slice none 0 0)) := Lib.hid (ZInv.at (by have := HZ.out; rw [HSM'.out] at this ⊢; exact this) HSAME.out)
        have HBR := Lib.hid (HB3.out.trans (HZ.out.below.mono HB3.out.size))
        have HWZ := Lib.hid (writeE_any (zeroE e) _ _ _ wr HAT.out HOZ.out)
        clear hsm40
        go_wp2_with fail
        refine HWZ.out.mono ?_
        rintro r wx ⟨vx, rfl, hvx, hbx⟩
        have HBX := Lib.hid (HBR.out.trans (hbx.mono HBR.out.size))
        have hbx9 := Lib.hid hbx.size
        clear hbx c0 c1 c2 c3 c4 c5
        cases hmz : mayE (zeroE e) with
        | false =>
          rw [fileW_no hmz] at hvx ⊢
          obtain ⟨mx, ax, qx, -, rfl, _, _⟩ := hvx.shape
          clear hvx hmz
          go_wp2
          go_ret
          exact ⟨rfl, HBX.out⟩
        | true =>
          rw [fileW_ok hmz] at hvx ⊢
          have HBK := Lib.hid (fun (n : Nat) (hn : n < 7) => brk_ok hmz rfl rfl (by show (e.secs.map zeroS).length ≤ 40; rw [List.length_map]; exact HS40.out) hn)
          have HLB := Lib.hid (show (fileB (zeroE e)).length ≤ 1000000000 by have h1 := fileB_len (mayK hmz); have h2 := (mayK hmz).len; omega)
          have HLB2 := Lib.hid (show 128 ≤ (fileB (zeroE e)).length by have h1 := fileB_len (mayK hmz); omega)
          generalize fileB (zeroE e) = fb at *
          obtain ⟨g, cap, hfv⟩ := own_form hvx (by show 0 < fb.length; have := HLB2.out; omega)
          subst hfv
          have HOV := Lib.hid hvx
          obtain ⟨mx, hmx⟩ : ∃ mx, mx = fb.length := ⟨_, rfl⟩
          have HMX := Lib.hid hmx
          have hmx1 : 128 ≤ mx := by have h1 := HLB2.out; have h2 := HMX.out; omega
          have hmx2 : mx ≤ 1000000000 := by have h1 := HLB.out; have h2 := HMX.out; omega
          have HOW0 : Hid (wx.ownsRow wr.heap.size 5 1 (.slice (some ⟨g, 0, none⟩) mx cap) mx (fb.map B)) := Lib.hid (by rw [hmx]; exact hvx)
          rw [← hmx]
          clear hvx hmz hmx
          have hr0 : 0 ≤ kk % 7 ∧ kk % 7 < 7 := ⟨Int.emod_nonneg _ (by decide), Int.emod_lt_of_pos _ (by decide)⟩
          have HTM := Lib.hid (show kk.tmod 7 = kk % 7 from Int.tmod_eq_emod_of_nonneg hk0)
          rcases (by omega : kk % 7 = 0 ∨ kk % 7 = 1 ∨ kk % 7 = 2 ∨ kk % 7 = 3 ∨ kk % 7 = 4 ∨ kk % 7 = 5 ∨ kk % 7 = 6) with hr | hr | hr | hr | hr | hr | hr
          · obtain ⟨c, hc, hcj, hhd, hlk⟩ := HBK.out 0 (by decide)
            simp only [brkAt, brkCode] at hcj hhd hlk
            have HCJ := Lib.hid hcj
            have HHD := Lib.hid hhd
            have HLK := Lib.hid hlk
            have hr2 : kk.tmod 7 = 0 := by rw [HTM.out, hr]
            have HR := Lib.hid hr0
            clear hcj hhd hlk hr0 hk0
            have hcl : wx.cell? ⟨g, 0, none⟩ = some (.int .u8 (c : Int)) := by
              have h1 := World.ownsRow.cellAt HOW0.out 0 (by omega)
              rw [h1, List.getElem?_map, HCJ.out]
              show some (Value.int .u8 _) = _
              rw [show (UInt8.ofNat c).toNat = c by rw [UInt8.toNat_ofNat']; omega]
            have HCL := Lib.hid hcl
            have hxr := xor_128 hc
            clear hcl
            go_wp2_with (first
              | ((with_reducible show wpList _ _ _ (⟨some 51, _, _, _, _, _⟩ :: _) _ _); go_must (refine wpList_ats ?_; intro wp hxp hbp; have HXP := Lib.hid hxp; have HBP := Lib.hid hbp; clear hxp hbp))
              | ((with_reducible show wpList _ _ _ (⟨some 52, _, _, _, _, _⟩ :: _) _ _); go_must (refine wpList_codes ?_; intro wq hxq hbq; have HXQ := Lib.hid hxq; have HXPQ := Lib.hid (heap_below hbq HXP.out); have HBQ := Lib.hid (HBP.out.trans (hbq.mono HBP.out.size)); clear hxq hbq)))
            clear hr hr2
            have p1 : wq.cell? ⟨wx.heap.size, 0, none⟩ = some (.int .i64 0) := cell_rec HXPQ.out 0
            have p2 : wq.cell? ⟨g, 0, none⟩ = some (.int .u8 (c : Int)) := (HBQ.out.cell (p := ⟨g, 0, none⟩) (block_lt HCL.out)).trans HCL.out
            have HOWQ := Lib.hid (owns_mono HOW0.out HBQ.out)
            have hAB := fun (x : Above wq) (b k : Nat) (h : b < wq.heap.size) => Above.cell x b k h
            have l1 := block_lt p1
            have l2 := block_lt p2
            refine wp_region_walk 14 [] (by kernel_rfl) (by kernel_rfl) ?_
            simp only [List.take_succ_cons, List.take_zero, List.drop_succ_cons, List.drop_zero]
            try go_frame
            repeat (first
              | (refine walk_quiet rfl rfl rfl ?_; intro K hK; go_big_quiet_op; go_big_quiet_on)
              | (refine walk_skip rfl ?_; go_frame)
              | (refine walk_check rfl rfl rfl ?_; go_frame))
            refine walk_nil ?_
            intro wy hby hF
            have HOWY := Lib.hid (owns_mono HOWQ.out hby)
            have HXQY := Lib.hid (heap_below hby HXQ.out)
            have HBY := Lib.hid (HBX.out.trans ((HBQ.out.trans (hby.mono HBQ.out.size)).mono HBX.out.size))
            have HBSY := Lib.hid (Nat.le_trans hbx9.out (Nat.le_trans HBQ.out.size hby.size))
            have HBEY := Lib.hid (Nat.le_trans HBQ.out.size hby.size)
            clear hF hby hAB l1 l2 p1 p2 hxr
            refine wpList_setRowI HOWY.out (j := 0) (by omega) rfl rfl HBSY.out (fun w => by kernel_rfl) ?_
            intro wn hown hbn hsn
            rw [brk_map hc] at hown
            have HOB : Hid (OB wn wr.heap.size (.slice (some ⟨g, 0, none⟩) mx cap) (brk fb 0 c)) := Lib.hid (by unfold OB; rw [show (brk fb 0 c).length = mx by unfold brk; rw [List.length_set]; exact HMX.out.symm]; exact hown)
            have HXQN := Lib.hid (hsn.kept HXQY.out (fun hS => by obtain ⟨cs, fz, h1⟩ := own_kind HOWY.out g rfl; rw [← hS, HXQY.out] at h1; cases h1))
            have HBN := Lib.hid (HBY.out.trans (hsn.below HBY.out.size (fun j hj => by rw [hj]; exact Nat.le_trans HBR.out.size (World.ownsRow.lt HOWY.out g rfl).1)))
            clear hown hbn hsn
            go_wp2_with fail
            refine (wCheck_any (brk fb 0 c) _ wn HLK.out HOB.out.bs).mono ?_
            rintro r wo ⟨⟨fv, F, rfl, hof, hck⟩, hbo⟩
            obtain rfl := checked_broken HHD.out hck
            obtain ⟨g2, cap2, hfv⟩ := own_form hof (by simp)
            subst hfv
            have HOF := Lib.hid hof
            have HOBO := Lib.hid (HOB.out.mono hbo)
            have HXQO := Lib.hid (heap_below hbo HXQN.out)
            have HBO := Lib.hid (HBN.out.trans (hbo.mono HBN.out.size))
            clear hof hck hbo
            have q0 : wo.cell? ⟨g2, 0, none⟩ = some (.int .i64 1) := by have := World.ownsRow.cellAt HOF.out 0 (by simp); simpa using this
            have q1 : wo.cell? ⟨g2, 1, none⟩ = some (.int .i64 0) := by have := World.ownsRow.cellAt HOF.out 1 (by simp); simpa using this
            have q2 : wo.cell? ⟨g2, 2, none⟩ = some (.int .i64 0) := by have := World.ownsRow.cellAt HOF.out 2 (by simp); simpa using this
            have q3 : wo.cell? ⟨wp.heap.size, 0, none⟩ = some (.int .i64 1) := cell_rec HXQO.out 0
            have hAB := fun (x : Above wo) (b k : Nat) (h : b < wo.heap.size) => Above.cell x b k h
            have l1 := block_lt q0
            have l2 := block_lt q3
            have HSN : Hid (∀ wz, Below wo.heap.size wo wz → Calls Try.prog 42 #[.slice (some ⟨g, 0, none⟩) mx cap] wz fun r w' => r = Ending.returned (.bool false) ∧ Below wz.heap.size wz w') := Lib.hid (fun wz hwz => (wSound_any (brk fb 0 c) _ wz HLK.out (HOBO.out.bs.mono hwz)).mono fun r w' ⟨h1, h2⟩ => ⟨snd_broken HHD.out h1, h2⟩)
            go_wp2
            refine wp_region_walk 20 [(12, .is (.bool true)), (16, .is (.bool false))] (by kernel_rfl) (by kernel_rfl) ?_
            simp only [List.take_succ_cons, List.take_zero, List.drop_succ_cons, List.drop_zero]
            try go_frame
            repeat (first
              | (refine walk_quiet rfl rfl rfl ?_; intro K hK; go_big_quiet_op; go_big_quiet_on)
              | (refine walk_skip rfl ?_; go_frame)
              | (refine walk_check rfl rfl rfl ?_; go_frame))
            refine walk_is rfl rfl (fun wz hwz _ => WpYld.val (run_bin rfl rfl (eql_fl1 _ _ _)) ⟨(), rfl, trivial⟩ (Below.refl _ _)) ?_
            go_frame
            repeat (first
              | (refine walk_quiet rfl rfl rfl ?_; intro K hK; go_big_quiet_op; go_big_quiet_on)
              | (refine walk_skip rfl ?_; go_frame)
              | (refine walk_check rfl rfl rfl ?_; go_frame))
            refine walk_is rfl rfl (fun wz hwz _ => WpYld.callIsB (run_callL (vals := [_]) Try.func42 (by kernel_rfl) rfl rfl) (HSN.out wz hwz)) ?_
            go_frame
            repeat (first
              | (refine walk_quiet rfl rfl rfl ?_; intro K hK; go_big_quiet_op; go_big_quiet_on)
              | (refine walk_skip rfl ?_; go_frame)
              | (refine walk_check rfl rfl rfl ?_; go_frame))
            refine walk_nil ?_
            intro ws hbs hF
            have HBS := Lib.hid (HBO.out.trans (hbs.mono HBO.out.size))
            clear hF hbs hAB l1 l2 q0 q1 q2 q3
            go_wp2
            go_ret
            exact ⟨by simp, HBS.out⟩
          · obtain ⟨c, hc, hcj, hhd, hlk⟩ := HBK.out 1 (by decide)
            simp only [brkAt, brkCode] at hcj hhd hlk
            have HCJ := Lib.hid hcj
            have HHD := Lib.hid hhd
            have HLK := Lib.hid hlk
            have hr2 : kk.tmod 7 = 1 := by rw [HTM.out, hr]
            have HR := Lib.hid hr0
            clear hcj hhd hlk hr0 hk0
            have hcl : wx.cell? ⟨g, 16, none⟩ = some (.int .u8 (c : Int)) := by
              have h1 := World.ownsRow.cellAt HOW0.out 16 (by omega)
              rw [h1, List.getElem?_map, HCJ.out]
              show some (Value.int .u8 _) = _
              rw [show (UInt8.ofNat c).toNat = c by rw [UInt8.toNat_ofNat']; omega]
            have HCL := Lib.hid hcl
            have hxr := xor_128 hc
            clear hcl
            go_wp2_with (first
              | ((with_reducible show wpList _ _ _ (⟨some 51, _, _, _, _, _⟩ :: _) _ _); go_must (refine wpList_ats ?_; intro wp hxp hbp; have HXP := Lib.hid hxp; have HBP := Lib.hid hbp; clear hxp hbp))
              | ((with_reducible show wpList _ _ _ (⟨some 52, _, _, _, _, _⟩ :: _) _ _); go_must (refine wpList_codes ?_; intro wq hxq hbq; have HXQ := Lib.hid hxq; have HXPQ := Lib.hid (heap_below hbq HXP.out); have HBQ := Lib.hid (HBP.out.trans (hbq.mono HBP.out.size)); clear hxq hbq)))
            clear hr hr2
            have p1 : wq.cell? ⟨wx.heap.size, 1, none⟩ = some (.int .i64 16) := cell_rec HXPQ.out 1
            have p2 : wq.cell? ⟨g, 16, none⟩ = some (.int .u8 (c : Int)) := (HBQ.out.cell (p := ⟨g, 16, none⟩) (block_lt HCL.out)).trans HCL.out
            have HOWQ := Lib.hid (owns_mono HOW0.out HBQ.out)
            have hAB := fun (x : Above wq) (b k : Nat) (h : b < wq.heap.size) => Above.cell x b k h
            have l1 := block_lt p1
            have l2 := block_lt p2
            refine wp_region_walk 14 [] (by kernel_rfl) (by kernel_rfl) ?_
            simp only [List.take_succ_cons, List.take_zero, List.drop_succ_cons, List.drop_zero]
            try go_frame
            repeat (first
              | (refine walk_quiet rfl rfl rfl ?_; intro K hK; go_big_quiet_op; go_big_quiet_on)
              | (refine walk_skip rfl ?_; go_frame)
              | (refine walk_check rfl rfl rfl ?_; go_frame))
            refine walk_nil ?_
            intro wy hby hF
            have HOWY := Lib.hid (owns_mono HOWQ.out hby)
            have HXQY := Lib.hid (heap_below hby HXQ.out)
            have HBY := Lib.hid (HBX.out.trans ((HBQ.out.trans (hby.mono HBQ.out.size)).mono HBX.out.size))
            have HBSY := Lib.hid (Nat.le_trans hbx9.out (Nat.le_trans HBQ.out.size hby.size))
            have HBEY := Lib.hid (Nat.le_trans HBQ.out.size hby.size)
            clear hF hby hAB l1 l2 p1 p2 hxr
            refine wpList_setRowI HOWY.out (j := 16) (by omega) rfl rfl HBSY.out (fun w => by kernel_rfl) ?_
            intro wn hown hbn hsn
            rw [brk_map hc] at hown
            have HOB : Hid (OB wn wr.heap.size (.slice (some ⟨g, 0, none⟩) mx cap) (brk fb 16 c)) := Lib.hid (by unfold OB; rw [show (brk fb 16 c).length = mx by unfold brk; rw [List.length_set]; exact HMX.out.symm]; exact hown)
            have HXQN := Lib.hid (hsn.kept HXQY.out (fun hS => by obtain ⟨cs, fz, h1⟩ := own_kind HOWY.out g rfl; rw [← hS, HXQY.out] at h1; cases h1))
            have HBN := Lib.hid (HBY.out.trans (hsn.below HBY.out.size (fun j hj => by rw [hj]; exact Nat.le_trans HBR.out.size (World.ownsRow.lt HOWY.out g rfl).1)))
            clear hown hbn hsn
            go_wp2_with fail
            refine (wCheck_any (brk fb 16 c) _ wn HLK.out HOB.out.bs).mono ?_
            rintro r wo ⟨⟨fv, F, rfl, hof, hck⟩, hbo⟩
            obtain rfl := checked_broken HHD.out hck
            obtain ⟨g2, cap2, hfv⟩ := own_form hof (by simp)
            subst hfv
            have HOF := Lib.hid hof
            have HOBO := Lib.hid (HOB.out.mono hbo)
            have HXQO := Lib.hid (heap_below hbo HXQN.out)
            have HBO := Lib.hid (HBN.out.trans (hbo.mono HBN.out.size))
            clear hof hck hbo
            have q0 : wo.cell? ⟨g2, 0, none⟩ = some (.int .i64 2) := by have := World.ownsRow.cellAt HOF.out 0 (by simp); simpa using this
            have q1 : wo.cell? ⟨g2, 1, none⟩ = some (.int .i64 0) := by have := World.ownsRow.cellAt HOF.out 1 (by simp); simpa using this
            have q2 : wo.cell? ⟨g2, 2, none⟩ = some (.int .i64 0) := by have := World.ownsRow.cellAt HOF.out 2 (by simp); simpa using this
            have q3 : wo.cell? ⟨wp.heap.size, 1, none⟩ = some (.int .i64 2) := cell_rec HXQO.out 1
            have hAB := fun (x : Above wo) (b k : Nat) (h : b < wo.heap.size) => Above.cell x b k h
            have l1 := block_lt q0
            have l2 := block_lt q3
            have HSN : Hid (∀ wz, Below wo.heap.size wo wz → Calls Try.prog 42 #[.slice (some ⟨g, 0, none⟩) mx cap] wz fun r w' => r = Ending.returned (.bool false) ∧ Below wz.heap.size wz w') := Lib.hid (fun wz hwz => (wSound_any (brk fb 16 c) _ wz HLK.out (HOBO.out.bs.mono hwz)).mono fun r w' ⟨h1, h2⟩ => ⟨snd_broken HHD.out h1, h2⟩)
            go_wp2
            refine wp_region_walk 20 [(12, .is (.bool true)), (16, .is (.bool false))] (by kernel_rfl) (by kernel_rfl) ?_
            simp only [List.take_succ_cons, List.take_zero, List.drop_succ_cons, List.drop_zero]
            try go_frame
            repeat (first
              | (refine walk_quiet rfl rfl rfl ?_; intro K hK; go_big_quiet_op; go_big_quiet_on)
              | (refine walk_skip rfl ?_; go_frame)
              | (refine walk_check rfl rfl rfl ?_; go_frame))
            refine walk_is rfl rfl (fun wz hwz _ => WpYld.val (run_bin rfl rfl (eql_fl2 _ _ _)) ⟨(), rfl, trivial⟩ (Below.refl _ _)) ?_
            go_frame
            repeat (first
              | (refine walk_quiet rfl rfl rfl ?_; intro K hK; go_big_quiet_op; go_big_quiet_on)
              | (refine walk_skip rfl ?_; go_frame)
              | (refine walk_check rfl rfl rfl ?_; go_frame))
            refine walk_is rfl rfl (fun wz hwz _ => WpYld.callIsB (run_callL (vals := [_]) Try.func42 (by kernel_rfl) rfl rfl) (HSN.out wz hwz)) ?_
            go_frame
            repeat (first
              | (refine walk_quiet rfl rfl rfl ?_; intro K hK; go_big_quiet_op; go_big_quiet_on)
              | (refine walk_skip rfl ?_; go_frame)
              | (refine walk_check rfl rfl rfl ?_; go_frame))
            refine walk_nil ?_
            intro ws hbs hF
            have HBS := Lib.hid (HBO.out.trans (hbs.mono HBO.out.size))
            clear hF hbs hAB l1 l2 q0 q1 q2 q3
            go_wp2
            go_ret
            exact ⟨by simp, HBS.out⟩
          · obtain ⟨c, hc, hcj, hhd, hlk⟩ := HBK.out 2 (by decide)
            simp only [brkAt, brkCode] at hcj hhd hlk
            have HCJ := Lib.hid hcj
            have HHD := Lib.hid hhd
            have HLK := Lib.hid hlk
            have hr2 : kk.tmod 7 = 2 := by rw [HTM.out, hr]
            have HR := Lib.hid hr0
            clear hcj hhd hlk hr0 hk0
            have hcl : wx.cell? ⟨g, 20, none⟩ = some (.int .u8 (c : Int)) := by
              have h1 := World.ownsRow.cellAt HOW0.out 20 (by omega)
              rw [h1, List.getElem?_map, HCJ.out]
              show some (Value.int .u8 _) = _
              rw [show (UInt8.ofNat c).toNat = c by rw [UInt8.toNat_ofNat']; omega]
            have HCL := Lib.hid hcl
            have hxr := xor_128 hc
            clear hcl
            go_wp2_with (first
              | ((with_reducible show wpList _ _ _ (⟨some 51, _, _, _, _, _⟩ :: _) _ _); go_must (refine wpList_ats ?_; intro wp hxp hbp; have HXP := Lib.hid hxp; have HBP := Lib.hid hbp; clear hxp hbp))
              | ((with_reducible show wpList _ _ _ (⟨some 52, _, _, _, _, _⟩ :: _) _ _); go_must (refine wpList_codes ?_; intro wq hxq hbq; have HXQ := Lib.hid hxq; have HXPQ := Lib.hid (heap_below hbq HXP.out); have HBQ := Lib.hid (HBP.out.trans (hbq.mono HBP.out.size)); clear hxq hbq)))
            clear hr hr2
            have p1 : wq.cell? ⟨wx.heap.size, 2, none⟩ = some (.int .i64 20) := cell_rec HXPQ.out 2
            have p2 : wq.cell? ⟨g, 20, none⟩ = some (.int .u8 (c : Int)) := (HBQ.out.cell (p := ⟨g, 20, none⟩) (block_lt HCL.out)).trans HCL.out
            have HOWQ := Lib.hid (owns_mono HOW0.out HBQ.out)
            have hAB := fun (x : Above wq) (b k : Nat) (h : b < wq.heap.size) => Above.cell x b k h
            have l1 := block_lt p1
            have l2 := block_lt p2
            refine wp_region_walk 14 [] (by kernel_rfl) (by kernel_rfl) ?_
            simp only [List.take_succ_cons, List.take_zero, List.drop_succ_cons, List.drop_zero]
            try go_frame
            repeat (first
              | (refine walk_quiet rfl rfl rfl ?_; intro K hK; go_big_quiet_op; go_big_quiet_on)
              | (refine walk_skip rfl ?_; go_frame)
              | (refine walk_check rfl rfl rfl ?_; go_frame))
            refine walk_nil ?_
            intro wy hby hF
            have HOWY := Lib.hid (owns_mono HOWQ.out hby)
            have HXQY := Lib.hid (heap_below hby HXQ.out)
            have HBY := Lib.hid (HBX.out.trans ((HBQ.out.trans (hby.mono HBQ.out.size)).mono HBX.out.size))
            have HBSY := Lib.hid (Nat.le_trans hbx9.out (Nat.le_trans HBQ.out.size hby.size))
            have HBEY := Lib.hid (Nat.le_trans HBQ.out.size hby.size)
            clear hF hby hAB l1 l2 p1 p2 hxr
            refine wpList_setRowI HOWY.out (j := 20) (by omega) rfl rfl HBSY.out (fun w => by kernel_rfl) ?_
            intro wn hown hbn hsn
            rw [brk_map hc] at hown
            have HOB : Hid (OB wn wr.heap.size (.slice (some ⟨g, 0, none⟩) mx cap) (brk fb 20 c)) := Lib.hid (by unfold OB; rw [show (brk fb 20 c).length = mx by unfold brk; rw [List.length_set]; exact HMX.out.symm]; exact hown)
            have HXQN := Lib.hid (hsn.kept HXQY.out (fun hS => by obtain ⟨cs, fz, h1⟩ := own_kind HOWY.out g rfl; rw [← hS, HXQY.out] at h1; cases h1))
            have HBN := Lib.hid (HBY.out.trans (hsn.below HBY.out.size (fun j hj => by rw [hj]; exact Nat.le_trans HBR.out.size (World.ownsRow.lt HOWY.out g rfl).1)))
            clear hown hbn hsn
            go_wp2_with fail
            refine (wCheck_any (brk fb 20 c) _ wn HLK.out HOB.out.bs).mono ?_
            rintro r wo ⟨⟨fv, F, rfl, hof, hck⟩, hbo⟩
            obtain rfl := checked_broken HHD.out hck
            obtain ⟨g2, cap2, hfv⟩ := own_form hof (by simp)
            subst hfv
            have HOF := Lib.hid hof
            have HOBO := Lib.hid (HOB.out.mono hbo)
            have HXQO := Lib.hid (heap_below hbo HXQN.out)
            have HBO := Lib.hid (HBN.out.trans (hbo.mono HBN.out.size))
            clear hof hck hbo
            have q0 : wo.cell? ⟨g2, 0, none⟩ = some (.int .i64 2) := by have := World.ownsRow.cellAt HOF.out 0 (by simp); simpa using this
            have q1 : wo.cell? ⟨g2, 1, none⟩ = some (.int .i64 0) := by have := World.ownsRow.cellAt HOF.out 1 (by simp); simpa using this
            have q2 : wo.cell? ⟨g2, 2, none⟩ = some (.int .i64 0) := by have := World.ownsRow.cellAt HOF.out 2 (by simp); simpa using this
            have q3 : wo.cell? ⟨wp.heap.size, 2, none⟩ = some (.int .i64 2) := cell_rec HXQO.out 2
            have hAB := fun (x : Above wo) (b k : Nat) (h : b < wo.heap.size) => Above.cell x b k h
            have l1 := block_lt q0
            have l2 := block_lt q3
            have HSN : Hid (∀ wz, Below wo.heap.size wo wz → Calls Try.prog 42 #[.slice (some ⟨g, 0, none⟩) mx cap] wz fun r w' => r = Ending.returned (.bool false) ∧ Below wz.heap.size wz w') := Lib.hid (fun wz hwz => (wSound_any (brk fb 20 c) _ wz HLK.out (HOBO.out.bs.mono hwz)).mono fun r w' ⟨h1, h2⟩ => ⟨snd_broken HHD.out h1, h2⟩)
            go_wp2
            refine wp_region_walk 20 [(12, .is (.bool true)), (16, .is (.bool false))] (by kernel_rfl) (by kernel_rfl) ?_
            simp only [List.take_succ_cons, List.take_zero, List.drop_succ_cons, List.drop_zero]
            try go_frame
            repeat (first
              | (refine walk_quiet rfl rfl rfl ?_; intro K hK; go_big_quiet_op; go_big_quiet_on)
              | (refine walk_skip rfl ?_; go_frame)
              | (refine walk_check rfl rfl rfl ?_; go_frame))
            refine walk_is rfl rfl (fun wz hwz _ => WpYld.val (run_bin rfl rfl (eql_fl2 _ _ _)) ⟨(), rfl, trivial⟩ (Below.refl _ _)) ?_
            go_frame
            repeat (first
              | (refine walk_quiet rfl rfl rfl ?_; intro K hK; go_big_quiet_op; go_big_quiet_on)
              | (refine walk_skip rfl ?_; go_frame)
              | (refine walk_check rfl rfl rfl ?_; go_frame))
            refine walk_is rfl rfl (fun wz hwz _ => WpYld.callIsB (run_callL (vals := [_]) Try.func42 (by kernel_rfl) rfl rfl) (HSN.out wz hwz)) ?_
            go_frame
            repeat (first
              | (refine walk_quiet rfl rfl rfl ?_; intro K hK; go_big_quiet_op; go_big_quiet_on)
              | (refine walk_skip rfl ?_; go_frame)
              | (refine walk_check rfl rfl rfl ?_; go_frame))
            refine walk_nil ?_
            intro ws hbs hF
            have HBS := Lib.hid (HBO.out.trans (hbs.mono HBO.out.size))
            clear hF hbs hAB l1 l2 q0 q1 q2 q3
            go_wp2
            go_ret
            exact ⟨by simp, HBS.out⟩
          · obtain ⟨c, hc, hcj, hhd, hlk⟩ := HBK.out 3 (by decide)
            simp only [brkAt, brkCode] at hcj hhd hlk
            have HCJ := Lib.hid hcj
            have HHD := Lib.hid hhd
            have HLK := Lib.hid hlk
            have hr2 : kk.tmod 7 = 3 := by rw [HTM.out, hr]
            have HR := Lib.hid hr0
            clear hcj hhd hlk hr0 hk0
            have hcl : wx.cell? ⟨g, 52, none⟩ = some (.int .u8 (c : Int)) := by
              have h1 := World.ownsRow.cellAt HOW0.out 52 (by omega)
              rw [h1, List.getElem?_map, HCJ.out]
              show some (Value.int .u8 _) = _
              rw [show (UInt8.ofNat c).toNat = c by rw [UInt8.toNat_ofNat']; omega]
            have HCL := Lib.hid hcl
            have hxr := xor_128 hc
            clear hcl
            go_wp2_with (first
              | ((with_reducible show wpList _ _ _ (⟨some 51, _, _, _, _, _⟩ :: _) _ _); go_must (refine wpList_ats ?_; intro wp hxp hbp; have HXP := Lib.hid hxp; have HBP := Lib.hid hbp; clear hxp hbp))
              | ((with_reducible show wpList _ _ _ (⟨some 52, _, _, _, _, _⟩ :: _) _ _); go_must (refine wpList_codes ?_; intro wq hxq hbq; have HXQ := Lib.hid hxq; have HXPQ := Lib.hid (heap_below hbq HXP.out); have HBQ := Lib.hid (HBP.out.trans (hbq.mono HBP.out.size)); clear hxq hbq)))
            clear hr hr2
            have p1 : wq.cell? ⟨wx.heap.size, 3, none⟩ = some (.int .i64 52) := cell_rec HXPQ.out 3
            have p2 : wq.cell? ⟨g, 52, none⟩ = some (.int .u8 (c : Int)) := (HBQ.out.cell (p := ⟨g, 52, none⟩) (block_lt HCL.out)).trans HCL.out
            have HOWQ := Lib.hid (owns_mono HOW0.out HBQ.out)
            have hAB := fun (x : Above wq) (b k : Nat) (h : b < wq.heap.size) => Above.cell x b k h
            have l1 := block_lt p1
            have l2 := block_lt p2
            refine wp_region_walk 14 [] (by kernel_rfl) (by kernel_rfl) ?_
            simp only [List.take_succ_cons, List.take_zero, List.drop_succ_cons, List.drop_zero]
            try go_frame
            repeat (first
              | (refine walk_quiet rfl rfl rfl ?_; intro K hK; go_big_quiet_op; go_big_quiet_on)
              | (refine walk_skip rfl ?_; go_frame)
              | (refine walk_check rfl rfl rfl ?_; go_frame))
            refine walk_nil ?_
            intro wy hby hF
            have HOWY := Lib.hid (owns_mono HOWQ.out hby)
            have HXQY := Lib.hid (heap_below hby HXQ.out)
            have HBY := Lib.hid (HBX.out.trans ((HBQ.out.trans (hby.mono HBQ.out.size)).mono HBX.out.size))
            have HBSY := Lib.hid (Nat.le_trans hbx9.out (Nat.le_trans HBQ.out.size hby.size))
            have HBEY := Lib.hid (Nat.le_trans HBQ.out.size hby.size)
            clear hF hby hAB l1 l2 p1 p2 hxr
            refine wpList_setRowI HOWY.out (j := 52) (by omega) rfl rfl HBSY.out (fun w => by kernel_rfl) ?_
            intro wn hown hbn hsn
            rw [brk_map hc] at hown
            have HOB : Hid (OB wn wr.heap.size (.slice (some ⟨g, 0, none⟩) mx cap) (brk fb 52 c)) := Lib.hid (by unfold OB; rw [show (brk fb 52 c).length = mx by unfold brk; rw [List.length_set]; exact HMX.out.symm]; exact hown)
            have HXQN := Lib.hid (hsn.kept HXQY.out (fun hS => by obtain ⟨cs, fz, h1⟩ := own_kind HOWY.out g rfl; rw [← hS, HXQY.out] at h1; cases h1))
            have HBN := Lib.hid (HBY.out.trans (hsn.below HBY.out.size (fun j hj => by rw [hj]; exact Nat.le_trans HBR.out.size (World.ownsRow.lt HOWY.out g rfl).1)))
            clear hown hbn hsn
            go_wp2_with fail
            refine (wCheck_any (brk fb 52 c) _ wn HLK.out HOB.out.bs).mono ?_
            rintro r wo ⟨⟨fv, F, rfl, hof, hck⟩, hbo⟩
            obtain rfl := checked_broken HHD.out hck
            obtain ⟨g2, cap2, hfv⟩ := own_form hof (by simp)
            subst hfv
            have HOF := Lib.hid hof
            have HOBO := Lib.hid (HOB.out.mono hbo)
            have HXQO := Lib.hid (heap_below hbo HXQN.out)
            have HBO := Lib.hid (HBN.out.trans (hbo.mono HBN.out.size))
            clear hof hck hbo
            have q0 : wo.cell? ⟨g2, 0, none⟩ = some (.int .i64 2) := by have := World.ownsRow.cellAt HOF.out 0 (by simp); simpa using this
            have q1 : wo.cell? ⟨g2, 1, none⟩ = some (.int .i64 0) := by have := World.ownsRow.cellAt HOF.out 1 (by simp); simpa using this
            have q2 : wo.cell? ⟨g2, 2, none⟩ = some (.int .i64 0) := by have := World.ownsRow.cellAt HOF.out 2 (by simp); simpa using this
            have q3 : wo.cell? ⟨wp.heap.size, 3, none⟩ = some (.int .i64 2) := cell_rec HXQO.out 3
            have hAB := fun (x : Above wo) (b k : Nat) (h : b < wo.heap.size) => Above.cell x b k h
            have l1 := block_lt q0
            have l2 := block_lt q3
            have HSN : Hid (∀ wz, Below wo.heap.size wo wz → Calls Try.prog 42 #[.slice (some ⟨g, 0, none⟩) mx cap] wz fun r w' => r = Ending.returned (.bool false) ∧ Below wz.heap.size wz w') := Lib.hid (fun wz hwz => (wSound_any (brk fb 52 c) _ wz HLK.out (HOBO.out.bs.mono hwz)).mono fun r w' ⟨h1, h2⟩ => ⟨snd_broken HHD.out h1, h2⟩)
            go_wp2
            refine wp_region_walk 20 [(12, .is (.bool true)), (16, .is (.bool false))] (by kernel_rfl) (by kernel_rfl) ?_
            simp only [List.take_succ_cons, List.take_zero, List.drop_succ_cons, List.drop_zero]
            try go_frame
            repeat (first
              | (refine walk_quiet rfl rfl rfl ?_; intro K hK; go_big_quiet_op; go_big_quiet_on)
              | (refine walk_skip rfl ?_; go_frame)
              | (refine walk_check rfl rfl rfl ?_; go_frame))
            refine walk_is rfl rfl (fun wz hwz _ => WpYld.val (run_bin rfl rfl (eql_fl2 _ _ _)) ⟨(), rfl, trivial⟩ (Below.refl _ _)) ?_
            go_frame
            repeat (first
              | (refine walk_quiet rfl rfl rfl ?_; intro K hK; go_big_quiet_op; go_big_quiet_on)
              | (refine walk_skip rfl ?_; go_frame)
              | (refine walk_check rfl rfl rfl ?_; go_frame))
            refine walk_is rfl rfl (fun wz hwz _ => WpYld.callIsB (run_callL (vals := [_]) Try.func42 (by kernel_rfl) rfl rfl) (HSN.out wz hwz)) ?_
            go_frame
            repeat (first
              | (refine walk_quiet rfl rfl rfl ?_; intro K hK; go_big_quiet_op; go_big_quiet_on)
              | (refine walk_skip rfl ?_; go_frame)
              | (refine walk_check rfl rfl rfl ?_; go_frame))
            refine walk_nil ?_
            intro ws hbs hF
            have HBS := Lib.hid (HBO.out.trans (hbs.mono HBO.out.size))
            clear hF hbs hAB l1 l2 q0 q1 q2 q3
            go_wp2
            go_ret
            exact ⟨by simp, HBS.out⟩
          · obtain ⟨c, hc, hcj, hhd, hlk⟩ := HBK.out 4 (by decide)
            simp only [brkAt, brkCode] at hcj hhd hlk
            have HCJ := Lib.hid hcj
            have HHD := Lib.hid hhd
            have HLK := Lib.hid hlk
            have hr2 : kk.tmod 7 = 4 := by rw [HTM.out, hr]
            have HR := Lib.hid hr0
            clear hcj hhd hlk hr0 hk0
            have hcl : wx.cell? ⟨g, 58, none⟩ = some (.int .u8 (c : Int)) := by
              have h1 := World.ownsRow.cellAt HOW0.out 58 (by omega)
              rw [h1, List.getElem?_map, HCJ.out]
              show some (Value.int .u8 _) = _
              rw [show (UInt8.ofNat c).toNat = c by rw [UInt8.toNat_ofNat']; omega]
            have HCL := Lib.hid hcl
            have hxr := xor_128 hc
            clear hcl
            go_wp2_with (first
              | ((with_reducible show wpList _ _ _ (⟨some 51, _, _, _, _, _⟩ :: _) _ _); go_must (refine wpList_ats ?_; intro wp hxp hbp; have HXP := Lib.hid hxp; have HBP := Lib.hid hbp; clear hxp hbp))
              | ((with_reducible show wpList _ _ _ (⟨some 52, _, _, _, _, _⟩ :: _) _ _); go_must (refine wpList_codes ?_; intro wq hxq hbq; have HXQ := Lib.hid hxq; have HXPQ := Lib.hid (heap_below hbq HXP.out); have HBQ := Lib.hid (HBP.out.trans (hbq.mono HBP.out.size)); clear hxq hbq)))
            clear hr hr2
            have p1 : wq.cell? ⟨wx.heap.size, 4, none⟩ = some (.int .i64 58) := cell_rec HXPQ.out 4
            have p2 : wq.cell? ⟨g, 58, none⟩ = some (.int .u8 (c : Int)) := (HBQ.out.cell (p := ⟨g, 58, none⟩) (block_lt HCL.out)).trans HCL.out
            have HOWQ := Lib.hid (owns_mono HOW0.out HBQ.out)
            have hAB := fun (x : Above wq) (b k : Nat) (h : b < wq.heap.size) => Above.cell x b k h
            have l1 := block_lt p1
            have l2 := block_lt p2
            refine wp_region_walk 14 [] (by kernel_rfl) (by kernel_rfl) ?_
            simp only [List.take_succ_cons, List.take_zero, List.drop_succ_cons, List.drop_zero]
            try go_frame
            repeat (first
              | (refine walk_quiet rfl rfl rfl ?_; intro K hK; go_big_quiet_op; go_big_quiet_on)
              | (refine walk_skip rfl ?_; go_frame)
              | (refine walk_check rfl rfl rfl ?_; go_frame))
            refine walk_nil ?_
            intro wy hby hF
            have HOWY := Lib.hid (owns_mono HOWQ.out hby)
            have HXQY := Lib.hid (heap_below hby HXQ.out)
            have HBY := Lib.hid (HBX.out.trans ((HBQ.out.trans (hby.mono HBQ.out.size)).mono HBX.out.size))
            have HBSY := Lib.hid (Nat.le_trans hbx9.out (Nat.le_trans HBQ.out.size hby.size))
            have HBEY := Lib.hid (Nat.le_trans HBQ.out.size hby.size)
            clear hF hby hAB l1 l2 p1 p2 hxr
            refine wpList_setRowI HOWY.out (j := 58) (by omega) rfl rfl HBSY.out (fun w => by kernel_rfl) ?_
            intro wn hown hbn hsn
            rw [brk_map hc] at hown
            have HOB : Hid (OB wn wr.heap.size (.slice (some ⟨g, 0, none⟩) mx cap) (brk fb 58 c)) := Lib.hid (by unfold OB; rw [show (brk fb 58 c).length = mx by unfold brk; rw [List.length_set]; exact HMX.out.symm]; exact hown)
            have HXQN := Lib.hid (hsn.kept HXQY.out (fun hS => by obtain ⟨cs, fz, h1⟩ := own_kind HOWY.out g rfl; rw [← hS, HXQY.out] at h1; cases h1))
            have HBN := Lib.hid (HBY.out.trans (hsn.below HBY.out.size (fun j hj => by rw [hj]; exact Nat.le_trans HBR.out.size (World.ownsRow.lt HOWY.out g rfl).1)))
            clear hown hbn hsn
            go_wp2_with fail
            refine (wCheck_any (brk fb 58 c) _ wn HLK.out HOB.out.bs).mono ?_
            rintro r wo ⟨⟨fv, F, rfl, hof, hck⟩, hbo⟩
            obtain rfl := checked_broken HHD.out hck
            obtain ⟨g2, cap2, hfv⟩ := own_form hof (by simp)
            subst hfv
            have HOF := Lib.hid hof
            have HOBO := Lib.hid (HOB.out.mono hbo)
            have HXQO := Lib.hid (heap_below hbo HXQN.out)
            have HBO := Lib.hid (HBN.out.trans (hbo.mono HBN.out.size))
            clear hof hck hbo
            have q0 : wo.cell? ⟨g2, 0, none⟩ = some (.int .i64 2) := by have := World.ownsRow.cellAt HOF.out 0 (by simp); simpa using this
            have q1 : wo.cell? ⟨g2, 1, none⟩ = some (.int .i64 0) := by have := World.ownsRow.cellAt HOF.out 1 (by simp); simpa using this
            have q2 : wo.cell? ⟨g2, 2, none⟩ = some (.int .i64 0) := by have := World.ownsRow.cellAt HOF.out 2 (by simp); simpa using this
            have q3 : wo.cell? ⟨wp.heap.size, 4, none⟩ = some (.int .i64 2) := cell_rec HXQO.out 4
            have hAB := fun (x : Above wo) (b k : Nat) (h : b < wo.heap.size) => Above.cell x b k h
            have l1 := block_lt q0
            have l2 := block_lt q3
            have HSN : Hid (∀ wz, Below wo.heap.size wo wz → Calls Try.prog 42 #[.slice (some ⟨g, 0, none⟩) mx cap] wz fun r w' => r = Ending.returned (.bool false) ∧ Below wz.heap.size wz w') := Lib.hid (fun wz hwz => (wSound_any (brk fb 58 c) _ wz HLK.out (HOBO.out.bs.mono hwz)).mono fun r w' ⟨h1, h2⟩ => ⟨snd_broken HHD.out h1, h2⟩)
            go_wp2
            refine wp_region_walk 20 [(12, .is (.bool true)), (16, .is (.bool false))] (by kernel_rfl) (by kernel_rfl) ?_
            simp only [List.take_succ_cons, List.take_zero, List.drop_succ_cons, List.drop_zero]
            try go_frame
            repeat (first
              | (refine walk_quiet rfl rfl rfl ?_; intro K hK; go_big_quiet_op; go_big_quiet_on)
              | (refine walk_skip rfl ?_; go_frame)
              | (refine walk_check rfl rfl rfl ?_; go_frame))
            refine walk_is rfl rfl (fun wz hwz _ => WpYld.val (run_bin rfl rfl (eql_fl2 _ _ _)) ⟨(), rfl, trivial⟩ (Below.refl _ _)) ?_
            go_frame
            repeat (first
              | (refine walk_quiet rfl rfl rfl ?_; intro K hK; go_big_quiet_op; go_big_quiet_on)
              | (refine walk_skip rfl ?_; go_frame)
              | (refine walk_check rfl rfl rfl ?_; go_frame))
            refine walk_is rfl rfl (fun wz hwz _ => WpYld.callIsB (run_callL (vals := [_]) Try.func42 (by kernel_rfl) rfl rfl) (HSN.out wz hwz)) ?_
            go_frame
            repeat (first
              | (refine walk_quiet rfl rfl rfl ?_; intro K hK; go_big_quiet_op; go_big_quiet_on)
              | (refine walk_skip rfl ?_; go_frame)
              | (refine walk_check rfl rfl rfl ?_; go_frame))
            refine walk_nil ?_
            intro ws hbs hF
            have HBS := Lib.hid (HBO.out.trans (hbs.mono HBO.out.size))
            clear hF hbs hAB l1 l2 q0 q1 q2 q3
            go_wp2
            go_ret
            exact ⟨by simp, HBS.out⟩
          · obtain ⟨c, hc, hcj, hhd, hlk⟩ := HBK.out 5 (by decide)
            simp only [brkAt, brkCode] at hcj hhd hlk
            have HCJ := Lib.hid hcj
            have HHD := Lib.hid hhd
            have HLK := Lib.hid hlk
            have hr2 : kk.tmod 7 = 5 := by rw [HTM.out, hr]
            have HR := Lib.hid hr0
            clear hcj hhd hlk hr0 hk0
            have hcl : wx.cell? ⟨g, 47, none⟩ = some (.int .u8 (c : Int)) := by
              have h1 := World.ownsRow.cellAt HOW0.out 47 (by omega)
              rw [h1, List.getElem?_map, HCJ.out]
              show some (Value.int .u8 _) = _
              rw [show (UInt8.ofNat c).toNat = c by rw [UInt8.toNat_ofNat']; omega]
            have HCL := Lib.hid hcl
            have hxr := xor_128 hc
            clear hcl
            go_wp2_with (first
              | ((with_reducible show wpList _ _ _ (⟨some 51, _, _, _, _, _⟩ :: _) _ _); go_must (refine wpList_ats ?_; intro wp hxp hbp; have HXP := Lib.hid hxp; have HBP := Lib.hid hbp; clear hxp hbp))
              | ((with_reducible show wpList _ _ _ (⟨some 52, _, _, _, _, _⟩ :: _) _ _); go_must (refine wpList_codes ?_; intro wq hxq hbq; have HXQ := Lib.hid hxq; have HXPQ := Lib.hid (heap_below hbq HXP.out); have HBQ := Lib.hid (HBP.out.trans (hbq.mono HBP.out.size)); clear hxq hbq)))
            clear hr hr2
            have p1 : wq.cell? ⟨wx.heap.size, 5, none⟩ = some (.int .i64 47) := cell_rec HXPQ.out 5
            have p2 : wq.cell? ⟨g, 47, none⟩ = some (.int .u8 (c : Int)) := (HBQ.out.cell (p := ⟨g, 47, none⟩) (block_lt HCL.out)).trans HCL.out
            have HOWQ := Lib.hid (owns_mono HOW0.out HBQ.out)
            have hAB := fun (x : Above wq) (b k : Nat) (h : b < wq.heap.size) => Above.cell x b k h
            have l1 := block_lt p1
            have l2 := block_lt p2
            refine wp_region_walk 14 [] (by kernel_rfl) (by kernel_rfl) ?_
            simp only [List.take_succ_cons, List.take_zero, List.drop_succ_cons, List.drop_zero]
            try go_frame
            repeat (first
              | (refine walk_quiet rfl rfl rfl ?_; intro K hK; go_big_quiet_op; go_big_quiet_on)
              | (refine walk_skip rfl ?_; go_frame)
              | (refine walk_check rfl rfl rfl ?_; go_frame))
            refine walk_nil ?_
            intro wy hby hF
            have HOWY := Lib.hid (owns_mono HOWQ.out hby)
            have HXQY := Lib.hid (heap_below hby HXQ.out)
            have HBY := Lib.hid (HBX.out.trans ((HBQ.out.trans (hby.mono HBQ.out.size)).mono HBX.out.size))
            have HBSY := Lib.hid (Nat.le_trans hbx9.out (Nat.le_trans HBQ.out.size hby.size))
            have HBEY := Lib.hid (Nat.le_trans HBQ.out.size hby.size)
            clear hF hby hAB l1 l2 p1 p2 hxr
            refine wpList_setRowI HOWY.out (j := 47) (by omega) rfl rfl HBSY.out (fun w => by kernel_rfl) ?_
            intro wn hown hbn hsn
            rw [brk_map hc] at hown
            have HOB : Hid (OB wn wr.heap.size (.slice (some ⟨g, 0, none⟩) mx cap) (brk fb 47 c)) := Lib.hid (by unfold OB; rw [show (brk fb 47 c).length = mx by unfold brk; rw [List.length_set]; exact HMX.out.symm]; exact hown)
            have HXQN := Lib.hid (hsn.kept HXQY.out (fun hS => by obtain ⟨cs, fz, h1⟩ := own_kind HOWY.out g rfl; rw [← hS, HXQY.out] at h1; cases h1))
            have HBN := Lib.hid (HBY.out.trans (hsn.below HBY.out.size (fun j hj => by rw [hj]; exact Nat.le_trans HBR.out.size (World.ownsRow.lt HOWY.out g rfl).1)))
            clear hown hbn hsn
            go_wp2_with fail
            refine (wCheck_any (brk fb 47 c) _ wn HLK.out HOB.out.bs).mono ?_
            rintro r wo ⟨⟨fv, F, rfl, hof, hck⟩, hbo⟩
            obtain rfl := checked_broken HHD.out hck
            obtain ⟨g2, cap2, hfv⟩ := own_form hof (by simp)
            subst hfv
            have HOF := Lib.hid hof
            have HOBO := Lib.hid (HOB.out.mono hbo)
            have HXQO := Lib.hid (heap_below hbo HXQN.out)
            have HBO := Lib.hid (HBN.out.trans (hbo.mono HBN.out.size))
            clear hof hck hbo
            have q0 : wo.cell? ⟨g2, 0, none⟩ = some (.int .i64 3) := by have := World.ownsRow.cellAt HOF.out 0 (by simp); simpa using this
            have q1 : wo.cell? ⟨g2, 1, none⟩ = some (.int .i64 0) := by have := World.ownsRow.cellAt HOF.out 1 (by simp); simpa using this
            have q2 : wo.cell? ⟨g2, 2, none⟩ = some (.int .i64 0) := by have := World.ownsRow.cellAt HOF.out 2 (by simp); simpa using this
            have q3 : wo.cell? ⟨wp.heap.size, 5, none⟩ = some (.int .i64 3) := cell_rec HXQO.out 5
            have hAB := fun (x : Above wo) (b k : Nat) (h : b < wo.heap.size) => Above.cell x b k h
            have l1 := block_lt q0
            have l2 := block_lt q3
            have HSN : Hid (∀ wz, Below wo.heap.size wo wz → Calls Try.prog 42 #[.slice (some ⟨g, 0, none⟩) mx cap] wz fun r w' => r = Ending.returned (.bool false) ∧ Below wz.heap.size wz w') := Lib.hid (fun wz hwz => (wSound_any (brk fb 47 c) _ wz HLK.out (HOBO.out.bs.mono hwz)).mono fun r w' ⟨h1, h2⟩ => ⟨snd_broken HHD.out h1, h2⟩)
            go_wp2
            refine wp_region_walk 20 [(12, .is (.bool true)), (16, .is (.bool false))] (by kernel_rfl) (by kernel_rfl) ?_
            simp only [List.take_succ_cons, List.take_zero, List.drop_succ_cons, List.drop_zero]
            try go_frame
            repeat (first
              | (refine walk_quiet rfl rfl rfl ?_; intro K hK; go_big_quiet_op; go_big_quiet_on)
              | (refine walk_skip rfl ?_; go_frame)
              | (refine walk_check rfl rfl rfl ?_; go_frame))
            refine walk_is rfl rfl (fun wz hwz _ => WpYld.val (run_bin rfl rfl (eql_fl3 _ _ _)) ⟨(), rfl, trivial⟩ (Below.refl _ _)) ?_
            go_frame
            repeat (first
              | (refine walk_quiet rfl rfl rfl ?_; intro K hK; go_big_quiet_op; go_big_quiet_on)
              | (refine walk_skip rfl ?_; go_frame)
              | (refine walk_check rfl rfl rfl ?_; go_frame))
            refine walk_is rfl rfl (fun wz hwz _ => WpYld.callIsB (run_callL (vals := [_]) Try.func42 (by kernel_rfl) rfl rfl) (HSN.out wz hwz)) ?_
            go_frame
            repeat (first
              | (refine walk_quiet rfl rfl rfl ?_; intro K hK; go_big_quiet_op; go_big_quiet_on)
              | (refine walk_skip rfl ?_; go_frame)
              | (refine walk_check rfl rfl rfl ?_; go_frame))
            refine walk_nil ?_
            intro ws hbs hF
            have HBS := Lib.hid (HBO.out.trans (hbs.mono HBO.out.size))
            clear hF hbs hAB l1 l2 q0 q1 q2 q3
            go_wp2
            go_ret
            exact ⟨by simp, HBS.out⟩
          · obtain ⟨c, hc, hcj, hhd, hlk⟩ := HBK.out 6 (by decide)
            simp only [brkAt, brkCode] at hcj hhd hlk
            have HCJ := Lib.hid hcj
            have HHD := Lib.hid hhd
            have HLK := Lib.hid hlk
            have hr2 : kk.tmod 7 = 6 := by rw [HTM.out, hr]
            have HR := Lib.hid hr0
            clear hcj hhd hlk hr0 hk0
            have hcl : wx.cell? ⟨g, 62, none⟩ = some (.int .u8 (c : Int)) := by
              have h1 := World.ownsRow.cellAt HOW0.out 62 (by omega)
              rw [h1, List.getElem?_map, HCJ.out]
              show some (Value.int .u8 _) = _
              rw [show (UInt8.ofNat c).toNat = c by rw [UInt8.toNat_ofNat']; omega]
            have HCL := Lib.hid hcl
            have hxr := xor_128 hc
            clear hcl
            go_wp2_with (first
              | ((with_reducible show wpList _ _ _ (⟨some 51, _, _, _, _, _⟩ :: _) _ _); go_must (refine wpList_ats ?_; intro wp hxp hbp; have HXP := Lib.hid hxp; have HBP := Lib.hid hbp; clear hxp hbp))
              | ((with_reducible show wpList _ _ _ (⟨some 52, _, _, _, _, _⟩ :: _) _ _); go_must (refine wpList_codes ?_; intro wq hxq hbq; have HXQ := Lib.hid hxq; have HXPQ := Lib.hid (heap_below hbq HXP.out); have HBQ := Lib.hid (HBP.out.trans (hbq.mono HBP.out.size)); clear hxq hbq)))
            clear hr hr2
            have p1 : wq.cell? ⟨wx.heap.size, 6, none⟩ = some (.int .i64 62) := cell_rec HXPQ.out 6
            have p2 : wq.cell? ⟨g, 62, none⟩ = some (.int .u8 (c : Int)) := (HBQ.out.cell (p := ⟨g, 62, none⟩) (block_lt HCL.out)).trans HCL.out
            have HOWQ := Lib.hid (owns_mono HOW0.out HBQ.out)
            have hAB := fun (x : Above wq) (b k : Nat) (h : b < wq.heap.size) => Above.cell x b k h
            have l1 := block_lt p1
            have l2 := block_lt p2
            refine wp_region_walk 14 [] (by kernel_rfl) (by kernel_rfl) ?_
            simp only [List.take_succ_cons, List.take_zero, List.drop_succ_cons, List.drop_zero]
            try go_frame
            repeat (first
              | (refine walk_quiet rfl rfl rfl ?_; intro K hK; go_big_quiet_op; go_big_quiet_on)
              | (refine walk_skip rfl ?_; go_frame)
              | (refine walk_check rfl rfl rfl ?_; go_frame))
            refine walk_nil ?_
            intro wy hby hF
            have HOWY := Lib.hid (owns_mono HOWQ.out hby)
            have HXQY := Lib.hid (heap_below hby HXQ.out)
            have HBY := Lib.hid (HBX.out.trans ((HBQ.out.trans (hby.mono HBQ.out.size)).mono HBX.out.size))
            have HBSY := Lib.hid (Nat.le_trans hbx9.out (Nat.le_trans HBQ.out.size hby.size))
            have HBEY := Lib.hid (Nat.le_trans HBQ.out.size hby.size)
            clear hF hby hAB l1 l2 p1 p2 hxr
            refine wpList_setRowI HOWY.out (j := 62) (by omega) rfl rfl HBSY.out (fun w => by kernel_rfl) ?_
            intro wn hown hbn hsn
            rw [brk_map hc] at hown
            have HOB : Hid (OB wn wr.heap.size (.slice (some ⟨g, 0, none⟩) mx cap) (brk fb 62 c)) := Lib.hid (by unfold OB; rw [show (brk fb 62 c).length = mx by unfold brk; rw [List.length_set]; exact HMX.out.symm]; exact hown)
            have HXQN := Lib.hid (hsn.kept HXQY.out (fun hS => by obtain ⟨cs, fz, h1⟩ := own_kind HOWY.out g rfl; rw [← hS, HXQY.out] at h1; cases h1))
            have HBN := Lib.hid (HBY.out.trans (hsn.below HBY.out.size (fun j hj => by rw [hj]; exact Nat.le_trans HBR.out.size (World.ownsRow.lt HOWY.out g rfl).1)))
            clear hown hbn hsn
            go_wp2_with fail
            refine (wCheck_any (brk fb 62 c) _ wn HLK.out HOB.out.bs).mono ?_
            rintro r wo ⟨⟨fv, F, rfl, hof, hck⟩, hbo⟩
            obtain rfl := checked_broken HHD.out hck
            obtain ⟨g2, cap2, hfv⟩ := own_form hof (by simp)
            subst hfv
            have HOF := Lib.hid hof
            have HOBO := Lib.hid (HOB.out.mono hbo)
            have HXQO := Lib.hid (heap_below hbo HXQN.out)
            have HBO := Lib.hid (HBN.out.trans (hbo.mono HBN.out.size))
            clear hof hck hbo
            have q0 : wo.cell? ⟨g2, 0, none⟩ = some (.int .i64 3) := by have := World.ownsRow.cellAt HOF.out 0 (by simp); simpa using this
            have q1 : wo.cell? ⟨g2, 1, none⟩ = some (.int .i64 0) := by have := World.ownsRow.cellAt HOF.out 1 (by simp); simpa using this
            have q2 : wo.cell? ⟨g2, 2, none⟩ = some (.int .i64 0) := by have := World.ownsRow.cellAt HOF.out 2 (by simp); simpa using this
            have q3 : wo.cell? ⟨wp.heap.size, 6, none⟩ = some (.int .i64 3) := cell_rec HXQO.out 6
            have hAB := fun (x : Above wo) (b k : Nat) (h : b < wo.heap.size) => Above.cell x b k h
            have l1 := block_lt q0
            have l2 := block_lt q3
            have HSN : Hid (∀ wz, Below wo.heap.size wo wz → Calls Try.prog 42 #[.slice (some ⟨g, 0, none⟩) mx cap] wz fun r w' => r = Ending.returned (.bool false) ∧ Below wz.heap.size wz w') := Lib.hid (fun wz hwz => (wSound_any (brk fb 62 c) _ wz HLK.out (HOBO.out.bs.mono hwz)).mono fun r w' ⟨h1, h2⟩ => ⟨snd_broken HHD.out h1, h2⟩)
            go_wp2
            refine wp_region_walk 20 [(12, .is (.bool true)), (16, .is (.bool false))] (by kernel_rfl) (by kernel_rfl) ?_
            simp only [List.take_succ_cons, List.take_zero, List.drop_succ_cons, List.drop_zero]
            try go_frame
            repeat (first
              | (refine walk_quiet rfl rfl rfl ?_; intro K hK; go_big_quiet_op; go_big_quiet_on)
              | (refine walk_skip rfl ?_; go_frame)
              | (refine walk_check rfl rfl rfl ?_; go_frame))
            refine walk_is rfl rfl (fun wz hwz _ => WpYld.val (run_bin rfl rfl (eql_fl3 _ _ _)) ⟨(), rfl, trivial⟩ (Below.refl _ _)) ?_
            go_frame
            repeat (first
              | (refine walk_quiet rfl rfl rfl ?_; intro K hK; go_big_quiet_op; go_big_quiet_on)
              | (refine walk_skip rfl ?_; go_frame)
              | (refine walk_check rfl rfl rfl ?_; go_frame))
            refine walk_is rfl rfl (fun wz hwz _ => WpYld.callIsB (run_callL (vals := [_]) Try.func42 (by kernel_rfl) rfl rfl) (HSN.out wz hwz)) ?_
            go_frame
            repeat (first
              | (refine walk_quiet rfl rfl rfl ?_; intro K hK; go_big_quiet_op; go_big_quiet_on)
              | (refine walk_skip rfl ?_; go_frame)
              | (refine walk_check rfl rfl rfl ?_; go_frame))
            refine walk_nil ?_
            intro ws hbs hF
            have HBS := Lib.hid (HBO.out.trans (hbs.mono HBO.out.size))
            clear hF hbs hAB l1 l2 q0 q1 q2 q3
            go_wp2
            go_ret
            exact ⟨by simp, HBS.out⟩
end Go.Proofs.Ytgjoimcgiofinaa
namespace Go.Proofs.Ytgjoimcgiofinaa
open Go.ChangeShapes Go.WideShapes Go.ChangeAt Go.RowKit Go.Fd
set_option maxRecDepth 100000 in
theorem wellBrokenUpto_lifted (os : Os) (started : os.Started) (H : Type) (enc : TypeId × Value → H) (F : Stop.Interp) :
    ReturnsInHanded {} Try.checked os 9 .any ((Rows.OpenSpec.upto Rows.wellBrokenSpec).pre6 enc Try.prog Try.f9 Rows.wellBrokenUptoRow.domain false) (((Rows.OpenSpec.upto Rows.wellBrokenSpec).at F).post enc Try.prog Try.f9 false true false false) := by
  refine handed_cond (C := Try.checked) (s := (Rows.OpenSpec.upto Rows.wellBrokenSpec)) (k := Rows.uptoSmall) rfl Try.own started (by kernel_rfl) Try.func9
    (OpenSpec.witness (enc := enc) (C := Try.checked) (s := (Rows.OpenSpec.upto Rows.wellBrokenSpec)) (k := Rows.uptoSmall) rfl false ⟨#[], #[.agg #[.int .i64 0, .int .i64 0, .int .u32 0, .int .u64 0, .slice none 0 0, .slice none 0 0], .int .i64 0], []⟩ 8 (by kernel_rfl) (by kernel_rfl) (by kernel_rfl)
      (x := ([.agg [.lit (.int .i64 0), .lit (.int .i64 0), .lit (.int .u32 0), .lit (.int .u64 0), .nil, .nil], .lit (.int .i64 0)], [], [])) (by kernel_rfl) rfl (by kernel_rfl)) ?_
  intro W base args ds gs before hval0 hW hk hz hsh
  have hval : ∀ (j : Nat) t v, Try.f9.params[j]? = some t → args[j]? = some v → Value.okWide Try.prog W .any base t v := hval0
  have hW' := hW
  obtain ⟨p, q, hA0, hV, rfl, hfz, hnd⟩ := hW
  have hA : DataW.TrodAll enc Try.prog W 0 (fun _ => true) true Try.f9.params.toList args.toList ds p := hA0
  have hlt : ∀ x ∈ p, x.block < W.heap.size := fun x hx => hW'.lt x (by simp [hx])
  have hback : ∀ W', Below W.heap.size W W' → DataW.TrodAll enc Try.prog W' 0 (fun b => decide (b < W.heap.size)) true Try.f9.params.toList args.toList ds p :=
    fun W' hb => belowAllB (by kernel_rfl) hb hA hlt
  rw [Try.params9] at hA hval
  obtain ⟨v0, vs0, d0, ds0, p0, q0, hargs, rfl, rfl, h0, r0⟩ := trodAll_cons hA
  obtain ⟨v1, vs1, d1, ds1, p1, q1, rfl, rfl, rfl, h1, r1⟩ := trodAll_cons r0
  obtain ⟨rfl, rfl, rfl⟩ := trodAll_nil r1
  obtain rfl : args = #[v0, v1] := by
    cases args
    simp at hargs
    simp [hargs]
  clear hargs
  obtain ⟨rfl, rfl⟩ := trodVars_none hV
  have fin : ∀ (e : Ending) (W' : World), (e = .returned (.bool true) ∧ Below W.heap.size W W') → ∃ v, e = Ending.returned v ∧ ((Rows.OpenSpec.upto Rows.wellBrokenSpec).at F).post enc Try.checked.prog Try.f9 false true false false W #[v0, v1] v W' := by
    rintro e W' ⟨rfl, hb⟩
    exact ⟨_, rfl, _, _, _, [], _, [], hW', trodAll_mk1 (shut_bool Try.underlying4 true), hback W' hb, rfl, hb.frame _, fun h => by cases h⟩
  obtain ⟨e, L, sv, gv, hr0⟩ := reads_elf (hval 0 61 v0 rfl rfl) h0
  have hb : Rows.uptoBulk d0 ≤ 1048576 := by
    have := of_decide_eq_true hk
    simp [Rows.uptoBulkAll] at this
    omega
  obtain ⟨k, rfl, rfl, rfl, w1⟩ := open_int Try.underlying3 (hval 1 3 v1 rfl rfl) h1
  obtain rfl := hr0.val
  exact (wellBroken_any e k L sv gv W hr0.at_ (hr0.ok hb).1 (Nat.le_trans (hr0.ok hb).2 (by decide)) (wf_i64 w1)).mono fin
theorem wellBrokenUpto_holds : Rows.WellBrokenUptoSaid :=
  OpenClaim.holds_of_cond 9 Try.f9 rfl rfl rfl rfl rfl rfl rfl ⟨rfl, rfl, rfl, rfl, rfl⟩ rfl rfl rfl rfl rfl (by kernel_rfl) Try.func9 (by kernel_rfl)
    (of_decide_eq_true (by kernel_rfl)) (by unfold Func.isWrapper; rw [if_neg (of_decide_eq_false (by kernel_rfl))]; exact ⟨rfl, rfl⟩)
    (fun os started H enc _ F => wellBrokenUpto_lifted os started H enc F)
end Go.Proofs.Ytgjoimcgiofinaa
namespace Go.Proofs.Ytgjoimcgiofinaa
theorem well_both : Rows.WellWrittenUptoSaid ∧ Rows.WellBrokenUptoSaid := ⟨wellWrittenUpto_holds, wellBrokenUpto_holds⟩
end Go.Proofs.Ytgjoimcgiofinaa
#print axioms Go.Proofs.Ytgjoimcgiofinaa.well_both
