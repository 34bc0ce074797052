/- The plain laws of parsing. -/
import Derived.Test.YtapiimahhkfjnaaP
namespace Go.Proofs.Ytapiimahhkfjnaa
open Go.RowKit Go.Proofs.YtapiimahhkfjnaaW.PrintWords Go.Sb

theorem orB_add (n c : Int) (h0 : 0 ≤ c) (h1 : c ≤ 255) : orB n c = 256 * n % 4294967296 + c := by
  unfold orB
  rw [bits_join .u32 32 (by decide) (fun m h h' => by rw [IntKind.wrap_u32]; omega) 8 _ _ (by omega) (by omega) (by omega) h0 (by omega) (by omega)]
  omega
theorem getN_val (ys : List Int) (h : Bytes ys) : getN ys = valN ys := by
  induction ys with
  | nil => rfl
  | cons y ys ih =>
    have hy := h y (by simp)
    show orB (getN ys) y = 256 * valN ys % 4294967296 + y
    rw [orB_add _ _ hy.1 hy.2, ih (fun x hx => h x (by simp [hx]))]
theorem pow3 {k : Nat} (h : k ≤ 3) : (256 : Int) ^ k ≤ 16777216 := by
  rcases (show k = 0 ∨ k = 1 ∨ k = 2 ∨ k = 3 by omega) with rfl | rfl | rfl | rfl <;> decide
theorem pow4 {k : Nat} (h : k ≤ 4) : (256 : Int) ^ k ≤ 4294967296 := by
  rcases (show k = 0 ∨ k = 1 ∨ k = 2 ∨ k = 3 ∨ k = 4 by omega) with rfl | rfl | rfl | rfl | rfl <;> decide
theorem valN_cons (x : Int) (xs : List Int) : valN (x :: xs) = 256 * valN xs % 4294967296 + x := rfl
theorem valN_lt (ys : List Int) (h : Bytes ys) (hl : ys.length ≤ 4) : 0 ≤ valN ys ∧ valN ys < 256 ^ ys.length := by
  induction ys with
  | nil => simp [valN]
  | cons y ys ih =>
    have hy := h y (by simp)
    obtain ⟨i0, i1⟩ := ih (fun x hx => h x (by simp [hx])) (by simp at hl; omega)
    rw [valN_cons]
    have hl' : ys.length ≤ 3 := by simp at hl; omega
    have hp : (256 : Int) ^ (y :: ys).length = 256 * 256 ^ ys.length := by rw [List.length_cons, Int.pow_succ, Int.mul_comm]
    rw [hp]
    omega
theorem le_val (ys : List Int) (h : Bytes ys) (hl : ys.length ≤ 4) : le (valN ys) ys.length = ys := by
  induction ys with
  | nil => rfl
  | cons y ys ih =>
    have hy := h y (by simp)
    have hys : Bytes ys := fun x hx => h x (by simp [hx])
    have hl' : ys.length ≤ 3 := by simp at hl; omega
    have hv := valN_lt ys hys (by omega)
    have hb : valN ys < 16777216 := Int.lt_of_lt_of_le hv.2 (pow3 hl')
    rw [valN_cons]
    show (256 * valN ys % 4294967296 + y) % 256 :: le ((256 * valN ys % 4294967296 + y) / 256) ys.length = y :: ys
    have e1 : (256 * valN ys % 4294967296 + y) % 256 = y := by omega
    have e2 : (256 * valN ys % 4294967296 + y) / 256 = valN ys := by omega
    rw [e1, e2, ih hys (by omega)]
theorem val_le (n : Int) (m : Nat) (h0 : 0 ≤ n) (h1 : n < 256 ^ m) (hm : m ≤ 4) : valN (le n m) = n := by
  induction m generalizing n with
  | zero => simp at h1; simp [le, valN]; omega
  | succ m ih =>
    have hp : (256 : Int) ^ (m + 1) = 256 * 256 ^ m := by rw [Int.pow_succ, Int.mul_comm]
    rw [hp] at h1
    show 256 * valN (le (n / 256) m) % 4294967296 + n % 256 = n
    rw [ih (n / 256) (by omega) (by omega) (by omega)]
    have h3 : n < 4294967296 := Int.lt_of_lt_of_le (by rw [hp]; exact h1) (pow4 hm)
    omega
theorem nOf_eq {xs : List Int} (h : Bytes xs) : nOf xs = nR xs := by unfold nOf nR; rw [getN_val _ ((h.take _).drop _)]
theorem epOf_eq {xs : List Int} (h : Bytes xs) : epOf xs = epR xs := getN_val _ ((h.take _).drop _)
theorem nuOf_eq {xs : List Int} (h : Bytes xs) : nuOf xs = nuR xs := getN_val _ ((h.take _).drop _)
theorem plOf_eq {xs : List Int} (h : Bytes xs) : plOf xs = plR xs := by unfold plOf plR; rw [nOf_eq h]
theorem take_cut (xs : List Int) (a b : Nat) (h : a ≤ b) : xs.take b = xs.take a ++ (xs.take b).drop a := by
  conv => lhs; rw [← List.take_append_drop a (xs.take b)]
  rw [List.take_take, Nat.min_eq_left h]
/-- a good head and what follows, out of which the reference makes the bytes anew -/
theorem head_again {xs : List Int} (h : Bytes xs) (hg : isBad xs = false) (h13 : ¬ xs.length < 13) (hn : ¬ 600 < nR xs) (hl : ¬ xs.length < 17 + nR xs) :
    pk0 (epR xs) (nuR xs) (rd xs 2 == 1) (plR xs) = xs.take (13 + nR xs) := by
  have hlen : (plR xs).length = nR xs := by unfold plR; simp; omega
  have hv := valN_bd ((xs.take 13).drop 11) ((h.take _).drop _)
  have hN : ((plR xs).length : Int) = valN ((xs.take 13).drop 11) := by rw [hlen]; unfold nR; omega
  have hl4 : ∀ a b : Nat, a ≤ b → b ≤ xs.length → ((xs.take b).drop a).length = b - a := fun a b h1 h2 => by simp; omega
  have e3 : ([83, 66, b01 (rd xs 2 == 1)] : List Int) = xs.take 3 := by
    simp only [isBad, Bool.or_eq_false_iff, Bool.and_eq_false_iff, decide_eq_false_iff_not] at hg
    obtain ⟨⟨g0, g1⟩, g2⟩ := hg
    have g0 := g0.resolve_left (by omega)
    have g1 := g1.resolve_left (by omega)
    have g2 := g2.resolve_left (by omega)
    simp [badAt] at g0 g1 g2
    have r2 := rd_bytes h 2
    have hb : b01 (rd xs 2 == 1) = rd xs 2 := by
      unfold b01
      by_cases h1 : rd xs 2 = 1
      · simp [h1]
      · have : rd xs 2 = 0 := by omega
        simp [this]
    rw [hb]
    apply List.ext_getElem
    · simp; omega
    · intro i hi hi2
      have hi3 : i < 3 := by simpa using hi
      have hx : ∀ j : Nat, (hj : j < xs.length) → rd xs j = xs[j] := fun j hj => by simp [rd, List.getD_eq_getElem?_getD, List.getElem?_eq_getElem hj]
      rcases (show i = 0 ∨ i = 1 ∨ i = 2 by omega) with rfl | rfl | rfl
      · have := hx 0 (by omega); simp; rw [← this]; exact g0.symm
      · have := hx 1 (by omega); simp; rw [← this]; exact g1.symm
      · have := hx 2 (by omega); simp; rw [← this]; rfl
  have e7 : le (epR xs) 4 = (xs.take 7).drop 3 := by have := le_val ((xs.take 7).drop 3) ((h.take _).drop _) (by rw [hl4 3 7 (by omega) (by omega)]; omega); rw [hl4 3 7 (by omega) (by omega)] at this; exact this
  have e11 : le (nuR xs) 4 = (xs.take 11).drop 7 := by have := le_val ((xs.take 11).drop 7) ((h.take _).drop _) (by rw [hl4 7 11 (by omega) (by omega)]; omega); rw [hl4 7 11 (by omega) (by omega)] at this; exact this
  have e13 : le (plR xs).length 2 = (xs.take 13).drop 11 := by rw [hN]; have := le_val ((xs.take 13).drop 11) ((h.take _).drop _) (by rw [hl4 11 13 (by omega) (by omega)]; omega); rw [hl4 11 13 (by omega) (by omega)] at this; exact this
  unfold pk0
  rw [e3, e7, e11, e13, ← take_cut xs 3 7 (by omega), ← take_cut xs 7 11 (by omega), ← take_cut xs 11 13 (by omega)]
  exact (take_cut xs 13 (13 + nR xs) (by omega)).symm
/-- both ways of parsing say the same -/
theorem prs_same {xs : List Int} (h : Bytes xs) : prs xs = rprs xs := by
  unfold prs rprs
  rw [nOf_eq h]
  by_cases hg : isBad xs = true
  · rw [if_pos hg, if_pos hg]
  rw [if_neg hg, if_neg hg]
  by_cases h13 : xs.length < 13
  · rw [if_pos h13, if_pos h13]
  rw [if_neg h13, if_neg h13]
  by_cases h6 : 600 < nR xs
  · rw [if_pos h6, if_pos h6]
  rw [if_neg h6, if_neg h6]
  by_cases hl : xs.length < 17 + nR xs
  · rw [if_pos hl, if_pos hl]
  rw [if_neg hl, if_neg hl]
  have hh := head_again h (by simpa using hg) h13 h6 hl
  have hb := h.take (17 + nR xs)
  have hb4 := hb.drop (13 + nR xs)
  have hlen : ((xs.take (17 + nR xs)).drop (13 + nR xs)).length = 4 := by simp; omega
  have hl4 := le_val _ hb4 (by rw [hlen]; omega)
  rw [hlen] at hl4
  have hrb := refL_bd (xs.take (13 + nR xs))
  have key : pkR (epR xs) (nuR xs) (rd xs 2 == 1) (plR xs) = xs.take (17 + nR xs) ↔ crcW 0 (xs.take (13 + nR xs)) = getN ((xs.take (17 + nR xs)).drop (13 + nR xs)) := by
    unfold pkR
    rw [hh, sum_same _ (h.take _), getN_val _ hb4]
    constructor
    · intro e
      have e2 : le (4294967295 - refL (xs.take (13 + nR xs))) 4 = (xs.take (17 + nR xs)).drop (13 + nR xs) := by
        rw [← e, List.drop_append_of_le_length (by simp; omega), List.drop_of_length_le (by simp; omega)]; rfl
      rw [← e2, val_le _ 4 (by omega) (by omega) (by omega)]
    · intro e
      rw [e, hl4]
      exact (take_cut xs (13 + nR xs) (17 + nR xs) (by omega)).symm
  by_cases hk : crcW 0 (xs.take (13 + nR xs)) = getN ((xs.take (17 + nR xs)).drop (13 + nR xs))
  · rw [if_pos hk, if_pos (key.2 hk)]
  · rw [if_neg hk, if_neg (fun e => hk (key.1 e))]

end Go.Proofs.Ytapiimahhkfjnaa
