/- Bytes that come in pieces: what is made of them. -/
import Derived.Test.YtapiimahhkfjnaaS
namespace Go.Proofs.Ytapiimahhkfjnaa
open Go.RowKit Go.Proofs.YtapiimahhkfjnaaW.PrintWords Go.Sb

theorem badAt_app {xs ys : List Int} {k : Nat} (h : k < xs.length) : badAt (xs ++ ys) k = badAt xs k := by
  unfold badAt
  rcases (show k = 0 ∨ k = 1 ∨ k = 2 ∨ 2 < k by omega) with rfl | rfl | rfl | h3
  · have : rd (xs ++ ys) 0 = rd xs 0 := rd_app (b := ys) 0 h
    simp [this]
  · have : rd (xs ++ ys) 1 = rd xs 1 := rd_app (b := ys) 1 h
    simp [this]
  · have : rd (xs ++ ys) 2 = rd xs 2 := rd_app (b := ys) 2 h
    simp [this]
  · have a : (k == 0) = false := by simp; omega
    have b : (k == 1) = false := by simp; omega
    have c : (k == 2) = false := by simp; omega
    simp [a, b, c]
theorem isBad_app {xs ys : List Int} (h : isBad xs = true) : isBad (xs ++ ys) = true := by
  have key : ∀ k, k < 3 → k < xs.length → badAt xs k = true → isBad (xs ++ ys) = true := fun k h3 hk hb => bad_of _ k (by rw [List.length_append]; omega) h3 (by rw [badAt_app hk]; exact hb)
  simp only [isBad, Bool.or_eq_true, Bool.and_eq_true, decide_eq_true_eq] at h
  rcases h with (h | h) | h
  · exact key 0 (by omega) h.1 h.2
  · exact key 1 (by omega) h.1 h.2
  · exact key 2 (by omega) h.1 h.2
theorem good_app {xs ys : List Int} (h : isBad xs = false) (hl : 13 ≤ xs.length) : isBad (xs ++ ys) = false := by
  have e0 := badAt_app (xs := xs) (ys := ys) (k := 0) (by omega)
  have e1 := badAt_app (xs := xs) (ys := ys) (k := 1) (by omega)
  have e2 := badAt_app (xs := xs) (ys := ys) (k := 2) (by omega)
  have a0 : decide (0 < (xs ++ ys).length) = decide (0 < xs.length) := by simp; omega
  have a1 : decide (1 < (xs ++ ys).length) = decide (1 < xs.length) := by simp; omega
  have a2 : decide (2 < (xs ++ ys).length) = decide (2 < xs.length) := by simp; omega
  unfold isBad at h ⊢
  rw [e0, e1, e2, a0, a1, a2]
  exact h
theorem take_app {xs ys : List Int} {k : Nat} (h : k ≤ xs.length) : (xs ++ ys).take k = xs.take k := List.take_append_of_le_length h
theorem nOf_app {xs ys : List Int} (h : 13 ≤ xs.length) : nOf (xs ++ ys) = nOf xs := by unfold nOf; rw [take_app h]
theorem prs_nil : prs [] = 2 := by decide
/-- what is decided of bytes stays so, whatever comes behind them -/
theorem prs_app {xs ys : List Int} (h : prs xs ≠ 2) : prs (xs ++ ys) = prs xs := by
  by_cases hb : isBad xs = true
  · rw [prs_bad hb, prs_bad (isBad_app hb)]
  · have hb' : isBad xs = false := by simpa using hb
    by_cases h13 : xs.length < 13
    · exact absurd (by unfold prs; rw [if_neg hb, if_pos h13]) h
    · have hg := good_app (ys := ys) hb' (by omega)
      have hn := nOf_app (ys := ys) (show 13 ≤ xs.length by omega)
      by_cases h6 : 600 < nOf xs
      · unfold prs
        rw [hn, if_neg hb, if_neg h13, if_pos h6, if_neg (by simp [hg]), if_neg (by rw [List.length_append]; omega), if_pos h6]
      · by_cases h17 : xs.length < 17 + nOf xs
        · exact absurd (by unfold prs; rw [if_neg hb, if_neg h13, if_neg h6, if_pos h17]) h
        · unfold prs
          rw [hn, if_neg hb, if_neg h13, if_neg h6, if_neg h17, if_neg (by simp [hg]), if_neg (by rw [List.length_append]; omega), if_neg h6, if_neg (by rw [List.length_append]; omega),
            take_app (by omega), take_app (by omega)]
theorem prs_ok {xs : List Int} (h : prs xs = 0) : 13 ≤ xs.length ∧ 17 + nOf xs ≤ xs.length ∧ nOf xs ≤ 600 := by
  unfold prs at h
  by_cases hb : isBad xs = true
  · rw [if_pos hb] at h; omega
  · rw [if_neg hb] at h
    by_cases h13 : xs.length < 13
    · rw [if_pos h13] at h; omega
    · rw [if_neg h13] at h
      by_cases h6 : 600 < nOf xs
      · rw [if_pos h6] at h; omega
      · rw [if_neg h6] at h
        by_cases h17 : xs.length < 17 + nOf xs
        · rw [if_pos h17] at h; omega
        · omega
/-- what is short is short of a packet -/
theorem prs_short {xs : List Int} (h : prs xs = 2) : xs.length < 617 := by
  unfold prs at h
  by_cases hb : isBad xs = true
  · rw [if_pos hb] at h; omega
  · rw [if_neg hb] at h
    by_cases h13 : xs.length < 13
    · omega
    · rw [if_neg h13] at h
      by_cases h6 : 600 < nOf xs
      · rw [if_pos h6] at h; omega
      · rw [if_neg h6] at h
        by_cases h17 : xs.length < 17 + nOf xs
        · omega
        · rw [if_neg h17] at h; split at h <;> omega
/-- a packet, as it is meant -/
structure Pk where
  ep : Int
  nu : Int
  wh : Bool
  pl : List Int
def pkOf (xs : List Int) : Pk := ⟨pE xs, pN xs, pW xs, pP xs⟩
theorem pkOf_app {xs ys : List Int} (h : prs xs = 0) : pkOf (xs ++ ys) = pkOf xs ∧ pL (xs ++ ys) = pL xs ∧ pL xs ≤ xs.length ∧ 0 < pL xs := by
  obtain ⟨h13, h17, _⟩ := prs_ok h
  have h' : prs (xs ++ ys) = 0 := by rw [prs_app (by omega)]; exact h
  have hn := nOf_app (ys := ys) h13
  have hr : rd (xs ++ ys) 2 = rd xs 2 := rd_app (b := ys) 2 (show 2 < xs.length by omega)
  refine ⟨?_, ?_, ?_, ?_⟩
  · unfold pkOf pE pN pW pP
    rw [h, h', hr]
    simp only [if_true, epOf, nuOf, plOf, hn]
    rw [take_app (by omega), take_app (by omega), take_app (by omega)]
  · unfold pL; rw [h, h', hn]
  · unfold pL; rw [h, if_pos rfl]; omega
  · unfold pL; rw [h, if_pos rfl]; omega

/-- so much was made of bytes, and so many are left -/
inductive Run : List Int → List Pk → Nat → List Int → Prop
  | nil (xs : List Int) : Run xs [] 0 xs
  | pkt {xs : List Int} {ps : List Pk} {l : Nat} {r : List Int} (h : prs xs = 0) (k : Run (xs.drop (pL xs)) ps l r) : Run xs (pkOf xs :: ps) l r
  | bad {xs : List Int} {ps : List Pk} {l : Nat} {r : List Int} (h : prs xs ≠ 0) (h' : prs xs ≠ 2) (k : Run (xs.drop 1) ps l r) : Run xs ps (l + 1) r
theorem Run.trans {xs ys zs : List Int} {ps qs : List Pk} {l m : Nat} (h : Run xs ps l ys) (k : Run ys qs m zs) : Run xs (ps ++ qs) (l + m) zs := by
  induction h with
  | nil => simpa using k
  | pkt h _ ih => exact .pkt h (ih k)
  | @bad xs ps l r h h' _ ih =>
    have := Run.bad h h' (ih k)
    rwa [show l + 1 + m = l + m + 1 by omega]
theorem Run.snocP {xs ys : List Int} {ps : List Pk} {l : Nat} (h : Run xs ps l ys) (k : prs ys = 0) : Run xs (ps ++ [pkOf ys]) l (ys.drop (pL ys)) := h.trans (.pkt k (.nil _))
theorem Run.snocB {xs ys : List Int} {ps : List Pk} {l : Nat} (h : Run xs ps l ys) (k : prs ys ≠ 0) (k' : prs ys ≠ 2) : Run xs ps (l + 1) (ys.drop 1) := by
  have := h.trans (.bad k k' (.nil _))
  simpa using this
theorem len_of_prs {xs : List Int} (h : prs xs ≠ 2) : 0 < xs.length := by
  rcases xs with _ | ⟨x, xs⟩
  · exact absurd prs_nil h
  · simp
theorem Run.app {xs r : List Int} {ps : List Pk} {l : Nat} (h : Run xs ps l r) (ys : List Int) : Run (xs ++ ys) ps l (r ++ ys) := by
  induction h with
  | nil => exact .nil _
  | @pkt xs ps l r h _ ih =>
    obtain ⟨h1, h2, h3, _⟩ := pkOf_app (ys := ys) h
    rw [← h1]
    refine .pkt (by rw [prs_app (by omega)]; exact h) ?_
    rw [h2, List.drop_append_of_le_length h3]
    exact ih
  | @bad xs ps l r h h' _ ih =>
    refine .bad (by rw [prs_app h']; exact h) (by rw [prs_app h']; exact h') ?_
    rw [List.drop_append_of_le_length (len_of_prs h')]
    exact ih
theorem Run.only {xs r r' : List Int} {ps ps' : List Pk} {l l' : Nat} (h : Run xs ps l r) (k : Run xs ps' l' r') (hr : prs r = 2) (hr' : prs r' = 2) : ps = ps' ∧ l = l' ∧ r = r' := by
  induction h generalizing ps' l' with
  | nil =>
    cases k with
    | nil => exact ⟨rfl, rfl, rfl⟩
    | pkt h _ => omega
    | bad _ h' _ => exact absurd hr h'
  | pkt h _ ih =>
    cases k with
    | nil => omega
    | pkt _ k =>
      obtain ⟨rfl, rfl, rfl⟩ := ih k hr
      exact ⟨rfl, rfl, rfl⟩
    | bad h2 _ _ => exact absurd h h2
  | bad h h' _ ih =>
    cases k with
    | nil => exact absurd hr' h'
    | pkt h2 _ => exact absurd h2 h
    | bad _ _ k =>
      obtain ⟨rfl, rfl, rfl⟩ := ih k hr
      exact ⟨rfl, rfl, rfl⟩
theorem Run.len {xs r : List Int} {ps : List Pk} {l : Nat} (h : Run xs ps l r) : r.length ≤ xs.length ∧ ps.length + l + r.length ≤ xs.length := by
  induction h with
  | nil => simp
  | @pkt xs ps l r h _ ih =>
    obtain ⟨_, _, h3, h4⟩ := pkOf_app (ys := []) h
    rw [List.length_drop] at ih
    simp only [List.length_cons]
    omega
  | @bad xs ps l r h h' _ ih =>
    have := len_of_prs h'
    rw [List.length_drop] at ih
    omega
theorem Run.bytes {xs r : List Int} {ps : List Pk} {l : Nat} (h : Run xs ps l r) (hb : Bytes xs) : Bytes r := by
  induction h with
  | nil => exact hb
  | pkt _ _ ih => exact ih (hb.drop _)
  | bad _ _ _ ih => exact ih (hb.drop _)

end Go.Proofs.Ytapiimahhkfjnaa
