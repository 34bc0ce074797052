/- The plain laws: the two sums are one, the two readings of numbers too, and so are the two ways of parsing. -/
import Derived.Test.YtapiimahhkfjnaaH
namespace Go.Proofs.Ytapiimahhkfjnaa
open Go.RowKit Go.Proofs.YtapiimahhkfjnaaW.PrintWords Go.Sb

def tn (b : BitVec 32) : Int := b.toNat
theorem tn_bd (b : BitVec 32) : 0 ≤ tn b ∧ tn b ≤ 4294967295 := by have := b.isLt; unfold tn; omega
theorem xor_tn (a b : BitVec 32) : bits .xor .u32 (tn a) (tn b) = tn (a ^^^ b) := by
  show IntKind.u32.wrap ((BitVec.ofInt 32 (a.toNat : Int) ^^^ BitVec.ofInt 32 (b.toNat : Int)).toNat : Int) = _
  rw [IntKind.wrap_u32]
  have h := (a ^^^ b).isLt
  simp only [BitVec.ofInt_natCast, BitVec.ofNat_toNat, BitVec.setWidth_eq, tn]
  omega
theorem and_tn (a b : BitVec 32) : bits .and .u32 (tn a) (tn b) = tn (a &&& b) := by
  show IntKind.u32.wrap ((BitVec.ofInt 32 (a.toNat : Int) &&& BitVec.ofInt 32 (b.toNat : Int)).toNat : Int) = _
  rw [IntKind.wrap_u32]
  have h := (a &&& b).isLt
  simp only [BitVec.ofInt_natCast, BitVec.ofNat_toNat, BitVec.setWidth_eq, tn]
  omega
theorem shr_tn (a : BitVec 32) (k : Nat) : tn (a >>> k) = tn a / 2 ^ k := by
  simp only [tn, BitVec.toNat_ushiftRight, Nat.shiftRight_eq_div_pow]
  simp
theorem tn_of {x : Int} (h0 : 0 ≤ x) (h1 : x ≤ 4294967295) : ∃ b : BitVec 32, x = tn b := by
  refine ⟨BitVec.ofNat 32 x.toNat, ?_⟩
  simp only [tn, BitVec.toNat_ofNat]
  omega

/-- one bit of the sum, as a whole word -/
def sb (c : BitVec 32) : BitVec 32 := (c >>> 1) ^^^ (if c.getLsbD 0 then 2197175160#32 else 0#32)
def sbn : Nat → BitVec 32 → BitVec 32
  | 0, c => c
  | k + 1, c => sb (sbn k c)
theorem sb_xor (a b : BitVec 32) : sb (a ^^^ b) = sb a ^^^ sb b := by
  unfold sb
  rw [BitVec.ushiftRight_xor_distrib, BitVec.getLsbD_xor]
  have h : ∀ x y : Bool, (if (x ^^ y) = true then 2197175160#32 else 0#32) = (if x = true then 2197175160#32 else 0#32) ^^^ (if y = true then 2197175160#32 else 0#32) := by decide
  rw [h]
  ac_rfl
theorem sbn_xor (k : Nat) (a b : BitVec 32) : sbn k (a ^^^ b) = sbn k a ^^^ sbn k b := by
  induction k with
  | zero => rfl
  | succ k ih => simp only [sbn, ih, sb_xor]
theorem sbn_succ' (k : Nat) (c : BitVec 32) : sbn (k + 1) c = sbn k (sb c) := by
  induction k with
  | zero => rfl
  | succ k ih => show sb (sbn (k + 1) c) = sb (sbn k (sb c)); rw [ih]
theorem sbn_add (i j : Nat) (c : BitVec 32) : sbn (i + j) c = sbn i (sbn j c) := by
  induction i with
  | zero => simp [sbn]
  | succ i ih => rw [show i + 1 + j = (i + j) + 1 by omega]; simp only [sbn, ih]
theorem sb_even (c : BitVec 32) (h : c.getLsbD 0 = false) : sb c = c >>> 1 := by unfold sb; rw [h]; simp
/-- four bits at once, by the table -/
theorem sb4 (c : BitVec 32) : sbn 4 c = sbn 4 (c &&& 15#32) ^^^ (c >>> 4) := by
  have h : c = (c &&& 15#32) ^^^ (c &&& 4294967280#32) := by
    apply BitVec.eq_of_getLsbD_eq
    intro i hi
    rw [BitVec.getLsbD_xor, BitVec.getLsbD_and, BitVec.getLsbD_and]
    have : ∀ i, i < 32 → (15#32).getLsbD i = !(4294967280#32).getLsbD i := by decide
    rw [this i hi]
    cases c.getLsbD i <;> cases (4294967280#32).getLsbD i <;> rfl
  have e : ∀ d : BitVec 32, (d.getLsbD 0 = false ∧ d.getLsbD 1 = false ∧ d.getLsbD 2 = false ∧ d.getLsbD 3 = false) → sbn 4 d = d >>> 4 := by
    intro d ⟨h0, h1, h2, h3⟩
    simp only [sbn]
    rw [sb_even d h0, sb_even (d >>> 1) (by simpa using h1), sb_even (d >>> 1 >>> 1) (by rw [← BitVec.shiftRight_add]; simpa using h2), sb_even (d >>> 1 >>> 1 >>> 1) (by rw [← BitVec.shiftRight_add, ← BitVec.shiftRight_add]; simpa using h3)]
    rw [← BitVec.shiftRight_add, ← BitVec.shiftRight_add, ← BitVec.shiftRight_add]
  have hs : (c &&& 4294967280#32) >>> 4 = c >>> 4 := by
    apply BitVec.eq_of_getLsbD_eq
    intro i hi
    rw [BitVec.getLsbD_ushiftRight, BitVec.getLsbD_ushiftRight, BitVec.getLsbD_and]
    have : ∀ i, i < 28 → (4294967280#32).getLsbD (4 + i) = true := by decide
    by_cases h28 : i < 28
    · rw [this i h28]; simp
    · rw [BitVec.getLsbD_of_ge c (4 + i) (by omega)]; simp
  have hd : sbn 4 (c &&& 4294967280#32) = c >>> 4 := by
    rw [e _ ⟨by simp [BitVec.getLsbD_and], by simp [BitVec.getLsbD_and], by simp [BitVec.getLsbD_and], by simp [BitVec.getLsbD_and]⟩, hs]
  conv => lhs; rw [h]
  rw [sbn_xor, hd]

theorem tab_sb : ∀ i : Nat, i < 16 → tabl.getD i 0 = tn (sbn 4 (BitVec.ofNat 32 i)) := by decide +kernel
theorem crcN_tn (c : BitVec 32) : crcN (tn c) = tn (sbn 4 c) := by
  unfold crcN
  have h15 : (15 : Int) = tn 15#32 := rfl
  rw [h15, and_tn]
  have hlt : (c &&& 15#32).toNat < 16 := by
    rw [BitVec.toNat_and]
    exact Nat.lt_of_le_of_lt Nat.and_le_right (by decide)
  have e : tabAt (tn (c &&& 15#32)) = tn (sbn 4 (c &&& 15#32)) := by
    unfold tabAt
    rw [show (tn (c &&& 15#32)).toNat = (c &&& 15#32).toNat from rfl, tab_sb _ hlt]
    simp
  have e2 : tn c / (16 : Int) = tn (c >>> 4) := by rw [shr_tn]; rfl
  rw [e, e2, xor_tn, ← sb4]
theorem crcB_tn (c x : BitVec 32) : crcB (tn c) (tn x) = tn (sbn 8 (c ^^^ x)) := by
  unfold crcB
  rw [xor_tn, crcN_tn, crcN_tn, ← sbn_add]
/-- the reference's bits of a byte -/
def bitOf (x k : Nat) : BitVec 32 := BitVec.ofNat 32 (x / 2 ^ k % 2)
def foldB (x : Nat) (c : BitVec 32) : Nat → BitVec 32
  | 0 => c
  | k + 1 => sb (foldB x c k ^^^ bitOf x k)
theorem foldB_lin (x : Nat) (c : BitVec 32) (k : Nat) : foldB x c k = sbn k c ^^^ foldB x 0#32 k := by
  induction k with
  | zero => simp [foldB, sbn]
  | succ k ih => simp only [foldB, sbn, ih, sb_xor]; ac_rfl
theorem foldB_byte : ∀ x : Nat, x < 256 → foldB x 0#32 8 = sbn 8 (BitVec.ofNat 32 x) := by decide +kernel
theorem refBit_tn (x : Nat) (c : BitVec 32) (k : Nat) : refBit (x : Int) (tn c) k = tn (sb (c ^^^ bitOf x k)) := by
  have hb : ∀ d : BitVec 32, (tn d % 2 = 1) ↔ d.getLsbD 0 = true := by
    intro d
    unfold tn
    rw [BitVec.getLsbD, Nat.testBit_zero]
    simp only [decide_eq_true_eq]
    omega
  have hx : (((x : Int) / 2 ^ k).tmod 2) = ((x / 2 ^ k % 2 : Nat) : Int) := by
    rw [Int.tmod_eq_emod_of_nonneg (Int.ediv_nonneg (Int.natCast_nonneg _) (Int.le_of_lt (Int.pow_pos (by omega))))]
    simp
  have h1 : (c ^^^ bitOf x k) >>> 1 = c >>> 1 := by
    apply BitVec.eq_of_getLsbD_eq
    intro i hi
    rw [BitVec.getLsbD_ushiftRight, BitVec.getLsbD_ushiftRight, BitVec.getLsbD_xor]
    have : (bitOf x k).getLsbD (1 + i) = false := by
      unfold bitOf
      rw [BitVec.getLsbD_ofNat]
      have h2 : x / 2 ^ k % 2 < 2 ^ (1 + i) := Nat.lt_of_lt_of_le (Nat.mod_lt _ (by omega)) (by rw [Nat.add_comm, Nat.pow_succ]; have := Nat.two_pow_pos i; omega)
      rw [Nat.testBit_lt_two_pow h2]; simp
    rw [this]; simp
  have h0 : (bitOf x k).getLsbD 0 = decide (x / 2 ^ k % 2 = 1) := by
    unfold bitOf
    rw [BitVec.getLsbD_ofNat, Nat.testBit_zero]
    simp
  unfold refBit sb
  rw [hx, h1, BitVec.getLsbD_xor, h0]
  have hP : (2197175160 : Int) = tn 2197175160#32 := rfl
  have hc2 : tn c / (2 : Int) = tn (c >>> 1) := by rw [shr_tn]; rfl
  rw [hc2, hP, xor_tn]
  have hm : tn c % 2 = if c.getLsbD 0 = true then 1 else 0 := by
    have := hb c
    cases hq : c.getLsbD 0 with
    | true => simp only [if_true]; exact this.2 hq
    | false =>
      have h3 : ¬ tn c % 2 = 1 := fun h => by rw [this.1 h] at hq; cases hq
      simp only [Bool.false_eq_true, if_false]
      omega
  rw [hm]
  rcases Nat.mod_two_eq_zero_or_one (x / 2 ^ k) with h | h <;> rw [h] <;> cases c.getLsbD 0 <;> simp
theorem refByte_tn (x : Nat) (c : BitVec 32) : refByte (tn c) (x : Int) = tn (foldB x c 8) := by
  have h : ∀ k, refK (tn c) (x : Int) k = tn (foldB x c k) := by
    intro k
    induction k with
    | zero => rfl
    | succ k ih => rw [refK_succ, ih, refBit_tn]; rfl
  exact h 8
theorem byte_same (x : Nat) (hx : x < 256) (c : BitVec 32) : crcB (tn c) (x : Int) = refByte (tn c) (x : Int) := by
  have e : (x : Int) = tn (BitVec.ofNat 32 x) := by
    simp only [tn, BitVec.toNat_ofNat]; omega
  rw [refByte_tn, foldB_lin, foldB_byte x hx, e, crcB_tn, sbn_xor]
theorem crcB_bd (c x : Int) : 0 ≤ crcB c x ∧ crcB c x ≤ 4294967295 := ⟨u32_lo .xor _ _, u32_hi .xor _ _⟩
theorem crcL_ref (xs : List Int) (h : Bytes xs) : ∀ c : Int, 0 ≤ c → c ≤ 4294967295 → crcL c xs = xs.foldl refByte c := by
  induction xs with
  | nil => intro c _ _; rfl
  | cons x xs ih =>
    intro c h0 h1
    obtain ⟨b, rfl⟩ := tn_of h0 h1
    obtain ⟨n, rfl⟩ := Int.eq_ofNat_of_zero_le (h x (by simp)).1
    have hn : n < 256 := by have := (h (n : Int) (by simp)).2; omega
    have hb := crcB_bd (tn b) n
    show crcL (crcB (tn b) n) xs = xs.foldl refByte (refByte (tn b) n)
    rw [← byte_same n hn b]
    exact ih (fun y hy => h y (by simp [hy])) _ hb.1 hb.2
theorem not_tn (c : BitVec 32) : bits .xor .u32 IntKind.u32.max (tn c) = 4294967295 - tn c := by
  have hm : IntKind.u32.max = tn 4294967295#32 := rfl
  rw [hm, xor_tn]
  have : 4294967295#32 ^^^ c = ~~~ c := by
    apply BitVec.eq_of_getLsbD_eq
    intro i hi
    have h1 : ∀ i, i < 32 → (4294967295#32).getLsbD i = true := by decide
    rw [BitVec.getLsbD_xor, h1 i hi, BitVec.getLsbD_not]
    simp [hi]
  rw [this]
  unfold tn
  rw [BitVec.toNat_not]
  have := c.isLt
  omega
/-- the two sums are one -/
theorem sum_same (xs : List Int) (h : Bytes xs) : crcW 0 xs = 4294967295 - refL xs := by
  unfold crcW
  have h0 : bits .xor .u32 IntKind.u32.max 0 = 4294967295 := by
    have := not_tn 0#32
    simpa [tn] using this
  rw [h0, crcL_ref xs h _ (by omega) (by omega)]
  have hb := refL_bd xs
  obtain ⟨b, hb2⟩ := tn_of hb.1 hb.2
  show bits .xor .u32 IntKind.u32.max (refL xs) = _
  rw [hb2, not_tn]

end Go.Proofs.Ytapiimahhkfjnaa
