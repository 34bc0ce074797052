/- The reference's leaves: numbers, sums, values. -/
import Derived.Test.YtapiimahhkfjnaaC
namespace Go.Proofs.Ytapiimahhkfjnaa
open Go.RowKit Go.Proofs.YtapiimahhkfjnaaW.PrintWords Go.Sb

set_option maxHeartbeats 400000 in
theorem number_any (w : World) (n : Int) (m : Nat) (h0 : 0 ≤ n) (h1 : n ≤ 4294967295) (hm : m ≤ 16) :
    Calls Try.prog 21 #[.int .u32 n, .int .i64 m] w fun e w' => ∃ v', e = .returned v' ∧ w'.ownsRow w.heap.size 5 1 v' (le n m).length (nums .u8 (le n m)) ∧ Below w.heap.size w w' := by
  go_enter Try.func21, Try.ntmps21
  go_wp2
  go_loopw [0, 5, 6] (fun x b i wr => ∃ (k : Nat) (ys : List Int) , k ≤ m ∧ i = .int .i64 k ∧ x = .int .u32 (leN n k) ∧ Hid (ys = le n k) ∧ ys.length = k ∧ wr.ownsRow w.heap.size 5 1 b ys.length (nums .u8 ys) ∧ Below w.heap.size w wr) (fun _ _ i _ => m - (intOf i).toNat)
  case atStart => exact ⟨0, [], Nat.zero_le _, rfl, by simp [leN], Lib.hid (by simp [le]), rfl, own_nil _ _ _ _, Below.refl _ _⟩
  case round =>
    obtain ⟨k, ys, hk, rfl, rfl, HY, hyl, hown, hb⟩ := hrel
    obtain ⟨hn0, hn1⟩ := leN_bd n k h0 h1
    have hnx := Lib.hid (leN_succ n k)
    have hsn := Lib.hid (le_snoc n k)
    by_cases hlt : k < m
    · generalize leN n k = nk at *
      go_wp2_with (first | (at_builtin; refine print_append_num (w0 := w) w.heap.size rfl (.tmp 12) (.tmp 16) 23 5 .u8 1 rfl Try.underlying23 info5 (by omega) u5 ys (nk % 256) rfl rfl hown hb hb.size (by omega) ?_; intro v1 w1 hown1 hb1 _ _))
      go_roundw
      case rel => exact ⟨k + 1, _, by omega, by go_num, by rw [hnx.out], Lib.hid (by rw [hsn.out, HY.out]), by simp; omega, hown1, hb1⟩
      case measure => simp [intOf]; omega
    · obtain rfl : k = m := by omega
      go_wp2
      go_ret
      exact ⟨_, rfl, by rw [← HY.out]; exact hown, hb⟩

/-- one bit of the reference's sum -/
def refBit (x : Int) (c : Int) (k : Nat) : Int := if (c % 2 != (x / 2 ^ k).tmod 2) = true then bits .xor .u32 (c / 2) 2197175160 else c / 2
def refByte (c x : Int) : Int := (List.range 8).foldl (refBit x) c
def refL (xs : List Int) : Int := xs.foldl refByte 4294967295
def refK (c x : Int) (k : Nat) : Int := (List.range k).foldl (refBit x) c
theorem refK_succ (c x : Int) (k : Nat) : refK c x (k + 1) = refBit x (refK c x k) k := by simp [refK, List.range_succ]
theorem refBit_bd (x c : Int) (k : Nat) (h : 0 ≤ c ∧ c ≤ 4294967295) : 0 ≤ refBit x c k ∧ refBit x c k ≤ 4294967295 := by
  unfold refBit
  split
  · exact ⟨u32_lo _ _ _, u32_hi _ _ _⟩
  · omega
theorem refK_bd (c x : Int) (k : Nat) (h : 0 ≤ c ∧ c ≤ 4294967295) : 0 ≤ refK c x k ∧ refK c x k ≤ 4294967295 := by
  induction k with
  | zero => simpa [refK] using h
  | succ k ih => rw [refK_succ]; exact refBit_bd _ _ _ ih
theorem refF_bd (xs : List Int) (c : Int) (h : 0 ≤ c ∧ c ≤ 4294967295) : 0 ≤ xs.foldl refByte c ∧ xs.foldl refByte c ≤ 4294967295 := by
  induction xs generalizing c with
  | nil => exact h
  | cons x xs ih => exact ih _ (refK_bd c x 8 h)
theorem refL_bd (xs : List Int) : 0 ≤ refL xs ∧ refL xs ≤ 4294967295 := refF_bd xs _ (by omega)

set_option maxHeartbeats 1000000 in
theorem refOf_any (w : World) (A : Option Addr) (cap : Nat) (xs : List Int) (hx : Kd.C (Kd.int .u8) w A xs.length xs) (hby : Bytes xs) :
    Calls Try.prog 22 #[.slice A xs.length cap] w fun e w' => e = .returned (.int .u32 (4294967295 - refL xs)) ∧ w = w' := by
  have hl := Kd.C_max hx
  go_enter Try.func22, Try.ntmps22
  go_wp2
  go_loop [3, 4] (fun c i => ∃ k : Nat, k ≤ xs.length ∧ i = .int .i64 k ∧ c = .int .u32 (refL (xs.take k))) (fun _ i => xs.length - (intOf i).toNat)
  case atStart => exact ⟨0, Nat.zero_le _, rfl, rfl⟩
  case round =>
    obtain ⟨k, hk, rfl, rfl⟩ := hrel
    obtain ⟨hb0, hb1⟩ := refL_bd (xs.take k)
    by_cases hlt : k < xs.length
    · obtain ⟨ad, rfl, hcell⟩ := at_u8 hx k hlt
      obtain ⟨hr0, hr1⟩ := rd_bytes hby k
      have hstep : refL (xs.take (k + 1)) = refK (refL (xs.take k)) (rd xs k) 8 := by
        rw [take_rd hlt]; simp [refL, refK, refByte]
      have HS := Lib.hid hstep
      clear hstep
      generalize refL (xs.take k) = ck at *
      generalize rd xs k = x at *
      go_wp2
      go_loop [3, 5] (fun c i => ∃ (j : Nat) (cj : Int), j ≤ 8 ∧ i = .int .i64 j ∧ c = .int .u32 cj ∧ Hid (cj = refK ck x j)) (fun _ i => 8 - (intOf i).toNat)
      case atStart => exact ⟨0, ck, Nat.zero_le _, rfl, rfl, Lib.hid rfl⟩
      case round =>
        obtain ⟨j, cj, hj, rfl, rfl, HC⟩ := hrel
        have hcb := refK_bd ck x j ⟨hb0, hb1⟩
        rw [← HC.out] at hcb
        obtain ⟨hc0, hc1⟩ := hcb
        by_cases hlj : j < 8
        · go_wp2
          · have ht : (cj % 2 != (x / 2 ^ j).tmod 2) = true := by assumption
            go_round
            case rel => exact ⟨j + 1, _, by omega, by go_num, rfl, Lib.hid (by rw [refK_succ, ← HC.out, refBit, if_pos ht])⟩
            case measure => simp [intOf]; omega
          · have ht : (cj % 2 != (x / 2 ^ j).tmod 2) = false := by assumption
            go_round
            case rel => exact ⟨j + 1, _, by omega, by go_num, rfl, Lib.hid (by rw [refK_succ, ← HC.out, refBit, if_neg (by rw [ht]; simp)])⟩
            case measure => simp [intOf]; omega
        · obtain rfl : j = 8 := by omega
          clear hlj
          go_wp2
          go_round
          case rel => exact ⟨k + 1, by omega, by go_num, by rw [HS.out, HC.out]⟩
          case measure => simp [intOf]; omega
    · obtain rfl : k = xs.length := by omega
      rw [List.take_length] at hb0 hb1
      go_wp2
      go_ret
      exact ⟨ret_u32 (by omega), rfl⟩

/-- the number of bytes, by the reference -/
def valN (xs : List Int) : Int := xs.foldr (fun c n => 256 * n % 4294967296 + c) 0
theorem valN_bd (xs : List Int) (h : Bytes xs) : 0 ≤ valN xs ∧ valN xs ≤ 4294967295 := by
  cases xs with
  | nil => simp [valN]
  | cons x xs =>
    have hx := h x (by simp)
    show 0 ≤ 256 * valN xs % 4294967296 + x ∧ 256 * valN xs % 4294967296 + x ≤ 4294967295
    omega
theorem drop_rd {xs : List Int} {k : Nat} (h : k < xs.length) : xs.drop k = rd xs k :: xs.drop (k + 1) := by
  rw [List.drop_eq_getElem_cons h]
  simp [rd, List.getD_eq_getElem?_getD, List.getElem?_eq_getElem h]

set_option maxHeartbeats 400000 in
theorem value2_any (w : World) (A : Option Addr) (cap : Nat) (xs : List Int) (hx : Kd.C (Kd.int .u8) w A xs.length xs) (hby : Bytes xs) :
    Calls Try.prog 23 #[.slice A xs.length cap] w fun e w' => e = .returned (.int .u32 (valN xs)) ∧ w = w' := by
  have hl := Kd.C_max hx
  go_enter Try.func23, Try.ntmps23
  go_wp2
  go_loop [3, 4] (fun c i => ∃ (m : Nat) (q n : Int), m ≤ xs.length ∧ i = .int .i64 q ∧ Hid (q = (m : Int) - 1) ∧ c = .int .u32 n ∧ Hid (n = valN (xs.drop m))) (fun _ i => ((intOf i) + 1).toNat)
  case atStart => exact ⟨xs.length, _, _, Nat.le_refl _, rfl, Lib.hid rfl, rfl, Lib.hid (by simp [valN])⟩
  case round =>
    obtain ⟨m, q, n, hk, rfl, hq, rfl, hn⟩ := hrel
    rcases m with _ | j
    · obtain rfl : q = -1 := by have := hq.out; omega
      go_wp2
      go_ret
      exact ⟨ret_u32 hn.out, rfl⟩
    · obtain rfl : q = (j : Int) := by have := hq.out; omega
      clear hq
      obtain ⟨ad, rfl, hcell⟩ := at_u8 hx j (by omega)
      obtain ⟨hr0, hr1⟩ := rd_bytes hby j
      have hd := Lib.hid (drop_rd (xs := xs) (k := j) (by omega))
      go_wp2
      go_round
      case rel => exact ⟨j, _, _, by omega, rfl, Lib.hid rfl, rfl, Lib.hid (by rw [hd.out, hn.out]; rfl)⟩
      case measure => simp [intOf]

end Go.Proofs.Ytapiimahhkfjnaa
