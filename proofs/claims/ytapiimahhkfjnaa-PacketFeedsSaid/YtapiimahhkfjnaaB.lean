/- Numbers as bytes, a clone of bytes. -/
import Derived.Test.YtapiimahhkfjnaaA
namespace Go.Proofs.Ytapiimahhkfjnaa
open Go.RowKit Go.Proofs.YtapiimahhkfjnaaW.PrintWords Go.Sb

theorem info5 : (Try.prog.info? 5).map (fun i => (i.zero, i.size, i.bytes)) = some (some (.int .u8 0), 1, 1) := by kernel_rfl

/-- a number's bytes, the lowest first -/
def le (n : Int) : Nat → List Int
  | 0 => []
  | m + 1 => n % 256 :: le (n / 256) m
def leN (n : Int) (k : Nat) : Int := n / (256 : Int) ^ k
theorem le_snoc (n : Int) (k : Nat) : le n (k + 1) = le n k ++ [leN n k % 256] := by
  induction k generalizing n with
  | zero => simp [le, leN]
  | succ k ih => 
    show n % 256 :: le (n / 256) (k + 1) = n % 256 :: le (n / 256) k ++ [leN n (k + 1) % 256]
    rw [ih]
    simp only [leN, List.cons_append]
    rw [Int.ediv_ediv_of_nonneg (by omega), Int.pow_succ, Int.mul_comm]
theorem le_length (n : Int) (k : Nat) : (le n k).length = k := by
  induction k generalizing n with
  | zero => rfl
  | succ k ih => simp [le, ih]
theorem leN_succ (n : Int) (k : Nat) : leN n k / 256 = leN n (k + 1) := by
  simp only [leN]; rw [Int.ediv_ediv_of_nonneg (Int.le_of_lt (Int.pow_pos (by omega))), Int.pow_succ]
theorem leN_bd (n : Int) (k : Nat) (h0 : 0 ≤ n) (h1 : n ≤ 4294967295) : 0 ≤ leN n k ∧ leN n k ≤ 4294967295 := by
  have h := Int.ediv_nonneg (b := (256 : Int) ^ k) h0 (Int.le_of_lt (Int.pow_pos (by omega)))
  have h2 := Int.ediv_le_self ((256 : Int) ^ k) h0
  unfold leN; omega

set_option maxHeartbeats 400000 in
theorem put_any (w : World) (v : Value) (xs : List Int) (n : Int) (m : Nat) (base : Nat) (h0 : 0 ≤ n) (h1 : n ≤ 4294967295) (hm : m ≤ 16)
    (ho : w.ownsRow base 5 1 v xs.length (nums .u8 xs)) (hb : base ≤ w.heap.size) (hl : xs.length ≤ 1000000) :
    Calls Try.prog 17 #[v, .int .u32 n, .int .i64 m] w fun e w' => ∃ v', e = .returned v' ∧ w'.ownsRow base 5 1 v' (xs ++ le n m).length (nums .u8 (xs ++ le n m)) ∧
      Fr (OwnB v) w w' ∧ (v'.ownBlock = v.ownBlock ∨ ∃ b, v'.ownBlock = some b ∧ w.heap.size ≤ b) := by
  go_enter Try.func17, Try.ntmps17
  go_wp2
  go_loopw [0, 1, 8] (fun b x i wr => ∃ (k : Nat) (ys : List Int) , k ≤ m ∧ i = .int .i64 k ∧ x = .int .u32 (leN n k) ∧ Hid (ys = xs ++ le n k) ∧ ys.length = xs.length + k ∧ wr.ownsRow base 5 1 b ys.length (nums .u8 ys) ∧ Fr (OwnB v) w wr ∧ (b.ownBlock = v.ownBlock ∨ ∃ g, b.ownBlock = some g ∧ w.heap.size ≤ g)) (fun _ _ i _ => m - (intOf i).toNat)
  case atStart => exact ⟨0, xs, Nat.zero_le _, rfl, by simp [leN], Lib.hid (by simp [le]), rfl, ho, Fr.refl _ _, .inl rfl⟩
  case round =>
    obtain ⟨k, ys, hk, rfl, rfl, HY, hyl, hown, hfr, hat⟩ := hrel
    obtain ⟨hn0, hn1⟩ := leN_bd n k h0 h1
    have hnx := Lib.hid (leN_succ n k)
    have hsn := Lib.hid (le_snoc n k)
    by_cases hlt : k < m
    · generalize leN n k = nk at *
      go_wp2_with (first | (at_builtin; refine print_append_num (w0 := wr) base rfl (.tmp 10) (.tmp 13) 23 5 .u8 1 rfl Try.underlying23 info5 (by omega) u0 ys (nk % 256) rfl rfl hown (Below.refl _ _) (by have := hfr.size; omega) (by omega) ?_; intro v1 w1 hown1 _ hg1 hat1))
      go_roundw
      case rel => exact ⟨k + 1, _, by omega, by go_num, by rw [hnx.out], Lib.hid (by rw [hsn.out, HY.out, List.append_assoc]), by simp; omega, hown1, hfr.grown hg1 (fun b hb2 => by
        rcases hat with h | ⟨g, h, hg⟩
        · left; show v.ownBlock = some b; rw [← h]; exact hb2
        · right; rw [h] at hb2; cases hb2; exact hg), by
        rcases hat1 with h | ⟨g, h, hg⟩
        · rw [h]; exact hat
        · exact .inr ⟨g, h, Nat.le_trans hfr.size hg⟩⟩
      case measure => simp [intOf]; omega
    · obtain rfl : k = m := by omega
      go_wp2
      go_ret
      exact ⟨_, rfl, by rw [← HY.out]; exact hown, hfr, hat⟩


set_option maxHeartbeats 400000 in
theorem clone_any (w : World) (A : Option Addr) (cap : Nat) (xs : List Int) (hx : Kd.C (Kd.int .u8) w A xs.length xs) (hl : xs.length ≤ 1000000) :
    Calls Try.prog 20 #[.slice A xs.length cap] w fun e w' => ∃ v', e = .returned v' ∧ w'.ownsRow w.heap.size 5 1 v' xs.length (nums .u8 xs) ∧ Below w.heap.size w w' := by
  have hR := ri_of_C hx
  rcases A with _ | ad
  · have h0 : xs = [] := by
      rcases Nat.eq_zero_or_pos xs.length with h | h
      · exact List.eq_nil_of_length_eq_zero h
      · obtain ⟨ad, h, _⟩ := hR.2.2 h; cases h
    subst h0
    have he : ∀ W, (binOp .eql 23 (.slice none 0 cap) (.slice none 0 0)).run Try.prog W = .ok (.bool true) W := fun W => Lib.run_eql_slice_nil W 23 5 none 0 cap 0 0 Try.underlying23
    go_enter Try.func20, Try.ntmps20
    go_wp2
    go_ret
    exact ⟨_, rfl, own_nil _ _ _ _, Below.refl _ _⟩
  · have he : ∀ W, (binOp .eql 23 (.slice (some ad) xs.length cap) (.slice none 0 0)).run Try.prog W = .ok (.bool false) W := fun W => Lib.run_eql_slice_nil W 23 5 (some ad) xs.length cap 0 0 Try.underlying23
    go_enter Try.func20, Try.ntmps20
    go_wp2_with (first | (at_builtin; refine print_append_row (w0 := w) w.heap.size rfl (.tmp 5) (.tmp 6) 23 5 .u8 1 rfl Try.underlying23 info5 (by omega) _ [] xs (some ad) xs.length cap rfl rfl (own_lit w w.heap.size 5 .u8 [] (Nat.le_refl _) (by simp)) (hR.allocS _) ((Below.refl _ _).alloc (Nat.le_refl _) _) (by simp) (by simp; omega) ?_; intro v1 w1 hown1 hb1 _ _))
    go_ret
    exact ⟨_, rfl, hown1, hb1⟩

end Go.Proofs.Ytapiimahhkfjnaa
