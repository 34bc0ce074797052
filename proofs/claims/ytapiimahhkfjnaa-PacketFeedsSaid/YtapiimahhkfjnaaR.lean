/- Two packets held against each other. -/
import Derived.Test.YtapiimahhkfjnaaQ
namespace Go.Proofs.Ytapiimahhkfjnaa
open Go.RowKit Go.Proofs.YtapiimahhkfjnaaW.PrintWords Go.Sb

set_option maxHeartbeats 1000000 in
theorem law_of_any (w : World) (ep nu : Int) (wh : Bool) (A : Option Addr) (len cap : Nat) :
    Calls Try.prog 10 #[.agg #[.int .u32 ep, .int .u32 nu, .bool wh, .slice A len cap]] w fun e w' => e = .returned (.agg #[.int .u32 ep, .int .u32 nu, .bool wh, .slice A len cap]) ∧ Below w.heap.size w w' := by
  go_enter Try.func10, Try.ntmps10
  go_wp2
  exact bodyPost_ret (results_cell_row rfl _ _ (w.heap.size + 1) 33 #[.int .u32 ep, .int .u32 nu, .bool wh, .slice A len cap] (0, 0) _ rfl (heap_alloc2_new _ _ _) Try.underlying33 rfl inf33) rfl ⟨rfl, ((Below.refl _ _).alloc (Nat.le_refl _) _).alloc (by simp) _⟩

set_option maxHeartbeats 1000000 in
theorem same_any (w : World) (e1 n1 e2 n2 : Int) (h1 h2 : Bool) (A1 A2 : Option Addr) (c1 c2 : Nat) (xs ys : List Int) (hx : Kd.C (Kd.int .u8) w A1 xs.length xs) (hy : Kd.C (Kd.int .u8) w A2 ys.length ys) (hbx : Bytes xs) (hby : Bytes ys) :
    Calls Try.prog 11 #[.agg #[.int .u32 e1, .int .u32 n1, .bool h1, .slice A1 xs.length c1], .agg #[.int .u32 e2, .int .u32 n2, .bool h2, .slice A2 ys.length c2]] w fun e w' =>
      e = .returned (.bool (decide (e1 = e2 ∧ n1 = n2 ∧ h1 = h2 ∧ xs = ys))) ∧ Below w.heap.size w w' := by
  have hs1 := Kd.C_string (P := Try.prog) (c := c1) Try.underlying23 Try.underlying5 Try.underlying9 (Kd.C_alloc (Kd.C_alloc hx (.cells #[.int .u32 e1, .int .u32 n1, .bool h1, .slice A1 xs.length c1] 25)) (.cells #[.int .u32 e2, .int .u32 n2, .bool h2, .slice A2 ys.length c2] 33))
  have hs2 := Kd.C_string (P := Try.prog) (c := c2) Try.underlying23 Try.underlying5 Try.underlying9 (Kd.C_alloc (Kd.C_alloc hy (.cells #[.int .u32 e1, .int .u32 n1, .bool h1, .slice A1 xs.length c1] 25)) (.cells #[.int .u32 e2, .int .u32 n2, .bool h2, .slice A2 ys.length c2] 33))
  go_enter Try.func11, Try.ntmps11
  by_cases he : e1 = e2
  · have he1 : (e1 == e2) = true := beq_iff_eq.2 he
    have HE := Lib.hid he
    clear he
    by_cases hn : n1 = n2
    · have hn1 : (n1 == n2) = true := beq_iff_eq.2 hn
      have HN := Lib.hid hn
      clear hn
      by_cases hh : h1 = h2
      · have hh1 : (h1 == h2) = true := beq_iff_eq.2 hh
        have HH := Lib.hid hh
        clear hh
        go_wp2
        go_ret
        exact ⟨ret_bool (by rw [str_eq hbx hby]; simp [HE.out, HN.out, HH.out]), ((Below.refl _ _).alloc (Nat.le_refl _) _).alloc (by simp) _⟩
      · have hh1 : (h1 == h2) = false := beq_eq_false_iff_ne.2 hh
        go_wp2
        go_ret
        exact ⟨ret_bool (by simp [hh]), ((Below.refl _ _).alloc (Nat.le_refl _) _).alloc (by simp) _⟩
    · have hn1 : (n1 == n2) = false := beq_eq_false_iff_ne.2 hn
      go_wp2
      go_ret
      exact ⟨ret_bool (by simp [hn]), ((Below.refl _ _).alloc (Nat.le_refl _) _).alloc (by simp) _⟩
  · have he1 : (e1 == e2) = false := beq_eq_false_iff_ne.2 he
    go_wp2
    go_ret
    exact ⟨ret_bool (by simp [he]), ((Below.refl _ _).alloc (Nat.le_refl _) _).alloc (by simp) _⟩

end Go.Proofs.Ytapiimahhkfjnaa
