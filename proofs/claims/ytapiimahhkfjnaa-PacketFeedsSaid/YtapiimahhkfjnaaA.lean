/- The package check: the table of halves, a sum that goes on, the sum of bytes. -/
import Derived.Test.YtapiimahhkfjnaaRows
import Derived.Test.YtapiimahhkfjnaaLib
namespace Go.Proofs.Ytapiimahhkfjnaa
open Go.RowKit Go.Proofs.YtapiimahhkfjnaaW.PrintWords Go.Sb

def tabl : List Int := [0, 274646895, 549293790, 820201905, 1098587580, 1361435347, 1640403810, 1905808397, 2197175160, 2460548119, 2722870694, 2987750089, 3280807620, 3553878443, 3811616794, 4084100981]
def hrow (k : Nat) : Array Value := ((tabl.take k).map (Value.int .u32) ++ List.replicate (16 - k) (Value.int .u32 0)).toArray
def hstep (c : Int) : Int := bits .xor .u32 (c / 2) (2197175160 * bits .and .u32 c 1 % 4294967296)
def hc : Nat → Nat → Int
  | i, 0 => i
  | i, m + 1 => hstep (hc i m)
theorem hc_tabl : ∀ k, k < 16 → hc k 4 = tabl.getD k 0 := by decide +kernel
theorem hrow_size : ∀ k, k ≤ 16 → (hrow k).size = 16 := by decide +kernel
theorem hrow_set (k : Nat) (h : k < 16) : (hrow k).setIfInBounds k (Value.int .u32 (hc k 4)) = hrow (k + 1) := by
  rw [hc_tabl k h]
  rcases (show k = 0 ∨ k = 1 ∨ k = 2 ∨ k = 3 ∨ k = 4 ∨ k = 5 ∨ k = 6 ∨ k = 7 ∨ k = 8 ∨ k = 9 ∨ k = 10 ∨ k = 11 ∨ k = 12 ∨ k = 13 ∨ k = 14 ∨ k = 15 by omega) with rfl | rfl | rfl | rfl | rfl | rfl | rfl | rfl | rfl | rfl | rfl | rfl | rfl | rfl | rfl | rfl <;> rfl
theorem hinf : (Try.prog.info? 64).map (·.size) = some (hrow 16).size := by kernel_rfl
theorem hrow16_one : (hrow 16).all (·.oneCell') = true := by kernel_rfl

set_option maxHeartbeats 400000 in
theorem halves_any (w : World) :
    Calls Try.prog 27 #[] w fun e w' => e = .returned (.agg (hrow 16)) ∧ Below w.heap.size w w' := by
  go_enter Try.func27, Try.ntmps27
  go_wp2
  go_loopw [4] (fun i wr => ∃ k : Nat, k ≤ 16 ∧ i = .int .i64 k ∧ Blk wr (w.heap.size + 1) (hrow k) 64 ∧ Blk wr w.heap.size (hrow 0) 64 ∧ Below w.heap.size w wr)
    (fun i _ => 16 - (intOf i).toNat)
  case atStart => exact ⟨0, by omega, rfl, heap_alloc2_new _ _ _, heap_alloc2_old _ _ _, ((Below.refl _ _).alloc (Nat.le_refl _) _).alloc (by simp) _⟩
  case round =>
    obtain ⟨k, hk, rfl, h1, h0, hb⟩ := hrel
    by_cases hlt : k < 16
    · obtain ⟨u0, hcell⟩ := h1.any (j := k) (by rw [hrow_size k hk]; omega)
      have hfr := h1.frozen k
      go_wp2
      go_loopw [3, 9] (fun c i wr2 => wr2 = wr ∧ ∃ m : Nat, m ≤ 4 ∧ i = .int .i64 m ∧ c = .int .u32 (hc k m)) (fun _ i _ => 4 - (intOf i).toNat)
      case atStart => exact ⟨rfl, 0, by omega, rfl, rfl⟩
      case round =>
        obtain ⟨rfl, m, hm, rfl, rfl⟩ := hrel
        by_cases hlm : m < 4
        · go_wp2
          go_roundw
          case rel => exact ⟨trivial, m + 1, by omega, by go_num, rfl⟩
          case measure => simp [intOf]; omega
        · obtain rfl : m = 4 := by omega
          clear hlm
          go_wp2
          go_roundw
          case rel => exact ⟨k + 1, by omega, by go_num, by rw [← hrow_set k hlt]; exact h1.set k _, h0.far (by simp) _, hb.setCell (by simp) _⟩
          case measure => simp [intOf]; omega
    · obtain rfl : k = 16 := by omega
      clear hlt
      go_wp2_with (first | (refine wpList_load_row rfl 64 (.tmp 1) rfl (w.heap.size + 1) rfl 64 (hrow 16) (0, 0) _ h1 Try.underlying64 rfl hinf ?_) | (refine wpList_store_row rfl 64 (.tmp 0) (.tmp 22) rfl w.heap.size (hrow 16) rfl rfl 64 (hrow 0) h0 hinf rfl hrow16_one ?_))
      refine bodyPost_ret (v := .agg (hrow 16)) (results_cell_row rfl _ _ w.heap.size 64 (hrow 16) (0, 0) _ rfl (h0.row _) Try.underlying64 rfl hinf) rfl ⟨rfl, ?_⟩
      exact ((Fr.of_below hb NoB).setRow (.inr (Nat.le_refl _)) _).below_no

/-- half a byte of the sum, by the table of halves -/
def tabAt (i : Int) : Int := tabl.getD i.toNat 0
def crcN (c : Int) : Int := bits .xor .u32 (tabAt (bits .and .u32 c 15)) (c / 16)
def crcB (c x : Int) : Int := crcN (crcN (bits .xor .u32 c x))
def crcL (c : Int) (xs : List Int) : Int := xs.foldl crcB c
def crcW (c : Int) (xs : List Int) : Int := bits .xor .u32 IntKind.u32.max (crcL (bits .xor .u32 IntKind.u32.max c) xs)
theorem and15 (c : Int) : 0 ≤ bits .and .u32 c 15 ∧ bits .and .u32 c 15 < 16 := by
  refine ⟨u32_lo _ _ _, ?_⟩
  show IntKind.u32.wrap ((BitVec.ofInt 32 c &&& BitVec.ofInt 32 15).toNat : Int) < 16
  rw [IntKind.wrap_u32]
  have h : (BitVec.ofInt 32 c &&& BitVec.ofInt 32 15).toNat < 16 := by
    rw [BitVec.toNat_and]
    have : (BitVec.ofInt 32 15).toNat = 15 := by decide
    rw [this]
    exact Nat.lt_of_le_of_lt Nat.and_le_right (by omega)
  omega
theorem tab_all : ∀ i, i < 16 → (hrow 16)[i]? = some (.int .u32 (tabl.getD i 0)) := by
  intro i hi
  rcases (show i = 0 ∨ i = 1 ∨ i = 2 ∨ i = 3 ∨ i = 4 ∨ i = 5 ∨ i = 6 ∨ i = 7 ∨ i = 8 ∨ i = 9 ∨ i = 10 ∨ i = 11 ∨ i = 12 ∨ i = 13 ∨ i = 14 ∨ i = 15 by omega) with rfl | rfl | rfl | rfl | rfl | rfl | rfl | rfl | rfl | rfl | rfl | rfl | rfl | rfl | rfl | rfl <;> rfl
theorem tab_cell {w : World} {g : Nat} (h : Blk w g (hrow 16) 64) (c : Int) : w.cell? ⟨g, (bits .and .u32 c 15).toNat, none⟩ = some (.int .u32 (tabAt (bits .and .u32 c 15))) :=
  h.cell _ (tab_all _ (by have := and15 c; omega))

set_option maxHeartbeats 400000 in
theorem write_any (w : World) (g : Nat) (c n : Int) (T : TypeId) (A : Option Addr) (cap : Nat) (xs : List Int)
    (hs : Blk w g #[.int .u32 c, .int .i64 n] T) (hx : Kd.C (Kd.int .u8) w A xs.length xs) (hby : Bytes xs) :
    Calls Try.prog 24 #[.pointer (some ⟨g, 0, none⟩), .slice A xs.length cap] w fun e w' => e = .returned (.tuple #[]) ∧
      Blk w' g #[.int .u32 (crcW c xs), .int .i64 (wrap64 (n + xs.length))] T ∧ Fr (OneB g) w w' := by
  have hl := Kd.C_max hx
  have hg := hs.lt
  go_enter Try.func24, Try.ntmps24
  go_wp2_with (first | (go_at_call 27; refine (halves_any _).mono ?_; rintro e w1 ⟨rfl, hb⟩) | (refine wpList_store_row rfl 64 (.tmp 4) (.tmp 10) rfl _ (hrow 16) rfl rfl 64 _ (heap_alloc_new _ _) hinf rfl hrow16_one ?_; refine abs_list (fun w2 e2 => ?_); have hT : Blk w2 w1.heap.size (hrow 16) 64 := (by rw [e2]; exact (Blk.new _ _ _).row _); have hb2 : Below w.heap.size w w2 := (by rw [e2]; exact (((Fr.of_below hb NoB).alloc _).setRow (.inr hb.size) _).below_no); clear e2; have hs2 := hs.below hb2; have hg0 := hs2.cell 0 (u := .int .u32 c) rfl; have hg1 := hs2.cell 1 (u := .int .i64 n) rfl; have hf0 := hs2.frozen 0; have hf1 := hs2.frozen 1))
  have hx2 := Kd.C_below hx hb2
  clear hx hs
  generalize hc0 : bits BinOp.xor IntKind.u32 IntKind.u32.max c = c0
  have HC := Lib.hid hc0
  clear hc0
  go_loop [5, 18] (fun c i => ∃ k : Nat, k ≤ xs.length ∧ i = .int .i64 k ∧ c = .int .u32 (crcL c0 (xs.take k))) (fun _ i => xs.length - (intOf i).toNat)
  case atStart => exact ⟨0, Nat.zero_le _, rfl, rfl⟩
  case round =>
    obtain ⟨k, hk, rfl, rfl⟩ := hrel
    by_cases hlt : k < xs.length
    · obtain ⟨ad, rfl, hcell⟩ := at_u8 hx2 k hlt
      obtain ⟨hr0, hr1⟩ := rd_bytes hby k
      have hstep : crcL c0 (xs.take (k + 1)) = crcB (crcL c0 (xs.take k)) (rd xs k) := by
        rw [take_rd hlt]; simp [crcL]
      have HS := Lib.hid hstep
      clear hstep
      generalize crcL c0 (xs.take k) = ck at *
      have ht := fun c => tab_cell hT c
      have ha := fun c => and15 c
      go_wp2
      go_round
      case rel => exact ⟨k + 1, by omega, by go_num, by rw [HS.out]; rfl⟩
      case measure => simp [intOf]; omega
    · obtain rfl : k = xs.length := by omega
      clear hlt
      go_wp2
      go_end0
      refine ⟨rfl, ?_, (((Fr.of_below hb2 (OneB g)).setCell (p := ⟨g, 0, none⟩) (.inl rfl) _).setCell (p := ⟨g, 1, none⟩) (.inl rfl) _)⟩
      have e := (hs2.set 0 (.int .u32 (bits .xor .u32 IntKind.u32.max (crcL c0 xs)))).set 1 (.int .i64 (wrap64 (n + xs.length)))
      unfold crcW
      rw [HC.out]
      exact e

set_option maxHeartbeats 400000 in
theorem value_any (w : World) (g : Nat) (c n : Int) (T : TypeId) (hs : Blk w g #[.int .u32 c, .int .i64 n] T) :
    Calls Try.prog 25 #[.pointer (some ⟨g, 0, none⟩)] w fun e w' => e = .returned (.int .u32 c) ∧ w = w' := by
  have hg0 := hs.cell 0 (u := .int .u32 c) rfl
  go_enter Try.func25, Try.ntmps25
  go_wp2
  go_ret
  exact ⟨rfl, rfl⟩

set_option maxHeartbeats 400000 in
theorem of_any (w : World) (A : Option Addr) (cap : Nat) (xs : List Int) (hx : Kd.C (Kd.int .u8) w A xs.length xs) (hby : Bytes xs) :
    Calls Try.prog 18 #[.slice A xs.length cap] w fun e w' => e = .returned (.int .u32 (crcW 0 xs)) ∧ Below w.heap.size w w' := by
  go_enter Try.func18, Try.ntmps18
  go_wp2_with (first | (go_at_call 24; refine (write_any _ w.heap.size 0 0 57 A cap xs (Blk.new _ _ _) (Kd.C_alloc hx _) hby).mono ?_; rintro e w1 ⟨rfl, h1, h2⟩) | (go_at_call 25; refine (value_any _ _ _ _ _ h1).mono ?_; rintro e w2 ⟨rfl, rfl⟩))
  go_ret
  exact ⟨rfl, (((Fr.refl NoB w).alloc _).then_ h2 (fun k hk => .inr (by rw [hk]; exact Nat.le_refl _))).below_no⟩

end Go.Proofs.Ytapiimahhkfjnaa
