/- A packet's bytes. -/
import Derived.Deep.RegionHeld3
import Derived.Test.YtapiimahhkfjnaaD
namespace Go.Proofs.Ytapiimahhkfjnaa
open Go.RowKit Go.Proofs.YtapiimahhkfjnaaW.PrintWords Go.Sb

def b01 (b : Bool) : Int := if b then 1 else 0
def pk0 (ep nu : Int) (wh : Bool) (xs : List Int) : List Int := (((([83, 66, b01 wh] ++ le ep 4) ++ le nu 4) ++ le xs.length 2) ++ xs)
def pk (ep nu : Int) (wh : Bool) (xs : List Int) : List Int := pk0 ep nu wh xs ++ le (crcW 0 (pk0 ep nu wh xs)) 4

set_option maxHeartbeats 400000 in
theorem bytes_long (w : World) (ep nu : Int) (wh : Bool) (A : Option Addr) (len cap : Nat) (hl : 600 < len) (hl2 : len ≤ 1000000) :
    Calls Try.prog 7 #[.agg #[.int .u32 ep, .int .u32 nu, .bool wh, .slice A len cap]] w fun e w' => e = .returned (.tuple #[.slice none 0 0, .int .i64 5]) ∧ Below w.heap.size w w' := by
  go_enter Try.func7, Try.ntmps7
  go_wp2
  go_ret2
  exact ⟨rfl, (Below.refl _ _).alloc (Nat.le_refl _) _⟩

theorem b01_bytes (b : Bool) : Bytes [83, 66, b01 b] := fun x hx => by
  cases b <;> simp [b01] at hx <;> omega
theorem le_bytes (n : Int) (m : Nat) : Bytes (le n m) := by
  induction m generalizing n with
  | zero => exact Bytes.nil
  | succ m ih => intro x hx; rcases List.mem_cons.1 hx with rfl | h
                 · omega
                 · exact ih _ x h
/-- the box of a packet that came in -/
def boxOf (ep nu : Int) (wh : Bool) (A : Option Addr) (len cap : Nat) : Array Value := #[.int .u32 ep, .int .u32 nu, .bool wh, .slice A len cap]

theorem put4 (w : World) (v : Value) (xs : List Int) (n : Int) (base : Nat) (h0 : 0 ≤ n) (h1 : n ≤ 4294967295)
    (ho : w.ownsRow base 5 1 v xs.length (nums .u8 xs)) (hb : base ≤ w.heap.size) (hl : xs.length ≤ 1000000) :
    Calls Try.prog 17 #[v, .int .u32 n, .int .i64 4] w fun e w' => ∃ v', e = .returned v' ∧ w'.ownsRow base 5 1 v' (xs ++ le n 4).length (nums .u8 (xs ++ le n 4)) ∧
      Fr (OwnB v) w w' ∧ (v'.ownBlock = v.ownBlock ∨ ∃ b, v'.ownBlock = some b ∧ w.heap.size ≤ b) := put_any w v xs n 4 base h0 h1 (by omega) ho hb hl
theorem put2 (w : World) (v : Value) (xs : List Int) (n : Int) (base : Nat) (h0 : 0 ≤ n) (h1 : n ≤ 4294967295)
    (ho : w.ownsRow base 5 1 v xs.length (nums .u8 xs)) (hb : base ≤ w.heap.size) (hl : xs.length ≤ 1000000) :
    Calls Try.prog 17 #[v, .int .u32 n, .int .i64 2] w fun e w' => ∃ v', e = .returned v' ∧ w'.ownsRow base 5 1 v' (xs ++ le n 2).length (nums .u8 (xs ++ le n 2)) ∧
      Fr (OwnB v) w w' ∧ (v'.ownBlock = v.ownBlock ∨ ∃ b, v'.ownBlock = some b ∧ w.heap.size ≤ b) := put_any w v xs n 2 base h0 h1 (by omega) ho hb hl
theorem box_cells {W : World} {B : Nat} {ep nu : Int} {wh : Bool} {A : Option Addr} {len cap : Nat} (h : Blk W B (boxOf ep nu wh A len cap) 25) :
    W.cell? ⟨B, 0, none⟩ = some (.int .u32 ep) ∧ W.cell? ⟨B, 1, none⟩ = some (.int .u32 nu) ∧ W.cell? ⟨B, 3, none⟩ = some (.slice A len cap) := ⟨h.cell 0 rfl, h.cell 1 rfl, h.cell 3 rfl⟩
/-- a row of the call's own beside a block: who writes the row leaves the block -/
def Apart (v : Value) (B : Nat) : Prop := v.ownBlock ≠ some B
theorem Apart.step {v v1 : Value} {B : Nat} {W : World} (h : Apart v B) (ht : v1.ownBlock = v.ownBlock ∨ ∃ b, v1.ownBlock = some b ∧ W.heap.size ≤ b) (hB : B < W.heap.size) : Apart v1 B := by
  rcases ht with ht | ⟨b, ht, hb⟩
  · unfold Apart; rw [ht]; exact h
  · unfold Apart; rw [ht]; intro e; cases e; omega

set_option maxHeartbeats 2000000 in
theorem bytes_any (w : World) (ep nu : Int) (wh : Bool) (A : Option Addr) (cap : Nat) (xs : List Int) (he : 0 ≤ ep ∧ ep ≤ 4294967295) (hn : 0 ≤ nu ∧ nu ≤ 4294967295)
    (hx : Kd.C (Kd.int .u8) w A xs.length xs) (hby : Bytes xs) (hl : xs.length ≤ 600) :
    Calls Try.prog 7 #[.agg #[.int .u32 ep, .int .u32 nu, .bool wh, .slice A xs.length cap]] w fun e w' => ∃ v', e = .returned (.tuple #[v', .int .i64 0]) ∧
      w'.ownsRow w.heap.size 5 1 v' (pk ep nu wh xs).length (nums .u8 (pk ep nu wh xs)) ∧ Below w.heap.size w w' := by
  obtain ⟨he0, he1⟩ := he
  obtain ⟨hn0, hn1⟩ := hn
  have hwr : IntKind.u32.wrap (xs.length : Int) = xs.length := by rw [IntKind.wrap_u32]; omega
  have HW := Lib.hid hwr
  clear hwr
  go_enter Try.func7, Try.ntmps7
  have hw : ∀ wh : Bool, (((w.alloc (.cells #[.int .u32 ep, .int .u32 nu, .bool wh, .slice A xs.length cap] 25)).alloc (.cells (nums .u8 [83, 66, b01 wh]).toArray 5)).ownsRow w.heap.size 5 1 (.slice (some ⟨w.heap.size + 1, 0, none⟩) 3 3) 3 (nums .u8 [83, 66, b01 wh])) := fun wh => by
    have h := own_lit (w.alloc (.cells #[.int .u32 ep, .int .u32 nu, .bool wh, .slice A xs.length cap] 25)) w.heap.size 5 .u8 [83, 66, b01 wh] (by simp) (by simp)
    simpa using h
  cases wh
  all_goals go_wp2
  all_goals refine abs_code (fun W eW => ?_)
  · have hO : W.drew.ownsRow w.heap.size 5 1 (.slice (some ⟨w.heap.size + 1, 0, none⟩) 3 3) ([83, 66, 0] : List Int).length (nums .u8 [83, 66, 0]) := by
      rw [eW]; exact hw false
    have hB : Blk W w.heap.size (boxOf ep nu false A xs.length cap) 25 := by rw [eW]; exact (Blk.new w _ _).alloc _
    have hb : Below w.heap.size w W := by rw [eW]; exact ((Below.refl _ _).alloc (Nat.le_refl _) _).alloc (by simp) _
    clear eW hw
    obtain ⟨ys, hys⟩ : ∃ ys : List Int, ys = [83, 66, 0] := ⟨_, rfl⟩
    rw [← hys] at hO
    have HY : Hid (ys = [83, 66, b01 false]) := hys
    have hyl : ys.length ≤ 3 := by rw [hys]; simp
    clear hys
    generalize hv : Value.slice (some ⟨w.heap.size + 1, 0, none⟩) 3 3 = v at *
    have hv0 : Apart v w.heap.size := by rw [← hv]; simp [Apart, Value.ownBlock]
    have hvB : ∀ k, v.ownBlock = some k → w.heap.size ≤ k := by rw [← hv]; intro k hk; simp [Value.ownBlock] at hk; omega
    clear hv
    obtain ⟨ha0, ha1, ha3⟩ := box_cells hB
    have hwr := HW.out
    go_region_held3 (fun W' => W'.cell? ⟨w.heap.size, 0, none⟩ = some (.int .u32 ep) ∧ W'.cell? ⟨w.heap.size, 1, none⟩ = some (.int .u32 nu) ∧ W'.cell? ⟨w.heap.size, 3, none⟩ = some (.slice A xs.length cap)) (first | assumption | go_keep)
      (first
        | (go_at_call 17; have C := put4 W.drew v ys ep w.heap.size he0 he1 hO hb.size (by omega); (with_reducible refine C.mono ?_); clear C; rintro e w1 ⟨v1, rfl, hO1, hf1, ht1⟩; have hB1 := hB.drew.fr hf1 hv0; have hS1 := box_cells hB1; have hv1 := hv0.step ht1 hB.lt)
        | (go_at_call 17; have C := put4 w1 v1 _ nu w.heap.size hn0 hn1 hO1 (Nat.le_trans hb.size hf1.size) (by simp [le_length]; omega); (with_reducible refine C.mono ?_); clear C; rintro e w2 ⟨v2, rfl, hO2, hf2, ht2⟩; have hB2 := hB1.fr hf2 hv1; have hS2 := box_cells hB2; have hv2 := hv1.step ht2 hB1.lt)
        | (go_at_call 17; have C := put2 w2 v2 _ xs.length w.heap.size (by omega) (by omega) hO2 (Nat.le_trans hb.size (Nat.le_trans hf1.size hf2.size)) (by simp [le_length]; omega); (with_reducible refine C.mono ?_); clear C; rintro e w3 ⟨v3, rfl, hO3, hf3, ht3⟩; have hB3 := hB2.fr hf3 hv2; have hS3 := box_cells hB3; have hv3 := hv2.step ht3 hB2.lt))
    have hc3 := hS3.2.2
    have hbw0 : Below w.heap.size w W.drew := hb.drew
    have hbw1 := below_own hbw0 hb.size hf1 hvB
    have hbw2 := below_own hbw1 hbw1.size hf2 (own_base hO1)
    have hbw3 := below_own hbw2 hbw2.size hf3 (own_base hO2)
    have hx3 := Kd.C_below hx hbw3
    have hys : Hid ((ys ++ le ep 4 ++ le nu 4 ++ le xs.length 2) ++ xs = pk0 ep nu false xs) := by rw [HY.out]; rfl
    have hln : (ys ++ le ep 4 ++ le nu 4 ++ le xs.length 2).length ≤ 20 := by simp [le_length]; omega
    have hby0 : Bytes ((ys ++ le ep 4 ++ le nu 4 ++ le xs.length 2) ++ xs) := by
      rw [HY.out]; exact (((((b01_bytes false).append (le_bytes _ _)).append (le_bytes _ _)).append (le_bytes _ _)).append hby)
    generalize (ys ++ le ep 4 ++ le nu 4 ++ le xs.length 2) = zs at *
    clear hO hO1 hO2 hf1 hf2 hf3 ht1 ht2 ht3 hB1 hB2 hS1 hS2 hS3 hv1 hv2 hB ha0 ha1 ha3
    go_wp2_with (first
      | (at_builtin; refine print_append_row (w0 := w) w.heap.size rfl (.tmp 26) (.tmp 28) 23 5 .u8 1 rfl Try.underlying23 info5 (by omega) v3 zs xs A xs.length cap rfl rfl hO3 (ri_of_C hx3) hbw3 hbw3.size (by omega) ?_; intro v4 w4 hO4 hb4 _ _; obtain ⟨ps, hps⟩ : ∃ ps, ps = zs ++ xs := ⟨_, rfl⟩; rw [← hps] at hO4; have hbyp : Bytes ps := (by rw [hps]; exact hby0); have hpl : ps.length ≤ 620 := (by rw [hps]; simp; omega); have HP := Lib.hid hps; clear hps; obtain ⟨A4, c4, rfl, hR4⟩ := own_reads hO4)
      | (go_at_call 18; have C := of_any w4 A4 c4 ps (Kd.C_of_reads (d := (0 : Int)) hR4) hbyp; (with_reducible refine C.mono ?_); clear C; rintro e w5 ⟨rfl, hb5⟩)
      | (go_at_call 17; have C := put4 w5 (.slice A4 ps.length c4) ps (crcW 0 ps) w.heap.size (u32_lo _ _ _) (u32_hi _ _ _) (pw_own_below hO4 hb5) (Nat.le_trans hb4.size hb5.size) (by omega); (with_reducible refine C.mono ?_); clear C; rintro e w6 ⟨v6, rfl, hO6, hf6, ht6⟩))
    go_ret2
    refine ⟨_, rfl, ?_, below_own (below_then hb4 hb4.size hb5) (Nat.le_trans hb4.size hb5.size) hf6 (own_base hO4)⟩
    unfold pk
    rw [← hys.out, ← HP.out]
    exact hO6
  · have hO : W.drew.ownsRow w.heap.size 5 1 (.slice (some ⟨w.heap.size + 1, 0, none⟩) 3 3) ([83, 66, 1] : List Int).length (nums .u8 [83, 66, 1]) := by
      rw [eW]; exact hw true
    have hB : Blk W w.heap.size (boxOf ep nu true A xs.length cap) 25 := by rw [eW]; exact (Blk.new w _ _).alloc _
    have hb : Below w.heap.size w W := by rw [eW]; exact ((Below.refl _ _).alloc (Nat.le_refl _) _).alloc (by simp) _
    clear eW hw
    obtain ⟨ys, hys⟩ : ∃ ys : List Int, ys = [83, 66, 1] := ⟨_, rfl⟩
    rw [← hys] at hO
    have HY : Hid (ys = [83, 66, b01 true]) := hys
    have hyl : ys.length ≤ 3 := by rw [hys]; simp
    clear hys
    generalize hv : Value.slice (some ⟨w.heap.size + 1, 0, none⟩) 3 3 = v at *
    have hv0 : Apart v w.heap.size := by rw [← hv]; simp [Apart, Value.ownBlock]
    have hvB : ∀ k, v.ownBlock = some k → w.heap.size ≤ k := by rw [← hv]; intro k hk; simp [Value.ownBlock] at hk; omega
    clear hv
    obtain ⟨ha0, ha1, ha3⟩ := box_cells hB
    have hwr := HW.out
    go_region_held3 (fun W' => W'.cell? ⟨w.heap.size, 0, none⟩ = some (.int .u32 ep) ∧ W'.cell? ⟨w.heap.size, 1, none⟩ = some (.int .u32 nu) ∧ W'.cell? ⟨w.heap.size, 3, none⟩ = some (.slice A xs.length cap)) (first | assumption | go_keep)
      (first
        | (go_at_call 17; have C := put4 W.drew v ys ep w.heap.size he0 he1 hO hb.size (by omega); (with_reducible refine C.mono ?_); clear C; rintro e w1 ⟨v1, rfl, hO1, hf1, ht1⟩; have hB1 := hB.drew.fr hf1 hv0; have hS1 := box_cells hB1; have hv1 := hv0.step ht1 hB.lt)
        | (go_at_call 17; have C := put4 w1 v1 _ nu w.heap.size hn0 hn1 hO1 (Nat.le_trans hb.size hf1.size) (by simp [le_length]; omega); (with_reducible refine C.mono ?_); clear C; rintro e w2 ⟨v2, rfl, hO2, hf2, ht2⟩; have hB2 := hB1.fr hf2 hv1; have hS2 := box_cells hB2; have hv2 := hv1.step ht2 hB1.lt)
        | (go_at_call 17; have C := put2 w2 v2 _ xs.length w.heap.size (by omega) (by omega) hO2 (Nat.le_trans hb.size (Nat.le_trans hf1.size hf2.size)) (by simp [le_length]; omega); (with_reducible refine C.mono ?_); clear C; rintro e w3 ⟨v3, rfl, hO3, hf3, ht3⟩; have hB3 := hB2.fr hf3 hv2; have hS3 := box_cells hB3; have hv3 := hv2.step ht3 hB2.lt))
    have hc3 := hS3.2.2
    have hbw0 : Below w.heap.size w W.drew := hb.drew
    have hbw1 := below_own hbw0 hb.size hf1 hvB
    have hbw2 := below_own hbw1 hbw1.size hf2 (own_base hO1)
    have hbw3 := below_own hbw2 hbw2.size hf3 (own_base hO2)
    have hx3 := Kd.C_below hx hbw3
    have hys : Hid ((ys ++ le ep 4 ++ le nu 4 ++ le xs.length 2) ++ xs = pk0 ep nu true xs) := by rw [HY.out]; rfl
    have hln : (ys ++ le ep 4 ++ le nu 4 ++ le xs.length 2).length ≤ 20 := by simp [le_length]; omega
    have hby0 : Bytes ((ys ++ le ep 4 ++ le nu 4 ++ le xs.length 2) ++ xs) := by
      rw [HY.out]; exact (((((b01_bytes true).append (le_bytes _ _)).append (le_bytes _ _)).append (le_bytes _ _)).append hby)
    generalize (ys ++ le ep 4 ++ le nu 4 ++ le xs.length 2) = zs at *
    clear hO hO1 hO2 hf1 hf2 hf3 ht1 ht2 ht3 hB1 hB2 hS1 hS2 hS3 hv1 hv2 hB ha0 ha1 ha3
    go_wp2_with (first
      | (at_builtin; refine print_append_row (w0 := w) w.heap.size rfl (.tmp 26) (.tmp 28) 23 5 .u8 1 rfl Try.underlying23 info5 (by omega) v3 zs xs A xs.length cap rfl rfl hO3 (ri_of_C hx3) hbw3 hbw3.size (by omega) ?_; intro v4 w4 hO4 hb4 _ _; obtain ⟨ps, hps⟩ : ∃ ps, ps = zs ++ xs := ⟨_, rfl⟩; rw [← hps] at hO4; have hbyp : Bytes ps := (by rw [hps]; exact hby0); have hpl : ps.length ≤ 620 := (by rw [hps]; simp; omega); have HP := Lib.hid hps; clear hps; obtain ⟨A4, c4, rfl, hR4⟩ := own_reads hO4)
      | (go_at_call 18; have C := of_any w4 A4 c4 ps (Kd.C_of_reads (d := (0 : Int)) hR4) hbyp; (with_reducible refine C.mono ?_); clear C; rintro e w5 ⟨rfl, hb5⟩)
      | (go_at_call 17; have C := put4 w5 (.slice A4 ps.length c4) ps (crcW 0 ps) w.heap.size (u32_lo _ _ _) (u32_hi _ _ _) (pw_own_below hO4 hb5) (Nat.le_trans hb4.size hb5.size) (by omega); (with_reducible refine C.mono ?_); clear C; rintro e w6 ⟨v6, rfl, hO6, hf6, ht6⟩))
    go_ret2
    refine ⟨_, rfl, ?_, below_own (below_then hb4 hb4.size hb5) (Nat.le_trans hb4.size hb5.size) hf6 (own_base hO4)⟩
    unfold pk
    rw [← hys.out, ← HP.out]
    exact hO6

end Go.Proofs.Ytapiimahhkfjnaa
