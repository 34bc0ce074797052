/- The reference's bytes of a packet. -/
import Derived.Test.YtapiimahhkfjnaaF
namespace Go.Proofs.Ytapiimahhkfjnaa
open Go.RowKit Go.Proofs.YtapiimahhkfjnaaW.PrintWords Go.Sb

def pkR (ep nu : Int) (wh : Bool) (xs : List Int) : List Int := pk0 ep nu wh xs ++ le (4294967295 - refL (pk0 ep nu wh xs)) 4
theorem number4 (w : World) (n : Int) (h0 : 0 ≤ n) (h1 : n ≤ 4294967295) :
    Calls Try.prog 21 #[.int .u32 n, .int .i64 4] w fun e w' => ∃ v', e = .returned v' ∧ w'.ownsRow w.heap.size 5 1 v' (le n 4).length (nums .u8 (le n 4)) ∧ Below w.heap.size w w' := number_any w n 4 h0 h1 (by omega)
theorem number2 (w : World) (n : Int) (h0 : 0 ≤ n) (h1 : n ≤ 4294967295) :
    Calls Try.prog 21 #[.int .u32 n, .int .i64 2] w fun e w' => ∃ v', e = .returned v' ∧ w'.ownsRow w.heap.size 5 1 v' (le n 2).length (nums .u8 (le n 2)) ∧ Below w.heap.size w w' := number_any w n 2 h0 h1 (by omega)

set_option maxHeartbeats 2000000 in
theorem refBytes_any (w : World) (ep nu : Int) (wh : Bool) (A : Option Addr) (cap : Nat) (xs : List Int) (he : 0 ≤ ep ∧ ep ≤ 4294967295) (hn : 0 ≤ nu ∧ nu ≤ 4294967295)
    (hx : Kd.C (Kd.int .u8) w A xs.length xs) (hby : Bytes xs) (hl : xs.length ≤ 600) :
    Calls Try.prog 9 #[.agg #[.int .u32 ep, .int .u32 nu, .bool wh, .slice A xs.length cap]] w fun e w' => ∃ v', e = .returned v' ∧
      w'.ownsRow w.heap.size 5 1 v' (pkR ep nu wh xs).length (nums .u8 (pkR ep nu wh xs)) ∧ Below w.heap.size w w' := by
  obtain ⟨he0, he1⟩ := he
  obtain ⟨hn0, hn1⟩ := hn
  go_enter Try.func9, Try.ntmps9
  have hw : ∀ wh : Bool, (((w.alloc (.cells #[.int .u32 ep, .int .u32 nu, .bool wh, .slice A xs.length cap] 33)).alloc (.cells (nums .u8 [83, 66, b01 wh]).toArray 5)).ownsRow w.heap.size 5 1 (.slice (some ⟨w.heap.size + 1, 0, none⟩) 3 3) 3 (nums .u8 [83, 66, b01 wh])) := fun wh => by
    have h := own_lit (w.alloc (.cells #[.int .u32 ep, .int .u32 nu, .bool wh, .slice A xs.length cap] 33)) w.heap.size 5 .u8 [83, 66, b01 wh] (by simp) (by simp)
    simpa using h
  cases wh
  all_goals go_wp2_with fail
  · refine abs_calls (fun W eW => ?_)
    have hO : W.ownsRow w.heap.size 5 1 (.slice (some ⟨w.heap.size + 1, 0, none⟩) 3 3) ([83, 66, 0] : List Int).length (nums .u8 [83, 66, 0]) := by
      rw [eW]; exact hw false
    have hB : Blk W w.heap.size (boxOf ep nu false A xs.length cap) 33 := by rw [eW]; exact (Blk.new w _ _).alloc _
    have hb : Below w.heap.size w W := by rw [eW]; exact ((Below.refl _ _).alloc (Nat.le_refl _) _).alloc (by simp) _
    clear eW hw
    obtain ⟨ys, hys⟩ : ∃ ys : List Int, ys = [83, 66, 0] := ⟨_, rfl⟩
    rw [← hys] at hO
    have HY : Hid (ys = [83, 66, b01 false]) := hys
    have hyl : ys.length ≤ 3 := by rw [hys]; simp
    clear hys
    generalize hv : Value.slice (some ⟨w.heap.size + 1, 0, none⟩) 3 3 = v at *
    have hv0 : Apart v w.heap.size := by rw [← hv]; simp [Apart, Value.ownBlock]
    clear hv
    have C := number4 W ep he0 he1
    refine C.mono ?_
    clear C
    rintro e w1 ⟨v1, rfl, hN1, hb1⟩
    obtain ⟨A1, c1, rfl, hR1⟩ := own_reads hN1
    have hB1 := hB.below hb1
    have hO1 := pw_own_below hO hb1
    have hbw1 := below_then hb hb.size hb1
    clear hB hO hb
    go_wp2_with (first | (at_builtin; refine print_append_row (w0 := w) w.heap.size rfl (.tmp 9) (.tmp 12) 23 5 .u8 1 rfl Try.underlying23 info5 (by omega) v ys (le ep 4) A1 (le ep 4).length c1 rfl rfl hO1 hR1 hbw1 hbw1.size (by simp [le_length]; omega) ?_; intro v2 w2 hO2 hbw2 hg2 ht2; obtain ⟨ys2, hys2⟩ : ∃ ys2, ys2 = ys ++ (le ep 4) := ⟨_, rfl⟩; rw [← hys2] at hO2; have hyl2 : ys2.length ≤ 7 := (by rw [hys2]; simp [le_length]; omega); have HY2 := Lib.hid hys2; clear hys2; have hB2 : Blk w2 w.heap.size (boxOf ep nu false A xs.length cap) 33 := (hg2.block _ hB1.lt (fun e => hv0 e.symm)).trans hB1; have hc2 := hB2.cell 1 (u := .int .u32 nu) rfl; have hv2 := hv0.step ht2 hB1.lt; clear hO1 hR1 hN1 hg2 ht2))
    have C := number4 w2 nu hn0 hn1
    refine C.mono ?_
    clear C
    rintro e w3 ⟨v3, rfl, hN3, hb3⟩
    obtain ⟨A3, c3, rfl, hR3⟩ := own_reads hN3
    have hB3 := hB2.below hb3
    have hO3 := pw_own_below hO2 hb3
    have hbw3 := below_then hbw2 hbw2.size hb3
    clear hB2 hO2 hc2
    go_wp2_with (first | (at_builtin; refine print_append_row (w0 := w) w.heap.size rfl (.tmp 14) (.tmp 17) 23 5 .u8 1 rfl Try.underlying23 info5 (by omega) v2 ys2 (le nu 4) A3 (le nu 4).length c3 rfl rfl hO3 hR3 hbw3 hbw3.size (by simp [le_length]; omega) ?_; intro v4 w4 hO4 hbw4 hg4 ht4; obtain ⟨ys4, hys4⟩ : ∃ ys4, ys4 = ys2 ++ (le nu 4) := ⟨_, rfl⟩; rw [← hys4] at hO4; have hyl4 : ys4.length ≤ 11 := (by rw [hys4]; simp [le_length]; omega); have HY4 := Lib.hid hys4; clear hys4; have hB4 : Blk w4 w.heap.size (boxOf ep nu false A xs.length cap) 33 := (hg4.block _ hB3.lt (fun e => hv2 e.symm)).trans hB3; have hc4 := hB4.cell 3 (u := .slice A xs.length cap) rfl; have hv4 := hv2.step ht4 hB3.lt; clear hO3 hR3 hN3 hg4 ht4))
    have C := number2 w4 xs.length (by omega) (by omega)
    refine C.mono ?_
    clear C
    rintro e w5 ⟨v5, rfl, hN5, hb5⟩
    obtain ⟨A5, c5, rfl, hR5⟩ := own_reads hN5
    have hB5 := hB4.below hb5
    have hO5 := pw_own_below hO4 hb5
    have hbw5 := below_then hbw4 hbw4.size hb5
    clear hB4 hO4 hc4
    go_wp2_with (first
      | (at_builtin; refine print_append_row (w0 := w) w.heap.size rfl (.tmp 19) (.tmp 24) 23 5 .u8 1 rfl Try.underlying23 info5 (by omega) v4 ys4 (le xs.length 2) A5 (le xs.length 2).length c5 rfl rfl hO5 hR5 hbw5 hbw5.size (by simp [le_length]; omega) ?_; intro v6 w6 hO6 hbw6 hg6 ht6; obtain ⟨ys6, hys6⟩ : ∃ ys6, ys6 = ys4 ++ (le xs.length 2) := ⟨_, rfl⟩; rw [← hys6] at hO6; have hyl6 : ys6.length ≤ 13 := (by rw [hys6]; simp [le_length]; omega); have HY6 := Lib.hid hys6; clear hys6; have hB6 : Blk w6 w.heap.size (boxOf ep nu false A xs.length cap) 33 := (hg6.block _ hB5.lt (fun e => hv4 e.symm)).trans hB5; have hc6 := hB6.cell 3 (u := .slice A xs.length cap) rfl; have hv6 := hv4.step ht6 hB5.lt; clear hO5 hR5 hN5 hg6 ht6; have hx6 := Kd.C_below hx hbw6)
      | (at_builtin; refine print_append_row (w0 := w) w.heap.size rfl (.tmp 26) (.tmp 28) 23 5 .u8 1 rfl Try.underlying23 info5 (by omega) v6 ys6 xs A xs.length cap rfl rfl hO6 (ri_of_C hx6) hbw6 hbw6.size (by simp [le_length]; omega) ?_; intro v7 w7 hO7 hbw7 hg7 ht7; obtain ⟨ys7, hys7⟩ : ∃ ys7, ys7 = ys6 ++ xs := ⟨_, rfl⟩; rw [← hys7] at hO7; have hyl7 : ys7.length ≤ 613 := (by rw [hys7]; simp [le_length]; omega); have HY7 := Lib.hid hys7; clear hys7; obtain ⟨A7, c7, rfl, hR7⟩ := own_reads hO7; have hyb : Bytes ys7 := (by rw [HY7.out, HY6.out, HY4.out, HY2.out, HY.out]; exact (((((b01_bytes false).append (le_bytes _ _)).append (le_bytes _ _)).append (le_bytes _ _)).append hby)); have hrl := refL_bd ys7)
      | (go_at_call 22; have C := refOf_any w7 A7 c7 ys7 (Kd.C_of_reads (d := (0 : Int)) hR7) hyb; (with_reducible refine C.mono ?_); clear C; rintro e w8 ⟨rfl, rfl⟩)
      | (go_at_call 21; have C := number4 w7 (4294967295 - refL ys7) (by omega) (by omega); (with_reducible refine C.mono ?_); clear C; rintro e w9 ⟨v9, rfl, hN9, hb9⟩; obtain ⟨A9, c9, rfl, hR9⟩ := own_reads hN9; have hO9 := pw_own_below hO7 hb9; have hbw9 := below_then hbw7 hbw7.size hb9)
      | (at_builtin; refine print_append_row (w0 := w) w.heap.size rfl (.tmp 30) (.tmp 33) 23 5 .u8 1 rfl Try.underlying23 info5 (by omega) (.slice A7 ys7.length c7) ys7 (le (4294967295 - refL ys7) 4) A9 (le (4294967295 - refL ys7) 4).length c9 rfl rfl hO9 hR9 hbw9 hbw9.size (by simp [le_length]; omega) ?_; intro v10 w10 hO10 hbw10 hg10 ht10; obtain ⟨ys10, hys10⟩ : ∃ ys10, ys10 = ys7 ++ (le (4294967295 - refL ys7) 4) := ⟨_, rfl⟩; rw [← hys10] at hO10; have hyl10 : ys10.length ≤ 620 := (by rw [hys10]; simp [le_length]; omega); have HY10 := Lib.hid hys10; clear hys10))
    go_ret
    refine ⟨_, rfl, ?_, hbw10⟩
    have h7 : ys7 = pk0 ep nu false xs := by rw [HY7.out, HY6.out, HY4.out, HY2.out, HY.out]; rfl
    unfold pkR
    rw [← h7, ← HY10.out]
    exact hO10
  · refine abs_calls (fun W eW => ?_)
    have hO : W.ownsRow w.heap.size 5 1 (.slice (some ⟨w.heap.size + 1, 0, none⟩) 3 3) ([83, 66, 1] : List Int).length (nums .u8 [83, 66, 1]) := by
      rw [eW]; exact hw true
    have hB : Blk W w.heap.size (boxOf ep nu true A xs.length cap) 33 := by rw [eW]; exact (Blk.new w _ _).alloc _
    have hb : Below w.heap.size w W := by rw [eW]; exact ((Below.refl _ _).alloc (Nat.le_refl _) _).alloc (by simp) _
    clear eW hw
    obtain ⟨ys, hys⟩ : ∃ ys : List Int, ys = [83, 66, 1] := ⟨_, rfl⟩
    rw [← hys] at hO
    have HY : Hid (ys = [83, 66, b01 true]) := hys
    have hyl : ys.length ≤ 3 := by rw [hys]; simp
    clear hys
    generalize hv : Value.slice (some ⟨w.heap.size + 1, 0, none⟩) 3 3 = v at *
    have hv0 : Apart v w.heap.size := by rw [← hv]; simp [Apart, Value.ownBlock]
    clear hv
    have C := number4 W ep he0 he1
    refine C.mono ?_
    clear C
    rintro e w1 ⟨v1, rfl, hN1, hb1⟩
    obtain ⟨A1, c1, rfl, hR1⟩ := own_reads hN1
    have hB1 := hB.below hb1
    have hO1 := pw_own_below hO hb1
    have hbw1 := below_then hb hb.size hb1
    clear hB hO hb
    go_wp2_with (first | (at_builtin; refine print_append_row (w0 := w) w.heap.size rfl (.tmp 9) (.tmp 12) 23 5 .u8 1 rfl Try.underlying23 info5 (by omega) v ys (le ep 4) A1 (le ep 4).length c1 rfl rfl hO1 hR1 hbw1 hbw1.size (by simp [le_length]; omega) ?_; intro v2 w2 hO2 hbw2 hg2 ht2; obtain ⟨ys2, hys2⟩ : ∃ ys2, ys2 = ys ++ (le ep 4) := ⟨_, rfl⟩; rw [← hys2] at hO2; have hyl2 : ys2.length ≤ 7 := (by rw [hys2]; simp [le_length]; omega); have HY2 := Lib.hid hys2; clear hys2; have hB2 : Blk w2 w.heap.size (boxOf ep nu true A xs.length cap) 33 := (hg2.block _ hB1.lt (fun e => hv0 e.symm)).trans hB1; have hc2 := hB2.cell 1 (u := .int .u32 nu) rfl; have hv2 := hv0.step ht2 hB1.lt; clear hO1 hR1 hN1 hg2 ht2))
    have C := number4 w2 nu hn0 hn1
    refine C.mono ?_
    clear C
    rintro e w3 ⟨v3, rfl, hN3, hb3⟩
    obtain ⟨A3, c3, rfl, hR3⟩ := own_reads hN3
    have hB3 := hB2.below hb3
    have hO3 := pw_own_below hO2 hb3
    have hbw3 := below_then hbw2 hbw2.size hb3
    clear hB2 hO2 hc2
    go_wp2_with (first | (at_builtin; refine print_append_row (w0 := w) w.heap.size rfl (.tmp 14) (.tmp 17) 23 5 .u8 1 rfl Try.underlying23 info5 (by omega) v2 ys2 (le nu 4) A3 (le nu 4).length c3 rfl rfl hO3 hR3 hbw3 hbw3.size (by simp [le_length]; omega) ?_; intro v4 w4 hO4 hbw4 hg4 ht4; obtain ⟨ys4, hys4⟩ : ∃ ys4, ys4 = ys2 ++ (le nu 4) := ⟨_, rfl⟩; rw [← hys4] at hO4; have hyl4 : ys4.length ≤ 11 := (by rw [hys4]; simp [le_length]; omega); have HY4 := Lib.hid hys4; clear hys4; have hB4 : Blk w4 w.heap.size (boxOf ep nu true A xs.length cap) 33 := (hg4.block _ hB3.lt (fun e => hv2 e.symm)).trans hB3; have hc4 := hB4.cell 3 (u := .slice A xs.length cap) rfl; have hv4 := hv2.step ht4 hB3.lt; clear hO3 hR3 hN3 hg4 ht4))
    have C := number2 w4 xs.length (by omega) (by omega)
    refine C.mono ?_
    clear C
    rintro e w5 ⟨v5, rfl, hN5, hb5⟩
    obtain ⟨A5, c5, rfl, hR5⟩ := own_reads hN5
    have hB5 := hB4.below hb5
    have hO5 := pw_own_below hO4 hb5
    have hbw5 := below_then hbw4 hbw4.size hb5
    clear hB4 hO4 hc4
    go_wp2_with (first
      | (at_builtin; refine print_append_row (w0 := w) w.heap.size rfl (.tmp 19) (.tmp 24) 23 5 .u8 1 rfl Try.underlying23 info5 (by omega) v4 ys4 (le xs.length 2) A5 (le xs.length 2).length c5 rfl rfl hO5 hR5 hbw5 hbw5.size (by simp [le_length]; omega) ?_; intro v6 w6 hO6 hbw6 hg6 ht6; obtain ⟨ys6, hys6⟩ : ∃ ys6, ys6 = ys4 ++ (le xs.length 2) := ⟨_, rfl⟩; rw [← hys6] at hO6; have hyl6 : ys6.length ≤ 13 := (by rw [hys6]; simp [le_length]; omega); have HY6 := Lib.hid hys6; clear hys6; have hB6 : Blk w6 w.heap.size (boxOf ep nu true A xs.length cap) 33 := (hg6.block _ hB5.lt (fun e => hv4 e.symm)).trans hB5; have hc6 := hB6.cell 3 (u := .slice A xs.length cap) rfl; have hv6 := hv4.step ht6 hB5.lt; clear hO5 hR5 hN5 hg6 ht6; have hx6 := Kd.C_below hx hbw6)
      | (at_builtin; refine print_append_row (w0 := w) w.heap.size rfl (.tmp 26) (.tmp 28) 23 5 .u8 1 rfl Try.underlying23 info5 (by omega) v6 ys6 xs A xs.length cap rfl rfl hO6 (ri_of_C hx6) hbw6 hbw6.size (by simp [le_length]; omega) ?_; intro v7 w7 hO7 hbw7 hg7 ht7; obtain ⟨ys7, hys7⟩ : ∃ ys7, ys7 = ys6 ++ xs := ⟨_, rfl⟩; rw [← hys7] at hO7; have hyl7 : ys7.length ≤ 613 := (by rw [hys7]; simp [le_length]; omega); have HY7 := Lib.hid hys7; clear hys7; obtain ⟨A7, c7, rfl, hR7⟩ := own_reads hO7; have hyb : Bytes ys7 := (by rw [HY7.out, HY6.out, HY4.out, HY2.out, HY.out]; exact (((((b01_bytes true).append (le_bytes _ _)).append (le_bytes _ _)).append (le_bytes _ _)).append hby)); have hrl := refL_bd ys7)
      | (go_at_call 22; have C := refOf_any w7 A7 c7 ys7 (Kd.C_of_reads (d := (0 : Int)) hR7) hyb; (with_reducible refine C.mono ?_); clear C; rintro e w8 ⟨rfl, rfl⟩)
      | (go_at_call 21; have C := number4 w7 (4294967295 - refL ys7) (by omega) (by omega); (with_reducible refine C.mono ?_); clear C; rintro e w9 ⟨v9, rfl, hN9, hb9⟩; obtain ⟨A9, c9, rfl, hR9⟩ := own_reads hN9; have hO9 := pw_own_below hO7 hb9; have hbw9 := below_then hbw7 hbw7.size hb9)
      | (at_builtin; refine print_append_row (w0 := w) w.heap.size rfl (.tmp 30) (.tmp 33) 23 5 .u8 1 rfl Try.underlying23 info5 (by omega) (.slice A7 ys7.length c7) ys7 (le (4294967295 - refL ys7) 4) A9 (le (4294967295 - refL ys7) 4).length c9 rfl rfl hO9 hR9 hbw9 hbw9.size (by simp [le_length]; omega) ?_; intro v10 w10 hO10 hbw10 hg10 ht10; obtain ⟨ys10, hys10⟩ : ∃ ys10, ys10 = ys7 ++ (le (4294967295 - refL ys7) 4) := ⟨_, rfl⟩; rw [← hys10] at hO10; have hyl10 : ys10.length ≤ 620 := (by rw [hys10]; simp [le_length]; omega); have HY10 := Lib.hid hys10; clear hys10))
    go_ret
    refine ⟨_, rfl, ?_, hbw10⟩
    have h7 : ys7 = pk0 ep nu true xs := by rw [HY7.out, HY6.out, HY4.out, HY2.out, HY.out]; rfl
    unfold pkR
    rw [← h7, ← HY10.out]
    exact hO10

end Go.Proofs.Ytapiimahhkfjnaa
