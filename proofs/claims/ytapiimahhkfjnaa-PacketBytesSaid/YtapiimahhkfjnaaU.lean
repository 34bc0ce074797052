/- The law on a packet's bytes. -/
import Derived.Test.YtapiimahhkfjnaaT
namespace Go.Proofs.Ytapiimahhkfjnaa
open Go.RowKit Go.Proofs.YtapiimahhkfjnaaW.PrintWords Go.Sb

/-- what the law's last test reads -/
theorem S7 {W : World} {B Q : Nat} {ep nu : Int} {wh : Bool} {A A5 A2 : Option Addr} {n cap c5 c2 m : Nat} {ps : List Int} (hB : Blk W B #[.int .u32 ep, .int .u32 nu, .bool wh, .slice A n cap] 25) (hQ : Blk W Q #[.int .u32 ep, .int .u32 nu, .bool wh, .slice A5 n c5] 25)
    (hC : Kd.C (Kd.int .u8) W A2 ps.length ps) (hl : ps.length = m) :
    W.cell? ⟨B, 0, none⟩ = some (.int .u32 ep) ∧ W.cell? ⟨B, 1, none⟩ = some (.int .u32 nu) ∧ W.cell? ⟨B, 2, none⟩ = some (.bool wh) ∧ W.cell? ⟨B, 3, none⟩ = some (.slice A n cap) ∧
    W.cell? ⟨Q, 0, none⟩ = some (.int .u32 ep) ∧ W.cell? ⟨Q, 1, none⟩ = some (.int .u32 nu) ∧ W.cell? ⟨Q, 2, none⟩ = some (.bool wh) ∧ W.cell? ⟨Q, 3, none⟩ = some (.slice A5 n c5) ∧
    Sem.run Try.prog (convert 23 9 (Value.slice A2 m c2)) W = Result.ok (Value.string (strOfNums ps)) W := by
  subst hl
  exact ⟨hB.cell 0 rfl, hB.cell 1 rfl, hB.cell 2 rfl, hB.cell 3 rfl, hQ.cell 0 rfl, hQ.cell 1 rfl, hQ.cell 2 rfl, hQ.cell 3 rfl, Kd.C_string (P := Try.prog) (c := c2) Try.underlying23 Try.underlying5 Try.underlying9 hC⟩

section
variable (w : World) (ep nu : Int) (wh : Bool) (A B : Option Addr) (cap m c : Nat)
set_option maxHeartbeats 2000000 in
theorem pbytes_big (len : Nat) (h : 800 < len) :
    Calls Try.prog 3 #[.agg #[.int .u32 ep, .int .u32 nu, .bool wh, .slice A len cap], .slice B m c] w fun e w' => e = .returned (.bool true) ∧ Below w.heap.size w w' := by
  go_enter Try.func3, Try.ntmps3
  go_wp2_with (first
    | (go_at_call 6; refine abs_calls (fun W eW => ?_)
       have hb0 : Below w.heap.size w W := by rw [eW]; exact (Below.refl _ _).alloc (Nat.le_refl _) _
       have hB0 : Blk W w.heap.size (boxOf ep nu wh A len cap) 25 := by rw [eW]; exact Blk.new _ _ _
       clear eW; have C := lives_any W; (with_reducible refine C.mono ?_); clear C; rintro e w1 ⟨rfl, hb1⟩; have hB1 := box_cells (hB0.below hb1); have ha1 := hB1.1; have ha2 := hB1.2.1; have ha3 := hB1.2.2)
    | (go_at_call 6; have C := lives_any w1; (with_reducible refine C.mono ?_); clear C; rintro e w2 ⟨rfl, hb2⟩))
  go_ret
  have h01 := below_then hb0 hb0.size hb1
  exact ⟨rfl, below_then h01 h01.size hb2⟩
set_option maxHeartbeats 2000000 in
theorem pbytes_more (len : Nat) (h : len ≤ 800) (hm : 100 < m) :
    Calls Try.prog 3 #[.agg #[.int .u32 ep, .int .u32 nu, .bool wh, .slice A len cap], .slice B m c] w fun e w' => e = .returned (.bool true) ∧ Below w.heap.size w w' := by
  go_enter Try.func3, Try.ntmps3
  go_wp2_with (first
    | (go_at_call 6; refine abs_calls (fun W eW => ?_)
       have hb0 : Below w.heap.size w W := by rw [eW]; exact (Below.refl _ _).alloc (Nat.le_refl _) _
       have hB0 : Blk W w.heap.size (boxOf ep nu wh A len cap) 25 := by rw [eW]; exact Blk.new _ _ _
       clear eW; have C := lives_any W; (with_reducible refine C.mono ?_); clear C; rintro e w1 ⟨rfl, hb1⟩; have hB1 := box_cells (hB0.below hb1); have ha1 := hB1.1; have ha2 := hB1.2.1; have ha3 := hB1.2.2)
    | (go_at_call 6; have C := lives_any w1; (with_reducible refine C.mono ?_); clear C; rintro e w2 ⟨rfl, hb2⟩))
  go_ret
  have h01 := below_then hb0 hb0.size hb1
  exact ⟨rfl, below_then h01 h01.size hb2⟩
set_option maxHeartbeats 2000000 in
theorem pbytes_long (len : Nat) (h : len ≤ 800) (h' : 600 < len) (hm : m ≤ 100) :
    Calls Try.prog 3 #[.agg #[.int .u32 ep, .int .u32 nu, .bool wh, .slice A len cap], .slice B m c] w fun e w' => e = .returned (.bool true) ∧ Below w.heap.size w w' := by
  go_enter Try.func3, Try.ntmps3
  go_wp2_with (first
    | (go_at_call 6; refine abs_calls (fun W eW => ?_)
       have hb0 : Below w.heap.size w W := by rw [eW]; exact (Below.refl _ _).alloc (Nat.le_refl _) _
       have hB0 : Blk W w.heap.size (boxOf ep nu wh A len cap) 25 := by rw [eW]; exact Blk.new _ _ _
       clear eW; have C := lives_any W; (with_reducible refine C.mono ?_); clear C; rintro e w1 ⟨rfl, hb1⟩; have hBB1 := hB0.below hb1; have hB1 := box_cells hBB1; have ha1 := hB1.1; have ha2 := hB1.2.1; have ha3 := hB1.2.2)
    | (refine get_row rfl 25 (.tmp 2) rfl w.heap.size rfl 25 #[.int .u32 ep, .int .u32 nu, .bool wh, .slice A len cap] _ hBB1 Try.underlying25 rfl inf25 ?_)
    | (go_at_call 7; have C := bytes_long w1 ep nu wh A len cap h' (by omega); (with_reducible refine C.mono ?_); clear C; rintro e w2 ⟨rfl, hb2⟩; have hB2 := box_cells (hBB1.below hb2); have hc1 := hB2.1; have hc2 := hB2.2.1; have hc3 := hB2.2.2))
  go_ret
  have h01 := below_then hb0 hb0.size hb1
  exact ⟨rfl, below_then h01 h01.size hb2⟩
set_option maxHeartbeats 4000000 in
theorem pbytes_any (xs more : List Int) (he : 0 ≤ ep ∧ ep ≤ 4294967295) (hn : 0 ≤ nu ∧ nu ≤ 4294967295) (hx : Kd.C (Kd.int .u8) w A xs.length xs) (hby : Bytes xs) (hl : xs.length ≤ 600) (hcap : xs.length ≤ cap)
    (hm : Kd.C (Kd.int .u8) w B more.length more) (hmy : Bytes more) (hml : more.length ≤ 100) :
    Calls Try.prog 3 #[.agg #[.int .u32 ep, .int .u32 nu, .bool wh, .slice A xs.length cap], .slice B more.length c] w fun e w' => e = .returned (.bool true) ∧ Below w.heap.size w w' := by
  obtain ⟨ps, hps⟩ : ∃ ps, ps = pk ep nu wh xs := ⟨_, rfl⟩
  obtain ⟨qs, hqs⟩ : ∃ qs, qs = ps ++ more := ⟨_, rfl⟩
  obtain ⟨p1, p2, p3, p4, p5, p6⟩ := pk_parses (ep := ep) (nu := nu) (wh := wh) (pl := xs) (more := more) he hn hby hmy hl
  rw [← hps, ← hqs] at p1 p2 p3 p4 p5 p6
  have hpl : ps.length = 17 + xs.length := by rw [hps, pk_length]
  have hql : qs.length = 17 + xs.length + more.length := by rw [hqs, List.length_append, hpl]
  have hqy : Bytes qs := by rw [hqs, hps]; exact (pk_bytes ep nu wh hby).append hmy
  have q1 : pE qs = ep := by unfold pE; rw [if_pos p1, p2]
  have q2 : pN qs = nu := by unfold pN; rw [if_pos p1, p3]
  have q3 : pW qs = wh := by unfold pW; rw [if_pos p1, p4]
  have q4 : pP qs = xs := by unfold pP; rw [if_pos p1, p5]
  have q5 : pL qs = 17 + xs.length := by unfold pL; rw [if_pos p1, p6]
  have PS := Lib.hid hps
  have QS := Lib.hid hqs
  have QL := Lib.hid hql
  clear hps hqs p2 p3 p4 p5 p6 hql
  go_enter Try.func3, Try.ntmps3
  go_wp2_with (first
    | (go_at_call 6; refine abs_calls (fun W eW => ?_)
       have hb0 : Below w.heap.size w W := by rw [eW]; exact (Below.refl _ _).alloc (Nat.le_refl _) _
       have hB0 : Blk W w.heap.size (boxOf ep nu wh A xs.length cap) 25 := by rw [eW]; exact Blk.new _ _ _
       have hs0 : w.heap.size < W.heap.size := by rw [eW]; simp
       clear eW; have C := lives_any W; (with_reducible refine C.mono ?_); clear C; rintro e w1 ⟨rfl, hb1⟩; have hBB1 := hB0.below hb1; have hB1 := box_cells hBB1; have ha1 := hB1.1; have ha2 := hB1.2.1; have ha3 := hB1.2.2; have h01 := below_then hb0 hb0.size hb1; have hx1 := Kd.C_below hx h01)
    | (refine get_row rfl 25 (.tmp 2) rfl w.heap.size rfl 25 #[.int .u32 ep, .int .u32 nu, .bool wh, .slice A xs.length cap] _ hBB1 Try.underlying25 rfl inf25 ?_)
    | (go_at_call 7; have C := bytes_at w1 ep nu wh A cap xs.length xs ps rfl he hn hx1 hby hl PS.out; (with_reducible refine C.mono ?_); clear C; rintro e w2 ⟨A2, c2, rfl, hc2, hO2, hC2, hl2, hy2, hb2⟩; have hBB2 := hBB1.below hb2; have hB2 := box_cells hBB2; have hd1 := hB2.1; have hd2 := hB2.2.1; have hd3 := hB2.2.2; have h02 := below_then h01 h01.size hb2)
    | (at_builtin; refine print_append_row (w0 := w2) w2.heap.size rfl (.tmp 41) (.tmp 42) 23 5 .u8 1 rfl Try.underlying23 info5 (by omega) _ [] ps A2 (17 + xs.length) c2 rfl rfl (own_e w2 w2.heap.size (Nat.le_refl _)) (ri_of_C (by rw [← hpl]; exact Kd.C_alloc hC2 _)) ((Below.refl _ _).alloc (Nat.le_refl _) _) (by simp) (by simp; omega) ?_; intro v3 w3 hO3 hb3 hg3 ht3; clear hg3 ht3; replace hO3 : w3.ownsRow w2.heap.size 5 1 v3 ps.length (nums .u8 ps) := hO3; have h03 := below_then h02 h02.size hb3; have hm3 := Kd.C_below hm h03)
    | (at_builtin; refine print_append_row (w0 := w2) w2.heap.size rfl (.tmp 43) (.tmp 44) 23 5 .u8 1 rfl Try.underlying23 info5 (by omega) v3 ps more B more.length c rfl rfl hO3 (ri_of_C hm3) hb3 hb3.size (by omega) ?_; intro v4 w4 hO4 hb4 hg4 ht4; clear hg4 ht4; rw [← QS.out] at hO4; obtain ⟨A4, c4, rfl, hR4⟩ := own_reads hO4; have hle4 := own_le hO4; have h04 := below_then h02 h02.size hb4; have hBB4 := hBB2.below hb4)
    | (go_at_call 8; have C := parse_to w4 A4 c4 qs.length qs rfl (Kd.C_of_reads (d := (0 : Int)) hR4) hqy (by have := QL.out; omega) hle4; (with_reducible refine C.mono ?_); clear C; rintro e w5 ⟨A5, c5, rfl, hO5, hb5⟩; rw [q1, q2, q3, q4, q5, p1]; rw [q4] at hO5))
  refine abs_code (fun W7 eW => ?_)
  have h05 := below_then h04 h04.size hb5
  have h07 : Below w.heap.size w W7 := by rw [eW]; exact h05.alloc h05.size _
  have hb57 : Below w5.heap.size w5 W7 := by rw [eW]; exact (Below.refl _ _).alloc (Nat.le_refl _) _
  have hBB7 : Blk W7 w.heap.size #[.int .u32 ep, .int .u32 nu, .bool wh, .slice A xs.length cap] 25 := (hBB4.below hb5).below hb57
  have hQ7 : Blk W7 w5.heap.size #[.int .u32 ep, .int .u32 nu, .bool wh, .slice A5 xs.length c5] 25 := by rw [eW]; exact Blk.new _ _ _
  have hb27 : Below w2.heap.size w2 W7 := below_then (below_then hb4 hb4.size hb5) (Nat.le_trans hb4.size hb5.size) hb57
  have hC7 := Kd.C_below hC2 hb27
  have hx7 := Kd.C_below hx h07
  have hy7 : Kd.C (Kd.int .u8) W7 A5 xs.length xs := Kd.C_below (Kd.C_of_reads (d := (0 : Int)) (own_reads' hO5)) hb57
  have h617 : 17 + (xs.length : Int) ≤ 617 := by omega
  clear eW hb57 hb27 hO5 hb5 hle4 hO4 hR4 hb4 h04 hBB4 h05 hO3 hb3 h03 hm3 hBB2 hB2 hd1 hd2 hd3 h02 hO2 hC2 hl2 hb2 hx1 h01 hB1 ha1 ha2 ha3 hBB1 hb1 hB0 hb0
  have hS7 := S7 (c2 := c2) hBB7 hQ7 hC7 hpl
  have hS70 := S7 (c2 := c2) hBB7.drew hQ7.drew (Kd.C_drew hC7) hpl
  go_region_held (fun W' => W'.cell? ⟨w.heap.size, 0, none⟩ = some (.int .u32 ep) ∧ W'.cell? ⟨w.heap.size, 1, none⟩ = some (.int .u32 nu) ∧ W'.cell? ⟨w.heap.size, 2, none⟩ = some (.bool wh) ∧ W'.cell? ⟨w.heap.size, 3, none⟩ = some (.slice A xs.length cap) ∧ W'.cell? ⟨w5.heap.size, 0, none⟩ = some (.int .u32 ep) ∧ W'.cell? ⟨w5.heap.size, 1, none⟩ = some (.int .u32 nu) ∧ W'.cell? ⟨w5.heap.size, 2, none⟩ = some (.bool wh) ∧ W'.cell? ⟨w5.heap.size, 3, none⟩ = some (.slice A5 xs.length c5) ∧ Sem.run Try.prog (convert 23 9 (Value.slice A2 (17 + xs.length) c2)) W' = Result.ok (Value.string (strOfNums ps)) W') (first | with_reducible assumption | go_keep)
    (first
      | (go_at_call 10; have C := law_of_any W7.drew ep nu wh A xs.length cap; (with_reducible refine C.mono ?_); clear C; rintro e w8 ⟨rfl, hb8⟩; have hS8 := S7 (c2 := c2) (hBB7.drew.below hb8) (hQ7.drew.below hb8) (Kd.C_below (Kd.C_drew hC7) hb8) hpl; have hBB8 := hBB7.drew.below hb8; have hQ8 := hQ7.drew.below hb8; have hC8 := Kd.C_below (Kd.C_drew hC7) hb8; have hx8 := Kd.C_below (Kd.C_drew hx7) hb8; have hy8 := Kd.C_below (Kd.C_drew hy7) hb8)
      | (go_at_call 9; have C := refBytes_at w8 ep nu wh A cap xs.length xs rfl he hn hx8 hby hl; (with_reducible refine C.mono ?_); clear C; rintro e w9 ⟨v9, rfl, hO9, hb9⟩; rw [← pk_ref ep nu wh hby, ← PS.out] at hO9; obtain ⟨A9, c9, rfl, hR9⟩ := own_reads hO9; have hS9 := S7 (c2 := c2) (hBB8.below hb9) (hQ8.below hb9) (Kd.C_below hC8 hb9) hpl; have hC9 := Kd.C_below hC8 hb9; have hBB9 := hBB8.below hb9; have hQ9 := hQ8.below hb9; have hx9 := Kd.C_below hx8 hb9; have hy9 := Kd.C_below hy8 hb9; have hs9 := Kd.C_string (P := Try.prog) (c := c9) Try.underlying23 Try.underlying5 Try.underlying9 (Kd.C_of_reads (d := (0 : Int)) hR9); rw [hpl] at hs9)
      | (go_at_call 10; have C := law_of_any w9 ep nu wh A xs.length cap; (with_reducible refine C.mono ?_); clear C; rintro e w10 ⟨rfl, hb10⟩; have hS10 := S7 (c2 := c2) (hBB9.below hb10) (hQ9.below hb10) (Kd.C_below hC9 hb10) hpl; have hx10 := Kd.C_below hx9 hb10; have hy10 := Kd.C_below hy9 hb10; have hQ10 := hQ9.below hb10; have hBB10 := hBB9.below hb10; have hC10 := Kd.C_below hC9 hb10)
      | (go_at_call 11; have C := same_any w10 ep nu ep nu wh wh A5 A c5 cap xs xs hy10 hx10 hby hby; (with_reducible refine C.mono ?_); clear C; rintro e w11 ⟨rfl, hb11⟩; have hS11 := S7 (c2 := c2) (hBB10.below hb11) (hQ10.below hb11) (Kd.C_below hC10 hb11) hpl))
  all_goals go_wp2
  all_goals go_ret
  all_goals
    have k8 := below_then h07.drew h07.size hb8
    have k9 := below_then k8 k8.size hb9
    have k10 := below_then k9 k9.size hb10
    exact ⟨rfl, below_then k10 k10.size hb11⟩
end

end Go.Proofs.Ytapiimahhkfjnaa
