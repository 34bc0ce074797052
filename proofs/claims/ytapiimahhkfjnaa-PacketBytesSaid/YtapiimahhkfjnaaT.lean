/- The law on what bytes are parsed to. -/
import Derived.Test.YtapiimahhkfjnaaS
namespace Go.Proofs.Ytapiimahhkfjnaa
open Go.RowKit Go.Proofs.YtapiimahhkfjnaaW.PrintWords Go.Sb

set_option maxHeartbeats 2000000 in
theorem parses_long (w : World) (A : Option Addr) (len cap : Nat) (hl : 1500 < len) :
    Calls Try.prog 4 #[.slice A len cap] w fun e w' => e = .returned (.bool true) ∧ Below w.heap.size w w' := by
  go_enter Try.func4, Try.ntmps4
  go_wp2_with (first
    | (go_at_call 6; have C := lives_any w; (with_reducible refine C.mono ?_); clear C; rintro e w1 ⟨rfl, hb1⟩)
    | (go_at_call 6; have C := lives_any w1; (with_reducible refine C.mono ?_); clear C; rintro e w2 ⟨rfl, hb2⟩))
  go_ret
  exact ⟨rfl, below_then hb1 hb1.size hb2⟩

theorem own_e (W : World) (base : Nat) (hb : base ≤ W.heap.size) : (W.alloc (.cells #[] 5)).ownsRow base 5 1 (.slice (some ⟨W.heap.size, 0, none⟩) 0 0) ([] : List Int).length (nums .u8 []) := by
  have h := own_lit W base 5 .u8 [] hb (by simp)
  simpa [nums] using h
set_option maxHeartbeats 2000000 in
theorem parses_any (w : World) (A : Option Addr) (cap : Nat) (xs : List Int) (hx : Kd.C (Kd.int .u8) w A xs.length xs) (hby : Bytes xs) (hl : xs.length ≤ 1500) (hcap : xs.length ≤ cap) :
    Calls Try.prog 4 #[.slice A xs.length cap] w fun e w' => e = .returned (.bool true) ∧ Below w.heap.size w w' := by
  go_enter Try.func4, Try.ntmps4
  go_wp2_with (first
    | (go_at_call 6; have C := lives_any w; (with_reducible refine C.mono ?_); clear C; rintro e w1 ⟨rfl, hb1⟩)
    | (at_builtin; refine print_append_row (w0 := w) w.heap.size rfl (.tmp 19) (.tmp 20) 23 5 .u8 1 rfl Try.underlying23 info5 (by omega) _ [] xs A xs.length cap rfl rfl (own_e w1 w.heap.size hb1.size) (ri_of_C (Kd.C_alloc (Kd.C_below hx hb1) _)) (hb1.alloc hb1.size _) (Nat.le_trans hb1.size (by simp)) (by simp; omega) ?_; intro v2 w2 hO2 hb2 hg2 ht2; replace hO2 : w2.ownsRow w.heap.size 5 1 v2 xs.length (nums .u8 xs) := hO2; obtain ⟨A2, c2, rfl, hR2⟩ := own_reads hO2; have hle2 := own_le hO2)
    | (go_at_call 8; have C := parse_to w2 A2 c2 xs.length xs rfl (Kd.C_of_reads (d := (0 : Int)) hR2) hby (by omega) hle2; (with_reducible refine C.mono ?_); clear C; rintro e w3 ⟨A3, c3, rfl, hO3, hb3⟩)
    | (go_at_call 12; refine abs_calls (fun W5 eW => ?_)
       have h3 := below_then hb2 hb2.size hb3
       have hb5 : Below w.heap.size w W5 := by rw [eW]; exact h3.alloc h3.size _
       have hP5 : Blk W5 w3.heap.size #[.int .u32 (pE xs), .int .u32 (pN xs), .bool (pW xs), .slice A3 (pP xs).length c3] 25 := by rw [eW]; exact Blk.new _ _ _
       have hO25 : W5.ownsRow w.heap.size 5 1 (.slice A2 xs.length c2) xs.length (nums .u8 xs) := by rw [eW]; exact pw_own_below (pw_own_below hO2 hb3) ((Below.refl _ _).alloc (Nat.le_refl _) _)
       have hO35 : W5.ownsRow w2.heap.size 5 1 (.slice A3 (pP xs).length c3) (pP xs).length (nums .u8 (pP xs)) := by rw [eW]; exact pw_own_below hO3 ((Below.refl _ _).alloc (Nat.le_refl _) _)
       have h35 : w3.heap.size < W5.heap.size := by rw [eW]; simp
       clear eW
       have C := refParse_to W5 A cap xs.length xs rfl (Kd.C_below hx hb5) hby (by omega) hcap; (with_reducible refine C.mono ?_); clear C; rintro e w4 ⟨A4, c4, rfl, hC4, hb4⟩))
  have hlt2 := own_lt hO2
  have hbs := own_base hO3
  clear hg2 ht2 hR2
  refine abs_code (fun W eW => ?_)
  have hb6 : Below w.heap.size w W := by rw [eW]; exact (below_then hb5 hb5.size hb4).alloc (Nat.le_trans hb5.size hb4.size) _
  have hn6 : Below W5.heap.size W5 W := by rw [eW]; exact hb4.alloc hb4.size _
  have hQ6 : Blk W w4.heap.size #[.int .u32 (pE xs), .int .u32 (pN xs), .bool (pW xs), .slice A4 (pP xs).length c4] 33 := by rw [eW]; exact Blk.new _ _ _
  have hP6 := hP5.below hn6
  have hO26 := pw_own_below hO25 hn6
  have hO36 := pw_own_below hO35 hn6
  have h4 : W5.heap.size ≤ w4.heap.size := hb4.size
  have h23 : w2.heap.size ≤ w3.heap.size := hb3.size
  clear eW hP5 hO25 hO35 hn6 hO3 hO2
  go_loopw [36] (fun i wr => ∃ (k : Nat) (ys : List Int), i = .int .i64 k ∧ k ≤ xs.length ∧ ys.length = xs.length ∧ Bytes ys ∧ wr.ownsRow w.heap.size 5 1 (.slice A2 xs.length c2) xs.length (nums .u8 ys) ∧ Fr (OwnB (.slice A2 xs.length c2)) W wr) (fun i _ => xs.length - (intOf i).toNat)
  case atStart => exact ⟨0, xs, rfl, Nat.zero_le _, rfl, hby, hO26, Fr.refl _ _⟩
  case round =>
    obtain ⟨k, ys, rfl, hk, hyl, hyb, hO, hF⟩ := hrel
    by_cases hlt : k < xs.length
    · obtain ⟨g, cap2, e2, hg1, hg2⟩ := hO.form (by omega)
      cases e2
      obtain ⟨hcell, hfz⟩ := own_at hO (k : Int) (by omega) (by omega)
      replace hcell : World.cell? _ ⟨g, k, none⟩ = some (.int .u8 (rd ys k)) := hcell
      replace hfz : World.frozen? _ ⟨g, k, none⟩ = false := hfz
      have hlt' : (k : Int) < xs.length := by omega
      go_wp2
      go_roundw
      case rel =>
        obtain ⟨hO', _⟩ := own_store hO (k : Int) (bits .xor .u8 (rd ys k) 255)
        refine ⟨k + 1, _, rfl, by omega, ?_, ?_, hO', hF.setCell (p := ⟨g, k, none⟩) (.inl rfl) _⟩
        · rw [List.length_set]; exact hyl
        · intro z hz
          rcases List.mem_or_eq_of_mem_set hz with h | h
          · exact hyb z h
          · rw [h]
            show 0 ≤ IntKind.u8.wrap _ ∧ IntKind.u8.wrap _ ≤ 255
            rw [IntKind.wrap_u8]; omega
      case measure => simp [intOf]; omega
    · obtain rfl : k = xs.length := by omega
      have hg3 : ¬ OwnB (.slice A2 xs.length c2) w3.heap.size := fun h => by have := hlt2 _ h; omega
      have hg4 : ¬ OwnB (.slice A2 xs.length c2) w4.heap.size := fun h => by have := hlt2 _ h; omega
      have hP7 := hP6.fr hF hg3
      have hQ7 := hQ6.fr hF hg4
      have hb7 := below_own hb6 hb6.size hF (own_base hO26)
      have hCq := hC4 wr (Kd.C_below hx hb7)
      have hCp : Kd.C (Kd.int .u8) wr A3 (pP xs).length (pP xs) := C_move (Kd.C_of_reads (d := (0 : Int)) (own_reads' hO36)) (fun ad e _ hl' => hF.block _ hl' (fun h => by
        have h1 := hlt2 _ h
        have h2 := hbs ad.block (by rw [e]; rfl)
        omega))
      have hpb := pP_bytes hby
      clear hC4 hF hO hO26 hO36 hP6 hQ6
      go_wp2_with (first
        | (refine get_row_g rfl 25 (.tmp 4) rfl w3.heap.size rfl 25 _ _ hP7 Try.underlying25 rfl inf25 ?_)
        | (refine get_row_g rfl 33 (.tmp 7) rfl w4.heap.size rfl 33 _ _ hQ7 Try.underlying33 rfl inf33 ?_)
        | (go_at_call 11; have C := same_any wr (pE xs) (pN xs) (pE xs) (pN xs) (pW xs) (pW xs) A3 A4 c3 c4 (pP xs) (pP xs) hCp hCq hpb hpb; (with_reducible refine C.mono ?_); clear C; rintro e w8 ⟨rfl, hb8⟩))
      go_ret
      exact ⟨rfl, below_then hb7 hb7.size hb8⟩

end Go.Proofs.Ytapiimahhkfjnaa
