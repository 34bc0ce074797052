/- The reference's reading of all bytes. -/
import Derived.Test.YtapiimahhkfjnaaFB
namespace Go.Proofs.Ytapiimahhkfjnaa
open Go.RowKit Go.Proofs.YtapiimahhkfjnaaW.PrintWords Go.Sb

theorem info33 : (Try.prog.info? 33).map (fun i => (i.zero, i.size, i.bytes)) = some (some zeroP, 4, 40) := by kernel_rfl
/-- a packet whose payload lies among the bytes that came -/
def Among (A : Option Addr) (zs : List Int) (m : MP) : Prop := (∀ X : World, Kd.C (Kd.int .u8) X A zs.length zs → Kd.C (Kd.int .u8) X m.A m.p.pl.length m.p.pl) ∧ Bytes m.p.pl
structure RInv (w : World) (zs : List Int) (A : Option Addr) (vo : Value) (wr : World) (ms : List MP) (l : Nat) (ys : List Int) (Ay : Option Addr) (cy : Nat) : Prop where
  row : OwnRow PR 33 4 wr w.heap.size vo ms
  le : ys.length ≤ cy
  some_ : ∀ X : World, Kd.C (Kd.int .u8) X A zs.length zs → Kd.C (Kd.int .u8) X Ay ys.length ys
  run : Run zs (ms.map (·.p)) l ys
  among : ∀ m ∈ ms, Among A zs m
  bel : Below w.heap.size w wr
section
variable {w : World} {zs : List Int} {A : Option Addr} {vo : Value} {wr w2 : World} {ms : List MP} {l : Nat} {ys : List Int} {Ay : Option Addr} {cy : Nat}
theorem RInv.below (h : RInv w zs A vo wr ms l ys Ay cy) (hb : Below wr.heap.size wr w2) : RInv w zs A vo w2 ms l ys Ay cy :=
  ⟨h.row.below hb, h.le, h.some_, h.run, h.among, below_then h.bel h.bel.size hb⟩
theorem RInv.stepB (h : RInv w zs A vo wr ms l ys Ay cy) (h0 : prs ys ≠ 0) (h2 : prs ys ≠ 2) {A' : Option Addr} {c' : Nat} (hc : ys.length - 1 ≤ c')
    (hC : ∀ X : World, Kd.C (Kd.int .u8) X Ay ys.length ys → Kd.C (Kd.int .u8) X A' (ys.drop 1).length (ys.drop 1)) : RInv w zs A vo wr ms (l + 1) (ys.drop 1) A' c' :=
  ⟨h.row, by rw [List.length_drop]; exact hc, fun X hX => hC X (h.some_ X hX), h.run.snocB h0 h2, h.among, h.bel⟩
theorem RInv.stepP {w1 : World} {vo1 : Value} (h : RInv w zs A vo wr ms l ys Ay cy) (h0 : prs ys = 0) {A' : Option Addr} {c' : Nat} (hc : ys.length - pL ys ≤ c')
    (hC : ∀ X : World, Kd.C (Kd.int .u8) X Ay ys.length ys → Kd.C (Kd.int .u8) X A' (ys.drop (pL ys)).length (ys.drop (pL ys))) {A3 : Option Addr} {c3 : Nat} (hy : Bytes ys)
    (h3 : ∀ X : World, Kd.C (Kd.int .u8) X Ay ys.length ys → Kd.C (Kd.int .u8) X A3 (pP ys).length (pP ys))
    (hrow : OwnRow PR 33 4 w1 w.heap.size vo1 (ms ++ [⟨pkOf ys, A3, c3⟩])) (hb : Below w.heap.size w w1) : RInv w zs A vo1 w1 (ms ++ [⟨pkOf ys, A3, c3⟩]) l (ys.drop (pL ys)) A' c' := by
  have hm1 : (ms ++ [⟨pkOf ys, A3, c3⟩] : List MP).map (·.p) = ms.map (·.p) ++ [pkOf ys] := by simp
  refine ⟨hrow, by rw [List.length_drop]; exact hc, fun X hX => hC X (h.some_ X hX), by rw [hm1]; exact h.run.snocP h0, fun m hm => ?_, hb⟩
  rcases List.mem_append.1 hm with h1 | h1
  · exact h.among m h1
  · rw [List.mem_singleton.1 h1]
    exact ⟨fun X hX => h3 X (h.some_ X hX), pP_bytes hy⟩
end
set_option maxHeartbeats 4000000 in
theorem all_any (w : World) (A : Option Addr) (cap : Nat) (zs : List Int) (hx : Kd.C (Kd.int .u8) w A zs.length zs) (hby : Bytes zs) (hlen : zs.length ≤ 100000) (hcap : zs.length ≤ cap) :
    Calls Try.prog 14 #[.slice A zs.length cap] w fun e w' => ∃ (v' : Value) (ms : List MP) (l : Nat) (r : List Int), e = .returned (.tuple #[v', .int .i64 l, .int .i64 r.length]) ∧
      OwnRow PR 33 4 w' w.heap.size v' ms ∧ Run zs (ms.map (·.p)) l r ∧ prs r = 2 ∧ (∀ m ∈ ms, Among A zs m) ∧ Below w.heap.size w w' := by
  go_enter Try.func14, Try.ntmps14
  go_wp2
  go_loopw [0, 5, 6] (fun vb vo vl wr => ∃ (ms : List MP) (l : Nat) (ys : List Int) (Ay : Option Addr) (cy : Nat), vb = .slice Ay ys.length cy ∧ vl = .int .i64 l ∧ RInv w zs A vo wr ms l ys Ay cy) (fun vb _ _ _ => match vb with | .slice _ n _ => n | _ => 0)
  case atStart => exact ⟨[], 0, zs, A, cap, rfl, rfl, OwnRow.none_ _ _ _ _ _, hcap, fun _ h => h, .nil _, fun m hm => by simp at hm, Below.refl _ _⟩
  case round =>
    obtain ⟨ms, l, ys, Ay, cy, rfl, rfl, hI⟩ := hrel
    obtain ⟨hyl, hml⟩ := hI.run.len
    have hyy := hI.run.bytes hby
    have hcy := hI.le
    by_cases h2 : prs ys = 2
    · rcases Nat.eq_zero_or_pos ys.length with h0 | h0
      · obtain rfl : ys = [] := List.eq_nil_of_length_eq_zero h0
        go_wp2
        go_ret3
        exact ⟨_, ms, l, [], rfl, hI.row, hI.run, h2, hI.among, hI.bel⟩
      · have h0' : (0 : Int) < ys.length := by omega
        go_wp2_with (first
          | (go_at_call 12; have C := refParse_to wr Ay cy ys.length ys rfl (hI.some_ _ (Kd.C_below hx hI.bel)) hyy (by omega) hcy; (with_reducible refine C.mono ?_); clear C; rintro e w3 ⟨A3, c3, rfl, hO3, hb3⟩; rw [h2]))
        go_ret3
        have h4 := (hI.below hb3).below ((Below.refl _ _).alloc (Nat.le_refl _) (.cells #[.int .u32 (pE ys), .int .u32 (pN ys), .bool (pW ys), .slice A3 (pP ys).length c3] 33))
        exact ⟨_, ms, l, ys, rfl, h4.row, h4.run, h2, h4.among, h4.bel⟩
    · have h0 := len_of_prs h2
      have h0' : (0 : Int) < ys.length := by omega
      have h2' : (prs ys == 2) = false := beq_eq_false_iff_ne.2 h2
      obtain ⟨i0, hi, hz0, hz1, hz2⟩ := info_parts info5
      by_cases h3 : prs ys = 0
      · obtain ⟨_, _, hpl, hpl0⟩ := pkOf_app (ys := []) h3
        obtain ⟨A5, c5, hc5, hcut, hC5⟩ := cutB_from 23 5 Try.underlying23 hi hz1 .i64 Ay ys.length cy (pL ys : Int) (pL ys) (ys.length - pL ys) rfl rfl hpl hcy
        go_wp2_with (first
          | (go_at_call 12; have C := refParse_to wr Ay cy ys.length ys rfl (hI.some_ _ (Kd.C_below hx hI.bel)) hyy (by omega) hcy; (with_reducible refine C.mono ?_); clear C; rintro e w3 ⟨A3, c3, rfl, hO3, hb3⟩; rw [h3])
          | (at_builtin; refine OwnRow.append (R := PR) (w0 := w) (W := w3.alloc (.cells #[.int .u32 (pE ys), .int .u32 (pN ys), .bool (pW ys), .slice A3 (pP ys).length c3] 33)) w.heap.size rfl (.tmp 27) (.tmp 29) 44 33 zeroP 4 40 rfl Try.underlying44 info33 rfl (by omega) (by omega) _ ms ⟨pkOf ys, A3, c3⟩ [.int .u32 (pE ys), .int .u32 (pN ys), .bool (pW ys), .slice A3 (pP ys).length c3] rfl (by show Value.slice (some ⟨w3.heap.size + 1, 0, none⟩) 1 1 = _; simp) rfl rfl (by simp [Value.oneCell']) ((hI.below hb3).below ((Below.refl _ _).alloc (Nat.le_refl _) _)).row ((hI.below hb3).below ((Below.refl _ _).alloc (Nat.le_refl _) _)).bel (Nat.le_trans (Nat.le_trans hI.bel.size hb3.size) (by simp)) (by simp at hml; omega) ?_; intro v5 w5 hrow5 hb5 hg5 ht5; clear ht5 hg5))
        go_roundw
        case rel => exact ⟨_, l, ys.drop (pL ys), A5, c5, by rw [List.length_drop], rfl, hI.stepP h3 hc5 (fun X hX => hC5 X .u8 ys rfl hX) hyy hO3 hrow5 hb5⟩
        case measure => show ys.length - pL ys < ys.length; omega
      · have h3' : (prs ys == 0) = false := beq_eq_false_iff_ne.2 h3
        obtain ⟨A5, c5, hc5, hcut, hC5⟩ := cutB_from 23 5 Try.underlying23 hi hz1 .i64 Ay ys.length cy 1 1 (ys.length - 1) rfl rfl (by omega) hcy
        have hlw : IntKind.i64.wrap ((l : Int) + 1) = l + 1 := IntWalk.i64_in _ (by omega)
        go_wp2_with (first
          | (go_at_call 12; have C := refParse_to wr Ay cy ys.length ys rfl (hI.some_ _ (Kd.C_below hx hI.bel)) hyy (by omega) hcy; (with_reducible refine C.mono ?_); clear C; rintro e w3 ⟨A3, c3, rfl, hO3, hb3⟩))
        go_roundw
        case rel =>
          have h4 := (hI.below hb3).below ((Below.refl _ _).alloc (Nat.le_refl _) (.cells #[.int .u32 (pE ys), .int .u32 (pN ys), .bool (pW ys), .slice A3 (pP ys).length c3] 33))
          exact ⟨ms, l + 1, ys.drop 1, A5, c5, by rw [List.length_drop], rfl, h4.stepB h3 h2 hc5 (fun X hX => hC5 X .u8 ys rfl hX)⟩
        case measure => show ys.length - 1 < ys.length; omega

end Go.Proofs.Ytapiimahhkfjnaa
