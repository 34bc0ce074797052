/- The reader of packets, fed. -/
import Derived.Test.YtapiimahhkfjnaaFA
namespace Go.Proofs.Ytapiimahhkfjnaa
open Go.RowKit Go.Proofs.YtapiimahhkfjnaaW.PrintWords Go.Sb

theorem info25 : (Try.prog.info? 25).map (fun i => (i.zero, i.size, i.bytes)) = some (some zeroP, 4, 40) := by kernel_rfl
/-- a packet, as memory bears it -/
structure MP where
  p : Pk
  A : Option Addr
  c : Nat
def cellsOf (m : MP) : List Value := [.int .u32 m.p.ep, .int .u32 m.p.nu, .bool m.p.wh, .slice m.A m.p.pl.length m.c]
def PR : MP → List Value → Prop := fun m cs => cs = cellsOf m
def plv (m : MP) : Value := .slice m.A m.p.pl.length m.c
/-- its payload is a row of its own, behind one block and ahead of another -/
def Good (w : World) (lo hi : Nat) (m : MP) : Prop := w.ownsRow lo 5 1 (plv m) m.p.pl.length (nums .u8 m.p.pl) ∧ Bytes m.p.pl ∧ ∀ k, (plv m).ownBlock = some k → k < hi
theorem Good.fr {w w' : World} {lo hi : Nat} {m : MP} {S : Nat → Prop} (h : Good w lo hi m) (k : Fr S w w') (hS : ∀ b, S b → b < lo ∨ hi ≤ b) : Good w' lo hi m :=
  ⟨own_move h.1 (fun b e => k.block _ (own_lt h.1 b e) (fun hs => by have h1 := h.2.2 b e; have h2 := own_base h.1 b e; rcases hS _ hs with h | h <;> omega)), h.2⟩
theorem Good.mono {w : World} {lo hi lo' hi' : Nat} {m : MP} (h : Good w lo hi m) (h1 : lo' ≤ lo) (h2 : hi ≤ hi') : Good w lo' hi' m := ⟨own_weaken h.1 h1, h.2.1, fun k e => by have := h.2.2 k e; omega⟩
theorem Good.reads {w : World} {lo hi : Nat} {m : MP} (h : Good w lo hi m) : Kd.C (Kd.int .u8) w m.A m.p.pl.length m.p.pl := Kd.C_of_reads (d := (0 : Int)) (own_reads' h.1)

theorem pw_weak {B : Nat} {w w1 : World} (h : Below w.heap.size w w1) (hB : B ≤ w.heap.size) : Below B w w1 := ⟨h.os, h.tape, h.output, h.size, fun i hi => h.block i (by omega)⟩
set_option maxHeartbeats 1000000 in
theorem lost_any (w : World) (g : Nat) (v : Value) (l : Int) (hg : Blk w g #[v, .int .i64 l] 41) :
    Calls Try.prog 15 #[.pointer (some ⟨g, 0, none⟩)] w fun e w' => e = .returned (.int .i64 l) ∧ w = w' := by
  have h1 := hg.cell 1 rfl
  go_enter Try.func15, Try.ntmps15
  go_wp2
  go_ret
  exact ⟨rfl, rfl⟩
set_option maxHeartbeats 1000000 in
theorem left_any (w : World) (g : Nat) (A : Option Addr) (n c : Nat) (l : Int) (hg : Blk w g #[.slice A n c, .int .i64 l] 41) :
    Calls Try.prog 16 #[.pointer (some ⟨g, 0, none⟩)] w fun e w' => e = .returned (.int .i64 n) ∧ w = w' := by
  have h1 := hg.cell 0 rfl
  go_enter Try.func16, Try.ntmps16
  go_wp2
  go_ret
  exact ⟨rfl, rfl⟩
set_option maxHeartbeats 1000000 in
theorem none_lost (w : World) : Calls Try.prog 15 #[.pointer none] w fun e w' => e = .returned (.int .i64 0) ∧ w = w' := by
  go_enter Try.func15, Try.ntmps15
  go_wp2
  go_ret
  exact ⟨rfl, rfl⟩
set_option maxHeartbeats 1000000 in
theorem none_left (w : World) : Calls Try.prog 16 #[.pointer none] w fun e w' => e = .returned (.int .i64 0) ∧ w = w' := by
  go_enter Try.func16, Try.ntmps16
  go_wp2
  go_ret
  exact ⟨rfl, rfl⟩
set_option maxHeartbeats 1000000 in
theorem none_feed (w : World) (x : Value) : Calls Try.prog 13 #[.pointer none, x] w fun e w' => e = .returned (.slice none 0 0) ∧ w = w' := by
  go_enter Try.func13, Try.ntmps13
  go_wp2
  go_ret
  exact ⟨rfl, rfl⟩

/-- what holds at the loop's head -/
structure FInv (w : World) (N g : Nat) (v : Value) (lost : Nat) (zs : List Int) (A1 : Option Addr) (vo : Value) (wr : World) (ms : List MP) (l : Nat) (ys : List Int) (Ay : Option Addr) (cy : Nat) : Prop where
  row : OwnRow PR 25 4 wr N vo ms
  blk : Blk wr g #[.slice Ay ys.length cy, .int .i64 (lost + l : Nat)] 41
  le : ys.length ≤ cy
  all : Kd.C (Kd.int .u8) wr A1 zs.length zs
  some_ : ∀ X : World, Kd.C (Kd.int .u8) X A1 zs.length zs → Kd.C (Kd.int .u8) X Ay ys.length ys
  run : Run zs (ms.map (·.p)) l ys
  good : ∀ m ∈ ms, Good wr N wr.heap.size m
  fr : Fr (fun k => k = g ∨ v.ownBlock = some k) w wr
  size : N ≤ wr.heap.size
  fr0 : w.heap.size ≤ N
section
variable {w : World} {N g : Nat} {v : Value} {lost : Nat} {zs : List Int} {A1 : Option Addr} {vo : Value} {wr w2 : World} {ms : List MP} {l : Nat} {ys : List Int} {Ay : Option Addr} {cy : Nat}
theorem FInv.below (h : FInv w N g v lost zs A1 vo wr ms l ys Ay cy) (hb : Below wr.heap.size wr w2) : FInv w N g v lost zs A1 vo w2 ms l ys Ay cy :=
  ⟨h.row.below hb, h.blk.below hb, h.le, Kd.C_below h.all hb, h.some_, h.run, fun m hm => ((h.good m hm).fr (Fr.of_below hb NoB) (fun _ x => x.elim)).mono (Nat.le_refl _) hb.size, h.fr.thenB hb, Nat.le_trans h.size hb.size, h.fr0⟩
theorem FInv.bytes (h : FInv w N g v lost zs A1 vo wr ms l ys Ay cy) : Kd.C (Kd.int .u8) wr Ay ys.length ys := h.some_ _ h.all
theorem far_all {g : Nat} (hA : ∀ ad, A1 = some ad → ad.block ≠ g) (h : Kd.C (Kd.int .u8) wr A1 zs.length zs) (j : Nat) (u : Value) : Kd.C (Kd.int .u8) (wr.setCell ⟨g, j, none⟩ u) A1 zs.length zs :=
  C_move h (fun ad e _ _ => Below.heap_setCell wr ⟨g, j, none⟩ u ad.block (hA ad e))
theorem far_good {g : Nat} (hg : g < N) (h : ∀ m ∈ ms, Good wr N wr.heap.size m) (j : Nat) (u : Value) : ∀ m ∈ ms, Good (wr.setCell ⟨g, j, none⟩ u) N (wr.setCell ⟨g, j, none⟩ u).heap.size m := fun m hm =>
  ((h m hm).fr ((Fr.refl (OneB g) wr).setCell (p := ⟨g, j, none⟩) (.inl rfl) u) (fun b hb => .inl (by rw [hb]; exact hg))).mono (Nat.le_refl _) (by simp [World.setCell])
/-- a byte is passed over -/
theorem FInv.stepB (h : FInv w N g v lost zs A1 vo wr ms l ys Ay cy) (hA : ∀ ad, A1 = some ad → ad.block ≠ g) (hg : g < N) (h0 : prs ys ≠ 0) (h2 : prs ys ≠ 2) {A' : Option Addr} {c' : Nat} (hc : ys.length - 1 ≤ c')
    (hC : ∀ X : World, Kd.C (Kd.int .u8) X Ay ys.length ys → Kd.C (Kd.int .u8) X A' (ys.drop 1).length (ys.drop 1)) :
    FInv w N g v lost zs A1 vo ((wr.setCell ⟨g, 1, none⟩ (.int .i64 ((lost : Int) + l + 1))).setCell ⟨g, 0, none⟩ (.slice A' (ys.length - 1) c')) ms (l + 1) (ys.drop 1) A' c' := by
  refine ⟨((h.row.set_ h.blk (by decide) _ _).set_ (h.blk.set 1 _) (by decide) _ _), ?_, by rw [List.length_drop]; exact hc, far_all hA (far_all hA h.all _ _) _ _, fun X hX => hC X (h.some_ X hX), h.run.snocB h0 h2,
    far_good hg (far_good hg h.good _ _) _ _, (h.fr.setCell (.inl (.inl rfl)) _).setCell (.inl (.inl rfl)) _, by simpa [World.setCell] using h.size, h.fr0⟩
  have hb := (h.blk.set 1 (.int .i64 ((lost : Int) + l + 1))).set 0 (.slice A' (ys.length - 1) c')
  rw [List.length_drop]
  exact hb
theorem FInv.blk_grown {w1 : World} (h : FInv w N g v lost zs A1 vo wr ms l ys Ay cy) (hg : g < N) (hgr : wr.grownBy w1 vo.ownBlock) : Blk w1 g #[.slice Ay ys.length cy, .int .i64 (lost + l : Nat)] 41 := by
  obtain ⟨inner, hown, hrep⟩ := h.row
  exact (hgr.block g h.blk.lt (fun e => by have := own_base hown g e.symm; omega)).trans h.blk
/-- a packet is taken -/
theorem FInv.stepP {w1 : World} {vo1 : Value} (h : FInv w N g v lost zs A1 vo wr ms l ys Ay cy) (hA : ∀ ad, A1 = some ad → ad.block ≠ g) (hg : g < N) (hlA : ∀ ad, A1 = some ad → ad.block < N) (h0 : prs ys = 0) {A' : Option Addr} {c' : Nat} (hc : ys.length - pL ys ≤ c')
    (hC : ∀ X : World, Kd.C (Kd.int .u8) X Ay ys.length ys → Kd.C (Kd.int .u8) X A' (ys.drop (pL ys)).length (ys.drop (pL ys))) {A3 : Option Addr} {c3 : Nat} (hgo : Good wr N wr.heap.size ⟨pkOf ys, A3, c3⟩)
    (hrow : OwnRow PR 25 4 w1 N vo1 (ms ++ [⟨pkOf ys, A3, c3⟩])) (hgr : wr.grownBy w1 vo.ownBlock) :
    FInv w N g v lost zs A1 vo1 (w1.setCell ⟨g, 0, none⟩ (.slice A' (ys.length - pL ys) c')) (ms ++ [⟨pkOf ys, A3, c3⟩]) l (ys.drop (pL ys)) A' c' := by
  obtain ⟨inner, hown, hrep⟩ := h.row
  have hne : ∀ k, vo.ownBlock = some k → N ≤ k := own_base hown
  have hB1 : Blk w1 g #[.slice Ay ys.length cy, .int .i64 (lost + l : Nat)] 41 := (hgr.block g h.blk.lt (fun e => by have := hne g e.symm; omega)).trans h.blk
  have hfr : Fr (fun k => k = g ∨ v.ownBlock = some k) w w1 := h.fr.grown hgr (fun k hk => .inr (Nat.le_trans h.fr0 (hne k hk)))
  have hgd : ∀ m ∈ ms ++ [⟨pkOf ys, A3, c3⟩], Good w1 N w1.heap.size m := by
    intro m hm
    have hm' : Good wr N wr.heap.size m := by
      rcases List.mem_append.1 hm with h1 | h1
      · exact h.good m h1
      · rw [List.mem_singleton.1 h1]; exact hgo
    refine ⟨own_other hm'.1 hgr (own_type_ne hm'.1 hown (by decide)), hm'.2.1, fun k e => Nat.lt_of_lt_of_le (hm'.2.2 k e) hgr.size⟩
  have hall : Kd.C (Kd.int .u8) w1 A1 zs.length zs := C_move h.all (fun ad e _ hl => hgr.block _ hl (fun e' => by have := hne _ e'.symm; have := hlA ad e; omega))
  have hm1 : (ms ++ [⟨pkOf ys, A3, c3⟩] : List MP).map (·.p) = ms.map (·.p) ++ [pkOf ys] := by simp
  have hb := hB1.set 0 (.slice A' (ys.length - pL ys) c')
  refine ⟨hrow.set_ hB1 (by decide) _ _, ?_, by rw [List.length_drop]; exact hc, far_all hA hall _ _, fun X hX => hC X (h.some_ X hX), by rw [hm1]; exact h.run.snocP h0,
    far_good hg hgd _ _, hfr.setCell (.inl (.inl rfl)) _, by simpa [World.setCell] using Nat.le_trans h.size hgr.size, h.fr0⟩
  rw [List.length_drop]
  exact hb
theorem FInv.done (h : FInv w N g v lost zs A1 vo wr ms l ys Ay cy) (h2 : prs ys = 2) (hwN : w.heap.size ≤ N) (hgN : g < N) {v2 : Value} (hO : w2.ownsRow wr.heap.size 5 1 v2 ys.length (nums .u8 ys)) (hb : Below wr.heap.size wr w2) :
    ∃ (v' v3 : Value) (ms : List MP) (l : Nat) (r : List Int) (M : Nat), Ending.returned vo = .returned v' ∧
      OwnRow PR 25 4 (w2.setCell ⟨g, 0, none⟩ v2) w.heap.size v' ms ∧ Blk (w2.setCell ⟨g, 0, none⟩ v2) g #[v3, .int .i64 (lost + l : Nat)] 41 ∧ (w2.setCell ⟨g, 0, none⟩ v2).ownsRow M 5 1 v3 r.length (nums .u8 r) ∧ Run zs (ms.map (·.p)) l r ∧ prs r = 2 ∧
      (∀ m ∈ ms, Good (w2.setCell ⟨g, 0, none⟩ v2) w.heap.size M m) ∧ w.heap.size ≤ M ∧ M ≤ (w2.setCell ⟨g, 0, none⟩ v2).heap.size ∧ Fr (fun k => k = g ∨ v.ownBlock = some k) w (w2.setCell ⟨g, 0, none⟩ v2) := by
  have hB := h.blk.below hb
  refine ⟨vo, v2, ms, l, ys, wr.heap.size, rfl, ((h.row.below hb).set_ hB (by decide) 0 v2).lower hwN, hB.set 0 v2, own_setCell hO (Ne.symm (own_ne hO hB (by decide)) |>.symm) v2, h.run, h2, fun m hm => ?_, Nat.le_trans hwN h.size, ?_, (h.fr.thenB hb).setCell (.inl (.inl rfl)) _⟩
  · have h1 := (h.good m hm).fr (Fr.of_below hb NoB) (fun _ x => x.elim)
    exact (h1.fr ((Fr.refl (OneB g) w2).setCell (p := ⟨g, 0, none⟩) (.inl rfl) v2) (fun b hb => .inl (by rw [hb]; exact hgN))).mono hwN (Nat.le_refl _)
  · simpa [World.setCell] using hb.size
end

set_option maxHeartbeats 4000000 in
theorem feed_any (w : World) (g base : Nat) (v : Value) (lost : Nat) (rest b : List Int) (A : Option Addr) (cap : Nat) (hg : Blk w g #[v, .int .i64 lost] 41) (hv : w.ownsRow base 5 1 v rest.length (nums .u8 rest))
    (hbase : base ≤ w.heap.size) (hb : Kd.C (Kd.int .u8) w A b.length b) (hyr : Bytes rest) (hyb : Bytes b) (hl : rest.length + b.length ≤ 100000) (hlost : lost ≤ 1000000) :
    Calls Try.prog 13 #[.pointer (some ⟨g, 0, none⟩), .slice A b.length cap] w fun e w' => ∃ (v' v2 : Value) (ms : List MP) (l : Nat) (r : List Int) (M : Nat), e = .returned v' ∧
      OwnRow PR 25 4 w' w.heap.size v' ms ∧ Blk w' g #[v2, .int .i64 (lost + l : Nat)] 41 ∧ w'.ownsRow M 5 1 v2 r.length (nums .u8 r) ∧ Run (rest ++ b) (ms.map (·.p)) l r ∧ prs r = 2 ∧
      (∀ m ∈ ms, Good w' w.heap.size M m) ∧ w.heap.size ≤ M ∧ M ≤ w'.heap.size ∧ Fr (fun k => k = g ∨ v.ownBlock = some k) w w' := by
  have hne := own_ne hv hg (by decide)
  have hc0 := hg.cell 0 rfl
  have hc1 := hg.cell 1 rfl
  have hf0 := hg.frozen 0
  have hf1 := hg.frozen 1
  go_enter Try.func13, Try.ntmps13
  go_wp2_with (first
    | (at_builtin; refine print_append_row (w0 := w) base rfl (.tmp 15) (.tmp 16) 23 5 .u8 1 rfl Try.underlying23 info5 (by omega) v rest b A b.length cap rfl rfl hv (ri_of_C hb) (Below.refl _ _) hbase (by omega) ?_; intro v1 w1 hO1 _ hg1 ht1
       have hB1 := (Fr.refl (fun k => k = g ∨ v.ownBlock = some k) w).grown hg1 (fun k hk => .inl (.inr hk))
       have hg2 : Blk w1 g #[v, .int .i64 lost] 41 := by exact (hg1.block g hg.lt hne).trans hg
       have hne1 := own_ne hO1 hg2 (by decide)
       obtain ⟨zs, hzs⟩ : ∃ zs, zs = rest ++ b := ⟨_, rfl⟩
       rw [← hzs] at hO1
       have ZS := Lib.hid hzs
       have hzl : zs.length ≤ 100000 := by rw [hzs, List.length_append]; omega
       have hzy : Bytes zs := by rw [hzs]; exact hyr.append hyb
       clear hzs
       obtain ⟨A1, c1, rfl, hR1⟩ := own_reads hO1
       have hle1 := own_le hO1
       have hd0 := hg2.cell 0 rfl
       have hd1 := hg2.cell 1 rfl
       have he0 := hg2.frozen 0
       have he1 := hg2.frozen 1))
  refine abs_code (fun W eW => ?_)
  have hB2 : Blk W g #[.slice A1 zs.length c1, .int .i64 lost] 41 := by rw [eW]; exact hg2.set 0 _
  have hF2 : Fr (fun k => k = g ∨ v.ownBlock = some k) w W := by rw [eW]; exact hB1.setCell (.inl (.inl rfl)) _
  have hO2 : W.ownsRow base 5 1 (.slice A1 zs.length c1) zs.length (nums .u8 zs) := by rw [eW]; exact own_setCell hO1 hne1 _
  have hC2 : Kd.C (Kd.int .u8) W A1 zs.length zs := Kd.C_of_reads (d := (0 : Int)) (own_reads' hO2)
  have hlt1 : ∀ ad, A1 = some ad → ad.block < W.heap.size ∧ ad.block ≠ g := fun ad e => by
    subst e
    exact ⟨own_lt hO2 _ rfl, fun h => hne1 (by rw [← h]; rfl)⟩
  have hgW := hB2.lt
  have hwW := hF2.size
  clear eW hd0 hd1 he0 he1 hO1 hR1 hg2 hB1 hg1 ht1 hc0 hc1 hf0 hf1
  obtain ⟨N, hN⟩ : ∃ N, N = W.heap.size := ⟨_, rfl⟩
  rw [← hN] at hlt1 hgW hwW
  go_loopw [5] (fun vo wr => ∃ (ms : List MP) (l : Nat) (ys : List Int) (Ay : Option Addr) (cy : Nat), FInv w N g v lost zs A1 vo wr ms l ys Ay cy) (fun _ wr => match wr.cell? ⟨g, 0, none⟩ with | some (.slice _ n _) => n | _ => 0)
  case atStart => exact ⟨[], 0, zs, A1, c1, OwnRow.none_ _ _ _ _ _, hB2, hle1, hC2, fun _ h => h, .nil _, fun m hm => by simp at hm, hF2, by omega, hwW⟩
  case round =>
    obtain ⟨ms, l, ys, Ay, cy, hI⟩ := hrel
    have hc0 : wr.cell? ⟨g, 0, none⟩ = some (.slice Ay ys.length cy) := hI.blk.cell 0 rfl
    have hc1 : wr.cell? ⟨g, 1, none⟩ = some (.int .i64 (lost + l : Nat)) := hI.blk.cell 1 rfl
    have hf0 := hI.blk.frozen 0
    have hf1 := hI.blk.frozen 1
    obtain ⟨hyl, hml⟩ := hI.run.len
    have hyy := hI.run.bytes hzy
    have hcy := hI.le
    by_cases h2 : prs ys = 2
    · rcases Nat.eq_zero_or_pos ys.length with h0 | h0
      · obtain rfl : ys = [] := List.eq_nil_of_length_eq_zero h0
        go_wp2_with (first
          | (go_at_call 20; have C := clone_at wr Ay cy 0 [] rfl hI.bytes (by simp); (with_reducible refine C.mono ?_); clear C; rintro e w2 ⟨v2, rfl, hO2, hb2⟩; have hc20 := (hI.blk.below hb2).cell 0 rfl; have hf20 := (hI.blk.below hb2).frozen 0; obtain ⟨A2, c2, rfl⟩ := own_slice hO2))
        go_ret
        rw [← ZS.out]
        exact hI.done h2 hwW hgW hO2 hb2
      · have h0' : (0 : Int) < ys.length := by omega
        go_wp2_with (first
          | (go_at_call 8; have C := parse_to wr Ay cy ys.length ys rfl hI.bytes hyy (by omega) hcy; (with_reducible refine C.mono ?_); clear C; rintro e w3 ⟨A3, c3, rfl, hO3, hb3⟩; rw [h2]; have hB31 := (hI.blk.below hb3).alloc (.cells #[.int .u32 (pE ys), .int .u32 (pN ys), .bool (pW ys), .slice A3 (pP ys).length c3] 25); have hc31 := hB31.cell 0 rfl; have hf31 := hB31.frozen 0; have hc32 := hB31.cell 1 rfl; have hf32 := hB31.frozen 1)
          | (go_at_call 20; refine abs_calls (fun W4 eW4 => ?_); have hI4 := (hI.below hb3).below (w2 := W4) (by rw [eW4]; exact (Below.refl _ _).alloc (Nat.le_refl _) _); clear eW4; have C := clone_at W4 Ay cy ys.length ys rfl hI4.bytes (by omega); (with_reducible refine C.mono ?_); clear C; rintro e w2 ⟨v2, rfl, hO2, hb2⟩; have hc20 := (hI4.blk.below hb2).cell 0 rfl; have hf20 := (hI4.blk.below hb2).frozen 0; obtain ⟨A2, c2, rfl⟩ := own_slice hO2))
        go_ret
        rw [← ZS.out]
        exact hI4.done h2 hwW hgW hO2 hb2
    · have h0 := len_of_prs h2
      have h0' : (0 : Int) < ys.length := by omega
      have h2' : (prs ys == 2) = false := beq_eq_false_iff_ne.2 h2
      obtain ⟨i0, hi, hz0, hz1, hz2⟩ := info_parts info5
      by_cases h3 : prs ys = 0
      · obtain ⟨_, _, hpl, hpl0⟩ := pkOf_app (ys := []) h3
        obtain ⟨A5, c5, hc5, hcut, hC5⟩ := cutB_from 23 5 Try.underlying23 hi hz1 .i64 Ay ys.length cy (pL ys : Int) (pL ys) (ys.length - pL ys) rfl rfl hpl hcy
        have h3' : (prs ys != 0) = false := by simp [h3]
        go_wp2_with (first
          | (go_at_call 8; have C := parse_to wr Ay cy ys.length ys rfl hI.bytes hyy (by omega) hcy; (with_reducible refine C.mono ?_); clear C; rintro e w3 ⟨A3, c3, rfl, hO3, hb3⟩; have hB31 := (hI.blk.below hb3).alloc (.cells #[.int .u32 (pE ys), .int .u32 (pN ys), .bool (pW ys), .slice A3 (pP ys).length c3] 25); have hc31 := hB31.cell 0 rfl; have hf31 := hB31.frozen 0)
          | (at_builtin; refine OwnRow.append (R := PR) (w0 := wr) (W := w3.alloc (.cells #[.int .u32 (pE ys), .int .u32 (pN ys), .bool (pW ys), .slice A3 (pP ys).length c3] 25)) N rfl (.tmp 46) (.tmp 48) 42 25 zeroP 4 40 rfl Try.underlying42 info25 rfl (by omega) (by omega) _ ms ⟨pkOf ys, A3, c3⟩ [.int .u32 (pE ys), .int .u32 (pN ys), .bool (pW ys), .slice A3 (pP ys).length c3] rfl (by show Value.slice (some ⟨w3.heap.size + 1, 0, none⟩) 1 1 = _; simp) rfl rfl (by simp [Value.oneCell']) ((hI.below hb3).below ((Below.refl _ _).alloc (Nat.le_refl _) _)).row ((pw_weak hb3 hI.size).alloc (Nat.le_trans hI.size hb3.size) _) (Nat.le_trans (Nat.le_trans hI.size hb3.size) (by simp)) (by simp at hml; omega) ?_; intro v5 w5 hrow5 hb5 hg5 ht5; clear ht5; have h4 := (hI.below hb3).below (w2 := w3.alloc (.cells #[.int .u32 (pE ys), .int .u32 (pN ys), .bool (pW ys), .slice A3 (pP ys).length c3] 25)) ((Below.refl _ _).alloc (Nat.le_refl _) _); have hB5 := h4.blk_grown hgW hg5; have hc50 := hB5.cell 0 rfl; have hf50 := hB5.frozen 0))
        go_roundw
        case rel =>
          have hgo : Good (w3.alloc (.cells #[.int .u32 (pE ys), .int .u32 (pN ys), .bool (pW ys), .slice A3 (pP ys).length c3] 25)) N (w3.alloc (.cells #[.int .u32 (pE ys), .int .u32 (pN ys), .bool (pW ys), .slice A3 (pP ys).length c3] 25)).heap.size ⟨pkOf ys, A3, c3⟩ :=
            ⟨own_weaken (pw_own_below hO3 ((Below.refl _ _).alloc (Nat.le_refl _) _)) hI.size, pP_bytes hyy, fun k e => Nat.lt_of_lt_of_le (own_lt hO3 k e) (by simp)⟩
          exact ⟨_, l, ys.drop (pL ys), A5, c5, h4.stepP (fun ad e => (hlt1 ad e).2) hgW (fun ad e => (hlt1 ad e).1) h3 hc5 (fun X hX => hC5 X .u8 ys rfl hX) hgo hrow5 hg5⟩
        case measure =>
          rw [hc0]
          rw [(hB5.set 0 (.slice A5 (ys.length - pL ys) c5)).cell 0 rfl]
          show ys.length - pL ys < ys.length
          omega
      · have h3' : (prs ys != 0) = true := bne_iff_ne.2 h3
        obtain ⟨A5, c5, hc5, hcut, hC5⟩ := cutB_from 23 5 Try.underlying23 hi hz1 .i64 Ay ys.length cy 1 1 (ys.length - 1) rfl rfl (by omega) hcy
        have hlw : IntKind.i64.wrap ((lost : Int) + l + 1) = lost + l + 1 := IntWalk.i64_in _ (by omega)
        go_wp2_with (first
          | (go_at_call 8; have C := parse_to wr Ay cy ys.length ys rfl hI.bytes hyy (by omega) hcy; (with_reducible refine C.mono ?_); clear C; rintro e w3 ⟨A3, c3, rfl, hO3, hb3⟩; have hB31 := (hI.blk.below hb3).alloc (.cells #[.int .u32 (pE ys), .int .u32 (pN ys), .bool (pW ys), .slice A3 (pP ys).length c3] 25); have hc31 := hB31.cell 0 rfl; have hf31 := hB31.frozen 0; have hc32 : World.cell? _ _ = some (.int .i64 (lost + l : Nat)) := hB31.cell 1 rfl; have hf32 := hB31.frozen 1))
        go_roundw
        case rel =>
          have h4 := (hI.below hb3).below (w2 := w3.alloc (.cells #[.int .u32 (pE ys), .int .u32 (pN ys), .bool (pW ys), .slice A3 (pP ys).length c3] 25)) ((Below.refl _ _).alloc (Nat.le_refl _) _)
          exact ⟨ms, l + 1, ys.drop 1, A5, c5, h4.stepB (fun ad e => (hlt1 ad e).2) hgW h3 h2 hc5 (fun X hX => hC5 X .u8 ys rfl hX)⟩
        case measure =>
          rw [hc0]
          rw [((hB31.set 1 (.int .i64 ((lost : Int) + l + 1))).set 0 (.slice A5 (ys.length - 1) c5)).cell 0 rfl]
          show ys.length - 1 < ys.length
          omega

end Go.Proofs.Ytapiimahhkfjnaa
