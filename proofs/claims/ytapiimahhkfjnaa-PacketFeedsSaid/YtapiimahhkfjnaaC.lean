/- The number of bytes: a range over slices.Backward. -/
import Derived.RangeFuncBox
import Derived.RangeFuncLeaves
import Derived.Shelf.Abstract
import Derived.OwnWalkIn
import Derived.TacticsInMore
import Derived.LoopNIn
import Derived.LoopIn
import Derived.Test.YtapiimahhkfjnaaB
namespace Go.Proofs.Ytapiimahhkfjnaa
open Go.RowKit Go.Shelf Go.Proofs.YtapiimahhkfjnaaW.PrintWords Go.Sb

attribute [local go_sem] Oper.semAt_some

abbrev Pr := { x : Int × Int // 0 ≤ x.2 ∧ x.2 ≤ 255 }
def bkAt (xs : List Int) (h : Bytes xs) (j : Nat) : Pr := ⟨((j : Int), rd xs j), rd_bytes h _⟩
def bk (xs : List Int) (h : Bytes xs) (k : Nat) : List Pr := (List.range k).map fun t => bkAt xs h (xs.length - 1 - t)
theorem bk_succ (xs : List Int) (h : Bytes xs) (j : Nat) (hj : j < xs.length) : bk xs h (xs.length - j) = bk xs h (xs.length - (j + 1)) ++ [bkAt xs h j] := by
  rw [show xs.length - j = (xs.length - (j + 1)) + 1 by omega, bk, List.range_succ, List.map_append]
  simp only [List.map_cons, List.map_nil]
  rw [show xs.length - 1 - (xs.length - (j + 1)) = j by omega]; rfl
theorem bk_length (xs : List Int) (h : Bytes xs) (k : Nat) : (bk xs h k).length = k := by simp [bk]
abbrev encP : Pr → Array Value := fun x => #[.int .i64 x.1.1, .int .u8 x.1.2]

/-- what a round keeps: all that lay ahead of the loop but the block B -/
def KpG (B : Nat) (W W' : World) : Prop := W.heap.size ≤ W'.heap.size ∧ ∀ k, k < B + 2 → k ≠ B → W'.heap[k]? = W.heap[k]?
theorem KpG.refl (B : Nat) (W : World) : KpG B W W := ⟨Nat.le_refl _, fun _ _ _ => rfl⟩
theorem KpG.trans {B : Nat} {W W1 W2 : World} (h : KpG B W W1) (k : KpG B W1 W2) : KpG B W W2 := ⟨Nat.le_trans h.1 k.1, fun i hi hn => (k.2 i hi hn).trans (h.2 i hi hn)⟩
theorem KpG.cell {B Bs : Nat} {W W1 : World} (h : KpG B W W1) (e : Bs = B + 1) : W1.cell? ⟨Bs, 0, none⟩ = W.cell? ⟨Bs, 0, none⟩ := World.cell?_of_block (h.2 Bs (by omega) (by omega))
theorem KpG.put {B : Nat} {w : World} (hn : w.heap.size = B + 2) (W : World) (l : Nat) (o o' : Obj) (hl : w.heap.size ≤ l) (hq : W.heap[l]? = some o) (_ : o.isCells = false) (_ : o.isWalk = false) : KpG B W (W.putObj l o') :=
  ⟨(grownBy_putObj' W l o').size, fun k hk _ => (grownBy_putObj' W l o').block k (by have := (Array.getElem?_eq_some_iff.1 hq).1; omega) (fun e => by cases e; omega)⟩

set_option maxRecDepth 100000 in
set_option maxHeartbeats 1000000 in
theorem back1_in (F : Fence) (n : Nat) (h28 : F.fn 28) (hro : F.round = none) (hn : 1 ≤ n) (l B cap : Nat) (A : Option Addr) (xs : List Int) (hby : Bytes xs) (hlen : xs.length ≤ 1000000) (J Jx : List Pr → World → Prop)
    (hY : ∀ pre x W, J pre W → pre.length < xs.length → YieldAt F (n - 1) Try.prog l (encP x) W fun e W' =>
      (e = .returned (.bool true) ∧ J (pre ++ [x]) W' ∧ KpG B W W') ∨ (e = .returned (.bool false) ∧ Jx (pre ++ [x]) W'))
    (W : World) (hBs : W.cell? ⟨B + 1, 0, none⟩ = some (.slice A xs.length cap)) (hc : ∀ W1, KpG B W W1 → Kd.C (Kd.int .u8) W1 A xs.length xs) (h0 : J [] W) :
    CallsIn F n Try.prog 28 #[.func (.yield l) #[] #[], .pointer (some ⟨B + 1, 0, none⟩)] W fun e W' => (∃ v, e = .returned v) ∧
      ((∃ ys, ys = bk xs hby xs.length ∧ J ys W') ∨ (∃ pre, (∃ k, k ≤ xs.length ∧ pre = bk xs hby (xs.length - k)) ∧ Jx pre W')) := by
  refine callsIn_of_wp Try.func28 rfl h28 ?_ hro
  simp only [Try.ntmps28, List.size_toArray, List.length_cons, List.length_nil, Nat.reduceAdd, Nat.reduceSub, Array.replicate_succ, Array.replicate_zero, List.push_toArray, List.append_toArray, List.nil_append, List.cons_append]
  gi_wp2
  gi_loopw [3] (fun i wr => ∃ (m : Nat) (q : Int), m ≤ xs.length ∧ i = .int .i64 q ∧ Hid (q = (m : Int) - 1) ∧ J (bk xs hby (xs.length - m)) wr ∧ KpG B W wr)
    (fun i _ => ((intOf i) + 1).toNat)
  case atStart => exact ⟨xs.length, _, Nat.le_refl _, rfl, Lib.hid rfl, by simpa [bk] using h0, KpG.refl _ _⟩
  case round =>
    obtain ⟨m, q, hk, rfl, hq, hJs, hnx⟩ := hrel
    have hbx := (hnx.cell rfl).trans hBs
    rcases m with _ | j
    · obtain rfl : q = -1 := by have := hq.out; omega
      gi_wp2
      go_end0
      exact ⟨⟨_, rfl⟩, .inl ⟨_, rfl, hJs⟩⟩
    · obtain rfl : q = (j : Int) := by have := hq.out; omega
      clear hq
      obtain ⟨fn, tmps, assign, body, hy, hR⟩ := hY _ (bkAt xs hby j) wr hJs (by rw [bk_length]; omega)
      dsimp only [bkAt, encP] at hy
      obtain ⟨ad, rfl, hcell⟩ := at_u8 (hc wr hnx) j (by omega)
      gi_wp2
      refine hR.mono ?_
      rintro e W3 (⟨rfl, hJ3, hk3⟩ | ⟨rfl, hJx3⟩)
      · gi_wp2
        go_roundw
        case rel => exact ⟨j, _, by omega, rfl, Lib.hid rfl, by rw [bk_succ xs hby j (by omega)]; exact hJ3, hnx.trans hk3⟩
        case measure => simp [intOf]
      · gi_wp2
        refine bodyPost_ret (results_none rfl _ _ _) rfl ?_
        exact ⟨⟨_, rfl⟩, .inr ⟨_, ⟨j, by omega, (bk_succ xs hby j (by omega)).symm⟩, hJx3⟩⟩

theorem back_stops (F : Fence) (n : Nat) (h28 : F.fn 28) (hro : F.round = none) (hn : 1 ≤ n) (B cap : Nat) (A : Option Addr) (xs : List Int) (hby : Bytes xs) (hlen : xs.length ≤ 1000000) (w : World) (hBs : w.heap.size = B + 2)
    (hc : w.cell? ⟨B + 1, 0, none⟩ = some (.slice A xs.length cap)) (hI : ∀ W1, KpG B w W1 → Kd.C (Kd.int .u8) W1 A xs.length xs) :
    SeqStopsK F n Try.prog 28 #[.pointer (some ⟨B + 1, 0, none⟩)] encP (KpG B) (fun ys => ys = bk xs hby xs.length)
      (fun pre => ∃ k, k ≤ xs.length ∧ pre = bk xs hby (xs.length - k)) xs.length w := fun l J Jx W hW _ _ hY h0 => by
  have hc' := (hW.cell (p := ⟨B + 1, 0, none⟩) (by show B + 1 < _; omega)).trans hc
  have hk : KpG B w W := ⟨hW.size, fun k hk _ => hW.block k (by omega)⟩
  exact back1_in F n h28 hro hn l B cap A xs hby hlen J Jx hY W hc' (fun W1 h => hI W1 (hk.trans h)) h0

set_option maxHeartbeats 400000 in
theorem backward_in (F : Fence) (n : Nat) (h26 : F.fn 26) (hro : F.round = none) (v : Value) (w : World) (A : Option Addr) (len cap : Nat) :
    CallsIn F n Try.prog 26 #[.slice A len cap] w fun e w' => e = .returned (.func (.func 28) #[] #[.pointer (some ⟨w.heap.size, 0, none⟩)]) ∧ w' = w.alloc (.cells #[.slice A len cap] 23) := by
  refine callsIn_of_wp Try.func26 rfl h26 ?_ hro
  simp only [Try.ntmps26, List.size_toArray, List.length_cons, List.length_nil, Nat.reduceAdd, Nat.reduceSub, Array.replicate_succ, Array.replicate_zero, List.push_toArray, List.append_toArray, List.nil_append, List.cons_append]
  gi_wp2
  go_ret
  exact ⟨rfl, rfl⟩

def orB (n c : Int) : Int := bits .or .u32 (n * 256 % 4294967296) c
def getF (l : List Pr) : Int := l.foldl (fun n x => orB n x.1.2) 0
/-- the number of bytes, the lowest first -/
def getN (xs : List Int) : Int := xs.foldr (fun c n => orB n c) 0

set_option maxRecDepth 100000 in
set_option maxHeartbeats 1000000 in
theorem get_in (F : Fence) (n : Nat) (h19 : F.fn 19) (h26 : F.fn 26) (h28 : F.fn 28) (hro : F.round = none) (hn : 3 ≤ n) (A : Option Addr) (cap : Nat) (xs : List Int) (hby : Bytes xs) (hlen : xs.length ≤ 1000000) (w : World) (hx : Kd.C (Kd.int .u8) w A xs.length xs) :
    CallsIn F n Try.prog 19 #[.slice A xs.length cap] w fun e W' => e = .returned (.int .u32 (getF (bk xs hby xs.length))) ∧ Below w.heap.size w W' := by
  have h1 : 1 ≤ n := by omega
  refine callsIn_of_wp_marks Try.func19 rfl h19 ?_ hro
  simp only [Try.ntmps19, List.size_toArray, List.length_cons, List.length_nil, Nat.reduceAdd, Nat.reduceSub, Array.replicate_succ, Array.replicate_zero, List.push_toArray, List.append_toArray, List.nil_append, List.cons_append]
  gi_wp2_with (gi_at_call 26; refine (backward_in F (n - 1) h26 hro (.bool true) _ _ _ _).mono ?_; rintro e w' ⟨rfl, rfl⟩)
  have bS := Boxed.new w 22 (.int .u32 0)
  have bN := Boxed.new (w.alloc (.cells #[.int .u32 0] 22)) 23 (.slice A xs.length cap)
  rw [World.size_alloc] at bN
  have hB0 : Below w.heap.size w ((w.alloc (.cells #[.int .u32 0] 22)).alloc (.cells #[.slice A xs.length cap] 23)) := ((Below.refl _ w).alloc (Nat.le_refl _) _).alloc (by simp) _
  refine wpIn_rangeFunc_ownG hro h1 (gf := 28) (lb := #[.pointer (some ⟨w.heap.size + 1, 0, none⟩)]) rfl h28 (enters_of Try.func28 (by kernel_rfl) rfl)
    (back_stops F (n - 1) h28 hro (by omega) w.heap.size cap A xs hby hlen _ (by simp) bN.cell ?hI) (fun h k => KpG.trans h k) (KpG.put (by simp)) (Below.refl _ _) (fun _ => rfl)
    (fun pre W => (W.cell? ⟨w.heap.size, 0, none⟩ = some (.int .u32 (getF pre)) ∧ W.frozen? ⟨w.heap.size, 0, none⟩ = false) ∧ Below w.heap.size w W)
    (fun _ _ _ => False)
    (OwnFrom.and (Own.from (fun s A B row hs hg hr => ⟨cell_kept hs.1 hg hr, (frozen_kept hs.1 hg hr).trans hs.2⟩) _) (ownFrom_below (Nat.le_refl _) (by simp; omega)))
    (fun _ _ _ _ _ hs _ _ => hs)
    ⟨⟨(bS.alloc _).cell, (bS.alloc _).frozen⟩, hB0⟩
    (fun x => { tmps := #[.slice A xs.length cap, undef, .int .u32 0, .pointer (some ⟨w.heap.size, 0, none⟩), undef, .int .u8 x.1.2, .slice A xs.length cap, .func (.func 28) #[] #[.pointer (some ⟨w.heap.size + 1, 0, none⟩)], .int .i64 x.1.1, .int .u8 x.1.2, undef, undef, undef, undef, undef, undef], defers := [] }) ?assign ?body ?done ?stop
  case hI =>
    intro W1 hk
    refine C_move hx (fun ad _ _ hlt => ?_)
    exact (hk.2 _ (by omega) (by omega)).trans (hB0.block _ hlt)
  case assign =>
    intro l x W K hK
    gi_wp2
    exact hK
  case body =>
    rintro l pre ⟨⟨i, c⟩, hc0, hc1⟩ W ⟨⟨hc, hf⟩, hB⟩ _
    have hc0' : 0 ≤ c := hc0
    have hc1' : c ≤ 255 := hc1
    gi_wp2
    refine ⟨(KeepsOthers.setCell _ _ _).from _, ⟨by simp [World.setCell], fun k _ hn => Below.heap_setCell _ _ _ _ hn⟩, ⟨?_, by rw [World.frozen?_setCell]; exact hf⟩, hB.setCell (p := ⟨w.heap.size, 0, none⟩) (Nat.le_refl _) _⟩
    rw [show getF (pre ++ [⟨(i, c), hc0, hc1⟩]) = orB (getF pre) c by simp [getF]]
    exact World.cell?_setCell_same' _ _ _ (by rw [hc]; rfl)
  case done =>
    rintro D ys W hD rfl ⟨⟨hc, _⟩, hB⟩ hK
    gi_wp2
    refine ⟨by simp, .inl ⟨_, _, rfl, run_takeDeferred hK, ?_⟩⟩
    exact ⟨_, results_tmp rfl _ _ _, rfl, hB.trans (belowK_b (w := w) (Nat.le_refl _) W D _ _ (by simp at hD; omega) hK rfl rfl)⟩
  case stop =>
    rintro D c pre W _ _ h _
    exact h.elim

theorem getF_eq (xs : List Int) (hby : Bytes xs) : getF (bk xs hby xs.length) = getN xs := by
  have h : (bk xs hby xs.length).map (·.1.2) = xs.reverse := by
    apply List.ext_getElem
    · simp [bk]
    · intro i h1 h2
      simp only [bk, List.length_map, List.length_range] at h1
      simp only [bk, List.map_map, List.getElem_map, List.getElem_range, List.getElem_reverse, Function.comp, bkAt]
      simp [rd, List.getD_eq_getElem?_getD, List.getElem?_eq_getElem (show xs.length - 1 - i < xs.length by omega)]
  unfold getF getN
  have e : ∀ (l : List Pr) (a : Int), l.foldl (fun n x => orB n x.1.2) a = (l.map (·.1.2)).foldl orB a := by
    intro l
    induction l with
    | nil => intro a; rfl
    | cons x l ih => intro a; exact ih _
  rw [e, h, List.foldl_reverse]

theorem get_any (w : World) (A : Option Addr) (cap : Nat) (xs : List Int) (hx : Kd.C (Kd.int .u8) w A xs.length xs) (hby : Bytes xs) (hlen : xs.length ≤ 1000000) :
    Calls Try.prog 19 #[.slice A xs.length cap] w fun e W' => e = .returned (.int .u32 (getN xs)) ∧ Below w.heap.size w W' := by
  have h := callsIn_wide.1 (get_in Fence.wide 3 trivial trivial trivial rfl (Nat.le_refl _) A cap xs hby hlen w hx)
  rw [getF_eq] at h
  exact h

end Go.Proofs.Ytapiimahhkfjnaa
