/- Packets put behind packets; what holds between the pieces. -/
import Derived.Test.YtapiimahhkfjnaaFC
namespace Go.Proofs.Ytapiimahhkfjnaa
open Go.RowKit Go.Proofs.YtapiimahhkfjnaaW.PrintWords Go.Sb

theorem one_cells {ps : List MP} {cs : List Value} (h : Reps PR 4 ps cs) : ∀ u ∈ cs, u.oneCell' = true := by
  intro u hu
  obtain ⟨q, hq, rfl⟩ := List.mem_iff_getElem.1 hu
  have hql : q / 4 < ps.length := by have := h.1; omega
  have hc : (cs.drop (q / 4 * 4)).take 4 = cellsOf ps[q / 4] := h.2 (q / 4) _ (List.getElem?_eq_getElem hql)
  have hm : cs[q] ∈ cellsOf ps[q / 4] := by
    rw [← hc, List.mem_iff_getElem?]
    refine ⟨q % 4, ?_⟩
    rw [List.getElem?_take, if_pos (Nat.mod_lt _ (by omega)), List.getElem?_drop, show q / 4 * 4 + q % 4 = q by omega, List.getElem?_eq_getElem hq]
  simp only [cellsOf, List.mem_cons, List.not_mem_nil, or_false] at hm
  rcases hm with h | h | h | h <;> rw [h] <;> rfl
theorem append_rows {P : Program} {ops : Array Oper} {rest : List Oper} {o : Oper} {a : Act} {Q : Exit → Act → World → Prop} {w0 W : World} (base : Nat) (hgd : o.guard = none) (s x : Operand) (t e : TypeId) (z : Value) (bytes : Nat)
    (ho : o.op = .call { callee := .builtin .append, args := #[s, x], argTypes := #[t, t] })
    (ht : P.underlying t = some (.slice e)) (hinfo : (P.info? e).map (fun i => (i.zero, i.size, i.bytes)) = some (some z, 4, bytes)) (hz : z.cells.size = 4) (hb0 : 0 < bytes)
    (v : Value) (xs ys : List MP) (A : Option Addr) (m c : Nat) (hs : a.eval s = v) (hx : a.eval x = .slice A m c)
    (HO : OwnRow PR e 4 W base v xs) (HR : ReadsRow PR 4 W A m ys) (HB : Below base w0 W) (hbase : base ≤ W.heap.size) (hl : (xs.length + m) * bytes ≤ 140737488355328)
    (h : ∀ v1 w1, OwnRow PR e 4 w1 base v1 (xs ++ ys) → Below base w0 w1 → W.grownBy w1 v.ownBlock → wpList P ops Q rest (a.put o.dst v1) w1) :
    wpList P ops Q (o :: rest) a W := by
  obtain ⟨i0, hi, hzz⟩ := Option.map_eq_some_iff.1 hinfo
  simp only [Prod.mk.injEq] at hzz
  obtain ⟨hz0, hz1, hz2⟩ := hzz
  have hm : ys.length = m := HR.1
  have hlen : xs.length + m ≤ 140737488355328 := Nat.le_trans (Nat.le_mul_of_pos_right _ hb0) hl
  obtain ⟨inner, hown, hr⟩ := HO
  have hrun : ∃ v1 w1, (Builtin.append_ #[t, t] o.type #[v, .slice A m c]).run P W = .ok v1 w1 ∧ OwnRow PR e 4 w1 base v1 (xs ++ ys) ∧ W.grownBy w1 v.ownBlock := by
    rcases A with _ | ad
    · have h0 : m = 0 := by
        rcases Nat.eq_zero_or_pos m with h0 | h0
        · exact h0
        · obtain ⟨ad, h, _⟩ := HR.2.2 h0
          cases h
      subst h0
      obtain rfl : ys = [] := List.eq_nil_of_length_eq_zero hm
      refine ⟨v, W, ?_, by rw [List.append_nil]; exact ⟨inner, hown, hr⟩, World.grownBy.refl W _⟩
      rcases hown.2 with ⟨rfl, hn⟩ | ⟨g, cap, cur, rfl, _, _, hnc, _⟩
      · simp [Builtin.append_, run_underlying ht, sizeOf, typeInfo, hi, Builtin.lenOf, Builtin.firstCells]
      · simp [Builtin.append_, run_underlying ht, sizeOf, typeInfo, hi, Builtin.lenOf, Builtin.firstCells, hnc, storeCells]
    · obtain ⟨news, hnr, hnc⟩ := ReadsRow.inner_ HR
      obtain ⟨v1, w1, hrun, h2, hg, _, hat⟩ := run_append_own_at (P := P) W base t o.type e i0 z 4 bytes ht hi hz0 hz1 hz2 hz (by omega) v xs.length inner hown ad m c news (by rw [hnr.1, hm]) hnc (one_cells hnr) (by simp only [maxLen]; omega) hl hbase
      exact ⟨v1, w1, hrun, ⟨inner ++ news, by rw [List.length_append, hm]; exact h2, Kd.reps_append hr hnr⟩, hg⟩
  obtain ⟨v1, w1, hr1, h1, hg⟩ := hrun
  refine wpList_plain hgd fun K hK => ?_
  unfold Oper.wp execOp
  simp only [ho, resolve, invoke, builtin, Sem.run_bind, Sem.run_pure, Result.andThen_ok, List.map_toArray, List.map_cons, List.map_nil, hs, hx, hr1]
  exact hK _ _ (h v1 w1 h1 (HB.grown hg hbase (own_base hown)) hg)

/-- what holds between the pieces: so many bytes came, these packets are there, so many bytes were passed over, these are left -/
structure LInv (w : World) (g : Nat) (b : List Int) (vg : Value) (at_ : Nat) (wr : World) (ms : List MP) (l : Nat) (r : List Int) (M : Nat) (v : Value) : Prop where
  row : OwnRow PR 25 4 wr w.heap.size vg ms
  blk : Blk wr g #[v, .int .i64 l] 41
  own : wr.ownsRow M 5 1 v r.length (nums .u8 r)
  run : Run (b.take at_) (ms.map (·.p)) l r
  short : prs r = 2
  good : ∀ m ∈ ms, Good wr w.heap.size M m
  low : w.heap.size ≤ M
  high : M ≤ wr.heap.size
  bel : Below w.heap.size w wr
  le : at_ ≤ b.length
theorem Good.move {w w' : World} {lo hi : Nat} {m : MP} (h : Good w lo hi m) (k : ∀ i, (plv m).ownBlock = some i → w'.heap[i]? = w.heap[i]?) : Good w' lo hi m := ⟨own_move h.1 k, h.2⟩
section
variable {w : World} {g : Nat} {b : List Int} {vg : Value} {at_ : Nat} {wr : World} {ms : List MP} {l : Nat} {r : List Int} {M : Nat} {v : Value}
theorem LInv.below {w2 : World} (h : LInv w g b vg at_ wr ms l r M v) (hb : Below wr.heap.size wr w2) : LInv w g b vg at_ w2 ms l r M v :=
  ⟨h.row.below hb, h.blk.below hb, pw_own_below h.own hb, h.run, h.short, fun m hm => (h.good m hm).fr (Fr.of_below hb NoB) (fun _ x => x.elim), h.low, Nat.le_trans h.high hb.size, below_then h.bel h.bel.size hb, h.le⟩
/-- what a feeding leaves of the packets that were there -/
theorem LInv.fed {w2 : World} {S : Nat → Prop} (h : LInv w g b vg at_ wr ms l r M v) (hf : Fr (fun k => k = g ∨ v.ownBlock = some k) wr w2) : OwnRow PR 25 4 w2 w.heap.size vg ms := by
  obtain ⟨inner, ho, hr⟩ := h.row
  refine ⟨inner, own_move ho (fun k hk => hf.block k (own_lt ho k hk) (fun hs => ?_)), hr⟩
  rcases hs with hs | hs
  · exact own_ne ho h.blk (by decide) (by rw [hk, hs])
  · rcases own_type_ne ho h.own (by decide) with e | e
    · rw [e] at hk; cases hk
    · exact e (hk.trans hs.symm)
theorem LInv.step {w2 w3 : World} {v' v2 vg3 : Value} {ms' : List MP} {l' n : Nat} {r' : List Int} {M' : Nat} (h : LInv w g b vg at_ wr ms l r M v) (hg : w.heap.size ≤ g) (hn : at_ + n ≤ b.length)
    (hrow : OwnRow PR 25 4 w2 wr.heap.size v' ms') (hblk : Blk w2 g #[v2, .int .i64 (l + l' : Nat)] 41) (hown : w2.ownsRow M' 5 1 v2 r'.length (nums .u8 r')) (hrun : Run (r ++ (b.take (at_ + n)).drop at_) (ms'.map (·.p)) l' r') (h2 : prs r' = 2)
    (hgood : ∀ m ∈ ms', Good w2 wr.heap.size M' m) (hlo : wr.heap.size ≤ M') (hhi : M' ≤ w2.heap.size) (hf : Fr (fun k => k = g ∨ v.ownBlock = some k) wr w2)
    (hrow3 : OwnRow PR 25 4 w3 w.heap.size vg3 (ms ++ ms')) (hg3 : w2.grownBy w3 vg.ownBlock) : LInv w g b vg3 (at_ + n) w3 (ms ++ ms') (l + l') r' M' v2 := by
  have hvg := h.fed (S := NoB) hf
  obtain ⟨inner, ho, hr⟩ := hvg
  have hbel2 : Below w.heap.size w w2 := h.bel.trans (hf.below (fun k hk => by rcases hk with rfl | hk; exact hg; exact Nat.le_trans h.low (own_base h.own k hk)) h.bel.size)
  have hne : some g ≠ vg.ownBlock := own_ne ho hblk (by decide)
  refine ⟨hrow3, (hg3.block g hblk.lt hne).trans hblk, own_other hown hg3 (own_type_ne hown ho (by decide)), ?_, h2, fun m hm => ?_, Nat.le_trans (Nat.le_trans h.low h.high) hlo, Nat.le_trans hhi hg3.size, hbel2.grown hg3 (Nat.le_trans h.bel.size hf.size) (own_base ho), hn⟩
  · have h1 := h.run.app ((b.take (at_ + n)).drop at_)
    have e : b.take at_ ++ (b.take (at_ + n)).drop at_ = b.take (at_ + n) := (take_cut b at_ (at_ + n) (by omega)).symm
    rw [e] at h1
    rw [List.map_append]
    exact h1.trans hrun
  · rcases List.mem_append.1 hm with h1 | h1
    · have h3 := h.good m h1
      have h4 : Good w2 w.heap.size M m := h3.move (fun i hi => hf.block i (own_lt h3.1 i hi) (fun hs => by
        rcases hs with hs | hs
        · exact own_ne h3.1 h.blk (by decide) (by rw [hi, hs])
        · have := own_base h.own i hs; have := h3.2.2 i hi; omega))
      have h5 : Good w3 w.heap.size M m := ⟨own_other h4.1 hg3 (own_type_ne h4.1 ho (by decide)), h4.2⟩
      exact h5.mono (Nat.le_refl _) (Nat.le_trans h.high hlo)
    · have h4 := hgood m h1
      have h5 : Good w3 wr.heap.size M' m := ⟨own_other h4.1 hg3 (own_type_ne h4.1 ho (by decide)), h4.2⟩
      exact h5.mono h.bel.size (Nat.le_refl _)
end

end Go.Proofs.Ytapiimahhkfjnaa
