/- What all walks of this seat share: what a call keeps (Fr), worlds under a name, bytes, cells of a block. -/
import Derived.WalkKit
import Derived.WalkSpells
import Derived.WalkLawsBesides
import Derived.Deep.LoopGhost
import Derived.Deep.QuietTactic
import Derived.BigQuiet
import Derived.Laws.CopyOwn
import Derived.Lib.Hide
import Derived.Lib.Bytes
import Derived.Test.YtapiimahhkfjnaaWKept
import Derived.Test.YtapiimahhkfjnaaWLast
import Derived.Test.YtapiimahhkfjnaaWMore
namespace Go.Sb
open Go Go.RowKit Go.Proofs.YtapiimahhkfjnaaW.PrintWords

/-- all but the blocks of S (and what is new) is as it was -/
structure Fr (S : Nat → Prop) (w w' : World) : Prop where
  os : w'.os = w.os
  tape : w'.tape = w.tape
  output : w'.output = w.output
  size : w.heap.size ≤ w'.heap.size
  block : ∀ k, k < w.heap.size → ¬ S k → w'.heap[k]? = w.heap[k]?
def NoB : Nat → Prop := fun _ => False
def OneB (g : Nat) : Nat → Prop := fun k => k = g
def OwnB (v : Value) : Nat → Prop := fun k => v.ownBlock = some k

section
variable {S S2 S' : Nat → Prop} {w w1 w2 W : World}
theorem Fr.refl (S : Nat → Prop) (w : World) : Fr S w w := ⟨rfl, rfl, rfl, Nat.le_refl _, fun _ _ _ => rfl⟩
theorem Fr.mono (h : Fr S w w1) (hs : ∀ k, S k → S' k) : Fr S' w w1 := ⟨h.os, h.tape, h.output, h.size, fun k hk hn => h.block k hk fun x => hn (hs k x)⟩
theorem Fr.kept (h : Fr S w w1) : Kept w w1 S := ⟨h.size, h.block⟩
theorem Fr.of_below (h : Below w.heap.size w w1) (S : Nat → Prop) : Fr S w w1 := ⟨h.os, h.tape, h.output, h.size, fun k hk _ => h.block k hk⟩
theorem Fr.below {B : Nat} (h : Fr S w w1) (hS : ∀ k, S k → B ≤ k) (hB : B ≤ w.heap.size) : Below B w w1 := ⟨h.os, h.tape, h.output, h.size, fun k hk => h.block k (by omega) (fun x => by have := hS k x; omega)⟩
theorem Fr.below_no (h : Fr NoB w w1) : Below w.heap.size w w1 := h.below (fun _ x => x.elim) (Nat.le_refl _)
theorem Fr.then_ (h : Fr S w w1) (k : Fr S2 w1 w2) (hs : ∀ k, S2 k → S k ∨ w.heap.size ≤ k) : Fr S w w2 :=
  ⟨k.os.trans h.os, k.tape.trans h.tape, k.output.trans h.output, Nat.le_trans h.size k.size, fun i hi hn =>
    (k.block i (Nat.lt_of_lt_of_le hi h.size) (fun x => (hs i x).elim hn (fun y => by omega))).trans (h.block i hi hn)⟩
theorem Fr.thenB (h : Fr S w w1) (k : Below w1.heap.size w1 w2) : Fr S w w2 := h.then_ (Fr.of_below k NoB) (fun _ x => x.elim)
theorem Fr.alloc (h : Fr S w w1) (o : Obj) : Fr S w (w1.alloc o) := h.thenB (below_alloc (Below.refl _ _) o)
theorem Fr.drew (h : Fr S w w1) : Fr S w w1.drew := ⟨h.os, h.tape, h.output, h.size, h.block⟩
theorem Fr.drewN (h : Fr S w w1) (n : Nat) : Fr S w (w1.drewN n) := ⟨h.os, h.tape, h.output, h.size, h.block⟩
theorem Fr.setCell (h : Fr S w w1) {p : Addr} (hp : S p.block ∨ w.heap.size ≤ p.block) (u : Value) : Fr S w (w1.setCell p u) :=
  h.then_ (S2 := fun k => k = p.block) ⟨rfl, rfl, rfl, by simp [World.setCell], fun i _ hn => Below.heap_setCell w1 p u i hn⟩ (fun k hk => by rw [hk]; exact hp)
theorem Fr.setRow (h : Fr S w w1) {g : Nat} (hp : S g ∨ w.heap.size ≤ g) (cs : Array Value) : Fr S w (w1.setRow g cs) :=
  h.then_ (S2 := fun k => k = g) ⟨rfl, rfl, rfl, by simp, fun i _ hn => setRow_other w1 _ _ _ hn⟩ (fun k hk => by rw [hk]; exact hp)
theorem Fr.grown {row : Option Nat} (h : Fr S w w1) (hg : w1.grownBy w2 row) (hr : ∀ k, row = some k → S k ∨ w.heap.size ≤ k) : Fr S w w2 :=
  h.then_ (S2 := fun k => row = some k) ⟨hg.os, hg.tape, hg.output, hg.size, fun i hi hn => hg.block i hi (fun he => hn he.symm)⟩ hr
theorem Fr.blk (h : Fr S w w1) {g : Nat} {o : Obj} (hb : w.heap[g]? = some o) (hn : ¬ S g) : w1.heap[g]? = some o := (h.block g (blk_lt hb) hn).trans hb
end

theorem abs_list {P : Program} {ops : Array Oper} {Q : Exit → Act → World → Prop} {l : List Oper} {a : Act} {w : World} (h : ∀ W, W = w → wpList P ops Q l a W) : wpList P ops Q l a w := h w rfl
theorem abs_code {P : Program} {Q : Exit → Act → World → Prop} {c : Code} {a : Act} {w : World} (h : ∀ W, W = w → Code.wp P c Q a W) : Code.wp P c Q a w := h w rfl

theorem abs_calls {P : Program} {f : FuncId} {args : Array Value} {R : Ending → World → Prop} {w : World} (h : ∀ W, W = w → Calls P f args W R) : Calls P f args w R := h w rfl
/-- a block's cells -/
def Blk (w : World) (g : Nat) (cs : Array Value) (t : TypeId) : Prop := w.heap[g]? = some (.cells cs t (0, 0))
section
variable {w w1 : World} {g : Nat} {cs : Array Value} {t : TypeId}
theorem Blk.cell (h : Blk w g cs t) (j : Nat) {u : Value} (hu : cs[j]? = some u) : w.cell? ⟨g, j, none⟩ = some u := (cell_of_row w g j cs t (0, 0) h).trans hu
theorem Blk.frozen (h : Blk w g cs t) (j : Nat) : w.frozen? ⟨g, j, none⟩ = false := frozen_of_row w g j _ t h
theorem Blk.lt (h : Blk w g cs t) : g < w.heap.size := blk_lt h
theorem Blk.fr {S : Nat → Prop} (h : Blk w g cs t) (k : Fr S w w1) (hn : ¬ S g) : Blk w1 g cs t := k.blk h hn
theorem Blk.below (h : Blk w g cs t) (k : Below w.heap.size w w1) : Blk w1 g cs t := blk_below h k
theorem Blk.alloc (h : Blk w g cs t) (o : Obj) : Blk (w.alloc o) g cs t := blk_alloc h o
theorem Blk.new (w : World) (cs : Array Value) (t : TypeId) : Blk (w.alloc (.cells cs t)) w.heap.size cs t := heap_alloc_new w _
theorem Blk.drew (h : Blk w g cs t) : Blk w.drew g cs t := h
theorem Blk.drewN (h : Blk w g cs t) (n : Nat) : Blk (w.drewN n) g cs t := h
theorem Blk.set (h : Blk w g cs t) (j : Nat) (u : Value) : Blk (w.setCell ⟨g, j, none⟩ u) g (cs.setIfInBounds j u) t := blk_set h j u
theorem Blk.far (h : Blk w g cs t) {p : Addr} (hp : g ≠ p.block) (u : Value) : Blk (w.setCell p u) g cs t := blk_far h hp u
theorem Blk.row (h : Blk w g cs t) (cs' : Array Value) : Blk (w.setRow g cs') g cs' t := setRow_heap w g cs cs' t (0, 0) h
theorem Blk.row_far (h : Blk w g cs t) {g' : Nat} (hn : g ≠ g') (cs' : Array Value) : Blk (w.setRow g' cs') g cs t := (setRow_other w g' g cs' hn).trans h
theorem Blk.any (h : Blk w g cs t) {j : Nat} (hj : j < cs.size) : ∃ u, w.cell? ⟨g, j, none⟩ = some u := ⟨cs[j], h.cell j (Array.getElem?_eq_getElem hj)⟩
end

/-- numbers of a byte -/
def Bytes (xs : List Int) : Prop := ∀ x ∈ xs, 0 ≤ x ∧ x ≤ 255
theorem rd_bytes {xs : List Int} (h : Bytes xs) (i : Int) : 0 ≤ rd xs i ∧ rd xs i ≤ 255 := by
  unfold rd
  rw [List.getD_eq_getElem?_getD]
  cases hq : xs[i.toNat]? with
  | none => simp
  | some x => exact h x (List.mem_of_getElem? hq)
theorem take_rd {xs : List Int} {k : Nat} (h : k < xs.length) : xs.take (k + 1) = xs.take k ++ [rd xs k] := by
  rw [List.take_succ_eq_append_getElem h]
  simp [rd, List.getD_eq_getElem?_getD, List.getElem?_eq_getElem h]
theorem Bytes.nil : Bytes [] := fun _ h => by simp at h
theorem Bytes.append {xs ys : List Int} (h : Bytes xs) (k : Bytes ys) : Bytes (xs ++ ys) := fun x hx => (List.mem_append.1 hx).elim (h x) (k x)
theorem Bytes.take {xs : List Int} (h : Bytes xs) (n : Nat) : Bytes (xs.take n) := fun x hx => h x (List.mem_of_mem_take hx)
theorem Bytes.drop {xs : List Int} (h : Bytes xs) (n : Nat) : Bytes (xs.drop n) := fun x hx => h x (List.mem_of_mem_drop hx)
theorem at_u8 {w : World} {A : Option Addr} {xs : List Int} (h : Kd.C (Kd.int .u8) w A xs.length xs) (k : Nat) (hk : k < xs.length) : ∃ ad, A = some ad ∧ w.cell? (ad.add k) = some (.int .u8 (rd xs k)) := by
  obtain ⟨ad, e, hc⟩ := Kd.at_int h k (by omega) (by omega)
  exact ⟨ad, e, hc⟩
theorem ri_of_C {w : World} {k : IntKind} {A : Option Addr} {n : Nat} {xs : List Int} (h : Kd.C (Kd.int k) w A n xs) : ReadsInt w k A n xs := Kd.reads_of_C (d := (0 : Int)) h
theorem C_move {w w1 : World} {k : IntKind} {A : Option Addr} {n : Nat} {xs : List Int} (h : Kd.C (Kd.int k) w A n xs)
    (hm : ∀ ad, A = some ad → 0 < n → ad.block < w.heap.size → w1.heap[ad.block]? = w.heap[ad.block]?) : Kd.C (Kd.int k) w1 A n xs := by
  have hr := ri_of_C h
  refine Kd.C_of_reads (d := (0 : Int)) ⟨hr.1, hr.2.1, fun hn => ?_⟩
  obtain ⟨ad, e, hc⟩ := hr.2.2 hn
  refine ⟨ad, e, fun j hj => ?_⟩
  have h1 := hc j hj
  have hb := World.block_lt_of_cell? w _ h1
  rw [add_block] at hb
  rw [World.cell?_of_block (w := w) (by rw [add_block]; exact hm ad e hn hb)]
  exact h1
theorem below_own {B : Nat} {w W W1 : World} {v : Value} (h : Below B w W) (hB : B ≤ W.heap.size) (hf : Fr (OwnB v) W W1) (ho : ∀ k, v.ownBlock = some k → B ≤ k) : Below B w W1 := h.trans (hf.below ho hB)
theorem u32_lo (op : BinOp) (a b : Int) : 0 ≤ bits op .u32 a b := by
  show 0 ≤ IntKind.u32.wrap _
  rw [IntKind.wrap_u32]; omega
theorem u32_hi (op : BinOp) (a b : Int) : bits op .u32 a b ≤ 4294967295 := by
  show IntKind.u32.wrap _ ≤ _
  rw [IntKind.wrap_u32]; omega
theorem ret_u32 {a b : Int} (h : a = b) : Ending.returned (.int .u32 a) = .returned (.int .u32 b) := by rw [h]
theorem ret_i64 {a b : Int} (h : a = b) : Ending.returned (.int .i64 a) = .returned (.int .i64 b) := by rw [h]
theorem ret_bool {a b : Bool} (h : a = b) : Ending.returned (.bool a) = .returned (.bool b) := by rw [h]

theorem C_at {w : World} {k : IntKind} {ad : Addr} {xs : List Int} (h : Kd.C (Kd.int k) w (some ad) xs.length xs) (lo hi : Nat) (h1 : lo ≤ hi) (h2 : hi ≤ xs.length) :
    Kd.C (Kd.int k) w (some (ad.add lo)) ((xs.take hi).drop lo).length ((xs.take hi).drop lo) := by
  have := Kd.C_mid (lo := lo) (hi := hi) (c := xs.length + lo + 1) h h1 h2 (by omega)
  rw [show (Kd.int k).sz = 1 from rfl, if_neg (by omega)] at this
  simpa using this
theorem map_u8_inj {xs ys : List Int} (hx : Bytes xs) (hy : Bytes ys) (h : xs.map (fun n => UInt8.ofNat n.toNat) = ys.map (fun n => UInt8.ofNat n.toNat)) : xs = ys := by
  induction xs generalizing ys with
  | nil => cases ys with
    | nil => rfl
    | cons y ys => simp at h
  | cons x xs ih =>
    cases ys with
    | nil => simp at h
    | cons y ys =>
      simp only [List.map_cons, List.cons.injEq] at h
      have h1 := hx x (by simp)
      have h2 := hy y (by simp)
      have e : (UInt8.ofNat x.toNat).toNat = (UInt8.ofNat y.toNat).toNat := by rw [h.1]
      simp at e
      rw [show x = y by omega, ih (fun z hz => hx z (by simp [hz])) (fun z hz => hy z (by simp [hz])) h.2]
theorem str_eq {xs ys : List Int} (hx : Bytes xs) (hy : Bytes ys) : ((strOfNums xs).toList == (strOfNums ys).toList) = decide (xs = ys) := by
  rw [Go.Lib.strOfNums_toList, Go.Lib.strOfNums_toList]
  by_cases h : xs = ys
  · subst h; simp
  · have : ¬ Go.Lib.bytesOf xs = Go.Lib.bytesOf ys := fun e => h (map_u8_inj hx hy e)
    simp [h, this]
theorem keepSet {w : World} {p q : Addr} {v u : Value} (h : w.cell? p = some v) (hn : p.block ≠ q.block) : (w.setCell q u).cell? p = some v :=
  (World.cell?_of_block (w := w) (Below.heap_setCell w q u p.block hn)).trans h
section
variable {P : Program} {ops : Array Oper} {rest : List Oper} {o : Oper} {a : Act} {w : World} {Q : Exit → Act → World → Prop}
/-- a whole struct or array stored into its variable; the world behind it under a name -/
theorem put_row (hgd : o.guard = none) (ty : TypeId) (x y : Operand) (ho : o.op = .store ty x y) (g : Nat) (cells : Array Value) (hx : a.eval x = .pointer (some ⟨g, 0, none⟩)) (hy : a.eval y = .agg cells)
    (t : TypeId) (old : Array Value) (hg : Blk w g old t) (hi : (P.info? ty).map (·.size) = some cells.size) (hold : old.size = cells.size) (h1 : cells.all (·.oneCell') = true)
    (h : ∀ W, Blk W g cells t → Fr (OneB g) w W → wpList P ops Q rest (a.put o.dst undef) W) : wpList P ops Q (o :: rest) a w :=
  wpList_store_row hgd ty x y ho g cells hx hy t old hg hi hold h1 (h _ (hg.row cells) ((Fr.refl (OneB g) w).setRow (.inl rfl) cells))
/-- a whole struct or array loaded out of its variable -/
theorem get_row (hgd : o.guard = none) (ty : TypeId) (x : Operand) (ho : o.op = .load ty x) (g : Nat) (hx : a.eval x = .pointer (some ⟨g, 0, none⟩)) (t : TypeId) (cs : Array Value) (d : TypeDesc) (hg : Blk w g cs t)
    (hu : P.underlying ty = some d) (hd : (match d with | .struct _ | .array _ _ => true | _ => false) = true) (hi : (P.info? ty).map (·.size) = some cs.size)
    (h : wpList P ops Q rest (a.put o.dst (.agg cs)) w) : wpList P ops Q (o :: rest) a w := wpList_load_row hgd ty x ho g hx t cs (0, 0) d hg hu hd hi h
/-- the same behind a guard that holds -/
theorem get_row_g {ops : Array Oper} (hw : Region.wanted o (yielded ops a.tmps) = true) (ty : TypeId) (x : Operand) (ho : o.op = .load ty x) (g : Nat) (hx : a.eval x = .pointer (some ⟨g, 0, none⟩)) (t : TypeId) (cs : Array Value) (d : TypeDesc) (hg : Blk w g cs t)
    (hu : P.underlying ty = some d) (hd : (match d with | .struct _ | .array _ _ => true | _ => false) = true) (hi : (P.info? ty).map (·.size) = some cs.size)
    (h : wpList P ops Q rest (a.put o.dst (.agg cs)) w) : wpList P ops Q (o :: rest) a w :=
  wpList_step fun K hK => by rw [if_pos hw]; exact wp_load_row ty x ho g hx t cs (0, 0) d hg hu hd hi (hK _ _ h)
end

/-- a cut of bytes that are read: some address, and what it reads -/
theorem cutB {P : Program} (t e : TypeId) {i : TypeInfo} (ht : P.underlying t = some (.slice e)) (hi : P.info? e = some i) (hsz : i.size = 1) (kl kh : IntKind) (A : Option Addr) (n c : Nat) (L H : Int) (lo hi' m : Nat)
    (hL : L = lo) (hH : H = hi') (hm : m = hi' - lo) (h1 : lo ≤ hi') (h2 : hi' ≤ n) (hc : n ≤ c) :
    ∃ A2 c2, m ≤ c2 ∧ (∀ W : World, (Instr.slice t (.slice A n c) (some (.int kl L)) (some (.int kh H)) none).run P W = .ok (.slice A2 m c2) W) ∧
      ∀ (W : World) (k : IntKind) (xs : List Int), xs.length = n → Kd.C (Kd.int k) W A xs.length xs → Kd.C (Kd.int k) W A2 ((xs.take hi').drop lo).length ((xs.take hi').drop lo) := by
  subst hL hH hm
  refine ⟨_, _, ?_, cut_mid t e kl kh ht hi 1 hsz A n c lo hi' (by omega) (by omega) (by omega) hc, fun W k xs hx h => ?_⟩
  · simp; omega
  · have := Kd.C_mid (lo := lo) (hi := hi') (c := c) h h1 (by omega) (by omega)
    rw [show (Kd.int k).sz = 1 from rfl] at this
    simpa using this
theorem cutB_to {P : Program} (t e : TypeId) {i : TypeInfo} (ht : P.underlying t = some (.slice e)) (hi : P.info? e = some i) (kh : IntKind) (A : Option Addr) (n c : Nat) (H : Int) (hi' : Nat) (hH : H = hi') (h2 : hi' ≤ n) (hc : n ≤ c) :
    (∀ W : World, (Instr.slice t (.slice A n c) none (some (.int kh H)) none).run P W = .ok (.slice A hi' c) W) ∧
      ∀ (W : World) (k : IntKind) (xs : List Int), xs.length = n → Kd.C (Kd.int k) W A xs.length xs → Kd.C (Kd.int k) W A (xs.take hi').length (xs.take hi') := by
  subst hH
  refine ⟨fun W => ?_, fun W k xs hx h => Kd.C_take h (by omega)⟩
  have := cut_to t e kh ht hi A n c hi' (by omega) (by omega) hc W
  simpa using this
theorem cutB_from {P : Program} (t e : TypeId) {i : TypeInfo} (ht : P.underlying t = some (.slice e)) (hi : P.info? e = some i) (hsz : i.size = 1) (kl : IntKind) (A : Option Addr) (n c : Nat) (L : Int) (lo m : Nat) (hL : L = lo) (hm : m = n - lo) (h2 : lo ≤ n) (hc : n ≤ c) :
    ∃ A2 c2, m ≤ c2 ∧ (∀ W : World, (Instr.slice t (.slice A n c) (some (.int kl L)) none none).run P W = .ok (.slice A2 m c2) W) ∧
      ∀ (W : World) (k : IntKind) (xs : List Int), xs.length = n → Kd.C (Kd.int k) W A xs.length xs → Kd.C (Kd.int k) W A2 (xs.drop lo).length (xs.drop lo) := by
  subst hL hm
  refine ⟨_, _, ?_, cut_from t e kl ht hi 1 hsz A n c lo (by omega) (by omega), fun W k xs hx h => ?_⟩
  · simp; omega
  · have := Kd.C_drop (m := lo) (c := c) h (by omega) (by omega)
    rw [show (Kd.int k).sz = 1 from rfl] at this
    simpa using this

/-- bytes that came in as a row with its spare room: what is read of them -/
theorem row_C {w : World} {a : Option Addr} {len cap : Nat} {zs : List Int}
    (h : (a = none ∧ len = 0 ∧ cap = 0 ∧ zs = []) ∨ ∃ x, a = some x ∧ len ≤ cap ∧ cap ≤ maxLen ∧ zs.length = cap ∧ (∀ i, i < zs.length → w.cell? (x.add i) = some (.int .u8 (zs.getD i 0))) ∧ ∀ n ∈ zs, (Lit.int .u8 n).wf = true) :
    ∃ xs : List Int, xs.length = len ∧ len ≤ cap ∧ Bytes xs ∧ Kd.C (Kd.int .u8) w a xs.length xs := by
  rcases h with ⟨rfl, rfl, rfl, rfl⟩ | ⟨x, rfl, hl, hm, hz, hc, hw⟩
  · exact ⟨[], rfl, Nat.le_refl _, Bytes.nil, Kd.C_nil _ _⟩
  · have hlen : (zs.take len).length = len := by simp; omega
    refine ⟨zs.take len, hlen, hl, ?_, ?_⟩
    · intro n hn
      have h := hw n (List.mem_of_mem_take hn)
      simp [Lit.wf, IntKind.min, IntKind.max, IntKind.bits, IntKind.signed] at h
      omega
    · refine Kd.C_of_reads (d := (0 : Int)) ⟨rfl, ?_, fun _ => ⟨x, rfl, fun j hj => ?_⟩⟩
      · rw [hlen]; unfold maxLen at hm; omega
      · rw [hlen] at hj
        rw [hc j (by omega)]
        simp [List.getD_eq_getElem?_getD, List.getElem?_take, hj]

end Go.Sb
