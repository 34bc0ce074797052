/- Parsing a packet. -/
import Derived.Test.YtapiimahhkfjnaaE
namespace Go.Proofs.Ytapiimahhkfjnaa
open Go.RowKit Go.Proofs.YtapiimahhkfjnaaW.PrintWords Go.Proofs.YtapiimahhkfjnaaW.PrintMore Go.Sb
attribute [local go_sem] max2_int min2_int max_two min_two

theorem inf25 : (Try.prog.info? 25).map (·.size) = some 4 := by kernel_rfl
def z4 : Array Value := #[.int .u32 0, .int .u32 0, .bool false, .slice none 0 0]
theorem z4_one : z4.all (·.oneCell') = true := by kernel_rfl
/-- byte k says that it is no packet -/
def badAt (xs : List Int) (k : Nat) : Bool := (k == 0 && rd xs 0 != 83) || (k == 1 && rd xs 1 != 66) || (k == 2 && decide (1 < rd xs 2))
def isBad (xs : List Int) : Bool := (decide (0 < xs.length) && badAt xs 0) || (decide (1 < xs.length) && badAt xs 1) || (decide (2 < xs.length) && badAt xs 2)
def zeroP : Value := .agg #[.int .u32 0, .int .u32 0, .bool false, .slice none 0 0]
def nOf (xs : List Int) : Nat := (getN ((xs.take 13).drop 11)).toNat
/-- what is wrong with bytes as a packet -/
def prs (xs : List Int) : Int :=
  if isBad xs = true then 3 else if xs.length < 13 then 2 else if 600 < nOf xs then 5 else if xs.length < 17 + nOf xs then 2
  else if crcW 0 (xs.take (13 + nOf xs)) = getN ((xs.take (17 + nOf xs)).drop (13 + nOf xs)) then 0 else 4
def plOf (xs : List Int) : List Int := (xs.take (13 + nOf xs)).drop 13
def epOf (xs : List Int) : Int := getN ((xs.take 7).drop 3)
def nuOf (xs : List Int) : Int := getN ((xs.take 11).drop 7)
def ParsePost (xs : List Int) (w : World) (e : Ending) (w' : World) : Prop :=
  (prs xs ≠ 0 → e = .returned (.tuple #[zeroP, .int .i64 0, .int .i64 (prs xs)])) ∧
  (prs xs = 0 → ∃ v', e = .returned (.tuple #[.agg #[.int .u32 (epOf xs), .int .u32 (nuOf xs), .bool (rd xs 2 == 1), v'], .int .i64 (17 + nOf xs : Nat), .int .i64 0]) ∧
    w'.ownsRow w.heap.size 5 1 v' (plOf xs).length (nums .u8 (plOf xs))) ∧ Below w.heap.size w w'
theorem getN_bd (xs : List Int) : 0 ≤ getN xs ∧ getN xs ≤ 4294967295 := by
  cases xs with
  | nil => simp [getN]
  | cons x xs => exact ⟨u32_lo .or _ _, u32_hi .or _ _⟩
theorem bad_of (xs : List Int) (k : Nat) (hk : k < xs.length) (h3 : k < 3) (h : badAt xs k = true) : isBad xs = true := by
  rcases (show k = 0 ∨ k = 1 ∨ k = 2 by omega) with rfl | rfl | rfl <;> simp [isBad, h, hk]
theorem good_of (xs : List Int) (h : ∀ j, j < min xs.length 3 → badAt xs j = false) : isBad xs = false := by
  have h0 := h 0
  have h1 := h 1
  have h2 := h 2
  simp only [isBad, Bool.or_eq_false_iff, Bool.and_eq_false_iff, decide_eq_false_iff_not]
  refine ⟨⟨?_, ?_⟩, ?_⟩
  · by_cases hl : 0 < xs.length
    · exact .inr (h0 (by omega))
    · exact .inl hl
  · by_cases hl : 1 < xs.length
    · exact .inr (h1 (by omega))
    · exact .inl hl
  · by_cases hl : 2 < xs.length
    · exact .inr (h2 (by omega))
    · exact .inl hl

theorem get_at (w : World) (A : Option Addr) (cap n : Nat) (xs : List Int) (v : Int) (hn : xs.length = n) (hv : getN xs = v) (hx : Kd.C (Kd.int .u8) w A xs.length xs) (hby : Bytes xs) (hlen : xs.length ≤ 1000000) :
    Calls Try.prog 19 #[.slice A n cap] w fun e W' => e = .returned (.int .u32 v) ∧ Below w.heap.size w W' := by
  subst hn hv
  exact get_any w A cap xs hx hby hlen
theorem of_at (w : World) (A : Option Addr) (cap n : Nat) (xs : List Int) (v : Int) (hn : xs.length = n) (hv : crcW 0 xs = v) (hx : Kd.C (Kd.int .u8) w A xs.length xs) (hby : Bytes xs) :
    Calls Try.prog 18 #[.slice A n cap] w fun e W' => e = .returned (.int .u32 v) ∧ Below w.heap.size w W' := by
  subst hn hv
  exact of_any w A cap xs hx hby
theorem clone_at (w : World) (A : Option Addr) (cap n : Nat) (xs : List Int) (hn : xs.length = n) (hx : Kd.C (Kd.int .u8) w A xs.length xs) (hl : xs.length ≤ 1000000) :
    Calls Try.prog 20 #[.slice A n cap] w fun e w' => ∃ v', e = .returned v' ∧ w'.ownsRow w.heap.size 5 1 v' xs.length (nums .u8 xs) ∧ Below w.heap.size w w' := by
  subst hn
  exact clone_any w A cap xs hx hl
theorem prs_bad {xs : List Int} (h : isBad xs = true) : prs xs = 3 := by simp [prs, h]
theorem post_err {xs : List Int} {w w' : World} {r : Int} (h : prs xs = r) (h0 : r ≠ 0) (hb : Below w.heap.size w w') : ParsePost xs w (.returned (.tuple #[.agg z4, .int .i64 0, .int .i64 r])) w' :=
  ⟨fun _ => by rw [h]; rfl, fun e => absurd (h.symm.trans e) h0, hb⟩
theorem bad0 {xs : List Int} (h : rd xs 0 ≠ 83) : badAt xs 0 = true := by simp [badAt, h]
theorem bad1 {xs : List Int} (h : rd xs 1 ≠ 66) : badAt xs 1 = true := by simp [badAt, h]
theorem bad2 {xs : List Int} (h : 1 < rd xs 2) : badAt xs 2 = true := by simp [badAt, h]
theorem ok0 {xs : List Int} (h : rd xs 0 = 83) : badAt xs 0 = false := by simp [badAt, h]
theorem ok1 {xs : List Int} (h : rd xs 1 = 66) : badAt xs 1 = false := by simp [badAt, h]
theorem ok2 {xs : List Int} (h : ¬ 1 < rd xs 2) : badAt xs 2 = false := by simp [badAt, h]
theorem good_snoc {xs : List Int} {k : Nat} (h : ∀ j, j < k → badAt xs j = false) (h' : badAt xs k = false) : ∀ j, j < k + 1 → badAt xs j = false := fun j hj => by
  rcases Nat.lt_or_ge j k with hl | hl
  · exact h j hl
  · obtain rfl : j = k := by omega
    exact h'

set_option maxHeartbeats 2000000 in
theorem parse_any (w : World) (A : Option Addr) (cap : Nat) (xs : List Int) (hx : Kd.C (Kd.int .u8) w A xs.length xs) (hby : Bytes xs) (hlen : xs.length ≤ 1000000) (hcap : xs.length ≤ cap) :
    Calls Try.prog 8 #[.slice A xs.length cap] w (ParsePost xs w) := by
  obtain ⟨i0, hi, hz0, hz1, hz2⟩ := info_parts info5
  obtain ⟨m3, hm3⟩ : ∃ m3, m3 = min xs.length 3 := ⟨_, rfl⟩
  obtain ⟨hcut, hCut⟩ := cutB_to 23 5 Try.underlying23 hi .i64 A xs.length cap (m3 : Int) m3 rfl (by omega) hcap
  have hif : (if (3 : Int) < xs.length then (3 : Int) else xs.length) = m3 := by split <;> omega
  have hx3 := hCut w .u8 xs rfl hx
  have hl3 : m3 ≤ 3 := by omega
  have hl4 : m3 ≤ xs.length := by omega
  have HM := Lib.hid hm3
  clear hm3 hCut hz0 hz2
  go_enter Try.func8, Try.ntmps8
  go_wp2
  clear hif hcut
  have hw1 : Below w.heap.size w (w.alloc (Obj.cells #[Value.int IntKind.u32 0, Value.int IntKind.u32 0, Value.bool false, Value.slice none 0 0] 25)) := (Below.refl _ _).alloc (Nat.le_refl _) _
  have hr1 : Blk (w.alloc (Obj.cells #[Value.int IntKind.u32 0, Value.int IntKind.u32 0, Value.bool false, Value.slice none 0 0] 25)) w.heap.size z4 25 := Blk.new w z4 25
  refine abs_code (fun W eW => ?_)
  rw [← eW] at hw1 hr1
  clear eW
  have hxW := Kd.C_below hx hw1
  go_loop [15] (fun i => ∃ k : Nat, k ≤ m3 ∧ i = .int .i64 k ∧ Hid (∀ j, j < k → badAt xs j = false)) (fun i => m3 - (intOf i).toNat)
  case atStart => exact ⟨0, Nat.zero_le _, rfl, Lib.hid (by intro j hj; omega)⟩
  case round =>
    obtain ⟨k, hk, rfl, hg⟩ := hrel
    by_cases hlt : k < m3
    · obtain ⟨ad, rfl, hcell⟩ := at_u8 hxW k (by omega)
      obtain ⟨hc0, hc1⟩ := rd_bytes hby k
      generalize hc : rd xs k = c at *
      have HC := Lib.hid hc
      clear hc
      rcases (show k = 0 ∨ k = 1 ∨ k = 2 by omega) with rfl | rfl | rfl
      · replace hcell : W.cell? ad = some (.int .u8 c) := hcell
        by_cases h : c = 83
        · subst h
          go_wp2
          go_round
          case rel => exact ⟨0+1, by omega, rfl, Lib.hid (good_snoc hg.out (ok0 (by have := HC.out; first | exact this | (rw [show rd xs 0 = c from this]; omega))))⟩
          case measure => simp [intOf]; omega
        · have h' : (c == 83) = false := beq_eq_false_iff_ne.2 h
          have h'' : (c != 83) = true := bne_iff_ne.2 h
          go_wp2_with (first | (refine put_row rfl 25 (.tmp 2) (.tmp 36) rfl w.heap.size z4 rfl rfl 25 z4 hr1 inf25 rfl z4_one ?_; intro W2 hr2 hf2))
          refine bodyPost_ret (results_ctt rfl _ _ w.heap.size 25 z4 (0, 0) _ rfl hr2 Try.underlying25 rfl inf25) rfl (post_err (prs_bad (bad_of xs 0 (by omega) (by omega) (bad0 (by have := HC.out; rw [show rd xs 0 = c from this]; omega)))) (by omega) ?_)
          exact hw1.trans (hf2.below (fun k hk => by rw [hk]; exact Nat.le_refl _) hw1.size)
      · replace hcell : W.cell? ⟨ad.block, ad.off + 1, none⟩ = some (.int .u8 c) := hcell
        by_cases h : c = 66
        · subst h
          go_wp2
          go_round
          case rel => exact ⟨1+1, by omega, rfl, Lib.hid (good_snoc hg.out (ok1 (by have := HC.out; first | exact this | (rw [show rd xs 1 = c from this]; omega))))⟩
          case measure => simp [intOf]; omega
        · have h' : (c == 66) = false := beq_eq_false_iff_ne.2 h
          have h'' : (c != 66) = true := bne_iff_ne.2 h
          go_wp2_with (first | (refine put_row rfl 25 (.tmp 2) (.tmp 36) rfl w.heap.size z4 rfl rfl 25 z4 hr1 inf25 rfl z4_one ?_; intro W2 hr2 hf2))
          refine bodyPost_ret (results_ctt rfl _ _ w.heap.size 25 z4 (0, 0) _ rfl hr2 Try.underlying25 rfl inf25) rfl (post_err (prs_bad (bad_of xs 1 (by omega) (by omega) (bad1 (by have := HC.out; rw [show rd xs 1 = c from this]; omega)))) (by omega) ?_)
          exact hw1.trans (hf2.below (fun k hk => by rw [hk]; exact Nat.le_refl _) hw1.size)
      · replace hcell : W.cell? ⟨ad.block, ad.off + 2, none⟩ = some (.int .u8 c) := hcell
        by_cases h : c ≤ 1
        · have h' : ¬ 1 < c := by omega
          go_wp2
          go_round
          case rel => exact ⟨2+1, by omega, rfl, Lib.hid (good_snoc hg.out (ok2 (by have := HC.out; first | exact this | (rw [show rd xs 2 = c from this]; omega))))⟩
          case measure => simp [intOf]; omega
        · have h' : 1 < c := by omega
          go_wp2_with (first | (refine put_row rfl 25 (.tmp 2) (.tmp 36) rfl w.heap.size z4 rfl rfl 25 z4 hr1 inf25 rfl z4_one ?_; intro W2 hr2 hf2))
          refine bodyPost_ret (results_ctt rfl _ _ w.heap.size 25 z4 (0, 0) _ rfl hr2 Try.underlying25 rfl inf25) rfl (post_err (prs_bad (bad_of xs 2 (by omega) (by omega) (bad2 (by have := HC.out; rw [show rd xs 2 = c from this]; omega)))) (by omega) ?_)
          exact hw1.trans (hf2.below (fun k hk => by rw [hk]; exact Nat.le_refl _) hw1.size)
    · obtain rfl : k = m3 := by omega
      have hgood : isBad xs = false := good_of xs (by rw [← HM.out]; exact hg.out)
      clear hlt hg hx3 HM
      by_cases h13 : xs.length < 13
      · go_wp2_with (first | (refine put_row rfl 25 (.tmp 2) (.tmp 41) rfl w.heap.size z4 rfl rfl 25 z4 hr1 inf25 rfl z4_one ?_; intro W2 hr2 hf2))
        refine bodyPost_ret (results_ctt rfl _ _ w.heap.size 25 z4 (0, 0) _ rfl hr2 Try.underlying25 rfl inf25) rfl (post_err (by simp [prs, hgood, h13]) (by omega) ?_)
        exact hw1.trans (hf2.below (fun k hk => by rw [hk]; exact Nat.le_refl _) hw1.size)
      · obtain ⟨A1, c1, hc1, hcut1, hC1⟩ := cutB 23 5 Try.underlying23 hi hz1 .i64 .i64 A xs.length cap 11 13 11 13 2 rfl rfl rfl (by omega) (by omega) hcap
        obtain ⟨n, hn⟩ : ∃ n : Nat, getN ((xs.take 13).drop 11) = n := ⟨(getN ((xs.take 13).drop 11)).toNat, by have := getN_bd ((xs.take 13).drop 11); omega⟩
        have hnn : nOf xs = n := by unfold nOf; rw [hn]; simp
        have hnb : n ≤ 4294967295 := by have := getN_bd ((xs.take 13).drop 11); omega
        have HN := Lib.hid hn
        have HNN := Lib.hid hnn
        clear hn hnn
        by_cases h600 : 600 < n
        · go_wp2_with (first | (refine put_row rfl 25 (.tmp 2) (.tmp 52) rfl w.heap.size z4 rfl rfl 25 z4 hr3 inf25 rfl z4_one ?_; intro W2 hr2 hf2) | (go_at_call 19; have C := get_at W A1 c1 2 ((xs.take 13).drop 11) n (by simp; omega) HN.out (hC1 W .u8 xs rfl hxW) ((hby.take _).drop _) (by simp; omega); (with_reducible refine C.mono ?_); clear C; rintro e W3 ⟨rfl, hb3⟩; have hr3 := hr1.below hb3; have hw3 := below_then hw1 hw1.size hb3))
          refine bodyPost_ret (results_ctt rfl _ _ w.heap.size 25 z4 (0, 0) _ rfl hr2 Try.underlying25 rfl inf25) rfl (post_err (by have := HNN.out; simp [prs, hgood, h13, this, h600]) (by omega) ?_)
          exact hw3.trans (hf2.below (fun k hk => by rw [hk]; exact Nat.le_refl _) hw3.size)
        · by_cases hsh : xs.length < 17 + n
          · go_wp2_with (first | (refine put_row rfl 25 (.tmp 2) (.tmp 58) rfl w.heap.size z4 rfl rfl 25 z4 hr3 inf25 rfl z4_one ?_; intro W2 hr2 hf2) | (go_at_call 19; have C := get_at W A1 c1 2 ((xs.take 13).drop 11) n (by simp; omega) HN.out (hC1 W .u8 xs rfl hxW) ((hby.take _).drop _) (by simp; omega); (with_reducible refine C.mono ?_); clear C; rintro e W3 ⟨rfl, hb3⟩; have hr3 := hr1.below hb3; have hw3 := below_then hw1 hw1.size hb3))
            refine bodyPost_ret (results_ctt rfl _ _ w.heap.size 25 z4 (0, 0) _ rfl hr2 Try.underlying25 rfl inf25) rfl (post_err (by have := HNN.out; simp [prs, hgood, h13, this, h600, hsh]) (by omega) ?_)
            exact hw3.trans (hf2.below (fun k hk => by rw [hk]; exact Nat.le_refl _) hw3.size)
          · go_wp2_with (first | (go_at_call 19; have C := get_at W A1 c1 2 ((xs.take 13).drop 11) n (by simp; omega) HN.out (hC1 W .u8 xs rfl hxW) ((hby.take _).drop _) (by simp; omega); (with_reducible refine C.mono ?_); clear C; rintro e W3 ⟨rfl, hb3⟩; have hr3 := hr1.below hb3; have hw3 := below_then hw1 hw1.size hb3))
            obtain ⟨hcutA, hCA⟩ := cutB_to 23 5 Try.underlying23 hi .i64 A xs.length cap (13 + (n : Int)) (13 + n) (by omega) (by omega) hcap
            obtain ⟨A2, c2, hc2, hcut2, hC2⟩ := cutB 23 5 Try.underlying23 hi hz1 .i64 .i64 A xs.length cap (13 + (n : Int)) (13 + (n : Int) + 4) (13 + n) (17 + n) 4 (by omega) (by omega) (by omega) (by omega) (by omega) hcap
            have hwr : IntKind.i64.wrap (13 + (n : Int) + 4 - 4) = 13 + (n : Int) := by rw [show 13 + (n : Int) + 4 - 4 = 13 + (n : Int) by omega]; exact IntWalk.i64_in _ (by omega)
            have hwr2 : IntKind.i64.wrap (13 + (n : Int)) = 13 + (n : Int) := IntWalk.i64_in _ (by omega)
            have hx4 := Kd.C_below hx hw3
            have HC1 := fun W' => hCA W' .u8 xs rfl
            have HC2 := fun W' => hC2 W' .u8 xs rfl
            clear hCA hC2 hC1 hcut1
            obtain ⟨q1, hq1⟩ : ∃ q, crcW 0 (xs.take (13 + n)) = q := ⟨_, rfl⟩
            obtain ⟨q2, hq2⟩ : ∃ q, getN ((xs.take (17 + n)).drop (13 + n)) = q := ⟨_, rfl⟩
            have Q1 := Lib.hid hq1
            have Q2 := Lib.hid hq2
            clear hq1 hq2
            go_region_held3 (fun W' => True) (trivial)
              (first
                | (go_at_call 18; have C := of_at W3.drew A cap (13 + n) (xs.take (13 + n)) q1 (by simp; omega) Q1.out (HC1 _ hx4) (hby.take _); (with_reducible refine C.mono ?_); clear C; rintro e W4 ⟨rfl, hb4⟩)
                | (go_at_call 19; have C := get_at W4 A2 c2 4 ((xs.take (17 + n)).drop (13 + n)) q2 (by simp; omega) Q2.out (HC2 _ (Kd.C_below (Kd.C_drew hx4) hb4)) ((hby.take _).drop _) (by simp; omega); (with_reducible refine C.mono ?_); clear C; rintro e W5 ⟨rfl, hb5⟩))
            have hb35 : Below w.heap.size w W5 := below_then (below_then hw3.drew hw3.size hb4) (Nat.le_trans hw3.size hb4.size) hb5
            have hr5 : Blk W5 w.heap.size z4 25 := (hr3.drew.below hb4).below hb5
            have hx5 := Kd.C_below hx hb35
            clear hcutA hcut2 HC1 HC2 hwr hx4 hb4 hb5 hr3 hb3 hr1 hxW
            by_cases hq : q1 = q2
            · have hq1 : (q1 == q2) = true := beq_iff_eq.2 hq
              have hq2 : (q1 != q2) = false := by simp [hq]
              go_wp2
              obtain ⟨ad, rfl, hb20⟩ := at_u8 hx5 2 (by omega)
              have hb2 : W5.cell? ⟨ad.block, ad.off + 2, none⟩ = some (.int .u8 (rd xs 2)) := hb20
              clear hb20
              obtain ⟨hd0, hd1⟩ := rd_bytes hby 2
              obtain ⟨A3, c3, hc3, hcut3, hC3⟩ := cutB 23 5 Try.underlying23 hi hz1 .i64 .i64 (some ad) xs.length cap 3 7 3 7 4 rfl rfl rfl (by omega) (by omega) hcap
              obtain ⟨A4, c4, hc4, hcut4, hC4⟩ := cutB 23 5 Try.underlying23 hi hz1 .i64 .i64 (some ad) xs.length cap 7 11 7 11 4 rfl rfl rfl (by omega) (by omega) hcap
              obtain ⟨A5, c5, hc5, hcut5, hC5⟩ := cutB 23 5 Try.underlying23 hi hz1 .i64 .i64 (some ad) xs.length cap 13 (13 + (n : Int)) 13 (13 + n) n rfl (by omega) (by omega) (by omega) (by omega) hcap
              have hlb : ad.block < w.heap.size := by
                obtain ⟨ad', e, hc⟩ := at_u8 hx 2 (by omega)
                cases e
                have := World.block_lt_of_cell? w _ hc
                rwa [add_block] at this
              have hne : ad.block ≠ w.heap.size := by omega
              have hln : (2 : Int) < (xs.length : Int) := by omega
              have HC3 := fun W' => hC3 W' .u8 xs rfl
              have HC4 := fun W' => hC4 W' .u8 xs rfl
              have HC5 := fun W' => hC5 W' .u8 xs rfl
              clear hC3 hC4 hC5
              go_region_held3 (fun W' => W'.cell? ⟨ad.block, ad.off + 2, none⟩ = some (.int .u8 (rd xs 2))) (first | with_reducible assumption | (refine keepSet (keepSet (keepSet (keepSet hS8 hne) hne) hne) hne) | go_keep)
                (first
                  | (go_at_call 19; have C := get_at W5.drew A3 c3 4 ((xs.take 7).drop 3) (epOf xs) (by simp; omega) rfl (HC3 _ (Kd.C_drew hx5)) ((hby.take _).drop _) (by simp; omega); (with_reducible refine C.mono ?_); clear C; rintro e W6 ⟨rfl, hb6⟩; have hS6 := pw_cell_below hb6 hb2)
                  | (go_at_call 19; have C := get_at W6 A4 c4 4 ((xs.take 11).drop 7) (nuOf xs) (by simp; omega) rfl (HC4 _ (Kd.C_below (Kd.C_drew hx5) hb6)) ((hby.take _).drop _) (by simp; omega); (with_reducible refine C.mono ?_); clear C; rintro e W7 ⟨rfl, hb7⟩; have hS7 := pw_cell_below hb7 hS6)
                  | (go_at_call 20; have C := clone_at W7 A5 c5 n ((xs.take (13 + n)).drop 13) (by simp; omega) (HC5 _ (Kd.C_below (Kd.C_below (Kd.C_drew hx5) hb6) hb7)) (by simp; omega); (with_reducible refine C.mono ?_); clear C; rintro e W8 ⟨v8, rfl, hO8, hb8⟩; have hS8 := pw_cell_below hb8 hS7; have hr8 := ((hr5.drew.below hb6).below hb7).below hb8; obtain ⟨A8, c8, rfl⟩ := own_slice hO8; have r0 := hr8.cell 0 (u := .int .u32 0) rfl; have r1 := hr8.cell 1 (u := .int .u32 0) rfl; have r2 := hr8.cell 2 (u := .bool false) rfl; have r3 := hr8.cell 3 (u := .slice none 0 0) rfl; have f0 := hr8.frozen 0; have f1 := hr8.frozen 1; have f2 := hr8.frozen 2; have f3 := hr8.frozen 3))
              go_wp2
              have hfin := (((hr8.set 0 (.int .u32 (epOf xs))).set 1 (.int .u32 (nuOf xs))).set 2 (.bool (rd xs 2 == 1))).set 3 (.slice A8 (min (13 + n) xs.length - 13) c8)
              have hprs : prs xs = 0 := by have := HNN.out; simp only [prs, hgood, this, Q1.out, Q2.out]; simp [h13, h600, hsh, hq]
              have hpl : plOf xs = (xs.take (13 + n)).drop 13 := by unfold plOf; rw [HNN.out]
              have hb38 : Below w.heap.size w W8 := below_then (below_then (below_then hb35.drew hb35.size hb6) (Nat.le_trans hb35.size hb6.size) hb7) (Nat.le_trans (Nat.le_trans hb35.size hb6.size) hb7.size) hb8
              have hb48 : Fr (OneB w.heap.size) W8 ((((W8.setCell ⟨w.heap.size, 0, none⟩ (.int .u32 (epOf xs))).setCell ⟨w.heap.size, 1, none⟩ (.int .u32 (nuOf xs))).setCell ⟨w.heap.size, 2, none⟩ (.bool (rd xs 2 == 1))).setCell ⟨w.heap.size, 3, none⟩ (.slice A8 (min (13 + n) xs.length - 13) c8)) :=
                ((((Fr.refl (OneB w.heap.size) W8).setCell (p := ⟨w.heap.size, 0, none⟩) (.inl rfl) _).setCell (p := ⟨w.heap.size, 1, none⟩) (.inl rfl) _).setCell (p := ⟨w.heap.size, 2, none⟩) (.inl rfl) _).setCell (p := ⟨w.heap.size, 3, none⟩) (.inl rfl) _
              refine bodyPost_ret (results_ctt rfl _ _ w.heap.size 25 _ (0, 0) _ rfl hfin Try.underlying25 rfl inf25) rfl ⟨fun h => absurd hprs h, fun _ => ⟨.slice A8 (min (13 + n) xs.length - 13) c8, ?_, ?_⟩, hb38.trans (hb48.below (fun k hk => by rw [hk]; exact Nat.le_refl _) hb38.size)⟩
              · have e : (13 + (n : Int) + 4) = ((17 + nOf xs : Nat) : Int) := by rw [HNN.out]; omega
                rw [← e]
                rfl
              · rw [hpl]
                have hlen8 : (List.drop 13 (List.take (13 + n) xs)).length = min (13 + n) xs.length - 13 := by simp
                have h8 : W8.ownsRow w.heap.size 5 1 (.slice A8 (min (13 + n) xs.length - 13) c8) ((xs.take (13 + n)).drop 13).length (nums .u8 ((xs.take (13 + n)).drop 13)) := by
                  rw [← hlen8]; exact own_weaken hO8 (Nat.le_trans (Nat.le_trans hb35.size hb6.size) hb7.size)
                refine own_move h8 (fun b hb => ?_)
                have hbb := own_base hO8 b (by rw [hlen8]; exact hb)
                exact hb48.block b (by have := own_lt h8 b hb; exact this) (fun e => by have : b = w.heap.size := e; have := hr5.lt; have := hb6.size; have := hb7.size; have h9 : W5.drew.heap.size = W5.heap.size := rfl; omega)
            · have hq1 : (q1 == q2) = false := beq_eq_false_iff_ne.2 hq
              have hq2 : (q1 != q2) = true := bne_iff_ne.2 hq
              go_wp2_with (first | (refine put_row rfl 25 (.tmp 2) (.tmp 72) rfl w.heap.size z4 rfl rfl 25 z4 hr5 inf25 rfl z4_one ?_; intro W2 hr2 hf2))
              refine bodyPost_ret (results_ctt rfl _ _ w.heap.size 25 z4 (0, 0) _ rfl hr2 Try.underlying25 rfl inf25) rfl (post_err (by have := HNN.out; simp only [prs, hgood, this, Q1.out, Q2.out]; simp [h13, h600, hsh, hq]) (by omega) ?_)
              exact hb35.trans (hf2.below (fun k hk => by rw [hk]; exact Nat.le_refl _) hb35.size)

end Go.Proofs.Ytapiimahhkfjnaa
