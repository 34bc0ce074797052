/- The reference's parsing of a packet. -/
import Derived.Test.YtapiimahhkfjnaaG
namespace Go.Proofs.Ytapiimahhkfjnaa
open Go.RowKit Go.Proofs.YtapiimahhkfjnaaW.PrintWords Go.Sb

def nR (xs : List Int) : Nat := (valN ((xs.take 13).drop 11)).toNat
def plR (xs : List Int) : List Int := (xs.take (13 + nR xs)).drop 13
def epR (xs : List Int) : Int := valN ((xs.take 7).drop 3)
def nuR (xs : List Int) : Int := valN ((xs.take 11).drop 7)
def rprs (xs : List Int) : Int :=
  if isBad xs = true then 3 else if xs.length < 13 then 2 else if 600 < nR xs then 5 else if xs.length < 17 + nR xs then 2
  else if pkR (epR xs) (nuR xs) (rd xs 2 == 1) (plR xs) = xs.take (17 + nR xs) then 0 else 4
/-- what the reference's parsing gives; the payload lies among the bytes that came -/
def RParsePost (A0 : Option Addr) (xs : List Int) (w : World) (e : Ending) (w' : World) : Prop :=
  (rprs xs ≠ 0 → e = .returned (.tuple #[zeroP, .int .i64 0, .int .i64 (rprs xs)])) ∧
  (rprs xs = 0 → ∃ A c, e = .returned (.tuple #[.agg #[.int .u32 (epR xs), .int .u32 (nuR xs), .bool (rd xs 2 == 1), .slice A (plR xs).length c], .int .i64 (17 + nR xs : Nat), .int .i64 0]) ∧
    (plR xs).length ≤ c ∧ ∀ W : World, Kd.C (Kd.int .u8) W A0 xs.length xs → Kd.C (Kd.int .u8) W A (plR xs).length (plR xs)) ∧ Below w.heap.size w w'
theorem inf33 : (Try.prog.info? 33).map (·.size) = some 4 := by kernel_rfl
theorem rpost_err {A0 : Option Addr} {xs : List Int} {w w' : World} {r : Int} (h : rprs xs = r) (h0 : r ≠ 0) (hb : Below w.heap.size w w') : RParsePost A0 xs w (.returned (.tuple #[.agg z4, .int .i64 0, .int .i64 r])) w' :=
  ⟨fun _ => by rw [h]; rfl, fun e => absurd (h.symm.trans e) h0, hb⟩
theorem rprs_bad {xs : List Int} (h : isBad xs = true) : rprs xs = 3 := by simp [rprs, h]
theorem value_at (w : World) (A : Option Addr) (cap n : Nat) (xs : List Int) (v : Int) (hn : xs.length = n) (hv : valN xs = v) (hx : Kd.C (Kd.int .u8) w A xs.length xs) (hby : Bytes xs) :
    Calls Try.prog 23 #[.slice A n cap] w fun e W' => e = .returned (.int .u32 v) ∧ w = W' := by
  subst hn hv
  exact value2_any w A cap xs hx hby

theorem refBytes_at (w : World) (ep nu : Int) (wh : Bool) (A : Option Addr) (cap n : Nat) (xs : List Int) (hn' : xs.length = n) (he : 0 ≤ ep ∧ ep ≤ 4294967295) (hn : 0 ≤ nu ∧ nu ≤ 4294967295)
    (hx : Kd.C (Kd.int .u8) w A xs.length xs) (hby : Bytes xs) (hl : xs.length ≤ 600) :
    Calls Try.prog 9 #[.agg #[.int .u32 ep, .int .u32 nu, .bool wh, .slice A n cap]] w fun e w' => ∃ v', e = .returned v' ∧
      w'.ownsRow w.heap.size 5 1 v' (pkR ep nu wh xs).length (nums .u8 (pkR ep nu wh xs)) ∧ Below w.heap.size w w' := by
  subst hn'
  exact refBytes_any w ep nu wh A cap xs he hn hx hby hl
theorem pk0_length (ep nu : Int) (wh : Bool) (xs : List Int) : (pk0 ep nu wh xs).length = 13 + xs.length := by simp [pk0, le_length]; omega
theorem pkR_length (ep nu : Int) (wh : Bool) (xs : List Int) : (pkR ep nu wh xs).length = 17 + xs.length := by simp [pkR, le_length, pk0_length]; omega
theorem eq_take {al xs : List Int} {n : Nat} (h1 : al.length = n) (h2 : n ≤ xs.length) (h : ∀ j, j < n → rd al j = rd xs j) : al = xs.take n := by
  apply List.ext_getElem
  · simp; omega
  · intro i hi hi2
    have := h i (by omega)
    simp only [rd, Int.toNat_natCast, List.getD_eq_getElem?_getD, List.getElem?_eq_getElem hi, List.getElem?_eq_getElem (show i < xs.length by omega), Option.getD_some] at this
    simpa using this
theorem ne_take {al xs : List Int} {n k : Nat} (h2 : n ≤ xs.length) (hk : k < n) (h : rd al k ≠ rd xs k) : al ≠ xs.take n := by
  intro e
  apply h
  rw [e]
  simp [rd, List.getD_eq_getElem?_getD, List.getElem?_take, hk]

set_option maxHeartbeats 8000000 in
theorem refParse_any (w : World) (A : Option Addr) (cap : Nat) (xs : List Int) (hx : Kd.C (Kd.int .u8) w A xs.length xs) (hby : Bytes xs) (hlen : xs.length ≤ 1000000) (hcap : xs.length ≤ cap) :
    Calls Try.prog 12 #[.slice A xs.length cap] w (RParsePost A xs w) := by
  obtain ⟨i0, hi, hz0, hz1, hz2⟩ := info_parts info5
  clear hz0 hz2
  have hw1 : Below w.heap.size w (w.alloc (Obj.cells #[Value.int IntKind.u32 0, Value.int IntKind.u32 0, Value.bool false, Value.slice none 0 0] 33)) := (Below.refl _ _).alloc (Nat.le_refl _) _
  have hr1 : Blk (w.alloc (Obj.cells #[Value.int IntKind.u32 0, Value.int IntKind.u32 0, Value.bool false, Value.slice none 0 0] 33)) w.heap.size z4 33 := Blk.new w z4 33
  have hxW := Kd.C_below hx hw1
  go_enter Try.func12, Try.ntmps12
  by_cases h0 : xs.length = 0
  · obtain rfl : xs = [] := List.eq_nil_of_length_eq_zero h0
    go_wp2_with (first | (refine put_row rfl 33 (.tmp 2) (.tmp 44) rfl w.heap.size z4 rfl rfl 33 z4 hr1 inf33 rfl z4_one ?_; intro W2 hr2 hf2))
    refine bodyPost_ret (results_ctt rfl _ _ w.heap.size 33 z4 (0, 0) _ rfl hr2 Try.underlying33 rfl inf33) rfl (rpost_err (by simp [rprs, isBad]) (by omega) ?_)
    exact hw1.trans (hf2.below (fun k hk => by rw [hk]; exact Nat.le_refl _) hw1.size)
  · obtain ⟨ad, rfl, hc0⟩ := at_u8 hxW 0 (by omega)
    replace hc0 : World.cell? _ ad = some (.int .u8 (rd xs 0)) := hc0
    obtain ⟨hd0, hd1⟩ := rd_bytes hby 0
    have hl0 : (0 : Int) < xs.length := by omega
    by_cases hq0 : rd xs 0 = 83
    · have hq0' : (rd xs 0 != 83) = false := by simp [hq0]
      have hq0'' := ok0 hq0
      have HQ0 := Lib.hid hq0''
      clear hq0''
      by_cases h1 : xs.length = 1
      · have hl1 : ¬ (1 : Int) < xs.length := by omega
        have hl2 : ¬ (2 : Int) < xs.length := by omega
        clear hq0
        go_wp2_with (first | (refine put_row rfl 33 (.tmp 2) (.tmp 44) rfl w.heap.size z4 rfl rfl 33 z4 hr1 inf33 rfl z4_one ?_; intro W2 hr2 hf2))
        refine bodyPost_ret (results_ctt rfl _ _ w.heap.size 33 z4 (0, 0) _ rfl hr2 Try.underlying33 rfl inf33) rfl (rpost_err (by have := HQ0.out; simp [rprs, isBad, h1, this]) (by omega) ?_)
        exact hw1.trans (hf2.below (fun k hk => by rw [hk]; exact Nat.le_refl _) hw1.size)
      · obtain ⟨ad', e, hc1⟩ := at_u8 hxW 1 (by omega)
        cases e
        replace hc1 : World.cell? _ ⟨ad.block, ad.off + 1, none⟩ = some (.int .u8 (rd xs 1)) := hc1
        obtain ⟨he0, he1⟩ := rd_bytes hby 1
        have hl1 : (1 : Int) < xs.length := by omega
        by_cases hq1 : rd xs 1 = 66
        · have hq1' : (rd xs 1 != 66) = false := by simp [hq1]
          have hq1'' := ok1 hq1
          have HQ1 := Lib.hid hq1''
          clear hq1'' hq1 hq0
          by_cases h2 : xs.length = 2
          · have hl2 : ¬ (2 : Int) < xs.length := by omega
            go_wp2_with (first | (refine put_row rfl 33 (.tmp 2) (.tmp 44) rfl w.heap.size z4 rfl rfl 33 z4 hr1 inf33 rfl z4_one ?_; intro W2 hr2 hf2))
            refine bodyPost_ret (results_ctt rfl _ _ w.heap.size 33 z4 (0, 0) _ rfl hr2 Try.underlying33 rfl inf33) rfl (rpost_err (by have := HQ0.out; have := HQ1.out; simp [rprs, isBad, h2, *]) (by omega) ?_)
            exact hw1.trans (hf2.below (fun k hk => by rw [hk]; exact Nat.le_refl _) hw1.size)
          · obtain ⟨ad', e, hc2⟩ := at_u8 hxW 2 (by omega)
            cases e
            replace hc2 : World.cell? _ ⟨ad.block, ad.off + 2, none⟩ = some (.int .u8 (rd xs 2)) := hc2
            obtain ⟨hf0, hf1⟩ := rd_bytes hby 2
            have hl2 : (2 : Int) < xs.length := by omega
            by_cases hq2 : 1 < rd xs 2
            · go_wp2_with (first | (refine put_row rfl 33 (.tmp 2) (.tmp 40) rfl w.heap.size z4 rfl rfl 33 z4 hr1 inf33 rfl z4_one ?_; intro W2 hr2 hf2))
              refine bodyPost_ret (results_ctt rfl _ _ w.heap.size 33 z4 (0, 0) _ rfl hr2 Try.underlying33 rfl inf33) rfl (rpost_err (rprs_bad (bad_of xs 2 (by omega) (by omega) (bad2 hq2))) (by omega) ?_)
              exact hw1.trans (hf2.below (fun k hk => by rw [hk]; exact Nat.le_refl _) hw1.size)
            · have hq2'' := ok2 hq2
              have HQ2 := Lib.hid hq2''
              clear hq2''
              have hgood : Hid (isBad xs = false) := by
                have a := HQ0.out; have b := HQ1.out; have c := HQ2.out
                exact Lib.hid (by simp [isBad, a, b, c])
              by_cases h13 : xs.length < 13
              · go_wp2_with (first | (refine put_row rfl 33 (.tmp 2) (.tmp 44) rfl w.heap.size z4 rfl rfl 33 z4 hr1 inf33 rfl z4_one ?_; intro W2 hr2 hf2))
                refine bodyPost_ret (results_ctt rfl _ _ w.heap.size 33 z4 (0, 0) _ rfl hr2 Try.underlying33 rfl inf33) rfl (rpost_err (by have := hgood.out; simp [rprs, this, h13]) (by omega) ?_)
                exact hw1.trans (hf2.below (fun k hk => by rw [hk]; exact Nat.le_refl _) hw1.size)
              · obtain ⟨n, hn⟩ : ∃ n : Nat, valN ((xs.take 13).drop 11) = n := ⟨(valN ((xs.take 13).drop 11)).toNat, by have := valN_bd ((xs.take 13).drop 11) ((hby.take _).drop _); omega⟩
                have hnn : nR xs = n := by unfold nR; rw [hn]; simp
                have hnb : n ≤ 4294967295 := by have := valN_bd ((xs.take 13).drop 11) ((hby.take _).drop _); omega
                have HN := Lib.hid hn
                have HNN := Lib.hid hnn
                clear hn hnn
                by_cases h600 : 600 < n
                · go_wp2_with (first | (refine put_row rfl 33 (.tmp 2) (.tmp 51) rfl w.heap.size z4 rfl rfl 33 z4 hr1 inf33 rfl z4_one ?_; intro W2 hr2 hf2) | (go_at_call 23; have C := value_at _ (some ⟨ad.block, ad.off + 11, none⟩) (cap - 11) 2 ((xs.take 13).drop 11) n (by simp; omega) HN.out (C_at hxW 11 13 (by omega) (by omega)) ((hby.take _).drop _); (with_reducible refine C.mono ?_); clear C; rintro e W3 ⟨rfl, rfl⟩))
                  refine bodyPost_ret (results_ctt rfl _ _ w.heap.size 33 z4 (0, 0) _ rfl hr2 Try.underlying33 rfl inf33) rfl (rpost_err (by have := HNN.out; have hg := hgood.out; simp [rprs, hg, h13, this, h600]) (by omega) ?_)
                  exact hw1.trans (hf2.below (fun k hk => by rw [hk]; exact Nat.le_refl _) hw1.size)
                · by_cases hsh : xs.length < 17 + n
                  · go_wp2_with (first | (refine put_row rfl 33 (.tmp 2) (.tmp 57) rfl w.heap.size z4 rfl rfl 33 z4 hr1 inf33 rfl z4_one ?_; intro W2 hr2 hf2) | (go_at_call 23; have C := value_at _ (some ⟨ad.block, ad.off + 11, none⟩) (cap - 11) 2 ((xs.take 13).drop 11) n (by simp; omega) HN.out (C_at hxW 11 13 (by omega) (by omega)) ((hby.take _).drop _); (with_reducible refine C.mono ?_); clear C; rintro e W3 ⟨rfl, rfl⟩))
                    refine bodyPost_ret (results_ctt rfl _ _ w.heap.size 33 z4 (0, 0) _ rfl hr2 Try.underlying33 rfl inf33) rfl (rpost_err (by have := HNN.out; have hg := hgood.out; simp [rprs, hg, h13, this, h600, hsh]) (by omega) ?_)
                    exact hw1.trans (hf2.below (fun k hk => by rw [hk]; exact Nat.le_refl _) hw1.size)
                  · go_wp2_with (first  | (go_at_call 23; have C := value_at _ (some ⟨ad.block, ad.off + 11, none⟩) (cap - 11) 2 ((xs.take 13).drop 11) n (by simp; omega) HN.out (C_at hxW 11 13 (by omega) (by omega)) ((hby.take _).drop _); (with_reducible refine C.mono ?_); clear C; rintro e W3 ⟨rfl, rfl⟩))
                    generalize eW : w.alloc (Obj.cells #[Value.int IntKind.u32 0, Value.int IntKind.u32 0, Value.bool false, Value.slice none 0 0] 33) = W at *
                    clear eW
                    have hwr2 : IntKind.i64.wrap (13 + (n : Int)) = 13 + (n : Int) := IntWalk.i64_in _ (by omega)
                    obtain ⟨A3, c3, hc3, hcut3, hC3⟩ := cutB 23 5 Try.underlying23 hi hz1 .i64 .i64 (some ad) xs.length cap 3 7 3 7 4 rfl rfl rfl (by omega) (by omega) hcap
                    obtain ⟨A4, c4, hc4, hcut4, hC4⟩ := cutB 23 5 Try.underlying23 hi hz1 .i64 .i64 (some ad) xs.length cap 7 11 7 11 4 rfl rfl rfl (by omega) (by omega) hcap
                    obtain ⟨A5, c5, hc5, hcut5, hC5⟩ := cutB 23 5 Try.underlying23 hi hz1 .i64 .i64 (some ad) xs.length cap 13 (13 + (n : Int)) 13 (13 + n) n rfl (by omega) (by omega) (by omega) (by omega) hcap
                    have hx3 := hC3 W.drew .u8 xs rfl (Kd.C_drew hxW)
                    have hx7 := hC4 W.drew .u8 xs rfl (Kd.C_drew hxW)
                    have hx3a := hC3 (W.alloc (Obj.cells #[Value.int IntKind.u32 0, Value.int IntKind.u32 0, Value.bool false, Value.slice none 0 0] 33)).drew .u8 xs rfl (Kd.C_drew (Kd.C_alloc hxW _))
                    have hx7a := hC4 (W.alloc (Obj.cells #[Value.int IntKind.u32 0, Value.int IntKind.u32 0, Value.bool false, Value.slice none 0 0] 33)).drew .u8 xs rfl (Kd.C_drew (Kd.C_alloc hxW _))
                    have hx13 := hC5 W.drew .u8 xs rfl (Kd.C_drew hxW)
                    have HC5 := fun W' => hC5 W' .u8 xs rfl
                    have HC6 := HC5
                    have hx130 := hC5 w .u8 xs rfl hx
                    clear hC3 hC4 hC5
                    have hL : 13 + (n : Int) ≤ xs.length := by omega
                    go_region_held3 (fun W' => W'.cell? ⟨ad.block, ad.off + 2, none⟩ = some (.int .u8 (rd xs 2))) (first | with_reducible assumption | go_keep)
                      (first
                        | (go_at_call 23; have C := value_at W.drew A3 c3 4 ((xs.take 7).drop 3) (epR xs) (by simp; omega) rfl hx3 ((hby.take _).drop _); (with_reducible refine C.mono ?_); clear C; rintro e W4 ⟨rfl, rfl⟩)
                        | (go_at_call 23; have C := value_at (W.alloc (Obj.cells #[Value.int IntKind.u32 0, Value.int IntKind.u32 0, Value.bool false, Value.slice none 0 0] 33)).drew A3 c3 4 ((xs.take 7).drop 3) (epR xs) (by simp; omega) rfl hx3a ((hby.take _).drop _); (with_reducible refine C.mono ?_); clear C; rintro e W4 ⟨rfl, rfl⟩)
                        | (go_at_call 23; have C := value_at W.drew A4 c4 4 ((xs.take 11).drop 7) (nuR xs) (by simp; omega) rfl hx7 ((hby.take _).drop _); (with_reducible refine C.mono ?_); clear C; rintro e W4 ⟨rfl, rfl⟩)
                        | (go_at_call 23; have C := value_at (W.alloc (Obj.cells #[Value.int IntKind.u32 0, Value.int IntKind.u32 0, Value.bool false, Value.slice none 0 0] 33)).drew A4 c4 4 ((xs.take 11).drop 7) (nuR xs) (by simp; omega) rfl hx7a ((hby.take _).drop _); (with_reducible refine C.mono ?_); clear C; rintro e W4 ⟨rfl, rfl⟩))
                    all_goals generalize eW5 : (W.alloc (Obj.cells #[Value.int IntKind.u32 (epR xs), Value.int IntKind.u32 (nuR xs), Value.bool (rd xs 2 == 1), Value.slice A5 n c5] 33)).drew = W5 at *
                    all_goals
                      have hP : Blk W5 W.heap.size #[.int .u32 (epR xs), .int .u32 (nuR xs), .bool (rd xs 2 == 1), .slice A5 n c5] 33 := by rw [← eW5]; exact (Blk.new _ _ _).drew
                      have hr5 : Blk W5 w.heap.size z4 33 := by rw [← eW5]; exact (hr1.alloc _).drew
                      have hb5 : Below W.heap.size W W5 := by rw [← eW5]; exact (below_alloc (Below.refl _ _) _).drew
                      clear eW5 hx3 hx7 hx3a hx7a hcut3 hcut4 hcut5 hx13
                    all_goals
                      have hb35 : Below w.heap.size w W5 := below_then hw1 hw1.size hb5
                      have hx5 := Kd.C_below hx hb35
                      have hx13 := HC5 W5 hx5
                      have hpl : Hid (plR xs = (xs.take (13 + n)).drop 13) := Lib.hid (by unfold plR; rw [HNN.out])
                      have hpln : (plR xs).length = n := by rw [hpl.out]; simp; omega
                      rw [← hpl.out] at hx13
                      have hplb : Bytes (plR xs) := by rw [hpl.out]; exact (hby.take _).drop _
                      have heb := valN_bd ((xs.take 7).drop 3) ((hby.take _).drop _)
                      have hnb := valN_bd ((xs.take 11).drop 7) ((hby.take _).drop _)
                      have HPL := Lib.hid hpln
                      clear hpln HC5
                      go_wp2_with (first | (refine get_row rfl 33 (.tmp 6) rfl W.heap.size rfl 33 _ _ hP Try.underlying33 rfl inf33 ?_) | (go_at_call 9; have C := refBytes_at W5 (epR xs) (nuR xs) (rd xs 2 == 1) A5 c5 n (plR xs) HPL.out heb hnb hx13 hplb (by rw [HPL.out]; omega); (with_reducible refine C.mono ?_); clear C; rintro e W6 ⟨v6, rfl, hO6, hb6⟩; obtain ⟨al, hal⟩ : ∃ al, al = pkR (epR xs) (nuR xs) (rd xs 2 == 1) (plR xs) := ⟨_, rfl⟩; rw [← hal] at hO6; have HAL := Lib.hid hal; clear hal))
                      have hall : al.length = 17 + n := by rw [HAL.out, pkR_length, HPL.out]
                      obtain ⟨g6, c6, rfl, hg6, hg6'⟩ := hO6.form (by omega)
                      have hP6 := hP.below hb6
                      have hr6 := hr5.below hb6
                      have hx6 := Kd.C_below hx5 hb6
                      have hb36 := below_then hb35 hb35.size hb6
                      have hx136 := Kd.C_below hx13 hb6
                      have HAL2 := Lib.hid hall
                      have hall1 : (al.length : Int) ≤ 617 := by omega
                      have hall2 : 17 + (n : Int) ≤ al.length := by omega
                      clear hall hP hr5 hx5 hx13 hc0 hc1 hc2
                      have hO6' : W6.ownsRow W5.heap.size 5 1 (.slice (some ⟨g6, 0, none⟩) al.length c6) al.length (nums .u8 al) := hO6
                      go_loopw [8] (fun i wr => ∃ k m : Nat, wr = W6.drewN m ∧ k ≤ 17 + n ∧ i = .int .i64 k ∧ Hid (∀ j : Nat, j < k → rd al j = rd xs j)) (fun i _ => 17 + n - (intOf i).toNat)
                      case atStart => exact ⟨0, 0, rfl, Nat.zero_le _, rfl, Lib.hid (by intro j hj; omega)⟩
                      case round =>
                        obtain ⟨k, m, rfl, hk, rfl, heq⟩ := hrel
                        by_cases hlt : k < 17 + n
                        · obtain ⟨hca, _⟩ := own_at hO6' (k : Int) (by omega) (by omega)
                          obtain ⟨ad', e, hcb⟩ := at_u8 hx6 k (by omega)
                          cases e
                          replace hca : W6.cell? ⟨g6, k, none⟩ = some (.int .u8 (rd al k)) := hca
                          have hkl : (k : Int) < (al.length : Int) := by omega
                          have hkx : (k : Int) < (xs.length : Int) := by omega
                          generalize ha : rd al k = a at *
                          generalize hbb : rd xs k = b at *
                          have HA := Lib.hid ha
                          have HBB := Lib.hid hbb
                          clear ha hbb
                          by_cases hab : a = b
                          · have hab1 : (a != b) = false := by simp [hab]
                            go_wp2_with fail
                            go_quiet (fail)
                            go_wp2
                            go_roundw
                            case rel => exact ⟨k + 1, _, rfl, by omega, by go_num, Lib.hid (by
                              intro j hj
                              rcases Nat.lt_or_ge j k with h | h
                              · exact heq.out j h
                              · obtain rfl : j = k := by omega
                                rw [HA.out, HBB.out, hab])⟩
                            case measure => simp [intOf]; omega
                          · have hab1 : (a != b) = true := bne_iff_ne.2 hab
                            go_wp2_with fail
                            go_quiet (fail)
                            go_wp2_with (first | (refine put_row rfl 33 (.tmp 2) (.tmp 90) rfl w.heap.size z4 rfl rfl 33 z4 hr6 inf33 rfl z4_one ?_; intro W2 hr2 hf2))
                            have hb62 : Below w.heap.size w W2 := (pw_below_drewN hb36 _).trans (hf2.below (fun k hk => by rw [hk]; exact Nat.le_refl _) hb36.size)
                            refine bodyPost_ret (results_ctt rfl _ _ w.heap.size 33 z4 (0, 0) _ rfl hr2 Try.underlying33 rfl inf33) rfl (rpost_err (by
                              have hne := ne_take (n := 17 + n) (k := k) (al := al) (xs := xs) (by omega) hlt (by rw [HA.out, HBB.out]; exact hab)
                              have h1 := HNN.out; have hg := hgood.out
                              rw [HAL.out] at hne
                              simp only [rprs, hg, h1]
                              simp [h13, h600, hsh, hne]) (by omega) hb62)
                        · obtain rfl : k = 17 + n := by omega
                          have hrp : rprs xs = 0 := by
                            have he := eq_take (n := 17 + n) HAL2.out (by omega) heq.out
                            have h1 := HNN.out; have hg := hgood.out
                            rw [HAL.out] at he
                            simp only [rprs, hg, h1]
                            simp [h13, h600, hsh, he]
                          have HRP := Lib.hid hrp
                          clear hrp heq hlt
                          go_wp2_with (first | (refine get_row rfl 33 (.tmp 6) rfl W.heap.size rfl 33 _ _ (hP6.drewN m) Try.underlying33 rfl inf33 ?_) | (refine put_row rfl 33 (.tmp 2) (.tmp 91) rfl w.heap.size #[.int .u32 (epR xs), .int .u32 (nuR xs), .bool (rd xs 2 == 1), .slice A5 n c5] rfl rfl 33 z4 (hr6.drewN m) inf33 rfl (by simp [Value.oneCell']) ?_; intro W2 hr2 hf2))
                          have hb62 : Below w.heap.size w W2 := (pw_below_drewN hb36 _).trans (hf2.below (fun k hk => by rw [hk]; exact Nat.le_refl _) hb36.size)
                          refine bodyPost_ret (results_ctt rfl _ _ w.heap.size 33 _ (0, 0) _ rfl hr2 Try.underlying33 rfl inf33) rfl ⟨fun h => absurd HRP.out h, fun _ => ⟨A5, c5, ?_, by rw [HPL.out]; exact hc5, ?_⟩, hb62⟩
                          · rw [HPL.out, HNN.out]
                            rfl
                          · intro W hW
                            rw [hpl.out]
                            exact HC6 W hW
        · have hq1' : (rd xs 1 != 66) = true := bne_iff_ne.2 hq1
          clear hq0
          go_wp2_with (first | (refine put_row rfl 33 (.tmp 2) (.tmp 40) rfl w.heap.size z4 rfl rfl 33 z4 hr1 inf33 rfl z4_one ?_; intro W2 hr2 hf2))
          refine bodyPost_ret (results_ctt rfl _ _ w.heap.size 33 z4 (0, 0) _ rfl hr2 Try.underlying33 rfl inf33) rfl (rpost_err (rprs_bad (bad_of xs 1 (by omega) (by omega) (bad1 hq1))) (by omega) ?_)
          exact hw1.trans (hf2.below (fun k hk => by rw [hk]; exact Nat.le_refl _) hw1.size)
    · have hq0' : (rd xs 0 != 83) = true := bne_iff_ne.2 hq0
      go_wp2_with (first | (refine put_row rfl 33 (.tmp 2) (.tmp 40) rfl w.heap.size z4 rfl rfl 33 z4 hr1 inf33 rfl z4_one ?_; intro W2 hr2 hf2))
      refine bodyPost_ret (results_ctt rfl _ _ w.heap.size 33 z4 (0, 0) _ rfl hr2 Try.underlying33 rfl inf33) rfl (rpost_err (rprs_bad (bad_of xs 0 (by omega) (by omega) (bad0 hq0))) (by omega) ?_)
      exact hw1.trans (hf2.below (fun k hk => by rw [hk]; exact Nat.le_refl _) hw1.size)

end Go.Proofs.Ytapiimahhkfjnaa
