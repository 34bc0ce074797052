/- What was made of a packet is parsed to it. -/
import Derived.Test.YtapiimahhkfjnaaR
namespace Go.Proofs.Ytapiimahhkfjnaa
open Go.RowKit Go.Proofs.YtapiimahhkfjnaaW.PrintWords Go.Sb

theorem mid_of {xs a b c : List Int} (h : xs = a ++ b ++ c) (i j : Nat) (hi : a.length = i) (hj : i + b.length = j) : (xs.take j).drop i = b := by
  subst h hi hj
  rw [List.append_assoc, List.take_length_add_append, List.drop_left, List.take_left]
theorem rd_app {a b : List Int} (k : Nat) (h : k < a.length) : rd (a ++ b) k = rd a k := by
  simp [rd, List.getD_eq_getElem?_getD, List.getElem?_append, h]
section
variable {ep nu : Int} {wh : Bool} {pl more : List Int} (he : 0 ≤ ep ∧ ep ≤ 4294967295) (hn : 0 ≤ nu ∧ nu ≤ 4294967295) (hp : Bytes pl) (hm : Bytes more) (hl : pl.length ≤ 600)
include he hn hp hm hl
theorem pk_parses : prs (pk ep nu wh pl ++ more) = 0 ∧ epOf (pk ep nu wh pl ++ more) = ep ∧ nuOf (pk ep nu wh pl ++ more) = nu ∧ (rd (pk ep nu wh pl ++ more) 2 == 1) = wh ∧
    plOf (pk ep nu wh pl ++ more) = pl ∧ nOf (pk ep nu wh pl ++ more) = pl.length := by
  have hb0 : Bytes (pk0 ep nu wh pl) := ((((b01_bytes wh).append (le_bytes _ _)).append (le_bytes _ _)).append (le_bytes _ _)).append hp
  have hlen0 : (pk0 ep nu wh pl).length = 13 + pl.length := pk0_length _ _ _ _
  have hc := u32_lo .xor IntKind.u32.max (crcL (bits .xor .u32 IntKind.u32.max 0) (pk0 ep nu wh pl))
  have hc2 := u32_hi .xor IntKind.u32.max (crcL (bits .xor .u32 IntKind.u32.max 0) (pk0 ep nu wh pl))
  have hC : 0 ≤ crcW 0 (pk0 ep nu wh pl) ∧ crcW 0 (pk0 ep nu wh pl) ≤ 4294967295 := ⟨hc, hc2⟩
  obtain ⟨cr, hcr⟩ : ∃ cr, cr = crcW 0 (pk0 ep nu wh pl) := ⟨_, rfl⟩
  rw [← hcr] at hC
  have hxs : pk ep nu wh pl ++ more = pk0 ep nu wh pl ++ le cr 4 ++ more := by unfold pk; rw [hcr]
  have hby : Bytes (pk ep nu wh pl ++ more) := by rw [hxs]; exact (hb0.append (le_bytes _ _)).append hm
  have hlen : (pk ep nu wh pl ++ more).length = 17 + pl.length + more.length := by rw [hxs]; simp [hlen0, le_length]; omega
  have h3 : pk ep nu wh pl ++ more = [83, 66, b01 wh] ++ (le ep 4 ++ le nu 4 ++ le pl.length 2 ++ pl ++ le cr 4 ++ more) := by rw [hxs]; simp [pk0]
  obtain ⟨xs, hx⟩ : ∃ xs, xs = pk ep nu wh pl ++ more := ⟨_, rfl⟩
  rw [← hx] at hby hlen h3 hxs ⊢
  have e7 : (xs.take 7).drop 3 = le ep 4 := mid_of (a := [83, 66, b01 wh]) (c := le nu 4 ++ le pl.length 2 ++ pl ++ le cr 4 ++ more) (by rw [h3]; simp) 3 7 rfl (by rw [le_length])
  have e11 : (xs.take 11).drop 7 = le nu 4 := mid_of (a := [83, 66, b01 wh] ++ le ep 4) (c := le pl.length 2 ++ pl ++ le cr 4 ++ more) (by rw [h3]; simp) 7 11 (by simp [le_length]) (by rw [le_length])
  have e13 : (xs.take 13).drop 11 = le pl.length 2 := mid_of (a := [83, 66, b01 wh] ++ le ep 4 ++ le nu 4) (c := pl ++ le cr 4 ++ more) (by rw [h3]; simp) 11 13 (by simp [le_length]) (by rw [le_length])
  have hN : nOf xs = pl.length := by
    rw [nOf_eq hby]
    unfold nR
    rw [e13, val_le _ 2 (by omega) (by omega) (by omega)]
    simp
  have epl : plOf xs = pl := by
    unfold plOf
    rw [hN]
    exact mid_of (a := [83, 66, b01 wh] ++ le ep 4 ++ le nu 4 ++ le pl.length 2) (c := le cr 4 ++ more) (by rw [h3]; simp) 13 (13 + pl.length) (by simp [le_length]) rfl
  have e17 : (xs.take (17 + pl.length)).drop (13 + pl.length) = le cr 4 := mid_of (a := pk0 ep nu wh pl) (c := more) hxs (13 + pl.length) (17 + pl.length) hlen0 (by rw [le_length]; omega)
  have e0 : xs.take (13 + pl.length) = pk0 ep nu wh pl := by
    have := mid_of (xs := xs) (a := []) (b := pk0 ep nu wh pl) (c := le cr 4 ++ more) (by rw [hxs]; simp) 0 (13 + pl.length) rfl (by rw [hlen0]; omega)
    simpa using this
  have r0 : rd xs 0 = 83 := by rw [h3]; rfl
  have r1 : rd xs 1 = 66 := by rw [h3]; rfl
  have r2 : rd xs 2 = b01 wh := by rw [h3]; rfl
  have hg : isBad xs = false := by
    have : ¬ 1 < b01 wh := by cases wh <;> decide
    simp [isBad, badAt, r0, r1, r2, this]
  refine ⟨?_, ?_, ?_, ?_, epl, hN⟩
  · unfold prs
    rw [hN, if_neg (by simp [hg]), if_neg (by omega), if_neg (by omega), if_neg (by omega), e0, e17, getN_val _ (le_bytes _ _), val_le cr 4 hC.1 (by omega) (by omega), ← hcr, if_pos rfl]
  · unfold epOf; rw [e7, getN_val _ (le_bytes _ _), val_le ep 4 he.1 (by omega) (by omega)]
  · unfold nuOf; rw [e11, getN_val _ (le_bytes _ _), val_le nu 4 hn.1 (by omega) (by omega)]
  · rw [r2]; cases wh <;> decide
end
theorem pk_length (ep nu : Int) (wh : Bool) (xs : List Int) : (pk ep nu wh xs).length = 17 + xs.length := by simp [pk, le_length, pk0_length]; omega
theorem pk_bytes (ep nu : Int) (wh : Bool) {xs : List Int} (h : Bytes xs) : Bytes (pk ep nu wh xs) :=
  (((((b01_bytes wh).append (le_bytes _ _)).append (le_bytes _ _)).append (le_bytes _ _)).append h).append (le_bytes _ _)
theorem pk_ref (ep nu : Int) (wh : Bool) {xs : List Int} (h : Bytes xs) : pk ep nu wh xs = pkR ep nu wh xs := by
  have hb0 : Bytes (pk0 ep nu wh xs) := ((((b01_bytes wh).append (le_bytes _ _)).append (le_bytes _ _)).append (le_bytes _ _)).append h
  unfold pk pkR
  rw [sum_same _ hb0]
theorem bytes_at (w : World) (ep nu : Int) (wh : Bool) (A : Option Addr) (cap n : Nat) (xs ps : List Int) (hn' : xs.length = n) (he : 0 ≤ ep ∧ ep ≤ 4294967295) (hn : 0 ≤ nu ∧ nu ≤ 4294967295)
    (hx : Kd.C (Kd.int .u8) w A xs.length xs) (hby : Bytes xs) (hl : xs.length ≤ 600) (hp : ps = pk ep nu wh xs) :
    Calls Try.prog 7 #[.agg #[.int .u32 ep, .int .u32 nu, .bool wh, .slice A n cap]] w fun e w' => ∃ A' c', e = .returned (.tuple #[.slice A' (17 + n) c', .int .i64 0]) ∧ 17 + n ≤ c' ∧
      w'.ownsRow w.heap.size 5 1 (.slice A' (17 + n) c') ps.length (nums .u8 ps) ∧ Kd.C (Kd.int .u8) w' A' ps.length ps ∧ ps.length = 17 + n ∧ Bytes ps ∧ Below w.heap.size w w' := by
  subst hn' hp
  refine (bytes_any w ep nu wh A cap xs he hn hx hby hl).mono ?_
  rintro e w' ⟨v', rfl, hO, hb⟩
  obtain ⟨A', c', rfl, hR⟩ := own_reads hO
  have hle := own_le hO
  have hl := pk_length ep nu wh xs
  rw [hl] at hle
  refine ⟨A', c', by rw [hl], hle, ?_, Kd.C_of_reads (d := (0 : Int)) hR, hl, pk_bytes ep nu wh hby, hb⟩
  rw [hl] at hO ⊢
  exact hO
theorem parse_at (w : World) (A : Option Addr) (cap n : Nat) (xs : List Int) (hn : xs.length = n) (hx : Kd.C (Kd.int .u8) w A xs.length xs) (hby : Bytes xs) (hlen : n ≤ 1000000) (hcap : n ≤ cap) :
    Calls Try.prog 8 #[.slice A n cap] w (ParsePost xs w) := by
  subst hn
  exact parse_any w A cap xs hx hby hlen hcap

/-- what is parsed, with nothing where it is no packet -/
def pE (xs : List Int) : Int := if prs xs = 0 then epOf xs else 0
def pN (xs : List Int) : Int := if prs xs = 0 then nuOf xs else 0
def pW (xs : List Int) : Bool := if prs xs = 0 then rd xs 2 == 1 else false
def pP (xs : List Int) : List Int := if prs xs = 0 then plOf xs else []
def pL (xs : List Int) : Nat := if prs xs = 0 then 17 + nOf xs else 0
theorem pP_bytes {xs : List Int} (h : Bytes xs) : Bytes (pP xs) := by
  unfold pP
  split
  · exact (h.take _).drop _
  · exact Bytes.nil
theorem pE_bd (xs : List Int) : 0 ≤ pE xs ∧ pE xs ≤ 4294967295 := by unfold pE; split; exact getN_bd _; omega
theorem pN_bd (xs : List Int) : 0 ≤ pN xs ∧ pN xs ≤ 4294967295 := by unfold pN; split; exact getN_bd _; omega
theorem parse_to (w : World) (A : Option Addr) (cap n : Nat) (xs : List Int) (hn : xs.length = n) (hx : Kd.C (Kd.int .u8) w A xs.length xs) (hby : Bytes xs) (hlen : n ≤ 1000000) (hcap : n ≤ cap) :
    Calls Try.prog 8 #[.slice A n cap] w fun e w' => ∃ A' c', e = .returned (.tuple #[.agg #[.int .u32 (pE xs), .int .u32 (pN xs), .bool (pW xs), .slice A' (pP xs).length c'], .int .i64 (pL xs), .int .i64 (prs xs)]) ∧
      w'.ownsRow w.heap.size 5 1 (.slice A' (pP xs).length c') (pP xs).length (nums .u8 (pP xs)) ∧ Below w.heap.size w w' := by
  refine (parse_at w A cap n xs hn hx hby hlen hcap).mono ?_
  rintro e w' ⟨h1, h2, hb⟩
  by_cases h : prs xs = 0
  · obtain ⟨v', rfl, hO⟩ := h2 h
    obtain ⟨A', c', rfl⟩ := own_slice hO
    refine ⟨A', c', ?_, ?_, hb⟩
    · simp only [pE, pN, pW, pP, pL, if_pos h, h, if_true]
    · simp only [pP, if_pos h]; exact hO
  · refine ⟨none, 0, ?_, ?_, hb⟩
    · rw [h1 h]; simp only [pE, pN, pW, pP, pL, if_neg h]; rfl
    · simp only [pP, if_neg h]; exact own_nil _ _ _ _
theorem refParse_to (w : World) (A : Option Addr) (cap n : Nat) (xs : List Int) (hn : xs.length = n) (hx : Kd.C (Kd.int .u8) w A xs.length xs) (hby : Bytes xs) (hlen : n ≤ 1000000) (hcap : n ≤ cap) :
    Calls Try.prog 12 #[.slice A n cap] w fun e w' => ∃ A' c', e = .returned (.tuple #[.agg #[.int .u32 (pE xs), .int .u32 (pN xs), .bool (pW xs), .slice A' (pP xs).length c'], .int .i64 (pL xs), .int .i64 (prs xs)]) ∧
      (∀ W : World, Kd.C (Kd.int .u8) W A xs.length xs → Kd.C (Kd.int .u8) W A' (pP xs).length (pP xs)) ∧ Below w.heap.size w w' := by
  subst hn
  refine (refParse_any w A cap xs hx hby hlen hcap).mono ?_
  rintro e w' ⟨h1, h2, hb⟩
  have hs := prs_same hby
  by_cases h : prs xs = 0
  · obtain ⟨A', c', rfl, _, hC⟩ := h2 (hs ▸ h)
    refine ⟨A', c', ?_, ?_, hb⟩
    · simp only [pE, pN, pW, pP, pL, if_pos h, h, if_true, epOf_eq hby, nuOf_eq hby, plOf_eq hby, nOf_eq hby]
    · simp only [pP, if_pos h, plOf_eq hby]; exact hC
  · refine ⟨none, 0, ?_, fun W _ => ?_, hb⟩
    · rw [h1 (hs ▸ h), hs]; rw [hs] at h; simp only [pE, pN, pW, pP, pL, hs, if_neg h]; rfl
    · simp only [pP, if_neg h]; exact Kd.C_nil _ _

set_option maxHeartbeats 1000000 in
theorem lives_any (w : World) : Calls Try.prog 6 #[] w fun e w' => e = .returned (.bool true) ∧ Below w.heap.size w w' := by
  obtain ⟨ps, hps⟩ : ∃ ps, ps = pk 7 0 false [] := ⟨_, rfl⟩
  obtain ⟨p1, p2, p3, p4, p5, p6⟩ := pk_parses (ep := 7) (nu := 0) (wh := false) (pl := []) (more := []) (by omega) (by omega) Bytes.nil Bytes.nil (by simp)
  simp only [List.append_nil, ← hps] at p1 p2 p3 p4 p5 p6
  have PS := Lib.hid hps
  clear hps
  go_enter Try.func6, Try.ntmps6
  go_wp2_with (first
    | (go_at_call 7; have C := bytes_at w 7 0 false none 0 0 [] ps rfl (by omega) (by omega) (Kd.C_nil _ _) Bytes.nil (by simp) PS.out; (with_reducible refine C.mono ?_); clear C; rintro e w1 ⟨A1, c1, rfl, hc1, hO1, hC1, hl1, hy1, hb1⟩)
    | (go_at_call 8; have C := parse_at w1 A1 c1 17 ps hl1 hC1 hy1 (by omega) hc1; (with_reducible refine C.mono ?_); clear C; rintro e w2 ⟨_, hz, hb2⟩; obtain ⟨v2, rfl, hO2⟩ := hz p1; obtain ⟨A2, c2, rfl⟩ := own_slice hO2; rw [p2, p3, p4, p5, p6]))
  go_ret
  have h12 := below_then hb1 hb1.size hb2
  exact ⟨rfl, h12.alloc h12.size _⟩

end Go.Proofs.Ytapiimahhkfjnaa
