/- The law on bytes that come in pieces. -/
import Derived.Test.YtapiimahhkfjnaaFD
namespace Go.Proofs.Ytapiimahhkfjnaa
open Go.RowKit Go.Proofs.YtapiimahhkfjnaaW.PrintWords Go.Proofs.YtapiimahhkfjnaaW.PrintMore Go.Sb
attribute [local go_sem] max2_int min2_int max_two min_two

/-- a reader that is fed so many bytes -/
theorem feed_at (w : World) (g base n : Nat) (v : Value) (lost : Nat) (rest b : List Int) (A : Option Addr) (cap : Nat) (hn : b.length = n) (hg : Blk w g #[v, .int .i64 lost] 41) (hv : w.ownsRow base 5 1 v rest.length (nums .u8 rest))
    (hbase : base ≤ w.heap.size) (hb : Kd.C (Kd.int .u8) w A b.length b) (hyr : Bytes rest) (hyb : Bytes b) (hl : rest.length + b.length ≤ 100000) (hlost : lost ≤ 1000000) :
    Calls Try.prog 13 #[.pointer (some ⟨g, 0, none⟩), .slice A n cap] w fun e w' => ∃ (A' : Option Addr) (c' : Nat) (A2 : Option Addr) (c2 : Nat) (ms : List MP) (l : Nat) (r : List Int) (M : Nat), e = .returned (.slice A' ms.length c') ∧ ReadsRow PR 4 w' A' ms.length ms ∧
      OwnRow PR 25 4 w' w.heap.size (.slice A' ms.length c') ms ∧ Blk w' g #[.slice A2 r.length c2, .int .i64 (lost + l : Nat)] 41 ∧ w'.ownsRow M 5 1 (.slice A2 r.length c2) r.length (nums .u8 r) ∧ Run (rest ++ b) (ms.map (·.p)) l r ∧ prs r = 2 ∧
      (∀ m ∈ ms, Good w' w.heap.size M m) ∧ w.heap.size ≤ M ∧ M ≤ w'.heap.size ∧ Fr (fun k => k = g ∨ v.ownBlock = some k) w w' ∧ ms.length + l + r.length ≤ rest.length + n := by
  subst hn
  refine (feed_any w g base v lost rest b A cap hg hv hbase hb hyr hyb hl hlost).mono ?_
  rintro e w' ⟨v', v2, ms, l, r, M, rfl, hrow, hblk, hown, hrun, h2, hgood, hlo, hhi, hf⟩
  obtain ⟨A', c', rfl, hle, hR⟩ := hrow.reads
  obtain ⟨A2, c2, rfl⟩ := own_slice hown
  have h3 := hrun.len.2
  rw [List.length_map, List.length_append] at h3
  exact ⟨A', c', A2, c2, ms, l, r, M, rfl, hR, hrow, hblk, hown, hrun, h2, hgood, hlo, hhi, hf, h3⟩
theorem all_at (w : World) (A : Option Addr) (cap n : Nat) (zs : List Int) (hn : zs.length = n) (hx : Kd.C (Kd.int .u8) w A zs.length zs) (hby : Bytes zs) (hlen : n ≤ 100000) (hcap : n ≤ cap) {ms0 : List Pk} {l0 : Nat} {r0 : List Int} (h0 : Run zs ms0 l0 r0) (h2 : prs r0 = 2) :
    Calls Try.prog 14 #[.slice A n cap] w fun e w' => ∃ (A' : Option Addr) (c' : Nat) (ms : List MP), e = .returned (.tuple #[.slice A' ms.length c', .int .i64 l0, .int .i64 r0.length]) ∧
      ReadsRow PR 4 w' A' ms.length ms ∧ ms.map (·.p) = ms0 ∧ (∀ m ∈ ms, Among A zs m) ∧ Below w.heap.size w w' := by
  subst hn
  refine (all_any w A cap zs hx hby hlen hcap).mono ?_
  rintro e w' ⟨v', ms, l, r, rfl, hrow, hrun, h2', ham, hb⟩
  obtain ⟨rfl, rfl, rfl⟩ := hrun.only h0 h2' h2
  obtain ⟨A', c', rfl, hle, hR⟩ := hrow.reads
  exact ⟨A', c', ms, rfl, hR, rfl, ham, hb⟩
theorem cellj {W : World} {ad : Addr} {n j : Nat} {u : Value} (h : W.cell? (ad.add (n + (j + 1))) = some u) : W.cell? ⟨(ad.add n).block, (ad.add n).off + (j + 1), none⟩ = some u := by
  rw [← Addr.add_add, Addr.add_succ'] at h
  exact h
/-- two packets' cells, where the walk reckons them -/
theorem rows4 {W : World} {ad ad9 : Addr} {k c c9 : Nat} {p : Pk} {Am A9 : Option Addr} (h : ∀ (i : Nat) (u : Value), (cellsOf ⟨p, Am, c⟩)[i]? = some u → W.cell? (ad.add (k * 4 + i)) = some u)
    (h9 : ∀ (i : Nat) (u : Value), (cellsOf ⟨p, A9, c9⟩)[i]? = some u → W.cell? (ad9.add (k * 4 + i)) = some u) :
    W.cell? (ad.add (k * 4)) = some (.int .u32 p.ep) ∧ W.cell? ⟨(ad.add (k * 4)).block, (ad.add (k * 4)).off + 1, none⟩ = some (.int .u32 p.nu) ∧ W.cell? ⟨(ad.add (k * 4)).block, (ad.add (k * 4)).off + 2, none⟩ = some (.bool p.wh) ∧
    W.cell? ⟨(ad.add (k * 4)).block, (ad.add (k * 4)).off + 3, none⟩ = some (.slice Am p.pl.length c) ∧
    W.cell? (ad9.add (k * 4)) = some (.int .u32 p.ep) ∧ W.cell? ⟨(ad9.add (k * 4)).block, (ad9.add (k * 4)).off + 1, none⟩ = some (.int .u32 p.nu) ∧ W.cell? ⟨(ad9.add (k * 4)).block, (ad9.add (k * 4)).off + 2, none⟩ = some (.bool p.wh) ∧
    W.cell? ⟨(ad9.add (k * 4)).block, (ad9.add (k * 4)).off + 3, none⟩ = some (.slice A9 p.pl.length c9) :=
  ⟨h 0 _ rfl, cellj (h 1 _ rfl), cellj (h 2 _ rfl), cellj (h 3 _ rfl), h9 0 _ rfl, cellj (h9 1 _ rfl), cellj (h9 2 _ rfl), cellj (h9 3 _ rfl)⟩
set_option maxHeartbeats 2000000 in
theorem feeds_long (w : World) (A B : Option Addr) (len cap m c : Nat) (h : 3000 < len) :
    Calls Try.prog 5 #[.slice A len cap, .slice B m c] w fun e w' => e = .returned (.bool true) ∧ Below w.heap.size w w' := by
  go_enter Try.func5, Try.ntmps5
  go_wp2_with (first
    | (go_at_call 6; have C := lives_any w; (with_reducible refine C.mono ?_); clear C; rintro e w1 ⟨rfl, hb1⟩)
    | (go_at_call 6; have C := lives_any w1; (with_reducible refine C.mono ?_); clear C; rintro e w2 ⟨rfl, hb2⟩))
  go_ret
  exact ⟨rfl, below_then hb1 hb1.size hb2⟩
set_option maxHeartbeats 2000000 in
theorem feeds_many (w : World) (A B : Option Addr) (len cap m c : Nat) (h : len ≤ 3000) (hm : 100 < m) :
    Calls Try.prog 5 #[.slice A len cap, .slice B m c] w fun e w' => e = .returned (.bool true) ∧ Below w.heap.size w w' := by
  go_enter Try.func5, Try.ntmps5
  go_wp2_with (first
    | (go_at_call 6; have C := lives_any w; (with_reducible refine C.mono ?_); clear C; rintro e w1 ⟨rfl, hb1⟩)
    | (go_at_call 6; have C := lives_any w1; (with_reducible refine C.mono ?_); clear C; rintro e w2 ⟨rfl, hb2⟩))
  go_ret
  exact ⟨rfl, below_then hb1 hb1.size hb2⟩
set_option maxHeartbeats 8000000 in
set_option maxRecDepth 8000 in
theorem feeds_any (w : World) (A B : Option Addr) (cap c : Nat) (b qs : List Int) (hx : Kd.C (Kd.int .u8) w A b.length b) (hby : Bytes b) (hcap : b.length ≤ cap) (hl : b.length ≤ 3000)
    (hq : Kd.C (Kd.int .u8) w B qs.length qs) (hqy : Bytes qs) (hql : qs.length ≤ 100) :
    Calls Try.prog 5 #[.slice A b.length cap, .slice B qs.length c] w fun e w' => e = .returned (.bool true) ∧ Below w.heap.size w w' := by
  obtain ⟨i0, hi, hz0, hz1, hz2⟩ := info_parts info5
  clear hz0 hz2
  go_enter Try.func5, Try.ntmps5
  go_wp2_with (first
    | (go_at_call 6; have C := lives_any w; (with_reducible refine C.mono ?_); clear C; rintro e w1 ⟨rfl, hb1⟩))
  refine abs_code (fun W eW => ?_)
  obtain ⟨g, hg⟩ : ∃ g, g = w1.heap.size := ⟨_, rfl⟩
  have hB : Blk W g #[.slice none 0 0, .int .i64 0] 41 := by rw [eW, hg]; exact Blk.new _ _ _
  have hbW : Below w.heap.size w W := by rw [eW]; exact hb1.alloc hb1.size _
  have hgw : w.heap.size ≤ g := by rw [hg]; exact hb1.size
  have hI0 : LInv w g b (.slice none 0 0) 0 W [] 0 [] W.heap.size (.slice none 0 0) :=
    ⟨OwnRow.none_ _ _ _ _ _, hB, own_nil _ _ _ _, by rw [List.take_zero]; exact .nil _, prs_nil, fun m hm => by simp at hm, hbW.size, Nat.le_refl _, hbW, Nat.zero_le _⟩
  rw [← hg]
  clear eW hB hbW hb1 hg
  go_loopw [6, 7, 34] (fun vg va vi wr => ∃ (k at_ l M : Nat) (ms : List MP) (r : List Int) (v : Value), va = .int .i64 at_ ∧ vi = .int .i64 k ∧ k ≤ qs.length ∧ LInv w g b vg at_ wr ms l r M v) (fun _ _ vi _ => qs.length - (intOf vi).toNat)
  case atStart => exact ⟨0, 0, 0, W.heap.size, [], [], .slice none 0 0, rfl, rfl, Nat.zero_le _, hI0⟩
  case round =>
    obtain ⟨k, at_, l, M, ms, r, v, rfl, rfl, hk, hI⟩ := hrel
    by_cases hlt : k < qs.length
    · have hlt' : (k : Int) < qs.length := by omega
      obtain ⟨ad, rfl, hcell⟩ := at_u8 (Kd.C_below hq hI.bel) k hlt
      obtain ⟨hx0, hx1⟩ := rd_bytes hqy k
      generalize rd qs k = x at *
      have hat := hI.le
      obtain ⟨d, hd⟩ : ∃ d : Nat, (b.length : Int) - at_ = d := ⟨b.length - at_, by omega⟩
      obtain ⟨n, hif, hnd⟩ : ∃ n : Nat, (if (d : Int) < x then (d : Int) else x) = n ∧ n ≤ d := by
        by_cases h : (d : Int) < x
        · exact ⟨d, by rw [if_pos h], Nat.le_refl _⟩
        · exact ⟨x.toNat, by rw [if_neg h]; omega, by omega⟩
      have hn : at_ + n ≤ b.length := by omega
      obtain ⟨A6, c6, hc6, hcut6, hC6⟩ := cutB 23 5 Try.underlying23 hi hz1 .i64 .i64 A b.length cap (at_ : Int) ((at_ : Int) + n) at_ (at_ + n) n rfl (by omega) (by omega) (by omega) hn hcap
      obtain ⟨hcut7, hC7⟩ := cutB_to 23 5 Try.underlying23 hi .i64 A b.length cap ((at_ : Int) + n) (at_ + n) (by omega) hn hcap
      have hlen6 : ((b.take (at_ + n)).drop at_).length = n := by simp; omega
      have hlen7 : (b.take (at_ + n)).length = at_ + n := by simp; omega
      have hxr := Kd.C_below hx hI.bel
      have hm1 := hI.run.len.2
      rw [List.length_map, List.length_take] at hm1
      have hry := hI.run.bytes (hby.take _)
      go_wp2_with (first
        | (go_at_call 13; have C := feed_at wr g M n v l r _ A6 c6 hlen6 hI.blk hI.own hI.high (hC6 _ _ _ rfl hxr) hry ((hby.take _).drop _) (by omega) (by omega); (with_reducible refine C.mono ?_); clear C; rintro e w2 ⟨A7, c7, A8, c8, ms', l', r', M', rfl, hR2, hrow2, hblk2, hown2, hrun2, hsh2, hgood2, hlo2, hhi2, hf2, hm2⟩
           have hb2 : Below w.heap.size w w2 := hI.bel.trans (hf2.below (fun k hk => by rcases hk with rfl | hk; exact hgw; exact Nat.le_trans hI.low (own_base hI.own k hk)) hI.bel.size); clear hif hd)
        | (at_builtin; refine append_rows (w0 := w) (W := w2) w.heap.size rfl (.tmp 45) (.tmp 52) 42 25 zeroP 40 rfl Try.underlying42 info25 rfl (by omega) _ ms ms' A7 ms'.length c7 rfl rfl (hI.fed (S := NoB) hf2) hR2 hb2 hb2.size (by omega) ?_; intro v3 w3 hrow3 hb3 hg3; have hI3 := hI.step hgw hn hrow2 hblk2 hown2 hrun2 hsh2 hgood2 hlo2 hhi2 hf2 hrow3 hg3)
        | (go_at_call 14; have C := all_at w3 A cap (at_ + n) _ hlen7 (hC7 _ _ _ rfl (Kd.C_below hx hI3.bel)) (hby.take _) (by omega) (by omega) hI3.run hsh2; (with_reducible refine C.mono ?_); clear C; rintro e w4 ⟨A9, c9, ms9, rfl, _, _, _, hb4⟩; have hI4 := hI3.below hb4; have h617 := prs_short hsh2; have h617' : (r'.length : Int) < 617 := by omega)
        | (go_at_call 15; have C := lost_any w4 g _ _ hI4.blk; (with_reducible refine C.mono ?_); clear C; rintro e _ ⟨rfl, rfl⟩)
        | (go_at_call 16; have C := left_any w4 g A8 r'.length c8 _ hI4.blk; (with_reducible refine C.mono ?_); clear C; rintro e _ ⟨rfl, rfl⟩))
      go_roundw
      case rel => exact ⟨k + 1, at_ + n, l + l', M', ms ++ ms', r', _, by simp, by simp, by omega, hI4⟩
      case measure => simp [intOf]; omega
    · obtain rfl : k = qs.length := by omega
      have hat := hI.le
      obtain ⟨n, hn0⟩ : ∃ n : Nat, at_ + n = b.length := ⟨b.length - at_, by omega⟩
      have hn : at_ + n ≤ b.length := by omega
      obtain ⟨A6, c6, hc6, hcut6, hC6⟩ := cutB_from 23 5 Try.underlying23 hi hz1 .i64 A b.length cap (at_ : Int) at_ n rfl (by omega) hat hcap
      have hlen6 : (b.drop at_).length = n := by simp; omega
      have hxr := Kd.C_below hx hI.bel
      have hm1 := hI.run.len.2
      rw [List.length_map, List.length_take] at hm1
      have hry := hI.run.bytes (hby.take _)
      have hdr : (b.take (at_ + n)).drop at_ = b.drop at_ := by rw [hn0, List.take_length]
      go_wp2_with (first
        | (go_at_call 13; have C := feed_at wr g M n v l r _ A6 c6 hlen6 hI.blk hI.own hI.high (hC6 _ _ _ rfl hxr) hry (hby.drop _) (by omega) (by omega); (with_reducible refine C.mono ?_); clear C; rintro e w2 ⟨A7, c7, A8, c8, ms', l', r', M', rfl, hR2, hrow2, hblk2, hown2, hrun2, hsh2, hgood2, hlo2, hhi2, hf2, hm2⟩
           have hb2 : Below w.heap.size w w2 := hI.bel.trans (hf2.below (fun k hk => by rcases hk with rfl | hk; exact hgw; exact Nat.le_trans hI.low (own_base hI.own k hk)) hI.bel.size))
        | (at_builtin; refine append_rows (w0 := w) (W := w2) w.heap.size rfl (.tmp 78) (.tmp 82) 42 25 zeroP 40 rfl Try.underlying42 info25 rfl (by omega) _ ms ms' A7 ms'.length c7 rfl rfl (hI.fed (S := NoB) hf2) hR2 hb2 hb2.size (by omega) ?_; intro v3 w3 hrow3 hb3 hg3; have hI3 := hI.step hgw hn hrow2 hblk2 hown2 (by rw [hdr]; exact hrun2) hsh2 hgood2 hlo2 hhi2 hf2 hrow3 hg3; rw [hn0] at hI3; obtain ⟨A3, c3, rfl, hle3, hR3⟩ := hrow3.reads; have hr3 := hI3.run; rw [List.take_length] at hr3)
        | (go_at_call 14; have C := all_at w3 A cap b.length b rfl (Kd.C_below hx hI3.bel) hby (by omega) hcap hr3 hsh2; (with_reducible refine C.mono ?_); clear C; rintro e w4 ⟨A9, c9, ms9, rfl, hR9, hms9, ham9, hb4⟩; have hI4 := hI3.below hb4; have hl9 : ms9.length = (ms ++ ms').length := by rw [← List.length_map (f := (·.p)), hms9, List.length_map])
        | (go_at_call 15; have C := lost_any w4 g _ _ hI4.blk; (with_reducible refine C.mono ?_); clear C; rintro e _ ⟨rfl, rfl⟩)
        | (go_at_call 16; have C := left_any w4 g A8 r'.length c8 _ hI4.blk; (with_reducible refine C.mono ?_); clear C; rintro e _ ⟨rfl, rfl⟩))
      have hx4 := Kd.C_below hx hI4.bel
      have hl3 : (ms ++ ms').length ≤ 100000 := by rw [List.length_append]; omega
      clear hg3 hrow3 hrow2 hblk2 hown2 hrun2 hgood2 hlo2 hhi2 hf2 hR2 hm2 hb2 hcut6 hC6 hdr hxr hry hI0 hI
      have hR4 : ReadsRow PR 4 w4 A3 (ms ++ ms').length (ms ++ ms') := ReadsRow.imp_ hR3 hb4 (fun _ _ h => h)
      go_loopw [107] (fun i wr => ∃ k : Nat, i = .int .i64 k ∧ k ≤ (ms ++ ms').length ∧ Below w4.heap.size w4 wr) (fun i _ => (ms ++ ms').length - (intOf i).toNat)
      case atStart => exact ⟨0, rfl, Nat.zero_le _, Below.refl _ _⟩
      case round =>
        obtain ⟨k, rfl, hk, hbr⟩ := hrel
        by_cases hlt : k < (ms ++ ms').length
        · obtain ⟨m, hm⟩ : ∃ m, (ms ++ ms')[k]? = some m := ⟨_, List.getElem?_eq_getElem hlt⟩
          obtain ⟨m9, hm9⟩ : ∃ m, ms9[k]? = some m := ⟨_, List.getElem?_eq_getElem (by omega)⟩
          have hp : m9.p = m.p := by
            have h1 : (ms9.map (·.p))[k]? = ((ms ++ ms').map (·.p))[k]? := by rw [hms9]
            rw [List.getElem?_map, List.getElem?_map, hm, hm9] at h1
            simpa using h1
          obtain ⟨pm, Am, cm⟩ := m
          obtain ⟨pm9, Am9, cm9⟩ := m9
          replace hp : pm9 = pm := hp
          subst hp
          obtain ⟨ad, rfl, hcells⟩ := hR4.2.2 (by omega)
          obtain ⟨ad9, rfl, hcells9⟩ := hR9.2.2 (by omega)
          obtain ⟨_, _, rfl, hc⟩ := hcells k _ hm
          obtain ⟨_, _, rfl, hc9⟩ := hcells9 k _ hm9
          have hgm := Kd.C_below (hI4.good _ (List.mem_of_getElem? hm)).reads hbr
          have hgb := (hI4.good _ (List.mem_of_getElem? hm)).2.1
          have ham := Kd.C_below ((ham9 _ (List.mem_of_getElem? hm9)).1 w4 hx4) hbr
          have hlt' : (k : Int) < (ms.length : Int) + ms'.length := by rw [List.length_append] at hlt; omega
          have hS0 := rows4 (W := wr.drew) (fun i u hu => pw_cell_below hbr (hc i u hu)) (fun i u hu => pw_cell_below hbr (hc9 i u hu))
          have hS1 := Lib.hid (fun (w9 : World) (hb : Below wr.heap.size wr.drew w9) => rows4 (W := w9) (fun i u hu => pw_cell_below (w := wr.drew) hb (pw_cell_below hbr (hc i u hu))) (fun i u hu => pw_cell_below (w := wr.drew) hb (pw_cell_below hbr (hc9 i u hu))))
          have HBR := Lib.hid hbr
          have HI4 := Lib.hid hI4
          clear hcells hcells9 hc hc9 hm hm9 hbr hI4 hR9 hR4 hR3 hr3 hI3
          go_wp2_with fail
          set_option maxRecDepth 512 in
          go_region_held3 (fun W' => W'.cell? (ad.add (k * 4)) = some (.int .u32 pm9.ep) ∧ W'.cell? ⟨(ad.add (k * 4)).block, (ad.add (k * 4)).off + 1, none⟩ = some (.int .u32 pm9.nu) ∧ W'.cell? ⟨(ad.add (k * 4)).block, (ad.add (k * 4)).off + 2, none⟩ = some (.bool pm9.wh) ∧ W'.cell? ⟨(ad.add (k * 4)).block, (ad.add (k * 4)).off + 3, none⟩ = some (.slice Am pm9.pl.length cm) ∧ W'.cell? (ad9.add (k * 4)) = some (.int .u32 pm9.ep) ∧ W'.cell? ⟨(ad9.add (k * 4)).block, (ad9.add (k * 4)).off + 1, none⟩ = some (.int .u32 pm9.nu) ∧ W'.cell? ⟨(ad9.add (k * 4)).block, (ad9.add (k * 4)).off + 2, none⟩ = some (.bool pm9.wh) ∧ W'.cell? ⟨(ad9.add (k * 4)).block, (ad9.add (k * 4)).off + 3, none⟩ = some (.slice Am9 pm9.pl.length cm9)) (first | with_reducible assumption | go_keep)
            ((go_at_call 11; have C := same_any wr.drew pm9.ep pm9.nu pm9.ep pm9.nu pm9.wh pm9.wh Am Am9 cm cm9 pm9.pl pm9.pl (Kd.C_drew hgm) (Kd.C_drew ham) hgb hgb; (with_reducible refine C.mono ?_); clear C; rintro e w9 ⟨rfl, hb9⟩; have hS9 := hS1.out w9 hb9))
          go_wp2
          go_roundw
          case rel => exact ⟨k + 1, by simp, by omega, below_then HBR.out.drew HBR.out.size hb9⟩
          case measure => simp [intOf]; rw [List.length_append] at hlt; omega
        · have hkl : k = (ms ++ ms').length := by omega
          have hlt' : ¬ (k : Int) < (ms.length : Int) + ms'.length := by rw [hkl, List.length_append]; omega
          have hbel := below_then hI4.bel hI4.bel.size hbr
          have HK := Lib.hid hkl
          have HL := Lib.hid hbel
          clear hkl hbr hI4 hR9 hR4 hR3 hr3 hI3 hms9 ham9 hbel hlt hk hl3
          set_option maxRecDepth 512 in
          go_wp2_with (first
            | (go_at_call 13; have C := none_feed wr (.slice A b.length cap); (with_reducible refine C.mono ?_); clear C; rintro e _ ⟨rfl, rfl⟩)
            | (go_at_call 15; have C := none_lost wr; (with_reducible refine C.mono ?_); clear C; rintro e _ ⟨rfl, rfl⟩)
            | (go_at_call 16; have C := none_left wr; (with_reducible refine C.mono ?_); clear C; rintro e _ ⟨rfl, rfl⟩))
          go_ret
          exact ⟨rfl, HL.out⟩

end Go.Proofs.Ytapiimahhkfjnaa
