/- The law PacketBytes of layer 19: for every input it returns true and what came in reads as it did; no condition. -/
import Derived.Test.YtapiimahhkfjnaaRows
import Derived.WalkKit
import Derived.ProofKit
import Derived.OpenShut
import Derived.ShutString
import Derived.ChangeOld
import Derived.Below
import Derived.Lib.SmallJoins
import Derived.Test.YtapiimahhkfjnaaU
namespace Go.Proofs.Ytapiimahhkfjnaa.packetBytes
open Go.ChangeShapes Go.WideShapes Go.ChangeAt Go.RowKit
open Go.ChangeMaps (open_string shut_string)
open Go.Joins (open_agg4 slice_form)
open Go.Proofs.YtapiimahhkfjnaaW.PrintWords

theorem own : ownKnob Try.prog.godebug = none := by kernel_rfl
theorem laidOut : laidOutB Try.prog = true := by kernel_rfl

theorem cells5 : Try.prog.cellsOf 5 = 1 := by kernel_rfl
theorem cells25 : Try.prog.cellsOf 25 = 4 := by kernel_rfl
/-- bytes that came in: what is read of them -/
theorem openB {H : Type} {enc : TypeId × Value → H} {W : World} {fuel : Nat} {a : Option Addr} {len cap : Nat} {y : DataW H × List MemPlace}
    (h : DataW.trod enc Try.prog W 0 (fun _ => true) true fuel 23 [.slice a len cap] = some y) : ∃ xs : List Int, xs.length = len ∧ len ≤ cap ∧ Go.Sb.Bytes xs ∧ Kd.C (Kd.int .u8) W a xs.length xs := by
  rcases open_ints Try.underlying23 Try.underlying5 cells5 h with ⟨hcs, _⟩ | ⟨x, l, c, zs, hcs, _, hl, hm, hz, _, hcell, hwz⟩
  · simp at hcs
    obtain ⟨rfl, rfl, rfl⟩ := hcs
    exact Go.Sb.row_C (zs := []) (.inl ⟨rfl, rfl, rfl, rfl⟩)
  · simp at hcs
    obtain ⟨rfl, rfl, rfl⟩ := hcs
    exact Go.Sb.row_C (zs := zs) (.inr ⟨_, rfl, hl, hm, by simpa using hz, hcell, hwz⟩)
/-- a packet that came in: what is read of it -/
theorem openP {H : Type} {enc : TypeId × Value → H} {W : World} {r : Reach} {b0 : Nat} {v : Value} {d : DataW H} {p : List MemPlace} (hv : Value.okWide Try.prog W r b0 25 v)
    (h : DataW.Trod enc Try.prog W 0 (fun _ => true) true 25 v d p) : ∃ (ep nu : Int) (wh : Bool) (a : Option Addr) (cap : Nat) (xs : List Int), v = .agg #[.int .u32 ep, .int .u32 nu, .bool wh, .slice a xs.length cap] ∧
      (0 ≤ ep ∧ ep ≤ 4294967295) ∧ (0 ≤ nu ∧ nu ≤ 4294967295) ∧ xs.length ≤ cap ∧ Go.Sb.Bytes xs ∧ Kd.C (Kd.int .u8) W a xs.length xs := by
  obtain ⟨c0, c1, c2, c3, y0, y1, y2, y3, m, rfl, _, _, hy0, hy1, hy2, hy3⟩ := open_agg4 Try.underlying25 (by kernel_rfl) cells25 hv h
  obtain ⟨ep, e0, _, w0⟩ := DataW.trod_int Try.underlying22 hy0
  obtain ⟨nu, e1, _, w1⟩ := DataW.trod_int Try.underlying22 hy1
  obtain ⟨wh, e2, _⟩ := DataW.trod_bool Try.underlying4 hy2
  obtain ⟨a, l, c, e3⟩ := slice_form Try.underlying23 hy3
  simp at e0 e1 e2 e3
  subst e0 e1 e2 e3
  obtain ⟨xs, rfl, hl, hb, hC⟩ := openB hy3
  refine ⟨ep, nu, wh, a, c, xs, rfl, ?_, ?_, hl, hb, hC⟩
  · simp [Lit.wf, IntKind.min, IntKind.max, IntKind.bits, IntKind.signed] at w0; omega
  · simp [Lit.wf, IntKind.min, IntKind.max, IntKind.bits, IntKind.signed] at w1; omega

/-- the walk in all its cases -/
theorem walk (w : World) (ep nu : Int) (wh : Bool) (A B : Option Addr) (cap c : Nat) (xs more : List Int) (he : 0 ≤ ep ∧ ep ≤ 4294967295) (hn : 0 ≤ nu ∧ nu ≤ 4294967295) (hx : Kd.C (Kd.int .u8) w A xs.length xs) (hby : Go.Sb.Bytes xs) (hcap : xs.length ≤ cap)
    (hm : Kd.C (Kd.int .u8) w B more.length more) (hmy : Go.Sb.Bytes more) :
    Calls Try.prog 3 #[.agg #[.int .u32 ep, .int .u32 nu, .bool wh, .slice A xs.length cap], .slice B more.length c] w fun e w' => e = .returned (.bool true) ∧ Below w.heap.size w w' := by
  rcases Nat.lt_or_ge 800 xs.length with h | h
  · exact pbytes_big w ep nu wh A B cap _ c _ h
  · rcases Nat.lt_or_ge 100 more.length with h1 | h1
    · exact pbytes_more w ep nu wh A B cap _ c _ h h1
    · rcases Nat.lt_or_ge 600 xs.length with h2 | h2
      · exact pbytes_long w ep nu wh A B cap _ c _ h h2 h1
      · exact pbytes_any w ep nu wh A B cap c xs more he hn hx hby h2 hcap hm hmy h1

set_option maxRecDepth 100000 in
theorem lifted (os : Os) (started : os.Started) (H : Type) (enc : TypeId × Value → H) :
    ReturnsInHanded {} Try.checked os 3 .any (Rows.packetBytesSpec.pre6 enc Try.prog Try.f3 Rows.packetBytesRow.domain false) (Rows.packetBytesSpec.post enc Try.prog Try.f3 false true false false) := by
  refine returnsInHanded_of_change (C := Try.checked) own started (by kernel_rfl) Try.func3
    (ChangeSpec.witness6 (enc := enc) (C := Try.checked) false ⟨#[], #[.agg #[.int .u32 0, .int .u32 0, .bool false, .slice none 0 0], .slice none 0 0], []⟩ 8 (by kernel_rfl) (by kernel_rfl) (by kernel_rfl) (by kernel_rfl)) ?_
  intro W base args ds gs before hval0 hW hcnd _
  have hval : ∀ (j : Nat) t v, Try.f3.params[j]? = some t → args[j]? = some v → Value.okWide Try.prog W .any base t v := hval0
  have hW' := hW
  obtain ⟨p, q, hA0, hV, rfl, hfz, hnd⟩ := hW
  have hA : DataW.TrodAll enc Try.prog W 0 (fun _ => true) true Try.f3.params.toList args.toList ds p := hA0
  rw [Try.params3] at hA hval
  obtain ⟨v0, vs0, d0, ds0, p0, q0, hargs, rfl, rfl, h0, r0⟩ := trodAll_cons hA
  obtain ⟨v1, vs1, d1, ds1, p1, q1, rfl, rfl, rfl, h1, r1⟩ := trodAll_cons r0
  obtain ⟨rfl, rfl, rfl⟩ := trodAll_nil r1
  obtain rfl : args = #[v0, v1] := by cases args; simp_all
  obtain ⟨rfl, rfl⟩ := trodVars_none hV
  obtain ⟨a1, len1, cap1, rfl⟩ := okWide_slice Try.underlying23 (hval 1 23 v1 rfl rfl)
  have k0 := h0
  have k1 := h1
  have lt0 : ∀ x ∈ p0, x.block < W.heap.size := by obtain ⟨m, hm⟩ := k0; exact DataW.trod_lt m _ _ _ hm
  have lt1 : ∀ x ∈ p1, x.block < W.heap.size := by obtain ⟨m, hm⟩ := k1; exact DataW.trod_lt m _ _ _ hm
  obtain ⟨ep, nu, wh, a0, cap0, xs, rfl, he, hn, hc, hb, hC⟩ := openP (hval 0 25 v0 rfl rfl) h0
  obtain ⟨ys, rfl, hcy, hby, hCy⟩ : ∃ xs : List Int, xs.length = len1 ∧ len1 ≤ cap1 ∧ Go.Sb.Bytes xs ∧ Kd.C (Kd.int .u8) W a1 xs.length xs := by
    obtain ⟨fuel, hf⟩ := h1
    exact openB (by simpa [Value.cells] using hf)
  clear hA0 hval0
  refine (walk W ep nu wh a0 a1 cap0 cap1 xs ys he hn hC hb hc hCy hby).mono fun e W' ⟨he, bel⟩ => ?_
  subst he
  exact ⟨_, rfl, _, _, _, [], _, [], hW', trodAll_mk1 (shut_bool Try.underlying4 _), (trodAll_cons_mk (Below.trod laidOut (by kernel_rfl) (of_decide_eq_true (by kernel_rfl)) k0 bel lt0) (trodAll_cons_mk (Below.trod laidOut (by kernel_rfl) (of_decide_eq_true (by kernel_rfl)) k1 bel lt1) trodAll_mk0)), rfl, bel.frame _, fun h => by cases h⟩

theorem over : Rows.packetBytesRow.holds Try.pinned (OpenSpec.ofChange Rows.packetBytesSpec) :=
  OpenClaim.holds_of_wide 3 Try.f3 rfl rfl rfl rfl rfl rfl rfl ⟨rfl, rfl, rfl, rfl, rfl⟩ rfl rfl rfl rfl rfl (by kernel_rfl) Try.func3 (by kernel_rfl)
    (of_decide_eq_true (by kernel_rfl)) (by unfold Func.isWrapper; first | (rw [if_pos (by decide +kernel)]; kernel_rfl) | (rw [if_neg (by decide +kernel)]; exact ⟨rfl, rfl⟩))
    (fun os started H enc _ => lifted os started H enc)

theorem proved : Rows.PacketBytesSaid := over
end Go.Proofs.Ytapiimahhkfjnaa.packetBytes
