/- jigsawlaw09.GroundHolds returns true, whatever the input is; the input reads as it did. No condition. -/
import Derived.Test.YtlgoiaembdlemaaGreatRows
import Derived.Test.YtlgoiaembdlemaaGreatLw4
import Derived.Test.YtlgoiaembdlemaaGreatPid
import Derived.WalkKit
import Derived.ProofKit
import Derived.OpenShut
import Derived.ShutString
import Derived.ChangeOld
import Derived.Below
set_option linter.unusedSimpArgs false
set_option linter.unusedVariables false
namespace Go.Proofs.YtlgoiaembdlemaaGreat
open Go.ChangeShapes Go.WideShapes Go.ChangeAt Go.RowKit Go.Pi
set_option linter.unusedVariables false

theorem own : ownKnob Tryz.prog.godebug = none := by kernel_rfl
theorem laidOut : laidOutB Tryz.prog = true := by kernel_rfl
theorem sh26 : ShOf Tryz.prog 26 smallSh := by
  refine ShOf.struct _ [[.int .u8], [.slice [.int .u8]], [.slice [.int .u8]], [.slice [.int .i8]], [.int .i16], [.int .u8]] Tryz.underlying26 rfl (by kernel_rfl) (fun i f sh hf hs => ?_) (fun i f sh hf hs => ?_)
  · match i with
    | 0 | 1 | 2 | 3 | 4 | 5 => cases hf; cases hs; exact ⟨by kernel_rfl, rfl⟩
    | n + 6 => cases hs
  · match i with
    | 0 => cases hf; cases hs; exact .int _ Tryz.underlying5
    | 1 => cases hf; cases hs; exact .slice _ _ Tryz.underlying22 (by kernel_rfl) (by decide) (.int _ Tryz.underlying5)
    | 2 => cases hf; cases hs; exact .slice _ _ Tryz.underlying22 (by kernel_rfl) (by decide) (.int _ Tryz.underlying5)
    | 3 => cases hf; cases hs; exact .slice _ _ Tryz.underlying23 (by kernel_rfl) (by decide) (.int _ Tryz.underlying55)
    | 4 => cases hf; cases hs; exact .int _ Tryz.underlying24
    | 5 => cases hf; cases hs; exact .int _ Tryz.underlying5
    | n + 6 => cases hs
theorem sh27 : ShOf Tryz.prog 27 [.slice [.int .i64]] := .slice _ _ Tryz.underlying27 (by kernel_rfl) (by decide) (.int _ Tryz.underlying3)

def conSh : List Sh := [.int .i64, .slice [.int .i64], .slice [.int .i64], .slice [.int .i64], .slice [.int .i64], .slice [.int .i64], .int .i64, .slice [.slice [.int .i64]]]
theorem sh30 : ShOf Tryz.prog 30 conSh := by
  refine ShOf.struct _ [[.int .i64], [.slice [.int .i64]], [.slice [.int .i64]], [.slice [.int .i64]], [.slice [.int .i64]], [.slice [.int .i64]], [.int .i64], [.slice [.slice [.int .i64]]]] Tryz.underlying30 rfl (by kernel_rfl) (fun i f sh hf hs => ?_) (fun i f sh hf hs => ?_)
  · match i with
    | 0 | 1 | 2 | 3 | 4 | 5 | 6 | 7 => cases hf; cases hs; exact ⟨by kernel_rfl, rfl⟩
    | n + 8 => cases hs
  · match i with
    | 0 => cases hf; cases hs; exact .int _ Tryz.underlying3
    | 1 => cases hf; cases hs; exact sh27
    | 2 => cases hf; cases hs; exact sh27
    | 3 => cases hf; cases hs; exact sh27
    | 4 => cases hf; cases hs; exact sh27
    | 5 => cases hf; cases hs; exact sh27
    | 6 => cases hf; cases hs; exact .int _ Tryz.underlying3
    | 7 => cases hf; cases hs; exact .slice _ _ Tryz.underlying28 (by kernel_rfl) (by decide) sh27
    | n + 8 => cases hs
theorem typed_con {qs : List PV} (hl : qs.length = conSh.length) (h : ∀ (i : Nat) p sh, qs[i]? = some p → conSh[i]? = some sh → Typed sh p) :
    ∃ (k K : Int) (A Bl C' D E : List Int) (wR : List (List PV)), (A.length ≤ 9223372036854775807 ∧ Bl.length ≤ 9223372036854775807 ∧ C'.length ≤ 9223372036854775807 ∧ D.length ≤ 9223372036854775807 ∧ E.length ≤ 9223372036854775807) ∧
      qs = [I k, .list 1 (ints A), .list 1 (ints Bl), .list 1 (ints C'), .list 1 (ints D), .list 1 (ints E), I K, .list 1 wR] := by
  match qs, hl with
  | [q0, q1, q2, q3, q4, q5, q6, q7], _ =>
    obtain ⟨n0, rfl, w0⟩ := typed_int (h 0 _ _ rfl rfl)
    obtain ⟨l1, rfl, b1, w1⟩ := typed_list (h 1 _ _ rfl rfl)
    obtain ⟨l2, rfl, b2, w2⟩ := typed_list (h 2 _ _ rfl rfl)
    obtain ⟨l3, rfl, b3, w3⟩ := typed_list (h 3 _ _ rfl rfl)
    obtain ⟨l4, rfl, b4, w4⟩ := typed_list (h 4 _ _ rfl rfl)
    obtain ⟨l5, rfl, b5, w5⟩ := typed_list (h 5 _ _ rfl rfl)
    obtain ⟨n6, rfl, w6⟩ := typed_int (h 6 _ _ rfl rfl)
    have t7 : Typed (.slice [.slice [.int .i64]]) q7 := h 7 _ _ rfl rfl
    have e9 : (9223372036854775807 : Nat) = maxLen := rfl
    rw [e9]
    cases t7 with
    | slice row xs hl hr h => exact ⟨n0, n6, l1, l2, l3, l4, l5, xs, ⟨b1, b2, b3, b4, b5⟩, rfl⟩

/-- From a contract to what a call does: true comes back, nothing that was there is written. -/
theorem ran {f : FuncId} {args : List PV} (h : Pi.Call .plain f args (B true)) {W : World} {vs : Array Value} (hr : RepSL (fun b => b < W.heap.size) W vs args) :
    Calls Tryz.prog f vs W fun e W' => e = .returned (.bool true) ∧ Below W.heap.size W W' :=
  (h.2 (fun b => b < W.heap.size) W vs trivial (fun _ h => h) hr).mono fun e W' ⟨v, he, hx, hv⟩ => by
    cases hv
    exact ⟨he, below_of hx⟩

set_option maxRecDepth 100000 in
theorem groundHolds_lifted (os : Os) (started : os.Started) (H : Type) (enc : TypeId × Value → H) :
    ReturnsInHanded {} Tryz.checked os 3 .any (Rows.groundHoldsSpec.pre6 enc Tryz.prog Tryz.f3 Rows.groundHoldsRow.domain false) (Rows.groundHoldsSpec.post enc Tryz.prog Tryz.f3 false true false false) := by
  refine returnsInHanded_of_change (C := Tryz.checked) own started (by kernel_rfl) Tryz.func3
    (ChangeSpec.witness6 (enc := enc) (C := Tryz.checked) false ⟨#[], #[.agg #[.int .u8 0, .slice none 0 0, .slice none 0 0, .slice none 0 0, .int .i16 0, .int .u8 0], .slice none 0 0, .agg #[.int .i64 0, .slice none 0 0, .slice none 0 0, .slice none 0 0, .slice none 0 0, .slice none 0 0, .int .i64 0, .slice none 0 0]], []⟩ 8 (by kernel_rfl) (by kernel_rfl) (by kernel_rfl) (by kernel_rfl)) ?_
  intro W base args ds gs before hval0 hW hcnd _
  have hval : ∀ (j : Nat) t v, Tryz.f3.params[j]? = some t → args[j]? = some v → Value.okWide Tryz.prog W .any base t v := hval0
  have hW' := hW
  obtain ⟨p, q, hA0, hV, rfl, hfz, hnd⟩ := hW
  have hA : DataW.TrodAll enc Tryz.prog W 0 (fun _ => true) true Tryz.f3.params.toList args.toList ds p := hA0
  rw [Tryz.params3] at hA hval
  obtain ⟨v0, vs0, d0, ds0, p0, q0, hargs, rfl, rfl, h0, r0⟩ := trodAll_cons hA
  obtain ⟨v1, vs1, d1, ds1, p1, q1, rfl, rfl, rfl, h1, r1⟩ := trodAll_cons r0
  obtain ⟨v2, vs2, d2, ds2, p2, q2, rfl, rfl, rfl, h2, r2⟩ := trodAll_cons r1
  obtain ⟨rfl, rfl, rfl⟩ := trodAll_nil r2
  obtain rfl : args = #[v0, v1, v2] := by cases args; simp_all
  obtain ⟨rfl, rfl⟩ := trodVars_none hV
  have hv0 := hval 0 26 v0 rfl rfl
  unfold Value.okWide at hv0
  rw [Tryz.underlying26] at hv0
  obtain ⟨cs, rfl, _, _⟩ := hv0
  obtain ⟨a1, len1, cap1, rfl⟩ := okWide_slice Tryz.underlying27 (hval 1 27 v1 rfl rfl)
  have hv2 := hval 2 30 v2 rfl rfl
  unfold Value.okWide at hv2
  rw [Tryz.underlying30] at hv2
  obtain ⟨cs2, rfl, _, _⟩ := hv2
  have k0 := h0
  have k1 := h1
  have k2 := h2
  have lt0 : ∀ x ∈ p0, x.block < W.heap.size := by obtain ⟨m, hm⟩ := k0; exact DataW.trod_lt m _ _ _ hm
  have lt1 : ∀ x ∈ p1, x.block < W.heap.size := by obtain ⟨m, hm⟩ := k1; exact DataW.trod_lt m _ _ _ hm
  have lt2 : ∀ x ∈ p2, x.block < W.heap.size := by obtain ⟨m, hm⟩ := k2; exact DataW.trod_lt m _ _ _ hm
  obtain ⟨qs, rep0, len0, ty0⟩ := read_agg sh26 h0
  obtain ⟨z, zk, zK, zc, zA, zB, zC, R, rfl⟩ := typed_small len0 ty0
  obtain ⟨pv1, rep1, ty1⟩ := read_one sh27 rfl h1
  obtain ⟨l1, rfl, b1, _⟩ := typed_list ty1
  obtain ⟨qs2, rep2, len2, ty2⟩ := read_agg sh30 h2
  obtain ⟨wk, wK, A, Bl, C', D, E, wR, ⟨lA, lB, lC, lD, lE⟩, rfl⟩ := typed_con len2 ty2
  clear hA0 hval0 h0 h1 h2
  refine (ran (c_groundHolds z zk zK zc zA zB zC R l1 _ rfl (by have e9 : (9223372036854775807 : Nat) = maxLen := rfl; rw [e9]; exact b1) wk wK A Bl C' D E _ _ _ _ _ wR rfl rfl rfl rfl rfl lA lB lC lD lE) (vs := #[.agg cs, .slice a1 len1 cap1, .agg cs2]) ⟨rfl, fun i p hi => ?_⟩).mono fun e W' ⟨he, bel⟩ => ?_
  · match i with
    | 0 => simp at hi; subst hi; exact rep0
    | 1 => simp at hi; subst hi; exact rep1
    | 2 => simp at hi; subst hi; exact rep2
    | n + 3 => simp at hi
  subst he
  exact ⟨_, rfl, _, _, _, [], _, [], hW', trodAll_mk1 (shut_bool Tryz.underlying4 _), (trodAll_cons_mk (Below.trod laidOut (by kernel_rfl) (of_decide_eq_true (by kernel_rfl)) k0 bel lt0) (trodAll_cons_mk (Below.trod laidOut (by kernel_rfl) (of_decide_eq_true (by kernel_rfl)) k1 bel lt1) (trodAll_cons_mk (Below.trod laidOut (by kernel_rfl) (of_decide_eq_true (by kernel_rfl)) k2 bel lt2) trodAll_mk0))), rfl, bel.frame _, fun h => by cases h⟩

theorem groundHolds_over : Rows.groundHoldsRow.holds Tryz.pinned (OpenSpec.ofChange Rows.groundHoldsSpec) :=
  OpenClaim.holds_of_wide 3 Tryz.f3 rfl rfl rfl rfl rfl rfl rfl ⟨rfl, rfl, rfl, rfl, rfl⟩ rfl rfl rfl rfl rfl (by kernel_rfl) Tryz.func3 (by kernel_rfl)
    (of_decide_eq_true (by kernel_rfl)) (by unfold Func.isWrapper; first | (rw [if_pos (by decide +kernel)]; kernel_rfl) | (rw [if_neg (by decide +kernel)]; exact ⟨rfl, rfl⟩))
    (fun os started H enc _ => groundHolds_lifted os started H enc)

theorem groundHolds_holds : Rows.GroundHoldsSaid := groundHolds_over
#print axioms groundHolds_holds
end Go.Proofs.YtlgoiaembdlemaaGreat
