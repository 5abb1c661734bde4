/- jigsawlaw09.GroundTurns, jigsawlaw09.GroundOrder return true, whatever the input is; the input reads as it did. No condition. -/
import Derived.Test.YtlgoiaembdlemaaRows
import Derived.Test.YtlgoiaembdlemaaLw3
import Derived.Test.YtlgoiaembdlemaaPid
import Derived.WalkKit
import Derived.ProofKit
import Derived.OpenShut
import Derived.ShutString
import Derived.ChangeOld
import Derived.Below
set_option linter.unusedSimpArgs false
set_option linter.unusedVariables false
namespace Go.Proofs.Ytlgoiaembdlemaa
open Go.ChangeShapes Go.WideShapes Go.ChangeAt Go.RowKit Go.Pi
set_option linter.unusedVariables false

theorem own : ownKnob Try.prog.godebug = none := by kernel_rfl
theorem laidOut : laidOutB Try.prog = true := by kernel_rfl
theorem sh26 : ShOf Try.prog 26 smallSh := by
  refine ShOf.struct _ [[.int .u8], [.slice [.int .u8]], [.slice [.int .u8]], [.slice [.int .i8]], [.int .i16], [.int .u8]] Try.underlying26 rfl (by kernel_rfl) (fun i f sh hf hs => ?_) (fun i f sh hf hs => ?_)
  · match i with
    | 0 | 1 | 2 | 3 | 4 | 5 => cases hf; cases hs; exact ⟨by kernel_rfl, rfl⟩
    | n + 6 => cases hs
  · match i with
    | 0 => cases hf; cases hs; exact .int _ Try.underlying5
    | 1 => cases hf; cases hs; exact .slice _ _ Try.underlying22 (by kernel_rfl) (by decide) (.int _ Try.underlying5)
    | 2 => cases hf; cases hs; exact .slice _ _ Try.underlying22 (by kernel_rfl) (by decide) (.int _ Try.underlying5)
    | 3 => cases hf; cases hs; exact .slice _ _ Try.underlying23 (by kernel_rfl) (by decide) (.int _ Try.underlying61)
    | 4 => cases hf; cases hs; exact .int _ Try.underlying24
    | 5 => cases hf; cases hs; exact .int _ Try.underlying5
    | n + 6 => cases hs
theorem sh27 : ShOf Try.prog 27 [.slice [.int .i64]] := .slice _ _ Try.underlying27 (by kernel_rfl) (by decide) (.int _ Try.underlying3)

/-- From a contract to what a call does: true comes back, nothing that was there is written. -/
theorem ran {f : FuncId} {args : List PV} (h : Pi.Call .plain f args (B true)) {W : World} {vs : Array Value} (hr : RepSL (fun b => b < W.heap.size) W vs args) :
    Calls Try.prog f vs W fun e W' => e = .returned (.bool true) ∧ Below W.heap.size W W' :=
  (h.2 (fun b => b < W.heap.size) W vs trivial (fun _ h => h) hr).mono fun e W' ⟨v, he, hx, hv⟩ => by
    cases hv
    exact ⟨he, below_of hx⟩

set_option maxRecDepth 100000 in
theorem groundTurns_lifted (os : Os) (started : os.Started) (H : Type) (enc : TypeId × Value → H) :
    ReturnsInHanded {} Try.checked os 3 .any (Rows.groundTurnsSpec.pre6 enc Try.prog Try.f3 Rows.groundTurnsRow.domain false) (Rows.groundTurnsSpec.post enc Try.prog Try.f3 false true false false) := by
  refine returnsInHanded_of_change (C := Try.checked) own started (by kernel_rfl) Try.func3
    (ChangeSpec.witness6 (enc := enc) (C := Try.checked) false ⟨#[], #[.agg #[.int .u8 0, .slice none 0 0, .slice none 0 0, .slice none 0 0, .int .i16 0, .int .u8 0], .slice none 0 0], []⟩ 8 (by kernel_rfl) (by kernel_rfl) (by kernel_rfl) (by kernel_rfl)) ?_
  intro W base args ds gs before hval0 hW hcnd _
  have hval : ∀ (j : Nat) t v, Try.f3.params[j]? = some t → args[j]? = some v → Value.okWide Try.prog W .any base t v := hval0
  have hW' := hW
  obtain ⟨p, q, hA0, hV, rfl, hfz, hnd⟩ := hW
  have hA : DataW.TrodAll enc Try.prog W 0 (fun _ => true) true Try.f3.params.toList args.toList ds p := hA0
  rw [Try.params3] at hA hval
  obtain ⟨v0, vs0, d0, ds0, p0, q0, hargs, rfl, rfl, h0, r0⟩ := trodAll_cons hA
  obtain ⟨v1, vs1, d1, ds1, p1, q1, rfl, rfl, rfl, h1, r1⟩ := trodAll_cons r0
  obtain ⟨rfl, rfl, rfl⟩ := trodAll_nil r1
  obtain rfl : args = #[v0, v1] := by cases args; simp_all
  obtain ⟨rfl, rfl⟩ := trodVars_none hV
  have hv0 := hval 0 26 v0 rfl rfl
  unfold Value.okWide at hv0
  rw [Try.underlying26] at hv0
  obtain ⟨cs, rfl, _, _⟩ := hv0
  obtain ⟨a1, len1, cap1, rfl⟩ := okWide_slice Try.underlying27 (hval 1 27 v1 rfl rfl)
  have k0 := h0
  have k1 := h1
  have lt0 : ∀ x ∈ p0, x.block < W.heap.size := by obtain ⟨m, hm⟩ := k0; exact DataW.trod_lt m _ _ _ hm
  have lt1 : ∀ x ∈ p1, x.block < W.heap.size := by obtain ⟨m, hm⟩ := k1; exact DataW.trod_lt m _ _ _ hm
  obtain ⟨qs, rep0, len0, ty0⟩ := read_agg sh26 h0
  obtain ⟨z, zk, zK, zc, zA, zB, zC, R, rfl⟩ := typed_small len0 ty0
  obtain ⟨pv1, rep1, ty1⟩ := read_one sh27 rfl h1
  obtain ⟨l1, rfl, _, _⟩ := typed_list ty1
  clear hA0 hval0 h0 h1
  refine (ran (c_groundTurns z zk zK zc zA zB zC R l1 _ rfl) (vs := #[.agg cs, .slice a1 len1 cap1]) ⟨rfl, fun i p hi => ?_⟩).mono fun e W' ⟨he, bel⟩ => ?_
  · match i with
    | 0 => simp at hi; subst hi; exact rep0
    | 1 => simp at hi; subst hi; exact rep1
    | n + 2 => simp at hi
  subst he
  exact ⟨_, rfl, _, _, _, [], _, [], hW', trodAll_mk1 (shut_bool Try.underlying4 _), (trodAll_cons_mk (Below.trod laidOut (by kernel_rfl) (of_decide_eq_true (by kernel_rfl)) k0 bel lt0) (trodAll_cons_mk (Below.trod laidOut (by kernel_rfl) (of_decide_eq_true (by kernel_rfl)) k1 bel lt1) trodAll_mk0)), rfl, bel.frame _, fun h => by cases h⟩

theorem groundTurns_over : Rows.groundTurnsRow.holds Try.pinned (OpenSpec.ofChange Rows.groundTurnsSpec) :=
  OpenClaim.holds_of_wide 3 Try.f3 rfl rfl rfl rfl rfl rfl rfl ⟨rfl, rfl, rfl, rfl, rfl⟩ rfl rfl rfl rfl rfl (by kernel_rfl) Try.func3 (by kernel_rfl)
    (of_decide_eq_true (by kernel_rfl)) (by unfold Func.isWrapper; first | (rw [if_pos (by decide +kernel)]; kernel_rfl) | (rw [if_neg (by decide +kernel)]; exact ⟨rfl, rfl⟩))
    (fun os started H enc _ => groundTurns_lifted os started H enc)

theorem groundTurns_holds : Rows.GroundTurnsSaid := groundTurns_over
#print axioms groundTurns_holds

set_option maxRecDepth 100000 in
theorem groundOrder_lifted (os : Os) (started : os.Started) (H : Type) (enc : TypeId × Value → H) :
    ReturnsInHanded {} Try.checked os 4 .any (Rows.groundOrderSpec.pre6 enc Try.prog Try.f4 Rows.groundOrderRow.domain false) (Rows.groundOrderSpec.post enc Try.prog Try.f4 false true false false) := by
  refine returnsInHanded_of_change (C := Try.checked) own started (by kernel_rfl) Try.func4
    (ChangeSpec.witness6 (enc := enc) (C := Try.checked) false ⟨#[], #[.agg #[.int .u8 0, .slice none 0 0, .slice none 0 0, .slice none 0 0, .int .i16 0, .int .u8 0], .slice none 0 0], []⟩ 8 (by kernel_rfl) (by kernel_rfl) (by kernel_rfl) (by kernel_rfl)) ?_
  intro W base args ds gs before hval0 hW hcnd _
  have hval : ∀ (j : Nat) t v, Try.f4.params[j]? = some t → args[j]? = some v → Value.okWide Try.prog W .any base t v := hval0
  have hW' := hW
  obtain ⟨p, q, hA0, hV, rfl, hfz, hnd⟩ := hW
  have hA : DataW.TrodAll enc Try.prog W 0 (fun _ => true) true Try.f4.params.toList args.toList ds p := hA0
  rw [Try.params4] at hA hval
  obtain ⟨v0, vs0, d0, ds0, p0, q0, hargs, rfl, rfl, h0, r0⟩ := trodAll_cons hA
  obtain ⟨v1, vs1, d1, ds1, p1, q1, rfl, rfl, rfl, h1, r1⟩ := trodAll_cons r0
  obtain ⟨rfl, rfl, rfl⟩ := trodAll_nil r1
  obtain rfl : args = #[v0, v1] := by cases args; simp_all
  obtain ⟨rfl, rfl⟩ := trodVars_none hV
  have hv0 := hval 0 26 v0 rfl rfl
  unfold Value.okWide at hv0
  rw [Try.underlying26] at hv0
  obtain ⟨cs, rfl, _, _⟩ := hv0
  obtain ⟨a1, len1, cap1, rfl⟩ := okWide_slice Try.underlying27 (hval 1 27 v1 rfl rfl)
  have k0 := h0
  have k1 := h1
  have lt0 : ∀ x ∈ p0, x.block < W.heap.size := by obtain ⟨m, hm⟩ := k0; exact DataW.trod_lt m _ _ _ hm
  have lt1 : ∀ x ∈ p1, x.block < W.heap.size := by obtain ⟨m, hm⟩ := k1; exact DataW.trod_lt m _ _ _ hm
  obtain ⟨qs, rep0, len0, ty0⟩ := read_agg sh26 h0
  obtain ⟨z, zk, zK, zc, zA, zB, zC, R, rfl⟩ := typed_small len0 ty0
  obtain ⟨pv1, rep1, ty1⟩ := read_one sh27 rfl h1
  obtain ⟨l1, rfl, _, _⟩ := typed_list ty1
  clear hA0 hval0 h0 h1
  refine (ran (c_groundOrder z zk zK zc zA zB zC R l1 _ rfl) (vs := #[.agg cs, .slice a1 len1 cap1]) ⟨rfl, fun i p hi => ?_⟩).mono fun e W' ⟨he, bel⟩ => ?_
  · match i with
    | 0 => simp at hi; subst hi; exact rep0
    | 1 => simp at hi; subst hi; exact rep1
    | n + 2 => simp at hi
  subst he
  exact ⟨_, rfl, _, _, _, [], _, [], hW', trodAll_mk1 (shut_bool Try.underlying4 _), (trodAll_cons_mk (Below.trod laidOut (by kernel_rfl) (of_decide_eq_true (by kernel_rfl)) k0 bel lt0) (trodAll_cons_mk (Below.trod laidOut (by kernel_rfl) (of_decide_eq_true (by kernel_rfl)) k1 bel lt1) trodAll_mk0)), rfl, bel.frame _, fun h => by cases h⟩

theorem groundOrder_over : Rows.groundOrderRow.holds Try.pinned (OpenSpec.ofChange Rows.groundOrderSpec) :=
  OpenClaim.holds_of_wide 4 Try.f4 rfl rfl rfl rfl rfl rfl rfl ⟨rfl, rfl, rfl, rfl, rfl⟩ rfl rfl rfl rfl rfl (by kernel_rfl) Try.func4 (by kernel_rfl)
    (of_decide_eq_true (by kernel_rfl)) (by unfold Func.isWrapper; first | (rw [if_pos (by decide +kernel)]; kernel_rfl) | (rw [if_neg (by decide +kernel)]; exact ⟨rfl, rfl⟩))
    (fun os started H enc _ => groundOrder_lifted os started H enc)

theorem groundOrder_holds : Rows.GroundOrderSaid := groundOrder_over
#print axioms groundOrder_holds
end Go.Proofs.Ytlgoiaembdlemaa
