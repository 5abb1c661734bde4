/- Typed data of the laws' own types. No condition. -/
import Derived.Test.YtlgoiaembdlemaaGreatDoorMGl0ToGl1
set_option linter.unusedSimpArgs false
set_option linter.unusedVariables false
namespace Go.Proofs.YtlgoiaembdlemaaGreatDoor
open Go.ChangeShapes Go.WideShapes Go.ChangeAt Go.RowKit Go.Pi


def longSh : List Sh := [.int .u8, .int .u8, .slice [.int .i8], .slice [.int .i8]]
theorem shLong : ShOf Tryz.prog 87 longSh := by
  refine ShOf.struct _ [[.int .u8], [.int .u8], [.slice [.int .i8]], [.slice [.int .i8]]] Tryz.underlying87 rfl (by kernel_rfl) (fun i f sh hf hs => ?_) (fun i f sh hf hs => ?_)
  · match i with
    | 0 | 1 | 2 | 3 => cases hf; cases hs; exact ⟨by kernel_rfl, rfl⟩
    | n + 4 => cases hs
  · match i with
    | 0 => cases hf; cases hs; exact shU8
    | 1 => cases hf; cases hs; exact shU8
    | 2 => cases hf; cases hs; exact shI8s
    | 3 => cases hf; cases hs; exact shI8s
    | n + 4 => cases hs
theorem typed_long {qs : List PV} (hl : qs.length = longSh.length) (h : ∀ (i : Nat) p sh, qs[i]? = some p → longSh[i]? = some sh → Typed sh p) :
    ∃ (tN tA : Int) (tX tY : List Int), (0 ≤ tN ∧ tN ≤ 255) ∧ (0 ≤ tA ∧ tA ≤ 255) ∧ tX.length ≤ 9223372036854775807 ∧ (∀ v ∈ tX, -128 ≤ v ∧ v ≤ 127) ∧ tY.length ≤ 9223372036854775807 ∧ (∀ v ∈ tY, -128 ≤ v ∧ v ≤ 127) ∧ qs = [U8 tN, U8 tA, .list 1 (i8s tX), .list 1 (i8s tY)] := by
  match qs, hl with
  | [q0, q1, q2, q3], _ =>
    obtain ⟨n0, rfl, w0⟩ := typed_int (h 0 _ _ rfl rfl)
    obtain ⟨n1, rfl, w1⟩ := typed_int (h 1 _ _ rfl rfl)
    obtain ⟨l2, rfl, b2, w2⟩ := typed_list (h 2 _ _ rfl rfl)
    obtain ⟨l3, rfl, b3, w3⟩ := typed_list (h 3 _ _ rfl rfl)
    have e9 : (9223372036854775807 : Nat) = maxLen := rfl
    rw [e9]
    exact ⟨n0, n1, l2, l3, wf_u8 w0, wf_u8 w1, b2, fun v hv => wf_i8 (w2 v hv), b3, fun v hv => wf_i8 (w3 v hv), rfl⟩

end Go.Proofs.YtlgoiaembdlemaaGreatDoor
