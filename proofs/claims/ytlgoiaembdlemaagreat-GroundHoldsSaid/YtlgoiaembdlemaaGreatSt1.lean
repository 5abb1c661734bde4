/- strings.Contains, strings.Count, of one byte. -/
import Derived.Test.YtlgoiaembdlemaaGreatEnv
import Derived.Test.YtlgoiaembdlemaaGreatLay
import Derived.Shelf.Strings.Search3
import Derived.Shelf.Strings.Count
import Derived.Ground.NamesProg
import Derived.Test.YtlgoiaembdlemaaGreatPic
set_option linter.unusedSimpArgs false
set_option linter.unusedVariables false
namespace Go.Pi
open Go
theorem indexByte_iff (l : List UInt8) (c : UInt8) : 0 ≤ Lib.indexByte l c ↔ c ∈ l := by
  induction l with
  | nil => simp [Lib.indexByte]
  | cons x r ih =>
    have hg := Lib.indexByte_ge r c
    have e : Lib.indexByte (x :: r) c = if x = c then 0 else if Lib.indexByte r c = -1 then -1 else Lib.indexByte r c + 1 := by
      simp [Lib.indexByte]
    rw [e, List.mem_cons, ← ih]
    by_cases h : x = c
    · simp [h]
    · rw [if_neg h]
      have h2 : ¬ c = x := fun e => h e.symm
      simp only [h2, false_or]
      split <;> omega
theorem indexByte_contains (l : List UInt8) (c : UInt8) : decide (0 ≤ Lib.indexByte l c) = l.contains c := by
  rw [Bool.eq_iff_iff, decide_eq_true_eq, indexByte_iff]; simp
theorem c_strContains (s : ByteArray) (c : UInt8) (y : Bool) (hy : y = hasB s c) : Call .plain 35 [Str s, Str ⟨#[c]⟩] (B y) := by
  refine ⟨Proofs.Tryz.call35, ?_⟩
  intro ok w vs hA hok hargs
  obtain ⟨v0, v1, rfl⟩ : ∃ v0 v1, vs = #[v0, v1] := by
    have := hargs.1
    match vs, this with
    | ⟨[a, b]⟩, _ => exact ⟨a, b, rfl⟩
  have h0 := hargs.2 0 _ rfl
  have h1 := hargs.2 1 _ rfl
  simp only [Array.getD_eq_getD_getElem?] at h0 h1
  cases h0
  cases h1
  refine (Proofs.Any.strings_Contains_one Proofs.Tryz.lays144 s c w).mono fun e w' ⟨he, hw⟩ => ⟨_, he, by rw [hw]; exact .refl _ _, ?_⟩
  rw [hy, hasB, indexByte_contains]
  exact .v _
theorem c_strCount (s : ByteArray) (c : UInt8) (y : Int) (hy : y = countB s c) : Call .plain 77 [Str s, Str ⟨#[c]⟩] (I y) := by
  refine ⟨Proofs.Tryz.call77, ?_⟩
  intro ok w vs hA hok hargs
  obtain ⟨v0, v1, rfl⟩ : ∃ v0 v1, vs = #[v0, v1] := by
    have := hargs.1
    match vs, this with
    | ⟨[a, b]⟩, _ => exact ⟨a, b, rfl⟩
  have h0 := hargs.2 0 _ rfl
  have h1 := hargs.2 1 _ rfl
  simp only [Array.getD_eq_getD_getElem?] at h0 h1
  cases h0
  cases h1
  refine (Proofs.Any.strings_Count_one Proofs.Tryz.lays138 s c w).mono fun e w' ⟨he, hw⟩ => ⟨_, he, by rw [hw]; exact .refl _ _, ?_⟩
  rw [hy, countB]
  exact .v _
end Go.Pi
