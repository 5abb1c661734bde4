/- A verified evaluator of Go's code over plain values, part 6. No condition. -/
import Derived.Test.YtlgoiaembdlemaaGreatDoorPie
set_option linter.unusedSimpArgs false
set_option linter.unusedVariables false

/- Domains of one value each, in plain lists. -/
namespace Go.Pi
open Go
set_option linter.unusedVariables false
set_option linter.unusedSimpArgs false

def oneL (ks : List Int) : List (List Int) := ks.map fun k => [k]
theorem oneL_len (ks : List Int) : (oneL ks).length = ks.length := by simp [oneL]
theorem oneL_get {ks : List Int} {i : Nat} (h : i < ks.length) : (oneL ks).getD i [] = [ks.getD i 0] := by simp [oneL, List.getD_eq_getElem?_getD, h]
theorem inD_one : ∀ {r ks : List Int}, inD r (oneL ks) ↔ r = ks
  | [], [] => by simp [oneL, inD]
  | [], _ :: _ => by simp [oneL, inD]
  | _ :: _, [] => by simp [oneL, inD]
  | v :: r, k :: ks => by
    have := inD_one (r := r) (ks := ks)
    simp only [oneL, List.map_cons, inD, List.mem_singleton, List.cons.injEq] at this ⊢
    rw [this]
theorem left_one {ks : List Int} {p : Nat → Int → Bool} (h : someL (leftL (oneL ks) p) = true) : leftL (oneL ks) p = oneL ks := by
  apply List.ext_getElem
  · rw [leftL_len]
  · intro i h1 h2
    rw [leftL_len] at h1
    rw [oneL_len] at h2
    have e1 : (leftL (oneL ks) p)[i] = (leftL (oneL ks) p).getD i [] := by simp [List.getD_eq_getElem?_getD, leftL_len, h1]
    have e2 : (oneL ks)[i] = (oneL ks).getD i [] := by simp [List.getD_eq_getElem?_getD, h1]
    have h3 := someL_iff.1 h ((leftL (oneL ks) p).getD i []) (getD_mem [] (by rw [leftL_len]; exact h1))
    rw [e1, e2]
    rw [leftL_get _ _ _ h1, oneL_get h2] at h3 ⊢
    generalize ks.getD i 0 = v at h3 ⊢
    cases hp : p i v with
    | true => simp [hp]
    | false => simp [hp] at h3
theorem oneL_full (ks : List Int) : Full (oneL ks) := fun d hd => by
  obtain ⟨k, _, rfl⟩ := List.mem_map.1 hd
  exact ⟨List.pairwise_singleton _ _, by simp⟩
theorem oneL_dom {ks : List Int} (h : ∀ k ∈ ks, -1000000 ≤ k ∧ k ≤ 1000000) : ∀ d ∈ oneL ks, DomL d := fun d hd => by
  obtain ⟨k, hk, rfl⟩ := List.mem_map.1 hd
  have := h k hk
  refine ⟨List.pairwise_singleton _ _, fun v hv => ?_, fun u hu v hv => ?_⟩
  · rw [List.mem_singleton.1 hv]; omega
  · rw [List.mem_singleton.1 hu, List.mem_singleton.1 hv]; omega
/-- What is exact leaves one-valued domains exactly if they are a solution. -/
theorem ExactP.one {ks : List Int} {H : List Int → Prop} {p : Nat → Int → Bool} (h : ExactP (oneL ks) H p) (h0 : 0 < ks.length) : someL (leftL (oneL ks) p) = true ↔ H ks := by
  rw [h.some (by rw [oneL_len]; exact h0)]
  constructor
  · rintro ⟨r, r1, r2⟩
    rw [inD_one.1 r1] at r2
    exact r2
  · intro hk; exact ⟨ks, inD_one.2 rfl, hk⟩
/-- The values that are taken: the given ones, then each place's own. -/
def takenS (a : List Int) (f : Nat → Int) (n : Nat) : List Int := (List.range n).map fun i => if i < a.length then a.getD i 0 else f i
theorem takenS_len (a : List Int) (f : Nat → Int) (n : Nat) : (takenS a f n).length = n := by simp [takenS]
theorem takenS_succ (a : List Int) (f : Nat → Int) (n : Nat) : takenS a f (n + 1) = takenS a f n ++ [if n < a.length then a.getD n 0 else f n] := by
  simp [takenS, List.range_succ]
theorem takenS_in {a : List Int} {f : Nat → Int} {n : Nat} (ha : ∀ v ∈ a, -128 ≤ v ∧ v ≤ 127) (hf : ∀ i, i < n → -128 ≤ f i ∧ f i ≤ 127) : ∀ v ∈ takenS a f n, -128 ≤ v ∧ v ≤ 127 := fun v hv => by
  obtain ⟨i, hi, rfl⟩ := List.mem_map.1 hv
  split
  · exact ha _ (getD_mem 0 (by assumption))
  · exact hf i (List.mem_range.1 hi)

end Go.Pi
