/- Package jigsawref06: how long a list is; numbers within bounds. -/
import Derived.Test.YtlgoiaembdlemaaGreatRf1
import Derived.Test.YtlgoiaembdlemaaGreatMo2
import Derived.Test.YtlgoiaembdlemaaGreatPid
set_option linter.unusedSimpArgs false
set_option linter.unusedVariables false
namespace Go.Pi
open Go
set_option linter.unusedVariables false
set_option linter.unusedSimpArgs false

theorem c_list (n one all : Int) (y : Bool) (hy : y = listS n one all) : Call .plain 73 [I n, I one, I all] (B y) := by
  refine call_of Proofs.Tryz.func73 Proofs.Tryz.call73 rfl rfl fun M C hM hC => ?_
  cbv
  split <;> rename_i h <;> (try simp only [h]) <;> (try cbv)
  · have h1 : all > 0 := by subst hM; exact of_decide_eq_true h
    rw [listS, if_pos h1] at hy
    split <;> rename_i h <;> (try simp only [h]) <;> (try cbv)
    · have h2 : n ≥ 1 := by subst hM; exact of_decide_eq_true h
      rw [hy]; subst hM
      have e : decide (1 ≤ n) = true := by simpa using h2
      rw [e]; rfl
    · have h2 : ¬ n ≥ 1 := by subst hM; exact of_decide_eq_false h
      rw [hy]
      have e : decide (1 ≤ n) = false := by simpa using h2
      rw [e]; rfl
  · have h1 : ¬ all > 0 := by subst hM; exact of_decide_eq_false h
    rw [listS, if_neg h1] at hy
    rw [hy]; subst hM; rfl

theorem c_in (rl : List (List PV)) (l : List Int) (low high : Int) (hl : rl = ints l) (h64 : l.length ≤ 1000000) (y : Bool) (hy : y = inS l low high) : Call .plain 50 [.list 1 rl, I low, I high] (B y) := by
  refine call_of Proofs.Tryz.func50 Proofs.Tryz.call50 rfl rfl fun M C hM hC => ?_
  cbv
  refine Loop.over Nat (fun q => [(.t 7, I q)]) 0 (fun q => l.length - q) (fun q => q ≤ l.length ∧ ∀ i, i < q → low ≤ l.getD i 0 ∧ l.getD i 0 ≤ high) 0 ⟨Nat.zero_le _, by omega⟩ (by (cbv; repeat' (first | exact True.intro | exact rfl | apply And.intro))) ?_
  rintro j ⟨hj, hn⟩
  cbv
  split <;> rename_i h <;> (try simp only [h]) <;> (try cbv)
  · have hlt : j < l.length := by subst hM; simpa [hl] using h
    refine nidx_ints hl hlt fun v hv => ?_
    cbv
    split <;> rename_i h <;> (try simp only [h]) <;> (try cbv)
    · have h1 : v < low := by subst hM; exact of_decide_eq_true h
      rw [hy, in_no hlt (.inl (by omega))]
    · have h1 : ¬ v < low := by subst hM; exact of_decide_eq_false h
      refine nidx_ints hl hlt fun u hu => ?_
      cbv
      split <;> rename_i h <;> (try simp only [h]) <;> (try cbv)
      · have h2 : u > high := by subst hM; exact of_decide_eq_true h
        rw [hy, in_no hlt (.inr (by omega))]
      · have h2 : ¬ u > high := by subst hM; exact of_decide_eq_false h
        refine ⟨j + 1, ⟨hlt, fun i hi => ?_⟩, ?_, by (cbv; repeat' (first | exact True.intro | exact rfl | apply And.intro)) <;> (subst hM; rw [succ_i64 (by omega)])⟩
        · rcases Nat.lt_or_ge i j with h3 | h3
          · exact hn i h3
          · have : i = j := by omega
            subst this; omega
        · omega
  · have hj2 : j = l.length := by subst hM; simp [hl] at h; omega
    subst hj2
    rw [hy, in_yes hn]

theorem cast_bne (a b : Nat) : ((a : Int) != (b : Int)) = (a != b) := by
  rw [Bool.eq_iff_iff]; simp; omega
theorem rows_all {c : Con} (h : ∀ i, i < c.R.length → (c.R.getD i []).length = c.A.length) : (c.R.any fun r => r.length != c.A.length) = false := by
  rw [List.any_eq_false]
  intro r hr
  obtain ⟨i, hi, rfl⟩ := List.mem_iff_getElem.1 hr
  have := h i hi
  rw [getD_lt [] hi] at this
  simp [this]
theorem rows_bad {c : Con} {i : Nat} (hi : i < c.R.length) (h : (c.R.getD i []).length ≠ c.A.length) : (c.R.any fun r => r.length != c.A.length) = true := by
  rw [List.any_eq_true]
  exact ⟨_, getD_mem [] hi, by simpa using h⟩

