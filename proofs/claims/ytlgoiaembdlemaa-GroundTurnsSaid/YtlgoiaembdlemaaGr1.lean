/- Package ground's small functions. -/
import Derived.Test.YtlgoiaembdlemaaEnv
import Derived.Test.YtlgoiaembdlemaaPic
set_option linter.unusedSimpArgs false
set_option linter.unusedVariables false
namespace Go.Pi
open Go
set_option linter.unusedVariables false

theorem c_far (v : Int) (y : Bool) (hy : y = farS v) : Call .plain 24 [I v] (B y) := by
  refine call_of Proofs.Try.func24 Proofs.Try.call24 rfl rfl fun M C hM hC => ?_
  cbv
  repeat' (split <;> rename_i h <;> (try simp only [h]) <;> (try cbv))
  all_goals (subst hM; rw [hy]; simp only [farS, truthS, impliedS]; simp_all)
  all_goals omega

theorem c_truth (b : Int) (so : Bool) (y : Bool) (hy : y = truthS b so) : Call .plain 50 [I b, B so] (B y) := by
  refine call_of Proofs.Try.func50 Proofs.Try.call50 rfl rfl fun M C hM hC => ?_
  cbv
  repeat' (split <;> rename_i h <;> (try simp only [h]) <;> (try cbv))
  all_goals (subst hM; rw [hy]; simp only [farS, truthS, impliedS]; simp_all)

theorem c_implied (b : Int) (so : Bool) (y : Bool) (hy : y = impliedS b so) : Call .plain 51 [I b, B so] (B y) := by
  refine call_of Proofs.Try.func51 Proofs.Try.call51 rfl rfl fun M C hM hC => ?_
  cbv
  repeat' (split <;> rename_i h <;> (try simp only [h]) <;> (try cbv))
  all_goals (subst hM; rw [hy]; simp only [farS, truthS, impliedS]; simp_all)
