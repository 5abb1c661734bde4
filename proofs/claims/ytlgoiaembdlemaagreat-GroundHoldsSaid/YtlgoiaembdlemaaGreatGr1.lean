/- Package ground's small functions. -/
import Derived.Test.YtlgoiaembdlemaaGreatEnv
import Derived.Test.YtlgoiaembdlemaaGreatPic
set_option linter.unusedSimpArgs false
set_option linter.unusedVariables false
namespace Go.Pi
open Go
set_option linter.unusedVariables false

theorem c_far (v : Int) (y : Bool) (hy : y = farS v) : Call .plain 16 [I v] (B y) := by
  refine call_of Proofs.Tryz.func16 Proofs.Tryz.call16 rfl rfl fun M C hM hC => ?_
  cbv
  repeat' (split <;> rename_i h <;> (try simp only [h]) <;> (try cbv))
  all_goals (subst hM; rw [hy]; simp only [farS, truthS, impliedS]; simp_all)
  all_goals omega

theorem c_truth (b : Int) (so : Bool) (y : Bool) (hy : y = truthS b so) : Call .plain 41 [I b, B so] (B y) := by
  refine call_of Proofs.Tryz.func41 Proofs.Tryz.call41 rfl rfl fun M C hM hC => ?_
  cbv
  repeat' (split <;> rename_i h <;> (try simp only [h]) <;> (try cbv))
  all_goals (subst hM; rw [hy]; simp only [farS, truthS, impliedS]; simp_all)

theorem c_implied (b : Int) (so : Bool) (y : Bool) (hy : y = impliedS b so) : Call .plain 42 [I b, B so] (B y) := by
  refine call_of Proofs.Tryz.func42 Proofs.Tryz.call42 rfl rfl fun M C hM hC => ?_
  cbv
  repeat' (split <;> rename_i h <;> (try simp only [h]) <;> (try cbv))
  all_goals (subst hM; rw [hy]; simp only [farS, truthS, impliedS]; simp_all)
