/- ground.apart. -/
import Derived.Test.YtlgoiaembdlemaaGreatSl2
import Derived.Test.YtlgoiaembdlemaaGreatPic
set_option linter.unusedSimpArgs false
set_option linter.unusedVariables false
namespace Go.Pi
open Go
set_option linter.unusedVariables false

theorem c_apart (rx : List (List PV)) (x : List Int) (hx : rx = ints x) (h64 : x.length ≤ 1000000) (y : Bool) (hy : y = apartS x) : Call .plain 20 [.list 1 rx] (B y) := by
  have hc1 := c_sorted x h64 rx hx
  have hc2 := c_compact (sortS x) (by rw [sortS_len]; exact h64)
  have hc0 := c_valuesIter rx
  generalize hq : ints (sortS x) = q at hc1 hc2
  generalize hz : ints (Lib.compact (sortS x)) = z at hc2
  refine call_of Proofs.Tryz.func20 Proofs.Tryz.call20 rfl rfl fun M C hM hC => ?_
  cbv
  refine .mk _ (use_call hC hc0) ?_
  cbv
  refine .new _ _ _ (use_call hC hc1) ?_
  cbv
  refine .inr (.back _ (use_call hC hc2) ?_)
  cbv
  subst hM
  rw [hy, real_eql, ← hz, hx]
  have e : ((Lib.compact (sortS x)).length == x.length) = (((Lib.compact (sortS x)).length : Int) == x.length) := by rw [Bool.eq_iff_iff]; simp; omega
  simp [apartS, e]
