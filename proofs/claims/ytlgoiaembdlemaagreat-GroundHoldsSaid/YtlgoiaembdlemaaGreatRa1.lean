/- Package jigsawref06: Arity. -/
import Derived.Test.YtlgoiaembdlemaaGreatRa1a
import Derived.Test.YtlgoiaembdlemaaGreatRa1b
import Derived.Test.YtlgoiaembdlemaaGreatRa1c
import Derived.Test.YtlgoiaembdlemaaGreatRa1d
import Derived.Test.YtlgoiaembdlemaaGreatRa1e
import Derived.Test.YtlgoiaembdlemaaGreatRa1f
import Derived.Test.YtlgoiaembdlemaaGreatRa1g
set_option linter.unusedSimpArgs false
set_option linter.unusedVariables false
namespace Go.Pi
open Go
theorem c_arity (c : Con) (kind K : Int) (rA rB rC rD rE rR : List (List PV)) (w : ByteArray) (H : ConR c kind rA rB rC rD rE K rR) (hw : w = bs (shapeS c.kind)) (h23 : 1 ≤ c.kind ∧ c.kind ≤ 23)
    (la : lim rA) (lb : lim rB) (lc : lim rC) (ld : lim rD) (le : lim rE) (lr : lim rR) (y : Bool) (hy : y = arityS c) :
    Call .plain 49 [.agg [I kind, .list 1 rA, .list 1 rB, .list 1 rC, .list 1 rD, .list 1 rE, I K, .list 1 rR], Str w] (B y) := by
  obtain h | h | h | h | h | h | h : (c.kind = 12) ∨ (c.kind = 18) ∨ (c.kind ≤ 4) ∨ (c.kind = 19) ∨ (c.kind = 21) ∨ (c.kind ≥ 22) ∨ (5 ≤ c.kind ∧ c.kind ≤ 11 ∨ 13 ≤ c.kind ∧ c.kind ≤ 17 ∨ c.kind = 20) := by omega
  · exact c_arity12 c kind K rA rB rC rD rE rR w H hw h23 la lb lc ld le lr y hy h
  · exact c_arityh18 c kind K rA rB rC rD rE rR w H hw h23 la lb lc ld le lr y hy h
  · exact c_arityh4 c kind K rA rB rC rD rE rR w H hw h23 la lb lc ld le lr y hy h
  · exact c_arityh19 c kind K rA rB rC rD rE rR w H hw h23 la lb lc ld le lr y hy h
  · exact c_arityh21 c kind K rA rB rC rD rE rR w H hw h23 la lb lc ld le lr y hy h
  · exact c_arityh22 c kind K rA rB rC rD rE rR w H hw h23 la lb lc ld le lr y hy h
  · exact c_arityh0 c kind K rA rB rC rD rE rR w H hw h23 la lb lc ld le lr y hy h
