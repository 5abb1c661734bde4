/- jigsawref06.Make: all classes. -/
import Derived.Test.YtlgoiaembdlemaaGreatRf2a
import Derived.Test.YtlgoiaembdlemaaGreatRf2b
import Derived.Test.YtlgoiaembdlemaaGreatRf2c
import Derived.Test.YtlgoiaembdlemaaGreatRf2d
set_option linter.unusedSimpArgs false
set_option linter.unusedVariables false
namespace Go.Pi
open Go
set_option linter.unusedVariables false

theorem c_make (z : Small) (zk zK zc : Int) (zA zB zC : List (List PV)) (R : SmallR z zk zA zB zC zK zc) (vars : Int) (hv : 1 ≤ vars ∧ vars ≤ 1000000) (kind K : Int) (rA rB rC rD rE rR : List (List PV)) (H : ConR (makeS z vars) kind rA rB rC rD rE K rR) :
    Call .plain 4 [.agg [U8 zk, .list 1 zA, .list 1 zB, .list 1 zC, I16 zK, U8 zc], I vars] (.agg [I kind, .list 1 rA, .list 1 rB, .list 1 rC, .list 1 rD, .list 1 rE, I K, .list 1 rR]) := by
  have kb := tmod_le z.kind (b := 23) (by decide)
  have kn : 0 ≤ z.kind.tmod 23 := Int.tmod_nonneg _ R.bk.1
  rcases kinds23 (k := 1 + z.kind.tmod 23) (by omega) with hk | hk | hk | hk | hk | hk | hk | hk | hk | hk | hk | hk | hk | hk | hk | hk | hk | hk | hk | hk | hk | hk | hk
  · exact c_make1 z zk zK zc zA zB zC R vars hv kind K rA rB rC rD rE rR H (by omega)
  · exact c_make1 z zk zK zc zA zB zC R vars hv kind K rA rB rC rD rE rR H (by omega)
  · exact c_make1 z zk zK zc zA zB zC R vars hv kind K rA rB rC rD rE rR H (by omega)
  · exact c_make4 z zk zK zc zA zB zC R vars hv kind K rA rB rC rD rE rR H (by omega)
  · exact c_make5 z zk zK zc zA zB zC R vars hv kind K rA rB rC rD rE rR H (by omega)
  · exact c_make5 z zk zK zc zA zB zC R vars hv kind K rA rB rC rD rE rR H (by omega)
  · exact c_make5 z zk zK zc zA zB zC R vars hv kind K rA rB rC rD rE rR H (by omega)
  · exact c_make8 z zk zK zc zA zB zC R vars hv kind K rA rB rC rD rE rR H (by omega)
  · exact c_make5 z zk zK zc zA zB zC R vars hv kind K rA rB rC rD rE rR H (by omega)
  · exact c_make5 z zk zK zc zA zB zC R vars hv kind K rA rB rC rD rE rR H (by omega)
  · exact c_make11 z zk zK zc zA zB zC R vars hv kind K rA rB rC rD rE rR H (by omega)
  · exact c_make12 z zk zK zc zA zB zC R vars hv kind K rA rB rC rD rE rR H (by omega)
  · exact c_make13 z zk zK zc zA zB zC R vars hv kind K rA rB rC rD rE rR H (by omega)
  · exact c_make13 z zk zK zc zA zB zC R vars hv kind K rA rB rC rD rE rR H (by omega)
  · exact c_make13 z zk zK zc zA zB zC R vars hv kind K rA rB rC rD rE rR H (by omega)
  · exact c_make13 z zk zK zc zA zB zC R vars hv kind K rA rB rC rD rE rR H (by omega)
  · exact c_make17 z zk zK zc zA zB zC R vars hv kind K rA rB rC rD rE rR H (by omega)
  · exact c_make18 z zk zK zc zA zB zC R vars hv kind K rA rB rC rD rE rR H (by omega)
  · exact c_make19 z zk zK zc zA zB zC R vars hv kind K rA rB rC rD rE rR H (by omega)
  · exact c_make17 z zk zK zc zA zB zC R vars hv kind K rA rB rC rD rE rR H (by omega)
  · exact c_make21 z zk zK zc zA zB zC R vars hv kind K rA rB rC rD rE rR H (by omega)
  · exact c_make12 z zk zK zc zA zB zC R vars hv kind K rA rB rC rD rE rR H (by omega)
  · exact c_make12 z zk zK zc zA zB zC R vars hv kind K rA rB rC rD rE rR H (by omega)
