/- Package model: the kinds' forms. -/
import Derived.Test.YtlgoiaembdlemaaGreatSt1
import Derived.Test.YtlgoiaembdlemaaGreatSl1
import Derived.Test.YtlgoiaembdlemaaGreatPic
set_option linter.unusedSimpArgs false
set_option linter.unusedVariables false
namespace Go.Pi
open Go
set_option linter.unusedVariables false

theorem c_within (n a b : Int) (y : Bool) (hy : y = withinS n a b) : Call .plain 62 [I n, I a, I b] (B y) := by
  refine call_of Proofs.Tryz.func62 Proofs.Tryz.call62 rfl rfl fun M C hM hC => ?_
  cbv
  repeat' (split <;> rename_i h <;> (try simp only [h]) <;> (try cbv))
  all_goals (subst hM; rw [hy]; unfold withinS; simp_all)
  all_goals omega

theorem c_forms (r : List (List PV)) (hr : r = formsPV) : Call .plain 61 [] (.list 2 r) := by
  refine call_of Proofs.Tryz.func61 Proofs.Tryz.call61 rfl rfl fun M C hM hC => ?_
  cbv
  exact ⟨hr.symm, trivial⟩

theorem c_word (k : Int) (w : ByteArray) (ok : Bool) (hw : w = bs (wordS k)) (hok : ok = decide (1 ≤ k ∧ k ≤ 23)) : Call .plain 60 [I k] (.tup [Str w, B ok]) := by
  have hf : ∃ r, r = formsPV := ⟨_, rfl⟩
  obtain ⟨r, hr⟩ := hf
  have cf := c_forms r hr
  have hlen : r.length = 23 := by rw [hr]; rfl
  refine call_of Proofs.Tryz.func60 Proofs.Tryz.call60 rfl rfl fun M C hM hC => ?_
  cbv
  split <;> rename_i h <;> (try simp only [h]) <;> (try cbv)
  · have h1 : k < 1 := by subst hM; simpa using h
    have e : ¬ (1 ≤ k ∧ k ≤ 23) := by omega
    rw [hw, hok]
    simp [e, wordS, bs]
  · have h1 : ¬ k < 1 := by subst hM; simp at h; omega
    refine .mk _ (use_call hC cf) ?_
    cbv
    split <;> rename_i h <;> (try simp only [h]) <;> (try cbv)
    · have h2 : k > 23 := by subst hM; simpa [hlen] using h
      have e : ¬ (1 ≤ k ∧ k ≤ 23) := by omega
      rw [hw, hok]
      simp [e, wordS, bs]
    · have h2 : ¬ k > 23 := by subst hM; simp [hlen] at h; omega
      refine .mk _ (use_call hC cf) ?_
      cbv
      have e1 : M .arith .sub .i64 k 1 = k - 1 := by subst hM; simp; rw [wrap_i64 (by omega) (by omega)]
      have e2 : (k - 1).toNat + 1 = k := by omega
      have hg := forms_get (k - 1).toNat (by omega)
      rw [show (((k - 1).toNat : Nat) : Int) + 1 = k from by omega] at hg
      generalize hz : Str (bs (shapeS k)) = z at hg
      have hg : formsPV[(k - 1).toNat]? = some [Str w, z] := by rw [hg, hw]
      refine .mk [Str w, z] (by rw [e1]; omega) (by rw [e1, hr]; exact hg) ?_
      cbv
      have e : (1 ≤ k ∧ k ≤ 23) := by omega
      simp [hok, e]

theorem c_shape (k : Int) (w : ByteArray) (hw : w = bs (shapeS k)) : Call .plain 32 [I k] (Str w) := by
  have hf : ∃ r, r = formsPV := ⟨_, rfl⟩
  obtain ⟨r, hr⟩ := hf
  have cf := c_forms r hr
  obtain ⟨u, hu⟩ : ∃ u, u = bs (wordS k) := ⟨_, rfl⟩
  obtain ⟨ok, hok⟩ : ∃ ok, ok = decide (1 ≤ k ∧ k ≤ 23) := ⟨_, rfl⟩
  have cw := c_word k u ok hu hok
  refine call_of Proofs.Tryz.func32 Proofs.Tryz.call32 rfl rfl fun M C hM hC => ?_
  cbv
  refine .mk _ (use_call hC cw) ?_
  cbv
  have hn : M .not ok = !ok := by subst hM; rfl
  cases ok
  · have e : ¬ (1 ≤ k ∧ k ≤ 23) := by simpa using hok
    have hn : M .not false = true := by subst hM; rfl
    simp only [hn]
    cbv
    rw [hw]
    simp [e, shapeS, bs]
  · have e : (1 ≤ k ∧ k ≤ 23) := by simpa using hok
    have hn : M .not true = false := by subst hM; rfl
    simp only [hn]
    cbv
    refine .mk _ (use_call hC cf) ?_
    cbv
    have e1 : M .arith .sub .i64 k 1 = k - 1 := by subst hM; simp; rw [wrap_i64 (by omega) (by omega)]
    have hg := forms_get (k - 1).toNat (by omega)
    rw [show (((k - 1).toNat : Nat) : Int) + 1 = k from by omega] at hg
    generalize hz : Str (bs (wordS k)) = z at hg
    have hg : formsPV[(k - 1).toNat]? = some [z, Str w] := by rw [hg, hw]
    refine .mk [z, Str w] (by rw [e1]; omega) (by rw [e1, hr]; exact hg) ?_
    cbv
