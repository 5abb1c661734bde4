/- jigsawlaw09.GroundOrder. -/
import Derived.Test.YtlgoiaembdlemaaLw2
set_option linter.unusedSimpArgs false
set_option linter.unusedVariables false
namespace Go.Pi
open Go
set_option linter.unusedVariables false

theorem c_back (rl : List (List PV)) (l : List Int) (hl : rl = ints l) (h64 : l.length ≤ 1000000) (r : List (List PV)) (hr : r = ints l.reverse) : Call .plain 13 [.list 1 rl] (.list 1 r) := by
  have c1 := c_cloneI rl (by rw [hl]; simp; omega)
  have c2 := c_reverseI l h64 rl r hl hr
  refine call_of Proofs.Try.func13 Proofs.Try.call13 rfl rfl fun M C hM hC => ?_
  cbv
  refine .new _ _ _ (use_call hC c1) ?_
  cbv
  refine .inr (.val _ _ (use_call hC c2) ?_)
  cbv

set_option maxHeartbeats 4000000 in
theorem c_groundOrder (z : Small) (zk zK zc : Int) (zA zB zC : List (List PV)) (R : SmallR z zk zA zB zC zK zc) (a : List Int) (ra : List (List PV)) (ha : ra = ints a) :
    Call .plain 4 [.agg [U8 zk, .list 1 zA, .list 1 zB, .list 1 zC, I16 zK, U8 zc], .list 1 ra] (B true) := by
  have ml := make_lens z 5
  obtain ⟨c, hc⟩ : ∃ c, c = makeS z 5 := ⟨_, rfl⟩
  rw [← hc] at ml
  obtain ⟨m1, m2, m3, m4, m5, m6⟩ := ml
  obtain ⟨kind, rA, rB, rC, rD, rE, K, rR, H⟩ : ∃ kind rA rB rC rD rE K rR, ConR c kind rA rB rC rD rE K rR := ⟨_, _, _, _, _, _, _, _, ⟨rfl, rfl, rfl, rfl, rfl, rfl, rfl, rfl⟩⟩
  have cm := c_make z zk zK zc zA zB zC R 5 (by decide) kind K rA rB rC rD rE rR (by rw [← hc]; exact H)
  have vl := nearS_len a 5
  obtain ⟨v, hv⟩ : ∃ v, v = nearS a 5 := ⟨_, rfl⟩
  rw [← hv] at vl
  obtain ⟨rv, hrv⟩ : ∃ rv, rv = ints v := ⟨_, rfl⟩
  have cn := c_near ra a 5 ha (by decide) rv (by rw [hrv, hv]; rfl)
  have cw := c_wakes
  obtain ⟨p, hp⟩ : ∃ p, p = holdsS c v := ⟨_, rfl⟩
  have c1 := c_holds c v kind K rA rB rC rD rE rR rv H hrv (by omega) (lim_small (by rw [H.A]; simp; omega)) (lim_small (by rw [H.B]; simp; omega)) (lim_small (by rw [H.C]; simp; omega)) (lim_small (by rw [H.D]; simp; omega)) (lim_small (by rw [H.E]; simp; omega)) (lim_small (by rw [H.R]; simp; omega)) p hp
  obtain ⟨sA, hsA⟩ : ∃ sA, sA = ints c.A.reverse := ⟨_, rfl⟩
  obtain ⟨sB, hsB⟩ : ∃ sB, sB = ints c.B.reverse := ⟨_, rfl⟩
  obtain ⟨sC, hsC⟩ : ∃ sC, sC = ints c.C.reverse := ⟨_, rfl⟩
  obtain ⟨sD, hsD⟩ : ∃ sD, sD = ints c.D.reverse := ⟨_, rfl⟩
  obtain ⟨sR, hsR⟩ : ∃ sR, sR = rowsOf c.R.reverse := ⟨_, rfl⟩
  have bA := c_back rA c.A H.A (by omega) sA hsA
  have bB := c_back rB c.B H.B (by omega) sB hsB
  have bC := c_back rC c.C H.C (by omega) sC hsC
  have bD := c_back rD c.D H.D (by omega) sD hsD
  have kR := c_cloneR rR (by rw [H.R]; simp; omega)
  have rawR : rR = rowsRaw (c.R.map ints) := by rw [H.R]; simp [rowsOf, rowsRaw]
  have bR := c_reverseR (c.R.map ints) (by simp; omega) rR sR rawR (by rw [hsR]; simp [rowsOf, rowsRaw])
  have c2 : ∀ (d : Con) (dA dB dC dD dR : List (List PV)), ConR d kind dA dB dC dD rE K dR → dA.length ≤ 10 → dB.length ≤ 10 → dC.length ≤ 10 → dD.length ≤ 10 → dR.length ≤ 10 → holdsS d v = holdsS c v → Call .plain 8 [.agg [I kind, .list 1 dA, .list 1 dB, .list 1 dC, .list 1 dD, .list 1 rE, I K, .list 1 dR], .list 1 rv] (B p) := fun d dA dB dC dD dR Hd l1 l2 l3 l4 l5 he =>
    c_holds d v kind K dA dB dC dD rE dR rv Hd hrv (by omega) (lim_small (by omega)) (lim_small (by omega)) (lim_small (by omega)) (lim_small (by omega)) (lim_small (by rw [H.E]; simp; omega)) (lim_small (by omega)) p (hp.trans he.symm)
  have lA : rA.length ≤ 10 := by rw [H.A]; simp; omega
  have lB : rB.length ≤ 10 := by rw [H.B]; simp; omega
  have lC : rC.length ≤ 10 := by rw [H.C]; simp; omega
  have lD : rD.length ≤ 10 := by rw [H.D]; simp; omega
  have lR : rR.length ≤ 10 := by rw [H.R]; simp; omega
  have lsA : sA.length ≤ 10 := by rw [hsA]; simp; omega
  have lsB : sB.length ≤ 10 := by rw [hsB]; simp; omega
  have lsC : sC.length ≤ 10 := by rw [hsC]; simp; omega
  have lsD : sD.length ≤ 10 := by rw [hsD]; simp; omega
  have lsR : sR.length ≤ 10 := by rw [hsR]; simp; omega
  have hkd := H.kind
  have cA := c2 { c with A := c.A.reverse } sA rB rC rD rR ⟨H.kind, hsA, H.B, H.C, H.D, H.E, H.K, H.R⟩ lsA lB lC lD lR
  have cAB := c2 { c with A := c.A.reverse, B := c.B.reverse } sA sB rC rD rR ⟨H.kind, hsA, hsB, H.C, H.D, H.E, H.K, H.R⟩ lsA lsB lC lD lR
  have cAC := c2 { c with A := c.A.reverse, C := c.C.reverse } sA rB sC rD rR ⟨H.kind, hsA, H.B, hsC, H.D, H.E, H.K, H.R⟩ lsA lB lsC lD lR
  have cACD := c2 { c with A := c.A.reverse, C := c.C.reverse, D := c.D.reverse } sA rB sC sD rR ⟨H.kind, hsA, H.B, hsC, hsD, H.E, H.K, H.R⟩ lsA lB lsC lsD lR
  have cR := c2 { c with R := c.R.reverse } rA rB rC rD sR ⟨H.kind, H.A, H.B, H.C, H.D, H.E, H.K, hsR⟩ lA lB lC lD lsR
  clear c2 lA lB lC lD lR lsA lsB lsC lsD lsR hsA hsB hsC hsD hsR rawR
  refine call_of Proofs.Try.func4 Proofs.Try.call4 rfl rfl fun M C hM hC => ?_
  have hb1 : M .beq .eql p p = true := by subst hM; cases p <;> rfl
  have eql : ∀ b, M .cmp .eql kind b = (kind == b) := fun b => by subst hM; rfl
  cbv
  refine .mk _ (use_call hC cn) ?_
  cbv
  refine .mk _ (use_call hC cm) ?_
  cbv
  clear cn cm
  by_cases h4 : kind = 1 ∨ kind = 2 ∨ kind = 3 ∨ kind = 4
  · have cd := cAC (order_lin (by omega))
    clear cA cAB cAC cACD cR bB bD kR bR
    have kk : (M .cmp .eql kind 1 = true) ∨ (M .cmp .eql kind 1 = false ∧ M .cmp .eql kind 2 = true) ∨ (M .cmp .eql kind 1 = false ∧ M .cmp .eql kind 2 = false ∧ M .cmp .eql kind 3 = true) ∨ (M .cmp .eql kind 1 = false ∧ M .cmp .eql kind 2 = false ∧ M .cmp .eql kind 3 = false ∧ M .cmp .eql kind 4 = true) := by
      rw [eql, eql, eql, eql]
      rcases h4 with h | h | h | h <;> rw [h] <;> decide
    clear eql
    rcases kk with K1 | ⟨K1, K2⟩ | ⟨K1, K2, K3⟩ | ⟨K1, K2, K3, K4⟩
    all_goals (
      simp only [K1]
      cbv
      try (simp only [K2]; cbv)
      try (simp only [K3]; cbv)
      try (simp only [K4]; cbv)
      refine .mk _ (use_call hC bA) ?_
      cbv
      refine .mk _ (use_call hC bC) ?_
      cbv
      refine .mk _ (use_call hC cw) ?_
      cbv
      refine .mk _ (use_call hC c1) ?_
      cbv
      refine .mk _ (use_call hC cd) ?_
      cbv
      simp only [hb1])
  · have K1 : M .cmp .eql kind 1 = false := by rw [eql]; simp; omega
    have K2 : M .cmp .eql kind 2 = false := by rw [eql]; simp; omega
    have K3 : M .cmp .eql kind 3 = false := by rw [eql]; simp; omega
    have K4 : M .cmp .eql kind 4 = false := by rw [eql]; simp; omega
    by_cases h17 : kind = 17 ∨ kind = 21
    · have cd := cA (by rcases h17 with h | h; exact order_all (by omega); exact order_gcc (by omega))
      clear cA cAB cAC cACD cR bB bC bD kR bR
      have kk : (M .cmp .eql kind 17 = true) ∨ (M .cmp .eql kind 17 = false ∧ M .cmp .eql kind 21 = true) := by
        rw [eql, eql]
        rcases h17 with h | h <;> rw [h] <;> decide
      clear eql
      rcases kk with K17 | ⟨K17, K21⟩
      all_goals (
        simp only [K1]
        cbv
        simp only [K2]
        cbv
        simp only [K3]
        cbv
        simp only [K4]
        cbv
        simp only [K17]
        cbv
        try (simp only [K21]; cbv)
        refine .mk _ (use_call hC bA) ?_
        cbv
        refine .mk _ (use_call hC cw) ?_
        cbv
        refine .mk _ (use_call hC c1) ?_
        cbv
        refine .mk _ (use_call hC cd) ?_
        cbv
        simp only [hb1])
    · have K17 : M .cmp .eql kind 17 = false := by rw [eql]; simp; omega
      have K21 : M .cmp .eql kind 21 = false := by rw [eql]; simp; omega
      have pre : True := trivial
      by_cases h12 : kind = 12
      · have K12 : M .cmp .eql kind 12 = true := by rw [eql, h12]; rfl
        have cd := cAB (order_clause (by omega))
        clear cA cAB cAC cACD cR bC bD kR bR eql
        simp only [K1]
        cbv
        simp only [K2]
        cbv
        simp only [K3]
        cbv
        simp only [K4]
        cbv
        simp only [K17]
        cbv
        simp only [K21]
        cbv
        simp only [K12]
        cbv
        refine .mk _ (use_call hC bA) ?_
        cbv
        refine .mk _ (use_call hC bB) ?_
        cbv
        refine .mk _ (use_call hC cw) ?_
        cbv
        refine .mk _ (use_call hC c1) ?_
        cbv
        refine .mk _ (use_call hC cd) ?_
        cbv
        simp only [hb1]
      · have K12 : M .cmp .eql kind 12 = false := by rw [eql]; simp; omega
        by_cases h19 : kind = 19
        · have K19 : M .cmp .eql kind 19 = true := by rw [eql, h19]; rfl
          have cd := cACD (order_cumul (by omega))
          clear cA cAB cAC cACD cR bB kR bR eql
          simp only [K1]
          cbv
          simp only [K2]
          cbv
          simp only [K3]
          cbv
          simp only [K4]
          cbv
          simp only [K17]
          cbv
          simp only [K21]
          cbv
          simp only [K12]
          cbv
          simp only [K19]
          cbv
          refine .mk _ (use_call hC bA) ?_
          cbv
          refine .mk _ (use_call hC bC) ?_
          cbv
          refine .mk _ (use_call hC bD) ?_
          cbv
          refine .mk _ (use_call hC cw) ?_
          cbv
          refine .mk _ (use_call hC c1) ?_
          cbv
          refine .mk _ (use_call hC cd) ?_
          cbv
          simp only [hb1]
        · have K19 : M .cmp .eql kind 19 = false := by rw [eql]; simp; omega
          by_cases h18 : kind = 18
          · have K18 : M .cmp .eql kind 18 = true := by rw [eql, h18]; rfl
            have cd := cR (order_table (by omega))
            clear cA cAB cAC cACD cR bA bB bC bD eql
            simp only [K1]
            cbv
            simp only [K2]
            cbv
            simp only [K3]
            cbv
            simp only [K4]
            cbv
            simp only [K17]
            cbv
            simp only [K21]
            cbv
            simp only [K12]
            cbv
            simp only [K19]
            cbv
            simp only [K18]
            cbv
            refine .new _ _ _ (use_call hC kR) ?_
            cbv
            refine .inr (.val _ _ (use_call hC bR) ?_)
            cbv
            refine .mk _ (use_call hC cw) ?_
            cbv
            refine .mk _ (use_call hC c1) ?_
            cbv
            refine .mk _ (use_call hC cd) ?_
            cbv
            simp only [hb1]
          · have K18 : M .cmp .eql kind 18 = false := by rw [eql]; simp; omega
            clear cA cAB cAC cACD cR bA bB bC bD eql
            simp only [K1]
            cbv
            simp only [K2]
            cbv
            simp only [K3]
            cbv
            simp only [K4]
            cbv
            simp only [K17]
            cbv
            simp only [K21]
            cbv
            simp only [K12]
            cbv
            simp only [K19]
            cbv
            simp only [K18]
            cbv
            refine .mk _ (use_call hC cw) ?_
            cbv
            refine .mk _ (use_call hC c1) ?_
            cbv
            refine .mk _ (use_call hC c1) ?_
            cbv
            simp only [hb1]
