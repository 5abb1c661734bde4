/- jigsawlaw09.GroundTurns. -/
import Derived.Test.YtlgoiaembdlemaaLw1
set_option linter.unusedSimpArgs false
set_option linter.unusedVariables false
namespace Go.Pi
open Go
set_option linter.unusedVariables false

/-- A constraint that shows itself, with short lists. -/
theorem c_holdsK (c : Con) (v : List Int) (k kind K : Int) (rA rB rC rD rE rR rv : List (List PV)) (H : ConR c kind rA rB rC rD rE K rR) (hv : rv = ints v) (hl : v.length ≤ 1000000)
    (h1 : c.A.length ≤ 1000000) (h2 : c.B.length ≤ 1000000) (h3 : c.C.length ≤ 1000000) (h4 : c.D.length ≤ 1000000) (h5 : c.E.length ≤ 1000000) (h6 : c.R.length ≤ 1000000) (y : Bool) (hy : y = holdsS { c with kind := k } v) :
    Call .plain 8 [.agg [I k, .list 1 rA, .list 1 rB, .list 1 rC, .list 1 rD, .list 1 rE, I K, .list 1 rR], .list 1 rv] (B y) :=
  c_holds { c with kind := k } v k K rA rB rC rD rE rR rv ⟨rfl, H.A, H.B, H.C, H.D, H.E, H.K, H.R⟩ hv hl (lim_small (by rw [H.A]; simpa using h1)) (lim_small (by rw [H.B]; simpa using h2)) (lim_small (by rw [H.C]; simpa using h3)) (lim_small (by rw [H.D]; simpa using h4)) (lim_small (by rw [H.E]; simpa using h5)) (lim_small (by rw [H.R]; simpa using h6)) y hy

set_option maxHeartbeats 4000000 in
theorem c_groundTurns (z : Small) (zk zK zc : Int) (zA zB zC : List (List PV)) (R : SmallR z zk zA zB zC zK zc) (a : List Int) (ra : List (List PV)) (ha : ra = ints a) :
    Call .plain 3 [.agg [U8 zk, .list 1 zA, .list 1 zB, .list 1 zC, I16 zK, U8 zc], .list 1 ra] (B true) := by
  have ml := make_lens z 5
  have hA0 : ∀ v ∈ z.A, 0 ≤ v := fun v hv => (R.bA v hv).1
  have TL := fun c hc => turn_lin (c := c) (z := z) (a := a) hc hA0
  obtain ⟨c, hc⟩ : ∃ c, c = makeS z 5 := ⟨_, rfl⟩
  have TL := TL c hc
  rw [← hc] at ml
  obtain ⟨m1, m2, m3, m4, m5, m6⟩ := ml
  obtain ⟨kind, rA, rB, rC, rD, rE, K, rR, H⟩ : ∃ kind rA rB rC rD rE K rR, ConR c kind rA rB rC rD rE K rR := ⟨_, _, _, _, _, _, _, _, ⟨rfl, rfl, rfl, rfl, rfl, rfl, rfl, rfl⟩⟩
  have cm := c_make z zk zK zc zA zB zC R 5 (by decide) kind K rA rB rC rD rE rR (by rw [← hc]; exact H)
  have vl := nearS_len a 5
  obtain ⟨v, hv⟩ : ∃ v, v = nearS a 5 := ⟨_, rfl⟩
  rw [← hv] at TL vl
  obtain ⟨rv, hrv⟩ : ∃ rv, rv = ints v := ⟨_, rfl⟩
  have cn := c_near ra a 5 ha (by decide) rv (by rw [hrv, hv]; rfl)
  have cw := c_wakes
  have ch : ∀ k y, y = holdsS { c with kind := k } v → Call .plain 8 [.agg [I k, .list 1 rA, .list 1 rB, .list 1 rC, .list 1 rD, .list 1 rE, I K, .list 1 rR], .list 1 rv] (B y) := fun k y hy =>
    c_holdsK c v k kind K rA rB rC rD rE rR rv H hrv (by omega) (by omega) (by omega) (by omega) (by omega) (by omega) (by omega) y hy
  have cself : ∀ k, c.kind = k → { c with kind := k } = c := fun k h => by rw [← h]
  have cwith := fun k => c_with k kind K rA rB rC rD rE rR
  have hkd := H.kind
  refine call_of Proofs.Try.func3 Proofs.Try.call3 rfl rfl fun M C hM hC => ?_
  have nf : M .not false = true := by subst hM; rfl
  have nt : M .not true = false := by subst hM; rfl
  have eql : ∀ b, M .cmp .eql kind b = (kind == b) := fun b => by subst hM; rfl
  cbv
  refine .mk _ (use_call hC cn) ?_
  cbv
  refine .mk _ (use_call hC cm) ?_
  cbv
  clear cn cm
  by_cases h13 : kind = 1 ∨ kind = 3
  · have e : ∀ b, M .cmp .eql kind b = (kind == b) := eql
    obtain ⟨t1, t2⟩ := TL (by omega)
    have hb : ∀ p : Bool, M .beq .eql (!p) p = false := fun p => by subst hM; cases p <;> rfl
    obtain ⟨p, hp⟩ : ∃ p, p = holdsS { c with kind := 3 } v := ⟨_, rfl⟩
    rw [← hp] at t1
    have c1 := ch 1 (!p) t1.symm
    have c3 := ch 3 p hp
    obtain ⟨p2, hp2⟩ : ∃ p2, p2 = holdsS { c with kind := 2 } v := ⟨_, rfl⟩
    have c2 := ch 2 p2 hp2
    rw [t1, ← hp2] at t2
    have hk13 : (M .cmp .eql kind 1 = true) ∨ (M .cmp .eql kind 1 = false ∧ M .cmp .eql kind 3 = true) := by
      rcases h13 with h | h
      · exact .inl (by rw [eql, h]; rfl)
      · exact .inr ⟨by rw [eql, h]; rfl, by rw [eql, h]; rfl⟩
    clear eql e TL
    rcases hk13 with K1 | ⟨K1, K3⟩
    all_goals (
      simp only [K1]
      cbv
      try (simp only [K3]; cbv)
      refine .mk _ (use_call hC (cwith 1)) ?_
      cbv
      generalize hq : (!p) = q at c1 t2 hb
      have hb := hb
      refine .mk _ (use_call hC c1) ?_
      cbv
      refine .mk _ (use_call hC (cwith 3)) ?_
      cbv
      refine .mk _ (use_call hC c3) ?_
      cbv
      have hb1 : M .beq .eql q p = false := by subst hM; rw [← hq]; cases p <;> rfl
      simp only [hb1]
      cbv
      refine .mk _ (use_call hC (cwith 1)) ?_
      cbv
      refine .mk _ (use_call hC c1) ?_
      cbv
      cases q
      · cbv
        refine .mk _ (use_call hC cw) ?_
        cbv
      · cbv
        have t2 := t2 rfl
        subst t2
        refine .mk _ (use_call hC (cwith 2)) ?_
        cbv
        refine .mk _ (use_call hC c2) ?_
        cbv
        simp only [nt]
        cbv
        refine .mk _ (use_call hC cw) ?_
        cbv)
  · have K1 : M .cmp .eql kind 1 = false := by rw [eql]; simp; omega
    have K3 : M .cmp .eql kind 3 = false := by rw [eql]; simp; omega
    clear TL
    by_cases hr : kind = 13 ∨ kind = 14
    · obtain ⟨half, hh⟩ : ∃ half : Int, c.kind = 13 ∧ half = 15 ∨ c.kind = 14 ∧ half = 16 := by
        rcases hr with h | h
        · exact ⟨15, .inl ⟨by omega, rfl⟩⟩
        · exact ⟨16, .inr ⟨by omega, rfl⟩⟩
      have TR := fun h => turn_reif (c := c) (a := v) (k := half) hh h
      obtain ⟨p, hp⟩ : ∃ p, p = holdsS c v := ⟨_, rfl⟩
      rw [← hp] at TR
      obtain ⟨p2, hp2⟩ : ∃ p2, p2 = holdsS { c with kind := half } v := ⟨_, rfl⟩
      rw [← hp2] at TR
      have c1 := ch kind p (by rw [hp, cself kind hkd.symm])
      have c2 := ch half p2 hp2
      have kk : (kind = 13 ∧ half = 15 ∧ M .cmp .eql kind 13 = true ∧ M .cmp .eql kind 14 = false) ∨ (kind = 14 ∧ half = 16 ∧ M .cmp .eql kind 13 = false ∧ M .cmp .eql kind 14 = true) := by
        rcases hh with ⟨h, h2⟩ | ⟨h, h2⟩
        · exact .inl ⟨by omega, h2, by rw [eql, show kind = 13 from by omega]; rfl, by rw [eql, show kind = 13 from by omega]; rfl⟩
        · exact .inr ⟨by omega, h2, by rw [eql, show kind = 14 from by omega]; rfl, by rw [eql, show kind = 14 from by omega]; rfl⟩
      have hBB := H.B
      clear eql hr hh hp hp2
      rcases kk with ⟨_, hhf, K13, K14⟩ | ⟨_, hhf, K13, K14⟩
      all_goals (
        subst hhf
        simp only [K1]
        cbv
        simp only [K3]
        cbv
        simp only [K13]
        cbv
        try (simp only [K14]; cbv)
        try (simp only [K14]; cbv)
        refine .mk _ (use_call hC c1) ?_
        cbv
        cases p
        · cbv
          refine .mk _ (use_call hC c1) ?_
          cbv
          refine .mk _ (use_call hC cw) ?_
          cbv
        · obtain ⟨t1, t2, t3⟩ := TR rfl
          subst t1
          obtain ⟨b, hb⟩ : ∃ b, b = c.B.getD 0 0 := ⟨_, rfl⟩
          obtain ⟨b1, b2, b3⟩ := t3 b hb
          obtain ⟨u, hu⟩ : ∃ u, u = v.getD b.toNat 0 := ⟨_, rfl⟩
          rw [← hu] at b3
          have u01 : (M .cmp .neq u 0 = false) ∨ (M .cmp .neq u 0 = true ∧ M .cmp .neq u 1 = false) := by
            subst hM
            rcases b3 with h | h
            · exact .inl (by rw [h]; rfl)
            · exact .inr ⟨by rw [h]; rfl, by rw [h]; rfl⟩
          have ib : ∀ {K : List PV → Prop}, K [I b] → Idx rB 0 K := fun k => idx_ints hBB (by decide) (by rw [t2]; decide) fun w hw => by
            have : w = b := by rw [hw, hb]; rfl
            subst this; exact k
          have iu : ∀ {K : List PV → Prop}, K [I u] → Idx rv b K := fun k => idx_ints hrv b1 b2 fun w hw => by
            have : w = u := by rw [hw, hu]
            subst this; exact k
          clear t2 t3 hb hu b1 b2 b3
          cbv
          refine .mk _ (use_call hC (cwith _)) ?_
          cbv
          refine .mk _ (use_call hC c2) ?_
          cbv
          simp only [nt]
          cbv
          refine .mk _ (use_call hC c1) ?_
          cbv
          refine ib ?_
          cbv
          refine iu ?_
          cbv
          rcases u01 with U0 | ⟨U0, U1⟩
          · simp only [U0]
            cbv
            refine .mk _ (use_call hC cw) ?_
            cbv
          · simp only [U0]
            cbv
            refine ib ?_
            cbv
            refine iu ?_
            cbv
            simp only [U1]
            cbv
            refine .mk _ (use_call hC cw) ?_
            cbv)
    · have K13 : M .cmp .eql kind 13 = false := by rw [eql]; simp; omega
      have K14 : M .cmp .eql kind 14 = false := by rw [eql]; simp; omega
      by_cases h20 : kind = 20
      · have K20 : M .cmp .eql kind 20 = true := by rw [eql, h20]; rfl
        have TC := fun h => turn_circuit (c := c) (a := v) (by omega) h
        obtain ⟨p, hp⟩ : ∃ p, p = holdsS c v := ⟨_, rfl⟩
        rw [← hp] at TC
        have c1 := ch kind p (by rw [hp, cself kind hkd.symm])
        have cs1 := c_sorted c.A (by omega) rA H.A
        have cs2 := c_compact (sortS c.A) (by rw [sortS_len]; omega)
        have cs0 := c_valuesIter rA
        obtain ⟨w, hw⟩ : ∃ w, w = ints (Lib.compact (sortS c.A)) := ⟨_, rfl⟩
        rw [← hw] at cs2
        have lw : w.length ≤ 1000000 := by
          have := compact_len (sortS c.A)
          rw [sortS_len] at this
          rw [hw]; simp; omega
        obtain ⟨p2, hp2⟩ : ∃ p2, p2 = holdsS { kind := 17, A := Lib.compact (sortS c.A), B := [], C := [], D := [], E := [], K := 0, R := [] } v := ⟨_, rfl⟩
        rw [← hp2] at TC
        have c2 := c_holds { kind := 17, A := Lib.compact (sortS c.A), B := [], C := [], D := [], E := [], K := 0, R := [] } v 17 0 w [] [] [] [] [] rv ⟨rfl, hw, rfl, rfl, rfl, rfl, rfl, rfl⟩ hrv (by omega) (lim_small lw) (lim_small (by simp)) (lim_small (by simp)) (lim_small (by simp)) (lim_small (by simp)) (lim_small (by simp)) p2 hp2
        generalize ints (sortS c.A) = sq at cs1 cs2
        clear eql hp hp2 hw lw
        simp only [K1]
        cbv
        simp only [K3]
        cbv
        simp only [K13]
        cbv
        simp only [K14]
        cbv
        simp only [K20]
        cbv
        refine .mk _ (use_call hC c1) ?_
        cbv
        cases p
        · cbv
          refine .mk _ (use_call hC cw) ?_
          cbv
        · have t1 := TC rfl
          subst t1
          cbv
          refine .mk _ (use_call hC cs0) ?_
          cbv
          refine .new _ _ _ (use_call hC cs1) ?_
          cbv
          refine .inr (.back _ (use_call hC cs2) ?_)
          cbv
          refine .as _ _ ?_ (use_call hC c2) ?_
          · (cbv; repeat' (first | exact True.intro | exact rfl | apply And.intro))
          cbv
          simp only [nt]
          cbv
          refine .mk _ (use_call hC cw) ?_
          cbv
      · have K20 : M .cmp .eql kind 20 = false := by rw [eql]; simp; omega
        by_cases h23 : kind = 23
        · have K23 : M .cmp .eql kind 23 = true := by rw [eql, h23]; rfl
          have TI := turn_inverse (c := c) (a := v) (by omega)
          obtain ⟨p, hp⟩ : ∃ p, p = holdsS c v := ⟨_, rfl⟩
          rw [← hp] at TI
          have c1 := ch kind p (by rw [hp, cself kind hkd.symm])
          have c2 := c_holds { c with A := c.B, B := c.A } v kind K rB rA rC rD rE rR rv ⟨H.kind, H.B, H.A, H.C, H.D, H.E, H.K, H.R⟩ hrv (by omega) (lim_small (by rw [H.B]; simp; omega)) (lim_small (by rw [H.A]; simp; omega)) (lim_small (by rw [H.C]; simp; omega)) (lim_small (by rw [H.D]; simp; omega)) (lim_small (by rw [H.E]; simp; omega)) (lim_small (by rw [H.R]; simp; omega)) p TI.symm
          have hb1 : M .beq .neq p p = false := by subst hM; cases p <;> rfl
          clear eql hp TI
          simp only [K1]
          cbv
          simp only [K3]
          cbv
          simp only [K13]
          cbv
          simp only [K14]
          cbv
          simp only [K20]
          cbv
          simp only [K23]
          cbv
          refine .mk _ (use_call hC c1) ?_
          cbv
          refine .mk _ (use_call hC c2) ?_
          cbv
          simp only [hb1]
          cbv
          refine .mk _ (use_call hC cw) ?_
          cbv
        · have K23 : M .cmp .eql kind 23 = false := by rw [eql]; simp; omega
          clear eql
          simp only [K1]
          cbv
          simp only [K3]
          cbv
          simp only [K13]
          cbv
          simp only [K14]
          cbv
          simp only [K20]
          cbv
          simp only [K23]
          cbv
          refine .mk _ (use_call hC cw) ?_
          cbv
