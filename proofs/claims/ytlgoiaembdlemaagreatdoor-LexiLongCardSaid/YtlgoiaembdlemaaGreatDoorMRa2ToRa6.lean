/- Package jigsawref06: a constraint's numbers; may it be? -/
import Derived.Test.YtlgoiaembdlemaaGreatDoorMRa1dToRa1
import Derived.Test.YtlgoiaembdlemaaGreatDoorMRa3ToRa5
set_option linter.unusedSimpArgs false
set_option linter.unusedVariables false

/- Package jigsawref06: a constraint's numbers; may it be? -/
namespace Go.Pi
open Go
set_option linter.unusedVariables false
set_option linter.unusedSimpArgs false

theorem rb_no {R : List (List Int)} {i : Nat} (hi : i < R.length) (h : boundedS (R.getD i []) (-1000000) = false) : (R.all fun r => boundedS r (-1000000)) = false := by
  rw [List.all_eq_false]
  exact ⟨_, getD_mem [] hi, by rw [h]; simp⟩
theorem rb_yes {R : List (List Int)} (h : ∀ i, i < R.length → boundedS (R.getD i []) (-1000000) = true) : (R.all fun r => boundedS r (-1000000)) = true := by
  rw [List.all_eq_true]
  intro r hr
  obtain ⟨i, hi, rfl⟩ := List.mem_iff_getElem.1 hr
  have := h i hi
  rw [getD_lt [] hi] at this
  exact this

set_option maxRecDepth 100000 in
set_option maxHeartbeats 8000000 in
theorem c_coefs (c : Con) (kind K : Int) (rA rB rC rD rE rR : List (List PV)) (H : ConR c kind rA rB rC rD rE K rR) (ln : Lens c) (hgcc : c.kind = 21 → c.D.length = c.C.length ∧ c.E.length = c.C.length) (hrl : ∀ r ∈ c.R, r.length ≤ 1000000) (y : Bool) (hy : y = coefsS c) :
    Call .plain 151 [.agg [I kind, .list 1 rA, .list 1 rB, .list 1 rC, .list 1 rD, .list 1 rE, I K, .list 1 rR]] (B y) := by
  have hkd := H.kind
  have hCC := H.C
  have hDD := H.D
  have hEE := H.E
  have hRR := H.R
  have lC := ln.C
  have lR := ln.R
  have e0 : (c.R.all fun r => boundedS r (lowS c.kind)) = c.R.all fun r => boundedS r (-1000000) := by
    by_cases h : c.kind = 19
    · rw [ln.rows (by omega)]; rfl
    · rw [lowS, if_neg h]
  obtain ⟨rb, hrb⟩ : ∃ b, b = c.R.all fun r => boundedS r (-1000000) := ⟨_, rfl⟩
  have rb0 : ∀ i, i < c.R.length → boundedS (c.R.getD i []) (-1000000) = false → rb = false := fun i hi h => hrb.trans (rb_no hi h)
  have rb1 : (∀ i, i < c.R.length → boundedS (c.R.getD i []) (-1000000) = true) → rb = true := fun h => hrb.trans (rb_yes h)
  obtain ⟨cnt, hcnt⟩ : ∃ b, b = countsS c := ⟨_, rfl⟩
  have c0 : c.kind ≠ 21 → cnt = true := fun h => by rw [hcnt, countsS, if_neg h]
  have c1 := fun h : c.kind = 21 => countsS_iff h
  rw [← hcnt] at c1
  obtain ⟨bC, hbC⟩ : ∃ b, b = boundedS c.C (lowS c.kind) := ⟨_, rfl⟩
  obtain ⟨bD, hbD⟩ : ∃ b, b = boundedS c.D (secondS c.kind) := ⟨_, rfl⟩
  obtain ⟨bE, hbE⟩ : ∃ b, b = boundedS c.E (secondS c.kind) := ⟨_, rfl⟩
  obtain ⟨k1, hk1⟩ : ∃ b, b = decide (c.K < leastK c.kind) := ⟨_, rfl⟩
  obtain ⟨k2, hk2⟩ : ∃ b, b = decide (c.K > 9999999999) := ⟨_, rfl⟩
  have yn : y = (bC && (bD && (bE && (!k1 && (!k2 && (rb && cnt)))))) := by
    rw [hy, coefsS, numbersS, e0, ← hrb, ← hcnt, ← hbC, ← hbD, ← hbE]
    have e1 : decide (c.K ≥ leastK c.kind) = !k1 := by rw [hk1, Bool.eq_iff_iff]; simp
    have e2 : decide (c.K ≤ 9999999999) = !k2 := by rw [hk2, Bool.eq_iff_iff]; simp
    rw [e1, e2]
    cases rb <;> cases cnt <;> cases bC <;> cases bD <;> cases bE <;> simp
  rw [← in_bounded] at hbC hbD hbE
  clear hrb hcnt e0 hy
  refine call_of Proofs.Tryz.func151 Proofs.Tryz.call151 rfl rfl fun M C hM hC => ?_
  have nt : M .not true = false := by subst hM; rfl
  have nf : M .not false = true := by subst hM; rfl
  have q19 : M .cmp .eql kind 19 = decide (c.kind = 19) := by subst hM; rw [hkd]; rfl
  have q21 : M .cmp .eql kind 21 = decide (c.kind = 21) := by subst hM; rw [hkd]; rfl
  have q1 : M .cmp .lss K (leastK c.kind) = k1 := by subst hM; rw [H.K, hk1]; rfl
  have q2 : M .cmp .gtr K 9999999999 = k2 := by subst hM; rw [H.K, hk2]; rfl
  clear hk1 hk2
  obtain h19 | h21 | h0 : c.kind = 19 ∨ c.kind = 21 ∨ (c.kind ≠ 19 ∧ c.kind ≠ 21) := by omega
  · have q19 : M .cmp .eql kind 19 = true := by rw [q19]; simp; omega
    have q21 : M .cmp .eql kind 21 = false := by rw [q21]; simp; omega
    have w1 : lowS c.kind = 0 := by unfold lowS; rw [if_pos (by omega)]
    have w2 : secondS c.kind = 0 := by unfold secondS; rw [if_pos (by omega)]
    have w3 : leastK c.kind = 0 := by unfold leastK; rw [if_pos (by omega)]
    rw [w3] at q1
    rw [w1] at hbC
    rw [w2] at hbD hbE
    have xC := c_in rC c.C _ _ hCC (by omega) _ hbC
    have xD := c_in rD c.D _ _ hDD (by have := ln.D; omega) _ hbD
    have xE := c_in rE c.E _ _ hEE (by have := ln.E; omega) _ hbE
    clear hbC hbD hbE w1 w2 w3
    cbv
    simp only [q19]
    cbv
    simp only [q21]
    cbv
    refine .mk _ (use_call hC xC) ?_
    cbv
    refine .mk _ (use_call hC xD) ?_
    cbv
    refine .mk _ (use_call hC xE) ?_
    cbv
    clear xC xD xE
    cases bC
    · simp only [nf]
      cbv
      rw [yn]; simp
    simp only [nt]
    cbv
    cases bD
    · simp only [nf]
      cbv
      rw [yn]; simp
    simp only [nt]
    cbv
    cases bE
    · simp only [nf]
      cbv
      rw [yn]; simp
    simp only [nt]
    cbv
    simp only [q1]
    cases k1
    rotate_left
    · cbv
      rw [yn]; simp
    cbv
    simp only [q2]
    cases k2
    rotate_left
    · cbv
      rw [yn]; simp
    cbv
    have yn : y = (rb && cnt) := by rw [yn]; simp
    refine Loop.over Nat (fun q => [(.t 9, I q)]) 1 (fun q => c.R.length - q) (fun q => q ≤ c.R.length ∧ ∀ i, i < q → boundedS (c.R.getD i []) (-1000000) = true) 0 ⟨Nat.zero_le _, by omega⟩ (by (cbv; repeat' (first | exact True.intro | exact rfl | apply And.intro))) ?_
    rintro j ⟨hj, hn⟩
    cbv
    split <;> rename_i h <;> (try simp only [h]) <;> (try cbv) <;> (try simp only [ncast] at *)
    · have hlt : j < c.R.length := by subst hM; have h := of_decide_eq_true h; have h : (j : Int) < (rR.length : Int) := h; rw [hRR, rowsOf_len] at h; omega
      refine nidx_rows hRR hlt fun r hr5 => ?_
      have xr := c_in r (c.R.getD j []) (-1000000) 1000000 hr5 (hrl _ (getD_mem [] hlt)) _ rfl
      rw [in_bounded] at xr
      have rbj := rb0 j hlt
      obtain ⟨z, hz⟩ : ∃ z, z = boundedS (c.R.getD j []) (-1000000) := ⟨_, rfl⟩
      rw [← hz] at xr rbj
      clear hr5
      cbv
      refine .mk _ (use_call hC xr) ?_
      cbv
      cases z
      · simp only [nf]
        cbv
        rw [yn, rbj rfl]; rfl
      · simp only [nt]
        cbv
        refine ⟨j + 1, ⟨hlt, fun i hi => ?_⟩, ?_, by (cbv; repeat' (first | exact True.intro | exact rfl | apply And.intro)) <;> (subst hM; rw [succ_i64 (by omega)])⟩
        · rcases Nat.lt_or_ge i j with h4 | h4
          · exact hn i h4
          · have : i = j := by omega
            subst this; exact hz.symm
        · omega
    · have hj2 : j = c.R.length := by subst hM; have h := of_decide_eq_false h; have h : ¬ (j : Int) < (rR.length : Int) := h; rw [hRR, rowsOf_len] at h; omega
      subst hj2
      rw [rb1 hn, Bool.true_and] at yn
      clear hn hj h rb0 rb1
      have c0 := c0 (by omega)
      rw [c0] at yn
      refine Loop.over Nat (fun q => [(.t 11, I q)]) 1 (fun q => 1 - q) (fun q => q = 0) 0 rfl (by (cbv; repeat' (first | exact True.intro | exact rfl | apply And.intro))) ?_
      rintro j hj
      cbv
      simp only [q21]
      cbv
      rw [yn]
  · have q19 : M .cmp .eql kind 19 = false := by rw [q19]; simp; omega
    have q21 : M .cmp .eql kind 21 = true := by rw [q21]; simp; omega
    have w1 : lowS c.kind = (-1000000) := by unfold lowS; rw [if_neg (by omega)]
    have w2 : secondS c.kind = 0 := by unfold secondS; rw [if_pos (by omega)]
    have w3 : leastK c.kind = (-9999999999) := by unfold leastK; rw [if_neg (by omega)]
    rw [w3] at q1
    rw [w1] at hbC
    rw [w2] at hbD hbE
    have xC := c_in rC c.C _ _ hCC (by omega) _ hbC
    have xD := c_in rD c.D _ _ hDD (by have := ln.D; omega) _ hbD
    have xE := c_in rE c.E _ _ hEE (by have := ln.E; omega) _ hbE
    clear hbC hbD hbE w1 w2 w3
    cbv
    simp only [q19]
    cbv
    simp only [q21]
    cbv
    refine .mk _ (use_call hC xC) ?_
    cbv
    refine .mk _ (use_call hC xD) ?_
    cbv
    refine .mk _ (use_call hC xE) ?_
    cbv
    clear xC xD xE
    cases bC
    · simp only [nf]
      cbv
      rw [yn]; simp
    simp only [nt]
    cbv
    cases bD
    · simp only [nf]
      cbv
      rw [yn]; simp
    simp only [nt]
    cbv
    cases bE
    · simp only [nf]
      cbv
      rw [yn]; simp
    simp only [nt]
    cbv
    simp only [q1]
    cases k1
    rotate_left
    · cbv
      rw [yn]; simp
    cbv
    simp only [q2]
    cases k2
    rotate_left
    · cbv
      rw [yn]; simp
    cbv
    have yn : y = (rb && cnt) := by rw [yn]; simp
    refine Loop.over Nat (fun q => [(.t 9, I q)]) 1 (fun q => c.R.length - q) (fun q => q ≤ c.R.length ∧ ∀ i, i < q → boundedS (c.R.getD i []) (-1000000) = true) 0 ⟨Nat.zero_le _, by omega⟩ (by (cbv; repeat' (first | exact True.intro | exact rfl | apply And.intro))) ?_
    rintro j ⟨hj, hn⟩
    cbv
    split <;> rename_i h <;> (try simp only [h]) <;> (try cbv) <;> (try simp only [ncast] at *)
    · have hlt : j < c.R.length := by subst hM; have h := of_decide_eq_true h; have h : (j : Int) < (rR.length : Int) := h; rw [hRR, rowsOf_len] at h; omega
      refine nidx_rows hRR hlt fun r hr5 => ?_
      have xr := c_in r (c.R.getD j []) (-1000000) 1000000 hr5 (hrl _ (getD_mem [] hlt)) _ rfl
      rw [in_bounded] at xr
      have rbj := rb0 j hlt
      obtain ⟨z, hz⟩ : ∃ z, z = boundedS (c.R.getD j []) (-1000000) := ⟨_, rfl⟩
      rw [← hz] at xr rbj
      clear hr5
      cbv
      refine .mk _ (use_call hC xr) ?_
      cbv
      cases z
      · simp only [nf]
        cbv
        rw [yn, rbj rfl]; rfl
      · simp only [nt]
        cbv
        refine ⟨j + 1, ⟨hlt, fun i hi => ?_⟩, ?_, by (cbv; repeat' (first | exact True.intro | exact rfl | apply And.intro)) <;> (subst hM; rw [succ_i64 (by omega)])⟩
        · rcases Nat.lt_or_ge i j with h4 | h4
          · exact hn i h4
          · have : i = j := by omega
            subst this; exact hz.symm
        · omega
    · have hj2 : j = c.R.length := by subst hM; have h := of_decide_eq_false h; have h : ¬ (j : Int) < (rR.length : Int) := h; rw [hRR, rowsOf_len] at h; omega
      subst hj2
      rw [rb1 hn, Bool.true_and] at yn
      clear hn hj h rb0 rb1
      have c1 := c1 h21
      have hl := hgcc h21
      refine Loop.over Nat (fun q => [(.t 11, I q)]) 1 (fun q => c.C.length - q) (fun q => q ≤ c.C.length ∧ ∀ i, i < q → c.D.getD i 0 ≤ c.E.getD i 0 ∧ ∀ j, j < i → c.C.getD i 0 ≠ c.C.getD j 0) 0 ⟨Nat.zero_le _, by omega⟩ (by (cbv; repeat' (first | exact True.intro | exact rfl | apply And.intro))) ?_
      rintro j ⟨hj, hn⟩
      cbv
      simp only [q21]
      cbv
      split <;> rename_i h <;> (try simp only [h]) <;> (try cbv) <;> (try simp only [ncast] at *)
      · have hlt : j < c.C.length := by subst hM; have h := of_decide_eq_true h; have h : (j : Int) < (rC.length : Int) := h; rw [hCC, ints_len] at h; omega
        clear h
        have no : ¬ (c.D.getD j 0 ≤ c.E.getD j 0 ∧ ∀ k, k < j → c.C.getD j 0 ≠ c.C.getD k 0) → y = false := fun h => by rw [yn, ← Bool.not_eq_true, c1]; exact fun h2 => h (h2 j hlt)
        refine nidx_ints hDD (by omega) fun d hd => ?_
        cbv
        refine nidx_ints hEE (by omega) fun e he => ?_
        cbv
        split <;> rename_i h <;> (try simp only [h]) <;> (try cbv)
        · have h1 : d > e := by subst hM; exact of_decide_eq_true h
          rw [no fun h => by have := h.1; omega]
        · have h1 : ¬ d > e := by subst hM; exact of_decide_eq_false h
          clear h
          refine Loop.over Nat (fun q => [(.t 12, I q)]) 1 (fun q => j - q) (fun q => q ≤ j ∧ ∀ k, k < q → c.C.getD j 0 ≠ c.C.getD k 0) 0 ⟨Nat.zero_le _, by omega⟩ (by (cbv; repeat' (first | exact True.intro | exact rfl | apply And.intro))) ?_
          rintro k ⟨hk, hn2⟩
          cbv
          split <;> rename_i h <;> (try simp only [h]) <;> (try cbv) <;> (try simp only [ncast] at *)
          · have hlt2 : k < j := by subst hM; have h := of_decide_eq_true h; have h : (k : Int) < (j : Int) := h; omega
            clear h
            refine nidx_ints hCC hlt fun p hp => ?_
            cbv
            refine nidx_ints hCC (by omega) fun q hq => ?_
            cbv
            split <;> rename_i h <;> (try simp only [h]) <;> (try cbv)
            · have h2 : p = q := by subst hM; exact eq_of_beq h
              rw [no fun h => h.2 k hlt2 (by rw [← hp, ← hq]; exact h2)]
            · have h2 : ¬ p = q := by subst hM; exact fun e => by rw [e] at h; simp at h
              refine ⟨k + 1, ⟨hlt2, fun i hi => ?_⟩, ?_, by (cbv; repeat' (first | exact True.intro | exact rfl | apply And.intro)) <;> (subst hM; rw [succ_i64 (by omega)])⟩
              · rcases Nat.lt_or_ge i k with h4 | h4
                · exact hn2 i h4
                · have : i = k := by omega
                  subst this; rw [← hp, ← hq]; exact h2
              · omega
          · have hk2 : k = j := by subst hM; have h := of_decide_eq_false h; have h : ¬ (k : Int) < (j : Int) := h; omega
            subst hk2
            refine ⟨k + 1, ⟨hlt, fun i hi => ?_⟩, ?_, by (cbv; repeat' (first | exact True.intro | exact rfl | apply And.intro)) <;> (subst hM; rw [succ_i64 (by omega)])⟩
            · rcases Nat.lt_or_ge i k with h4 | h4
              · exact hn i h4
              · have : i = k := by omega
                subst this; exact ⟨by omega, hn2⟩
            · omega
      · have hj2 : j = c.C.length := by subst hM; have h := of_decide_eq_false h; have h : ¬ (j : Int) < (rC.length : Int) := h; rw [hCC, ints_len] at h; omega
        subst hj2
        rw [yn, c1.2 hn]
  · have q19 : M .cmp .eql kind 19 = false := by rw [q19]; simp; omega
    have q21 : M .cmp .eql kind 21 = false := by rw [q21]; simp; omega
    have w1 : lowS c.kind = (-1000000) := by unfold lowS; rw [if_neg (by omega)]
    have w2 : secondS c.kind = (-1000000) := by unfold secondS; rw [if_neg (by omega)]
    have w3 : leastK c.kind = (-9999999999) := by unfold leastK; rw [if_neg (by omega)]
    rw [w3] at q1
    rw [w1] at hbC
    rw [w2] at hbD hbE
    have xC := c_in rC c.C _ _ hCC (by omega) _ hbC
    have xD := c_in rD c.D _ _ hDD (by have := ln.D; omega) _ hbD
    have xE := c_in rE c.E _ _ hEE (by have := ln.E; omega) _ hbE
    clear hbC hbD hbE w1 w2 w3
    cbv
    simp only [q19]
    cbv
    simp only [q21]
    cbv
    refine .mk _ (use_call hC xC) ?_
    cbv
    refine .mk _ (use_call hC xD) ?_
    cbv
    refine .mk _ (use_call hC xE) ?_
    cbv
    clear xC xD xE
    cases bC
    · simp only [nf]
      cbv
      rw [yn]; simp
    simp only [nt]
    cbv
    cases bD
    · simp only [nf]
      cbv
      rw [yn]; simp
    simp only [nt]
    cbv
    cases bE
    · simp only [nf]
      cbv
      rw [yn]; simp
    simp only [nt]
    cbv
    simp only [q1]
    cases k1
    rotate_left
    · cbv
      rw [yn]; simp
    cbv
    simp only [q2]
    cases k2
    rotate_left
    · cbv
      rw [yn]; simp
    cbv
    have yn : y = (rb && cnt) := by rw [yn]; simp
    refine Loop.over Nat (fun q => [(.t 9, I q)]) 1 (fun q => c.R.length - q) (fun q => q ≤ c.R.length ∧ ∀ i, i < q → boundedS (c.R.getD i []) (-1000000) = true) 0 ⟨Nat.zero_le _, by omega⟩ (by (cbv; repeat' (first | exact True.intro | exact rfl | apply And.intro))) ?_
    rintro j ⟨hj, hn⟩
    cbv
    split <;> rename_i h <;> (try simp only [h]) <;> (try cbv) <;> (try simp only [ncast] at *)
    · have hlt : j < c.R.length := by subst hM; have h := of_decide_eq_true h; have h : (j : Int) < (rR.length : Int) := h; rw [hRR, rowsOf_len] at h; omega
      refine nidx_rows hRR hlt fun r hr5 => ?_
      have xr := c_in r (c.R.getD j []) (-1000000) 1000000 hr5 (hrl _ (getD_mem [] hlt)) _ rfl
      rw [in_bounded] at xr
      have rbj := rb0 j hlt
      obtain ⟨z, hz⟩ : ∃ z, z = boundedS (c.R.getD j []) (-1000000) := ⟨_, rfl⟩
      rw [← hz] at xr rbj
      clear hr5
      cbv
      refine .mk _ (use_call hC xr) ?_
      cbv
      cases z
      · simp only [nf]
        cbv
        rw [yn, rbj rfl]; rfl
      · simp only [nt]
        cbv
        refine ⟨j + 1, ⟨hlt, fun i hi => ?_⟩, ?_, by (cbv; repeat' (first | exact True.intro | exact rfl | apply And.intro)) <;> (subst hM; rw [succ_i64 (by omega)])⟩
        · rcases Nat.lt_or_ge i j with h4 | h4
          · exact hn i h4
          · have : i = j := by omega
            subst this; exact hz.symm
        · omega
    · have hj2 : j = c.R.length := by subst hM; have h := of_decide_eq_false h; have h : ¬ (j : Int) < (rR.length : Int) := h; rw [hRR, rowsOf_len] at h; omega
      subst hj2
      rw [rb1 hn, Bool.true_and] at yn
      clear hn hj h rb0 rb1
      have c0 := c0 (by omega)
      rw [c0] at yn
      refine Loop.over Nat (fun q => [(.t 11, I q)]) 1 (fun q => 1 - q) (fun q => q = 0) 0 rfl (by (cbv; repeat' (first | exact True.intro | exact rfl | apply And.intro))) ?_
      rintro j hj
      cbv
      simp only [q21]
      cbv
      rw [yn]

theorem shapes_at {k : Int} (h : 1 ≤ k ∧ k ≤ 23) : shapesPV[k.toNat]? = some [Str (bs (shapeS k))] := by
  rcases kinds23 h with rfl | rfl | rfl | rfl | rfl | rfl | rfl | rfl | rfl | rfl | rfl | rfl | rfl | rfl | rfl | rfl | rfl | rfl | rfl | rfl | rfl | rfl | rfl <;> rfl

set_option maxRecDepth 100000 in
set_option maxHeartbeats 4000000 in
theorem c_rright (c : Con) (kind K : Int) (rA rB rC rD rE rR : List (List PV)) (H : ConR c kind rA rB rC rD rE K rR) (la : lim rA) (lb : lim rB) (lc : lim rC) (ld : lim rD) (le : lim rE) (lr : lim rR) (vars y : Int) (hv : 0 ≤ vars ∧ vars ≤ 1000000000000) (hy : y = rightS c vars) :
    Call .plain 78 [.agg [I kind, .list 1 rA, .list 1 rB, .list 1 rC, .list 1 rD, .list 1 rE, I K, .list 1 rR], I vars] (I y) := by
  have hkd := H.kind
  rw [right_eq] at hy
  refine call_of Proofs.Tryz.func78 Proofs.Tryz.call78 rfl rfl fun M C hM hC => ?_
  have nt : M .not true = false := by subst hM; rfl
  have nf : M .not false = true := by subst hM; rfl
  have q1 : M .cmp .lss kind 1 = decide (c.kind < 1) := by subst hM; rw [hkd]; rfl
  have q2 : M .cmp .gtr kind 23 = decide (c.kind > 23) := by subst hM; rw [hkd]; rfl
  by_cases h1 : c.kind < 1
  · have q1 : M .cmp .lss kind 1 = true := by rw [q1]; simpa using h1
    rw [if_pos (.inl h1)] at hy
    cbv
    simp only [q1]
    cbv
    rw [hy]
  have q1 : M .cmp .lss kind 1 = false := by rw [q1]; simpa using h1
  by_cases h2 : c.kind > 23
  · have q2 : M .cmp .gtr kind 23 = true := by rw [q2]; simpa using h2
    rw [if_pos (.inr h2)] at hy
    cbv
    simp only [q1]
    cbv
    simp only [q2]
    cbv
    rw [hy]
  have q2 : M .cmp .gtr kind 23 = false := by rw [q2]; simpa using h2
  have h23 : 1 ≤ c.kind ∧ c.kind ≤ 23 := by omega
  rw [if_neg (by omega)] at hy
  obtain ⟨r, hr⟩ : ∃ r, r = shapesPV := ⟨_, rfl⟩
  have cs := c_shapes r hr
  obtain ⟨w, hw⟩ : ∃ w, w = bs (shapeS c.kind) := ⟨_, rfl⟩
  have hat := shapes_at h23
  rw [← hw, ← hr] at hat
  have ca := c_arity c kind K rA rB rC rD rE rR w H hw h23 la lb lc ld le lr _ rfl
  have har : arityS c = true → Lens c ∧ alikeS c = true := fun h => by
    unfold arityS at h
    simp only [Bool.and_eq_true] at h
    exact ⟨counted_lens h23 h.1.1, h.1.2⟩
  clear hw hr
  generalize arityS c = ar at hy ca har
  obtain ⟨cA, hcA⟩ : ∃ b, b = inS c.A 0 (vars - 1) := ⟨_, rfl⟩
  obtain ⟨cB, hcB⟩ : ∃ b, b = inS c.B 0 (vars - 1) := ⟨_, rfl⟩
  obtain ⟨cc, hcc⟩ : ∃ b, b = coefsS c := ⟨_, rfl⟩
  rw [← hcA, ← hcB, ← hcc] at hy
  cbv
  simp only [q1]
  cbv
  simp only [q2]
  cbv
  refine .mk _ (use_call hC cs) ?_
  cbv
  refine .mk [Str w] (by omega) (by rw [hkd]; exact hat) ?_
  cbv
  refine .mk _ (use_call hC ca) ?_
  cbv
  cases ar
  · simp only [nf]
    cbv
    rw [hy]; rfl
  · simp only [nt]
    obtain ⟨ln, hal⟩ := har rfl
    rw [if_neg (by simp)] at hy
    have fin : ∀ high : Int, high = vars - 1 → CallIn Proofs.Tryz.prog Amb .plain 150 [.list 1 rA, I 0, I high] (B cA) ∧ CallIn Proofs.Tryz.prog Amb .plain 150 [.list 1 rB, I 0, I high] (B cB) := fun high hh =>
      ⟨c_in rA c.A 0 high H.A (by have := ln.A; omega) cA (by rw [hcA, hh]), c_in rB c.B 0 high H.B (by have := ln.B; omega) cB (by rw [hcB, hh])⟩
    have hco := c_coefs c kind K rA rB rC rD rE rR H ln (alike_gcc hal) (fun r hr => by rw [alike_rows hal ln.rows r hr]; have := ln.A; omega) cc hcc
    have e1 : M .arith .sub .i64 vars 1 = vars - 1 := by
      subst hM
      show IntKind.i64.wrap (vars - 1) = _
      rw [wrap_i64 (by omega) (by omega)]
    clear hcA hcB hcc har cs ca hat
    cbv
    split <;> rename_i h <;> (try simp only [h]) <;> (try cbv)
    · obtain ⟨fA, fB⟩ := fin _ e1
      clear h fin e1
      refine .mk _ (use_call hC fA) ?_
      cbv
      refine .mk _ (use_call hC fB) ?_
      cbv
      clear fA fB
      cases cA
      · simp only [nf]
        cbv
        rw [hy]; simp
      simp only [nt]
      cbv
      cases cB
      · simp only [nf]
        cbv
        rw [hy]; simp
      simp only [nt]
      cbv
      refine .mk _ (use_call hC hco) ?_
      cbv
      cases cc
      · simp only [nf]
        cbv
        rw [hy]; simp
      simp only [nt]
      cbv
      rw [hy]; simp
    · have h4 : vars = 0 := by subst hM; have h := of_decide_eq_false h; omega
      obtain ⟨fA, fB⟩ := fin (-1) (by omega)
      clear h fin e1
      refine .mk _ (use_call hC fA) ?_
      cbv
      refine .mk _ (use_call hC fB) ?_
      cbv
      clear fA fB
      cases cA
      · simp only [nf]
        cbv
        rw [hy]; simp
      simp only [nt]
      cbv
      cases cB
      · simp only [nf]
        cbv
        rw [hy]; simp
      simp only [nt]
      cbv
      refine .mk _ (use_call hC hco) ?_
      cbv
      cases cc
      · simp only [nf]
        cbv
        rw [hy]; simp
      simp only [nt]
      cbv
      rw [hy]; simp
end Go.Pi

/- Package jigsawref09: Holds, Any. -/
namespace Go.Pi
open Go
set_option linter.unusedVariables false
set_option linter.unusedSimpArgs false

theorem named_ge {n : Nat} {s : List UInt8} {one all : UInt8} (h : namedS n (bs s) one all = true) (h1 : hasB (bs s) all = true) : 1 ≤ n ∧ n ≤ 64 := by
  unfold namedS at h
  rw [if_pos h1] at h
  unfold withinS at h
  simp at h; omega

set_option maxRecDepth 100000 in
set_option maxHeartbeats 4000000 in
theorem c_rholds (c : Con) (a : List Int) (kind K : Int) (rA rB rC rD rE rR ra : List (List PV)) (H : ConR c kind rA rB rC rD rE K rR) (ha : ra = ints a) (R : RightOK c a.length) (hf : a.any farS = false) (y : Bool) (hy : y = holdsXS c (valuesS a c.A) (valuesS a c.B)) :
    Call .plain 37 [.agg [I kind, .list 1 rA, .list 1 rB, .list 1 rC, .list 1 rD, .list 1 rE, I K, .list 1 rR], .list 1 ra] (B y) := by
  have hkd := H.kind
  have hKK := H.K
  have hA := H.A
  have hB := H.B
  have hC' := H.C
  have ln := R.lens
  have bd := R.bounds
  have al := R.alike
  have nm := R.named
  have k23 := R.kind
  have X := reads_of R.varsA
  have Z := reads_of R.varsB
  have bx := values_near hf c.A
  have bz := values_near hf c.B
  generalize valuesS a c.A = x at X bx hy
  generalize valuesS a c.B = z at Z bz hy
  have lx := X.len
  have lz := Z.len
  have lnA := ln.A
  have lnB := ln.B
  have lnC := ln.C
  refine call_of Proofs.Tryz.func37 Proofs.Tryz.call37 rfl rfl fun M C hM hC => ?_
  have q4 : M .cmp .leq kind 4 = decide (c.kind ≤ 4) := by subst hM; rw [hkd]; rfl
  have q11 : M .cmp .leq kind 11 = decide (c.kind ≤ 11) := by subst hM; rw [hkd]; rfl
  have q16 : M .cmp .leq kind 16 = decide (c.kind ≤ 16) := by subst hM; rw [hkd]; rfl
  obtain h | h | h | h : c.kind ≤ 4 ∨ (5 ≤ c.kind ∧ c.kind ≤ 11) ∨ (12 ≤ c.kind ∧ c.kind ≤ 16) ∨ 17 ≤ c.kind := by omega
  · have q4 : M .cmp .leq kind 4 = true := by rw [q4]; simpa using h
    have e := alike_lin al (by omega)
    have hB1 : kind = 4 → 1 ≤ c.B.length := fun hk => by
      have n2 := named_is (nm (by omega)).2.1 (by rw [show c.kind = 4 by omega]; rfl)
      rw [n2, show c.kind = 4 by omega]; decide
    have cs := c_rlinear kind K rA rB rC rD rE rR ra c.A c.B c.C a x z hA hB hC' ha X Z (by omega) lnA hB1 (by omega) bd.1 bx _ rfl y (by
      rw [hy, ← e, hKK]
      obtain h | h | h | h : c.kind = 1 ∨ c.kind = 2 ∨ c.kind = 3 ∨ c.kind = 4 := by omega
      all_goals simp [holdsXS, logicS, hkd, h, dotS])
    cbv
    simp only [q4]
    cbv
    refine .mk _ (use_call hC cs) ?_
    cbv
  · have q4 : M .cmp .leq kind 4 = false := by rw [q4]; simp; omega
    have q11 : M .cmp .leq kind 11 = true := by rw [q11]; simp; omega
    have lens : 2 ≤ c.A.length ∧ (kind ≠ 8 → kind ≠ 11 → 3 ≤ c.A.length) := by
      have n1 := fun h => named_is (nm (by omega)).1 h
      obtain h | h | h | h | h | h | h : c.kind = 5 ∨ c.kind = 6 ∨ c.kind = 7 ∨ c.kind = 8 ∨ c.kind = 9 ∨ c.kind = 10 ∨ c.kind = 11 := by omega
      all_goals
        rw [h] at n1
        have n1 := n1 rfl
        rw [n1, hkd, h]
        decide
    have cs := c_rthree kind K rA rB rC rD rE rR ra c.A c.C a x hA hC' ha X (by omega) (by omega) lens.1 lens.2 bx y (by
      rw [hy, hkd]
      obtain h | h | h | h | h | h | h : c.kind = 5 ∨ c.kind = 6 ∨ c.kind = 7 ∨ c.kind = 8 ∨ c.kind = 9 ∨ c.kind = 10 ∨ c.kind = 11 := by omega
      all_goals simp [holdsXS, h])
    cbv
    simp only [q4]
    cbv
    simp only [q11]
    cbv
    refine .mk _ (use_call hC cs) ?_
    cbv
  · have q4 : M .cmp .leq kind 4 = false := by rw [q4]; simp; omega
    have q11 : M .cmp .leq kind 11 = false := by rw [q11]; simp; omega
    have q16 : M .cmp .leq kind 16 = true := by rw [q16]; simp; omega
    have lens : kind ≠ 12 → 1 ≤ c.A.length ∧ 1 ≤ c.B.length := fun h12 => by
      have n1 := fun h => named_is (nm (by omega)).1 h
      have n2 := fun h => named_is (nm (by omega)).2.1 h
      obtain h | h | h | h : c.kind = 13 ∨ c.kind = 14 ∨ c.kind = 15 ∨ c.kind = 16 := by omega
      all_goals
        rw [h] at n1 n2
        have n1 := n1 rfl
        have n2 := n2 rfl
        rw [n1, n2]
        decide
    have cs := c_rlogic kind K rA rB rC rD rE rR ra c.A c.B c.C a x z hA hB ha X Z (by omega) (by omega) (fun h => (lens h).1) (fun h => (lens h).2) (by omega) y (by
      rw [hy, hkd, hKK]
      obtain h | h | h | h | h : c.kind = 12 ∨ c.kind = 13 ∨ c.kind = 14 ∨ c.kind = 15 ∨ c.kind = 16 := by omega
      all_goals simp [holdsXS, h])
    cbv
    simp only [q4]
    cbv
    simp only [q11]
    cbv
    simp only [q16]
    cbv
    refine .mk _ (use_call hC cs) ?_
    cbv
  · have q4 : M .cmp .leq kind 4 = false := by rw [q4]; simp; omega
    have q11 : M .cmp .leq kind 11 = false := by rw [q11]; simp; omega
    have q16 : M .cmp .leq kind 16 = false := by rw [q16]; simp; omega
    have eql : ∀ b, M .cmp .eql kind b = (c.kind == b) := fun b => by subst hM; rw [hkd]; rfl
    cbv
    simp only [q4]
    cbv
    simp only [q11]
    cbv
    simp only [q16]
    cbv
    obtain h | h | h | h | h | h : c.kind = 17 ∨ c.kind = 18 ∨ c.kind = 19 ∨ c.kind = 20 ∨ c.kind = 21 ∨ (c.kind = 22 ∨ c.kind = 23) := by omega
    · have e : ∀ b, M .cmp .eql kind b = (17 == b) := fun b => by rw [eql, h]
      have hy : y = apartS x := by rw [hy]; simp [holdsXS, h]
      have getX : ∀ i, i < c.A.length → ∀ p, p = c.A.getD i 0 → 0 ≤ p ∧ p < a.length ∧ a.getD p.toNat 0 = x.getD i 0 := fun i hi p hp => by rw [hp]; exact ⟨X.lo i hi, X.hi i hi, X.get i hi⟩
      simp only [e]
      cbv
      refine Loop.over Nat (fun q => [(.t 5, I q)]) 1 (fun q => c.A.length - q) (fun q => q ≤ c.A.length ∧ ∀ i, i < q → ∀ k, k < i → x.getD i 0 ≠ x.getD k 0) 0 ⟨Nat.zero_le _, by omega⟩ (by (cbv; repeat' (first | exact True.intro | exact rfl | apply And.intro))) ?_
      rintro j ⟨hj, hn⟩
      cbv
      split <;> rename_i h <;> (try simp only [h]) <;> (try cbv)
      · have hlt : j < c.A.length := by subst hM; simpa [hA] using h
        refine Loop.over Nat (fun q => [(.t 6, I q)]) 1 (fun q => j - q) (fun q => q ≤ j ∧ ∀ k, k < q → x.getD j 0 ≠ x.getD k 0) 0 ⟨Nat.zero_le _, by omega⟩ (by (cbv; repeat' (first | exact True.intro | exact rfl | apply And.intro))) ?_
        rintro k ⟨hk, hn2⟩
        cbv
        split <;> rename_i h <;> (try simp only [h]) <;> (try cbv)
        · have hlt2 : k < j := by subst hM; have h := of_decide_eq_true h; exact Int.ofNat_lt.1 h
          refine nidx_ints hA hlt fun p hp => ?_
          obtain ⟨p1, p2, p3⟩ := getX j hlt p hp
          cbv
          refine idx_ints ha p1 p2 fun u hu => ?_
          have hu : u = x.getD j 0 := by rw [hu]; exact p3
          clear p1 p2 p3 hp
          cbv
          refine nidx_ints hA (by omega) fun p hp => ?_
          obtain ⟨p1, p2, p3⟩ := getX k (by omega) p hp
          cbv
          refine idx_ints ha p1 p2 fun v hv => ?_
          have hv : v = x.getD k 0 := by rw [hv]; exact p3
          clear p1 p2 p3 hp
          cbv
          split <;> rename_i h <;> (try simp only [h]) <;> (try cbv)
          · have h1 : u = v := by subst hM; exact eq_of_beq h
            rw [hy, apart_no (by omega) hlt2 (by rw [← hu, ← hv]; exact h1)]
          · have h1 : ¬ u = v := by subst hM; exact fun e => by rw [e] at h; simp at h
            refine ⟨k + 1, ⟨hlt2, fun i hi => ?_⟩, ?_, by (cbv; repeat' (first | exact True.intro | exact rfl | apply And.intro)) <;> (subst hM; rw [succ_i64 (by omega)])⟩
            · rcases Nat.lt_or_ge i k with h3 | h3
              · exact hn2 i h3
              · have : i = k := by omega
                subst this; rw [← hu, ← hv]; exact h1
            · omega
        · have hk2 : k = j := by subst hM; have h := of_decide_eq_false h; have h : ¬ (k : Int) < (j : Int) := h; omega
          subst hk2
          refine ⟨k + 1, ⟨hlt, fun i hi => ?_⟩, ?_, by (cbv; repeat' (first | exact True.intro | exact rfl | apply And.intro)) <;> (subst hM; rw [succ_i64 (by omega)])⟩
          · rcases Nat.lt_or_ge i k with h3 | h3
            · exact hn i h3
            · have : i = k := by omega
              subst this; exact hn2
          · omega
      · have hj2 : j = c.A.length := by subst hM; simp [hA] at h; omega
        subst hj2
        rw [hy, apart_yes fun i hi => hn i (by omega)]
    · have e : ∀ b, M .cmp .eql kind b = (18 == b) := fun b => by rw [eql, h]
      have cs := c_rrow kind K rA rB rC rD rE rR ra c.A a x c.R hA H.R ha X (alike_rows al ln.rows) (by omega) (by have := ln.R; omega) y (by rw [hy]; simp [holdsXS, h])
      repeat (simp only [e]; cbv)
      refine .mk _ (use_call hC cs) ?_
      cbv
    · have e : ∀ b, M .cmp .eql kind b = (19 == b) := fun b => by rw [eql, h]
      have e2 := alike_cumul al h
      have cs := c_rcumul kind K rA rB rC rD rE rR ra c.A c.C c.D a x hA hC' H.D ha X (by omega) (by omega) (by omega) bd.2.1 bx y (by rw [hy, hKK]; simp [holdsXS, h])
      repeat (simp only [e]; cbv)
      refine .mk _ (use_call hC cs) ?_
      cbv
    · have e : ∀ b, M .cmp .eql kind b = (20 == b) := fun b => by rw [eql, h]
      have n1 := named_ge (nm (by omega)).1 (by rw [h]; rfl)
      have cs := c_rcircuit kind K rA rB rC rD rE rR ra c.A a x hA ha X (by omega) (by omega) y (by rw [hy]; simp [holdsXS, h])
      repeat (simp only [e]; cbv)
      refine .mk _ (use_call hC cs) ?_
      cbv
    · have e : ∀ b, M .cmp .eql kind b = (21 == b) := fun b => by rw [eql, h]
      have e2 := alike_gcc al h
      have cs := c_rgcc kind K rA rB rC rD rE rR ra c.A c.C c.D c.E a x hA hC' H.D H.E ha X (by omega) (by omega) (by omega) (by omega) y (by rw [hy]; simp [holdsXS, h])
      repeat (simp only [e]; cbv)
      refine .mk _ (use_call hC cs) ?_
      cbv
    · have e17 : M .cmp .eql kind 17 = false := by rw [eql]; simp; omega
      have e18 : M .cmp .eql kind 18 = false := by rw [eql]; simp; omega
      have e19 : M .cmp .eql kind 19 = false := by rw [eql]; simp; omega
      have e20 : M .cmp .eql kind 20 = false := by rw [eql]; simp; omega
      have e21 : M .cmp .eql kind 21 = false := by rw [eql]; simp; omega
      have e2 := alike_pair al h
      have cs := c_rpairs kind K rA rB rC rD rE rR ra c.A c.B a x z hA hB ha X Z lnA e2 (by omega) bx bz y (by
        rw [hy, hkd]
        rcases h with h | h <;> simp [holdsXS, h])
      simp only [e17]
      cbv
      simp only [e18]
      cbv
      simp only [e19]
      cbv
      simp only [e20]
      cbv
      simp only [e21]
      cbv
      refine .mk _ (use_call hC cs) ?_
      cbv

theorem c_any (c : Con) (a : List Int) (kind K : Int) (rA rB rC rD rE rR ra : List (List PV)) (H : ConR c kind rA rB rC rD rE K rR) (ha : ra = ints a) (h64 : a.length ≤ 1000000) (la : lim rA) (lb : lim rB) (lc : lim rC) (ld : lim rD) (le : lim rE) (lr : lim rR) (y : Bool) (hy : y = holdsS c a) :
    Call .plain 66 [.agg [I kind, .list 1 rA, .list 1 rB, .list 1 rC, .list 1 rD, .list 1 rE, I K, .list 1 rR], .list 1 ra] (B y) := by
  have lenE : (ra.length : Int) = a.length := by rw [ha]; simp
  have hv : (0 : Int) ≤ (ra.length : Int) ∧ (ra.length : Int) ≤ 1000000000000 := by rw [ha, ints_len]; omega
  refine call_of Proofs.Tryz.func66 Proofs.Tryz.call66 rfl rfl fun M C hM hC => ?_
  cbv
  refine callI hC (c_rright c kind K rA rB rC rD rE rR H la lb lc ld le lr _ _ (by subst hM; exact hv) rfl) fun e he => ?_
  have he : e = rightS c a.length := by rw [he]; congr 1; subst hM; exact lenE
  cbv
  split <;> rename_i h <;> (try simp only [h]) <;> (try cbv)
  · have h1 : e ≠ 0 := by subst hM; simpa using h
    rw [hy, holdsS, if_pos (by rw [← he]; simp [h1])]
  · have h1 : e = 0 := by subst hM; simpa using h
    have R := rightS_ok.1 (he.symm.trans h1)
    have hy0 : ∀ i, i < a.length → farS (a.getD i 0) = true → y = false := fun i hi hfar => by
      rw [hy, holdsS, if_pos]
      rw [List.any_eq_true.2 ⟨_, getD_mem 0 hi, hfar⟩]; simp
    clear h
    refine Loop.over Nat (fun q => [(.t 6, I q)]) 1 (fun q => a.length - q) (fun q => q ≤ a.length ∧ ∀ i, i < q → farS (a.getD i 0) = false) 0 ⟨Nat.zero_le _, by omega⟩ (by (cbv; repeat' (first | exact True.intro | exact rfl | apply And.intro))) ?_
    rintro j ⟨hj, hn⟩
    cbv
    split <;> rename_i h <;> (try simp only [h]) <;> (try cbv)
    · have hlt : j < a.length := by subst hM; simpa [ha] using h
      clear h
      refine nidx_ints ha hlt fun v hv => ?_
      have hy1 := hy0 j hlt
      rw [← hv] at hy1
      cbv
      split <;> rename_i h <;> (try simp only [h]) <;> (try cbv)
      · have h2 : v < -1000000 := by subst hM; exact of_decide_eq_true h
        rw [hy1 (by unfold farS; simp; omega)]
      · have h2 : ¬ v < -1000000 := by subst hM; exact of_decide_eq_false h
        clear h
        refine nidx_ints ha hlt fun u hu => ?_
        have : u = v := by rw [hu, hv]
        subst this
        cbv
        split <;> rename_i h <;> (try simp only [h]) <;> (try cbv)
        · have h3 : u > 1000000 := by subst hM; exact of_decide_eq_true h
          rw [hy1 (by unfold farS; simp; omega)]
        · have h3 : ¬ u > 1000000 := by subst hM; exact of_decide_eq_false h
          refine ⟨j + 1, ⟨hlt, fun i hi => ?_⟩, ?_, by (cbv; repeat' (first | exact True.intro | exact rfl | apply And.intro)) <;> (subst hM; rw [succ_i64 (by omega)])⟩
          · rcases Nat.lt_or_ge i j with h4 | h4
            · exact hn i h4
            · have : i = j := by omega
              subst this; rw [← hv]; unfold farS; simp; omega
          · omega
    · have hj2 : j = a.length := by subst hM; simp [ha] at h; omega
      subst hj2
      have hf : a.any farS = false := any_no 0 hn
      have cs := c_rholds c a kind K rA rB rC rD rE rR ra H ha R hf y (by rw [hy, holdsS, if_neg (by rw [← he, hf, h1]; simp)])
      refine .mk _ (use_call hC cs) ?_
      cbv
end Go.Pi
