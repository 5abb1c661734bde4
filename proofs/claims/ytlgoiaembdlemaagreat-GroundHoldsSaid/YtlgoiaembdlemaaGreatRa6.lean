/- Package jigsawref09: Holds, Any. -/
import Derived.Test.YtlgoiaembdlemaaGreatRa2
import Derived.Test.YtlgoiaembdlemaaGreatRa4
import Derived.Test.YtlgoiaembdlemaaGreatRa5
set_option linter.unusedSimpArgs false
set_option linter.unusedVariables false
namespace Go.Pi
open Go
set_option linter.unusedVariables false
set_option linter.unusedSimpArgs false

theorem named_ge {n : Nat} {s : List UInt8} {one all : UInt8} (h : namedS n (bs s) one all = true) (h1 : hasB (bs s) all = true) : 1 ≤ n ∧ n ≤ 64 := by
  unfold namedS at h
  rw [if_pos h1] at h
  unfold withinS at h
  simp at h; omega

set_option maxRecDepth 100000 in
set_option maxHeartbeats 4000000 in
theorem c_rholds (c : Con) (a : List Int) (kind K : Int) (rA rB rC rD rE rR ra : List (List PV)) (H : ConR c kind rA rB rC rD rE K rR) (ha : ra = ints a) (R : RightOK c a.length) (hf : a.any farS = false) (y : Bool) (hy : y = holdsXS c (valuesS a c.A) (valuesS a c.B)) :
    Call .plain 31 [.agg [I kind, .list 1 rA, .list 1 rB, .list 1 rC, .list 1 rD, .list 1 rE, I K, .list 1 rR], .list 1 ra] (B y) := by
  have hkd := H.kind
  have hKK := H.K
  have hA := H.A
  have hB := H.B
  have hC' := H.C
  have ln := R.lens
  have bd := R.bounds
  have al := R.alike
  have nm := R.named
  have k23 := R.kind
  have X := reads_of R.varsA
  have Z := reads_of R.varsB
  have bx := values_near hf c.A
  have bz := values_near hf c.B
  generalize valuesS a c.A = x at X bx hy
  generalize valuesS a c.B = z at Z bz hy
  have lx := X.len
  have lz := Z.len
  have lnA := ln.A
  have lnB := ln.B
  have lnC := ln.C
  refine call_of Proofs.Tryz.func31 Proofs.Tryz.call31 rfl rfl fun M C hM hC => ?_
  have q4 : M .cmp .leq kind 4 = decide (c.kind ≤ 4) := by subst hM; rw [hkd]; rfl
  have q11 : M .cmp .leq kind 11 = decide (c.kind ≤ 11) := by subst hM; rw [hkd]; rfl
  have q16 : M .cmp .leq kind 16 = decide (c.kind ≤ 16) := by subst hM; rw [hkd]; rfl
  obtain h | h | h | h : c.kind ≤ 4 ∨ (5 ≤ c.kind ∧ c.kind ≤ 11) ∨ (12 ≤ c.kind ∧ c.kind ≤ 16) ∨ 17 ≤ c.kind := by omega
  · have q4 : M .cmp .leq kind 4 = true := by rw [q4]; simpa using h
    have e := alike_lin al (by omega)
    have hB1 : kind = 4 → 1 ≤ c.B.length := fun hk => by
      have n2 := named_is (nm (by omega)).2.1 (by rw [show c.kind = 4 by omega]; rfl)
      rw [n2, show c.kind = 4 by omega]; decide
    have cs := c_rlinear kind K rA rB rC rD rE rR ra c.A c.B c.C a x z hA hB hC' ha X Z (by omega) lnA hB1 (by omega) bd.1 bx _ rfl y (by
      rw [hy, ← e, hKK]
      obtain h | h | h | h : c.kind = 1 ∨ c.kind = 2 ∨ c.kind = 3 ∨ c.kind = 4 := by omega
      all_goals simp [holdsXS, logicS, hkd, h, dotS])
    cbv
    simp only [q4]
    cbv
    refine .mk _ (use_call hC cs) ?_
    cbv
  · have q4 : M .cmp .leq kind 4 = false := by rw [q4]; simp; omega
    have q11 : M .cmp .leq kind 11 = true := by rw [q11]; simp; omega
    have lens : 2 ≤ c.A.length ∧ (kind ≠ 8 → kind ≠ 11 → 3 ≤ c.A.length) := by
      have n1 := fun h => named_is (nm (by omega)).1 h
      obtain h | h | h | h | h | h | h : c.kind = 5 ∨ c.kind = 6 ∨ c.kind = 7 ∨ c.kind = 8 ∨ c.kind = 9 ∨ c.kind = 10 ∨ c.kind = 11 := by omega
      all_goals
        rw [h] at n1
        have n1 := n1 rfl
        rw [n1, hkd, h]
        decide
    have cs := c_rthree kind K rA rB rC rD rE rR ra c.A c.C a x hA hC' ha X (by omega) (by omega) lens.1 lens.2 bx y (by
      rw [hy, hkd]
      obtain h | h | h | h | h | h | h : c.kind = 5 ∨ c.kind = 6 ∨ c.kind = 7 ∨ c.kind = 8 ∨ c.kind = 9 ∨ c.kind = 10 ∨ c.kind = 11 := by omega
      all_goals simp [holdsXS, h])
    cbv
    simp only [q4]
    cbv
    simp only [q11]
    cbv
    refine .mk _ (use_call hC cs) ?_
    cbv
  · have q4 : M .cmp .leq kind 4 = false := by rw [q4]; simp; omega
    have q11 : M .cmp .leq kind 11 = false := by rw [q11]; simp; omega
    have q16 : M .cmp .leq kind 16 = true := by rw [q16]; simp; omega
    have lens : kind ≠ 12 → 1 ≤ c.A.length ∧ 1 ≤ c.B.length := fun h12 => by
      have n1 := fun h => named_is (nm (by omega)).1 h
      have n2 := fun h => named_is (nm (by omega)).2.1 h
      obtain h | h | h | h : c.kind = 13 ∨ c.kind = 14 ∨ c.kind = 15 ∨ c.kind = 16 := by omega
      all_goals
        rw [h] at n1 n2
        have n1 := n1 rfl
        have n2 := n2 rfl
        rw [n1, n2]
        decide
    have cs := c_rlogic kind K rA rB rC rD rE rR ra c.A c.B c.C a x z hA hB ha X Z (by omega) (by omega) (fun h => (lens h).1) (fun h => (lens h).2) (by omega) y (by
      rw [hy, hkd, hKK]
      obtain h | h | h | h | h : c.kind = 12 ∨ c.kind = 13 ∨ c.kind = 14 ∨ c.kind = 15 ∨ c.kind = 16 := by omega
      all_goals simp [holdsXS, h])
    cbv
    simp only [q4]
    cbv
    simp only [q11]
    cbv
    simp only [q16]
    cbv
    refine .mk _ (use_call hC cs) ?_
    cbv
  · have q4 : M .cmp .leq kind 4 = false := by rw [q4]; simp; omega
    have q11 : M .cmp .leq kind 11 = false := by rw [q11]; simp; omega
    have q16 : M .cmp .leq kind 16 = false := by rw [q16]; simp; omega
    have eql : ∀ b, M .cmp .eql kind b = (c.kind == b) := fun b => by subst hM; rw [hkd]; rfl
    cbv
    simp only [q4]
    cbv
    simp only [q11]
    cbv
    simp only [q16]
    cbv
    obtain h | h | h | h | h | h : c.kind = 17 ∨ c.kind = 18 ∨ c.kind = 19 ∨ c.kind = 20 ∨ c.kind = 21 ∨ (c.kind = 22 ∨ c.kind = 23) := by omega
    · have e : ∀ b, M .cmp .eql kind b = (17 == b) := fun b => by rw [eql, h]
      have hy : y = apartS x := by rw [hy]; simp [holdsXS, h]
      have getX : ∀ i, i < c.A.length → ∀ p, p = c.A.getD i 0 → 0 ≤ p ∧ p < a.length ∧ a.getD p.toNat 0 = x.getD i 0 := fun i hi p hp => by rw [hp]; exact ⟨X.lo i hi, X.hi i hi, X.get i hi⟩
      simp only [e]
      cbv
      refine Loop.over Nat (fun q => [(.t 5, I q)]) 1 (fun q => c.A.length - q) (fun q => q ≤ c.A.length ∧ ∀ i, i < q → ∀ k, k < i → x.getD i 0 ≠ x.getD k 0) 0 ⟨Nat.zero_le _, by omega⟩ (by (cbv; repeat' (first | exact True.intro | exact rfl | apply And.intro))) ?_
      rintro j ⟨hj, hn⟩
      cbv
      split <;> rename_i h <;> (try simp only [h]) <;> (try cbv)
      · have hlt : j < c.A.length := by subst hM; simpa [hA] using h
        refine Loop.over Nat (fun q => [(.t 6, I q)]) 1 (fun q => j - q) (fun q => q ≤ j ∧ ∀ k, k < q → x.getD j 0 ≠ x.getD k 0) 0 ⟨Nat.zero_le _, by omega⟩ (by (cbv; repeat' (first | exact True.intro | exact rfl | apply And.intro))) ?_
        rintro k ⟨hk, hn2⟩
        cbv
        split <;> rename_i h <;> (try simp only [h]) <;> (try cbv)
        · have hlt2 : k < j := by subst hM; have h := of_decide_eq_true h; exact Int.ofNat_lt.1 h
          refine nidx_ints hA hlt fun p hp => ?_
          obtain ⟨p1, p2, p3⟩ := getX j hlt p hp
          cbv
          refine idx_ints ha p1 p2 fun u hu => ?_
          have hu : u = x.getD j 0 := by rw [hu]; exact p3
          clear p1 p2 p3 hp
          cbv
          refine nidx_ints hA (by omega) fun p hp => ?_
          obtain ⟨p1, p2, p3⟩ := getX k (by omega) p hp
          cbv
          refine idx_ints ha p1 p2 fun v hv => ?_
          have hv : v = x.getD k 0 := by rw [hv]; exact p3
          clear p1 p2 p3 hp
          cbv
          split <;> rename_i h <;> (try simp only [h]) <;> (try cbv)
          · have h1 : u = v := by subst hM; exact eq_of_beq h
            rw [hy, apart_no (by omega) hlt2 (by rw [← hu, ← hv]; exact h1)]
          · have h1 : ¬ u = v := by subst hM; exact fun e => by rw [e] at h; simp at h
            refine ⟨k + 1, ⟨hlt2, fun i hi => ?_⟩, ?_, by (cbv; repeat' (first | exact True.intro | exact rfl | apply And.intro)) <;> (subst hM; rw [succ_i64 (by omega)])⟩
            · rcases Nat.lt_or_ge i k with h3 | h3
              · exact hn2 i h3
              · have : i = k := by omega
                subst this; rw [← hu, ← hv]; exact h1
            · omega
        · have hk2 : k = j := by subst hM; have h := of_decide_eq_false h; have h : ¬ (k : Int) < (j : Int) := h; omega
          subst hk2
          refine ⟨k + 1, ⟨hlt, fun i hi => ?_⟩, ?_, by (cbv; repeat' (first | exact True.intro | exact rfl | apply And.intro)) <;> (subst hM; rw [succ_i64 (by omega)])⟩
          · rcases Nat.lt_or_ge i k with h3 | h3
            · exact hn i h3
            · have : i = k := by omega
              subst this; exact hn2
          · omega
      · have hj2 : j = c.A.length := by subst hM; simp [hA] at h; omega
        subst hj2
        rw [hy, apart_yes fun i hi => hn i (by omega)]
    · have e : ∀ b, M .cmp .eql kind b = (18 == b) := fun b => by rw [eql, h]
      have cs := c_rrow kind K rA rB rC rD rE rR ra c.A a x c.R hA H.R ha X (alike_rows al ln.rows) (by omega) (by have := ln.R; omega) y (by rw [hy]; simp [holdsXS, h])
      repeat (simp only [e]; cbv)
      refine .mk _ (use_call hC cs) ?_
      cbv
    · have e : ∀ b, M .cmp .eql kind b = (19 == b) := fun b => by rw [eql, h]
      have e2 := alike_cumul al h
      have cs := c_rcumul kind K rA rB rC rD rE rR ra c.A c.C c.D a x hA hC' H.D ha X (by omega) (by omega) (by omega) bd.2.1 bx y (by rw [hy, hKK]; simp [holdsXS, h])
      repeat (simp only [e]; cbv)
      refine .mk _ (use_call hC cs) ?_
      cbv
    · have e : ∀ b, M .cmp .eql kind b = (20 == b) := fun b => by rw [eql, h]
      have n1 := named_ge (nm (by omega)).1 (by rw [h]; rfl)
      have cs := c_rcircuit kind K rA rB rC rD rE rR ra c.A a x hA ha X (by omega) (by omega) y (by rw [hy]; simp [holdsXS, h])
      repeat (simp only [e]; cbv)
      refine .mk _ (use_call hC cs) ?_
      cbv
    · have e : ∀ b, M .cmp .eql kind b = (21 == b) := fun b => by rw [eql, h]
      have e2 := alike_gcc al h
      have cs := c_rgcc kind K rA rB rC rD rE rR ra c.A c.C c.D c.E a x hA hC' H.D H.E ha X (by omega) (by omega) (by omega) (by omega) y (by rw [hy]; simp [holdsXS, h])
      repeat (simp only [e]; cbv)
      refine .mk _ (use_call hC cs) ?_
      cbv
    · have e17 : M .cmp .eql kind 17 = false := by rw [eql]; simp; omega
      have e18 : M .cmp .eql kind 18 = false := by rw [eql]; simp; omega
      have e19 : M .cmp .eql kind 19 = false := by rw [eql]; simp; omega
      have e20 : M .cmp .eql kind 20 = false := by rw [eql]; simp; omega
      have e21 : M .cmp .eql kind 21 = false := by rw [eql]; simp; omega
      have e2 := alike_pair al h
      have cs := c_rpairs kind K rA rB rC rD rE rR ra c.A c.B a x z hA hB ha X Z lnA e2 (by omega) bx bz y (by
        rw [hy, hkd]
        rcases h with h | h <;> simp [holdsXS, h])
      simp only [e17]
      cbv
      simp only [e18]
      cbv
      simp only [e19]
      cbv
      simp only [e20]
      cbv
      simp only [e21]
      cbv
      refine .mk _ (use_call hC cs) ?_
      cbv

theorem c_any (c : Con) (a : List Int) (kind K : Int) (rA rB rC rD rE rR ra : List (List PV)) (H : ConR c kind rA rB rC rD rE K rR) (ha : ra = ints a) (h64 : a.length ≤ 1000000) (la : lim rA) (lb : lim rB) (lc : lim rC) (ld : lim rD) (le : lim rE) (lr : lim rR) (y : Bool) (hy : y = holdsS c a) :
    Call .plain 8 [.agg [I kind, .list 1 rA, .list 1 rB, .list 1 rC, .list 1 rD, .list 1 rE, I K, .list 1 rR], .list 1 ra] (B y) := by
  have lenE : (ra.length : Int) = a.length := by rw [ha]; simp
  have hv : (0 : Int) ≤ (ra.length : Int) ∧ (ra.length : Int) ≤ 1000000000000 := by rw [ha, ints_len]; omega
  refine call_of Proofs.Tryz.func8 Proofs.Tryz.call8 rfl rfl fun M C hM hC => ?_
  cbv
  refine callI hC (c_rright c kind K rA rB rC rD rE rR H la lb lc ld le lr _ _ (by subst hM; exact hv) rfl) fun e he => ?_
  have he : e = rightS c a.length := by rw [he]; congr 1; subst hM; exact lenE
  cbv
  split <;> rename_i h <;> (try simp only [h]) <;> (try cbv)
  · have h1 : e ≠ 0 := by subst hM; simpa using h
    rw [hy, holdsS, if_pos (by rw [← he]; simp [h1])]
  · have h1 : e = 0 := by subst hM; simpa using h
    have R := rightS_ok.1 (he.symm.trans h1)
    have hy0 : ∀ i, i < a.length → farS (a.getD i 0) = true → y = false := fun i hi hfar => by
      rw [hy, holdsS, if_pos]
      rw [List.any_eq_true.2 ⟨_, getD_mem 0 hi, hfar⟩]; simp
    clear h
    refine Loop.over Nat (fun q => [(.t 6, I q)]) 1 (fun q => a.length - q) (fun q => q ≤ a.length ∧ ∀ i, i < q → farS (a.getD i 0) = false) 0 ⟨Nat.zero_le _, by omega⟩ (by (cbv; repeat' (first | exact True.intro | exact rfl | apply And.intro))) ?_
    rintro j ⟨hj, hn⟩
    cbv
    split <;> rename_i h <;> (try simp only [h]) <;> (try cbv)
    · have hlt : j < a.length := by subst hM; simpa [ha] using h
      clear h
      refine nidx_ints ha hlt fun v hv => ?_
      have hy1 := hy0 j hlt
      rw [← hv] at hy1
      cbv
      split <;> rename_i h <;> (try simp only [h]) <;> (try cbv)
      · have h2 : v < -1000000 := by subst hM; exact of_decide_eq_true h
        rw [hy1 (by unfold farS; simp; omega)]
      · have h2 : ¬ v < -1000000 := by subst hM; exact of_decide_eq_false h
        clear h
        refine nidx_ints ha hlt fun u hu => ?_
        have : u = v := by rw [hu, hv]
        subst this
        cbv
        split <;> rename_i h <;> (try simp only [h]) <;> (try cbv)
        · have h3 : u > 1000000 := by subst hM; exact of_decide_eq_true h
          rw [hy1 (by unfold farS; simp; omega)]
        · have h3 : ¬ u > 1000000 := by subst hM; exact of_decide_eq_false h
          refine ⟨j + 1, ⟨hlt, fun i hi => ?_⟩, ?_, by (cbv; repeat' (first | exact True.intro | exact rfl | apply And.intro)) <;> (subst hM; rw [succ_i64 (by omega)])⟩
          · rcases Nat.lt_or_ge i j with h4 | h4
            · exact hn i h4
            · have : i = j := by omega
              subst this; rw [← hv]; unfold farS; simp; omega
          · omega
    · have hj2 : j = a.length := by subst hM; simp [ha] at h; omega
      subst hj2
      have hf : a.any farS = false := any_no 0 hn
      have cs := c_rholds c a kind K rA rB rC rD rE rR ra H ha R hf y (by rw [hy, holdsS, if_neg (by rw [← he, hf, h1]; simp)])
      refine .mk _ (use_call hC cs) ?_
      cbv
