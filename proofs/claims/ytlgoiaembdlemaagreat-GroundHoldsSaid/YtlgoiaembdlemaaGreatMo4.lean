/- Package model: a Gcc's numbers; a constraint's variables; may it be? -/
import Derived.Test.YtlgoiaembdlemaaGreatMo3
set_option linter.unusedSimpArgs false
set_option linter.unusedVariables false
namespace Go.Pi
open Go
set_option linter.unusedVariables false

def countsAt (c : Con) (i : Nat) : Bool := decide (c.D.getD i 0 > c.E.getD i 0) || (decide (0 < i) && (sortS c.C).getD i 0 == (sortS c.C).getD (i - 1) 0)
theorem counts_no {c : Con} {i : Nat} (hk : c.kind = 21) (hi : i < c.C.length) (h : countsAt c i = true) : countsS c = false := by
  unfold countsS
  rw [if_pos hk, List.all_eq_false]
  exact ⟨i, by simpa using hi, by unfold countsAt at h; rw [h]; simp⟩
theorem counts_yes {c : Con} (hk : c.kind = 21) (h : ∀ i, i < c.C.length → countsAt c i = false) : countsS c = true := by
  unfold countsS
  rw [if_pos hk, List.all_eq_true]
  intro i hi
  have := h i (by simpa using hi)
  unfold countsAt at this
  rw [this]; rfl

theorem c_counts (c : Con) (kind K : Int) (rA rB rC rD rE rR : List (List PV)) (H : ConR c kind rA rB rC rD rE K rR) (h64 : c.C.length ≤ 1000000) (hl : c.kind = 21 → c.D.length = c.C.length ∧ c.E.length = c.C.length) (y : Bool) (hy : y = countsS c) :
    Call .plain 39 [.agg [I kind, .list 1 rA, .list 1 rB, .list 1 rC, .list 1 rD, .list 1 rE, I K, .list 1 rR]] (B y) := by
  have hkd := H.kind
  have hCC := H.C
  have hDD := H.D
  have hEE := H.E
  have hit := c_valuesIter rC
  have hso := c_sorted c.C h64 rC hCC
  obtain ⟨sl, hsl⟩ : ∃ sl, sl = sortS c.C := ⟨_, rfl⟩
  have hsll : sl.length = c.C.length := by rw [hsl, sortS_len]
  obtain ⟨q, hq⟩ : ∃ q, q = ints sl := ⟨_, rfl⟩
  rw [← hsl, ← hq] at hso
  refine call_of Proofs.Tryz.func39 Proofs.Tryz.call39 rfl rfl fun M C hM hC => ?_
  have eql : M .cmp .neq kind 21 = (kind != 21) := by subst hM; rfl
  by_cases hk : kind = 21
  · have e : M .cmp .neq kind 21 = false := by rw [eql, hk]; rfl
    have hl := hl (by omega)
    clear eql
    cbv
    simp only [e]
    cbv
    refine .mk _ (use_call hC hit) ?_
    cbv
    refine .new _ _ _ (use_call hC hso) ?_
    cbv
    refine Loop.over Nat (fun q => [(.t 15, I q)]) 2 (fun q => c.C.length - q) (fun q => q ≤ c.C.length ∧ ∀ i, i < q → countsAt c i = false) 0 ⟨Nat.zero_le _, by omega⟩ (by (cbv; repeat' (first | exact True.intro | exact rfl | apply And.intro))) ?_
    rintro j ⟨hj, hn⟩
    cbv
    split <;> rename_i h <;> (try simp only [h]) <;> (try cbv)
    · have hlt : j < c.C.length := by subst hM; simpa [hCC] using h
      have fin : y = true ∨ y = false := by cases y <;> simp
      refine nidx_ints hDD (by omega) fun d hd => ?_
      cbv
      refine nidx_ints hEE (by omega) fun e' he' => ?_
      cbv
      have no : countsAt c j = true → y = false := fun h => hy.trans (counts_no (by omega) hlt h)
      have go : countsAt c j = false → ∀ i, i < j + 1 → countsAt c i = false := fun h i hi => by
        rcases Nat.lt_or_ge i j with h4 | h4
        · exact hn i h4
        · have : i = j := by omega
          subst this; exact h
      split <;> rename_i h <;> (try simp only [h]) <;> (try cbv)
      · have h1 : d > e' := by subst hM; simpa using h
        rw [no (by unfold countsAt; rw [← hd, ← he']; simp [h1])]
      · have h1 : ¬ d > e' := by subst hM; simp at h; omega
        split <;> rename_i h <;> (try simp only [h]) <;> (try cbv)
        · have h2 : 0 < j := by subst hM; simp at h; omega
          refine nidx_ints hq (by omega) fun _ _ => ?_
          cbv
          refine nidx_ints hq (by omega) fun u hu => ?_
          cbv
          have e1 : M .arith .sub .i64 (Int.ofNat j) 1 = Int.ofNat (j - 1) := by
            subst hM
            show IntKind.i64.wrap ((j : Int) - 1) = _
            rw [wrap_i64 (by omega) (by omega)]
            show (j : Int) - 1 = ((j - 1 : Nat) : Int)
            omega
          refine idx_ints hq (by rw [show M .arith .sub .i64 _ 1 = _ from e1]; exact Int.natCast_nonneg _) (by rw [show M .arith .sub .i64 _ 1 = _ from e1]; show ((j - 1 : Nat) : Int) < _; omega) fun _ _ => ?_
          cbv
          refine idx_ints hq (by rw [show M .arith .sub .i64 _ 1 = _ from e1]; exact Int.natCast_nonneg _) (by rw [show M .arith .sub .i64 _ 1 = _ from e1]; show ((j - 1 : Nat) : Int) < _; omega) fun v hv => ?_
          have hv : v = sl.getD (j - 1) 0 := by rw [hv]; congr 1; rw [show M .arith .sub .i64 _ 1 = _ from e1]; rfl
          clear e1
          cbv
          split <;> rename_i h <;> (try simp only [h]) <;> (try cbv)
          · have h3 : u = v := by subst hM; simpa using h
            rw [no (by unfold countsAt; rw [← hsl, ← hu, ← hv]; simp [h2, h3])]
          · have h3 : ¬ u = v := by subst hM; simpa using h
            refine ⟨j + 1, ⟨hlt, go (by unfold countsAt; rw [← hd, ← he', ← hsl, ← hu, ← hv]; simp [h1, h3])⟩, ?_, by (cbv; repeat' (first | exact True.intro | exact rfl | apply And.intro)) <;> (subst hM; rw [succ_i64 (by omega)])⟩
            omega
        · have h2 : j = 0 := by subst hM; simp at h; omega
          refine ⟨j + 1, ⟨hlt, go (by unfold countsAt; rw [← hd, ← he']; simp [h1, h2])⟩, ?_, by (cbv; repeat' (first | exact True.intro | exact rfl | apply And.intro)) <;> (subst hM; rw [succ_i64 (by omega)])⟩
          omega
    · have hj2 : j = c.C.length := by subst hM; simp [hCC] at h; omega
      subst hj2
      rw [hy, counts_yes (by omega) hn]
  · have e : M .cmp .neq kind 21 = true := by rw [eql]; simpa using hk
    have y1 : y = true := by rw [hy, countsS, if_neg (by omega)]
    clear eql hy
    cbv
    simp only [e]
    cbv
    rw [y1]

theorem c_vars (c : Con) (kind K : Int) (rA rB rC rD rE rR : List (List PV)) (H : ConR c kind rA rB rC rD rE K rR) (ha : c.A.length ≤ 1000000) (hb : c.B.length ≤ 1000000) (r : List (List PV)) (hr : r = ints (c.A ++ c.B)) :
    Call .plain 36 [.agg [I kind, .list 1 rA, .list 1 rB, .list 1 rC, .list 1 rD, .list 1 rE, I K, .list 1 rR]] (.list 1 r) := by
  have cc := c_concat [[.list 1 rA], [.list 1 rB]] [rA, rB] rfl (by
    intro x hx
    simp only [List.mem_cons, List.not_mem_nil, or_false] at hx
    rcases hx with rfl | rfl
    · rw [H.A]; simpa using ha
    · rw [H.B]; simpa using hb) (by simp) r (by rw [hr, H.A, H.B]; simp [ints_app])
  refine call_of Proofs.Tryz.func36 Proofs.Tryz.call36 rfl rfl fun M C hM hC => ?_
  cbv
  refine .inl (.mk _ (use_call hC cc) ?_)
  cbv

theorem c_right1 (v vars : Int) (y : Bool) (hy : y = (decide (v < 0) || decide (v ≥ vars))) : Call .plain 37 [I v, .ref [I vars]] (B y) := by
  refine call_of Proofs.Tryz.func37 Proofs.Tryz.call37 rfl rfl fun M C hM hC => ?_
  have hy : ∃ a b, a = M .cmp .lss v 0 ∧ b = M .cmp .geq v vars ∧ y = (a || b) := ⟨_, _, rfl, rfl, by subst hM; exact hy⟩
  obtain ⟨a, b, ha, hb, hy⟩ := hy
  cbv
  rw [← ha]
  cases a
  · cbv
    rw [hy, hb]; simp
  · cbv
    rw [hy]; simp

theorem scmp_nil (l : List UInt8) : ((bs l).toList == (⟨⟨[]⟩⟩ : ByteArray).toList) = decide (l = []) := by
  rw [Lib.toList_data, Lib.toList_data]
  cases l <;> simp [bs]

theorem c_right (c : Con) (kind K : Int) (rA rB rC rD rE rR : List (List PV)) (H : ConR c kind rA rB rC rD rE K rR) (la : lim rA) (lb : lim rB) (lc : lim rC) (ld : lim rD) (le : lim rE) (lr : lim rR) (vars y : Int) (hy : y = rightS c vars) :
    Call .plain 14 [.agg [I kind, .list 1 rA, .list 1 rB, .list 1 rC, .list 1 rD, .list 1 rE, I K, .list 1 rR], I vars] (I y) := by
  have hkd := H.kind
  refine call_of Proofs.Tryz.func14 Proofs.Tryz.call14 rfl rfl fun M C hM hC => ?_
  have nt : M .not true = false := by subst hM; rfl
  have nf : M .not false = true := by subst hM; rfl
  cbv
  refine callS hC (c_shape kind _ rfl) fun w hw => ?_
  cbv
  rw [hkd] at hw
  split <;> rename_i h <;> (try simp only [h]) <;> (try cbv)
  · have h1 : shapeS c.kind = [] := by subst hM; rw [hw, real_seql, scmp_nil] at h; simpa using h
    rw [hy, rightS, if_pos h1]
  · have h1 : ¬ shapeS c.kind = [] := by subst hM; rw [hw, real_seql, scmp_nil] at h; simpa using h
    have hk23 := shapeS_ne.1 h1
    rw [rightS, if_neg h1] at hy
    refine callB hC (c_mcounted kind K rA rB rC rD rE rR w la lb lc ld le lr _ rfl) fun z1 hz1 => ?_
    have hz1 : z1 = mcountedS c.kind c.A.length c.B.length c.C.length c.D.length c.E.length c.R.length (bs (shapeS c.kind)) := by
      rw [hz1, hkd, hw, H.A, H.B, H.C, H.D, H.E, H.R]; simp
    rw [← hz1] at hy
    cbv
    cases z1
    · simp only [nf]
      cbv
      rw [hy]; simp
    · simp only [nt]
      have ln := counted_lens hk23 hz1.symm
      cbv
      refine callB hC (c_alike c kind K rA rB rC rD rE rR H (fun _ => by have := ln.R; omega) _ rfl) fun z2 hz2 => ?_
      rw [← hz2] at hy
      cbv
      cases z2
      · simp only [nf]
        cbv
        rw [hy]; simp
      · simp only [nt]
        have hrows := alike_rows hz2.symm ln.rows
        have hgcc := alike_gcc hz2.symm
        clear hz1 hz2
        simp only [Bool.not_true, Bool.or_self, Bool.false_or] at hy
        have e1 : M .cmp .neq K 0 = (c.K != 0) := by subst hM; rw [H.K]; rfl
        have fin : ∀ z3 : Bool, z3 = (c.K != 0 && !(shapeS c.kind).contains 107) → y = if z3 then 10 else if (c.A ++ c.B).any fun v => decide (v < 0) || decide (v ≥ vars) then 7 else if !numbersS c || !countsS c then 11 else 0 := fun z3 h3 => by rw [hy, h3]
        have cv := fun r hr => c_vars c kind K rA rB rC rD rE rR H (by have := ln.A; omega) (by have := ln.B; omega) r hr
        have cx := fun rl hl => c_containsFunc1 rl (c.A ++ c.B) 37 [I vars] (fun v => decide (v < 0) || decide (v ≥ vars)) hl (by have := ln.A; have := ln.B; simp; omega) (fun v _ => c_right1 v vars _ rfl) _ rfl
        have cn := c_mnumbers c kind K rA rB rC rD rE rR H (by have := ln.C; omega) (by have := ln.D; omega) (by have := ln.E; omega) (by have := ln.R; omega) (fun r hr => by rw [hrows r hr]; have := ln.A; omega) _ rfl
        have cc := c_counts c kind K rA rB rC rD rE rR H (by have := ln.C; omega) hgcc _ rfl
        have hs107 : (shapeS c.kind).contains 107 = hasB w 107 := by rw [hw]; rfl
        rw [hs107] at fin
        generalize ((c.A ++ c.B).any fun v => decide (v < 0) || decide (v ≥ vars)) = q7 at fin cx
        generalize numbersS c = qn at fin cn
        generalize countsS c = qc at fin cc
        clear hy hs107 hrows hgcc ln hw
        cbv
        rw [e1]
        have hsc := c_strContains w 107 _ rfl
        generalize hasB w 107 = q3 at fin hsc
        generalize (c.K != 0) = qk at fin
        clear e1
        cases qk
        · have fin := fin false rfl
          simp only [Bool.false_eq_true, if_false] at fin
          cbv
          refine callL hC (cv _ rfl) fun rv hrv => ?_
          cbv
          refine callB hC (cx rv hrv) fun z7 hz7 => ?_
          subst hz7
          clear cx cv hrv
          cbv
          cases z7
          · simp only [Bool.false_eq_true, if_false] at fin
            cbv
            refine callB hC cn fun zn hzn => ?_
            subst hzn
            cbv
            cases zn
            · simp only [nf]
              cbv
              rw [fin]; rfl
            · simp only [nt]
              cbv
              refine callB hC cc fun zc hzc => ?_
              subst hzc
              cbv
              cases zc
              · simp only [nf]
                cbv
                rw [fin]; rfl
              · simp only [nt]
                cbv
                rw [fin]; rfl
          · simp only [if_true] at fin
            cbv
            rw [fin]
        · cbv
          refine callB hC hsc fun z3 hz3 => ?_
          subst hz3
          cbv
          cases z3
          · have fin := fin true rfl
            simp only [nf]
            cbv
            rw [fin]; rfl
          · have fin := fin false rfl
            simp only [Bool.false_eq_true, if_false] at fin
            simp only [nt]
            cbv
            refine callL hC (cv _ rfl) fun rv hrv => ?_
            cbv
            refine callB hC (cx rv hrv) fun z7 hz7 => ?_
            subst hz7
            clear cx cv hrv
            cbv
            cases z7
            · simp only [Bool.false_eq_true, if_false] at fin
              cbv
              refine callB hC cn fun zn hzn => ?_
              subst hzn
              cbv
              cases zn
              · simp only [nf]
                cbv
                rw [fin]; rfl
              · simp only [nt]
                cbv
                refine callB hC cc fun zc hzc => ?_
                subst hzc
                cbv
                cases zc
                · simp only [nf]
                  cbv
                  rw [fin]; rfl
                · simp only [nt]
                  cbv
                  rw [fin]; rfl
            · simp only [if_true] at fin
              cbv
              rw [fin]
