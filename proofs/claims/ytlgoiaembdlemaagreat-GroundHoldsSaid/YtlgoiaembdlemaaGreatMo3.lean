/- Package model: are lists alike; are numbers within their bounds. -/
import Derived.Test.YtlgoiaembdlemaaGreatMo2
import Derived.Test.YtlgoiaembdlemaaGreatSl2
import Derived.Test.YtlgoiaembdlemaaGreatSl3
set_option linter.unusedSimpArgs false
set_option linter.unusedVariables false
namespace Go.Pi
open Go
set_option linter.unusedVariables false

theorem c_alike1 (kind K : Int) (rA rB rC rD rE rR r : List (List PV)) (y : Bool) (hy : y = (r.length != rA.length)) : Call .plain 64 [.list 1 r, .ref [I kind, .list 1 rA, .list 1 rB, .list 1 rC, .list 1 rD, .list 1 rE, I K, .list 1 rR]] (B y) := by
  refine call_of Proofs.Tryz.func64 Proofs.Tryz.call64 rfl rfl fun M C hM hC => ?_
  cbv
  subst hM
  rw [hy]
  show PV.v (Value.bool ((r.length : Int) != (rA.length : Int))) = _
  congr 2
  rw [Bool.eq_iff_iff]; simp; omega

theorem alike_rest {c : Con} (h1 : ¬ c.kind = 1) (h2 : ¬ c.kind = 2) (h3 : ¬ c.kind = 3) (h4 : ¬ c.kind = 4) : alikeS c =
    if c.kind = 19 then c.C.length == c.A.length && c.D.length == c.A.length
  else if c.kind = 21 then c.D.length == c.C.length && c.E.length == c.C.length
  else if c.kind = 22 ∨ c.kind = 23 then c.B.length == c.A.length
  else if c.kind = 18 then !(c.R.any fun r => r.length != c.A.length)
  else true := by
  unfold alikeS; rw [if_neg (by omega)]
theorem beq_cast (a b : Nat) : ((a : Int) == (b : Int)) = (a == b) := by rw [Bool.eq_iff_iff]; simp; omega

theorem c_alike (c : Con) (kind K : Int) (rA rB rC rD rE rR : List (List PV)) (H : ConR c kind rA rB rC rD rE K rR) (h64 : c.kind = 18 → c.R.length ≤ 1000000) (y : Bool) (hy : y = alikeS c) :
    Call .plain 34 [.agg [I kind, .list 1 rA, .list 1 rB, .list 1 rC, .list 1 rD, .list 1 rE, I K, .list 1 rR]] (B y) := by
  have ha : rA.length = c.A.length := by rw [H.A]; simp
  have hb : rB.length = c.B.length := by rw [H.B]; simp
  have hc : rC.length = c.C.length := by rw [H.C]; simp
  have hd : rD.length = c.D.length := by rw [H.D]; simp
  have he : rE.length = c.E.length := by rw [H.E]; simp
  have hkd := H.kind
  refine call_of Proofs.Tryz.func34 Proofs.Tryz.call34 rfl rfl fun M C hM hC => ?_
  have eql : ∀ a b, M .cmp .eql a b = (a == b) := fun a b => by subst hM; rfl
  have leq : ∀ a b : List (List PV), M .cmp .eql (Int.ofNat (M .len a)) (Int.ofNat (M .len b)) = (a.length == b.length) := fun a b => by subst hM; exact beq_cast _ _
  by_cases hk : kind = 18
  · have y18 : y = !(c.R.any fun r => r.length != c.A.length) := by rw [hy, alike_rest (by omega) (by omega) (by omega) (by omega), if_neg (by omega), if_neg (by omega), if_neg (by omega), if_pos (by omega)]
    have cf := c_containsFuncR rR c.R 64 [I kind, .list 1 rA, .list 1 rB, .list 1 rC, .list 1 rD, .list 1 rE, I K, .list 1 rR] (fun r => r.length != c.A.length) H.R (h64 (by omega)) (fun v _ r hr => c_alike1 kind K rA rB rC rD rE rR r _ (by rw [hr, ha]; simp)) _ rfl
    have e : ∀ b, M .cmp .eql kind b = (18 == b) := fun b => by rw [eql, hk]
    clear eql leq hy
    generalize hq : (c.R.any fun r => r.length != c.A.length) = q at cf y18
    cbv
    repeat (simp only [e]; cbv)
    refine callB hC cf fun z hz => ?_
    cbv
    subst hM
    rw [y18, real_not, hz]
  · have y0 : kind = 1 ∨ kind = 2 ∨ kind = 3 ∨ kind = 4 → y = (rC.length == rA.length) := fun h => by
      rw [hy, alikeS, if_pos (by omega), ha, hc]
    have y19 : kind = 19 → y = (rC.length == rA.length && rD.length == rA.length) := fun h => by
      rw [hy, alike_rest (by omega) (by omega) (by omega) (by omega), if_pos (by omega), ha, hc, hd]
    have y21 : kind = 21 → y = (rD.length == rC.length && rE.length == rC.length) := fun h => by
      rw [hy, alike_rest (by omega) (by omega) (by omega) (by omega), if_neg (by omega), if_pos (by omega), he, hc, hd]
    have y22 : kind = 22 ∨ kind = 23 → y = (rB.length == rA.length) := fun h => by
      rw [hy, alike_rest (by omega) (by omega) (by omega) (by omega), if_neg (by omega), if_neg (by omega), if_pos (by omega), ha, hb]
    have yn : (¬ kind = 1 ∧ ¬ kind = 2 ∧ ¬ kind = 3 ∧ ¬ kind = 4 ∧ ¬ kind = 19 ∧ ¬ kind = 21 ∧ ¬ kind = 22 ∧ ¬ kind = 23) → y = true := fun h => by
      rw [hy, alike_rest (by omega) (by omega) (by omega) (by omega), if_neg (by omega), if_neg (by omega), if_neg (by omega), if_neg (by omega)]
    by_cases h1 : kind = 1
    · have e : ∀ b, M .cmp .eql kind b = (1 == b) := fun b => by rw [eql, h1]
      have y1 := y0 (by omega)
      clear eql leq hy y0 y19 y21 y22 yn
      cbv
      repeat (simp only [e]; cbv)
      rw [y1]
      subst hM
      show PV.v (Value.bool ((rC.length : Int) == (rA.length : Int))) = _
      rw [beq_cast]
    by_cases h2 : kind = 2
    · have e : ∀ b, M .cmp .eql kind b = (2 == b) := fun b => by rw [eql, h2]
      have y1 := y0 (by omega)
      clear eql leq hy y0 y19 y21 y22 yn
      cbv
      repeat (simp only [e]; cbv)
      rw [y1]
      subst hM
      show PV.v (Value.bool ((rC.length : Int) == (rA.length : Int))) = _
      rw [beq_cast]
    by_cases h3 : kind = 3
    · have e : ∀ b, M .cmp .eql kind b = (3 == b) := fun b => by rw [eql, h3]
      have y1 := y0 (by omega)
      clear eql leq hy y0 y19 y21 y22 yn
      cbv
      repeat (simp only [e]; cbv)
      rw [y1]
      subst hM
      show PV.v (Value.bool ((rC.length : Int) == (rA.length : Int))) = _
      rw [beq_cast]
    by_cases h4 : kind = 4
    · have e : ∀ b, M .cmp .eql kind b = (4 == b) := fun b => by rw [eql, h4]
      have y1 := y0 (by omega)
      clear eql leq hy y0 y19 y21 y22 yn
      cbv
      repeat (simp only [e]; cbv)
      rw [y1]
      subst hM
      show PV.v (Value.bool ((rC.length : Int) == (rA.length : Int))) = _
      rw [beq_cast]
    by_cases h19 : kind = 19
    · have e : ∀ b, M .cmp .eql kind b = (19 == b) := fun b => by rw [eql, h19]
      have y1 := y19 h19
      clear eql leq hy y0 y19 y21 y22 yn
      cbv
      repeat (simp only [e]; cbv)
      generalize hz : M .cmp .eql (Int.ofNat (M .len rC)) (Int.ofNat (M .len rA)) = z1
      have hz1 : z1 = (rC.length == rA.length) := by rw [← hz]; subst hM; exact beq_cast _ _
      rw [← hz1] at y1
      clear hz hz1
      cases z1
      · cbv
        rw [y1]; simp
      · cbv
        rw [y1]
        subst hM
        show PV.v (Value.bool ((rD.length : Int) == (rA.length : Int))) = _
        rw [beq_cast]; simp
    by_cases h21 : kind = 21
    · have e : ∀ b, M .cmp .eql kind b = (21 == b) := fun b => by rw [eql, h21]
      have y1 := y21 h21
      clear eql leq hy y0 y19 y21 y22 yn
      cbv
      repeat (simp only [e]; cbv)
      generalize hz : M .cmp .eql (Int.ofNat (M .len rD)) (Int.ofNat (M .len rC)) = z1
      have hz1 : z1 = (rD.length == rC.length) := by rw [← hz]; subst hM; exact beq_cast _ _
      rw [← hz1] at y1
      clear hz hz1
      cases z1
      · cbv
        rw [y1]; simp
      · cbv
        rw [y1]
        subst hM
        show PV.v (Value.bool ((rE.length : Int) == (rC.length : Int))) = _
        rw [beq_cast]; simp
    by_cases h22 : kind = 22
    · have e : ∀ b, M .cmp .eql kind b = (22 == b) := fun b => by rw [eql, h22]
      have y1 := y22 (by omega)
      clear eql leq hy y0 y19 y21 y22 yn
      cbv
      repeat (simp only [e]; cbv)
      rw [y1]
      subst hM
      show PV.v (Value.bool ((rB.length : Int) == (rA.length : Int))) = _
      rw [beq_cast]
    by_cases h23 : kind = 23
    · have e : ∀ b, M .cmp .eql kind b = (23 == b) := fun b => by rw [eql, h23]
      have y1 := y22 (by omega)
      clear eql leq hy y0 y19 y21 y22 yn
      cbv
      repeat (simp only [e]; cbv)
      rw [y1]
      subst hM
      show PV.v (Value.bool ((rB.length : Int) == (rA.length : Int))) = _
      rw [beq_cast]
    have K : ∀ b : Int, b = 1 ∨ b = 2 ∨ b = 3 ∨ b = 4 ∨ b = 19 ∨ b = 21 ∨ b = 22 ∨ b = 23 ∨ b = 18 → M .cmp .eql kind b = false := fun b hb => by
      rw [eql]; simp; omega
    have K1 := K 1 (by omega)
    have K2 := K 2 (by omega)
    have K3 := K 3 (by omega)
    have K4 := K 4 (by omega)
    have K19 := K 19 (by omega)
    have K21 := K 21 (by omega)
    have K22 := K 22 (by omega)
    have K23 := K 23 (by omega)
    have K18 := K 18 (by omega)
    have y1 := yn (by omega)
    clear eql leq hy y0 y19 y21 y22 yn K
    cbv
    repeat (simp only [K1, K2, K3, K4, K19, K21, K22, K23, K18]; cbv)
    rw [y1]

theorem c_bounded1 (v least : Int) (y : Bool) (hy : y = (decide (v < least) || decide (v > 1000000))) : Call .plain 80 [I v, .ref [I least]] (B y) := by
  refine call_of Proofs.Tryz.func80 Proofs.Tryz.call80 rfl rfl fun M C hM hC => ?_
  have hy : ∃ a b, a = M .cmp .lss v least ∧ b = M .cmp .gtr v 1000000 ∧ y = (a || b) := ⟨_, _, rfl, rfl, by subst hM; exact hy⟩
  obtain ⟨a, b, ha, hb, hy⟩ := hy
  cbv
  rw [← ha]
  cases a
  · cbv
    rw [hy, hb]; simp
  · cbv
    rw [hy]; simp
theorem c_bounded (rl : List (List PV)) (l : List Int) (least : Int) (hl : rl = ints l) (h64 : l.length ≤ 1000000) (y : Bool) (hy : y = boundedS l least) : Call .plain 67 [.list 1 rl, I least] (B y) := by
  have cf := c_containsFunc1 rl l 80 [I least] (fun v => decide (v < least) || decide (v > 1000000)) hl h64 (fun v _ => c_bounded1 v least _ rfl) _ rfl
  have hy : y = !(l.any fun v => decide (v < least) || decide (v > 1000000)) := hy
  generalize (l.any fun v => decide (v < least) || decide (v > 1000000)) = q at cf hy
  refine call_of Proofs.Tryz.func67 Proofs.Tryz.call67 rfl rfl fun M C hM hC => ?_
  cbv
  refine callB hC cf fun z hz => ?_
  cbv
  subst hM
  rw [hy, hz, real_not]

theorem numbers_rest {c : Con} (hr : ∀ i, i < c.R.length → boundedS (c.R.getD i []) (lowS c.kind) = true) : numbersS c = (boundedS c.C (lowS c.kind) && boundedS c.D (secondS c.kind) && boundedS c.E (secondS c.kind) && decide (c.K ≥ leastK c.kind) && decide (c.K ≤ 9999999999)) := by
  unfold numbersS
  have : (c.R.all fun r => boundedS r (lowS c.kind)) = true := by
    rw [List.all_eq_true]
    intro r hr'
    obtain ⟨i, hi, rfl⟩ := List.mem_iff_getElem.1 hr'
    have := hr i hi
    simpa [List.getD_eq_getElem?_getD, hi] using this
  rw [this, Bool.true_and]
theorem numbers_no {c : Con} {i : Nat} (hi : i < c.R.length) (h : boundedS (c.R.getD i []) (lowS c.kind) = false) : numbersS c = false := by
  unfold numbersS
  have : (c.R.all fun r => boundedS r (lowS c.kind)) = false := by
    rw [List.all_eq_false]
    exact ⟨_, getD_mem [] hi, by rw [h]; simp⟩
  rw [this, Bool.false_and]
theorem c_mnumbers (c : Con) (kind K : Int) (rA rB rC rD rE rR : List (List PV)) (H : ConR c kind rA rB rC rD rE K rR) (hC64 : c.C.length ≤ 1000000) (hD64 : c.D.length ≤ 1000000) (hE64 : c.E.length ≤ 1000000) (hR64 : c.R.length ≤ 1000000) (hRr : ∀ r ∈ c.R, r.length ≤ 1000000) (y : Bool) (hy : y = numbersS c) :
    Call .plain 38 [.agg [I kind, .list 1 rA, .list 1 rB, .list 1 rC, .list 1 rD, .list 1 rE, I K, .list 1 rR]] (B y) := by
  have hkd := H.kind
  have hRR := H.R
  have hCC := H.C
  have hDD := H.D
  have hEE := H.E
  have hKK := H.K
  refine call_of Proofs.Tryz.func38 Proofs.Tryz.call38 rfl rfl fun M C hM hC => ?_
  have eql : ∀ a b, M .cmp .eql a b = (a == b) := fun a b => by subst hM; rfl
  have cases3 : (kind = 19 ∧ M .cmp .eql kind 19 = true ∧ lowS c.kind = 0 ∧ secondS c.kind = 0 ∧ leastK c.kind = 0) ∨
      (M .cmp .eql kind 19 = false ∧ M .cmp .eql kind 21 = true ∧ lowS c.kind = -1000000 ∧ secondS c.kind = 0 ∧ leastK c.kind = -9999999999) ∨
      (M .cmp .eql kind 19 = false ∧ M .cmp .eql kind 21 = false ∧ lowS c.kind = -1000000 ∧ secondS c.kind = -1000000 ∧ leastK c.kind = -9999999999) := by
    by_cases h19 : kind = 19
    · exact .inl ⟨h19, by rw [eql, h19]; rfl, by rw [lowS, if_pos (by omega)], by rw [secondS, if_pos (by omega)], by rw [leastK, if_pos (by omega)]⟩
    · by_cases h21 : kind = 21
      · exact .inr (.inl ⟨by rw [eql]; simpa using h19, by rw [eql, h21]; rfl, by rw [lowS, if_neg (by omega)], by rw [secondS, if_pos (by omega)], by rw [leastK, if_neg (by omega)]⟩)
      · exact .inr (.inr ⟨by rw [eql]; simpa using h19, by rw [eql]; simpa using h21, by rw [lowS, if_neg (by omega)], by rw [secondS, if_neg (by omega)], by rw [leastK, if_neg (by omega)]⟩)
  clear eql
  rcases cases3 with ⟨_, K19, hlow, hsec, hlk⟩ | ⟨K19, K21, hlow, hsec, hlk⟩ | ⟨K19, K21, hlow, hsec, hlk⟩
  all_goals (
    have yn : ∀ i, i < c.R.length → boundedS (c.R.getD i []) (lowS c.kind) = false → y = false := fun i hi h => hy.trans (numbers_no hi h)
    have yy : (∀ i, i < c.R.length → boundedS (c.R.getD i []) (lowS c.kind) = true) → y = (boundedS c.C (lowS c.kind) && boundedS c.D (secondS c.kind) && boundedS c.E (secondS c.kind) && decide (c.K ≥ leastK c.kind) && decide (c.K ≤ 9999999999)) := fun h => hy.trans (numbers_rest h)
    clear hy
    cbv
    simp only [K19]
    cbv
    try (simp only [K21]; cbv)
    refine Loop.over Nat (fun q => [(.t 17, I q)]) 1 (fun q => c.R.length - q) (fun q => q ≤ c.R.length ∧ ∀ i, i < q → boundedS (c.R.getD i []) (lowS c.kind) = true) 0 ⟨Nat.zero_le _, by omega⟩ (by (cbv; repeat' (first | exact True.intro | exact rfl | apply And.intro))) ?_
    rintro j ⟨hj, hn⟩
    cbv
    split <;> rename_i h <;> (try simp only [h]) <;> (try cbv)
    · have hlt : j < c.R.length := by subst hM; simpa [hRR] using h
      refine nidx_rows hRR hlt fun r hr => ?_
      cbv
      refine callB hC (c_bounded r _ _ hr (hRr _ (getD_mem [] hlt)) _ rfl) fun z hz => ?_
      have hz : z = boundedS (c.R.getD j []) (lowS c.kind) := by rw [hz, hlow]
      cbv
      have hnot : M .not z = !z := by subst hM; rfl
      cases z
      · simp only [hnot]
        cbv
        rw [yn j hlt hz.symm]
      · simp only [hnot]
        cbv
        refine ⟨j + 1, ⟨hlt, fun i hi => ?_⟩, ?_, by (cbv; repeat' (first | exact True.intro | exact rfl | apply And.intro)) <;> (subst hM; rw [succ_i64 (by omega)])⟩
        · rcases Nat.lt_or_ge i j with h4 | h4
          · exact hn i h4
          · have : i = j := by omega
            subst this; exact hz.symm
        · omega
    · have hj2 : j = c.R.length := by subst hM; simp [hRR] at h; omega
      subst hj2
      have y1 := yy hn
      rw [hlow, hsec, hlk] at y1
      clear yy yn hn hlow hsec hlk
      refine callB hC (c_bounded _ _ _ hCC hC64 _ rfl) fun z1 hz1 => ?_
      rw [← hz1] at y1
      clear hz1
      cbv
      cases z1
      · cbv
        rw [y1]; simp
      · cbv
        refine callB hC (c_bounded _ _ _ hDD hD64 _ rfl) fun z2 hz2 => ?_
        rw [← hz2] at y1
        clear hz2
        cbv
        cases z2
        · cbv
          rw [y1]; simp
        · cbv
          refine callB hC (c_bounded _ _ _ hEE hE64 _ rfl) fun z3 hz3 => ?_
          rw [← hz3] at y1
          clear hz3
          cbv
          cases z3
          · cbv
            rw [y1]; simp
          · cbv
            split <;> rename_i h <;> (try simp only [h]) <;> (try cbv)
            · subst hM
              rw [y1, ← hKK]
              simp at h
              simp [h]
            · subst hM
              rw [y1, ← hKK]
              simp at h
              simp; omega)
