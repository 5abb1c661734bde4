/- Package jigsawref06: may a constraint be? (part 4) -/
import Derived.Test.YtlgoiaembdlemaaGreatDoorMRa0ToRa1c
set_option linter.unusedSimpArgs false
set_option linter.unusedVariables false

/- Package jigsawref06: may a constraint be? (part 4) -/
namespace Go.Pi
open Go
set_option linter.unusedVariables false
set_option linter.unusedSimpArgs false

set_option maxRecDepth 100000 in
set_option maxHeartbeats 8000000 in
theorem c_arityh19 (c : Con) (kind K : Int) (rA rB rC rD rE rR : List (List PV)) (w : ByteArray) (H : ConR c kind rA rB rC rD rE K rR) (hw : w = bs (shapeS c.kind)) (h23 : 1 ≤ c.kind ∧ c.kind ≤ 23)
    (la : lim rA) (lb : lim rB) (lc : lim rC) (ld : lim rD) (le : lim rE) (lr : lim rR) (y : Bool) (hy : y = arityS c) (hcl : c.kind = 19) :
    Call .plain 149 [.agg [I kind, .list 1 rA, .list 1 rB, .list 1 rC, .list 1 rD, .list 1 rE, I K, .list 1 rR], Str w] (B y) := by
  have hkd := H.kind
  have hRR := H.R
  have nA : (rA.length : Int) = c.A.length := by rw [H.A]; simp
  have nB : (rB.length : Int) = c.B.length := by rw [H.B]; simp
  have nC : (rC.length : Int) = c.C.length := by rw [H.C]; simp
  have nD : (rD.length : Int) = c.D.length := by rw [H.D]; simp
  have nE : (rE.length : Int) = c.E.length := by rw [H.E]; simp
  have nR : (rR.length : Int) = c.R.length := by rw [H.R]; simp
  have lR : c.R.length ≤ 1099511627776 := by unfold lim at lr; omega
  have hs : ∀ (ch : UInt8) (cc : Int) (hc : cc = (ch.toNat : Int)), Call .plain 90 [Str w, U8 cc] (I (hasS (shapeS c.kind) ch : Int)) := fun ch cc hc => c_has _ w hw ch cc hc (by have := shape_len h23; omega) _ rfl
  have sh : ∀ ch : UInt8, ((hasS (shapeS c.kind) ch : Int) > 0) ↔ hasB (bs (shapeS c.kind)) ch = true := fun ch => has_pos
  have s114 : c.kind = 18 ∧ hasS (shapeS c.kind) 114 = 1 ∨ c.kind ≠ 18 ∧ hasS (shapeS c.kind) 114 = 0 := by
    rcases kinds23 h23 with h | h | h | h | h | h | h | h | h | h | h | h | h | h | h | h | h | h | h | h | h | h | h <;> rw [h] <;> decide
  refine call_of Proofs.Tryz.func149 Proofs.Tryz.call149 rfl rfl fun M C hM hC => ?_
  have nt : M .not true = false := by subst hM; rfl
  have nf : M .not false = true := by subst hM; rfl
  have q12 : M .cmp .eql kind 12 = decide (c.kind = 12) := by subst hM; rw [hkd]; rfl
  have q4 : M .cmp .leq kind 4 = decide (c.kind ≤ 4) := by subst hM; rw [hkd]; rfl
  have q19 : M .cmp .eql kind 19 = decide (c.kind = 19) := by subst hM; rw [hkd]; rfl
  have q21 : M .cmp .eql kind 21 = decide (c.kind = 21) := by subst hM; rw [hkd]; rfl
  have q22 : M .cmp .geq kind 22 = decide (c.kind ≥ 22) := by subst hM; rw [hkd]; rfl
  -- which lens are alike
  have eAC : M .cmp .neq (Int.ofNat (M .len rC)) (Int.ofNat (M .len rA)) = (c.C.length != c.A.length) := by subst hM; show ((rC.length : Int) != rA.length) = _; rw [nC, nA]; exact cast_bne _ _
  have eAD : M .cmp .neq (Int.ofNat (M .len rD)) (Int.ofNat (M .len rA)) = (c.D.length != c.A.length) := by subst hM; show ((rD.length : Int) != rA.length) = _; rw [nD, nA]; exact cast_bne _ _
  have eCD : M .cmp .neq (Int.ofNat (M .len rD)) (Int.ofNat (M .len rC)) = (c.D.length != c.C.length) := by subst hM; show ((rD.length : Int) != rC.length) = _; rw [nD, nC]; exact cast_bne _ _
  have eCE : M .cmp .neq (Int.ofNat (M .len rE)) (Int.ofNat (M .len rC)) = (c.E.length != c.C.length) := by subst hM; show ((rE.length : Int) != rC.length) = _; rw [nE, nC]; exact cast_bne _ _
  have eBA : M .cmp .neq (Int.ofNat (M .len rB)) (Int.ofNat (M .len rA)) = (c.B.length != c.A.length) := by subst hM; show ((rB.length : Int) != rA.length) = _; rw [nB, nA]; exact cast_bne _ _
  have eK : M .cmp .neq K 0 = (c.K != 0) := by subst hM; rw [H.K]; rfl
  have e107 : M .cmp .eql (hasS (shapeS c.kind) 107 : Int) 0 = !(shapeS c.kind).contains 107 := by
    subst hM
    show ((hasS (shapeS c.kind) 107 : Int) == 0) = !hasB (bs (shapeS c.kind)) 107
    have := sh 107
    cases hb : hasB (bs (shapeS c.kind)) 107
    · rw [hb] at this; simp at this ⊢; omega
    · rw [hb] at this; simp at this ⊢; omega
  obtain ⟨bK, hbK⟩ : ∃ b, b = (c.K == 0 || (shapeS c.kind).contains 107) := ⟨_, rfl⟩
  obtain ⟨u, hu⟩ : ∃ u, u = (c.K != 0) := ⟨_, rfl⟩
  obtain ⟨u2, hu2⟩ : ∃ u, u = (shapeS c.kind).contains 107 := ⟨_, rfl⟩
  have hy : y = (mcountedS c.kind c.A.length c.B.length c.C.length c.D.length c.E.length c.R.length (bs (shapeS c.kind)) && alikeS c && bK) := by rw [hy, arityS, hbK]
  rw [← hu] at eK
  rw [← hu2] at e107
  have hbK : bK = (!u || u2) := by rw [hbK, hu, hu2]; simp [bne]
  clear hu hu2
  obtain ⟨dAC, hdAC⟩ : ∃ b, b = (c.C.length != c.A.length) := ⟨_, rfl⟩
  obtain ⟨dAD, hdAD⟩ : ∃ b, b = (c.D.length != c.A.length) := ⟨_, rfl⟩
  obtain ⟨dCD, hdCD⟩ : ∃ b, b = (c.D.length != c.C.length) := ⟨_, rfl⟩
  obtain ⟨dCE, hdCE⟩ : ∃ b, b = (c.E.length != c.C.length) := ⟨_, rfl⟩
  obtain ⟨dBA, hdBA⟩ : ∃ b, b = (c.B.length != c.A.length) := ⟨_, rfl⟩
  rw [← hdAC] at eAC; rw [← hdAD] at eAD; rw [← hdCD] at eCD; rw [← hdCE] at eCE; rw [← hdBA] at eBA
  have k107 := hs 107 107 rfl
  obtain ⟨n107, hn107⟩ : ∃ n, n = (hasS (shapeS c.kind) 107 : Int) := ⟨_, rfl⟩
  rw [← hn107] at k107 e107
  obtain ⟨s, hs'⟩ : ∃ s, s = shapeS c.kind := ⟨_, rfl⟩
  rw [← hs'] at hs s114
  have y12 : c.kind = 12 → y = (decide ((c.A.length : Int) + c.B.length ≥ 1) && (decide ((c.A.length : Int) ≤ 64) && (decide ((c.B.length : Int) ≤ 64) && (((c.C.length : Int) == 0) && (((c.D.length : Int) == 0) && (((c.E.length : Int) == 0) && (((c.R.length : Int) == 0) && bK))))))) := fun h12 => by
    rw [hy, Bool.eq_iff_iff]
    simp only [mcountedS, if_pos h12, alikeS, withinS, show ¬ (1 ≤ c.kind ∧ c.kind ≤ 4) by omega, show ¬ c.kind = 19 by omega, show ¬ c.kind = 21 by omega, show ¬ (c.kind = 22 ∨ c.kind = 23) by omega, show ¬ c.kind = 18 by omega, if_false, Bool.and_eq_true, decide_eq_true_eq, beq_iff_eq, and_true]
    constructor
    · rintro ⟨⟨⟨⟨h1, h2⟩, h3⟩, h4⟩, h5⟩
      refine ⟨h1, ?_, ?_, ?_, ?_, ?_, ?_, h5⟩ <;> (first | omega | (split at h3 <;> omega))
    · rintro ⟨h1, h2, h3, h4, h5, h6, h7, h8⟩
      refine ⟨⟨⟨⟨h1, by omega⟩, ?_⟩, by omega⟩, h8⟩
      split <;> omega
  obtain ⟨r0, hr0⟩ : ∃ b, b = (if hasB (bs (shapeS c.kind)) 114 then withinS c.R.length 1 1024 else (c.R.length : Int) == 0) := ⟨_, rfl⟩
  have hr18 : c.kind = 18 → r0 = (decide ((c.R.length : Int) ≥ 1) && decide ((c.R.length : Int) ≤ 1024)) := fun h18 => by
    rw [hr0, if_pos]
    · rfl
    · rw [h18]; rfl
  have hr00 : c.kind ≠ 18 → r0 = ((c.R.length : Int) == 0) := fun h18 => by
    rw [hr0, if_neg]
    exact fun hh => h18 (shape_r h23 hh)
  obtain ⟨X, hX⟩ : ∃ b, b = namedS c.A.length (bs (shapeS c.kind)) 118 86 := ⟨_, rfl⟩
  obtain ⟨Y, hY⟩ : ∃ b, b = namedS c.B.length (bs (shapeS c.kind)) 119 87 := ⟨_, rfl⟩
  obtain ⟨P, hP⟩ : ∃ b, b = namedS c.C.length (bs (shapeS c.kind)) 45 99 := ⟨_, rfl⟩
  obtain ⟨Q, hQ⟩ : ∃ b, b = namedS c.D.length (bs (shapeS c.kind)) 45 100 := ⟨_, rfl⟩
  obtain ⟨R', hR'⟩ : ∃ b, b = namedS c.E.length (bs (shapeS c.kind)) 45 101 := ⟨_, rfl⟩
  obtain ⟨al, hal⟩ : ∃ b, b = alikeS c := ⟨_, rfl⟩
  have yn : c.kind ≠ 12 → y = (X && (Y && (P && (Q && (R' && (r0 && (al && bK))))))) := fun h12 => by
    rw [hy, mcountedS, if_neg h12, ← hr0, ← hX, ← hY, ← hP, ← hQ, ← hR', ← hal]
    cases X <;> cases Y <;> cases P <;> cases Q <;> cases R' <;> cases r0 <;> simp
  rw [← list_named] at hX hY
  rw [← list_dash _ h23] at hP hQ hR'
  rw [← hs'] at hX hY hP hQ hR'
  have lx := c_list (Int.ofNat (M .len rA)) (hasS s 118) (hasS s 86) X (by rw [hX]; subst hM; congr 1; exact nA.symm)
  have ly := c_list (Int.ofNat (M .len rB)) (hasS s 119) (hasS s 87) Y (by rw [hY]; subst hM; congr 1; exact nB.symm)
  have lp := c_list (Int.ofNat (M .len rC)) 0 (hasS s 99) P (by rw [hP]; subst hM; congr 1; exact nC.symm)
  have lq := c_list (Int.ofNat (M .len rD)) 0 (hasS s 100) Q (by rw [hQ]; subst hM; congr 1; exact nD.symm)
  have lr' := c_list (Int.ofNat (M .len rE)) 0 (hasS s 101) R' (by rw [hR']; subst hM; congr 1; exact nE.symm)
  clear hX hY hP hQ hR' hy hr0 sh
  have k118 := hs 118 118 rfl
  have k86 := hs 86 86 rfl
  have k119 := hs 119 119 rfl
  have k87 := hs 87 87 rfl
  have k99 := hs 99 99 rfl
  have k100 := hs 100 100 rfl
  have k101 := hs 101 101 rfl
  have k114 := hs 114 114 rfl
  generalize (hasS s 118 : Int) = n118 at k118 lx
  generalize (hasS s 86 : Int) = n86 at k86 lx
  generalize (hasS s 119 : Int) = n119 at k119 ly
  generalize (hasS s 87 : Int) = n87 at k87 ly
  generalize (hasS s 99 : Int) = n99 at k99 lp
  generalize (hasS s 100 : Int) = n100 at k100 lq
  generalize (hasS s 101 : Int) = n101 at k101 lr'
  obtain ⟨n114, hn114⟩ : ∃ n, n = (hasS s 114 : Int) := ⟨_, rfl⟩
  rw [← hn114] at k114
  have z114 : M .cmp .eql n114 0 = decide (c.kind ≠ 18) := by
    subst hM
    show (n114 == 0) = _
    rcases s114 with ⟨h, h2⟩ | ⟨h, h2⟩ <;> rw [hn114, h2] <;> simp [h]
  have g114 : M .cmp .gtr n114 0 = decide (c.kind = 18) := by
    subst hM
    show decide (n114 > 0) = _
    rcases s114 with ⟨h, h2⟩ | ⟨h, h2⟩ <;> rw [hn114, h2] <;> simp [h]
  clear hn107 hs s114 hs' hn114 hw
  have h12 : c.kind ≠ 12 := by omega
  have yn := yn h12
  have q12 : M .cmp .eql kind 12 = false := by rw [q12]; simpa using h12
  clear y12
  cbv
  simp only [eK]
  cases u
  · subst hbK
    cbv
    simp only [q12]
    cbv
    refine .mk _ (use_call hC k118) ?_
    cbv
    refine .mk _ (use_call hC k86) ?_
    cbv
    refine .mk _ (use_call hC lx) ?_
    cbv
    refine .mk _ (use_call hC k119) ?_
    cbv
    refine .mk _ (use_call hC k87) ?_
    cbv
    refine .mk _ (use_call hC ly) ?_
    cbv
    refine .mk _ (use_call hC k99) ?_
    cbv
    refine .mk _ (use_call hC lp) ?_
    cbv
    refine .mk _ (use_call hC k100) ?_
    cbv
    refine .mk _ (use_call hC lq) ?_
    cbv
    refine .mk _ (use_call hC k101) ?_
    cbv
    refine .mk _ (use_call hC lr') ?_
    cbv
    cases X
    · simp only [nf]
      cbv
      rw [yn]; simp
    simp only [nt]
    cbv
    cases Y
    · simp only [nf]
      cbv
      rw [yn]; simp
    simp only [nt]
    cbv
    cases P
    · simp only [nf]
      cbv
      rw [yn]; simp
    simp only [nt]
    cbv
    cases Q
    · simp only [nf]
      cbv
      rw [yn]; simp
    simp only [nt]
    cbv
    cases R'
    · simp only [nf]
      cbv
      rw [yn]; simp
    simp only [nt]
    cbv
    simp only [Bool.true_and, Bool.and_true, Bool.not_true, Bool.not_false, Bool.true_or, Bool.or_true] at yn
    refine .mk _ (use_call hC k114) ?_
    cbv
    have h19 := hcl
    have q4 : M .cmp .leq kind 4 = false := by rw [q4]; simp; omega
    have q19 : M .cmp .eql kind 19 = true := by rw [q19]; simp; omega
    have q21 : M .cmp .eql kind 21 = false := by rw [q21]; simp; omega
    have q22 : M .cmp .geq kind 22 = false := by rw [q22]; simp; omega
    have z114 : M .cmp .eql n114 0 = true := by rw [z114]; simp; omega
    have g114 : M .cmp .gtr n114 0 = false := by rw [g114]; simp; omega
    have al1 : al = (!dAC && !dAD) := by
      rw [hal, Bool.eq_iff_iff]
      simp [alikeS, hdAC, hdAD, hdCD, hdCE, hdBA, show (1 ≤ c.kind ∧ c.kind ≤ 4) ↔ False by simp; omega, show c.kind = 19 ↔ True by simp; omega, show c.kind = 21 ↔ False by simp; omega, show (c.kind = 22 ∨ c.kind = 23) ↔ False by simp; omega, show c.kind = 18 ↔ False by simp; omega]
    simp only [z114]
    cbv
    have hr := hr00 (by omega)
    split <;> rename_i h <;> (try simp only [h]) <;> (try cbv) <;> (try simp only [ncast] at *)
    · have h1 : rR.length > 0 := by subst hM; have h := of_decide_eq_true h; have h : (rR.length : Int) > 0 := h; omega
      have : ((c.R.length : Int) == 0) = false := beq_eq_false_iff_ne.2 (by omega)
      rw [yn, hr, this]; simp
    have h1 : ¬ rR.length > 0 := by subst hM; have h := of_decide_eq_false h; have h : ¬ (rR.length : Int) > 0 := h; omega
    clear h
    have hR0 : c.R.length = 0 := by omega
    have r00 : r0 = true := by rw [hr]; exact beq_iff_eq.2 (by omega)
    subst r00
    simp only [Bool.true_and, Bool.and_true] at yn
    refine .mk _ (use_call hC k114) ?_
    cbv
    simp only [g114]
    cbv
    simp only [q4]
    cbv
    simp only [q19]
    cbv
    simp only [eAC]
    rcases Bool.eq_false_or_eq_true dAC with hd | hd <;> subst hd
    · cbv
      rw [yn, al1]; simp
    cbv
    simp only [eAD]
    rcases Bool.eq_false_or_eq_true dAD with hd | hd <;> subst hd
    · cbv
      rw [yn, al1]; simp
    cbv
    simp only [q21]
    cbv
    simp only [q22]
    cbv
    have yn : y = !(c.R.any fun r => r.length != c.A.length) := by
      rw [yn, al1, List.eq_nil_of_length_eq_zero hR0]; simp
    refine Loop.over Nat (fun q => [(.t 12, I q)]) 1 (fun q => c.R.length - q) (fun q => q ≤ c.R.length ∧ ∀ i, i < q → (c.R.getD i []).length = c.A.length) 0 ⟨Nat.zero_le _, by omega⟩ (by (cbv; repeat' (first | exact True.intro | exact rfl | apply And.intro))) ?_
    rintro j ⟨hj, hn⟩
    cbv
    split <;> rename_i h <;> (try simp only [h]) <;> (try cbv) <;> (try simp only [ncast] at *)
    · have hlt : j < c.R.length := by subst hM; have h := of_decide_eq_true h; have h : (j : Int) < (rR.length : Int) := h; omega
      refine nidx_rows hRR hlt fun r hr5 => ?_
      have lr5 : r.length = (c.R.getD j []).length := by rw [hr5]; simp
      clear hr5
      cbv
      split <;> rename_i h <;> (try simp only [h]) <;> (try cbv) <;> (try simp only [ncast] at *)
      · have h3 : (c.R.getD j []).length ≠ c.A.length := by subst hM; have h : ((r.length : Int) != (rA.length : Int)) = true := h; rw [bne_iff_ne] at h; omega
        rw [yn, rows_bad hlt h3]; rfl
      · have h3 : (c.R.getD j []).length = c.A.length := by subst hM; have h : ((r.length : Int) != (rA.length : Int)) = false := h; rw [bne_eq_false_iff_eq] at h; omega
        refine ⟨j + 1, ⟨hlt, fun i hi => ?_⟩, ?_, by (cbv; repeat' (first | exact True.intro | exact rfl | apply And.intro)) <;> (subst hM; rw [succ_i64 (by omega)])⟩
        · rcases Nat.lt_or_ge i j with h4 | h4
          · exact hn i h4
          · have : i = j := by omega
            subst this; exact h3
        · omega
    · have hj2 : j = c.R.length := by subst hM; have h := of_decide_eq_false h; have h : ¬ (j : Int) < (rR.length : Int) := h; omega
      subst hj2
      rw [yn, rows_all hn]; rfl
  · cbv
    refine .mk _ (use_call hC k107) ?_
    cbv
    simp only [e107]
    cases u2
    · subst hbK
      cbv
      rw [yn]; simp
    · subst hbK
      cbv
      simp only [q12]
      cbv
      refine .mk _ (use_call hC k118) ?_
      cbv
      refine .mk _ (use_call hC k86) ?_
      cbv
      refine .mk _ (use_call hC lx) ?_
      cbv
      refine .mk _ (use_call hC k119) ?_
      cbv
      refine .mk _ (use_call hC k87) ?_
      cbv
      refine .mk _ (use_call hC ly) ?_
      cbv
      refine .mk _ (use_call hC k99) ?_
      cbv
      refine .mk _ (use_call hC lp) ?_
      cbv
      refine .mk _ (use_call hC k100) ?_
      cbv
      refine .mk _ (use_call hC lq) ?_
      cbv
      refine .mk _ (use_call hC k101) ?_
      cbv
      refine .mk _ (use_call hC lr') ?_
      cbv
      cases X
      · simp only [nf]
        cbv
        rw [yn]; simp
      simp only [nt]
      cbv
      cases Y
      · simp only [nf]
        cbv
        rw [yn]; simp
      simp only [nt]
      cbv
      cases P
      · simp only [nf]
        cbv
        rw [yn]; simp
      simp only [nt]
      cbv
      cases Q
      · simp only [nf]
        cbv
        rw [yn]; simp
      simp only [nt]
      cbv
      cases R'
      · simp only [nf]
        cbv
        rw [yn]; simp
      simp only [nt]
      cbv
      simp only [Bool.true_and, Bool.and_true, Bool.not_true, Bool.not_false, Bool.true_or, Bool.or_true] at yn
      refine .mk _ (use_call hC k114) ?_
      cbv
      have h19 := hcl
      have q4 : M .cmp .leq kind 4 = false := by rw [q4]; simp; omega
      have q19 : M .cmp .eql kind 19 = true := by rw [q19]; simp; omega
      have q21 : M .cmp .eql kind 21 = false := by rw [q21]; simp; omega
      have q22 : M .cmp .geq kind 22 = false := by rw [q22]; simp; omega
      have z114 : M .cmp .eql n114 0 = true := by rw [z114]; simp; omega
      have g114 : M .cmp .gtr n114 0 = false := by rw [g114]; simp; omega
      have al1 : al = (!dAC && !dAD) := by
        rw [hal, Bool.eq_iff_iff]
        simp [alikeS, hdAC, hdAD, hdCD, hdCE, hdBA, show (1 ≤ c.kind ∧ c.kind ≤ 4) ↔ False by simp; omega, show c.kind = 19 ↔ True by simp; omega, show c.kind = 21 ↔ False by simp; omega, show (c.kind = 22 ∨ c.kind = 23) ↔ False by simp; omega, show c.kind = 18 ↔ False by simp; omega]
      simp only [z114]
      cbv
      have hr := hr00 (by omega)
      split <;> rename_i h <;> (try simp only [h]) <;> (try cbv) <;> (try simp only [ncast] at *)
      · have h1 : rR.length > 0 := by subst hM; have h := of_decide_eq_true h; have h : (rR.length : Int) > 0 := h; omega
        have : ((c.R.length : Int) == 0) = false := beq_eq_false_iff_ne.2 (by omega)
        rw [yn, hr, this]; simp
      have h1 : ¬ rR.length > 0 := by subst hM; have h := of_decide_eq_false h; have h : ¬ (rR.length : Int) > 0 := h; omega
      clear h
      have hR0 : c.R.length = 0 := by omega
      have r00 : r0 = true := by rw [hr]; exact beq_iff_eq.2 (by omega)
      subst r00
      simp only [Bool.true_and, Bool.and_true] at yn
      refine .mk _ (use_call hC k114) ?_
      cbv
      simp only [g114]
      cbv
      simp only [q4]
      cbv
      simp only [q19]
      cbv
      simp only [eAC]
      rcases Bool.eq_false_or_eq_true dAC with hd | hd <;> subst hd
      · cbv
        rw [yn, al1]; simp
      cbv
      simp only [eAD]
      rcases Bool.eq_false_or_eq_true dAD with hd | hd <;> subst hd
      · cbv
        rw [yn, al1]; simp
      cbv
      simp only [q21]
      cbv
      simp only [q22]
      cbv
      have yn : y = !(c.R.any fun r => r.length != c.A.length) := by
        rw [yn, al1, List.eq_nil_of_length_eq_zero hR0]; simp
      refine Loop.over Nat (fun q => [(.t 12, I q)]) 1 (fun q => c.R.length - q) (fun q => q ≤ c.R.length ∧ ∀ i, i < q → (c.R.getD i []).length = c.A.length) 0 ⟨Nat.zero_le _, by omega⟩ (by (cbv; repeat' (first | exact True.intro | exact rfl | apply And.intro))) ?_
      rintro j ⟨hj, hn⟩
      cbv
      split <;> rename_i h <;> (try simp only [h]) <;> (try cbv) <;> (try simp only [ncast] at *)
      · have hlt : j < c.R.length := by subst hM; have h := of_decide_eq_true h; have h : (j : Int) < (rR.length : Int) := h; omega
        refine nidx_rows hRR hlt fun r hr5 => ?_
        have lr5 : r.length = (c.R.getD j []).length := by rw [hr5]; simp
        clear hr5
        cbv
        split <;> rename_i h <;> (try simp only [h]) <;> (try cbv) <;> (try simp only [ncast] at *)
        · have h3 : (c.R.getD j []).length ≠ c.A.length := by subst hM; have h : ((r.length : Int) != (rA.length : Int)) = true := h; rw [bne_iff_ne] at h; omega
          rw [yn, rows_bad hlt h3]; rfl
        · have h3 : (c.R.getD j []).length = c.A.length := by subst hM; have h : ((r.length : Int) != (rA.length : Int)) = false := h; rw [bne_eq_false_iff_eq] at h; omega
          refine ⟨j + 1, ⟨hlt, fun i hi => ?_⟩, ?_, by (cbv; repeat' (first | exact True.intro | exact rfl | apply And.intro)) <;> (subst hM; rw [succ_i64 (by omega)])⟩
          · rcases Nat.lt_or_ge i j with h4 | h4
            · exact hn i h4
            · have : i = j := by omega
              subst this; exact h3
          · omega
      · have hj2 : j = c.R.length := by subst hM; have h := of_decide_eq_false h; have h : ¬ (j : Int) < (rR.length : Int) := h; omega
        subst hj2
        rw [yn, rows_all hn]; rfl
end Go.Pi

/- Package jigsawref06: may a constraint be? (part 5) -/
namespace Go.Pi
open Go
set_option linter.unusedVariables false
set_option linter.unusedSimpArgs false

set_option maxRecDepth 100000 in
set_option maxHeartbeats 8000000 in
theorem c_arityh21 (c : Con) (kind K : Int) (rA rB rC rD rE rR : List (List PV)) (w : ByteArray) (H : ConR c kind rA rB rC rD rE K rR) (hw : w = bs (shapeS c.kind)) (h23 : 1 ≤ c.kind ∧ c.kind ≤ 23)
    (la : lim rA) (lb : lim rB) (lc : lim rC) (ld : lim rD) (le : lim rE) (lr : lim rR) (y : Bool) (hy : y = arityS c) (hcl : c.kind = 21) :
    Call .plain 149 [.agg [I kind, .list 1 rA, .list 1 rB, .list 1 rC, .list 1 rD, .list 1 rE, I K, .list 1 rR], Str w] (B y) := by
  have hkd := H.kind
  have hRR := H.R
  have nA : (rA.length : Int) = c.A.length := by rw [H.A]; simp
  have nB : (rB.length : Int) = c.B.length := by rw [H.B]; simp
  have nC : (rC.length : Int) = c.C.length := by rw [H.C]; simp
  have nD : (rD.length : Int) = c.D.length := by rw [H.D]; simp
  have nE : (rE.length : Int) = c.E.length := by rw [H.E]; simp
  have nR : (rR.length : Int) = c.R.length := by rw [H.R]; simp
  have lR : c.R.length ≤ 1099511627776 := by unfold lim at lr; omega
  have hs : ∀ (ch : UInt8) (cc : Int) (hc : cc = (ch.toNat : Int)), Call .plain 90 [Str w, U8 cc] (I (hasS (shapeS c.kind) ch : Int)) := fun ch cc hc => c_has _ w hw ch cc hc (by have := shape_len h23; omega) _ rfl
  have sh : ∀ ch : UInt8, ((hasS (shapeS c.kind) ch : Int) > 0) ↔ hasB (bs (shapeS c.kind)) ch = true := fun ch => has_pos
  have s114 : c.kind = 18 ∧ hasS (shapeS c.kind) 114 = 1 ∨ c.kind ≠ 18 ∧ hasS (shapeS c.kind) 114 = 0 := by
    rcases kinds23 h23 with h | h | h | h | h | h | h | h | h | h | h | h | h | h | h | h | h | h | h | h | h | h | h <;> rw [h] <;> decide
  refine call_of Proofs.Tryz.func149 Proofs.Tryz.call149 rfl rfl fun M C hM hC => ?_
  have nt : M .not true = false := by subst hM; rfl
  have nf : M .not false = true := by subst hM; rfl
  have q12 : M .cmp .eql kind 12 = decide (c.kind = 12) := by subst hM; rw [hkd]; rfl
  have q4 : M .cmp .leq kind 4 = decide (c.kind ≤ 4) := by subst hM; rw [hkd]; rfl
  have q19 : M .cmp .eql kind 19 = decide (c.kind = 19) := by subst hM; rw [hkd]; rfl
  have q21 : M .cmp .eql kind 21 = decide (c.kind = 21) := by subst hM; rw [hkd]; rfl
  have q22 : M .cmp .geq kind 22 = decide (c.kind ≥ 22) := by subst hM; rw [hkd]; rfl
  -- which lens are alike
  have eAC : M .cmp .neq (Int.ofNat (M .len rC)) (Int.ofNat (M .len rA)) = (c.C.length != c.A.length) := by subst hM; show ((rC.length : Int) != rA.length) = _; rw [nC, nA]; exact cast_bne _ _
  have eAD : M .cmp .neq (Int.ofNat (M .len rD)) (Int.ofNat (M .len rA)) = (c.D.length != c.A.length) := by subst hM; show ((rD.length : Int) != rA.length) = _; rw [nD, nA]; exact cast_bne _ _
  have eCD : M .cmp .neq (Int.ofNat (M .len rD)) (Int.ofNat (M .len rC)) = (c.D.length != c.C.length) := by subst hM; show ((rD.length : Int) != rC.length) = _; rw [nD, nC]; exact cast_bne _ _
  have eCE : M .cmp .neq (Int.ofNat (M .len rE)) (Int.ofNat (M .len rC)) = (c.E.length != c.C.length) := by subst hM; show ((rE.length : Int) != rC.length) = _; rw [nE, nC]; exact cast_bne _ _
  have eBA : M .cmp .neq (Int.ofNat (M .len rB)) (Int.ofNat (M .len rA)) = (c.B.length != c.A.length) := by subst hM; show ((rB.length : Int) != rA.length) = _; rw [nB, nA]; exact cast_bne _ _
  have eK : M .cmp .neq K 0 = (c.K != 0) := by subst hM; rw [H.K]; rfl
  have e107 : M .cmp .eql (hasS (shapeS c.kind) 107 : Int) 0 = !(shapeS c.kind).contains 107 := by
    subst hM
    show ((hasS (shapeS c.kind) 107 : Int) == 0) = !hasB (bs (shapeS c.kind)) 107
    have := sh 107
    cases hb : hasB (bs (shapeS c.kind)) 107
    · rw [hb] at this; simp at this ⊢; omega
    · rw [hb] at this; simp at this ⊢; omega
  obtain ⟨bK, hbK⟩ : ∃ b, b = (c.K == 0 || (shapeS c.kind).contains 107) := ⟨_, rfl⟩
  obtain ⟨u, hu⟩ : ∃ u, u = (c.K != 0) := ⟨_, rfl⟩
  obtain ⟨u2, hu2⟩ : ∃ u, u = (shapeS c.kind).contains 107 := ⟨_, rfl⟩
  have hy : y = (mcountedS c.kind c.A.length c.B.length c.C.length c.D.length c.E.length c.R.length (bs (shapeS c.kind)) && alikeS c && bK) := by rw [hy, arityS, hbK]
  rw [← hu] at eK
  rw [← hu2] at e107
  have hbK : bK = (!u || u2) := by rw [hbK, hu, hu2]; simp [bne]
  clear hu hu2
  obtain ⟨dAC, hdAC⟩ : ∃ b, b = (c.C.length != c.A.length) := ⟨_, rfl⟩
  obtain ⟨dAD, hdAD⟩ : ∃ b, b = (c.D.length != c.A.length) := ⟨_, rfl⟩
  obtain ⟨dCD, hdCD⟩ : ∃ b, b = (c.D.length != c.C.length) := ⟨_, rfl⟩
  obtain ⟨dCE, hdCE⟩ : ∃ b, b = (c.E.length != c.C.length) := ⟨_, rfl⟩
  obtain ⟨dBA, hdBA⟩ : ∃ b, b = (c.B.length != c.A.length) := ⟨_, rfl⟩
  rw [← hdAC] at eAC; rw [← hdAD] at eAD; rw [← hdCD] at eCD; rw [← hdCE] at eCE; rw [← hdBA] at eBA
  have k107 := hs 107 107 rfl
  obtain ⟨n107, hn107⟩ : ∃ n, n = (hasS (shapeS c.kind) 107 : Int) := ⟨_, rfl⟩
  rw [← hn107] at k107 e107
  obtain ⟨s, hs'⟩ : ∃ s, s = shapeS c.kind := ⟨_, rfl⟩
  rw [← hs'] at hs s114
  have y12 : c.kind = 12 → y = (decide ((c.A.length : Int) + c.B.length ≥ 1) && (decide ((c.A.length : Int) ≤ 64) && (decide ((c.B.length : Int) ≤ 64) && (((c.C.length : Int) == 0) && (((c.D.length : Int) == 0) && (((c.E.length : Int) == 0) && (((c.R.length : Int) == 0) && bK))))))) := fun h12 => by
    rw [hy, Bool.eq_iff_iff]
    simp only [mcountedS, if_pos h12, alikeS, withinS, show ¬ (1 ≤ c.kind ∧ c.kind ≤ 4) by omega, show ¬ c.kind = 19 by omega, show ¬ c.kind = 21 by omega, show ¬ (c.kind = 22 ∨ c.kind = 23) by omega, show ¬ c.kind = 18 by omega, if_false, Bool.and_eq_true, decide_eq_true_eq, beq_iff_eq, and_true]
    constructor
    · rintro ⟨⟨⟨⟨h1, h2⟩, h3⟩, h4⟩, h5⟩
      refine ⟨h1, ?_, ?_, ?_, ?_, ?_, ?_, h5⟩ <;> (first | omega | (split at h3 <;> omega))
    · rintro ⟨h1, h2, h3, h4, h5, h6, h7, h8⟩
      refine ⟨⟨⟨⟨h1, by omega⟩, ?_⟩, by omega⟩, h8⟩
      split <;> omega
  obtain ⟨r0, hr0⟩ : ∃ b, b = (if hasB (bs (shapeS c.kind)) 114 then withinS c.R.length 1 1024 else (c.R.length : Int) == 0) := ⟨_, rfl⟩
  have hr18 : c.kind = 18 → r0 = (decide ((c.R.length : Int) ≥ 1) && decide ((c.R.length : Int) ≤ 1024)) := fun h18 => by
    rw [hr0, if_pos]
    · rfl
    · rw [h18]; rfl
  have hr00 : c.kind ≠ 18 → r0 = ((c.R.length : Int) == 0) := fun h18 => by
    rw [hr0, if_neg]
    exact fun hh => h18 (shape_r h23 hh)
  obtain ⟨X, hX⟩ : ∃ b, b = namedS c.A.length (bs (shapeS c.kind)) 118 86 := ⟨_, rfl⟩
  obtain ⟨Y, hY⟩ : ∃ b, b = namedS c.B.length (bs (shapeS c.kind)) 119 87 := ⟨_, rfl⟩
  obtain ⟨P, hP⟩ : ∃ b, b = namedS c.C.length (bs (shapeS c.kind)) 45 99 := ⟨_, rfl⟩
  obtain ⟨Q, hQ⟩ : ∃ b, b = namedS c.D.length (bs (shapeS c.kind)) 45 100 := ⟨_, rfl⟩
  obtain ⟨R', hR'⟩ : ∃ b, b = namedS c.E.length (bs (shapeS c.kind)) 45 101 := ⟨_, rfl⟩
  obtain ⟨al, hal⟩ : ∃ b, b = alikeS c := ⟨_, rfl⟩
  have yn : c.kind ≠ 12 → y = (X && (Y && (P && (Q && (R' && (r0 && (al && bK))))))) := fun h12 => by
    rw [hy, mcountedS, if_neg h12, ← hr0, ← hX, ← hY, ← hP, ← hQ, ← hR', ← hal]
    cases X <;> cases Y <;> cases P <;> cases Q <;> cases R' <;> cases r0 <;> simp
  rw [← list_named] at hX hY
  rw [← list_dash _ h23] at hP hQ hR'
  rw [← hs'] at hX hY hP hQ hR'
  have lx := c_list (Int.ofNat (M .len rA)) (hasS s 118) (hasS s 86) X (by rw [hX]; subst hM; congr 1; exact nA.symm)
  have ly := c_list (Int.ofNat (M .len rB)) (hasS s 119) (hasS s 87) Y (by rw [hY]; subst hM; congr 1; exact nB.symm)
  have lp := c_list (Int.ofNat (M .len rC)) 0 (hasS s 99) P (by rw [hP]; subst hM; congr 1; exact nC.symm)
  have lq := c_list (Int.ofNat (M .len rD)) 0 (hasS s 100) Q (by rw [hQ]; subst hM; congr 1; exact nD.symm)
  have lr' := c_list (Int.ofNat (M .len rE)) 0 (hasS s 101) R' (by rw [hR']; subst hM; congr 1; exact nE.symm)
  clear hX hY hP hQ hR' hy hr0 sh
  have k118 := hs 118 118 rfl
  have k86 := hs 86 86 rfl
  have k119 := hs 119 119 rfl
  have k87 := hs 87 87 rfl
  have k99 := hs 99 99 rfl
  have k100 := hs 100 100 rfl
  have k101 := hs 101 101 rfl
  have k114 := hs 114 114 rfl
  generalize (hasS s 118 : Int) = n118 at k118 lx
  generalize (hasS s 86 : Int) = n86 at k86 lx
  generalize (hasS s 119 : Int) = n119 at k119 ly
  generalize (hasS s 87 : Int) = n87 at k87 ly
  generalize (hasS s 99 : Int) = n99 at k99 lp
  generalize (hasS s 100 : Int) = n100 at k100 lq
  generalize (hasS s 101 : Int) = n101 at k101 lr'
  obtain ⟨n114, hn114⟩ : ∃ n, n = (hasS s 114 : Int) := ⟨_, rfl⟩
  rw [← hn114] at k114
  have z114 : M .cmp .eql n114 0 = decide (c.kind ≠ 18) := by
    subst hM
    show (n114 == 0) = _
    rcases s114 with ⟨h, h2⟩ | ⟨h, h2⟩ <;> rw [hn114, h2] <;> simp [h]
  have g114 : M .cmp .gtr n114 0 = decide (c.kind = 18) := by
    subst hM
    show decide (n114 > 0) = _
    rcases s114 with ⟨h, h2⟩ | ⟨h, h2⟩ <;> rw [hn114, h2] <;> simp [h]
  clear hn107 hs s114 hs' hn114 hw
  have h12 : c.kind ≠ 12 := by omega
  have yn := yn h12
  have q12 : M .cmp .eql kind 12 = false := by rw [q12]; simpa using h12
  clear y12
  cbv
  simp only [eK]
  cases u
  · subst hbK
    cbv
    simp only [q12]
    cbv
    refine .mk _ (use_call hC k118) ?_
    cbv
    refine .mk _ (use_call hC k86) ?_
    cbv
    refine .mk _ (use_call hC lx) ?_
    cbv
    refine .mk _ (use_call hC k119) ?_
    cbv
    refine .mk _ (use_call hC k87) ?_
    cbv
    refine .mk _ (use_call hC ly) ?_
    cbv
    refine .mk _ (use_call hC k99) ?_
    cbv
    refine .mk _ (use_call hC lp) ?_
    cbv
    refine .mk _ (use_call hC k100) ?_
    cbv
    refine .mk _ (use_call hC lq) ?_
    cbv
    refine .mk _ (use_call hC k101) ?_
    cbv
    refine .mk _ (use_call hC lr') ?_
    cbv
    cases X
    · simp only [nf]
      cbv
      rw [yn]; simp
    simp only [nt]
    cbv
    cases Y
    · simp only [nf]
      cbv
      rw [yn]; simp
    simp only [nt]
    cbv
    cases P
    · simp only [nf]
      cbv
      rw [yn]; simp
    simp only [nt]
    cbv
    cases Q
    · simp only [nf]
      cbv
      rw [yn]; simp
    simp only [nt]
    cbv
    cases R'
    · simp only [nf]
      cbv
      rw [yn]; simp
    simp only [nt]
    cbv
    simp only [Bool.true_and, Bool.and_true, Bool.not_true, Bool.not_false, Bool.true_or, Bool.or_true] at yn
    refine .mk _ (use_call hC k114) ?_
    cbv
    have h21 := hcl
    have q4 : M .cmp .leq kind 4 = false := by rw [q4]; simp; omega
    have q19 : M .cmp .eql kind 19 = false := by rw [q19]; simp; omega
    have q21 : M .cmp .eql kind 21 = true := by rw [q21]; simp; omega
    have q22 : M .cmp .geq kind 22 = false := by rw [q22]; simp; omega
    have z114 : M .cmp .eql n114 0 = true := by rw [z114]; simp; omega
    have g114 : M .cmp .gtr n114 0 = false := by rw [g114]; simp; omega
    have al1 : al = (!dCD && !dCE) := by
      rw [hal, Bool.eq_iff_iff]
      simp [alikeS, hdAC, hdAD, hdCD, hdCE, hdBA, show (1 ≤ c.kind ∧ c.kind ≤ 4) ↔ False by simp; omega, show c.kind = 19 ↔ False by simp; omega, show c.kind = 21 ↔ True by simp; omega, show (c.kind = 22 ∨ c.kind = 23) ↔ False by simp; omega, show c.kind = 18 ↔ False by simp; omega]
    simp only [z114]
    cbv
    have hr := hr00 (by omega)
    split <;> rename_i h <;> (try simp only [h]) <;> (try cbv) <;> (try simp only [ncast] at *)
    · have h1 : rR.length > 0 := by subst hM; have h := of_decide_eq_true h; have h : (rR.length : Int) > 0 := h; omega
      have : ((c.R.length : Int) == 0) = false := beq_eq_false_iff_ne.2 (by omega)
      rw [yn, hr, this]; simp
    have h1 : ¬ rR.length > 0 := by subst hM; have h := of_decide_eq_false h; have h : ¬ (rR.length : Int) > 0 := h; omega
    clear h
    have hR0 : c.R.length = 0 := by omega
    have r00 : r0 = true := by rw [hr]; exact beq_iff_eq.2 (by omega)
    subst r00
    simp only [Bool.true_and, Bool.and_true] at yn
    refine .mk _ (use_call hC k114) ?_
    cbv
    simp only [g114]
    cbv
    simp only [q4]
    cbv
    simp only [q19]
    cbv
    simp only [q21]
    cbv
    simp only [eCD]
    rcases Bool.eq_false_or_eq_true dCD with hd | hd <;> subst hd
    · cbv
      rw [yn, al1]; simp
    cbv
    simp only [eCE]
    rcases Bool.eq_false_or_eq_true dCE with hd | hd <;> subst hd
    · cbv
      rw [yn, al1]; simp
    cbv
    simp only [q22]
    cbv
    have yn : y = !(c.R.any fun r => r.length != c.A.length) := by
      rw [yn, al1, List.eq_nil_of_length_eq_zero hR0]; simp
    refine Loop.over Nat (fun q => [(.t 12, I q)]) 1 (fun q => c.R.length - q) (fun q => q ≤ c.R.length ∧ ∀ i, i < q → (c.R.getD i []).length = c.A.length) 0 ⟨Nat.zero_le _, by omega⟩ (by (cbv; repeat' (first | exact True.intro | exact rfl | apply And.intro))) ?_
    rintro j ⟨hj, hn⟩
    cbv
    split <;> rename_i h <;> (try simp only [h]) <;> (try cbv) <;> (try simp only [ncast] at *)
    · have hlt : j < c.R.length := by subst hM; have h := of_decide_eq_true h; have h : (j : Int) < (rR.length : Int) := h; omega
      refine nidx_rows hRR hlt fun r hr5 => ?_
      have lr5 : r.length = (c.R.getD j []).length := by rw [hr5]; simp
      clear hr5
      cbv
      split <;> rename_i h <;> (try simp only [h]) <;> (try cbv) <;> (try simp only [ncast] at *)
      · have h3 : (c.R.getD j []).length ≠ c.A.length := by subst hM; have h : ((r.length : Int) != (rA.length : Int)) = true := h; rw [bne_iff_ne] at h; omega
        rw [yn, rows_bad hlt h3]; rfl
      · have h3 : (c.R.getD j []).length = c.A.length := by subst hM; have h : ((r.length : Int) != (rA.length : Int)) = false := h; rw [bne_eq_false_iff_eq] at h; omega
        refine ⟨j + 1, ⟨hlt, fun i hi => ?_⟩, ?_, by (cbv; repeat' (first | exact True.intro | exact rfl | apply And.intro)) <;> (subst hM; rw [succ_i64 (by omega)])⟩
        · rcases Nat.lt_or_ge i j with h4 | h4
          · exact hn i h4
          · have : i = j := by omega
            subst this; exact h3
        · omega
    · have hj2 : j = c.R.length := by subst hM; have h := of_decide_eq_false h; have h : ¬ (j : Int) < (rR.length : Int) := h; omega
      subst hj2
      rw [yn, rows_all hn]; rfl
  · cbv
    refine .mk _ (use_call hC k107) ?_
    cbv
    simp only [e107]
    cases u2
    · subst hbK
      cbv
      rw [yn]; simp
    · subst hbK
      cbv
      simp only [q12]
      cbv
      refine .mk _ (use_call hC k118) ?_
      cbv
      refine .mk _ (use_call hC k86) ?_
      cbv
      refine .mk _ (use_call hC lx) ?_
      cbv
      refine .mk _ (use_call hC k119) ?_
      cbv
      refine .mk _ (use_call hC k87) ?_
      cbv
      refine .mk _ (use_call hC ly) ?_
      cbv
      refine .mk _ (use_call hC k99) ?_
      cbv
      refine .mk _ (use_call hC lp) ?_
      cbv
      refine .mk _ (use_call hC k100) ?_
      cbv
      refine .mk _ (use_call hC lq) ?_
      cbv
      refine .mk _ (use_call hC k101) ?_
      cbv
      refine .mk _ (use_call hC lr') ?_
      cbv
      cases X
      · simp only [nf]
        cbv
        rw [yn]; simp
      simp only [nt]
      cbv
      cases Y
      · simp only [nf]
        cbv
        rw [yn]; simp
      simp only [nt]
      cbv
      cases P
      · simp only [nf]
        cbv
        rw [yn]; simp
      simp only [nt]
      cbv
      cases Q
      · simp only [nf]
        cbv
        rw [yn]; simp
      simp only [nt]
      cbv
      cases R'
      · simp only [nf]
        cbv
        rw [yn]; simp
      simp only [nt]
      cbv
      simp only [Bool.true_and, Bool.and_true, Bool.not_true, Bool.not_false, Bool.true_or, Bool.or_true] at yn
      refine .mk _ (use_call hC k114) ?_
      cbv
      have h21 := hcl
      have q4 : M .cmp .leq kind 4 = false := by rw [q4]; simp; omega
      have q19 : M .cmp .eql kind 19 = false := by rw [q19]; simp; omega
      have q21 : M .cmp .eql kind 21 = true := by rw [q21]; simp; omega
      have q22 : M .cmp .geq kind 22 = false := by rw [q22]; simp; omega
      have z114 : M .cmp .eql n114 0 = true := by rw [z114]; simp; omega
      have g114 : M .cmp .gtr n114 0 = false := by rw [g114]; simp; omega
      have al1 : al = (!dCD && !dCE) := by
        rw [hal, Bool.eq_iff_iff]
        simp [alikeS, hdAC, hdAD, hdCD, hdCE, hdBA, show (1 ≤ c.kind ∧ c.kind ≤ 4) ↔ False by simp; omega, show c.kind = 19 ↔ False by simp; omega, show c.kind = 21 ↔ True by simp; omega, show (c.kind = 22 ∨ c.kind = 23) ↔ False by simp; omega, show c.kind = 18 ↔ False by simp; omega]
      simp only [z114]
      cbv
      have hr := hr00 (by omega)
      split <;> rename_i h <;> (try simp only [h]) <;> (try cbv) <;> (try simp only [ncast] at *)
      · have h1 : rR.length > 0 := by subst hM; have h := of_decide_eq_true h; have h : (rR.length : Int) > 0 := h; omega
        have : ((c.R.length : Int) == 0) = false := beq_eq_false_iff_ne.2 (by omega)
        rw [yn, hr, this]; simp
      have h1 : ¬ rR.length > 0 := by subst hM; have h := of_decide_eq_false h; have h : ¬ (rR.length : Int) > 0 := h; omega
      clear h
      have hR0 : c.R.length = 0 := by omega
      have r00 : r0 = true := by rw [hr]; exact beq_iff_eq.2 (by omega)
      subst r00
      simp only [Bool.true_and, Bool.and_true] at yn
      refine .mk _ (use_call hC k114) ?_
      cbv
      simp only [g114]
      cbv
      simp only [q4]
      cbv
      simp only [q19]
      cbv
      simp only [q21]
      cbv
      simp only [eCD]
      rcases Bool.eq_false_or_eq_true dCD with hd | hd <;> subst hd
      · cbv
        rw [yn, al1]; simp
      cbv
      simp only [eCE]
      rcases Bool.eq_false_or_eq_true dCE with hd | hd <;> subst hd
      · cbv
        rw [yn, al1]; simp
      cbv
      simp only [q22]
      cbv
      have yn : y = !(c.R.any fun r => r.length != c.A.length) := by
        rw [yn, al1, List.eq_nil_of_length_eq_zero hR0]; simp
      refine Loop.over Nat (fun q => [(.t 12, I q)]) 1 (fun q => c.R.length - q) (fun q => q ≤ c.R.length ∧ ∀ i, i < q → (c.R.getD i []).length = c.A.length) 0 ⟨Nat.zero_le _, by omega⟩ (by (cbv; repeat' (first | exact True.intro | exact rfl | apply And.intro))) ?_
      rintro j ⟨hj, hn⟩
      cbv
      split <;> rename_i h <;> (try simp only [h]) <;> (try cbv) <;> (try simp only [ncast] at *)
      · have hlt : j < c.R.length := by subst hM; have h := of_decide_eq_true h; have h : (j : Int) < (rR.length : Int) := h; omega
        refine nidx_rows hRR hlt fun r hr5 => ?_
        have lr5 : r.length = (c.R.getD j []).length := by rw [hr5]; simp
        clear hr5
        cbv
        split <;> rename_i h <;> (try simp only [h]) <;> (try cbv) <;> (try simp only [ncast] at *)
        · have h3 : (c.R.getD j []).length ≠ c.A.length := by subst hM; have h : ((r.length : Int) != (rA.length : Int)) = true := h; rw [bne_iff_ne] at h; omega
          rw [yn, rows_bad hlt h3]; rfl
        · have h3 : (c.R.getD j []).length = c.A.length := by subst hM; have h : ((r.length : Int) != (rA.length : Int)) = false := h; rw [bne_eq_false_iff_eq] at h; omega
          refine ⟨j + 1, ⟨hlt, fun i hi => ?_⟩, ?_, by (cbv; repeat' (first | exact True.intro | exact rfl | apply And.intro)) <;> (subst hM; rw [succ_i64 (by omega)])⟩
          · rcases Nat.lt_or_ge i j with h4 | h4
            · exact hn i h4
            · have : i = j := by omega
              subst this; exact h3
          · omega
      · have hj2 : j = c.R.length := by subst hM; have h := of_decide_eq_false h; have h : ¬ (j : Int) < (rR.length : Int) := h; omega
        subst hj2
        rw [yn, rows_all hn]; rfl
end Go.Pi

/- Package jigsawref06: may a constraint be? (part 6) -/
namespace Go.Pi
open Go
set_option linter.unusedVariables false
set_option linter.unusedSimpArgs false

set_option maxRecDepth 100000 in
set_option maxHeartbeats 8000000 in
theorem c_arityh22 (c : Con) (kind K : Int) (rA rB rC rD rE rR : List (List PV)) (w : ByteArray) (H : ConR c kind rA rB rC rD rE K rR) (hw : w = bs (shapeS c.kind)) (h23 : 1 ≤ c.kind ∧ c.kind ≤ 23)
    (la : lim rA) (lb : lim rB) (lc : lim rC) (ld : lim rD) (le : lim rE) (lr : lim rR) (y : Bool) (hy : y = arityS c) (hcl : c.kind ≥ 22) :
    Call .plain 149 [.agg [I kind, .list 1 rA, .list 1 rB, .list 1 rC, .list 1 rD, .list 1 rE, I K, .list 1 rR], Str w] (B y) := by
  have hkd := H.kind
  have hRR := H.R
  have nA : (rA.length : Int) = c.A.length := by rw [H.A]; simp
  have nB : (rB.length : Int) = c.B.length := by rw [H.B]; simp
  have nC : (rC.length : Int) = c.C.length := by rw [H.C]; simp
  have nD : (rD.length : Int) = c.D.length := by rw [H.D]; simp
  have nE : (rE.length : Int) = c.E.length := by rw [H.E]; simp
  have nR : (rR.length : Int) = c.R.length := by rw [H.R]; simp
  have lR : c.R.length ≤ 1099511627776 := by unfold lim at lr; omega
  have hs : ∀ (ch : UInt8) (cc : Int) (hc : cc = (ch.toNat : Int)), Call .plain 90 [Str w, U8 cc] (I (hasS (shapeS c.kind) ch : Int)) := fun ch cc hc => c_has _ w hw ch cc hc (by have := shape_len h23; omega) _ rfl
  have sh : ∀ ch : UInt8, ((hasS (shapeS c.kind) ch : Int) > 0) ↔ hasB (bs (shapeS c.kind)) ch = true := fun ch => has_pos
  have s114 : c.kind = 18 ∧ hasS (shapeS c.kind) 114 = 1 ∨ c.kind ≠ 18 ∧ hasS (shapeS c.kind) 114 = 0 := by
    rcases kinds23 h23 with h | h | h | h | h | h | h | h | h | h | h | h | h | h | h | h | h | h | h | h | h | h | h <;> rw [h] <;> decide
  refine call_of Proofs.Tryz.func149 Proofs.Tryz.call149 rfl rfl fun M C hM hC => ?_
  have nt : M .not true = false := by subst hM; rfl
  have nf : M .not false = true := by subst hM; rfl
  have q12 : M .cmp .eql kind 12 = decide (c.kind = 12) := by subst hM; rw [hkd]; rfl
  have q4 : M .cmp .leq kind 4 = decide (c.kind ≤ 4) := by subst hM; rw [hkd]; rfl
  have q19 : M .cmp .eql kind 19 = decide (c.kind = 19) := by subst hM; rw [hkd]; rfl
  have q21 : M .cmp .eql kind 21 = decide (c.kind = 21) := by subst hM; rw [hkd]; rfl
  have q22 : M .cmp .geq kind 22 = decide (c.kind ≥ 22) := by subst hM; rw [hkd]; rfl
  -- which lens are alike
  have eAC : M .cmp .neq (Int.ofNat (M .len rC)) (Int.ofNat (M .len rA)) = (c.C.length != c.A.length) := by subst hM; show ((rC.length : Int) != rA.length) = _; rw [nC, nA]; exact cast_bne _ _
  have eAD : M .cmp .neq (Int.ofNat (M .len rD)) (Int.ofNat (M .len rA)) = (c.D.length != c.A.length) := by subst hM; show ((rD.length : Int) != rA.length) = _; rw [nD, nA]; exact cast_bne _ _
  have eCD : M .cmp .neq (Int.ofNat (M .len rD)) (Int.ofNat (M .len rC)) = (c.D.length != c.C.length) := by subst hM; show ((rD.length : Int) != rC.length) = _; rw [nD, nC]; exact cast_bne _ _
  have eCE : M .cmp .neq (Int.ofNat (M .len rE)) (Int.ofNat (M .len rC)) = (c.E.length != c.C.length) := by subst hM; show ((rE.length : Int) != rC.length) = _; rw [nE, nC]; exact cast_bne _ _
  have eBA : M .cmp .neq (Int.ofNat (M .len rB)) (Int.ofNat (M .len rA)) = (c.B.length != c.A.length) := by subst hM; show ((rB.length : Int) != rA.length) = _; rw [nB, nA]; exact cast_bne _ _
  have eK : M .cmp .neq K 0 = (c.K != 0) := by subst hM; rw [H.K]; rfl
  have e107 : M .cmp .eql (hasS (shapeS c.kind) 107 : Int) 0 = !(shapeS c.kind).contains 107 := by
    subst hM
    show ((hasS (shapeS c.kind) 107 : Int) == 0) = !hasB (bs (shapeS c.kind)) 107
    have := sh 107
    cases hb : hasB (bs (shapeS c.kind)) 107
    · rw [hb] at this; simp at this ⊢; omega
    · rw [hb] at this; simp at this ⊢; omega
  obtain ⟨bK, hbK⟩ : ∃ b, b = (c.K == 0 || (shapeS c.kind).contains 107) := ⟨_, rfl⟩
  obtain ⟨u, hu⟩ : ∃ u, u = (c.K != 0) := ⟨_, rfl⟩
  obtain ⟨u2, hu2⟩ : ∃ u, u = (shapeS c.kind).contains 107 := ⟨_, rfl⟩
  have hy : y = (mcountedS c.kind c.A.length c.B.length c.C.length c.D.length c.E.length c.R.length (bs (shapeS c.kind)) && alikeS c && bK) := by rw [hy, arityS, hbK]
  rw [← hu] at eK
  rw [← hu2] at e107
  have hbK : bK = (!u || u2) := by rw [hbK, hu, hu2]; simp [bne]
  clear hu hu2
  obtain ⟨dAC, hdAC⟩ : ∃ b, b = (c.C.length != c.A.length) := ⟨_, rfl⟩
  obtain ⟨dAD, hdAD⟩ : ∃ b, b = (c.D.length != c.A.length) := ⟨_, rfl⟩
  obtain ⟨dCD, hdCD⟩ : ∃ b, b = (c.D.length != c.C.length) := ⟨_, rfl⟩
  obtain ⟨dCE, hdCE⟩ : ∃ b, b = (c.E.length != c.C.length) := ⟨_, rfl⟩
  obtain ⟨dBA, hdBA⟩ : ∃ b, b = (c.B.length != c.A.length) := ⟨_, rfl⟩
  rw [← hdAC] at eAC; rw [← hdAD] at eAD; rw [← hdCD] at eCD; rw [← hdCE] at eCE; rw [← hdBA] at eBA
  have k107 := hs 107 107 rfl
  obtain ⟨n107, hn107⟩ : ∃ n, n = (hasS (shapeS c.kind) 107 : Int) := ⟨_, rfl⟩
  rw [← hn107] at k107 e107
  obtain ⟨s, hs'⟩ : ∃ s, s = shapeS c.kind := ⟨_, rfl⟩
  rw [← hs'] at hs s114
  have y12 : c.kind = 12 → y = (decide ((c.A.length : Int) + c.B.length ≥ 1) && (decide ((c.A.length : Int) ≤ 64) && (decide ((c.B.length : Int) ≤ 64) && (((c.C.length : Int) == 0) && (((c.D.length : Int) == 0) && (((c.E.length : Int) == 0) && (((c.R.length : Int) == 0) && bK))))))) := fun h12 => by
    rw [hy, Bool.eq_iff_iff]
    simp only [mcountedS, if_pos h12, alikeS, withinS, show ¬ (1 ≤ c.kind ∧ c.kind ≤ 4) by omega, show ¬ c.kind = 19 by omega, show ¬ c.kind = 21 by omega, show ¬ (c.kind = 22 ∨ c.kind = 23) by omega, show ¬ c.kind = 18 by omega, if_false, Bool.and_eq_true, decide_eq_true_eq, beq_iff_eq, and_true]
    constructor
    · rintro ⟨⟨⟨⟨h1, h2⟩, h3⟩, h4⟩, h5⟩
      refine ⟨h1, ?_, ?_, ?_, ?_, ?_, ?_, h5⟩ <;> (first | omega | (split at h3 <;> omega))
    · rintro ⟨h1, h2, h3, h4, h5, h6, h7, h8⟩
      refine ⟨⟨⟨⟨h1, by omega⟩, ?_⟩, by omega⟩, h8⟩
      split <;> omega
  obtain ⟨r0, hr0⟩ : ∃ b, b = (if hasB (bs (shapeS c.kind)) 114 then withinS c.R.length 1 1024 else (c.R.length : Int) == 0) := ⟨_, rfl⟩
  have hr18 : c.kind = 18 → r0 = (decide ((c.R.length : Int) ≥ 1) && decide ((c.R.length : Int) ≤ 1024)) := fun h18 => by
    rw [hr0, if_pos]
    · rfl
    · rw [h18]; rfl
  have hr00 : c.kind ≠ 18 → r0 = ((c.R.length : Int) == 0) := fun h18 => by
    rw [hr0, if_neg]
    exact fun hh => h18 (shape_r h23 hh)
  obtain ⟨X, hX⟩ : ∃ b, b = namedS c.A.length (bs (shapeS c.kind)) 118 86 := ⟨_, rfl⟩
  obtain ⟨Y, hY⟩ : ∃ b, b = namedS c.B.length (bs (shapeS c.kind)) 119 87 := ⟨_, rfl⟩
  obtain ⟨P, hP⟩ : ∃ b, b = namedS c.C.length (bs (shapeS c.kind)) 45 99 := ⟨_, rfl⟩
  obtain ⟨Q, hQ⟩ : ∃ b, b = namedS c.D.length (bs (shapeS c.kind)) 45 100 := ⟨_, rfl⟩
  obtain ⟨R', hR'⟩ : ∃ b, b = namedS c.E.length (bs (shapeS c.kind)) 45 101 := ⟨_, rfl⟩
  obtain ⟨al, hal⟩ : ∃ b, b = alikeS c := ⟨_, rfl⟩
  have yn : c.kind ≠ 12 → y = (X && (Y && (P && (Q && (R' && (r0 && (al && bK))))))) := fun h12 => by
    rw [hy, mcountedS, if_neg h12, ← hr0, ← hX, ← hY, ← hP, ← hQ, ← hR', ← hal]
    cases X <;> cases Y <;> cases P <;> cases Q <;> cases R' <;> cases r0 <;> simp
  rw [← list_named] at hX hY
  rw [← list_dash _ h23] at hP hQ hR'
  rw [← hs'] at hX hY hP hQ hR'
  have lx := c_list (Int.ofNat (M .len rA)) (hasS s 118) (hasS s 86) X (by rw [hX]; subst hM; congr 1; exact nA.symm)
  have ly := c_list (Int.ofNat (M .len rB)) (hasS s 119) (hasS s 87) Y (by rw [hY]; subst hM; congr 1; exact nB.symm)
  have lp := c_list (Int.ofNat (M .len rC)) 0 (hasS s 99) P (by rw [hP]; subst hM; congr 1; exact nC.symm)
  have lq := c_list (Int.ofNat (M .len rD)) 0 (hasS s 100) Q (by rw [hQ]; subst hM; congr 1; exact nD.symm)
  have lr' := c_list (Int.ofNat (M .len rE)) 0 (hasS s 101) R' (by rw [hR']; subst hM; congr 1; exact nE.symm)
  clear hX hY hP hQ hR' hy hr0 sh
  have k118 := hs 118 118 rfl
  have k86 := hs 86 86 rfl
  have k119 := hs 119 119 rfl
  have k87 := hs 87 87 rfl
  have k99 := hs 99 99 rfl
  have k100 := hs 100 100 rfl
  have k101 := hs 101 101 rfl
  have k114 := hs 114 114 rfl
  generalize (hasS s 118 : Int) = n118 at k118 lx
  generalize (hasS s 86 : Int) = n86 at k86 lx
  generalize (hasS s 119 : Int) = n119 at k119 ly
  generalize (hasS s 87 : Int) = n87 at k87 ly
  generalize (hasS s 99 : Int) = n99 at k99 lp
  generalize (hasS s 100 : Int) = n100 at k100 lq
  generalize (hasS s 101 : Int) = n101 at k101 lr'
  obtain ⟨n114, hn114⟩ : ∃ n, n = (hasS s 114 : Int) := ⟨_, rfl⟩
  rw [← hn114] at k114
  have z114 : M .cmp .eql n114 0 = decide (c.kind ≠ 18) := by
    subst hM
    show (n114 == 0) = _
    rcases s114 with ⟨h, h2⟩ | ⟨h, h2⟩ <;> rw [hn114, h2] <;> simp [h]
  have g114 : M .cmp .gtr n114 0 = decide (c.kind = 18) := by
    subst hM
    show decide (n114 > 0) = _
    rcases s114 with ⟨h, h2⟩ | ⟨h, h2⟩ <;> rw [hn114, h2] <;> simp [h]
  clear hn107 hs s114 hs' hn114 hw
  have h12 : c.kind ≠ 12 := by omega
  have yn := yn h12
  have q12 : M .cmp .eql kind 12 = false := by rw [q12]; simpa using h12
  clear y12
  cbv
  simp only [eK]
  cases u
  · subst hbK
    cbv
    simp only [q12]
    cbv
    refine .mk _ (use_call hC k118) ?_
    cbv
    refine .mk _ (use_call hC k86) ?_
    cbv
    refine .mk _ (use_call hC lx) ?_
    cbv
    refine .mk _ (use_call hC k119) ?_
    cbv
    refine .mk _ (use_call hC k87) ?_
    cbv
    refine .mk _ (use_call hC ly) ?_
    cbv
    refine .mk _ (use_call hC k99) ?_
    cbv
    refine .mk _ (use_call hC lp) ?_
    cbv
    refine .mk _ (use_call hC k100) ?_
    cbv
    refine .mk _ (use_call hC lq) ?_
    cbv
    refine .mk _ (use_call hC k101) ?_
    cbv
    refine .mk _ (use_call hC lr') ?_
    cbv
    cases X
    · simp only [nf]
      cbv
      rw [yn]; simp
    simp only [nt]
    cbv
    cases Y
    · simp only [nf]
      cbv
      rw [yn]; simp
    simp only [nt]
    cbv
    cases P
    · simp only [nf]
      cbv
      rw [yn]; simp
    simp only [nt]
    cbv
    cases Q
    · simp only [nf]
      cbv
      rw [yn]; simp
    simp only [nt]
    cbv
    cases R'
    · simp only [nf]
      cbv
      rw [yn]; simp
    simp only [nt]
    cbv
    simp only [Bool.true_and, Bool.and_true, Bool.not_true, Bool.not_false, Bool.true_or, Bool.or_true] at yn
    refine .mk _ (use_call hC k114) ?_
    cbv
    have h22 := hcl
    have q4 : M .cmp .leq kind 4 = false := by rw [q4]; simp; omega
    have q19 : M .cmp .eql kind 19 = false := by rw [q19]; simp; omega
    have q21 : M .cmp .eql kind 21 = false := by rw [q21]; simp; omega
    have q22 : M .cmp .geq kind 22 = true := by rw [q22]; simp; omega
    have z114 : M .cmp .eql n114 0 = true := by rw [z114]; simp; omega
    have g114 : M .cmp .gtr n114 0 = false := by rw [g114]; simp; omega
    have al1 : al = !dBA := by
      rw [hal, Bool.eq_iff_iff]
      simp [alikeS, hdAC, hdAD, hdCD, hdCE, hdBA, show (1 ≤ c.kind ∧ c.kind ≤ 4) ↔ False by simp; omega, show c.kind = 19 ↔ False by simp; omega, show c.kind = 21 ↔ False by simp; omega, show (c.kind = 22 ∨ c.kind = 23) ↔ True by simp; omega, show c.kind = 18 ↔ False by simp; omega]
    simp only [z114]
    cbv
    have hr := hr00 (by omega)
    split <;> rename_i h <;> (try simp only [h]) <;> (try cbv) <;> (try simp only [ncast] at *)
    · have h1 : rR.length > 0 := by subst hM; have h := of_decide_eq_true h; have h : (rR.length : Int) > 0 := h; omega
      have : ((c.R.length : Int) == 0) = false := beq_eq_false_iff_ne.2 (by omega)
      rw [yn, hr, this]; simp
    have h1 : ¬ rR.length > 0 := by subst hM; have h := of_decide_eq_false h; have h : ¬ (rR.length : Int) > 0 := h; omega
    clear h
    have hR0 : c.R.length = 0 := by omega
    have r00 : r0 = true := by rw [hr]; exact beq_iff_eq.2 (by omega)
    subst r00
    simp only [Bool.true_and, Bool.and_true] at yn
    refine .mk _ (use_call hC k114) ?_
    cbv
    simp only [g114]
    cbv
    simp only [q4]
    cbv
    simp only [q19]
    cbv
    simp only [q21]
    cbv
    simp only [q22]
    cbv
    simp only [eBA]
    rcases Bool.eq_false_or_eq_true dBA with hd | hd <;> subst hd
    · cbv
      rw [yn, al1]; simp
    cbv
    have yn : y = !(c.R.any fun r => r.length != c.A.length) := by
      rw [yn, al1, List.eq_nil_of_length_eq_zero hR0]; simp
    refine Loop.over Nat (fun q => [(.t 12, I q)]) 1 (fun q => c.R.length - q) (fun q => q ≤ c.R.length ∧ ∀ i, i < q → (c.R.getD i []).length = c.A.length) 0 ⟨Nat.zero_le _, by omega⟩ (by (cbv; repeat' (first | exact True.intro | exact rfl | apply And.intro))) ?_
    rintro j ⟨hj, hn⟩
    cbv
    split <;> rename_i h <;> (try simp only [h]) <;> (try cbv) <;> (try simp only [ncast] at *)
    · have hlt : j < c.R.length := by subst hM; have h := of_decide_eq_true h; have h : (j : Int) < (rR.length : Int) := h; omega
      refine nidx_rows hRR hlt fun r hr5 => ?_
      have lr5 : r.length = (c.R.getD j []).length := by rw [hr5]; simp
      clear hr5
      cbv
      split <;> rename_i h <;> (try simp only [h]) <;> (try cbv) <;> (try simp only [ncast] at *)
      · have h3 : (c.R.getD j []).length ≠ c.A.length := by subst hM; have h : ((r.length : Int) != (rA.length : Int)) = true := h; rw [bne_iff_ne] at h; omega
        rw [yn, rows_bad hlt h3]; rfl
      · have h3 : (c.R.getD j []).length = c.A.length := by subst hM; have h : ((r.length : Int) != (rA.length : Int)) = false := h; rw [bne_eq_false_iff_eq] at h; omega
        refine ⟨j + 1, ⟨hlt, fun i hi => ?_⟩, ?_, by (cbv; repeat' (first | exact True.intro | exact rfl | apply And.intro)) <;> (subst hM; rw [succ_i64 (by omega)])⟩
        · rcases Nat.lt_or_ge i j with h4 | h4
          · exact hn i h4
          · have : i = j := by omega
            subst this; exact h3
        · omega
    · have hj2 : j = c.R.length := by subst hM; have h := of_decide_eq_false h; have h : ¬ (j : Int) < (rR.length : Int) := h; omega
      subst hj2
      rw [yn, rows_all hn]; rfl
  · cbv
    refine .mk _ (use_call hC k107) ?_
    cbv
    simp only [e107]
    cases u2
    · subst hbK
      cbv
      rw [yn]; simp
    · subst hbK
      cbv
      simp only [q12]
      cbv
      refine .mk _ (use_call hC k118) ?_
      cbv
      refine .mk _ (use_call hC k86) ?_
      cbv
      refine .mk _ (use_call hC lx) ?_
      cbv
      refine .mk _ (use_call hC k119) ?_
      cbv
      refine .mk _ (use_call hC k87) ?_
      cbv
      refine .mk _ (use_call hC ly) ?_
      cbv
      refine .mk _ (use_call hC k99) ?_
      cbv
      refine .mk _ (use_call hC lp) ?_
      cbv
      refine .mk _ (use_call hC k100) ?_
      cbv
      refine .mk _ (use_call hC lq) ?_
      cbv
      refine .mk _ (use_call hC k101) ?_
      cbv
      refine .mk _ (use_call hC lr') ?_
      cbv
      cases X
      · simp only [nf]
        cbv
        rw [yn]; simp
      simp only [nt]
      cbv
      cases Y
      · simp only [nf]
        cbv
        rw [yn]; simp
      simp only [nt]
      cbv
      cases P
      · simp only [nf]
        cbv
        rw [yn]; simp
      simp only [nt]
      cbv
      cases Q
      · simp only [nf]
        cbv
        rw [yn]; simp
      simp only [nt]
      cbv
      cases R'
      · simp only [nf]
        cbv
        rw [yn]; simp
      simp only [nt]
      cbv
      simp only [Bool.true_and, Bool.and_true, Bool.not_true, Bool.not_false, Bool.true_or, Bool.or_true] at yn
      refine .mk _ (use_call hC k114) ?_
      cbv
      have h22 := hcl
      have q4 : M .cmp .leq kind 4 = false := by rw [q4]; simp; omega
      have q19 : M .cmp .eql kind 19 = false := by rw [q19]; simp; omega
      have q21 : M .cmp .eql kind 21 = false := by rw [q21]; simp; omega
      have q22 : M .cmp .geq kind 22 = true := by rw [q22]; simp; omega
      have z114 : M .cmp .eql n114 0 = true := by rw [z114]; simp; omega
      have g114 : M .cmp .gtr n114 0 = false := by rw [g114]; simp; omega
      have al1 : al = !dBA := by
        rw [hal, Bool.eq_iff_iff]
        simp [alikeS, hdAC, hdAD, hdCD, hdCE, hdBA, show (1 ≤ c.kind ∧ c.kind ≤ 4) ↔ False by simp; omega, show c.kind = 19 ↔ False by simp; omega, show c.kind = 21 ↔ False by simp; omega, show (c.kind = 22 ∨ c.kind = 23) ↔ True by simp; omega, show c.kind = 18 ↔ False by simp; omega]
      simp only [z114]
      cbv
      have hr := hr00 (by omega)
      split <;> rename_i h <;> (try simp only [h]) <;> (try cbv) <;> (try simp only [ncast] at *)
      · have h1 : rR.length > 0 := by subst hM; have h := of_decide_eq_true h; have h : (rR.length : Int) > 0 := h; omega
        have : ((c.R.length : Int) == 0) = false := beq_eq_false_iff_ne.2 (by omega)
        rw [yn, hr, this]; simp
      have h1 : ¬ rR.length > 0 := by subst hM; have h := of_decide_eq_false h; have h : ¬ (rR.length : Int) > 0 := h; omega
      clear h
      have hR0 : c.R.length = 0 := by omega
      have r00 : r0 = true := by rw [hr]; exact beq_iff_eq.2 (by omega)
      subst r00
      simp only [Bool.true_and, Bool.and_true] at yn
      refine .mk _ (use_call hC k114) ?_
      cbv
      simp only [g114]
      cbv
      simp only [q4]
      cbv
      simp only [q19]
      cbv
      simp only [q21]
      cbv
      simp only [q22]
      cbv
      simp only [eBA]
      rcases Bool.eq_false_or_eq_true dBA with hd | hd <;> subst hd
      · cbv
        rw [yn, al1]; simp
      cbv
      have yn : y = !(c.R.any fun r => r.length != c.A.length) := by
        rw [yn, al1, List.eq_nil_of_length_eq_zero hR0]; simp
      refine Loop.over Nat (fun q => [(.t 12, I q)]) 1 (fun q => c.R.length - q) (fun q => q ≤ c.R.length ∧ ∀ i, i < q → (c.R.getD i []).length = c.A.length) 0 ⟨Nat.zero_le _, by omega⟩ (by (cbv; repeat' (first | exact True.intro | exact rfl | apply And.intro))) ?_
      rintro j ⟨hj, hn⟩
      cbv
      split <;> rename_i h <;> (try simp only [h]) <;> (try cbv) <;> (try simp only [ncast] at *)
      · have hlt : j < c.R.length := by subst hM; have h := of_decide_eq_true h; have h : (j : Int) < (rR.length : Int) := h; omega
        refine nidx_rows hRR hlt fun r hr5 => ?_
        have lr5 : r.length = (c.R.getD j []).length := by rw [hr5]; simp
        clear hr5
        cbv
        split <;> rename_i h <;> (try simp only [h]) <;> (try cbv) <;> (try simp only [ncast] at *)
        · have h3 : (c.R.getD j []).length ≠ c.A.length := by subst hM; have h : ((r.length : Int) != (rA.length : Int)) = true := h; rw [bne_iff_ne] at h; omega
          rw [yn, rows_bad hlt h3]; rfl
        · have h3 : (c.R.getD j []).length = c.A.length := by subst hM; have h : ((r.length : Int) != (rA.length : Int)) = false := h; rw [bne_eq_false_iff_eq] at h; omega
          refine ⟨j + 1, ⟨hlt, fun i hi => ?_⟩, ?_, by (cbv; repeat' (first | exact True.intro | exact rfl | apply And.intro)) <;> (subst hM; rw [succ_i64 (by omega)])⟩
          · rcases Nat.lt_or_ge i j with h4 | h4
            · exact hn i h4
            · have : i = j := by omega
              subst this; exact h3
          · omega
      · have hj2 : j = c.R.length := by subst hM; have h := of_decide_eq_false h; have h : ¬ (j : Int) < (rR.length : Int) := h; omega
        subst hj2
        rw [yn, rows_all hn]; rfl
end Go.Pi

/- Package jigsawref06: may a constraint be? (part 7) -/
namespace Go.Pi
open Go
set_option linter.unusedVariables false
set_option linter.unusedSimpArgs false

set_option maxRecDepth 100000 in
set_option maxHeartbeats 8000000 in
theorem c_arityh0 (c : Con) (kind K : Int) (rA rB rC rD rE rR : List (List PV)) (w : ByteArray) (H : ConR c kind rA rB rC rD rE K rR) (hw : w = bs (shapeS c.kind)) (h23 : 1 ≤ c.kind ∧ c.kind ≤ 23)
    (la : lim rA) (lb : lim rB) (lc : lim rC) (ld : lim rD) (le : lim rE) (lr : lim rR) (y : Bool) (hy : y = arityS c) (hcl : 5 ≤ c.kind ∧ c.kind ≤ 11 ∨ 13 ≤ c.kind ∧ c.kind ≤ 17 ∨ c.kind = 20) :
    Call .plain 149 [.agg [I kind, .list 1 rA, .list 1 rB, .list 1 rC, .list 1 rD, .list 1 rE, I K, .list 1 rR], Str w] (B y) := by
  have hkd := H.kind
  have hRR := H.R
  have nA : (rA.length : Int) = c.A.length := by rw [H.A]; simp
  have nB : (rB.length : Int) = c.B.length := by rw [H.B]; simp
  have nC : (rC.length : Int) = c.C.length := by rw [H.C]; simp
  have nD : (rD.length : Int) = c.D.length := by rw [H.D]; simp
  have nE : (rE.length : Int) = c.E.length := by rw [H.E]; simp
  have nR : (rR.length : Int) = c.R.length := by rw [H.R]; simp
  have lR : c.R.length ≤ 1099511627776 := by unfold lim at lr; omega
  have hs : ∀ (ch : UInt8) (cc : Int) (hc : cc = (ch.toNat : Int)), Call .plain 90 [Str w, U8 cc] (I (hasS (shapeS c.kind) ch : Int)) := fun ch cc hc => c_has _ w hw ch cc hc (by have := shape_len h23; omega) _ rfl
  have sh : ∀ ch : UInt8, ((hasS (shapeS c.kind) ch : Int) > 0) ↔ hasB (bs (shapeS c.kind)) ch = true := fun ch => has_pos
  have s114 : c.kind = 18 ∧ hasS (shapeS c.kind) 114 = 1 ∨ c.kind ≠ 18 ∧ hasS (shapeS c.kind) 114 = 0 := by
    rcases kinds23 h23 with h | h | h | h | h | h | h | h | h | h | h | h | h | h | h | h | h | h | h | h | h | h | h <;> rw [h] <;> decide
  refine call_of Proofs.Tryz.func149 Proofs.Tryz.call149 rfl rfl fun M C hM hC => ?_
  have nt : M .not true = false := by subst hM; rfl
  have nf : M .not false = true := by subst hM; rfl
  have q12 : M .cmp .eql kind 12 = decide (c.kind = 12) := by subst hM; rw [hkd]; rfl
  have q4 : M .cmp .leq kind 4 = decide (c.kind ≤ 4) := by subst hM; rw [hkd]; rfl
  have q19 : M .cmp .eql kind 19 = decide (c.kind = 19) := by subst hM; rw [hkd]; rfl
  have q21 : M .cmp .eql kind 21 = decide (c.kind = 21) := by subst hM; rw [hkd]; rfl
  have q22 : M .cmp .geq kind 22 = decide (c.kind ≥ 22) := by subst hM; rw [hkd]; rfl
  -- which lens are alike
  have eAC : M .cmp .neq (Int.ofNat (M .len rC)) (Int.ofNat (M .len rA)) = (c.C.length != c.A.length) := by subst hM; show ((rC.length : Int) != rA.length) = _; rw [nC, nA]; exact cast_bne _ _
  have eAD : M .cmp .neq (Int.ofNat (M .len rD)) (Int.ofNat (M .len rA)) = (c.D.length != c.A.length) := by subst hM; show ((rD.length : Int) != rA.length) = _; rw [nD, nA]; exact cast_bne _ _
  have eCD : M .cmp .neq (Int.ofNat (M .len rD)) (Int.ofNat (M .len rC)) = (c.D.length != c.C.length) := by subst hM; show ((rD.length : Int) != rC.length) = _; rw [nD, nC]; exact cast_bne _ _
  have eCE : M .cmp .neq (Int.ofNat (M .len rE)) (Int.ofNat (M .len rC)) = (c.E.length != c.C.length) := by subst hM; show ((rE.length : Int) != rC.length) = _; rw [nE, nC]; exact cast_bne _ _
  have eBA : M .cmp .neq (Int.ofNat (M .len rB)) (Int.ofNat (M .len rA)) = (c.B.length != c.A.length) := by subst hM; show ((rB.length : Int) != rA.length) = _; rw [nB, nA]; exact cast_bne _ _
  have eK : M .cmp .neq K 0 = (c.K != 0) := by subst hM; rw [H.K]; rfl
  have e107 : M .cmp .eql (hasS (shapeS c.kind) 107 : Int) 0 = !(shapeS c.kind).contains 107 := by
    subst hM
    show ((hasS (shapeS c.kind) 107 : Int) == 0) = !hasB (bs (shapeS c.kind)) 107
    have := sh 107
    cases hb : hasB (bs (shapeS c.kind)) 107
    · rw [hb] at this; simp at this ⊢; omega
    · rw [hb] at this; simp at this ⊢; omega
  obtain ⟨bK, hbK⟩ : ∃ b, b = (c.K == 0 || (shapeS c.kind).contains 107) := ⟨_, rfl⟩
  obtain ⟨u, hu⟩ : ∃ u, u = (c.K != 0) := ⟨_, rfl⟩
  obtain ⟨u2, hu2⟩ : ∃ u, u = (shapeS c.kind).contains 107 := ⟨_, rfl⟩
  have hy : y = (mcountedS c.kind c.A.length c.B.length c.C.length c.D.length c.E.length c.R.length (bs (shapeS c.kind)) && alikeS c && bK) := by rw [hy, arityS, hbK]
  rw [← hu] at eK
  rw [← hu2] at e107
  have hbK : bK = (!u || u2) := by rw [hbK, hu, hu2]; simp [bne]
  clear hu hu2
  obtain ⟨dAC, hdAC⟩ : ∃ b, b = (c.C.length != c.A.length) := ⟨_, rfl⟩
  obtain ⟨dAD, hdAD⟩ : ∃ b, b = (c.D.length != c.A.length) := ⟨_, rfl⟩
  obtain ⟨dCD, hdCD⟩ : ∃ b, b = (c.D.length != c.C.length) := ⟨_, rfl⟩
  obtain ⟨dCE, hdCE⟩ : ∃ b, b = (c.E.length != c.C.length) := ⟨_, rfl⟩
  obtain ⟨dBA, hdBA⟩ : ∃ b, b = (c.B.length != c.A.length) := ⟨_, rfl⟩
  rw [← hdAC] at eAC; rw [← hdAD] at eAD; rw [← hdCD] at eCD; rw [← hdCE] at eCE; rw [← hdBA] at eBA
  have k107 := hs 107 107 rfl
  obtain ⟨n107, hn107⟩ : ∃ n, n = (hasS (shapeS c.kind) 107 : Int) := ⟨_, rfl⟩
  rw [← hn107] at k107 e107
  obtain ⟨s, hs'⟩ : ∃ s, s = shapeS c.kind := ⟨_, rfl⟩
  rw [← hs'] at hs s114
  have y12 : c.kind = 12 → y = (decide ((c.A.length : Int) + c.B.length ≥ 1) && (decide ((c.A.length : Int) ≤ 64) && (decide ((c.B.length : Int) ≤ 64) && (((c.C.length : Int) == 0) && (((c.D.length : Int) == 0) && (((c.E.length : Int) == 0) && (((c.R.length : Int) == 0) && bK))))))) := fun h12 => by
    rw [hy, Bool.eq_iff_iff]
    simp only [mcountedS, if_pos h12, alikeS, withinS, show ¬ (1 ≤ c.kind ∧ c.kind ≤ 4) by omega, show ¬ c.kind = 19 by omega, show ¬ c.kind = 21 by omega, show ¬ (c.kind = 22 ∨ c.kind = 23) by omega, show ¬ c.kind = 18 by omega, if_false, Bool.and_eq_true, decide_eq_true_eq, beq_iff_eq, and_true]
    constructor
    · rintro ⟨⟨⟨⟨h1, h2⟩, h3⟩, h4⟩, h5⟩
      refine ⟨h1, ?_, ?_, ?_, ?_, ?_, ?_, h5⟩ <;> (first | omega | (split at h3 <;> omega))
    · rintro ⟨h1, h2, h3, h4, h5, h6, h7, h8⟩
      refine ⟨⟨⟨⟨h1, by omega⟩, ?_⟩, by omega⟩, h8⟩
      split <;> omega
  obtain ⟨r0, hr0⟩ : ∃ b, b = (if hasB (bs (shapeS c.kind)) 114 then withinS c.R.length 1 1024 else (c.R.length : Int) == 0) := ⟨_, rfl⟩
  have hr18 : c.kind = 18 → r0 = (decide ((c.R.length : Int) ≥ 1) && decide ((c.R.length : Int) ≤ 1024)) := fun h18 => by
    rw [hr0, if_pos]
    · rfl
    · rw [h18]; rfl
  have hr00 : c.kind ≠ 18 → r0 = ((c.R.length : Int) == 0) := fun h18 => by
    rw [hr0, if_neg]
    exact fun hh => h18 (shape_r h23 hh)
  obtain ⟨X, hX⟩ : ∃ b, b = namedS c.A.length (bs (shapeS c.kind)) 118 86 := ⟨_, rfl⟩
  obtain ⟨Y, hY⟩ : ∃ b, b = namedS c.B.length (bs (shapeS c.kind)) 119 87 := ⟨_, rfl⟩
  obtain ⟨P, hP⟩ : ∃ b, b = namedS c.C.length (bs (shapeS c.kind)) 45 99 := ⟨_, rfl⟩
  obtain ⟨Q, hQ⟩ : ∃ b, b = namedS c.D.length (bs (shapeS c.kind)) 45 100 := ⟨_, rfl⟩
  obtain ⟨R', hR'⟩ : ∃ b, b = namedS c.E.length (bs (shapeS c.kind)) 45 101 := ⟨_, rfl⟩
  obtain ⟨al, hal⟩ : ∃ b, b = alikeS c := ⟨_, rfl⟩
  have yn : c.kind ≠ 12 → y = (X && (Y && (P && (Q && (R' && (r0 && (al && bK))))))) := fun h12 => by
    rw [hy, mcountedS, if_neg h12, ← hr0, ← hX, ← hY, ← hP, ← hQ, ← hR', ← hal]
    cases X <;> cases Y <;> cases P <;> cases Q <;> cases R' <;> cases r0 <;> simp
  rw [← list_named] at hX hY
  rw [← list_dash _ h23] at hP hQ hR'
  rw [← hs'] at hX hY hP hQ hR'
  have lx := c_list (Int.ofNat (M .len rA)) (hasS s 118) (hasS s 86) X (by rw [hX]; subst hM; congr 1; exact nA.symm)
  have ly := c_list (Int.ofNat (M .len rB)) (hasS s 119) (hasS s 87) Y (by rw [hY]; subst hM; congr 1; exact nB.symm)
  have lp := c_list (Int.ofNat (M .len rC)) 0 (hasS s 99) P (by rw [hP]; subst hM; congr 1; exact nC.symm)
  have lq := c_list (Int.ofNat (M .len rD)) 0 (hasS s 100) Q (by rw [hQ]; subst hM; congr 1; exact nD.symm)
  have lr' := c_list (Int.ofNat (M .len rE)) 0 (hasS s 101) R' (by rw [hR']; subst hM; congr 1; exact nE.symm)
  clear hX hY hP hQ hR' hy hr0 sh
  have k118 := hs 118 118 rfl
  have k86 := hs 86 86 rfl
  have k119 := hs 119 119 rfl
  have k87 := hs 87 87 rfl
  have k99 := hs 99 99 rfl
  have k100 := hs 100 100 rfl
  have k101 := hs 101 101 rfl
  have k114 := hs 114 114 rfl
  generalize (hasS s 118 : Int) = n118 at k118 lx
  generalize (hasS s 86 : Int) = n86 at k86 lx
  generalize (hasS s 119 : Int) = n119 at k119 ly
  generalize (hasS s 87 : Int) = n87 at k87 ly
  generalize (hasS s 99 : Int) = n99 at k99 lp
  generalize (hasS s 100 : Int) = n100 at k100 lq
  generalize (hasS s 101 : Int) = n101 at k101 lr'
  obtain ⟨n114, hn114⟩ : ∃ n, n = (hasS s 114 : Int) := ⟨_, rfl⟩
  rw [← hn114] at k114
  have z114 : M .cmp .eql n114 0 = decide (c.kind ≠ 18) := by
    subst hM
    show (n114 == 0) = _
    rcases s114 with ⟨h, h2⟩ | ⟨h, h2⟩ <;> rw [hn114, h2] <;> simp [h]
  have g114 : M .cmp .gtr n114 0 = decide (c.kind = 18) := by
    subst hM
    show decide (n114 > 0) = _
    rcases s114 with ⟨h, h2⟩ | ⟨h, h2⟩ <;> rw [hn114, h2] <;> simp [h]
  clear hn107 hs s114 hs' hn114 hw
  have h12 : c.kind ≠ 12 := by omega
  have yn := yn h12
  have q12 : M .cmp .eql kind 12 = false := by rw [q12]; simpa using h12
  clear y12
  cbv
  simp only [eK]
  cases u
  · subst hbK
    cbv
    simp only [q12]
    cbv
    refine .mk _ (use_call hC k118) ?_
    cbv
    refine .mk _ (use_call hC k86) ?_
    cbv
    refine .mk _ (use_call hC lx) ?_
    cbv
    refine .mk _ (use_call hC k119) ?_
    cbv
    refine .mk _ (use_call hC k87) ?_
    cbv
    refine .mk _ (use_call hC ly) ?_
    cbv
    refine .mk _ (use_call hC k99) ?_
    cbv
    refine .mk _ (use_call hC lp) ?_
    cbv
    refine .mk _ (use_call hC k100) ?_
    cbv
    refine .mk _ (use_call hC lq) ?_
    cbv
    refine .mk _ (use_call hC k101) ?_
    cbv
    refine .mk _ (use_call hC lr') ?_
    cbv
    cases X
    · simp only [nf]
      cbv
      rw [yn]; simp
    simp only [nt]
    cbv
    cases Y
    · simp only [nf]
      cbv
      rw [yn]; simp
    simp only [nt]
    cbv
    cases P
    · simp only [nf]
      cbv
      rw [yn]; simp
    simp only [nt]
    cbv
    cases Q
    · simp only [nf]
      cbv
      rw [yn]; simp
    simp only [nt]
    cbv
    cases R'
    · simp only [nf]
      cbv
      rw [yn]; simp
    simp only [nt]
    cbv
    simp only [Bool.true_and, Bool.and_true, Bool.not_true, Bool.not_false, Bool.true_or, Bool.or_true] at yn
    refine .mk _ (use_call hC k114) ?_
    cbv
    have h0 := hcl
    have q4 : M .cmp .leq kind 4 = false := by rw [q4]; simp; omega
    have q19 : M .cmp .eql kind 19 = false := by rw [q19]; simp; omega
    have q21 : M .cmp .eql kind 21 = false := by rw [q21]; simp; omega
    have q22 : M .cmp .geq kind 22 = false := by rw [q22]; simp; omega
    have z114 : M .cmp .eql n114 0 = true := by rw [z114]; simp; omega
    have g114 : M .cmp .gtr n114 0 = false := by rw [g114]; simp; omega
    have al1 : al = true := by
      rw [hal, Bool.eq_iff_iff]
      simp [alikeS, hdAC, hdAD, hdCD, hdCE, hdBA, show (1 ≤ c.kind ∧ c.kind ≤ 4) ↔ False by simp; omega, show c.kind = 19 ↔ False by simp; omega, show c.kind = 21 ↔ False by simp; omega, show (c.kind = 22 ∨ c.kind = 23) ↔ False by simp; omega, show c.kind = 18 ↔ False by simp; omega]
    simp only [z114]
    cbv
    have hr := hr00 (by omega)
    split <;> rename_i h <;> (try simp only [h]) <;> (try cbv) <;> (try simp only [ncast] at *)
    · have h1 : rR.length > 0 := by subst hM; have h := of_decide_eq_true h; have h : (rR.length : Int) > 0 := h; omega
      have : ((c.R.length : Int) == 0) = false := beq_eq_false_iff_ne.2 (by omega)
      rw [yn, hr, this]; simp
    have h1 : ¬ rR.length > 0 := by subst hM; have h := of_decide_eq_false h; have h : ¬ (rR.length : Int) > 0 := h; omega
    clear h
    have hR0 : c.R.length = 0 := by omega
    have r00 : r0 = true := by rw [hr]; exact beq_iff_eq.2 (by omega)
    subst r00
    simp only [Bool.true_and, Bool.and_true] at yn
    refine .mk _ (use_call hC k114) ?_
    cbv
    simp only [g114]
    cbv
    simp only [q4]
    cbv
    simp only [q19]
    cbv
    simp only [q21]
    cbv
    simp only [q22]
    cbv
    have yn : y = !(c.R.any fun r => r.length != c.A.length) := by
      rw [yn, al1, List.eq_nil_of_length_eq_zero hR0]; simp
    refine Loop.over Nat (fun q => [(.t 12, I q)]) 1 (fun q => c.R.length - q) (fun q => q ≤ c.R.length ∧ ∀ i, i < q → (c.R.getD i []).length = c.A.length) 0 ⟨Nat.zero_le _, by omega⟩ (by (cbv; repeat' (first | exact True.intro | exact rfl | apply And.intro))) ?_
    rintro j ⟨hj, hn⟩
    cbv
    split <;> rename_i h <;> (try simp only [h]) <;> (try cbv) <;> (try simp only [ncast] at *)
    · have hlt : j < c.R.length := by subst hM; have h := of_decide_eq_true h; have h : (j : Int) < (rR.length : Int) := h; omega
      refine nidx_rows hRR hlt fun r hr5 => ?_
      have lr5 : r.length = (c.R.getD j []).length := by rw [hr5]; simp
      clear hr5
      cbv
      split <;> rename_i h <;> (try simp only [h]) <;> (try cbv) <;> (try simp only [ncast] at *)
      · have h3 : (c.R.getD j []).length ≠ c.A.length := by subst hM; have h : ((r.length : Int) != (rA.length : Int)) = true := h; rw [bne_iff_ne] at h; omega
        rw [yn, rows_bad hlt h3]; rfl
      · have h3 : (c.R.getD j []).length = c.A.length := by subst hM; have h : ((r.length : Int) != (rA.length : Int)) = false := h; rw [bne_eq_false_iff_eq] at h; omega
        refine ⟨j + 1, ⟨hlt, fun i hi => ?_⟩, ?_, by (cbv; repeat' (first | exact True.intro | exact rfl | apply And.intro)) <;> (subst hM; rw [succ_i64 (by omega)])⟩
        · rcases Nat.lt_or_ge i j with h4 | h4
          · exact hn i h4
          · have : i = j := by omega
            subst this; exact h3
        · omega
    · have hj2 : j = c.R.length := by subst hM; have h := of_decide_eq_false h; have h : ¬ (j : Int) < (rR.length : Int) := h; omega
      subst hj2
      rw [yn, rows_all hn]; rfl
  · cbv
    refine .mk _ (use_call hC k107) ?_
    cbv
    simp only [e107]
    cases u2
    · subst hbK
      cbv
      rw [yn]; simp
    · subst hbK
      cbv
      simp only [q12]
      cbv
      refine .mk _ (use_call hC k118) ?_
      cbv
      refine .mk _ (use_call hC k86) ?_
      cbv
      refine .mk _ (use_call hC lx) ?_
      cbv
      refine .mk _ (use_call hC k119) ?_
      cbv
      refine .mk _ (use_call hC k87) ?_
      cbv
      refine .mk _ (use_call hC ly) ?_
      cbv
      refine .mk _ (use_call hC k99) ?_
      cbv
      refine .mk _ (use_call hC lp) ?_
      cbv
      refine .mk _ (use_call hC k100) ?_
      cbv
      refine .mk _ (use_call hC lq) ?_
      cbv
      refine .mk _ (use_call hC k101) ?_
      cbv
      refine .mk _ (use_call hC lr') ?_
      cbv
      cases X
      · simp only [nf]
        cbv
        rw [yn]; simp
      simp only [nt]
      cbv
      cases Y
      · simp only [nf]
        cbv
        rw [yn]; simp
      simp only [nt]
      cbv
      cases P
      · simp only [nf]
        cbv
        rw [yn]; simp
      simp only [nt]
      cbv
      cases Q
      · simp only [nf]
        cbv
        rw [yn]; simp
      simp only [nt]
      cbv
      cases R'
      · simp only [nf]
        cbv
        rw [yn]; simp
      simp only [nt]
      cbv
      simp only [Bool.true_and, Bool.and_true, Bool.not_true, Bool.not_false, Bool.true_or, Bool.or_true] at yn
      refine .mk _ (use_call hC k114) ?_
      cbv
      have h0 := hcl
      have q4 : M .cmp .leq kind 4 = false := by rw [q4]; simp; omega
      have q19 : M .cmp .eql kind 19 = false := by rw [q19]; simp; omega
      have q21 : M .cmp .eql kind 21 = false := by rw [q21]; simp; omega
      have q22 : M .cmp .geq kind 22 = false := by rw [q22]; simp; omega
      have z114 : M .cmp .eql n114 0 = true := by rw [z114]; simp; omega
      have g114 : M .cmp .gtr n114 0 = false := by rw [g114]; simp; omega
      have al1 : al = true := by
        rw [hal, Bool.eq_iff_iff]
        simp [alikeS, hdAC, hdAD, hdCD, hdCE, hdBA, show (1 ≤ c.kind ∧ c.kind ≤ 4) ↔ False by simp; omega, show c.kind = 19 ↔ False by simp; omega, show c.kind = 21 ↔ False by simp; omega, show (c.kind = 22 ∨ c.kind = 23) ↔ False by simp; omega, show c.kind = 18 ↔ False by simp; omega]
      simp only [z114]
      cbv
      have hr := hr00 (by omega)
      split <;> rename_i h <;> (try simp only [h]) <;> (try cbv) <;> (try simp only [ncast] at *)
      · have h1 : rR.length > 0 := by subst hM; have h := of_decide_eq_true h; have h : (rR.length : Int) > 0 := h; omega
        have : ((c.R.length : Int) == 0) = false := beq_eq_false_iff_ne.2 (by omega)
        rw [yn, hr, this]; simp
      have h1 : ¬ rR.length > 0 := by subst hM; have h := of_decide_eq_false h; have h : ¬ (rR.length : Int) > 0 := h; omega
      clear h
      have hR0 : c.R.length = 0 := by omega
      have r00 : r0 = true := by rw [hr]; exact beq_iff_eq.2 (by omega)
      subst r00
      simp only [Bool.true_and, Bool.and_true] at yn
      refine .mk _ (use_call hC k114) ?_
      cbv
      simp only [g114]
      cbv
      simp only [q4]
      cbv
      simp only [q19]
      cbv
      simp only [q21]
      cbv
      simp only [q22]
      cbv
      have yn : y = !(c.R.any fun r => r.length != c.A.length) := by
        rw [yn, al1, List.eq_nil_of_length_eq_zero hR0]; simp
      refine Loop.over Nat (fun q => [(.t 12, I q)]) 1 (fun q => c.R.length - q) (fun q => q ≤ c.R.length ∧ ∀ i, i < q → (c.R.getD i []).length = c.A.length) 0 ⟨Nat.zero_le _, by omega⟩ (by (cbv; repeat' (first | exact True.intro | exact rfl | apply And.intro))) ?_
      rintro j ⟨hj, hn⟩
      cbv
      split <;> rename_i h <;> (try simp only [h]) <;> (try cbv) <;> (try simp only [ncast] at *)
      · have hlt : j < c.R.length := by subst hM; have h := of_decide_eq_true h; have h : (j : Int) < (rR.length : Int) := h; omega
        refine nidx_rows hRR hlt fun r hr5 => ?_
        have lr5 : r.length = (c.R.getD j []).length := by rw [hr5]; simp
        clear hr5
        cbv
        split <;> rename_i h <;> (try simp only [h]) <;> (try cbv) <;> (try simp only [ncast] at *)
        · have h3 : (c.R.getD j []).length ≠ c.A.length := by subst hM; have h : ((r.length : Int) != (rA.length : Int)) = true := h; rw [bne_iff_ne] at h; omega
          rw [yn, rows_bad hlt h3]; rfl
        · have h3 : (c.R.getD j []).length = c.A.length := by subst hM; have h : ((r.length : Int) != (rA.length : Int)) = false := h; rw [bne_eq_false_iff_eq] at h; omega
          refine ⟨j + 1, ⟨hlt, fun i hi => ?_⟩, ?_, by (cbv; repeat' (first | exact True.intro | exact rfl | apply And.intro)) <;> (subst hM; rw [succ_i64 (by omega)])⟩
          · rcases Nat.lt_or_ge i j with h4 | h4
            · exact hn i h4
            · have : i = j := by omega
              subst this; exact h3
          · omega
      · have hj2 : j = c.R.length := by subst hM; have h := of_decide_eq_false h; have h : ¬ (j : Int) < (rR.length : Int) := h; omega
        subst hj2
        rw [yn, rows_all hn]; rfl
end Go.Pi

/- Package jigsawref06: Arity. -/
namespace Go.Pi
open Go
theorem c_arity (c : Con) (kind K : Int) (rA rB rC rD rE rR : List (List PV)) (w : ByteArray) (H : ConR c kind rA rB rC rD rE K rR) (hw : w = bs (shapeS c.kind)) (h23 : 1 ≤ c.kind ∧ c.kind ≤ 23)
    (la : lim rA) (lb : lim rB) (lc : lim rC) (ld : lim rD) (le : lim rE) (lr : lim rR) (y : Bool) (hy : y = arityS c) :
    Call .plain 149 [.agg [I kind, .list 1 rA, .list 1 rB, .list 1 rC, .list 1 rD, .list 1 rE, I K, .list 1 rR], Str w] (B y) := by
  obtain h | h | h | h | h | h | h : (c.kind = 12) ∨ (c.kind = 18) ∨ (c.kind ≤ 4) ∨ (c.kind = 19) ∨ (c.kind = 21) ∨ (c.kind ≥ 22) ∨ (5 ≤ c.kind ∧ c.kind ≤ 11 ∨ 13 ≤ c.kind ∧ c.kind ≤ 17 ∨ c.kind = 20) := by omega
  · exact c_arity12 c kind K rA rB rC rD rE rR w H hw h23 la lb lc ld le lr y hy h
  · exact c_arityh18 c kind K rA rB rC rD rE rR w H hw h23 la lb lc ld le lr y hy h
  · exact c_arityh4 c kind K rA rB rC rD rE rR w H hw h23 la lb lc ld le lr y hy h
  · exact c_arityh19 c kind K rA rB rC rD rE rR w H hw h23 la lb lc ld le lr y hy h
  · exact c_arityh21 c kind K rA rB rC rD rE rR w H hw h23 la lb lc ld le lr y hy h
  · exact c_arityh22 c kind K rA rB rC rD rE rR w H hw h23 la lb lc ld le lr y hy h
  · exact c_arityh0 c kind K rA rB rC rD rE rR w H hw h23 la lb lc ld le lr y hy h
end Go.Pi
