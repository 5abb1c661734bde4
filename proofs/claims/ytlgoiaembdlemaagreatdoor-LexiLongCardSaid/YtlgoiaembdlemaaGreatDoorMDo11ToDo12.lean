/- Package jigsawref10: solutions among domains. -/
import Derived.Test.YtlgoiaembdlemaaGreatDoorMDo9ToDo10
import Derived.Test.YtlgoiaembdlemaaGreatDoorPie
set_option linter.unusedSimpArgs false
set_option linter.unusedVariables false

/- Package jigsawref10: solutions among domains. -/
namespace Go.Pi
open Go
set_option linter.unusedVariables false
set_option linter.unusedSimpArgs false

theorem c_product (rl : List (List PV)) (ds : List (List Int)) (hl : rl = rowsOf ds) (hne : ∀ d ∈ ds, d ≠ []) (h64 : ds.length ≤ 1000) (most : Int) (hm : (prodL ds : Int) ≤ most) (hm2 : most ≤ 1000000) (r : List (List PV)) (hr : r = rowsOf (rowsS ds)) :
    Call .plain 101 [.list 1 rl, I most] (.list 1 r) := by
  have hmost : prodL ds ≤ 1000000 := by omega
  have dlen : (rl.length : Int) = ds.length := by rw [hl]; simp
  have gd : ∀ i, i < ds.length → rl[i]? = some [.list 1 (ints (ds.getD i []))] := fun i hi => by
    rw [hl, rowsOf_get]; simp [List.getD_eq_getElem?_getD, hi]
  have glen : ∀ i, i < ds.length → (ints (ds.getD i [])).length = (ds.getD i []).length ∧ 0 < (ds.getD i []).length := fun i hi => ⟨by simp, List.length_pos_iff.2 (hne _ (getD_mem [] hi))⟩
  refine call_of Proofs.Tryz.func101 Proofs.Tryz.call101 rfl rfl fun M C hM hC => ?_
  cbv
  refine Loop.over (Nat × Int) (fun q => [(.t 6, I q.1), (.t 5, I q.2)]) 0 (fun q => ds.length - q.1) (fun q => q.1 ≤ ds.length ∧ q.2 = prodL (ds.take q.1)) (0, 1) ⟨Nat.zero_le _, by simp [prodL]⟩ (by (cbv; repeat' (first | exact True.intro | exact rfl | apply And.intro))) ?_
  rintro ⟨j, n⟩ ⟨hj, hn⟩
  simp only at hj hn
  cbv
  split <;> rename_i h <;> (try simp only [h]) <;> (try cbv) <;> (try simp only [ncast] at *)
  · have hlt : j < ds.length := by subst hM; have h := of_decide_eq_true h; have h : (j : Int) < (rl.length : Int) := h; omega
    clear h
    have hst := prodL_take hlt
    have hmo := prodL_mono hne (j + 1)
    have hmo2 := prodL_mono hne j
    have g1 := gd j hlt
    obtain ⟨g2, g3⟩ := glen j hlt
    generalize ds.getD j [] = d at g1 g2 g3 hst
    generalize ints d = rd at g1 g2
    have e1 : M .arith .mul .i64 n (Int.ofNat (M .len rd)) = prodL (ds.take (j + 1)) := by
      subst hM
      show IntKind.i64.wrap (n * (rd.length : Int)) = _
      rw [hn, g2, ← Int.natCast_mul, ← hst, wrap_i64 (by omega) (by omega)]
    have q1 : M .cmp .gtr (M .arith .mul .i64 n (Int.ofNat (M .len rd))) most = false := by
      rw [e1]; subst hM
      show decide _ = false
      rw [decide_eq_false_iff_not]; omega
    clear hst hn
    refine .mk _ (Int.natCast_nonneg _) g1 ?_
    cbv
    rw [show M .cmp .gtr _ most = _ from q1]
    cbv
    refine ⟨⟨j + 1, _⟩, ⟨hlt, e1⟩, ?_, by (cbv; repeat' (first | exact True.intro | exact rfl | apply And.intro)) <;> (subst hM; rw [succ_i64 (by omega)])⟩
    simp only; omega
  · have hj2 : j = ds.length := by subst hM; have h := of_decide_eq_false h; have h : ¬ (j : Int) < (rl.length : Int) := h; omega
    subst hj2
    clear h
    rw [List.take_length] at hn
    refine Loop.over (Nat × List (List PV)) (fun q => [(.t 8, I q.1), (.t 7, .own 0 0), (.a 0, .arr 0 25 1 q.2), (.i 0, .inf true 0)]) 1 (fun q => prodL ds - q.1) (fun q => q.1 ≤ prodL ds ∧ q.2 = rowsOf ((List.range q.1).map (rowK ds))) (0, []) ⟨Nat.zero_le _, rfl⟩ (by (cbv; repeat' (first | exact True.intro | exact rfl | apply And.intro))) ?_
    rintro ⟨k, q⟩ ⟨hk, hq⟩
    simp only at hk hq
    cbv
    split <;> rename_i h <;> (try simp only [h]) <;> (try cbv) <;> (try simp only [ncast] at *)
    · have hlt : k < prodL ds := by subst hM; have h := of_decide_eq_true h; have h : (k : Int) < n := h; omega
      clear h
      have z0 : (0 : Int) ≤ Int.ofNat (M .len rl) := Int.natCast_nonneg _
      have z1 : (Int.ofNat (M .len rl) : Int) ≤ 2147483648 := by subst hM; show (rl.length : Int) ≤ _; omega
      have rep : M .rep (Int.ofNat (M .len rl)) [I 0] = List.replicate ds.length [I 0] := by
        subst hM
        show List.replicate ((rl.length : Int)).toNat _ = _
        rw [dlen]; rfl
      have e1 : M .arith .sub .i64 (Int.ofNat (M .len rl)) 1 = (ds.length : Int) - 1 := by
        subst hM
        show IntKind.i64.wrap ((rl.length : Int) - 1) = _
        rw [dlen, wrap_i64 (by omega) (by omega)]
      refine .mk (Int.le_refl _) (.mk (Int.le_refl _) (.mk z0 (.mk z1 ?_)))
      cbv
      refine Loop.over (Nat × Int × Int × List (List PV)) (fun q => [(.t 11, I q.2.1), (.t 10, I q.2.2.1), (.a 1, .arr 0 3 1 q.2.2.2)]) 2 (fun q => q.1) (fun q => q.1 ≤ ds.length ∧ q.2.1 = (q.1 : Int) - 1 ∧ q.2.2.1 = (k / prodL (ds.drop q.1) : Nat) ∧ (∃ P : List Int, q.2.2.2 = ints P ∧ P.length = ds.length) ∧ ∀ i, q.1 ≤ i → i < ds.length → q.2.2.2[i]? = some [I ((rowK ds k).getD i 0)]) (ds.length, M .arith .sub .i64 (Int.ofNat (M .len rl)) 1, (k : Int), M .rep (Int.ofNat (M .len rl)) [I 0]) ⟨Nat.le_refl _, e1, by simp [prodL], ⟨List.replicate ds.length 0, by rw [rep]; simp [ints], by simp⟩, fun i h1 h2 => by simp only at h1; omega⟩ (by (cbv; repeat' (first | exact True.intro | exact rfl | apply And.intro))) ?_
      clear z0 z1 rep e1
      rintro ⟨m, iv, rv, p⟩ ⟨hm1, hiv, hrv, ⟨P, hP, hPl⟩, hp⟩
      simp only at hm1 hiv hrv hP hp
      have hpl : p.length = ds.length := by rw [hP]; simpa using hPl
      cbv
      split <;> rename_i h <;> (try simp only [h]) <;> (try cbv) <;> (try simp only [ncast] at *)
      · obtain ⟨i, rfl⟩ : ∃ i, m = i + 1 := ⟨m - 1, by subst hM; have h := of_decide_eq_true h; have h : iv ≥ 0 := h; omega⟩
        clear h
        have hivn : iv = (i : Int) := by omega
        have hi : i < ds.length := by omega
        have g1 := gd i hi
        obtain ⟨g2, g3⟩ := glen i hi
        have hg := rowK_get (k := k) hi
        have hd := prodL_drop hi
        have hp0 := prodL_pos (ds := ds.drop (i + 1)) fun d hd => hne d (List.mem_of_mem_drop hd)
        obtain ⟨x, hx⟩ : ∃ x, x = (rowK ds k).getD i 0 := ⟨_, rfl⟩
        rw [← hx] at hg
        have hgi : (ints (ds.getD i []))[k / prodL (ds.drop (i + 1)) % (ds.getD i []).length]? = some [I x] := by
          rw [ints_get, hg]
          have : k / prodL (ds.drop (i + 1)) % (ds.getD i []).length < (ds.getD i []).length := Nat.mod_lt _ g3
          simp [List.getD_eq_getElem?_getD] at this ⊢
          simp [this]
        generalize ds.getD i [] = d at g1 g2 g3 hd hgi
        generalize ints d = rd at g1 g2 hgi
        obtain ⟨s, hs⟩ : ∃ s, s = k / prodL (ds.drop (i + 1)) := ⟨_, rfl⟩
        rw [← hs] at hrv hgi
        have hsk : s ≤ k := by rw [hs]; exact Nat.div_le_self ..
        have e1 : M .arith .rem .i64 rv (Int.ofNat (M .len rd)) = ((s % d.length : Nat) : Int) := by
          subst hM
          show rv.tmod (rd.length : Int) = _
          rw [hrv, g2, Int.tmod_eq_emod_of_nonneg (Int.natCast_nonneg _), Int.natCast_emod]
        have e2 : M .arith .quo .i64 rv (Int.ofNat (M .len rd)) = ((k / prodL (ds.drop i) : Nat) : Int) := by
          subst hM
          show IntKind.i64.wrap (rv.tdiv (rd.length : Int)) = _
          have hz : s / d.length ≤ s := Nat.div_le_self ..
          have hz2 : k / prodL (ds.drop i) = s / d.length := by rw [hd, hs, Nat.div_div_eq_div_mul, Nat.mul_comm]
          rw [hrv, g2, Int.tdiv_eq_ediv_of_nonneg (Int.natCast_nonneg _), ← Int.natCast_ediv, hz2]
          generalize s / d.length = z at hz
          exact wrap_i64 (by omega) (by omega)
        have e3 : M .arith .sub .i64 iv 1 = (i : Int) - 1 := by subst hM; rw [hivn]; exact wrap_i64 (by omega) (by omega)
        have nz : (Int.ofNat (M .len rd) : Int) ≠ 0 := by subst hM; show (rd.length : Int) ≠ 0; omega
        have g1' : rl[iv.toNat]? = some [.list 1 rd] := by rw [hivn]; exact g1
        have iv0 : 0 ≤ iv := by omega
        have m0 : 0 ≤ M .arith .rem .i64 rv (Int.ofNat (M .len rd)) := by rw [e1]; exact Int.natCast_nonneg _
        have gx : rd[(M .arith .rem .i64 rv (Int.ofNat (M .len rd))).toNat]? = some [I x] := by rw [e1]; exact hgi
        have gp : p[iv.toNat]? = some [I (P.getD i 0)] := by
          rw [show iv.toNat = i by omega, hP, ints_get]
          have : i < P.length := by omega
          simp [List.getD_eq_getElem?_getD, this]
        have hsP : ∃ P' : List Int, M .set p iv [I x] = ints P' ∧ P'.length = ds.length := by
          refine ⟨P.set iv.toNat x, ?_, by simpa using hPl⟩
          subst hM
          rw [real_set, hP, ints_set]
        have hst : ∀ i', i ≤ i' → i' < ds.length → (M .set p iv [I x])[i']? = some [I ((rowK ds k).getD i' 0)] := fun i' h1 h2 => by
          subst hM
          show (p.set iv.toNat [I x])[i']? = _
          rw [hivn, show ((i : Int)).toNat = i from rfl]
          by_cases e : i' = i
          · subst e
            rw [List.getElem?_set_self (by omega), hx]
          · rw [List.getElem?_set_ne (by omega)]
            exact hp i' (by omega) h2
        clear hgi e1 hx hg hd hs hp g1 hrv hp0 g3 hP hPl
        generalize P.getD i 0 = old at gp
        refine .mk _ iv0 g1' ?_
        cbv
        refine .mk _ iv0 g1' ?_
        cbv
        refine .mk nz ?_
        cbv
        refine .mk _ m0 gx ?_
        cbv
        refine .mk _ iv0 gp ?_
        cbv
        refine .mk _ iv0 gp ?_
        cbv
        refine .mk _ iv0 g1' ?_
        cbv
        refine .mk nz ?_
        cbv
        refine ⟨⟨i, _, _, _⟩, ⟨by omega, e3, e2, hsP, hst⟩, ?_, by (cbv; repeat' (first | exact True.intro | exact rfl | apply And.intro))⟩
        simp only; omega
      · have hm0 : m = 0 := by subst hM; have h := of_decide_eq_false h; have h : ¬ iv ≥ 0 := h; omega
        subst hm0
        clear h
        have hpe : p = ints (rowK ds k) := by
          apply List.ext_getElem?
          intro i
          rw [ints_get]
          by_cases hi : i < ds.length
          · rw [hp i (Nat.zero_le _) hi]
            have := rowK_len ds k
            simp [List.getD_eq_getElem?_getD, this, hi]
          · rw [List.getElem?_eq_none (by omega), List.getElem?_eq_none (by rw [rowK_len]; omega)]; rfl
        have step : M .app q [[.list 1 p]] = rowsOf ((List.range (k + 1)).map (rowK ds)) := by
          subst hM
          rw [real_app, hq, hpe, range_map_succ]
          simp [rowsOf]
        have few : (M .app q [[.list 1 p]]).length ≤ 2147483648 := by rw [step]; simp; omega
        clear hq hpe hp hpl hP hPl
        refine .mk few ?_
        cbv
        refine ⟨⟨k + 1, _⟩, ⟨hlt, step⟩, ?_, by (cbv; repeat' (first | exact True.intro | exact rfl | apply And.intro)) <;> (subst hM; rw [succ_i64 (by omega)])⟩
        simp only; omega
    · have hk2 : k = prodL ds := by subst hM; have h := of_decide_eq_false h; have h : ¬ (k : Int) < n := h; omega
      subst hk2
      exact ⟨hq.trans hr.symm, trivial⟩
end Go.Pi

/- Package jigsawref10: solutions among domains; what is in one. -/
namespace Go.Pi
open Go
set_option linter.unusedVariables false
set_option linter.unusedSimpArgs false

theorem local_right {c : Con} {vars : Int} (R : RightOK c vars) {n : Nat} (hn : n = c.A.length + c.B.length) : RightOK (localS c) n := by
  refine ⟨R.kind, by simpa [localS] using R.counted, by simpa [localS, alikeS] using R.alike, R.K, fun v hv => ?_, fun v hv => ?_, R.numbers, by simpa [localS, countsS] using R.counts⟩
  · obtain ⟨i, hi, rfl⟩ := List.mem_map.1 hv
    have := List.mem_range.1 hi
    omega
  · obtain ⟨i, hi, rfl⟩ := List.mem_map.1 hv
    have := List.mem_range.1 hi
    omega
/-- Does the constraint, each place being a variable, hold of values? -/
theorem c_holdsLocal (c : Con) {vars : Int} (R : RightOK c vars) (r : List Int) (hr : r.length = c.A.length + c.B.length) (hf : r.any farS = false) (kind K : Int) (rA rB rC rD rE rR lA lB : List (List PV)) (H : ConR c kind rA rB rC rD rE K rR) (hlA : lA = ints (localS c).A) (hlB : lB = ints (localS c).B) (ra : List (List PV)) (ha : ra = ints r) (y : Bool) (hy : y = solB c r) :
    Call .plain 37 [.agg [I kind, .list 1 lA, .list 1 lB, .list 1 rC, .list 1 rD, .list 1 rE, I K, .list 1 rR], .list 1 ra] (B y) := by
  have H' : ConR (localS c) kind lA lB rC rD rE K rR := ⟨H.kind, hlA, hlB, H.C, H.D, H.E, H.K, H.R⟩
  refine c_rholds (localS c) r kind K lA lB rC rD rE rR ra H' ha (local_right R hr) hf y ?_
  rw [hy, solB]
  simp only [localS]
  rw [valuesS_first (by omega), valuesS_second hr.symm]
  rfl

theorem c_solutions (c : Con) {vars : Int} (R : RightOK c vars) (kind K : Int) (rA rB rC rD rE rR : List (List PV)) (H : ConR c kind rA rB rC rD rE K rR) (rl : List (List PV)) (ds : List (List Int)) (hl : rl = rowsOf ds) (hne : ∀ d ∈ ds, d ≠ []) (hb : ∀ d ∈ ds, ∀ v ∈ d, -1000000 ≤ v ∧ v ≤ 1000000) (hds : ds.length = c.A.length + c.B.length) (hdl : ∀ d ∈ ds, d.length ≤ 1000000)
    (most : Int) (hm : 1 ≤ most ∧ most ≤ 1000000) (y : Bool) (hy : y = decide ((prodL ds : Int) ≤ most)) (r : List (List PV)) (hr1 : y = true → r = rowsOf (solsS c ds)) (hr2 : y = false → r = []) :
    Call .plain 38 [.agg [I kind, .list 1 rA, .list 1 rB, .list 1 rC, .list 1 rD, .list 1 rE, I K, .list 1 rR], .list 1 rl, I most] (.tup [.list 1 r, B y]) := by
  have ln := R.lens
  have lA1 := ln.A
  have lB1 := ln.B
  obtain ⟨lA, hlA⟩ : ∃ lA, lA = ints (localS c).A := ⟨_, rfl⟩
  obtain ⟨lB, hlB⟩ : ∃ lB, lB = ints (localS c).B := ⟨_, rfl⟩
  have cloc := c_local c kind K rA rB rC rD rE rR H (by omega) (by omega) lA lB hlA hlB
  obtain ⟨rs, hrs⟩ : ∃ rs, rs = rowsOf (rowsS ds) := ⟨_, rfl⟩
  have cprod := fun hm' => c_product rl ds hl hne (by omega) most hm' hm.2 rs hrs
  have choldsk := fun k => c_holdsLocal c R (rowK ds k) (by rw [rowK_len, hds]) (rowK_far hne hb k) kind K rA rB rC rD rE rR lA lB H hlA hlB
  have dlen : (rl.length : Int) = ds.length := by rw [hl]; simp
  have d1000 : ds.length ≤ 1000 := by omega
  have gd : ∀ i, i < ds.length → rl[i]? = some [.list 1 (ints (ds.getD i []))] := fun i hi => by
    rw [hl, rowsOf_get]; simp [List.getD_eq_getElem?_getD, hi]
  have glen : ∀ i, i < ds.length → (ints (ds.getD i [])).length = (ds.getD i []).length ∧ (ds.getD i []).length ≤ 1000000 := fun i hi => ⟨by simp, hdl _ (getD_mem [] hi)⟩
  clear H hlA hlB R ln hb
  refine call_of Proofs.Tryz.func38 Proofs.Tryz.call38 rfl rfl fun M C hM hC => ?_
  cbv
  refine Loop.over (Nat × Int) (fun q => [(.t 9, I q.1), (.t 8, I q.2)]) 1 (fun q => ds.length - q.1) (fun q => q.1 ≤ ds.length ∧ q.2 = prodL (ds.take q.1) ∧ q.2 ≤ most) (0, 1) ⟨Nat.zero_le _, by simp [prodL], by simp; omega⟩ (by (cbv; repeat' (first | exact True.intro | exact rfl | apply And.intro))) ?_
  rintro ⟨j, n⟩ ⟨hj, hn, hn2⟩
  simp only at hj hn hn2
  cbv
  split <;> rename_i h <;> (try simp only [h]) <;> (try cbv) <;> (try simp only [ncast] at *)
  · have hlt : j < ds.length := by subst hM; have h := of_decide_eq_true h; have h : (j : Int) < (rl.length : Int) := h; omega
    clear h
    have hst := prodL_take hlt
    have hmo := prodL_mono hne (j + 1)
    have g1 := gd j hlt
    obtain ⟨g2, g3⟩ := glen j hlt
    generalize ds.getD j [] = d at g1 g2 g3 hst
    generalize ints d = rd at g1 g2
    have hprod : (n * (rd.length : Int)) = prodL (ds.take (j + 1)) := by rw [hn, g2, ← Int.natCast_mul, ← hst]
    have hbig : n * (rd.length : Int) ≤ 1000000000000 := by
      have h1 : n * (rd.length : Int) ≤ 1000000 * (rd.length : Int) := Int.mul_le_mul_of_nonneg_right (by omega) (Int.natCast_nonneg _)
      omega
    have e1 : M .arith .mul .i64 n (Int.ofNat (M .len rd)) = prodL (ds.take (j + 1)) := by
      subst hM
      show IntKind.i64.wrap (n * (rd.length : Int)) = _
      rw [← hprod]
      exact wrap_i64 (by omega) (by omega)
    have q1 : M .cmp .gtr (M .arith .mul .i64 n (Int.ofNat (M .len rd))) most = decide ((prodL (ds.take (j + 1)) : Int) > most) := by
      rw [e1]; subst hM; rfl
    clear hst hn hprod hbig
    refine .mk _ (Int.natCast_nonneg _) g1 ?_
    by_cases hgt : (prodL (ds.take (j + 1)) : Int) > most
    · have q1 : M .cmp .gtr (M .arith .mul .i64 n (Int.ofNat (M .len rd))) most = true := by rw [q1]; exact decide_eq_true hgt
      have hyf : y = false := by rw [hy, decide_eq_false_iff_not]; omega
      have hr := hr2 hyf
      clear hr1 hr2 hy cloc cprod choldsk hgt
      cbv
      rw [show M .cmp .gtr _ most = _ from q1]
      cbv
      rw [hr, hyf]
      (cbv; repeat' (first | exact True.intro | exact rfl | apply And.intro))
    · have q1 : M .cmp .gtr (M .arith .mul .i64 n (Int.ofNat (M .len rd))) most = false := by rw [q1]; exact decide_eq_false hgt
      have hle : (prodL (ds.take (j + 1)) : Int) ≤ most := by omega
      rw [← e1] at hle
      clear hr1 hr2 hy cloc cprod choldsk
      cbv
      rw [show M .cmp .gtr _ most = _ from q1]
      cbv
      refine ⟨⟨j + 1, _⟩, ⟨hlt, e1, hle⟩, ?_, by (cbv; repeat' (first | exact True.intro | exact rfl | apply And.intro)) <;> (subst hM; rw [succ_i64 (by omega)])⟩
      simp only; omega
  · have hj2 : j = ds.length := by subst hM; have h := of_decide_eq_false h; have h : ¬ (j : Int) < (rl.length : Int) := h; omega
    subst hj2
    clear h
    rw [List.take_length] at hn
    have hyt : y = true := by rw [hy, decide_eq_true_iff]; omega
    have hr := hr1 hyt
    have hmn : prodL ds ≤ 1000000 := by omega
    have cprod := cprod (by omega)
    have rlen : (rs.length : Int) = prodL ds := by rw [hrs]; simp [rowsS]
    clear hr1 hr2 hy gd glen
    refine .mk _ (use_call hC cloc) ?_
    cbv
    refine .mk _ (use_call hC cprod) ?_
    cbv
    refine Loop.over (Nat × List (List PV)) (fun q => [(.t 13, I q.1), (.t 12, .own 2 0), (.a 2, .arr 0 25 1 q.2), (.i 2, .inf true 0)]) 3 (fun q => prodL ds - q.1) (fun q => q.1 ≤ prodL ds ∧ q.2 = rowsOf (((List.range q.1).map (rowK ds)).filter (solB c))) (0, []) ⟨Nat.zero_le _, rfl⟩ (by (cbv; repeat' (first | exact True.intro | exact rfl | apply And.intro))) ?_
    rintro ⟨j, q⟩ ⟨hj, hq⟩
    simp only at hj hq
    cbv
    split <;> rename_i h <;> (try simp only [h]) <;> (try cbv) <;> (try simp only [ncast] at *)
    · have hlt : j < prodL ds := by subst hM; have h := of_decide_eq_true h; have h : (j : Int) < (rs.length : Int) := h; omega
      clear h
      obtain ⟨ru, hru⟩ : ∃ ru, ru = ints (rowK ds j) := ⟨_, rfl⟩
      have gi : rs[(Int.ofNat j).toNat]? = some [.list 1 ru] := by
        rw [hrs, show (Int.ofNat j).toNat = j from rfl, rowsOf_get, hru]
        simp [rowsS, hlt]
      have hql : q.length ≤ j := by
        rw [hq, rowsOf_len]
        refine Nat.le_trans (List.length_filter_le _ _) (by simp)
      have few : (M .app q [[.list 1 ru]]).length ≤ 2147483648 := by subst hM; rw [real_app, List.length_append]; simp; omega
      have step : ∀ b : Bool, b = solB c (rowK ds j) → (b = true → M .app q [[.list 1 ru]] = rowsOf (((List.range (j + 1)).map (rowK ds)).filter (solB c))) ∧ (b = false → q = rowsOf (((List.range (j + 1)).map (rowK ds)).filter (solB c))) := fun b hb => by
        rw [range_map_succ, List.filter_append]
        constructor
        · intro h
          subst hM
          rw [hb] at h
          rw [real_app, hq, hru]
          simp [h, rowsOf]
        · intro h
          rw [hb] at h
          rw [hq]
          simp [h]
      have ch := choldsk j ru hru _ rfl
      refine .mk _ (Int.natCast_nonneg _) gi ?_
      cbv
      refine callB hC ch fun b hb => ?_
      obtain ⟨s1, s2⟩ := step b hb
      clear step hq ch hb hru choldsk
      cbv
      cases b
      · have s2 := s2 rfl
        cbv
        refine ⟨⟨j + 1, q⟩, ⟨hlt, s2⟩, ?_, by (cbv; repeat' (first | exact True.intro | exact rfl | apply And.intro)) <;> (subst hM; rw [succ_i64 (by omega)])⟩
        simp only; omega
      · have s1 := s1 rfl
        cbv
        refine .mk _ (Int.natCast_nonneg _) gi ?_
        cbv
        refine .mk few ?_
        cbv
        refine ⟨⟨j + 1, _⟩, ⟨hlt, s1⟩, ?_, by (cbv; repeat' (first | exact True.intro | exact rfl | apply And.intro)) <;> (subst hM; rw [succ_i64 (by omega)])⟩
        simp only; omega
    · have hj2 : j = prodL ds := by subst hM; have h := of_decide_eq_false h; have h : ¬ (j : Int) < (rs.length : Int) := h; omega
      subst hj2
      have hq : q = r := by rw [hq, hr]; rfl
      rw [hyt, hq]
      (cbv; repeat' (first | exact True.intro | exact rfl | apply And.intro))


/-- The values that are in a solution. -/
theorem c_exact (c : Con) {vars : Int} (R : RightOK c vars) (kind K : Int) (rA rB rC rD rE rR : List (List PV)) (H : ConR c kind rA rB rC rD rE K rR) (rl : List (List PV)) (ds : List (List Int)) (hl : rl = rowsOf ds) (hne : ∀ d ∈ ds, d ≠ []) (hb : ∀ d ∈ ds, ∀ v ∈ d, -1000000 ≤ v ∧ v ≤ 1000000) (hds : ds.length = c.A.length + c.B.length) (hdl : ∀ d ∈ ds, d.length ≤ 1000000)
    (most : Int) (hm : 1 ≤ most ∧ most ≤ 1000000) (hp : (prodL ds : Int) ≤ most) (y : Bool) (hy : y = decide (solsS c ds ≠ [])) (r : List (List PV)) (hr1 : y = true → r = rowsOf (leftL ds (inB (solsS c ds)))) (hr2 : y = false → r = []) :
    Call .plain 54 [.agg [I kind, .list 1 rA, .list 1 rB, .list 1 rC, .list 1 rD, .list 1 rE, I K, .list 1 rR], .list 1 rl, I most] (.tup [.list 1 r, B y]) := by
  obtain ⟨rs, hrs⟩ : ∃ rs, rs = rowsOf (solsS c ds) := ⟨_, rfl⟩
  have csol := c_solutions c R kind K rA rB rC rD rE rR H rl ds hl hne hb hds hdl most hm true (by rw [eq_comm, decide_eq_true_iff]; exact hp) rs (fun _ => hrs) (fun h => by cases h)
  have ln := R.lens
  have lA1 := ln.A
  have lB1 := ln.B
  have dlen : (rl.length : Int) = ds.length := by rw [hl]; simp
  have d1000 : ds.length ≤ 1000 := by omega
  have hsl : (solsS c ds).length ≤ 1000000 := by
    have h1 : (solsS c ds).length ≤ (rowsS ds).length := List.length_filter_le _ _
    have h2 : (rowsS ds).length = prodL ds := by simp [rowsS]
    omega
  have hrow : ∀ r ∈ solsS c ds, r.length = ds.length := fun r hr => inD_len ((mem_solsS hne).1 hr).1
  generalize solsS c ds = S at hrs hy hr1 hsl hrow
  have slen : (rs.length : Int) = S.length := by rw [hrs]; simp
  clear H R ln hb hp
  refine call_of Proofs.Tryz.func54 Proofs.Tryz.call54 rfl rfl fun M C hM hC => ?_
  cbv
  refine .mk _ (use_call hC csol) ?_
  cbv
  refine Loop.over (Nat × List (List PV)) (fun q => [(.t 11, I q.1), (.t 10, .own 1 0), (.a 1, .arr 0 25 1 q.2), (.i 1, .inf true 0)]) 2 (fun q => ds.length - q.1) (fun q => q.1 ≤ ds.length ∧ q.2 = rowsOf ((List.range q.1).map fun i => (ds.getD i []).filter (inB S i))) (0, []) ⟨Nat.zero_le _, rfl⟩ (by (cbv; repeat' (first | exact True.intro | exact rfl | apply And.intro))) ?_
  rintro ⟨i, q⟩ ⟨hi, hq⟩
  simp only at hi hq
  cbv
  split <;> rename_i h <;> (try simp only [h]) <;> (try cbv) <;> (try simp only [ncast] at *)
  · have hlt : i < ds.length := by subst hM; have h := of_decide_eq_true h; have h : (i : Int) < (rl.length : Int) := h; omega
    clear h
    obtain ⟨d, hd⟩ : ∃ d, d = ds.getD i [] := ⟨_, rfl⟩
    obtain ⟨rd, hrd⟩ : ∃ rd, rd = ints d := ⟨_, rfl⟩
    have dl : d.length ≤ 1000000 := by rw [hd]; exact hdl _ (getD_mem [] hlt)
    have gi : rl[(Int.ofNat i).toNat]? = some [.list 1 rd] := by
      rw [hl, show (Int.ofNat i).toNat = i from rfl, rowsOf_get, hrd, hd]
      simp [List.getD_eq_getElem?_getD, hlt]
    have hnext : ∀ l, l = ints (d.filter (inB S i)) → M .app q [[.list 1 l]] = rowsOf ((List.range (i + 1)).map fun i => (ds.getD i []).filter (inB S i)) := fun l hl => by
      subst hM
      rw [real_app, hq, range_map_succ, hl, hd]
      simp [rowsOf]
    have fewq : ∀ l : List (List PV), (M .app q [[.list 1 l]]).length ≤ 2147483648 := fun l => by subst hM; rw [real_app, List.length_append, hq]; simp; omega
    clear hq hd
    refine Loop.over (Nat × List (List PV)) (fun q => [(.t 13, I q.1), (.t 12, .own 2 0), (.a 2, .arr 0 3 1 q.2), (.i 2, .inf true 0), (.t 14, .junk), (.t 15, .junk)]) 3 (fun q => d.length - q.1) (fun q => q.1 ≤ d.length ∧ q.2 = ints ((d.take q.1).filter (inB S i))) (0, []) ⟨Nat.zero_le _, rfl⟩ (by (cbv; repeat' (first | exact True.intro | exact rfl | apply And.intro))) ?_
    rintro ⟨k, p⟩ ⟨hk, hp⟩
    simp only at hk hp
    cbv
    refine .mk _ (Int.natCast_nonneg _) gi ?_
    cbv
    split <;> rename_i h <;> (try simp only [h]) <;> (try cbv) <;> (try simp only [ncast] at *)
    · have hlt2 : k < d.length := by subst hM; simpa [hrd] using h
      clear h
      obtain ⟨v, hv⟩ : ∃ v, v = d.getD k 0 := ⟨_, rfl⟩
      have gk : rd[(Int.ofNat k).toNat]? = some [I v] := by
        rw [hrd, show (Int.ofNat k).toNat = k from rfl, ints_get, hv]
        simp [List.getD_eq_getElem?_getD, hlt2]
      have hpl : p.length ≤ k := by
        rw [hp, ints_len]
        refine Nat.le_trans (List.length_filter_le _ _) (by rw [List.length_take]; omega)
      have few : (M .app p [[I v]]).length ≤ 2147483648 := by subst hM; rw [real_app, List.length_append]; simp; omega
      have step : ∀ b : Bool, b = inB S i v → (b = true → M .app p [[I v]] = ints ((d.take (k + 1)).filter (inB S i))) ∧ (b = false → p = ints ((d.take (k + 1)).filter (inB S i))) := fun b hb => by
        rw [take_succ_getD 0 hlt2, List.filter_append, ← hv]
        constructor
        · intro h
          subst hM
          rw [hb] at h
          rw [real_app, hp]
          simp [h, ints]
        · intro h
          rw [hb] at h
          rw [hp]
          simp [h]
      clear hp hv
      refine Loop.over (Nat × Bool) (fun q => [(.t 15, I q.1), (.t 14, B q.2)]) 3 (fun q => S.length - q.1) (fun q => q.1 ≤ S.length ∧ q.2 = inB (S.take q.1) i v) (0, false) ⟨Nat.zero_le _, rfl⟩ (by (cbv; repeat' (first | exact True.intro | exact rfl | apply And.intro))) ?_
      rintro ⟨s, b⟩ ⟨hs, hb⟩
      simp only at hs hb
      cbv
      split <;> rename_i h <;> (try simp only [h]) <;> (try cbv) <;> (try simp only [ncast] at *)
      · have hlt3 : s < S.length := by subst hM; have h := of_decide_eq_true h; have h : (s : Int) < (rs.length : Int) := h; omega
        clear h
        obtain ⟨row, hrow'⟩ : ∃ row, row = S.getD s [] := ⟨_, rfl⟩
        have rowl : row.length = ds.length := by rw [hrow']; exact hrow _ (getD_mem [] hlt3)
        have hbn : inB (S.take (s + 1)) i v = (b || row.getD i 0 == v) := by
          rw [take_succ_getD [] hlt3, hb, ← hrow']
          simp [inB]
        obtain ⟨rr, hrr⟩ : ∃ rr, rr = ints row := ⟨_, rfl⟩
        have gs : rs[(Int.ofNat s).toNat]? = some [.list 1 rr] := by
          rw [hrs, show (Int.ofNat s).toNat = s from rfl, rowsOf_get, hrr, hrow']
          simp [List.getD_eq_getElem?_getD, hlt3]
        obtain ⟨u, hu⟩ : ∃ u, u = row.getD i 0 := ⟨_, rfl⟩
        have gu : rr[(Int.ofNat i).toNat]? = some [I u] := by
          rw [hrr, show (Int.ofNat i).toNat = i from rfl, ints_get, hu]
          have : i < row.length := by omega
          simp [List.getD_eq_getElem?_getD, this]
        rw [← hu] at hbn
        clear hrow' hrr hu hb
        cases b
        · cbv
          refine .mk _ (Int.natCast_nonneg _) gs ?_
          cbv
          refine .mk _ (Int.natCast_nonneg _) gu ?_
          cbv
          refine .mk _ (Int.natCast_nonneg _) gi ?_
          cbv
          refine .mk _ (Int.natCast_nonneg _) gk ?_
          cbv
          refine ⟨⟨s + 1, _⟩, ⟨hlt3, ?_⟩, ?_, by (cbv; repeat' (first | exact True.intro | exact rfl | apply And.intro)) <;> (subst hM; rw [succ_i64 (by omega)])⟩
          · rw [hbn]; subst hM; rfl
          · simp only; omega
        · cbv
          refine ⟨⟨s + 1, true⟩, ⟨hlt3, by rw [hbn]; rfl⟩, ?_, by (cbv; repeat' (first | exact True.intro | exact rfl | apply And.intro)) <;> (subst hM; rw [succ_i64 (by omega)])⟩
          simp only; omega
      · have hs2 : s = S.length := by subst hM; have h := of_decide_eq_false h; have h : ¬ (s : Int) < (rs.length : Int) := h; omega
        subst hs2
        rw [List.take_length] at hb
        obtain ⟨s1, s2⟩ := step b hb
        clear step h
        cases b
        · have s2 := s2 rfl
          cbv
          refine ⟨⟨k + 1, p⟩, ⟨hlt2, s2⟩, ?_, by (cbv; repeat' (first | exact True.intro | exact rfl | apply And.intro)) <;> (subst hM; rw [succ_i64 (by omega)])⟩
          simp only; omega
        · have s1 := s1 rfl
          cbv
          refine .mk _ (Int.natCast_nonneg _) gi ?_
          cbv
          refine .mk _ (Int.natCast_nonneg _) gk ?_
          cbv
          refine .mk few ?_
          cbv
          refine ⟨⟨k + 1, _⟩, ⟨hlt2, s1⟩, ?_, by (cbv; repeat' (first | exact True.intro | exact rfl | apply And.intro)) <;> (subst hM; rw [succ_i64 (by omega)])⟩
          simp only; omega
    · have hk2 : k = d.length := by subst hM; simp [hrd] at h; omega
      subst hk2
      rw [List.take_length] at hp
      have hnx := hnext p hp
      clear hnext hp h
      refine .mk (fewq _) ?_
      cbv
      refine ⟨⟨i + 1, _⟩, ⟨hlt, hnx⟩, ?_, by (cbv; repeat' (first | exact True.intro | exact rfl | apply And.intro)) <;> (subst hM; rw [succ_i64 (by omega)])⟩
      simp only; omega
  · have hi2 : i = ds.length := by subst hM; have h := of_decide_eq_false h; have h : ¬ (i : Int) < (rl.length : Int) := h; omega
    subst hi2
    clear h
    have q1 : M .cmp .eql (Int.ofNat (M .len rs)) 0 = !y := by
      subst hM
      show ((rs.length : Int) == 0) = _
      rw [slen, hy, Bool.eq_iff_iff]
      simp
    cases y
    · have q1 : M .cmp .eql (Int.ofNat (M .len rs)) 0 = true := q1
      rw [show M .cmp .eql _ 0 = _ from q1]
      cbv
      rw [hr2 rfl]
      (cbv; repeat' (first | exact True.intro | exact rfl | apply And.intro))
    · have q1 : M .cmp .eql (Int.ofNat (M .len rs)) 0 = false := q1
      have hq : q = r := by rw [hq, hr1 rfl]; rfl
      rw [show M .cmp .eql _ 0 = _ from q1]
      cbv
      rw [hq]
      (cbv; repeat' (first | exact True.intro | exact rfl | apply And.intro))
end Go.Pi
