/- jigsawlaw21.LexiLong: of long rows that begin alike, the first place at which they can be unlike decides. -/
import Derived.Test.YtlgoiaembdlemaaGreatDoorLx4
import Derived.Test.YtlgoiaembdlemaaGreatDoorMSl1ToSt1
import Derived.Test.YtlgoiaembdlemaaGreatDoorPig
set_option linter.unusedSimpArgs false
set_option linter.unusedVariables false
namespace Go.Pi
open Go
set_option linter.unusedVariables false
set_option linter.unusedSimpArgs false

theorem c_cloneR (xs : List (List PV)) (h64 : xs.length ≤ 2147483648) : Call .fresh 57 [.list 1 xs] (.arr 0 25 1 xs) := by
  refine fresh_of Proofs.Tryz.func57 Proofs.Tryz.call57 rfl rfl fun M C hM hC => ?_
  cbv
  refine .mk fun b hb => ?_
  cases b
  · cbv
    refine .mk (by subst hM; exact h64) ?_
    cbv
    subst hM; rfl
  · have hx : xs = [] := by
      cases xs with
      | nil => rfl
      | cons x r => exact absurd (hb (by simp)) (by simp)
    cbv
    exact hx

theorem c_rising (ra : List (List PV)) (la : List Int) (hla : ra = i8s la) (h64 : la.length ≤ 9223372036854775807) (hb : ∀ v ∈ la, -128 ≤ v ∧ v ≤ 127) (r : List (List PV)) (hr : r = ints (risingS (if la = [] then [3] else la.take 5))) :
    Call .plain 56 [.list 1 ra] (.list 1 r) := by
  have s1 := c_sort [3] (by decide)
  have s2 := c_sort (la.take 5) (by simp; omega)
  have t1 := c_compact (sortS [3]) (by rw [sortS_len]; decide)
  have t2 := c_compact (sortS (la.take 5)) (by rw [sortS_len]; simp; omega)
  have r1 : la = [] → ints (Lib.compact (sortS [3])) = r := fun h => by rw [hr, if_pos h]; rfl
  have r2 : la ≠ [] → ints (Lib.compact (sortS (la.take 5))) = r := fun h => by rw [hr, if_neg h]; rfl
  generalize ints (Lib.compact (sortS [3])) = w1 at t1 r1
  generalize ints (sortS [3]) = v1 at s1 t1
  generalize ints (Lib.compact (sortS (la.take 5))) = w2 at t2 r2
  generalize ints (sortS (la.take 5)) = v2 at s2 t2
  have lra : ra.length = la.length := by rw [hla]; simp [i8s]
  clear hr
  refine call_of Proofs.Tryz.func56 Proofs.Tryz.call56 rfl rfl fun M C hM hC => ?_
  cbv
  split <;> rename_i h <;> (try simp only [h]) <;> (try cbv) <;> (try simp only [ncast] at *)
  · have hne : la ≠ [] := by
      subst hM
      have h := of_decide_eq_true h
      have h : (0 : Int) < (ra.length : Int) := h
      intro e; rw [e] at lra; simp at lra; rw [lra] at h; simp at h
    clear h
    obtain ⟨rs, hrs⟩ : ∃ rs, rs = i8s (la.take 5) := ⟨_, rfl⟩
    have mn : M .mn (Int.ofNat (M .len ra)) 5 = ((min ra.length 5 : Nat) : Int) := by
      subst hM
      rw [real_mn]
      show (if (5 : Int) < (ra.length : Int) then 5 else (ra.length : Int)) = _
      split <;> omega
    have e1 : M .sub ra 0 (M .mn (Int.ofNat (M .len ra)) 5) = rs := by
      rw [mn]
      subst hM
      show ((ra.drop 0).take (((min ra.length 5 : Nat) : Int) - 0).toNat) = rs
      rw [hrs, hla, List.drop_zero]
      have : (((min (i8s la).length 5 : Nat) : Int) - 0).toNat = min la.length 5 := by simp [i8s]
      rw [this]
      simp only [i8s, ← List.map_take]
      congr 1
      rw [List.take_eq_take_iff]; omega
    have b1 : 0 ≤ M .mn (Int.ofNat (M .len ra)) 5 := by rw [mn]; omega
    have b2 : M .mn (Int.ofNat (M .len ra)) 5 ≤ Int.ofNat (M .len ra) := by rw [mn]; subst hM; show _ ≤ (ra.length : Int); omega
    have l5 : (la.take 5).length ≤ 5 := by simp; omega
    refine .mk b1 (.mk b2 ?_)
    rw [show M .sub ra 0 _ = _ from e1]
    cbv
    refine Loop.over (Nat × List (List PV)) (fun q => [(.t 16, I q.1), (.t 3, .own 1 0), (.a 1, .arr 0 3 1 q.2), (.i 1, .inf true 0)]) 2 (fun q => (la.take 5).length - q.1) (fun q => q.1 ≤ (la.take 5).length ∧ q.2 = ints ((la.take 5).take q.1)) (0, []) ⟨Nat.zero_le _, rfl⟩ (by (cbv; repeat' (first | exact True.intro | exact rfl | apply And.intro))) ?_
    rintro ⟨j, q⟩ ⟨hj, hq⟩
    simp only at hj hq
    cbv
    split <;> rename_i h <;> (try simp only [h]) <;> (try cbv) <;> (try simp only [ncast] at *)
    · have hlt : j < (la.take 5).length := by subst hM; have h := of_decide_eq_true h; have h : (j : Int) < (rs.length : Int) := h; rw [hrs] at h; simp [i8s] at h; simp; omega
      clear h
      refine nidx_i8s hrs hlt fun v hv => ?_
      have e2 : M .conv .i64 v = v := by
        have := hb v (List.mem_of_mem_take (by rw [hv]; exact getD_mem 0 hlt))
        subst hM; exact wrap_i64 (by omega) (by omega)
      have step : M .app q [[I v]] = ints ((la.take 5).take (j + 1)) := by
        subst hM
        rw [real_app, hq, take_succ_getD 0 hlt, ← hv]
        simp [ints]
      have few : (M .app q [[I v]]).length ≤ 2147483648 := by rw [step, ints_len, List.length_take, List.length_take]; omega
      cbv
      rw [show M .conv .i64 v = _ from e2]
      refine .mk few ?_
      cbv
      refine ⟨⟨j + 1, _⟩, ⟨hlt, step⟩, ?_, by (cbv; repeat' (first | exact True.intro | exact rfl | apply And.intro)) <;> (subst hM; rw [succ_i64 (by omega)])⟩
      simp only; omega
    · have hj2 : j = (la.take 5).length := by subst hM; have h := of_decide_eq_false h; have h : ¬ (j : Int) < (rs.length : Int) := h; rw [hrs] at h; simp [i8s] at h; simp at hj ⊢; omega
      rw [hj2, List.take_length] at hq
      subst hq
      refine .inr (.val _ _ (use_call hC s2) ?_)
      cbv
      refine .inr (.back _ (use_call hC t2) ?_)
      cbv
      exact ⟨r2 hne, trivial⟩
  · have hne : la = [] := by
      subst hM
      have h := of_decide_eq_false h
      have h : ¬ (0 : Int) < (ra.length : Int) := h
      exact List.length_eq_zero_iff.1 (by omega)
    refine .inr (.val _ _ (use_call hC s1) ?_)
    cbv
    refine .inr (.back _ (use_call hC t1) ?_)
    cbv
    exact ⟨r1 hne, trivial⟩

/-- Two rows of so many variables. -/
def longC (k : Nat) : Con := ⟨22, (List.range k).map fun i : Nat => (i : Int), (List.range k).map fun i : Nat => (k : Int) + (i : Int), [], [], [], 0, []⟩
theorem long_right1 : ∀ n, n < 30 → mcountedS 22 ((n + 1 : Nat) : Int) ((n + 1 : Nat) : Int) 0 0 0 0 (bs (shapeS 22)) = true := by decide +kernel
theorem longC_right {k : Nat} (h1 : 1 ≤ k) (h2 : k ≤ 30) : RightOK (longC k) 256 := by
  have e := long_right1 (k - 1) (by omega)
  rw [show k - 1 + 1 = k by omega] at e
  refine ⟨by simp [longC], ?_, by simp [longC, alikeS], fun h => absurd rfl h, fun v hv => ?_, fun v hv => ?_, by simp [longC, numbersS, boundedS, leastK], by simp [longC, countsS]⟩
  · simpa [longC] using e
  · obtain ⟨i, hi, rfl⟩ := List.mem_map.1 hv
    have := List.mem_range.1 hi
    omega
  · obtain ⟨i, hi, rfl⟩ := List.mem_map.1 hv
    have := List.mem_range.1 hi
    omega

set_option maxHeartbeats 2000000 in
theorem long21 (tN tA : Int) (rx ry ra rb : List (List PV)) (k j : Nat) (hk1 : 1 ≤ k) (hk2 : k ≤ 30) (hj : j < k) (a b : List Int) (hra : ra = ints a) (hrb : rb = ints b) (na : a ≠ []) (nb : b ≠ []) (la5 : a.length ≤ 5) (lb5 : b.length ≤ 5)
    (hkn : 1 + tN.tmod 30 = k) (hN : 0 ≤ tN ∧ tN ≤ 255) (hA : 0 ≤ tA ∧ tA ≤ 255) (hjn : tA.tmod k = j) (cx : Call .plain 56 [.list 1 rx] (.list 1 ra)) (cy : Call .plain 56 [.list 1 ry] (.list 1 rb))
    (rA rB rl : List (List PV)) (hrA : rA = ints ((List.range k).map fun i : Nat => (i : Int))) (hrB : rB = ints ((List.range k).map fun i : Nat => (k : Int) + (i : Int))) (hrl : rl = rowsOf (longA k j a ++ longA k j b))
    (rows : List (List PV)) (cd : Call .plain 50 [.list 1 rl] (.list 5 rows)) (y : Bool) (rows' : List (List PV)) (cf : Call .plain 49 [.agg [I 22, .list 1 rA, .list 1 rB, .list 1 [], .list 1 [], .list 1 [], I 0, .list 1 []], .list 5 rows] (.tup [.list 5 rows', B y]))
    (e : List (List Int)) (De : y = true → DomsR rows' e) (he : y = true → e.length = 2 * k) (hp : y = true → e.getD j [] = pS a b) (hq : y = true → e.getD (k + j) [] = qS a b) (hno : (decide (pS a b = []) || decide (qS a b = [])) = !y) :
    Call .plain 14 [.agg [U8 tN, U8 tA, .list 1 rx, .list 1 ry]] (B true) := by
  have cw := c_wakes21
  refine call_of Proofs.Tryz.func14 Proofs.Tryz.call14 rfl rfl fun M C hM hC => ?_
  have nt : M .not true = false := by subst hM; rfl
  have nf : M .not false = true := by subst hM; rfl
  have e1 : M .arith .add .i64 1 (M .conv .i64 (M .arith .rem .u8 tN 30)) = k := by
    subst hM
    have h3 := tmod_le tN (b := 30) (by decide)
    have h4 : 0 ≤ tN.tmod 30 := Int.tmod_nonneg _ hN.1
    rw [real_add, real_conv]
    show IntKind.i64.wrap (1 + IntKind.i64.wrap (tN.tmod 30)) = _
    rw [wrap_i64 (x := tN.tmod 30) (by omega) (by omega), wrap_i64 (by omega) (by omega)]
    exact hkn
  have e2 : M .arith .rem .i64 (M .conv .i64 tA) k = j := by
    subst hM
    rw [real_conv]
    show (IntKind.i64.wrap tA).tmod k = _
    rw [wrap_i64 (by omega) (by omega)]
    exact hjn
  cbv
  refine .mk (by decide) ?_
  cbv
  rw [show M .arith .add .i64 1 _ = _ from e1]
  refine .mk (by simp; omega) ?_
  cbv
  rw [show M .arith .rem .i64 _ (k : Int) = _ from e2]
  refine .mk _ (use_call hC cx) ?_
  cbv
  refine .mk _ (use_call hC cy) ?_
  cbv
  refine Loop.over (Nat × List (List PV) × List (List PV) × List (List PV) × List (List PV)) (fun q => [(.t 39, I q.1), (.c 1 1, .own 2 0), (.a 2, .arr 0 3 1 q.2.1), (.i 2, .inf true 0), (.c 1 2, .own 3 0), (.a 3, .arr 0 3 1 q.2.2.1), (.i 3, .inf true 0), (.t 8, .own 4 0), (.a 4, .arr 0 25 1 q.2.2.2.1), (.i 4, .inf true 0), (.t 9, .own 5 0), (.a 5, .arr 0 25 1 q.2.2.2.2), (.i 5, .inf true 0)]) 6 (fun q => k - q.1)
    (fun q => q.1 ≤ k ∧ q.2.1 = ints ((List.range q.1).map fun i : Nat => (i : Int)) ∧ q.2.2.1 = ints ((List.range q.1).map fun i : Nat => (k : Int) + (i : Int)) ∧ q.2.2.2.1 = rowsOf (longA q.1 j a) ∧ q.2.2.2.2 = rowsOf (longA q.1 j b)) (0, [], [], [], []) ⟨Nat.zero_le _, rfl, rfl, rfl, rfl⟩ (by (cbv; repeat' (first | exact True.intro | exact rfl | apply And.intro))) ?_
  rintro ⟨i, qA, qB, q1, q2⟩ ⟨hi, hqA, hqB, hq1, hq2⟩
  simp only at hi hqA hqB hq1 hq2
  cbv
  split <;> rename_i h <;> (try simp only [h]) <;> (try cbv) <;> (try simp only [ncast] at *)
  · have hlt : i < k := by subst hM; have h := of_decide_eq_true h; exact Int.ofNat_lt.1 h
    clear h
    obtain ⟨u, hu⟩ : ∃ u : Int, u = (k : Int) + (i : Int) := ⟨_, rfl⟩
    have e3 : M .arith .add .i64 k (Int.ofNat i) = u := by subst hM; rw [real_add, wrap_i64 (by simp; omega) (by simp; omega), hu]; rfl
    have sA : M .app qA [[I (Int.ofNat i)]] = ints ((List.range (i + 1)).map fun i : Nat => (i : Int)) := by subst hM; rw [real_app, hqA, range_map_succ]; simp [ints]
    have sB : M .app qB [[I u]] = ints ((List.range (i + 1)).map fun i : Nat => (k : Int) + (i : Int)) := by subst hM; rw [real_app, hqB, range_map_succ, ← hu]; simp [ints]
    have fA : (M .app qA [[I (Int.ofNat i)]]).length ≤ 2147483648 := by rw [sA]; simp; omega
    have fB : (M .app qB [[I u]]).length ≤ 2147483648 := by rw [sB]; simp; omega
    have s1 : ∀ r, r = ints (if i < j then [(i : Int)] else if i = j then a else [0, 1]) → M .app q1 [[.list 1 r]] = rowsOf (longA (i + 1) j a) ∧ (M .app q1 [[.list 1 r]]).length ≤ 2147483648 := fun r hr => by
      have : M .app q1 [[.list 1 r]] = rowsOf (longA (i + 1) j a) := by subst hM; rw [real_app, hq1, longA_succ, hr]; simp [rowsOf]
      refine ⟨this, ?_⟩
      rw [this, rowsOf_len, longA_len]; omega
    have s2 : ∀ r, r = ints (if i < j then [(i : Int)] else if i = j then b else [0, 1]) → M .app q2 [[.list 1 r]] = rowsOf (longA (i + 1) j b) ∧ (M .app q2 [[.list 1 r]]).length ≤ 2147483648 := fun r hr => by
      have : M .app q2 [[.list 1 r]] = rowsOf (longA (i + 1) j b) := by subst hM; rw [real_app, hq2, longA_succ, hr]; simp [rowsOf]
      refine ⟨this, ?_⟩
      rw [this, rowsOf_len, longA_len]; omega
    clear hqA hqB hq1 hq2
    refine .mk fA ?_
    cbv
    rw [show M .arith .add .i64 (Int.ofNat k) (Int.ofNat i) = _ from e3]
    refine .mk fB ?_
    cbv
    split <;> rename_i h <;> (try simp only [h]) <;> (try cbv) <;> (try simp only [ncast] at *)
    · have hlt2 : i < j := by subst hM; have h := of_decide_eq_true h; exact Int.ofNat_lt.1 h
      clear h
      obtain ⟨p1, p2⟩ := s1 [[I (Int.ofNat i)]] (by rw [if_pos hlt2]; rfl)
      obtain ⟨p3, p4⟩ := s2 [[I (Int.ofNat i)]] (by rw [if_pos hlt2]; rfl)
      refine .mk p2 ?_
      cbv
      refine .mk p4 ?_
      cbv
      refine ⟨⟨i + 1, _, _, _, _⟩, ⟨hlt, sA, sB, p1, p3⟩, ?_, by (cbv; repeat' (first | exact True.intro | exact rfl | apply And.intro)) <;> (subst hM; rw [succ_i64 (by omega)])⟩
      simp only; omega
    · have hlt2 : ¬ i < j := by subst hM; have h := of_decide_eq_false h; exact fun h2 => h (Int.ofNat_lt.2 h2)
      clear h
      split <;> rename_i h <;> (try simp only [h]) <;> (try cbv) <;> (try simp only [ncast] at *)
      · have hij : i = j := by subst hM; have h := of_decide_eq_true h; exact Int.ofNat.inj h
        clear h
        obtain ⟨p1, p2⟩ := s1 ra (by rw [if_neg hlt2, if_pos hij]; exact hra)
        obtain ⟨p3, p4⟩ := s2 rb (by rw [if_neg hlt2, if_pos hij]; exact hrb)
        refine .mk p2 ?_
        cbv
        refine .mk p4 ?_
        cbv
        refine ⟨⟨i + 1, _, _, _, _⟩, ⟨hlt, sA, sB, p1, p3⟩, ?_, by (cbv; repeat' (first | exact True.intro | exact rfl | apply And.intro)) <;> (subst hM; rw [succ_i64 (by omega)])⟩
        simp only; omega
      · have hij : ¬ i = j := by subst hM; have h := of_decide_eq_false h; exact fun h2 => h (by rw [h2])
        clear h
        obtain ⟨p1, p2⟩ := s1 [[I 0], [I 1]] (by rw [if_neg hlt2, if_neg hij]; rfl)
        obtain ⟨p3, p4⟩ := s2 [[I 0], [I 1]] (by rw [if_neg hlt2, if_neg hij]; rfl)
        refine .mk p2 ?_
        cbv
        refine .mk p4 ?_
        cbv
        refine ⟨⟨i + 1, _, _, _, _⟩, ⟨hlt, sA, sB, p1, p3⟩, ?_, by (cbv; repeat' (first | exact True.intro | exact rfl | apply And.intro)) <;> (subst hM; rw [succ_i64 (by omega)])⟩
        simp only; omega
  · have hi2 : i = k := by subst hM; have h := of_decide_eq_false h; have h : ¬ (i : Int) < (k : Int) := h; omega
    subst hi2
    clear h
    rw [← hrA] at hqA
    rw [← hrB] at hqB
    have fin : M .app q1 q2 = rl := by subst hM; rw [real_app, hq1, hq2, hrl]; simp [rowsOf]
    have l1 : q1.length ≤ 1000 ∧ (M .app q1 q2).length ≤ 2147483648 := by
      rw [fin, hq1, hrl]; simp [longA_len]; omega
    clear hrA hrB hrl
    subst hqA hqB
    refine .inl (.new _ _ _ (use_call hC (c_cloneR q1 (by omega))) ?_)
    cbv
    refine .mk l1.2 ?_
    rw [show M .app q1 q2 = _ from fin]
    cbv
    refine .inl (.mk _ (use_call hC cd) ?_)
    cbv
    refine .as _ _ ?_ (use_call hC cf) ?_
    · (cbv; repeat' (first | exact True.intro | exact rfl | apply And.intro))
    cbv
    have al := List.length_pos_iff.2 na
    have bl := List.length_pos_iff.2 nb
    have lrb : rb.length = b.length := by rw [hrb, ints_len]
    have e4 : M .arith .sub .i64 (Int.ofNat (M .len rb)) 1 = ((b.length - 1 : Nat) : Int) := by
      subst hM
      rw [real_sub, real_len, lrb, wrap_i64 (by simp; omega) (by simp; omega)]
      simp; omega
    obtain ⟨mo, hmo⟩ : ∃ mo, mo = lastS b := ⟨_, rfl⟩
    obtain ⟨le, hle⟩ : ∃ le, le = headS a := ⟨_, rfl⟩
    have gb : rb[((b.length - 1 : Nat) : Int).toNat]? = some [I mo] := by
      rw [hrb, Int.toNat_natCast, ints_get, hmo, lastS, List.getElem?_eq_getElem (by omega)]
      simp [List.getLastD_eq_getLast?, List.getLast?_eq_getElem?, List.getElem?_eq_getElem (show b.length - 1 < b.length by omega)]
    have ga : ra[(0 : Int).toNat]? = some [I le] := by
      rw [hra, show (0 : Int).toNat = 0 from rfl, ints_get, hle, headS]
      cases a with
      | nil => exact absurd rfl na
      | cons x r => rfl
    obtain ⟨at1, hat⟩ : ∃ u : Int, u = ((b.length - 1 : Nat) : Int) := ⟨_, rfl⟩
    rw [← hat] at e4 gb
    have hat0 : 0 ≤ at1 := by omega
    clear hat
    rw [show M .arith .sub .i64 _ 1 = _ from e4]
    refine .mk _ hat0 gb ?_
    cbv
    refine .mk _ (by decide) ga ?_
    cbv
    obtain ⟨f, hf⟩ : ∃ f : Int → Bool, f = fun v => decide (v ≤ mo) && (decide (v < mo) || b.contains v) := ⟨_, rfl⟩
    obtain ⟨g, hg⟩ : ∃ g : Int → Bool, g = fun v => decide (v > le) || v == le := ⟨_, rfl⟩
    obtain ⟨P, hP⟩ : ∃ P, P = pS a b := ⟨_, rfl⟩
    obtain ⟨Q, hQ⟩ : ∃ Q, Q = qS a b := ⟨_, rfl⟩
    have hPf : a.filter f = P := by rw [hP, pS, hf, hmo]
    have hQg : b.filter g = Q := by rw [hQ, qS, hg, hle]
    have Pl : P.length ≤ 5 := by rw [← hPf]; exact Nat.le_trans (List.length_filter_le _ _) la5
    have Ql : Q.length ≤ 5 := by rw [← hQg]; exact Nat.le_trans (List.length_filter_le _ _) lb5
    rw [← hP] at hp hno
    rw [← hQ] at hq hno
    clear ga gb e4 e1 e2 cx cy cd cf hmo hle hP hQ
    refine Loop.over (Nat × List (List PV)) (fun q => [(.t 112, I q.1), (.t 94, .junk), (.t 15, .own 7 0), (.a 7, .arr 0 3 1 q.2), (.i 7, .inf true 0)]) 8 (fun q => a.length - q.1) (fun q => q.1 ≤ a.length ∧ q.2 = ints ((a.take q.1).filter f)) (0, []) ⟨Nat.zero_le _, rfl⟩ (by (cbv; repeat' (first | exact True.intro | exact rfl | apply And.intro))) ?_
    rintro ⟨t, p⟩ ⟨ht, hpp⟩
    simp only at ht hpp
    cbv
    split <;> rename_i h <;> (try simp only [h]) <;> (try cbv) <;> (try simp only [ncast] at *)
    · have hlt : t < a.length := by subst hM; have h := of_decide_eq_true h; have h : (t : Int) < (ra.length : Int) := h; rw [hra, ints_len] at h; omega
      clear h
      refine nidx_ints hra hlt fun v hv => ?_
      have pl : p.length ≤ t := by
        rw [hpp, ints_len]
        refine Nat.le_trans (List.length_filter_le _ _) (by rw [List.length_take]; omega)
      have few : (M .app p [[I v]]).length ≤ 2147483648 := by subst hM; rw [real_app, List.length_append]; simp; omega
      have st : ∀ z : Bool, z = f v → (z = true → M .app p [[I v]] = ints ((a.take (t + 1)).filter f)) ∧ (z = false → p = ints ((a.take (t + 1)).filter f)) := fun z hz => by
        rw [take_succ_getD 0 hlt, List.filter_append, ← hv]
        constructor
        · intro h
          subst hM
          rw [hz] at h
          rw [real_app, hpp]
          simp [h, ints]
        · intro h
          rw [hz] at h
          rw [hpp]
          simp [h]
      obtain ⟨cv, hcv⟩ : ∃ cv, cv = b.contains v := ⟨_, rfl⟩
      have hfv : f v = (decide (v ≤ mo) && (decide (v < mo) || cv)) := by rw [hf, hcv]
      have q1 : M .cmp .leq v mo = decide (v ≤ mo) := by subst hM; rfl
      have q2 : M .cmp .lss v mo = decide (v < mo) := by subst hM; rfl
      have cc := c_contains rb b v hrb (by omega) cv hcv
      clear hpp hv hcv
      cbv
      by_cases g1 : v ≤ mo
      · rw [decide_eq_true g1] at q1 hfv
        by_cases g2 : v < mo
        · rw [decide_eq_true g2] at q2 hfv
          obtain ⟨t1, -⟩ := st true (by rw [hfv]; rfl)
          rw [show M .cmp .leq v mo = _ from q1]
          cbv
          rw [show M .cmp .lss v mo = _ from q2]
          cbv
          refine .mk few ?_
          cbv
          refine ⟨⟨t + 1, _⟩, ⟨hlt, t1 rfl⟩, ?_, by (cbv; repeat' (first | exact True.intro | exact rfl | apply And.intro)) <;> (subst hM; rw [succ_i64 (by omega)])⟩
          simp only; omega
        · rw [decide_eq_false g2] at q2 hfv
          obtain ⟨t1, t2⟩ := st cv (by rw [hfv]; rfl)
          rw [show M .cmp .leq v mo = _ from q1]
          cbv
          rw [show M .cmp .lss v mo = _ from q2]
          cbv
          refine .mk _ (use_call hC cc) ?_
          cbv
          cases cv with
          | true =>
            cbv
            refine .mk few ?_
            cbv
            refine ⟨⟨t + 1, _⟩, ⟨hlt, t1 rfl⟩, ?_, by (cbv; repeat' (first | exact True.intro | exact rfl | apply And.intro)) <;> (subst hM; rw [succ_i64 (by omega)])⟩
            simp only; omega
          | false =>
            cbv
            refine ⟨⟨t + 1, _⟩, ⟨hlt, t2 rfl⟩, ?_, by (cbv; repeat' (first | exact True.intro | exact rfl | apply And.intro)) <;> (subst hM; rw [succ_i64 (by omega)])⟩
            simp only; omega
      · rw [decide_eq_false g1] at q1 hfv
        obtain ⟨-, t2⟩ := st false (by rw [hfv]; rfl)
        rw [show M .cmp .leq v mo = _ from q1]
        cbv
        refine ⟨⟨t + 1, _⟩, ⟨hlt, t2 rfl⟩, ?_, by (cbv; repeat' (first | exact True.intro | exact rfl | apply And.intro)) <;> (subst hM; rw [succ_i64 (by omega)])⟩
        simp only; omega
    · have ht2 : t = a.length := by subst hM; have h := of_decide_eq_false h; have h : ¬ (t : Int) < (ra.length : Int) := h; rw [hra, ints_len] at h; omega
      subst ht2
      rw [List.take_length, hPf] at hpp
      clear h hPf
      refine Loop.over (Nat × List (List PV)) (fun q => [(.t 136, I q.1), (.t 16, .own 8 0), (.a 8, .arr 0 3 1 q.2), (.i 8, .inf true 0)]) 9 (fun q => b.length - q.1) (fun q => q.1 ≤ b.length ∧ q.2 = ints ((b.take q.1).filter g)) (0, []) ⟨Nat.zero_le _, rfl⟩ (by (cbv; repeat' (first | exact True.intro | exact rfl | apply And.intro))) ?_
      rintro ⟨t, q⟩ ⟨ht, hqq⟩
      simp only at ht hqq
      cbv
      split <;> rename_i h <;> (try simp only [h]) <;> (try cbv) <;> (try simp only [ncast] at *)
      · have hlt : t < b.length := by subst hM; have h := of_decide_eq_true h; have h : (t : Int) < (rb.length : Int) := h; omega
        clear h
        refine nidx_ints hrb hlt fun v hv => ?_
        have pl : q.length ≤ t := by
          rw [hqq, ints_len]
          refine Nat.le_trans (List.length_filter_le _ _) (by rw [List.length_take]; omega)
        have few : (M .app q [[I v]]).length ≤ 2147483648 := by subst hM; rw [real_app, List.length_append]; simp; omega
        have st : ∀ z : Bool, z = g v → (z = true → M .app q [[I v]] = ints ((b.take (t + 1)).filter g)) ∧ (z = false → q = ints ((b.take (t + 1)).filter g)) := fun z hz => by
          rw [take_succ_getD 0 hlt, List.filter_append, ← hv]
          constructor
          · intro h
            subst hM
            rw [hz] at h
            rw [real_app, hqq]
            simp [h, ints]
          · intro h
            rw [hz] at h
            rw [hqq]
            simp [h]
        have hgv : g v = (decide (v > le) || v == le) := by rw [hg]
        have q1 : M .cmp .gtr v le = decide (v > le) := by subst hM; rfl
        have q2 : M .cmp .eql v le = (v == le) := by subst hM; rfl
        clear hqq hv
        cbv
        by_cases g1 : v > le
        · rw [decide_eq_true g1] at q1 hgv
          obtain ⟨t1, -⟩ := st true (by rw [hgv]; rfl)
          rw [show M .cmp .gtr v le = _ from q1]
          cbv
          refine .mk few ?_
          cbv
          refine ⟨⟨t + 1, _⟩, ⟨hlt, t1 rfl⟩, ?_, by (cbv; repeat' (first | exact True.intro | exact rfl | apply And.intro)) <;> (subst hM; rw [succ_i64 (by omega)])⟩
          simp only; omega
        · rw [decide_eq_false g1] at q1 hgv
          obtain ⟨cv, hcv⟩ : ∃ cv, cv = (v == le) := ⟨_, rfl⟩
          rw [← hcv] at q2 hgv
          obtain ⟨t1, t2⟩ := st cv (by rw [hgv]; rfl)
          clear hcv
          rw [show M .cmp .gtr v le = _ from q1]
          cbv
          rw [show M .cmp .eql v le = _ from q2]
          cases cv with
          | true =>
            cbv
            refine .mk few ?_
            cbv
            refine ⟨⟨t + 1, _⟩, ⟨hlt, t1 rfl⟩, ?_, by (cbv; repeat' (first | exact True.intro | exact rfl | apply And.intro)) <;> (subst hM; rw [succ_i64 (by omega)])⟩
            simp only; omega
          | false =>
            cbv
            refine ⟨⟨t + 1, _⟩, ⟨hlt, t2 rfl⟩, ?_, by (cbv; repeat' (first | exact True.intro | exact rfl | apply And.intro)) <;> (subst hM; rw [succ_i64 (by omega)])⟩
            simp only; omega
      · have ht2 : t = b.length := by subst hM; have h := of_decide_eq_false h; have h : ¬ (t : Int) < (rb.length : Int) := h; omega
        subst ht2
        rw [List.take_length, hQg] at hqq
        clear h hQg hra hrb
        have q1 : M .cmp .eql (Int.ofNat (M .len p)) 0 = decide (P = []) := by
          subst hM
          show ((p.length : Int) == 0) = _
          rw [hpp, ints_len, Bool.eq_iff_iff]
          simp
        have q2 : M .cmp .eql (Int.ofNat (M .len q)) 0 = decide (Q = []) := by
          subst hM
          show ((q.length : Int) == 0) = _
          rw [hqq, ints_len, Bool.eq_iff_iff]
          simp
        by_cases g1 : P = []
        · rw [decide_eq_true g1] at q1 hno
          have hyf : y = false := by simpa using hno.symm
          subst hyf
          rw [show M .cmp .eql (Int.ofNat (M .len p)) 0 = _ from q1]
          cbv
          refine .mk _ (use_call hC cw) ?_
          cbv
          simp only [nf]
        · rw [decide_eq_false g1] at q1 hno
          rw [show M .cmp .eql (Int.ofNat (M .len p)) 0 = _ from q1]
          cbv
          by_cases g2 : Q = []
          · rw [decide_eq_true g2] at q2 hno
            have hyf : y = false := by simpa using hno.symm
            subst hyf
            rw [show M .cmp .eql (Int.ofNat (M .len q)) 0 = _ from q2]
            cbv
            refine .mk _ (use_call hC cw) ?_
            cbv
            simp only [nf]
          · rw [decide_eq_false g2] at q2 hno
            have hyt : y = true := by simpa using hno.symm
            subst hyt
            replace De := De rfl
            replace he := he rfl
            replace hp := hp rfl
            replace hq := hq rfl
            rw [show M .cmp .eql (Int.ofNat (M .len q)) 0 = _ from q2]
            cbv
            have q3 : M .cmp .eql (Int.ofNat (M .len rows')) (M .arith .mul .i64 2 (Int.ofNat i)) = true := by
              subst hM
              rw [real_mul, wrap_i64 (by simp; omega) (by simp; omega)]
              show ((rows'.length : Int) == 2 * (i : Int)) = true
              rw [De.len, he]; simp
            have e5 : M .arith .add .i64 (Int.ofNat i) (Int.ofNat j) = Int.ofNat (i + j) := by
              subst hM; rw [real_add, wrap_i64 (by simp; omega) (by simp; omega)]; simp
            refine .mk _ (use_call hC cw) ?_
            cbv
            rw [show M .cmp .eql _ (M .arith .mul .i64 2 _) = _ from q3]
            cbv
            refine nidx_doms De (by omega) fun off ws mn mx sz Dj => ?_
            rw [hp] at Dj
            cbv
            refine .mk _ (use_call hC (c_domList off mn mx sz ws _ Dj p hpp)) ?_
            cbv
            refine .inl (.mk _ (use_call hC (c_equal p p P P hpp hpp (by omega) true (by simp))) ?_)
            cbv
            rw [show M .arith .add .i64 (Int.ofNat i) (Int.ofNat j) = _ from e5]
            refine nidx_doms De (by omega) fun off ws mn mx sz Dj => ?_
            rw [hq] at Dj
            cbv
            refine .mk _ (use_call hC (c_domList off mn mx sz ws _ Dj q hqq)) ?_
            cbv
            refine .inl (.mk _ (use_call hC (c_equal q q Q Q hqq hqq (by omega) true (by simp))) ?_)
            cbv

theorem preL_dom {j : Nat} (hj : j ≤ 30) : ∀ d ∈ preL j, DomL d := fun d hd => by
  obtain ⟨i, hi, rfl⟩ := List.mem_map.1 hd
  have := List.mem_range.1 hi
  refine ⟨List.pairwise_singleton _ _, fun v hv => ?_, fun u hu v hv => ?_⟩
  · rw [List.mem_singleton.1 hv]; omega
  · rw [List.mem_singleton.1 hu, List.mem_singleton.1 hv]; omega
theorem longL_dom {k j : Nat} (hj : j ≤ 30) {a : List Int} (ha : DomL a) : ∀ d ∈ longL k j a, DomL d := fun d hd => by
  unfold longL at hd
  rcases List.mem_append.1 hd with hd | hd
  · exact preL_dom hj d hd
  · rcases List.mem_cons.1 hd with rfl | hd
    · exact ha
    · rw [(List.mem_replicate.1 hd).2]
      exact ⟨by simp [Rising], by simp, by simp⟩
theorem longL_len5 {k j : Nat} {a : List Int} (ha : a.length ≤ 5) : ∀ d ∈ longL k j a, d.length ≤ 5 := fun d hd => by
  unfold longL at hd
  rcases List.mem_append.1 hd with hd | hd
  · obtain ⟨i, _, rfl⟩ := List.mem_map.1 hd
    simp
  · rcases List.mem_cons.1 hd with rfl | hd
    · exact ha
    · rw [(List.mem_replicate.1 hd).2]; simp
/-- What rising makes of small numbers. -/
theorem rising_made (l : List Int) (hb : ∀ v ∈ l, -128 ≤ v ∧ v ≤ 127) : let a := risingS (if l = [] then [3] else l.take 5); Rising a ∧ a ≠ [] ∧ a.length ≤ 5 ∧ DomL a := by
  intro a
  have hne : (if l = [] then [3] else l.take 5) ≠ [] := by
    split
    · simp
    · rename_i h
      cases l with
      | nil => exact absurd rfl h
      | cons x r => simp
  have hb2 : ∀ v ∈ (if l = [] then [3] else l.take 5), -128 ≤ v ∧ v ≤ 127 := by
    split
    · simp
    · exact fun v hv => hb v (List.mem_of_mem_take hv)
  have hl : (if l = [] then [3] else l.take 5).length ≤ 5 := by
    split
    · simp
    · simp; omega
  have hr := risingS_rising (if l = [] then [3] else l.take 5)
  refine ⟨hr, fun e => ?_, Nat.le_trans (risingS_len _) hl, hr, fun v hv => ?_, fun u hu v hv => ?_⟩
  · obtain ⟨x, r, h⟩ := List.exists_cons_of_ne_nil hne
    have : x ∈ a := mem_risingS.2 (by rw [h]; simp)
    rw [e] at this; simp at this
  · have := hb2 v (mem_risingS.1 hv); omega
  · have := hb2 v (mem_risingS.1 hv)
    have := hb2 u (mem_risingS.1 hu)
    omega

set_option maxHeartbeats 1000000 in
theorem c_lexiLong (tN tA : Int) (tX tY : List Int) (g1 : 0 ≤ tN ∧ tN ≤ 255) (g2 : 0 ≤ tA ∧ tA ≤ 255) (g3 : tX.length ≤ 9223372036854775807) (g4 : ∀ v ∈ tX, -128 ≤ v ∧ v ≤ 127) (g5 : tY.length ≤ 9223372036854775807) (g6 : ∀ v ∈ tY, -128 ≤ v ∧ v ≤ 127) :
    Call .plain 14 [.agg [U8 tN, U8 tA, .list 1 (i8s tX), .list 1 (i8s tY)]] (B true) := by
  have m1 := Int.tmod_nonneg 30 g1.1
  have m2 := tmod_le tN (b := 30) (by decide)
  obtain ⟨k, hk⟩ : ∃ k : Nat, (k : Int) = 1 + tN.tmod 30 := ⟨(1 + tN.tmod 30).toNat, by omega⟩
  have m3 := Int.tmod_nonneg (k : Int) g2.1
  have m4 := Int.tmod_lt_of_pos tA (b := (k : Int)) (by omega)
  obtain ⟨j, hj⟩ : ∃ j : Nat, (j : Int) = tA.tmod k := ⟨(tA.tmod k).toNat, by omega⟩
  obtain ⟨a, ha⟩ : ∃ a, a = risingS (if tX = [] then [3] else tX.take 5) := ⟨_, rfl⟩
  obtain ⟨b, hb⟩ : ∃ b, b = risingS (if tY = [] then [3] else tY.take 5) := ⟨_, rfl⟩
  obtain ⟨a1, a2, a3, a4⟩ := rising_made tX g4
  obtain ⟨b1, b2, b3, b4⟩ := rising_made tY g6
  simp only [← ha, ← hb] at a1 a2 a3 a4 b1 b2 b3 b4
  obtain ⟨ra, hra⟩ : ∃ ra, ra = ints a := ⟨_, rfl⟩
  obtain ⟨rb, hrb⟩ : ∃ rb, rb = ints b := ⟨_, rfl⟩
  have cx := c_rising (i8s tX) tX rfl g3 g4 ra (by rw [hra, ha])
  have cy := c_rising (i8s tY) tY rfl g5 g6 rb (by rw [hrb, hb])
  have hjk : j < k := by omega
  obtain ⟨ls, hls⟩ : ∃ ls, ls = longL k j a ++ longL k j b := ⟨_, rfl⟩
  have lla := longL_len hjk a
  have llb := longL_len hjk b
  have lsl : ls.length = 2 * k := by rw [hls, List.length_append]; omega
  have full : Full ls := by rw [hls]; exact long_full a1 b1 a2 b2
  have dom : ∀ d ∈ ls, DomL d := fun d hd => by
    rw [hls] at hd
    rcases List.mem_append.1 hd with hd | hd
    · exact longL_dom (by omega) a4 d hd
    · exact longL_dom (by omega) b4 d hd
  have few : ∀ d ∈ ls, d.length ≤ 5 := fun d hd => by
    rw [hls] at hd
    rcases List.mem_append.1 hd with hd | hd
    · exact longL_len5 a3 d hd
    · exact longL_len5 b3 d hd
  obtain ⟨rA, hrA⟩ : ∃ rA, rA = ints ((List.range k).map fun i : Nat => (i : Int)) := ⟨_, rfl⟩
  obtain ⟨rB, hrB⟩ : ∃ rB, rB = ints ((List.range k).map fun i : Nat => (k : Int) + (i : Int)) := ⟨_, rfl⟩
  obtain ⟨rl, hrl⟩ : ∃ rl, rl = rowsOf ls := ⟨_, rfl⟩
  have R := longC_right (k := k) (by omega) (by omega)
  have H : ConR (longC k) 22 rA rB [] [] [] 0 [] := ⟨rfl, hrA, hrB, rfl, rfl, rfl, rfl, rfl⟩
  have cAl : (longC k).A.length = k := by simp [longC]
  have cBl : (longC k).B.length = k := by simp [longC]
  obtain ⟨rows, D, cd⟩ := c_doms_jigsawlaw21 rl ls hrl (by omega) (fun d hd => by have := few d hd; omega)
  rw [map_ofL dom] at D
  obtain ⟨y, hy⟩ : ∃ y, y = someL (leftL ls (lexP ls k)) := ⟨_, rfl⟩
  have fits : fitsD (longC k) ls 22 22 = true := by
    have h2 := rightS_ok.2 R
    have h4 := someL_iff.2 full.ne
    have hk1 : (longC k).kind = 22 := rfl
    unfold fitsD
    rw [hk1, h2, cAl, cBl, lsl, h4]
    simp; omega
  obtain ⟨rows', f1, f2, cf⟩ := c_lexFilter (longC k) 22 0 rA rB [] [] [] [] H (lim_le (by rw [hrA]; simp; omega)) (lim_le (by rw [hrB]; simp; omega)) lim_nil lim_nil lim_nil lim_nil rows ls D (by omega) dom y (by rw [fits, cAl, ← hy]; rfl)
  rw [cAl] at f1
  refine long21 tN tA (i8s tX) (i8s tY) ra rb k j (by omega) (by omega) hjk a b hra hrb a2 b2 a3 b3 hk.symm g1 g2 hj.symm cx cy rA rB rl hrA hrB (by rw [hrl, hls, longA_is hjk, longA_is hjk]) rows cd y rows' cf (leftL ls (lexP ls k)) f1 (fun _ => by rw [leftL_len]; omega) (fun _ => ?_) (fun _ => ?_) ?_
  · rw [hls]; exact long_p hjk b1
  · rw [hls]; exact long_q hjk a1 a2
  · rw [hy, hls, long_some hjk a1 b1 a2 b2]
    exact long_none a1 b1 a2 b2
