/- Package jigsawref09: rows, tasks, circuits, counts, pairs. -/
import Derived.Test.YtlgoiaembdlemaaGreatEnv
import Derived.Test.YtlgoiaembdlemaaGreatPid
set_option linter.unusedSimpArgs false
set_option linter.unusedVariables false
namespace Go.Pi
open Go
set_option linter.unusedVariables false
set_option linter.unusedSimpArgs false

theorem c_rrow (kind K : Int) (rA rB rC rD rE rR ra : List (List PV)) (A a x : List Int) (R : List (List Int)) (hA : rA = ints A) (hR : rR = rowsOf R) (ha : ra = ints a) (X : Reads a A x) (hl : ∀ r ∈ R, r.length = A.length) (h64 : A.length ≤ 1000000) (h65 : R.length ≤ 1000000)
    (y : Bool) (hy : y = R.any fun r => r == x) :
    Call .plain 55 [.agg [I kind, .list 1 rA, .list 1 rB, .list 1 rC, .list 1 rD, .list 1 rE, I K, .list 1 rR], .list 1 ra] (B y) := by
  have lx := X.len
  refine call_of Proofs.Tryz.func55 Proofs.Tryz.call55 rfl rfl fun M C hM hC => ?_
  cbv
  refine Loop.over Nat (fun q => [(.t 5, I q)]) 1 (fun q => R.length - q) (fun q => q ≤ R.length ∧ ∀ i, i < q → (R.getD i [] == x) = false) 0 ⟨Nat.zero_le _, by omega⟩ (by (cbv; repeat' (first | exact True.intro | exact rfl | apply And.intro))) ?_
  rintro j ⟨hj, hn⟩
  cbv
  split <;> rename_i h <;> (try simp only [h]) <;> (try cbv)
  · have hlt : j < R.length := by subst hM; simpa [hR] using h
    clear h
    obtain ⟨r, hr⟩ : ∃ r, r = R.getD j [] := ⟨_, rfl⟩
    have lr : r.length = A.length := by rw [hr]; exact hl _ (getD_mem [] hlt)
    refine Loop.over (Nat × Bool) (fun q => [(.t 7, I q.1), (.t 6, B q.2)]) 1 (fun q => A.length - q.1) (fun q => q.1 ≤ A.length ∧ (q.2 = true ↔ ∀ i, i < q.1 → r.getD i 0 = x.getD i 0)) (0, true) ⟨Nat.zero_le _, by simp⟩ (by (cbv; repeat' (first | exact True.intro | exact rfl | apply And.intro))) ?_
    rintro ⟨k, ok⟩ ⟨hk, hok⟩
    simp only at hk hok
    cbv
    split <;> rename_i h <;> (try simp only [h]) <;> (try cbv)
    · have hlt2 : k < A.length := by subst hM; simpa [hA] using h
      clear h
      cases ok
      · cbv
        refine ⟨⟨k + 1, false⟩, ⟨hlt2, ?_⟩, ?_, by (cbv; repeat' (first | exact True.intro | exact rfl | apply And.intro)) <;> (subst hM; rw [succ_i64 (by omega)])⟩
        · simp only [Bool.false_eq_true, false_iff] at hok ⊢
          exact fun h => hok fun i hi => h i (by omega)
        · simp only; omega
      · cbv
        refine nidx_rows hR hlt fun rr hrr => ?_
        rw [← hr] at hrr
        cbv
        refine nidx_ints hrr (by omega) fun v hv => ?_
        cbv
        refine nidx_ints hA hlt2 fun p hp => ?_
        cbv
        refine idx_ints ha (by rw [hp]; exact X.lo k hlt2) (by rw [hp]; exact X.hi k hlt2) fun u hu => ?_
        have hu : u = x.getD k 0 := by rw [hu, hp]; exact X.get k hlt2
        cbv
        refine ⟨⟨k + 1, M .cmp .eql v u⟩, ⟨hlt2, ?_⟩, ?_, by (cbv; repeat' (first | exact True.intro | exact rfl | apply And.intro)) <;> (subst hM; rw [succ_i64 (by omega)])⟩
        · have e : M .cmp .eql v u = (v == u) := by subst hM; rfl
          rw [e, beq_iff_eq, hv, hu]
          constructor
          · intro h i hi
            rcases Nat.lt_or_ge i k with h3 | h3
            · exact hok.1 rfl i h3
            · have : i = k := by omega
              subst this; exact h
          · exact fun h => h k (by omega)
        · simp only; omega
    · have hk2 : k = A.length := by subst hM; simp [hA] at h; omega
      subst hk2
      clear h
      have fin : (r == x) = ok := by
        rw [Bool.eq_iff_iff, hok, beq_iff_eq, ← eq_all (by omega), lr]
      cases ok
      · cbv
        refine ⟨j + 1, ⟨hlt, fun i hi => ?_⟩, ?_, by (cbv; repeat' (first | exact True.intro | exact rfl | apply And.intro)) <;> (subst hM; rw [succ_i64 (by omega)])⟩
        · rcases Nat.lt_or_ge i j with h3 | h3
          · exact hn i h3
          · have : i = j := by omega
            subst this; rw [← hr]; exact fin
        · omega
      · cbv
        have : (R.any fun r => r == x) = true := List.any_eq_true.2 ⟨r, by rw [hr]; exact getD_mem [] hlt, fin⟩
        rw [hy, this]
  · have hj2 : j = R.length := by subst hM; simp [hR] at h; omega
    subst hj2
    rw [hy, any_no [] hn]

theorem c_rruns (kind K t : Int) (rA rB rC rD rE rR ra : List (List PV)) (A C' D a x : List Int) (hA : rA = ints A) (hC' : rC = ints C') (hD : rD = ints D) (ha : ra = ints a) (X : Reads a A x) (hl : A.length ≤ C'.length) (hl2 : A.length ≤ D.length) (h64 : A.length ≤ 64)
    (bt : -1000000 ≤ t ∧ t ≤ 1000000) (bD : ∀ i, -1000000 ≤ D.getD i 0 ∧ D.getD i 0 ≤ 1000000) (bx : ∀ i, -1000000 ≤ x.getD i 0 ∧ x.getD i 0 ≤ 1000000)
    (y : Int) (hy : y = loadS x C' D t A.length) :
    Call .plain 76 [.agg [I kind, .list 1 rA, .list 1 rB, .list 1 rC, .list 1 rD, .list 1 rE, I K, .list 1 rR], .list 1 ra, I t] (I y) := by
  refine call_of Proofs.Tryz.func76 Proofs.Tryz.call76 rfl rfl fun M C hM hC => ?_
  cbv
  have bl : ∀ i, i ≤ A.length → -64000000 ≤ loadS x C' D t i ∧ loadS x C' D t i ≤ 64000000 := fun i hi => by
    have := sumN_le (f := fun i => if x.getD i 0 ≤ t ∧ t < x.getD i 0 + C'.getD i 0 then D.getD i 0 else 0) (b := 1000000) (by decide) i fun i _ => by
      have := bD i
      split <;> omega
    unfold loadS
    omega
  refine Loop.over (Nat × Int) (fun q => [(.t 8, I q.1), (.t 7, I q.2)]) 1 (fun q => A.length - q.1) (fun q => q.1 ≤ A.length ∧ q.2 = loadS x C' D t q.1) (0, 0) ⟨Nat.zero_le _, rfl⟩ (by (cbv; repeat' (first | exact True.intro | exact rfl | apply And.intro))) ?_
  rintro ⟨i, n⟩ ⟨hi, hn2⟩
  simp only at hi hn2
  cbv
  split <;> rename_i h <;> (try simp only [h]) <;> (try cbv)
  · have hlt2 : i < A.length := by subst hM; simpa [hA] using h
    clear h
    refine nidx_ints hA hlt2 fun p hp => ?_
    cbv
    refine idx_ints ha (by rw [hp]; exact X.lo i hlt2) (by rw [hp]; exact X.hi i hlt2) fun s hs => ?_
    have hs : s = x.getD i 0 := by rw [hs, hp]; exact X.get i hlt2
    cbv
    have bs := bx i
    rw [← hs] at bs
    have bd := bD i
    split <;> rename_i h <;> (try simp only [h]) <;> (try cbv)
    · have h1 : s ≤ t := by subst hM; exact of_decide_eq_true h
      clear h
      have e1 : M .arith .sub .i64 t s = t - s := by
        subst hM
        show IntKind.i64.wrap (t - s) = _
        rw [wrap_i64 (by omega) (by omega)]
      refine nidx_ints hC' (by omega) fun c hc => ?_
      have e2 : M .cmp .lss (M .arith .sub .i64 t s) c = decide (t < s + c) := by
        rw [e1]; subst hM
        show decide (t - s < c) = _
        rw [decide_eq_decide]; omega
      clear e1
      cbv
      rw [show M .cmp .lss (M .arith .sub .i64 t s) c = _ from e2]
      clear e2
      by_cases h2 : t < s + c
      · rw [show decide (t < s + c) = true by simpa using h2]
        cbv
        refine nidx_ints hD (by omega) fun d hd => ?_
        cbv
        rw [← hd] at bd
        refine ⟨⟨i + 1, _⟩, ⟨hlt2, ?_⟩, ?_, by (cbv; repeat' (first | exact True.intro | exact rfl | apply And.intro)) <;> (subst hM; rw [succ_i64 (by omega)])⟩
        · subst hM
          have := bl i (by omega)
          have e : loadS x C' D t (i + 1) = loadS x C' D t i + d := by
            simp only [loadS, sumN, ← hs, ← hc, ← hd, h1, h2, and_self, if_true]
          simp only [real_add]
          rw [wrap_i64 (by omega) (by omega), e, hn2]
        · simp only; omega
      · rw [show decide (t < s + c) = false by simpa using h2]
        cbv
        refine ⟨⟨i + 1, _⟩, ⟨hlt2, ?_⟩, ?_, by (cbv; repeat' (first | exact True.intro | exact rfl | apply And.intro)) <;> (subst hM; rw [succ_i64 (by omega)])⟩
        · have e : loadS x C' D t (i + 1) = loadS x C' D t i := by
            simp only [loadS, sumN, ← hs, ← hc, h1, h2, and_false, if_false, Int.add_zero]
          exact hn2.trans e.symm
        · simp only; omega
    · have h1 : ¬ s ≤ t := by subst hM; exact of_decide_eq_false h
      refine ⟨⟨i + 1, _⟩, ⟨hlt2, ?_⟩, ?_, by (cbv; repeat' (first | exact True.intro | exact rfl | apply And.intro)) <;> (subst hM; rw [succ_i64 (by omega)])⟩
      · have e : loadS x C' D t (i + 1) = loadS x C' D t i := by
          simp only [loadS, sumN, ← hs, h1, false_and, if_false, Int.add_zero]
        exact hn2.trans e.symm
      · simp only; omega
  · have hi2 : i = A.length := by subst hM; simp [hA] at h; omega
    subst hi2
    rw [hy, hn2]

theorem c_rcumul (kind K : Int) (rA rB rC rD rE rR ra : List (List PV)) (A C' D a x : List Int) (hA : rA = ints A) (hC' : rC = ints C') (hD : rD = ints D) (ha : ra = ints a) (X : Reads a A x) (hl : A.length ≤ C'.length) (hl2 : A.length ≤ D.length) (h64 : A.length ≤ 64)
    (bD : ∀ i, -1000000 ≤ D.getD i 0 ∧ D.getD i 0 ≤ 1000000) (bx : ∀ i, -1000000 ≤ x.getD i 0 ∧ x.getD i 0 ≤ 1000000)
    (y : Bool) (hy : y = fitsS x C' D K) :
    Call .plain 56 [.agg [I kind, .list 1 rA, .list 1 rB, .list 1 rC, .list 1 rD, .list 1 rE, I K, .list 1 rR], .list 1 ra] (B y) := by
  have lx := X.len
  have cr := fun t bt => c_rruns kind K t rA rB rC rD rE rR ra A C' D a x hA hC' hD ha X hl hl2 h64 bt bD bx _ rfl
  refine call_of Proofs.Tryz.func56 Proofs.Tryz.call56 rfl rfl fun M C hM hC => ?_
  cbv
  refine Loop.over Nat (fun q => [(.t 5, I q)]) 1 (fun q => A.length - q) (fun q => q ≤ A.length ∧ ∀ i, i < q → loadS x C' D (x.getD i 0) x.length ≤ K) 0 ⟨Nat.zero_le _, by omega⟩ (by (cbv; repeat' (first | exact True.intro | exact rfl | apply And.intro))) ?_
  rintro j ⟨hj, hn⟩
  cbv
  split <;> rename_i h <;> (try simp only [h]) <;> (try cbv)
  · have hlt : j < A.length := by subst hM; simpa [hA] using h
    clear h
    refine nidx_ints hA hlt fun p hp => ?_
    cbv
    refine idx_ints ha (by rw [hp]; exact X.lo j hlt) (by rw [hp]; exact X.hi j hlt) fun t ht => ?_
    have ht : t = x.getD j 0 := by rw [ht, hp]; exact X.get j hlt
    cbv
    have bs := bx j
    rw [← ht] at bs
    refine callI hC (cr t bs) fun n hn' => ?_
    cbv
    split <;> rename_i h <;> (try simp only [h]) <;> (try cbv)
    · have h1 : n > K := by subst hM; exact of_decide_eq_true h
      have : fitsS x C' D K = false := by
        simp only [fitsS, List.all_eq_false]
        exact ⟨t, ht ▸ getD_mem 0 (by omega), by rw [lx, ← hn']; simpa using h1⟩
      rw [hy, this]
    · have h1 : ¬ n > K := by subst hM; exact of_decide_eq_false h
      refine ⟨j + 1, ⟨hlt, fun i hi => ?_⟩, ?_, by (cbv; repeat' (first | exact True.intro | exact rfl | apply And.intro)) <;> (subst hM; rw [succ_i64 (by omega)])⟩
      · rcases Nat.lt_or_ge i j with h3 | h3
        · exact hn i h3
        · have : i = j := by omega
          subst this; rw [← ht, lx, ← hn']; omega
      · omega
  · have hj2 : j = A.length := by subst hM; simp [hA] at h; omega
    subst hj2
    have : fitsS x C' D K = true := by
      simp only [fitsS, List.all_eq_true]
      intro v hv
      obtain ⟨i, hi, rfl⟩ := List.mem_iff_getElem.1 hv
      have := hn i (by omega)
      simpa [List.getD_eq_getElem?_getD, hi] using this
    rw [hy, this]

theorem countS_le' (x : List Int) (v : Int) (j : Nat) : 0 ≤ countS x v j ∧ countS x v j ≤ j := by
  induction j with
  | zero => simp [countS, sumN]
  | succ j ih => simp only [countS, sumN] at *; split <;> omega
theorem c_rgcc (kind K : Int) (rA rB rC rD rE rR ra : List (List PV)) (A C' D E a x : List Int) (hA : rA = ints A) (hC' : rC = ints C') (hD : rD = ints D) (hE : rE = ints E) (ha : ra = ints a) (X : Reads a A x) (hl : C'.length ≤ D.length) (hl2 : C'.length ≤ E.length) (h64 : A.length ≤ 64) (h65 : C'.length ≤ 1000000)
    (y : Bool) (hy : y = countedS x C' D E) :
    Call .plain 58 [.agg [I kind, .list 1 rA, .list 1 rB, .list 1 rC, .list 1 rD, .list 1 rE, I K, .list 1 rR], .list 1 ra] (B y) := by
  have lx := X.len
  refine call_of Proofs.Tryz.func58 Proofs.Tryz.call58 rfl rfl fun M C hM hC => ?_
  cbv
  refine Loop.over Nat (fun q => [(.t 5, I q)]) 1 (fun q => C'.length - q) (fun q => q ≤ C'.length ∧ ∀ i, i < q → D.getD i 0 ≤ countS x (C'.getD i 0) x.length ∧ countS x (C'.getD i 0) x.length ≤ E.getD i 0) 0 ⟨Nat.zero_le _, by omega⟩ (by (cbv; repeat' (first | exact True.intro | exact rfl | apply And.intro))) ?_
  rintro j ⟨hj, hn⟩
  cbv
  split <;> rename_i h <;> (try simp only [h]) <;> (try cbv)
  · have hlt : j < C'.length := by subst hM; simpa [hC'] using h
    clear h
    obtain ⟨t, ht⟩ : ∃ t, t = C'.getD j 0 := ⟨_, rfl⟩
    refine Loop.over (Nat × Int) (fun q => [(.t 7, I q.1), (.t 6, I q.2)]) 1 (fun q => A.length - q.1) (fun q => q.1 ≤ A.length ∧ q.2 = countS x t q.1) (0, 0) ⟨Nat.zero_le _, rfl⟩ (by (cbv; repeat' (first | exact True.intro | exact rfl | apply And.intro))) ?_
    rintro ⟨i, n⟩ ⟨hi, hn2⟩
    simp only at hi hn2
    cbv
    split <;> rename_i h <;> (try simp only [h]) <;> (try cbv)
    · have hlt2 : i < A.length := by subst hM; simpa [hA] using h
      clear h
      refine nidx_ints hA hlt2 fun p hp => ?_
      cbv
      refine idx_ints ha (by rw [hp]; exact X.lo i hlt2) (by rw [hp]; exact X.hi i hlt2) fun s hs => ?_
      have hs : s = x.getD i 0 := by rw [hs, hp]; exact X.get i hlt2
      cbv
      refine nidx_ints hC' hlt fun t' ht' => ?_
      have e : t' = t := by rw [ht, ht']
      subst e
      cbv
      split <;> rename_i h <;> (try simp only [h]) <;> (try cbv)
      · have h1 : s = t' := by subst hM; exact eq_of_beq h
        have bl := countS_le' x t' i
        refine ⟨⟨i + 1, _⟩, ⟨hlt2, ?_⟩, ?_, by (cbv; repeat' (first | exact True.intro | exact rfl | apply And.intro)) <;> (subst hM; rw [succ_i64 (by omega)])⟩
        · subst hM
          simp only [real_add]
          rw [wrap_i64 (by omega) (by omega)]
          have e : countS x t' (i + 1) = countS x t' i + 1 := by simp only [countS, sumN, ← hs, h1, if_true]
          rw [e, hn2]
        · simp only; omega
      · have h1 : ¬ s = t' := by subst hM; simpa using h
        refine ⟨⟨i + 1, _⟩, ⟨hlt2, ?_⟩, ?_, by (cbv; repeat' (first | exact True.intro | exact rfl | apply And.intro)) <;> (subst hM; rw [succ_i64 (by omega)])⟩
        · have e : countS x t' (i + 1) = countS x t' i := by simp only [countS, sumN, ← hs, h1, if_false, Int.add_zero]
          exact hn2.trans e.symm
        · simp only; omega
    · have hi2 : i = x.length := by subst hM; simp [hA] at h; omega
      subst hi2
      clear h
      refine nidx_ints hD (by omega) fun d hd => ?_
      cbv
      split <;> rename_i h <;> (try simp only [h]) <;> (try cbv)
      · have h1 : countS x t x.length < d := by subst hM; rw [← hn2]; exact of_decide_eq_true h
        have : countedS x C' D E = false := by
          simp only [countedS, List.all_eq_false]
          refine ⟨j, by simpa using hlt, ?_⟩
          rw [← ht, ← hd]
          simp; omega
        rw [hy, this]
      · have h1 : ¬ countS x t x.length < d := by subst hM; rw [← hn2]; exact of_decide_eq_false h
        refine nidx_ints hE (by omega) fun e he => ?_
        cbv
        split <;> rename_i h <;> (try simp only [h]) <;> (try cbv)
        · have h2 : countS x t x.length > e := by subst hM; rw [← hn2]; exact of_decide_eq_true h
          have : countedS x C' D E = false := by
            simp only [countedS, List.all_eq_false]
            refine ⟨j, by simpa using hlt, ?_⟩
            rw [← ht, ← hd, ← he]
            simp; omega
          rw [hy, this]
        · have h2 : ¬ countS x t x.length > e := by subst hM; rw [← hn2]; exact of_decide_eq_false h
          refine ⟨j + 1, ⟨hlt, fun i hi => ?_⟩, ?_, by (cbv; repeat' (first | exact True.intro | exact rfl | apply And.intro)) <;> (subst hM; rw [succ_i64 (by omega)])⟩
          · rcases Nat.lt_or_ge i j with h3 | h3
            · exact hn i h3
            · have : i = j := by omega
              subst this; rw [← ht, ← hd, ← he]; omega
          · omega
  · have hj2 : j = C'.length := by subst hM; simp [hC'] at h; omega
    subst hj2
    have : countedS x C' D E = true := by
      simp only [countedS, List.all_eq_true, List.mem_range, Bool.and_eq_true, decide_eq_true_eq]
      exact hn
    rw [hy, this]
