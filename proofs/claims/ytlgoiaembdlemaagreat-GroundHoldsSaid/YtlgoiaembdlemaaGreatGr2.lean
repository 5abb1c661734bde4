/- Package ground's loops. -/
import Derived.Test.YtlgoiaembdlemaaGreatEnv
import Derived.Test.YtlgoiaembdlemaaGreatPic
set_option linter.unusedSimpArgs false
set_option linter.unusedVariables false
namespace Go.Pi
open Go
set_option linter.unusedVariables false

theorem c_sum (kind K : Int) (A B' D E Rw rC rx : List (List PV)) (C' x : List Int) (hC' : rC = ints C') (hx : rx = ints x) (hl : C'.length ≤ x.length) (h64 : C'.length ≤ 64)
    (bC : ∀ i, -1000000 ≤ C'.getD i 0 ∧ C'.getD i 0 ≤ 1000000) (bx : ∀ i, -1000000 ≤ x.getD i 0 ∧ x.getD i 0 ≤ 1000000)
    (y : Int) (hy : y = sumN (fun i => C'.getD i 0 * x.getD i 0) C'.length) :
    Call .plain 18 [.agg [I kind, .list 1 A, .list 1 B', .list 1 rC, .list 1 D, .list 1 E, I K, .list 1 Rw], .list 1 rx] (I y) := by
  refine call_of Proofs.Tryz.func18 Proofs.Tryz.call18 rfl rfl fun M C hM hC => ?_
  cbv
  refine Loop.over (Nat × Int) (fun q => [(.t 11, I q.1), (.t 5, I q.2)]) 1 (fun q => C'.length - q.1) (fun q => q.1 ≤ C'.length ∧ q.2 = sumN (fun i => C'.getD i 0 * x.getD i 0) q.1) (0, 0) ⟨Nat.zero_le _, rfl⟩ (by (cbv; repeat' (first | exact True.intro | exact rfl | apply And.intro))) ?_
  rintro ⟨j, n⟩ ⟨hj, hn⟩
  simp only at hj hn
  cbv
  split <;> rename_i h <;> (try simp only [h]) <;> (try cbv)
  · have hlt : j < C'.length := by subst hM; simpa [hC'] using h
    refine nidx_ints hC' hlt fun v hv => ?_
    cbv
    refine nidx_ints hx (by omega) fun u hu => ?_
    cbv
    refine ⟨⟨j + 1, _⟩, ⟨hlt, ?_⟩, ?_, by (cbv; repeat' (first | exact True.intro | exact rfl | apply And.intro)) <;> (subst hM; rw [succ_i64 (by omega)])⟩
    · subst hM
      have h1 := bC j
      have h2 := bx j
      rw [← hv] at h1; rw [← hu] at h2
      have hb := mul_le h1 h2
      have hs := sumN_le (f := fun i => C'.getD i 0 * x.getD i 0) (b := 1000000000000) (by decide) j fun i _ => mul_le (bC i) (bx i)
      simp only [real_mul, real_add, sumN]
      rw [wrap_i64 (x := v * u) (by omega) (by omega), wrap_i64 (by omega) (by omega), hn, hv, hu]
    · simp only; omega
  · subst hM
    simp [hC'] at h
    have : j = C'.length := by omega
    rw [hy, hn, this]

theorem c_values (rl ra : List (List PV)) (l a : List Int) (hl : rl = ints l) (ha : ra = ints a) (hb : ∀ v ∈ l, 0 ≤ v ∧ v < a.length) (h64 : l.length ≤ 1000000)
    (r : List (List PV)) (hr : r = ints (valuesS a l)) : Call .plain 17 [.list 1 rl, .list 1 ra] (.list 1 r) := by
  refine call_of Proofs.Tryz.func17 Proofs.Tryz.call17 rfl rfl fun M C hM hC => ?_
  cbv
  refine Loop.over (Nat × List (List PV)) (fun q => [(.t 10, I q.1), (.t 5, .own 0 0), (.a 0, .arr 0 3 1 q.2), (.i 0, .inf true 0)]) 1 (fun q => l.length - q.1) (fun q => q.1 ≤ l.length ∧ q.2 = ints (valuesS a (l.take q.1))) (0, []) ⟨Nat.zero_le _, rfl⟩ (by (cbv; repeat' (first | exact True.intro | exact rfl | apply And.intro))) ?_
  rintro ⟨j, q⟩ ⟨hj, hq⟩
  simp only at hj hq
  cbv
  split <;> rename_i h <;> (try simp only [h]) <;> (try cbv)
  · have hlt : j < l.length := by subst hM; simpa [hl] using h
    refine nidx_ints hl hlt fun v hv => ?_
    cbv
    have hm : v ∈ l := hv ▸ getD_mem 0 hlt
    refine idx_ints ha (hb v hm).1 (hb v hm).2 fun u hu => ?_
    cbv
    refine .mk (by subst hM; simp [hq, valuesS]; omega) ?_
    cbv
    refine ⟨⟨j + 1, _⟩, ⟨hlt, ?_⟩, ?_, by (cbv; repeat' (first | exact True.intro | exact rfl | apply And.intro)) <;> (subst hM; rw [succ_i64 (by omega)])⟩
    · subst hM
      simp only [real_app, hq]
      rw [ints_one, ints_app, valuesS, valuesS, map_take_succ 0 _ hlt, hu, hv]
    · simp only; omega
  · subst hM
    simp [hl] at h
    have : j = l.length := by omega
    subst this
    rw [List.take_length] at hq
    exact ⟨hq.trans hr.symm, trivial⟩

theorem c_fits (kind K : Int) (A B' E Rw rC rD rx : List (List PV)) (C' D x : List Int) (hC' : rC = ints C') (hD : rD = ints D) (hx : rx = ints x) (hl : x.length ≤ C'.length) (hl2 : x.length ≤ D.length) (h64 : x.length ≤ 64)
    (bC : ∀ i, -1000000 ≤ C'.getD i 0 ∧ C'.getD i 0 ≤ 1000000) (bD : ∀ i, -1000000 ≤ D.getD i 0 ∧ D.getD i 0 ≤ 1000000) (bx : ∀ i, -1000000 ≤ x.getD i 0 ∧ x.getD i 0 ≤ 1000000)
    (y : Bool) (hy : y = fitsS x C' D K) :
    Call .plain 24 [.agg [I kind, .list 1 A, .list 1 B', .list 1 rC, .list 1 rD, .list 1 E, I K, .list 1 Rw], .list 1 rx] (B y) := by
  refine call_of Proofs.Tryz.func24 Proofs.Tryz.call24 rfl rfl fun M C hM hC => ?_
  cbv
  refine Loop.over Nat (fun q => [(.t 12, I q)]) 1 (fun q => x.length - q) (fun q => q ≤ x.length ∧ ∀ i, i < q → loadS x C' D (x.getD i 0) x.length ≤ K) 0 ⟨Nat.zero_le _, by omega⟩ (by (cbv; repeat' (first | exact True.intro | exact rfl | apply And.intro))) ?_
  rintro j ⟨hj, hn⟩
  cbv
  split <;> rename_i h <;> (try simp only [h]) <;> (try cbv)
  · have hlt : j < x.length := by subst hM; simpa [hx] using h
    refine nidx_ints hx hlt fun t ht => ?_
    cbv
    refine Loop.over (Nat × Int) (fun q => [(.t 18, I q.1), (.t 7, I q.2)]) 1 (fun q => x.length - q.1) (fun q => q.1 ≤ x.length ∧ q.2 = loadS x C' D t q.1) (0, 0) ⟨Nat.zero_le _, rfl⟩ (by (cbv; repeat' (first | exact True.intro | exact rfl | apply And.intro))) ?_
    rintro ⟨i, n⟩ ⟨hi, hn2⟩
    simp only at hi hn2
    cbv
    have bl : ∀ i, i ≤ x.length → -64000000 ≤ loadS x C' D t i ∧ loadS x C' D t i ≤ 64000000 := fun i hi => by
      have := sumN_le (f := fun i => if x.getD i 0 ≤ t ∧ t < x.getD i 0 + C'.getD i 0 then D.getD i 0 else 0) (b := 1000000) (by decide) i fun i _ => by
        have := bD i
        split <;> omega
      unfold loadS
      omega
    split <;> rename_i h <;> (try simp only [h]) <;> (try cbv)
    · have hlt2 : i < x.length := by subst hM; simpa [hx] using h
      refine nidx_ints hx hlt2 fun s hs => ?_
      cbv
      have bs := bx i
      rw [← hs] at bs
      have bc := bC i
      have bd := bD i
      split <;> rename_i h <;> (try simp only [h]) <;> (try cbv)
      · have h1 : s ≤ t := by subst hM; simpa using h
        refine nidx_ints hC' (by omega) fun c hc => ?_
        cbv
        rw [← hc] at bc
        split <;> rename_i h <;> (try simp only [h]) <;> (try cbv)
        · have h2 : t < s + c := by subst hM; simp at h; rw [wrap_i64 (by omega) (by omega)] at h; exact h
          refine nidx_ints hD (by omega) fun d hd => ?_
          cbv
          rw [← hd] at bd
          refine ⟨⟨i + 1, _⟩, ⟨hlt2, ?_⟩, ?_, by (cbv; repeat' (first | exact True.intro | exact rfl | apply And.intro)) <;> (subst hM; rw [succ_i64 (by omega)])⟩
          · subst hM
            have := bl i (by omega)
            have e : loadS x C' D t (i + 1) = loadS x C' D t i + d := by
              simp only [loadS, sumN, ← hs, ← hc, ← hd, h1, h2, and_self, if_true]
            simp only [real_add]
            rw [wrap_i64 (by omega) (by omega), e, hn2]
          · simp only; omega
        · have h2 : ¬ t < s + c := by subst hM; simp at h; rw [wrap_i64 (by omega) (by omega)] at h; omega
          refine ⟨⟨i + 1, _⟩, ⟨hlt2, ?_⟩, ?_, by (cbv; repeat' (first | exact True.intro | exact rfl | apply And.intro)) <;> (subst hM; rw [succ_i64 (by omega)])⟩
          · have e : loadS x C' D t (i + 1) = loadS x C' D t i := by
              simp only [loadS, sumN, ← hs, ← hc, h1, h2, and_false, if_false, Int.add_zero]
            exact hn2.trans e.symm
          · simp only; omega
      · have h1 : ¬ s ≤ t := by subst hM; simp at h; omega
        refine ⟨⟨i + 1, _⟩, ⟨hlt2, ?_⟩, ?_, by (cbv; repeat' (first | exact True.intro | exact rfl | apply And.intro)) <;> (subst hM; rw [succ_i64 (by omega)])⟩
        · have e : loadS x C' D t (i + 1) = loadS x C' D t i := by
            simp only [loadS, sumN, ← hs, h1, false_and, if_false, Int.add_zero]
          exact hn2.trans e.symm
        · simp only; omega
    · have hi2 : i = x.length := by subst hM; simp [hx] at h; omega
      subst hi2
      split <;> rename_i h <;> (try simp only [h]) <;> (try cbv)
      · have h1 : loadS x C' D t x.length > K := by subst hM; simp at h; omega
        have : fitsS x C' D K = false := by
          simp only [fitsS, List.all_eq_false]
          exact ⟨t, ht ▸ getD_mem 0 hlt, by simpa using h1⟩
        rw [hy, this]
      · have h1 : loadS x C' D t x.length ≤ K := by subst hM; simp at h; omega
        refine ⟨j + 1, ⟨hlt, fun i hi => ?_⟩, ?_, by (cbv; repeat' (first | exact True.intro | exact rfl | apply And.intro)) <;> (subst hM; rw [succ_i64 (by omega)])⟩
        · rcases Nat.lt_or_ge i j with h3 | h3
          · exact hn i h3
          · have : i = j := by omega
            subst this; rw [← ht]; exact h1
        · omega
  · have hj2 : j = x.length := by subst hM; simp [hx] at h; omega
    subst hj2
    have : fitsS x C' D K = true := by
      simp only [fitsS, List.all_eq_true]
      intro v hv
      obtain ⟨i, hi, rfl⟩ := List.mem_iff_getElem.1 hv
      have := hn i hi
      simpa [List.getD_eq_getElem?_getD, hi] using this
    rw [hy, this]

theorem c_round (rx : List (List PV)) (x : List Int) (hx : rx = ints x) (h64 : x.length ≤ 1000000) (y : Bool) (hy : y = roundS x x.length 1 1) : Call .plain 25 [.list 1 rx] (B y) := by
  refine call_of Proofs.Tryz.func25 Proofs.Tryz.call25 rfl rfl fun M C hM hC => ?_
  cbv
  refine Loop.over (Int × Nat) (fun q => [(.t 3, I q.1), (.t 4, I q.2)]) 0 (fun q => x.length + 1 - q.2) (fun q => 1 ≤ q.2 ∧ q.2 ≤ x.length + 1 ∧ 1 ≤ q.1 ∧ (q.2 ≤ x.length → q.1 ≤ x.length) ∧ y = roundS x (x.length + 1 - q.2) q.1 q.2) (1, 1) ⟨Nat.le_refl _, by simp, by simp, by simp only []; omega, by simpa using hy⟩ (by (cbv; repeat' (first | exact True.intro | exact rfl | apply And.intro))) ?_
  rintro ⟨at', n⟩ ⟨h1, h2, h3, h4, h5⟩
  simp only at h1 h2 h3 h4 h5
  cbv
  split <;> rename_i h <;> (try simp only [h]) <;> (try cbv) <;> (try simp only [ncast] at *)
  · have hn : n ≤ x.length := by subst hM; simp [hx] at h; omega
    have h4' := h4 hn
    have e1 : M .arith .sub .i64 at' 1 = at' - 1 := by subst hM; simp; rw [wrap_i64 (by omega) (by omega)]
    obtain ⟨k, hk⟩ : ∃ k, x.length + 1 - n = k + 1 := ⟨x.length - n, by omega⟩
    rw [hk] at h5
    simp only [roundS] at h5
    refine idx_ints hx (by rw [e1]; omega) (by rw [e1]; omega) fun v hv => ?_
    rw [e1] at hv
    cbv
    rw [← hv] at h5
    split <;> rename_i h <;> (try simp only [h]) <;> (try cbv) <;> (try simp only [ncast] at *)
    · have hv1 : v < 1 := by subst hM; simpa using h
      simp [hv1] at h5
      rw [h5]
    · have hv1 : ¬ v < 1 := by subst hM; simp at h; omega
      refine idx_ints hx (by rw [e1]; omega) (by rw [e1]; omega) fun v' hv' => ?_
      rw [e1] at hv'
      have : v' = v := by rw [hv, hv']
      subst this
      cbv
      split <;> rename_i h <;> (try simp only [h]) <;> (try cbv) <;> (try simp only [ncast] at *)
      · have hv2 : v' > x.length := by subst hM; simp [hx] at h; omega
        simp [hv2] at h5
        rw [h5]
      · have hv2 : ¬ v' > x.length := by subst hM; simp [hx] at h; omega
        refine idx_ints hx (by rw [e1]; omega) (by rw [e1]; omega) fun v'' hv'' => ?_
        rw [e1] at hv''
        have : v'' = v' := by rw [hv, hv'']
        subst this
        cbv
        rw [if_neg (by omega)] at h5
        split <;> rename_i h <;> (try simp only [h]) <;> (try cbv) <;> (try simp only [ncast] at *)
        · have hv3 : v'' = 1 := by subst hM; simpa using h
          rw [if_pos hv3] at h5
          subst hM
          simp [hx, h5]
          rw [Bool.eq_iff_iff]
          simp
          omega
        · have hv3 : ¬ v'' = 1 := by subst hM; simpa using h
          rw [if_neg hv3] at h5
          refine ⟨⟨v'', n + 1⟩, ⟨by omega, by omega, by omega, by omega, ?_⟩, ?_, by (cbv; repeat' (first | exact True.intro | exact rfl | apply And.intro)) <;> (subst hM; rw [succ_i64 (by omega)])⟩
          · rw [show x.length + 1 - (n + 1) = k from by omega]; exact h5
          · simp only; omega
  · have hn : n = x.length + 1 := by subst hM; simp [hx] at h; omega
    rw [h5, hn]
    simp [roundS]

theorem countS_le (x : List Int) (v : Int) (j : Nat) : 0 ≤ countS x v j ∧ countS x v j ≤ j := by
  induction j with
  | zero => simp [countS, sumN]
  | succ j ih => simp only [countS, sumN] at *; split <;> omega
theorem c_counted (kind K : Int) (A B' Rw rC rD rE rx : List (List PV)) (C' D E x : List Int) (hC' : rC = ints C') (hD : rD = ints D) (hE : rE = ints E) (hx : rx = ints x) (hl : C'.length ≤ D.length) (hl2 : C'.length ≤ E.length)
    (h64 : x.length ≤ 1000000) (h65 : C'.length ≤ 1000000) (y : Bool) (hy : y = countedS x C' D E) :
    Call .plain 26 [.agg [I kind, .list 1 A, .list 1 B', .list 1 rC, .list 1 rD, .list 1 rE, I K, .list 1 Rw], .list 1 rx] (B y) := by
  refine call_of Proofs.Tryz.func26 Proofs.Tryz.call26 rfl rfl fun M C hM hC => ?_
  cbv
  refine Loop.over Nat (fun q => [(.t 13, I q)]) 1 (fun q => C'.length - q) (fun q => q ≤ C'.length ∧ ∀ i, i < q → D.getD i 0 ≤ countS x (C'.getD i 0) x.length ∧ countS x (C'.getD i 0) x.length ≤ E.getD i 0) 0 ⟨Nat.zero_le _, by omega⟩ (by (cbv; repeat' (first | exact True.intro | exact rfl | apply And.intro))) ?_
  rintro j ⟨hj, hn⟩
  cbv
  split <;> rename_i h <;> (try simp only [h]) <;> (try cbv)
  · have hlt : j < C'.length := by subst hM; simpa [hC'] using h
    refine nidx_ints hC' hlt fun t ht => ?_
    cbv
    refine Loop.over (Nat × Int) (fun q => [(.t 20, I q.1), (.t 7, I q.2)]) 1 (fun q => x.length - q.1) (fun q => q.1 ≤ x.length ∧ q.2 = countS x t q.1) (0, 0) ⟨Nat.zero_le _, rfl⟩ (by (cbv; repeat' (first | exact True.intro | exact rfl | apply And.intro))) ?_
    rintro ⟨i, n⟩ ⟨hi, hn2⟩
    simp only at hi hn2
    cbv
    split <;> rename_i h <;> (try simp only [h]) <;> (try cbv)
    · have hlt2 : i < x.length := by subst hM; simpa [hx] using h
      refine nidx_ints hx hlt2 fun s hs => ?_
      cbv
      split <;> rename_i h <;> (try simp only [h]) <;> (try cbv)
      · have h1 : s = t := by subst hM; simpa using h
        have bl := countS_le x t i
        refine ⟨⟨i + 1, _⟩, ⟨hlt2, ?_⟩, ?_, by (cbv; repeat' (first | exact True.intro | exact rfl | apply And.intro)) <;> (subst hM; rw [succ_i64 (by omega)])⟩
        · subst hM
          simp only [real_add]
          rw [wrap_i64 (by omega) (by omega)]
          have e : countS x t (i + 1) = countS x t i + 1 := by simp only [countS, sumN, ← hs, h1, if_true]
          rw [e, hn2]
        · simp only; omega
      · have h1 : ¬ s = t := by subst hM; simpa using h
        refine ⟨⟨i + 1, _⟩, ⟨hlt2, ?_⟩, ?_, by (cbv; repeat' (first | exact True.intro | exact rfl | apply And.intro)) <;> (subst hM; rw [succ_i64 (by omega)])⟩
        · have e : countS x t (i + 1) = countS x t i := by simp only [countS, sumN, ← hs, h1, if_false, Int.add_zero]
          exact hn2.trans e.symm
        · simp only; omega
    · have hi2 : i = x.length := by subst hM; simp [hx] at h; omega
      subst hi2
      refine nidx_ints hD (by omega) fun d hd => ?_
      cbv
      split <;> rename_i h <;> (try simp only [h]) <;> (try cbv)
      · have h1 : countS x t x.length < d := by subst hM; simpa [hn2] using h
        have : countedS x C' D E = false := by
          simp only [countedS, List.all_eq_false]
          refine ⟨j, by simpa using hlt, ?_⟩
          rw [← ht, ← hd]
          simp; omega
        rw [hy, this]
      · have h1 : ¬ countS x t x.length < d := by subst hM; simp [hn2] at h; omega
        refine nidx_ints hE (by omega) fun e he => ?_
        cbv
        split <;> rename_i h <;> (try simp only [h]) <;> (try cbv)
        · have h2 : countS x t x.length > e := by subst hM; simpa [hn2] using h
          have : countedS x C' D E = false := by
            simp only [countedS, List.all_eq_false]
            refine ⟨j, by simpa using hlt, ?_⟩
            rw [← ht, ← hd, ← he]
            simp; omega
          rw [hy, this]
        · have h2 : ¬ countS x t x.length > e := by subst hM; simp [hn2] at h; omega
          refine ⟨j + 1, ⟨hlt, fun i hi => ?_⟩, ?_, by (cbv; repeat' (first | exact True.intro | exact rfl | apply And.intro)) <;> (subst hM; rw [succ_i64 (by omega)])⟩
          · rcases Nat.lt_or_ge i j with h3 | h3
            · exact hn i h3
            · have : i = j := by omega
              subst this; rw [← ht, ← hd, ← he]; omega
          · omega
  · have hj2 : j = C'.length := by subst hM; simp [hC'] at h; omega
    subst hj2
    have : countedS x C' D E = true := by
      simp only [countedS, List.all_eq_true, List.mem_range, Bool.and_eq_true, decide_eq_true_eq]
      exact hn
    rw [hy, this]

theorem c_inverse (rx rz : List (List PV)) (x z : List Int) (hx : rx = ints x) (hz : rz = ints z) (h64 : x.length ≤ 1000000) (h65 : z.length ≤ 1000000) (y : Bool) (hy : y = inverseS x z) :
    Call .plain 28 [.list 1 rx, .list 1 rz] (B y) := by
  refine call_of Proofs.Tryz.func28 Proofs.Tryz.call28 rfl rfl fun M C hM hC => ?_
  cbv
  refine Loop.over Nat (fun q => [(.t 9, I q)]) 0 (fun q => x.length - q) (fun q => q ≤ x.length ∧ ∀ i, i < q → 1 ≤ x.getD i 0 ∧ x.getD i 0 ≤ (z.length : Int) ∧ z.getD (x.getD i 0 - 1).toNat 0 = i + 1) 0 ⟨Nat.zero_le _, by omega⟩ (by (cbv; repeat' (first | exact True.intro | exact rfl | apply And.intro))) ?_
  rintro j ⟨hj, hn⟩
  cbv
  split <;> rename_i h <;> (try simp only [h]) <;> (try cbv)
  · have hlt : j < x.length := by subst hM; simpa [hx] using h
    refine nidx_ints hx hlt fun v hv => ?_
    have no : ¬ (1 ≤ v ∧ v ≤ (z.length : Int) ∧ z.getD (v - 1).toNat 0 = j + 1) → inverseS x z = false := fun hno => by
      simp only [inverseS, List.all_eq_false]
      refine ⟨j, by simpa using hlt, ?_⟩
      rw [← hv]
      intro hq
      simp only [Bool.and_eq_true, decide_eq_true_eq, beq_iff_eq] at hq
      exact hno ⟨hq.1.1, hq.1.2, hq.2⟩
    have no := hy ▸ no
    cbv
    split <;> rename_i h <;> (try simp only [h]) <;> (try cbv)
    · have h1 : v < 1 := by subst hM; simpa using h
      rw [no (by omega)]
    · have h1 : ¬ v < 1 := by subst hM; simp at h; omega
      split <;> rename_i h <;> (try simp only [h]) <;> (try cbv)
      · have h2 : v > z.length := by subst hM; simpa [hz] using h
        rw [no (by (try simp only [ncast] at *); omega)]
      · have h2 : v ≤ z.length := by subst hM; simpa [hz] using h
        have e1 : M .arith .sub .i64 v 1 = v - 1 := by subst hM; simp; rw [wrap_i64 (by omega) (by omega)]
        refine idx_ints hz (by rw [e1]; omega) (by rw [e1]; omega) fun u hu => ?_
        rw [e1] at hu
        cbv
        split <;> rename_i h <;> (try simp only [h]) <;> (try cbv)
        · have h3 : u ≠ j + 1 := by subst hM; rw [succ_i64 (by omega)] at h; simpa using h
          rw [no (by rw [← hu]; exact fun hq => h3 hq.2.2)]
        · have h3 : u = j + 1 := by subst hM; rw [succ_i64 (by omega)] at h; simpa using h
          refine ⟨j + 1, ⟨hlt, fun i hi => ?_⟩, ?_, by (cbv; repeat' (first | exact True.intro | exact rfl | apply And.intro)) <;> (subst hM; rw [succ_i64 (by omega)])⟩
          · rcases Nat.lt_or_ge i j with h4 | h4
            · exact hn i h4
            · have : i = j := by omega
              subst this; rw [← hv, ← hu]; exact ⟨by omega, h2, h3⟩
          · omega
  · have hj2 : j = x.length := by subst hM; simp [hx] at h; omega
    subst hj2
    have : inverseS x z = true := by
      simp only [inverseS, List.all_eq_true, List.mem_range, Bool.and_eq_true, decide_eq_true_eq, beq_iff_eq]
      exact fun i hi => ⟨⟨(hn i hi).1, (hn i hi).2.1⟩, (hn i hi).2.2⟩
    rw [hy, this]
