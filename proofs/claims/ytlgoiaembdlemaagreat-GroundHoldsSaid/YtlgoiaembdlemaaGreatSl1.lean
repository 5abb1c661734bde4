/- Package slices' readers, at numbers and lists of numbers. -/
import Derived.Test.YtlgoiaembdlemaaGreatEnv
import Derived.Test.YtlgoiaembdlemaaGreatPic
set_option linter.unusedSimpArgs false
set_option linter.unusedVariables false
namespace Go.Pi
open Go
set_option linter.unusedVariables false

theorem c_isNaN (a : Int) : Call .plain 72 [I a] (B false) := by
  refine call_of Proofs.Tryz.func72 Proofs.Tryz.call72 rfl rfl fun M C hM hC => ?_
  cbv
  subst hM; simp
def cmpS (a b : Int) : Int := if a < b then -1 else if a > b then 1 else 0
theorem c_cmp (a b y : Int) (hy : y = cmpS a b) : Call .plain 48 [I a, I b] (I y) := by
  refine call_of Proofs.Tryz.func48 Proofs.Tryz.call48 rfl rfl fun M C hM hC => ?_
  cbv
  refine .mk _ (use_call hC (c_isNaN a)) ?_
  cbv
  refine .mk _ (use_call hC (c_isNaN b)) ?_
  cbv
  split <;> rename_i h <;> (try simp only [h]) <;> (try cbv)
  · have h1 : a < b := by subst hM; simpa using h
    rw [hy]; simp [cmpS, h1]
  · have h1 : ¬ a < b := by subst hM; simp at h; omega
    split <;> rename_i h <;> (try simp only [h]) <;> (try cbv)
    · have h2 : a > b := by subst hM; simpa using h
      rw [hy]; simp [cmpS, h1, h2]
    · have h2 : ¬ a > b := by subst hM; simp at h; omega
      rw [hy]; simp [cmpS, h1, h2]

theorem c_index (rl : List (List PV)) (l : List Int) (v : Int) (hl : rl = ints l) (h64 : l.length ≤ 1000000) (y : Int) (hy : y = idxS (fun x => x == v) l) : Call .plain 68 [.list 1 rl, I v] (I y) := by
  refine call_of Proofs.Tryz.func68 Proofs.Tryz.call68 rfl rfl fun M C hM hC => ?_
  cbv
  refine Loop.over Nat (fun q => [(.t 8, I q)]) 0 (fun q => l.length - q) (fun q => q ≤ l.length ∧ ∀ i, i < q → (l.getD i 0 == v) = false) 0 ⟨Nat.zero_le _, by omega⟩ (by (cbv; repeat' (first | exact True.intro | exact rfl | apply And.intro))) ?_
  rintro j ⟨hj, hn⟩
  cbv
  split <;> rename_i h <;> (try simp only [h]) <;> (try cbv)
  · have hlt : j < l.length := by subst hM; simpa [hl] using h
    refine nidx_ints hl hlt fun u hu => ?_
    cbv
    split <;> rename_i h <;> (try simp only [h]) <;> (try cbv)
    · have h1 : v = u := by subst hM; simpa using h
      rw [hy, idxS_hit 0 hlt (by rw [← hu, h1]; simp) hn]
      rfl
    · have h1 : ¬ v = u := by subst hM; simpa using h
      refine ⟨j + 1, ⟨hlt, fun i hi => ?_⟩, ?_, by (cbv; repeat' (first | exact True.intro | exact rfl | apply And.intro)) <;> (subst hM; rw [succ_i64 (by omega)])⟩
      · rcases Nat.lt_or_ge i j with h3 | h3
        · exact hn i h3
        · have : i = j := by omega
          subst this; rw [← hu]; simp; omega
      · omega
  · have hj2 : j = l.length := by subst hM; simp [hl] at h; omega
    subst hj2
    rw [hy, idxS_no 0 hn]
theorem contains_any (l : List Int) (v : Int) : l.contains v = l.any fun x => x == v := by
  rw [Bool.eq_iff_iff]; simp
theorem c_contains (rl : List (List PV)) (l : List Int) (v : Int) (hl : rl = ints l) (h64 : l.length ≤ 1000000) (y : Bool) (hy : y = l.contains v) : Call .plain 43 [.list 1 rl, I v] (B y) := by
  refine call_of Proofs.Tryz.func43 Proofs.Tryz.call43 rfl rfl fun M C hM hC => ?_
  rw [contains_any] at hy
  cbv
  obtain ⟨i, hi, hc⟩ : ∃ i, i = idxS (fun x => x == v) l ∧ C .plain 68 [.list 1 rl, I v] (I i) := ⟨_, rfl, use_call hC (c_index rl l v hl h64 _ rfl)⟩
  refine .mk _ hc ?_
  cbv
  subst hM
  rw [hy, real_geq, hi, idxS_nonneg]

theorem c_equal (rl rz : List (List PV)) (l z : List Int) (hl : rl = ints l) (hz : rz = ints z) (h64 : l.length ≤ 1000000) (y : Bool) (hy : y = (l == z)) : Call .plain 23 [.list 1 rl, .list 1 rz] (B y) := by
  refine call_of Proofs.Tryz.func23 Proofs.Tryz.call23 rfl rfl fun M C hM hC => ?_
  cbv
  split <;> rename_i h <;> (try simp only [h]) <;> (try cbv)
  · have h1 : l.length ≠ z.length := by subst hM; simp [hl, hz] at h; omega
    rw [hy, show (l == z) = false from by simp; intro e; exact h1 (by rw [e])]
  · have h1 : l.length = z.length := by subst hM; simp [hl, hz] at h; omega
    refine Loop.over Nat (fun q => [(.t 13, I q)]) 0 (fun q => l.length - q) (fun q => q ≤ l.length ∧ ∀ i, i < q → l.getD i 0 = z.getD i 0) 0 ⟨Nat.zero_le _, by omega⟩ (by (cbv; repeat' (first | exact True.intro | exact rfl | apply And.intro))) ?_
    rintro j ⟨hj, hn⟩
    cbv
    split <;> rename_i h <;> (try simp only [h]) <;> (try cbv)
    · have hlt : j < l.length := by subst hM; simpa [hl] using h
      refine nidx_ints hl hlt fun u hu => ?_
      cbv
      refine nidx_ints hz (by omega) fun v hv => ?_
      cbv
      split <;> rename_i h <;> (try simp only [h]) <;> (try cbv)
      · have h2 : u ≠ v := by subst hM; simpa using h
        rw [hy, show (l == z) = false from by simp; intro e; exact h2 (by rw [hu, hv, e])]
      · have h2 : u = v := by subst hM; simpa using h
        refine ⟨j + 1, ⟨hlt, fun i hi => ?_⟩, ?_, by (cbv; repeat' (first | exact True.intro | exact rfl | apply And.intro)) <;> (subst hM; rw [succ_i64 (by omega)])⟩
        · rcases Nat.lt_or_ge i j with h3 | h3
          · exact hn i h3
          · have : i = j := by omega
            subst this; rw [← hu, ← hv]; exact h2
        · omega
    · have hj2 : j = l.length := by subst hM; simp [hl] at h; omega
      subst hj2
      rw [hy, show (l == z) = true from by simp; exact (eq_all h1).1 hn]

theorem compareS_drop {l z : List Int} (j : Nat) (h1 : j < l.length) (h2 : j < z.length) : compareS (l.drop j) (z.drop j) = if l.getD j 0 < z.getD j 0 then -1 else if l.getD j 0 > z.getD j 0 then 1 else compareS (l.drop (j + 1)) (z.drop (j + 1)) := by
  rw [List.drop_eq_getElem_cons h1, List.drop_eq_getElem_cons h2]
  simp [compareS, List.getD_eq_getElem?_getD, h1, h2]
theorem c_compare (rl rz : List (List PV)) (l z : List Int) (hl : rl = ints l) (hz : rz = ints z) (h64 : l.length ≤ 1000000) (y : Int) (hy : y = compareS l z) : Call .plain 27 [.list 1 rl, .list 1 rz] (I y) := by
  refine call_of Proofs.Tryz.func27 Proofs.Tryz.call27 rfl rfl fun M C hM hC => ?_
  cbv
  refine Loop.over Nat (fun q => [(.t 11, I q)]) 0 (fun q => l.length - q) (fun q => q ≤ l.length ∧ q ≤ z.length ∧ y = compareS (l.drop q) (z.drop q)) 0 ⟨Nat.zero_le _, Nat.zero_le _, hy⟩ (by (cbv; repeat' (first | exact True.intro | exact rfl | apply And.intro))) ?_
  rintro j ⟨hj, hj', hn⟩
  cbv
  split <;> rename_i h <;> (try simp only [h]) <;> (try cbv)
  · have hlt : j < l.length := by subst hM; simpa [hl] using h
    refine nidx_ints hl hlt fun u hu => ?_
    cbv
    split <;> rename_i h <;> (try simp only [h]) <;> (try cbv)
    · have h1 : z.length ≤ j := by subst hM; simpa [hz] using h
      rw [hn, List.drop_eq_getElem_cons hlt, List.drop_eq_nil_of_le h1]
      rfl
    · have h1 : j < z.length := by subst hM; simpa [hz] using h
      rw [compareS_drop j hlt h1] at hn
      refine nidx_ints hz h1 fun v hv => ?_
      cbv
      rw [← hu, ← hv] at hn
      obtain ⟨c, hc, hcc⟩ : ∃ c, c = cmpS u v ∧ C .plain 48 [I u, I v] (I c) := ⟨_, rfl, use_call hC (c_cmp u v _ rfl)⟩
      refine .mk _ hcc ?_
      cbv
      split <;> rename_i h <;> (try simp only [h]) <;> (try cbv)
      · have h2 : c ≠ 0 := by subst hM; simpa using h
        have : y = c := by
          rw [hn, hc]
          unfold cmpS at hc ⊢
          by_cases h3 : u < v
          · simp [h3]
          · by_cases h4 : u > v
            · simp [h3, h4]
            · simp [h3, h4] at hc; exact absurd hc h2
        rw [this]
      · have h2 : c = 0 := by subst hM; simpa using h
        refine ⟨j + 1, ⟨hlt, h1, ?_⟩, ?_, by (cbv; repeat' (first | exact True.intro | exact rfl | apply And.intro)) <;> (subst hM; rw [succ_i64 (by omega)])⟩
        · rw [hn]
          rw [h2] at hc
          unfold cmpS at hc
          by_cases h3 : u < v
          · simp [h3] at hc
          · by_cases h4 : u > v
            · simp [h3, h4] at hc
            · simp [h3, h4]
        · omega
  · have hj2 : j = l.length := by subst hM; simp [hl] at h; omega
    subst hj2
    rw [List.drop_length] at hn
    split <;> rename_i h <;> (try simp only [h]) <;> (try cbv)
    · have h1 : l.length < z.length := by subst hM; simpa [hl, hz] using h
      rw [hn, List.drop_eq_getElem_cons h1]
      rfl
    · have h1 : z.length = l.length := by subst hM; simp [hl, hz] at h; omega
      rw [hn, ← h1, List.drop_length]
      rfl

/-- slices.IndexFunc at numbers: a closure that bears nothing. -/
theorem c_indexFunc0 (rl : List (List PV)) (l : List Int) (g : FuncId) (p : Int → Bool) (hl : rl = ints l) (h64 : l.length ≤ 1000000) (hg : ∀ v ∈ l, Call .plain g [I v] (B (p v))) (y : Int) (hy : y = idxS p l) :
    Call .plain 40 [.list 1 rl, .clo (.func g) [] []] (I y) := by
  refine call_of Proofs.Tryz.func40 Proofs.Tryz.call40 rfl rfl fun M C hM hC => ?_
  cbv
  refine Loop.over Nat (fun q => [(.t 8, I q)]) 0 (fun q => l.length - q) (fun q => q ≤ l.length ∧ ∀ i, i < q → p (l.getD i 0) = false) 0 ⟨Nat.zero_le _, by omega⟩ (by (cbv; repeat' (first | exact True.intro | exact rfl | apply And.intro))) ?_
  rintro j ⟨hj, hn⟩
  cbv
  split <;> rename_i h <;> (try simp only [h]) <;> (try cbv)
  · have hlt : j < l.length := by subst hM; simpa [hl] using h
    refine nidx_ints hl hlt fun u hu => ?_
    cbv
    obtain ⟨b, hb, hc⟩ : ∃ b, b = p u ∧ C .plain g [I u] (B b) := ⟨_, rfl, use_call hC (hg u (hu ▸ getD_mem 0 hlt))⟩
    refine .mk _ hc ?_
    cbv
    cases b
    · cbv
      refine ⟨j + 1, ⟨hlt, fun i hi => ?_⟩, ?_, by (cbv; repeat' (first | exact True.intro | exact rfl | apply And.intro)) <;> (subst hM; rw [succ_i64 (by omega)])⟩
      · rcases Nat.lt_or_ge i j with h3 | h3
        · exact hn i h3
        · have : i = j := by omega
          subst this; rw [← hu]; exact hb.symm
      · omega
    · cbv
      rw [hy, idxS_hit 0 hlt (by rw [← hu]; exact hb.symm) hn]
      rfl
  · have hj2 : j = l.length := by subst hM; simp [hl] at h; omega
    subst hj2
    rw [hy, idxS_no 0 hn]
theorem c_containsFunc0 (rl : List (List PV)) (l : List Int) (g : FuncId) (p : Int → Bool) (hl : rl = ints l) (h64 : l.length ≤ 1000000) (hg : ∀ v ∈ l, Call .plain g [I v] (B (p v))) (y : Bool) (hy : y = l.any p) :
    Call .plain 15 [.list 1 rl, .clo (.func g) [] []] (B y) := by
  refine call_of Proofs.Tryz.func15 Proofs.Tryz.call15 rfl rfl fun M C hM hC => ?_
  cbv
  obtain ⟨i, hi, hc⟩ : ∃ i, i = idxS p l ∧ C .plain 40 [.list 1 rl, .clo (.func g) [] []] (I i) := ⟨_, rfl, use_call hC (c_indexFunc0 rl l g p hl h64 hg _ rfl)⟩
  refine .mk _ hc ?_
  cbv
  subst hM
  rw [hy, real_geq, hi, idxS_nonneg]
