/- Package slices' readers, at numbers and lists of numbers. -/
import Derived.Test.YtlgoiaembdlemaaGreatDoorEnv
import Derived.Test.YtlgoiaembdlemaaGreatDoorPic
import Derived.Shelf.Sort.Plain
import Derived.Shelf.Slices.In.SortNone
import Derived.Test.YtlgoiaembdlemaaGreatDoorLay
import Derived.Shelf.Slices.CompactI
import Derived.Shelf.Slices.Reverse
import Derived.Shelf.Slices.Clone
import Derived.Ground.NamesProg
import Derived.Ground.Names2Prog
import Derived.Maps.AppendAt
import Derived.Maps.RangeWalk
import Derived.RangeFuncGives
import Derived.RangeFuncBox
import Derived.RangeFuncLeaves
import Derived.Sort.OwnSorted
import Derived.Shelf.Abstract
import Derived.WalkKit
import Derived.OwnWalkIn
import Derived.TacticsInMore
import Derived.LoopNIn
import Derived.LoopIn
import Derived.Test.YtlgoiaembdlemaaGreatDoorPid
import Derived.Shelf.Strings.Search3
import Derived.Shelf.Strings.Count
set_option linter.unusedSimpArgs false
set_option linter.unusedVariables false

/- Package slices' readers, at numbers and lists of numbers. -/
namespace Go.Pi
open Go
set_option linter.unusedVariables false

theorem c_isNaN (a : Int) : Call .plain 227 [I a] (B false) := by
  refine call_of Proofs.Tryz.func227 Proofs.Tryz.call227 rfl rfl fun M C hM hC => ?_
  cbv
  subst hM; simp
def cmpS (a b : Int) : Int := if a < b then -1 else if a > b then 1 else 0
theorem c_cmp (a b y : Int) (hy : y = cmpS a b) : Call .plain 238 [I a, I b] (I y) := by
  refine call_of Proofs.Tryz.func238 Proofs.Tryz.call238 rfl rfl fun M C hM hC => ?_
  cbv
  refine .mk _ (use_call hC (c_isNaN a)) ?_
  cbv
  refine .mk _ (use_call hC (c_isNaN b)) ?_
  cbv
  split <;> rename_i h <;> (try simp only [h]) <;> (try cbv)
  · have h1 : a < b := by subst hM; simpa using h
    rw [hy]; simp [cmpS, h1]
  · have h1 : ¬ a < b := by subst hM; simp at h; omega
    split <;> rename_i h <;> (try simp only [h]) <;> (try cbv)
    · have h2 : a > b := by subst hM; simpa using h
      rw [hy]; simp [cmpS, h1, h2]
    · have h2 : ¬ a > b := by subst hM; simp at h; omega
      rw [hy]; simp [cmpS, h1, h2]

theorem c_index (rl : List (List PV)) (l : List Int) (v : Int) (hl : rl = ints l) (h64 : l.length ≤ 1000000) (y : Int) (hy : y = idxS (fun x => x == v) l) : Call .plain 103 [.list 1 rl, I v] (I y) := by
  refine call_of Proofs.Tryz.func103 Proofs.Tryz.call103 rfl rfl fun M C hM hC => ?_
  cbv
  refine Loop.over Nat (fun q => [(.t 8, I q)]) 0 (fun q => l.length - q) (fun q => q ≤ l.length ∧ ∀ i, i < q → (l.getD i 0 == v) = false) 0 ⟨Nat.zero_le _, by omega⟩ (by (cbv; repeat' (first | exact True.intro | exact rfl | apply And.intro))) ?_
  rintro j ⟨hj, hn⟩
  cbv
  split <;> rename_i h <;> (try simp only [h]) <;> (try cbv)
  · have hlt : j < l.length := by subst hM; simpa [hl] using h
    refine nidx_ints hl hlt fun u hu => ?_
    cbv
    split <;> rename_i h <;> (try simp only [h]) <;> (try cbv)
    · have h1 : v = u := by subst hM; simpa using h
      rw [hy, idxS_hit 0 hlt (by rw [← hu, h1]; simp) hn]
      rfl
    · have h1 : ¬ v = u := by subst hM; simpa using h
      refine ⟨j + 1, ⟨hlt, fun i hi => ?_⟩, ?_, by (cbv; repeat' (first | exact True.intro | exact rfl | apply And.intro)) <;> (subst hM; rw [succ_i64 (by omega)])⟩
      · rcases Nat.lt_or_ge i j with h3 | h3
        · exact hn i h3
        · have : i = j := by omega
          subst this; rw [← hu]; simp; omega
      · omega
  · have hj2 : j = l.length := by subst hM; simp [hl] at h; omega
    subst hj2
    rw [hy, idxS_no 0 hn]
theorem contains_any (l : List Int) (v : Int) : l.contains v = l.any fun x => x == v := by
  rw [Bool.eq_iff_iff]; simp
theorem c_contains (rl : List (List PV)) (l : List Int) (v : Int) (hl : rl = ints l) (h64 : l.length ≤ 1000000) (y : Bool) (hy : y = l.contains v) : Call .plain 40 [.list 1 rl, I v] (B y) := by
  refine call_of Proofs.Tryz.func40 Proofs.Tryz.call40 rfl rfl fun M C hM hC => ?_
  rw [contains_any] at hy
  cbv
  obtain ⟨i, hi, hc⟩ : ∃ i, i = idxS (fun x => x == v) l ∧ C .plain 103 [.list 1 rl, I v] (I i) := ⟨_, rfl, use_call hC (c_index rl l v hl h64 _ rfl)⟩
  refine .mk _ hc ?_
  cbv
  subst hM
  rw [hy, real_geq, hi, idxS_nonneg]

theorem c_equal (rl rz : List (List PV)) (l z : List Int) (hl : rl = ints l) (hz : rz = ints z) (h64 : l.length ≤ 1000000) (y : Bool) (hy : y = (l == z)) : Call .plain 58 [.list 1 rl, .list 1 rz] (B y) := by
  refine call_of Proofs.Tryz.func58 Proofs.Tryz.call58 rfl rfl fun M C hM hC => ?_
  cbv
  split <;> rename_i h <;> (try simp only [h]) <;> (try cbv)
  · have h1 : l.length ≠ z.length := by subst hM; simp [hl, hz] at h; omega
    rw [hy, show (l == z) = false from by simp; intro e; exact h1 (by rw [e])]
  · have h1 : l.length = z.length := by subst hM; simp [hl, hz] at h; omega
    refine Loop.over Nat (fun q => [(.t 13, I q)]) 0 (fun q => l.length - q) (fun q => q ≤ l.length ∧ ∀ i, i < q → l.getD i 0 = z.getD i 0) 0 ⟨Nat.zero_le _, by omega⟩ (by (cbv; repeat' (first | exact True.intro | exact rfl | apply And.intro))) ?_
    rintro j ⟨hj, hn⟩
    cbv
    split <;> rename_i h <;> (try simp only [h]) <;> (try cbv)
    · have hlt : j < l.length := by subst hM; simpa [hl] using h
      refine nidx_ints hl hlt fun u hu => ?_
      cbv
      refine nidx_ints hz (by omega) fun v hv => ?_
      cbv
      split <;> rename_i h <;> (try simp only [h]) <;> (try cbv)
      · have h2 : u ≠ v := by subst hM; simpa using h
        rw [hy, show (l == z) = false from by simp; intro e; exact h2 (by rw [hu, hv, e])]
      · have h2 : u = v := by subst hM; simpa using h
        refine ⟨j + 1, ⟨hlt, fun i hi => ?_⟩, ?_, by (cbv; repeat' (first | exact True.intro | exact rfl | apply And.intro)) <;> (subst hM; rw [succ_i64 (by omega)])⟩
        · rcases Nat.lt_or_ge i j with h3 | h3
          · exact hn i h3
          · have : i = j := by omega
            subst this; rw [← hu, ← hv]; exact h2
        · omega
    · have hj2 : j = l.length := by subst hM; simp [hl] at h; omega
      subst hj2
      rw [hy, show (l == z) = true from by simp; exact (eq_all h1).1 hn]

theorem compareS_drop {l z : List Int} (j : Nat) (h1 : j < l.length) (h2 : j < z.length) : compareS (l.drop j) (z.drop j) = if l.getD j 0 < z.getD j 0 then -1 else if l.getD j 0 > z.getD j 0 then 1 else compareS (l.drop (j + 1)) (z.drop (j + 1)) := by
  rw [List.drop_eq_getElem_cons h1, List.drop_eq_getElem_cons h2]
  simp [compareS, List.getD_eq_getElem?_getD, h1, h2]
theorem c_compare (rl rz : List (List PV)) (l z : List Int) (hl : rl = ints l) (hz : rz = ints z) (h64 : l.length ≤ 1000000) (y : Int) (hy : y = compareS l z) : Call .plain 198 [.list 1 rl, .list 1 rz] (I y) := by
  refine call_of Proofs.Tryz.func198 Proofs.Tryz.call198 rfl rfl fun M C hM hC => ?_
  cbv
  refine Loop.over Nat (fun q => [(.t 11, I q)]) 0 (fun q => l.length - q) (fun q => q ≤ l.length ∧ q ≤ z.length ∧ y = compareS (l.drop q) (z.drop q)) 0 ⟨Nat.zero_le _, Nat.zero_le _, hy⟩ (by (cbv; repeat' (first | exact True.intro | exact rfl | apply And.intro))) ?_
  rintro j ⟨hj, hj', hn⟩
  cbv
  split <;> rename_i h <;> (try simp only [h]) <;> (try cbv)
  · have hlt : j < l.length := by subst hM; simpa [hl] using h
    refine nidx_ints hl hlt fun u hu => ?_
    cbv
    split <;> rename_i h <;> (try simp only [h]) <;> (try cbv)
    · have h1 : z.length ≤ j := by subst hM; simpa [hz] using h
      rw [hn, List.drop_eq_getElem_cons hlt, List.drop_eq_nil_of_le h1]
      rfl
    · have h1 : j < z.length := by subst hM; simpa [hz] using h
      rw [compareS_drop j hlt h1] at hn
      refine nidx_ints hz h1 fun v hv => ?_
      cbv
      rw [← hu, ← hv] at hn
      obtain ⟨c, hc, hcc⟩ : ∃ c, c = cmpS u v ∧ C .plain 238 [I u, I v] (I c) := ⟨_, rfl, use_call hC (c_cmp u v _ rfl)⟩
      refine .mk _ hcc ?_
      cbv
      split <;> rename_i h <;> (try simp only [h]) <;> (try cbv)
      · have h2 : c ≠ 0 := by subst hM; simpa using h
        have : y = c := by
          rw [hn, hc]
          unfold cmpS at hc ⊢
          by_cases h3 : u < v
          · simp [h3]
          · by_cases h4 : u > v
            · simp [h3, h4]
            · simp [h3, h4] at hc; exact absurd hc h2
        rw [this]
      · have h2 : c = 0 := by subst hM; simpa using h
        refine ⟨j + 1, ⟨hlt, h1, ?_⟩, ?_, by (cbv; repeat' (first | exact True.intro | exact rfl | apply And.intro)) <;> (subst hM; rw [succ_i64 (by omega)])⟩
        · rw [hn]
          rw [h2] at hc
          unfold cmpS at hc
          by_cases h3 : u < v
          · simp [h3] at hc
          · by_cases h4 : u > v
            · simp [h3, h4] at hc
            · simp [h3, h4]
        · omega
  · have hj2 : j = l.length := by subst hM; simp [hl] at h; omega
    subst hj2
    rw [List.drop_length] at hn
    split <;> rename_i h <;> (try simp only [h]) <;> (try cbv)
    · have h1 : l.length < z.length := by subst hM; simpa [hl, hz] using h
      rw [hn, List.drop_eq_getElem_cons h1]
      rfl
    · have h1 : z.length = l.length := by subst hM; simp [hl, hz] at h; omega
      rw [hn, ← h1, List.drop_length]
      rfl

/-- slices.IndexFunc at numbers: a closure that bears nothing. -/
theorem c_indexFunc0 (rl : List (List PV)) (l : List Int) (g : FuncId) (p : Int → Bool) (hl : rl = ints l) (h64 : l.length ≤ 1000000) (hg : ∀ v ∈ l, Call .plain g [I v] (B (p v))) (y : Int) (hy : y = idxS p l) :
    Call .plain 207 [.list 1 rl, .clo (.func g) [] []] (I y) := by
  refine call_of Proofs.Tryz.func207 Proofs.Tryz.call207 rfl rfl fun M C hM hC => ?_
  cbv
  refine Loop.over Nat (fun q => [(.t 8, I q)]) 0 (fun q => l.length - q) (fun q => q ≤ l.length ∧ ∀ i, i < q → p (l.getD i 0) = false) 0 ⟨Nat.zero_le _, by omega⟩ (by (cbv; repeat' (first | exact True.intro | exact rfl | apply And.intro))) ?_
  rintro j ⟨hj, hn⟩
  cbv
  split <;> rename_i h <;> (try simp only [h]) <;> (try cbv)
  · have hlt : j < l.length := by subst hM; simpa [hl] using h
    refine nidx_ints hl hlt fun u hu => ?_
    cbv
    obtain ⟨b, hb, hc⟩ : ∃ b, b = p u ∧ C .plain g [I u] (B b) := ⟨_, rfl, use_call hC (hg u (hu ▸ getD_mem 0 hlt))⟩
    refine .mk _ hc ?_
    cbv
    cases b
    · cbv
      refine ⟨j + 1, ⟨hlt, fun i hi => ?_⟩, ?_, by (cbv; repeat' (first | exact True.intro | exact rfl | apply And.intro)) <;> (subst hM; rw [succ_i64 (by omega)])⟩
      · rcases Nat.lt_or_ge i j with h3 | h3
        · exact hn i h3
        · have : i = j := by omega
          subst this; rw [← hu]; exact hb.symm
      · omega
    · cbv
      rw [hy, idxS_hit 0 hlt (by rw [← hu]; exact hb.symm) hn]
      rfl
  · have hj2 : j = l.length := by subst hM; simp [hl] at h; omega
    subst hj2
    rw [hy, idxS_no 0 hn]
theorem c_containsFunc0 (rl : List (List PV)) (l : List Int) (g : FuncId) (p : Int → Bool) (hl : rl = ints l) (h64 : l.length ≤ 1000000) (hg : ∀ v ∈ l, Call .plain g [I v] (B (p v))) (y : Bool) (hy : y = l.any p) :
    Call .plain 142 [.list 1 rl, .clo (.func g) [] []] (B y) := by
  refine call_of Proofs.Tryz.func142 Proofs.Tryz.call142 rfl rfl fun M C hM hC => ?_
  cbv
  obtain ⟨i, hi, hc⟩ : ∃ i, i = idxS p l ∧ C .plain 207 [.list 1 rl, .clo (.func g) [] []] (I i) := ⟨_, rfl, use_call hC (c_indexFunc0 rl l g p hl h64 hg _ rfl)⟩
  refine .mk _ hc ?_
  cbv
  subst hM
  rw [hy, real_geq, hi, idxS_nonneg]
end Go.Pi

/- Package slices' readers, with closures; Concat. -/
namespace Go.Pi
open Go
set_option linter.unusedVariables false

theorem c_indexFunc1 (rl : List (List PV)) (l : List Int) (g : FuncId) (cs : List PV) (p : Int → Bool) (hl : rl = ints l) (h64 : l.length ≤ 1000000) (hg : ∀ v ∈ l, Call .plain g [I v, .ref cs] (B (p v))) (y : Int) (hy : y = idxS p l) :
    Call .plain 207 [.list 1 rl, .clo (.func g) [] [.ref cs]] (I y) := by
  refine call_of Proofs.Tryz.func207 Proofs.Tryz.call207 rfl rfl fun M C hM hC => ?_
  cbv
  refine Loop.over Nat (fun q => [(.t 8, I q)]) 0 (fun q => l.length - q) (fun q => q ≤ l.length ∧ ∀ i, i < q → p (l.getD i 0) = false) 0 ⟨Nat.zero_le _, by omega⟩ (by (cbv; repeat' (first | exact True.intro | exact rfl | apply And.intro))) ?_
  rintro j ⟨hj, hn⟩
  cbv
  split <;> rename_i h <;> (try simp only [h]) <;> (try cbv)
  · have hlt : j < l.length := by subst hM; simpa [hl] using h
    refine nidx_ints hl hlt fun u hu => ?_
    cbv
    obtain ⟨b, hb, hc⟩ : ∃ b, b = p u ∧ C .plain g [I u, .ref cs] (B b) := ⟨_, rfl, use_call hC (hg u (hu ▸ getD_mem 0 hlt))⟩
    refine .mk _ hc ?_
    cbv
    cases b
    · cbv
      refine ⟨j + 1, ⟨hlt, fun i hi => ?_⟩, ?_, by (cbv; repeat' (first | exact True.intro | exact rfl | apply And.intro)) <;> (subst hM; rw [succ_i64 (by omega)])⟩
      · rcases Nat.lt_or_ge i j with h3 | h3
        · exact hn i h3
        · have : i = j := by omega
          subst this; rw [← hu]; exact hb.symm
      · omega
    · cbv
      rw [hy, idxS_hit 0 hlt (by rw [← hu]; exact hb.symm) hn]
      rfl
  · have hj2 : j = l.length := by subst hM; simp [hl] at h; omega
    subst hj2
    rw [hy, idxS_no 0 hn]
theorem c_containsFunc1 (rl : List (List PV)) (l : List Int) (g : FuncId) (cs : List PV) (p : Int → Bool) (hl : rl = ints l) (h64 : l.length ≤ 1000000) (hg : ∀ v ∈ l, Call .plain g [I v, .ref cs] (B (p v))) (y : Bool) (hy : y = l.any p) :
    Call .plain 142 [.list 1 rl, .clo (.func g) [] [.ref cs]] (B y) := by
  refine call_of Proofs.Tryz.func142 Proofs.Tryz.call142 rfl rfl fun M C hM hC => ?_
  cbv
  refine callI hC (c_indexFunc1 rl l g cs p hl h64 hg _ rfl) fun i hi => ?_
  cbv
  subst hM
  rw [hy, real_geq, hi, idxS_nonneg]

theorem c_indexFuncR (rl : List (List PV)) (l : List (List Int)) (g : FuncId) (cs : List PV) (p : List Int → Bool) (hl : rl = rowsOf l) (h64 : l.length ≤ 1000000) (hg : ∀ v ∈ l, ∀ r, r = ints v → Call .plain g [.list 1 r, .ref cs] (B (p v))) (y : Int) (hy : y = idxS p l) :
    Call .plain 237 [.list 1 rl, .clo (.func g) [] [.ref cs]] (I y) := by
  refine call_of Proofs.Tryz.func237 Proofs.Tryz.call237 rfl rfl fun M C hM hC => ?_
  cbv
  refine Loop.over Nat (fun q => [(.t 8, I q)]) 0 (fun q => l.length - q) (fun q => q ≤ l.length ∧ ∀ i, i < q → p (l.getD i []) = false) 0 ⟨Nat.zero_le _, by omega⟩ (by (cbv; repeat' (first | exact True.intro | exact rfl | apply And.intro))) ?_
  rintro j ⟨hj, hn⟩
  cbv
  split <;> rename_i h <;> (try simp only [h]) <;> (try cbv)
  · have hlt : j < l.length := by subst hM; simpa [hl] using h
    refine nidx_rows hl hlt fun u hu => ?_
    cbv
    obtain ⟨b, hb, hc⟩ : ∃ b, b = p (l.getD j []) ∧ C .plain g [.list 1 u, .ref cs] (B b) := ⟨_, rfl, use_call hC (hg _ (getD_mem [] hlt) u hu)⟩
    refine .mk _ hc ?_
    cbv
    cases b
    · cbv
      refine ⟨j + 1, ⟨hlt, fun i hi => ?_⟩, ?_, by (cbv; repeat' (first | exact True.intro | exact rfl | apply And.intro)) <;> (subst hM; rw [succ_i64 (by omega)])⟩
      · rcases Nat.lt_or_ge i j with h3 | h3
        · exact hn i h3
        · have : i = j := by omega
          subst this; exact hb.symm
      · omega
    · cbv
      rw [hy, idxS_hit [] hlt hb.symm hn]
      rfl
  · have hj2 : j = l.length := by subst hM; simp [hl] at h; omega
    subst hj2
    rw [hy, idxS_no [] hn]
theorem c_containsFuncR (rl : List (List PV)) (l : List (List Int)) (g : FuncId) (cs : List PV) (p : List Int → Bool) (hl : rl = rowsOf l) (h64 : l.length ≤ 1000000) (hg : ∀ v ∈ l, ∀ r, r = ints v → Call .plain g [.list 1 r, .ref cs] (B (p v))) (y : Bool) (hy : y = l.any p) :
    Call .plain 193 [.list 1 rl, .clo (.func g) [] [.ref cs]] (B y) := by
  refine call_of Proofs.Tryz.func193 Proofs.Tryz.call193 rfl rfl fun M C hM hC => ?_
  cbv
  refine callI hC (c_indexFuncR rl l g cs p hl h64 hg _ rfl) fun i hi => ?_
  cbv
  subst hM
  rw [hy, real_geq, hi, idxS_nonneg]

theorem c_grow (n : Int) (h0 : 0 ≤ n) (h1 : n ≤ 2147483648) : Call .fresh 242 [.nil, I n] (.arr 0 3 1 []) := by
  refine fresh_of Proofs.Tryz.func242 Proofs.Tryz.call242 rfl rfl fun M C hM hC => ?_
  cbv
  split <;> rename_i h <;> (try simp only [h]) <;> (try cbv)
  · subst hM; simp at h; omega
  · have e1 : M .arith .sub .i64 n (M .arith .sub .i64 0 (Int.ofNat (M .len []))) = n := by
      subst hM
      show IntKind.i64.wrap (n - IntKind.i64.wrap (0 - 0)) = n
      rw [wrap_i64 (x := 0 - 0) (by omega) (by omega), wrap_i64 (by omega) (by omega)]; omega
    split <;> rename_i h <;> (try simp only [h]) <;> (try cbv)
    · refine .mk (by decide) (.mk (by decide) ?_)
      cbv
      refine .mk (by rw [show M .arith .sub .i64 n _ = n from e1]; exact h0) (.mk (by rw [show M .arith .sub .i64 n _ = n from e1]; exact h1) ?_)
      cbv
      refine .cut (.mk (by subst hM; decide) (.mk (by subst hM; exact Int.natCast_nonneg _) ?_))
      cbv
      subst hM
      simp

def rowsRaw (L : List (List (List PV))) : List (List PV) := L.map fun r => [.list 1 r]
@[simp] theorem rowsRaw_len (L : List (List (List PV))) : (rowsRaw L).length = L.length := by simp [rowsRaw]
theorem idx_raw {R : List (List PV)} {L : List (List (List PV))} {j : Nat} {K : List PV → Prop} (hR : R = rowsRaw L) (h1 : j < L.length) (k : ∀ r, r = L.getD j [] → K [.list 1 r]) : Idx R (Int.ofNat j) K := by
  subst hR
  refine .mk [.list 1 (L.getD j [])] (Int.natCast_nonneg j) ?_ (k _ rfl)
  simp [rowsRaw, List.getD_eq_getElem?_getD, h1]
def lenL (L : List (List (List PV))) (q : Nat) : Nat := (L.take q).flatten.length
theorem lenL_succ {L : List (List (List PV))} {q : Nat} (h : q < L.length) : lenL L (q + 1) = lenL L q + (L.getD q []).length := by
  unfold lenL
  rw [take_succ_getD [] h]
  simp
theorem lenL_le {L : List (List (List PV))} (h : ∀ r ∈ L, r.length ≤ 1000000) : ∀ q, q ≤ L.length → lenL L q ≤ q * 1000000
  | 0, _ => by simp [lenL]
  | q + 1, hq => by
    rw [lenL_succ hq]
    have := lenL_le h q (by omega)
    have := h _ (getD_mem [] hq)
    rw [Nat.add_mul]; omega
theorem c_concat (rl : List (List PV)) (L : List (List (List PV))) (hl : rl = rowsRaw L) (hr : ∀ r ∈ L, r.length ≤ 1000000) (h64 : L.length ≤ 1000) (r : List (List PV)) (hy : r = L.flatten) : Call .plain 208 [.list 1 rl] (.list 1 r) := by
  refine call_of Proofs.Tryz.func208 Proofs.Tryz.call208 rfl rfl fun M C hM hC => ?_
  cbv
  refine Loop.over (Nat × Int) (fun q => [(.t 11, I q.1), (.t 3, I q.2)]) 0 (fun q => L.length - q.1) (fun q => q.1 ≤ L.length ∧ q.2 = lenL L q.1) (0, 0) ⟨Nat.zero_le _, by simp [lenL]⟩ (by (cbv; repeat' (first | exact True.intro | exact rfl | apply And.intro))) ?_
  rintro ⟨j, n⟩ ⟨hj, hn⟩
  simp only at hj hn
  have hle := lenL_le hr j hj
  cbv
  split <;> rename_i h <;> (try simp only [h]) <;> (try cbv) <;> (try simp only [ncast] at *)
  · have hlt : j < L.length := by subst hM; simpa [hl] using h
    refine idx_raw hl hlt fun u hu => ?_
    cbv
    have hm := hr _ (getD_mem [] hlt)
    rw [← hu] at hm
    have hs := lenL_succ hlt
    rw [← hu] at hs
    (try simp only [ncast] at *)
    have e1 : M .arith .add .i64 n (Int.ofNat (M .len u)) = lenL L (j + 1) := by
      subst hM
      show IntKind.i64.wrap (n + (u.length : Int)) = _
      rw [wrap_i64 (by omega) (by omega), hs, hn]; simp
    split <;> rename_i h <;> (try simp only [h]) <;> (try cbv) <;> (try simp only [ncast] at *)
    · have h2 : M .arith .add .i64 n (Int.ofNat (M .len u)) < 0 := by subst hM; simpa using h
      rw [e1] at h2
      omega
    · refine ⟨⟨j + 1, _⟩, ⟨hlt, e1⟩, ?_, by (cbv; repeat' (first | exact True.intro | exact rfl | apply And.intro)) <;> (subst hM; rw [succ_i64 (by omega)])⟩
      simp only; omega
  · have hj2 : j = L.length := by subst hM; simp [hl] at h; omega
    subst hj2
    refine callF hC (c_grow n (by omega) (by omega)) fun z hz => ?_
    cbv
    have hz : z = (L.take 0).flatten := by simpa using hz
    refine Loop.over (Nat × List (List PV)) (fun q => [(.t 27, I q.1), (.t 24, .junk), (.t 6, .own 0 0), (.a 0, .arr 0 3 1 q.2), (.i 0, .inf true 0)]) 1 (fun q => L.length - q.1) (fun q => q.1 ≤ L.length ∧ q.2 = (L.take q.1).flatten) (0, z) ⟨Nat.zero_le _, hz⟩ (by (cbv; repeat' (first | exact True.intro | exact rfl | apply And.intro))) ?_
    rintro ⟨j, q⟩ ⟨hj, hq⟩
    simp only at hj hq
    cbv
    split <;> rename_i h <;> (try simp only [h]) <;> (try cbv)
    · have hlt : j < L.length := by subst hM; simpa [hl] using h
      refine idx_raw hl hlt fun u hu => ?_
      cbv
      have hm := hr _ (getD_mem [] hlt)
      rw [← hu] at hm
      have h1 := lenL_le hr j hj
      unfold lenL at h1
      have e1 : M .app q u = (L.take (j + 1)).flatten := by
        subst hM
        rw [take_succ_getD [] hlt, ← hu, hq]; simp
      refine .mk (by subst hM; simp [hq] at h1 ⊢; omega) ?_
      cbv
      refine ⟨⟨j + 1, _⟩, ⟨hlt, e1⟩, ?_, by (cbv; repeat' (first | exact True.intro | exact rfl | apply And.intro)) <;> (subst hM; rw [succ_i64 (by omega)])⟩
      simp only; omega
    · have hj2 : j = L.length := by subst hM; simp [hl] at h; omega
      subst hj2
      rw [List.take_length] at hq
      exact ⟨hq.trans hy.symm, trivial⟩
end Go.Pi

/- slices.Sorted over slices.Values, at numbers: the kit's worked walks of the library's iterators (at a toy), turned to this seat. -/
namespace Go.Proofs
open Go.RowKit Go.Maps Go.Sort Go.Shelf

attribute [local go_sem] Oper.semAt_some
def encPi (x : Int) : Value := .int .i64 x
/-- An iterator that gives what S says, whatever is done with it, so long as nothing that lay in w turns. -/
def PiGives (F : Fence) (n : Nat) (P : Program) (g : Nat) (lb : Array Value) (enc : Int → Value) (S : List Int → Prop) (N : Nat) (w : World) : Prop :=
  ∀ (l : Nat) (J : List Int → World → Prop) (W : World), Below w.heap.size w W → (∀ s W', J s W' → Below w.heap.size w W') →
    (∀ pre x W1, J pre W1 → pre.length < N → YieldAt F (n - 1) P l #[enc x] W1 fun e W' => e = .returned (.bool true) ∧ J (pre ++ [x]) W' ∧ KeepsWalks W1 W') →
    J [] W →
    CallsIn F n P g (#[.func (.yield l) #[] #[]] ++ lb) W fun e W' => (∃ v, e = .returned v) ∧ ∃ xs, S xs ∧ J xs W'

def Tryz.piapAssign : Code := (Code.region 2 #[{ dst := some 5, op := Op.assign (Operand.tmp 7), type := 3, pos := "iter.go:51", after := #[], guard := none }] false)
def Tryz.piapBody : Code := (Code.block 1 (Code.region 3 #[{ dst := some 8, op := Op.load 25 (Operand.tmp 2), type := 25, pos := "iter.go:52", after := #[], guard := none }, { dst := some 9, op := Op.move (Operand.tmp 5), type := 3, pos := "iter.go:52", after := #[], guard := none }, { dst := some 10, op := Op.buildSlice 25 1 #[(0, Operand.tmp 9)], type := 25, pos := "iter.go:52", after := #[{ on := 1, ground := Ground.data }], guard := none }, { dst := some 11, op := Op.call { callee := Callee.builtin Builtin.append, args := #[Operand.tmp 8, Operand.tmp 10], argTypes := #[25, 25] }, type := 25, pos := "iter.go:52", after := #[{ on := 0, ground := Ground.data }, { on := 2, ground := Ground.data }], guard := none }, { dst := none, op := Op.store 25 (Operand.tmp 2) (Operand.tmp 11), type := 0, pos := "iter.go:52", after := #[{ on := 3, ground := Ground.data }, { on := 3, ground := Ground.chain }, { on := 0, ground := Ground.phase }, { on := 1, ground := Ground.phase }, { on := 2, ground := Ground.phase }, { on := 3, ground := Ground.phase }], guard := none }] false))
/-- The loop's record: AppendSeq's temporaries as they stood at the entering: 's' boxed in block Bs; sv: the iterator's value. -/
def Tryz.piapRec (fn : FuncId) (sv : Value) (Bs D : Nat) (st : LoopState) (pend : Option Code) : Loop :=
  { state := st, pending := pend, fn, tmps := #[.slice none 0 0, sv, .pointer (some ⟨Bs, 0, none⟩), undef, .slice none 0 0, undef, sv, undef, undef, undef, undef, undef, undef], params := #[7], assign := Tryz.piapAssign, body := Tryz.piapBody, defers := D }

/-- BETWEEN TWO ROUNDS: the box holds a slice that owns, in a block of the call's own, what has come so far; IT IS nil JUST AS LONG AS NOTHING HAS COME; nothing that lay before the call has turned. -/
structure Tryz.piApAt (w0 : World) (fn : FuncId) (sv : Value) (Bs l D : Nat) (ss : List Int) (W : World) : Prop where
  box : ∃ v, W.heap[Bs]? = some (.cells #[v] 25 (0, 0)) ∧ W.ownsRow w0.heap.size 3 1 v ss.length (ss.map encPi) ∧ (v = .slice none 0 0 ↔ ss = [])
  L : W.heap[l]? = some (.loop (Tryz.piapRec fn sv Bs D .ready none))
  K : W.heap[D]? = some (.deferred (some []))
  below : Below w0.heap.size w0 W

/-- A slice's own row is no walk's object: it abides an iterator's step. -/
theorem piOwnsRow_abides {W W' : World} {row : Option Nat} {base : Nat} {e : TypeId} {size : Nat} {v : Value} {k : Nat} {xs : List Value} (h : W.ownsRow base e size v k xs) (hg : W.grownBy W' row)
    (hrow : ∀ r, row = some r → ∃ o : Obj, W.heap[r]? = some o ∧ o.isWalk = true) : W'.ownsRow base e size v k xs := by
  refine h.kept hg ?_
  rcases h.2 with ⟨rfl, _⟩ | ⟨g, cap, cur, rfl, _, hgb, _⟩
  · exact .inl rfl
  · refine .inr fun e' => ?_
    obtain ⟨o, ho, hw⟩ := hrow g (by simpa [Value.ownBlock] using e'.symm)
    rw [hgb] at ho; cases ho; cases hw

theorem Tryz.piap_abides (w0 : World) (fn : FuncId) (sv : Value) (Bs l D B : Nat) (hB : w0.heap.size ≤ B) : AbidesFrom B (Tryz.piApAt w0 fn sv Bs l D) := fun s W W' row h hg hrow => by
  have hrow' : ∀ r, row = some r → ∃ o : Obj, W.heap[r]? = some o ∧ o.isWalk = true := fun r e => (hrow r e).2
  obtain ⟨v, hv, hr, hn⟩ := h.box
  exact ⟨⟨v, (grownBy_keeps hg hrow' hv rfl).trans hv, piOwnsRow_abides hr hg hrow', hn⟩, (grownBy_keeps hg hrow' h.L rfl).trans h.L, (grownBy_keeps hg hrow' h.K rfl).trans h.K,
    h.below.grown hg h.below.size (fun k e => Nat.le_trans hB (hrow k e).1)⟩

theorem pi_grownBy_putObj (W : World) (l : Nat) (o : Obj) : W.grownBy (W.putObj l o) (some l) :=
  ⟨rfl, rfl, rfl, by simp, fun k _ hk => World.putObj_heap_other (fun e => hk (by rw [e]))⟩
theorem pi_grownBy_setCell0 (W : World) (b : Nat) (v : Value) : W.grownBy (W.setCell ⟨b, 0, none⟩ v) (some b) :=
  ⟨rfl, rfl, rfl, (KeepsWalks.setCell W _ v).size, fun k _ hk => Below.heap_setCell _ _ _ k (fun e => hk (by rw [e]))⟩
/-- A slice's own row is not a block that holds something else than cells of its element's type. -/
theorem pi_ownsRow_ne {W : World} {base : Nat} {e : TypeId} {size : Nat} {v : Value} {k : Nat} {xs : List Value} (h : W.ownsRow base e size v k xs) {j : Nat} {o : Obj} (hj : W.heap[j]? = some o) (hno : ∀ cur, o ≠ .cells cur e (0, 0)) :
    v.ownBlock = none ∨ v.ownBlock ≠ some j := by
  rcases h.2 with ⟨rfl, _⟩ | ⟨g, cap, cur, rfl, _, hgb, _⟩
  · exact .inl rfl
  · refine .inr fun e' => ?_
    have : g = j := by simpa [Value.ownBlock] using e'
    subst this; rw [hgb] at hj; cases hj; exact hno cur rfl
theorem pi_cell_of_box {W : World} {B : Nat} {v : Value} {t : TypeId} (h : W.heap[B]? = some (.cells #[v] t (0, 0))) : W.cell? ⟨B, 0, none⟩ = some v ∧ W.frozen? ⟨B, 0, none⟩ = false := by
  constructor <;> simp [World.cell?, World.frozen?, h]

theorem pi_heap_setCell_box {W : World} {B : Nat} {v : Value} {t : TypeId} (v' : Value) (h : W.heap[B]? = some (.cells #[v] t (0, 0))) : (W.setCell ⟨B, 0, none⟩ v').heap[B]? = some (.cells #[v'] t (0, 0)) := by
  obtain ⟨hlt, hk⟩ := Array.getElem?_eq_some_iff.1 h
  show (W.heap.modify B _)[B]? = _
  rw [Array.getElem?_eq_getElem (by rw [Array.size_modify]; exact hlt), Array.getElem_modify_self, hk]
  rfl
theorem pi_ownsRow_not_walk {W : World} {base : Nat} {e : TypeId} {size : Nat} {v : Value} {k : Nat} {xs : List Value} (h : W.ownsRow base e size v k xs) : ∀ (j : Nat) (o : Obj), v.ownBlock = some j → W.heap[j]? = some o → o.isWalk = false := by
  intro j o hj ho
  rcases h.2 with ⟨rfl, _⟩ | ⟨g, cap, cur, rfl, _, hgb, _⟩
  · simp [Value.ownBlock] at hj
  · have : g = j := by simpa [Value.ownBlock] using hj
    subst this; rw [hgb] at ho; cases ho; rfl

theorem Tryz.piinfo26 : (Tryz.prog.info? 3).map (fun i => (i.zero, i.size, i.bytes)) = some (some (.int .i64 0), 1, 8) := by kernel_rfl

set_option maxRecDepth 100000 in
set_option maxHeartbeats 2000000 in
theorem Tryz.piapYield (F : Fence) (m : Nat) (w0 : World) (fn : FuncId) (hfn : F.fn fn) (sv : Value) (Bs l D : Nat) (hBl : Bs ≠ l) (hDl : D ≠ l) (hDB : D ≠ Bs) (h0B : w0.heap.size ≤ Bs) (h0l : w0.heap.size ≤ l)
    (N : Nat) (hN : N ≤ maxLen) (hNb : N * 8 ≤ 140737488355328) (ss : List Int) (x : Int) (W : World) (h : Tryz.piApAt w0 fn sv Bs l D ss W) (hlen : ss.length < N) :
    YieldAt F m Tryz.prog l #[(.int .i64 x : Value)] W fun e W' => e = .returned (.bool true) ∧ Tryz.piApAt w0 fn sv Bs l D (ss ++ [x]) W' ∧ KeepsWalks W W' := by
  obtain ⟨i0, hi, hz0, hz1, hz2⟩ := info_parts Tryz.piinfo26
  obtain ⟨v, hv, hrow, _⟩ := h.box
  refine ⟨fn, #[.slice none 0 0, sv, .pointer (some ⟨Bs, 0, none⟩), undef, .slice none 0 0, undef, sv, (.int .i64 x : Value), undef, undef, undef, undef, undef], Tryz.piapAssign, Tryz.piapBody, by simpa [Tryz.piapRec] using run_yield (P := Tryz.prog) (args := #[(.int .i64 x : Value)]) h.L rfl, roundIn_of_wpIn hfn ?_⟩
  have hl : l < W.heap.size := (Array.getElem?_eq_some_iff.1 h.L).1
  have hbr := run_beginRound (P := Tryz.prog) h.L rfl
  obtain ⟨W2, hW2⟩ : ∃ W2, W.putObj l (.loop { Tryz.piapRec fn sv Bs D .ready none with state := .busy }) = W2 := ⟨_, rfl⟩
  rw [hW2] at hbr
  have hg2 : W.grownBy W2 (some l) := by rw [← hW2]; exact pi_grownBy_putObj _ _ _
  have hk2 : KeepsWalks W W2 := by rw [← hW2]; exact KeepsWalks.putObj _ h.L rfl
  have hv2 : W2.heap[Bs]? = some (.cells #[v] 25 (0, 0)) := by rw [← hW2]; exact (World.putObj_heap_other hBl).trans hv
  have hK2 : W2.heap[D]? = some (.deferred (some [])) := by rw [← hW2]; exact (World.putObj_heap_other hDl).trans h.K
  have hL2 : W2.heap[l]? = some (.loop { Tryz.piapRec fn sv Bs D .ready none with state := .busy }) := by rw [← hW2]; exact World.putObj_heap_same hl
  have hrow2 : W2.ownsRow w0.heap.size 3 1 v ss.length (ss.map encPi) := hrow.kept hg2 (pi_ownsRow_ne hrow h.L (fun cur e => by cases e))
  have hb2 : Below w0.heap.size w0 W2 := h.below.grown hg2 h.below.size (fun k e => by cases e; exact h0l)
  obtain ⟨hc2, hf2⟩ := pi_cell_of_box hv2
  have hBlt : Bs < W2.heap.size := (Array.getElem?_eq_some_iff.1 hv2).1
  have hl2 : l < W2.heap.size := (Array.getElem?_eq_some_iff.1 hL2).1
  have hDlt : D < W2.heap.size := (Array.getElem?_eq_some_iff.1 hK2).1
  have ne_of : ∀ {j : Nat} {o : Obj}, W2.heap[j]? = some o → (∀ cur, o ≠ .cells cur 3 (0, 0)) → some j ≠ v.ownBlock := fun hj hno => by
    rcases pi_ownsRow_ne hrow2 hj hno with e | e
    · rw [e]; simp
    · exact fun e' => e e'.symm
  clear hW2
  unfold Tryz.piapAssign
  gi_wp2_with (rw [Oper.semAt_eq _ _ _ (fun c h => by cases h)]; go_simp; try go_bits)
  unfold Tryz.piapBody
  gi_wp2_with (first
    | (gi_at_builtin; refine wpListIn_append_own _ rfl _ _ 25 rfl w0.heap.size 3 i0 (.int .i64 0) 1 8 Tryz.underlying25 hi hz0 hz1 hz2 rfl (by decide) _ _ _ rfl (hrow2.alloc _) ⟨W2.heap.size, 0, none⟩ 1 1 [(.int .i64 x : Value)] rfl rfl (cell_one_new _ _ _) (by simp [Value.oneCell']) (by omega) (by omega) (by have := hb2.size; simp; omega) ?_; intro v' w3 hown' hg3 hnil3
       have hv3 : w3.heap[Bs]? = some (.cells #[v] 25 (0, 0)) := (hg3.block Bs (by simp; omega) (ne_of hv2 (fun cur e => by cases e))).trans ((Below.heap_alloc _ _ Bs hBlt).trans hv2)
       obtain ⟨hc3, hf3⟩ := pi_cell_of_box hv3
       obtain ⟨g', cap', cur', rfl, hbase', hgb', hr1, hr2, hr3, hr4⟩ : ∃ g' cap' cur', v' = .slice (some ⟨g', 0, none⟩) (ss.length + 1) cap' ∧ w0.heap.size ≤ g' ∧ w3.heap[g']? = some (.cells cur' 3 (0, 0)) ∧ ss.length + 1 ≤ cap' ∧ cap' ≤ maxLen ∧ cur'.size = cap' * 1 ∧ cur'.toList.take ((ss.length + 1) * 1) = ss.map encPi ++ [(.int .i64 x : Value)] := by
         rcases hown'.2 with ⟨_, h0⟩ | h'
         · exact absurd h0 (by omega)
         · exact h'
       go_frame)
    | (rw [Oper.semAt_eq _ _ _ (fun c h => by cases h)]; go_simp; try go_bits))
  have hg3' : (W2.alloc (.cells #[(.int .i64 x : Value)] 3)).grownBy w3 v.ownBlock := hg3
  have hL3 : w3.heap[l]? = some (.loop { Tryz.piapRec fn sv Bs D .ready none with state := .busy }) := (hg3'.block l (by simp; omega) (ne_of hL2 (fun cur e => by cases e))).trans ((Below.heap_alloc _ _ l hl2).trans hL2)
  have hK3 : w3.heap[D]? = some (.deferred (some [])) := (hg3'.block D (by simp; omega) (ne_of hK2 (fun cur e => by cases e))).trans ((Below.heap_alloc _ _ D hDlt).trans hK2)
  obtain ⟨w4, hw4⟩ : ∃ w4, w3.setCell ⟨Bs, 0, none⟩ (.slice (some ⟨g', 0, none⟩) (ss.length + 1) cap') = w4 := ⟨_, rfl⟩
  rw [hw4]
  have hg4 : w3.grownBy w4 (some Bs) := by rw [← hw4]; exact pi_grownBy_setCell0 _ _ _
  have hv4 : w4.heap[Bs]? = some (.cells #[.slice (some ⟨g', 0, none⟩) (ss.length + 1) cap'] 25 (0, 0)) := by rw [← hw4]; exact pi_heap_setCell_box _ hv3
  have hL4 : w4.heap[l]? = some (.loop { Tryz.piapRec fn sv Bs D .ready none with state := .busy }) := (hg4.block l (Array.getElem?_eq_some_iff.1 hL3).1 (fun e => hBl (by cases e; rfl))).trans hL3
  have hK4 : w4.heap[D]? = some (.deferred (some [])) := (hg4.block D (Array.getElem?_eq_some_iff.1 hK3).1 (fun e => hDB (by cases e; rfl))).trans hK3
  have hrow4 := hown'.kept hg4 (pi_ownsRow_ne hown' hv3 (fun cur e => by cases e))
  have hl4 : l < w4.heap.size := (Array.getElem?_eq_some_iff.1 hL4).1
  have hb3 : Below w0.heap.size w0 w3 := (hb2.alloc hb2.size _).grown hg3' (by have := hb2.size; simp; omega) (fun k e => (hrow2.lt k e).1)
  have hb4 : Below w0.heap.size w0 w4 := hb3.grown hg4 hb3.size (fun k e => by cases e; exact h0B)
  have hk4 : KeepsWalks W w4 := ((hk2.trans (KeepsWalks.alloc _ _)).trans (KeepsWalks.of_grownBy hg3' (pi_ownsRow_not_walk (hrow2.alloc _)))).trans (by rw [← hw4]; exact KeepsWalks.setCell _ _ _)
  clear hw4
  refine ⟨_, _, run_endRound none hL4, rfl, ⟨⟨_, (World.putObj_heap_other hBl).trans hv4, ?_, by simp⟩, World.putObj_heap_same hl4, (World.putObj_heap_other hDl).trans hK4, hb4.grown (pi_grownBy_putObj _ _ _) hb4.size (fun k e => by cases e; exact h0l)⟩, hk4.trans (KeepsWalks.putObj _ hL4 rfl)⟩
  have := hrow4.kept (pi_grownBy_putObj w4 l (.loop { { Tryz.piapRec fn sv Bs D .ready none with state := .busy } with state := if (none : Option Code).isNone then .ready else .done, pending := none })) (pi_ownsRow_ne hrow4 hL4 (fun cur e => by cases e))
  simpa [encPi] using this


set_option maxRecDepth 100000 in
set_option maxHeartbeats 2000000 in
/-- **slices.AppendSeq(nil, seq), AGAINST WHATEVER ITERATOR VALUE THAT 'SeqGives'**: it hands back a slice that owns, in a block of the call's own, JUST WHAT THE ITERATOR GAVE, IN THAT ORDER; nil JUST WHERE IT GAVE NOTHING (as Go: 'slices.Collect' of nothing is nil); nothing that lay before the call has turned. -/
theorem Tryz.piappendSeq_in (F : Fence) (n : Nat) (h11 : F.fn 259) (hro : F.round = none) (hn : 2 ≤ n) (g : Nat) (lb : Array Value) (hFg : F.fn g) (eg : ∀ args w, (callFunc g args).run Tryz.prog w = .ok (.enter g args) w)
    (S : List Int → Prop) (N : Nat) (hN : N ≤ maxLen) (hNb : N * 8 ≤ 140737488355328) (w : World) (hseq : PiGives F (n - 1) Tryz.prog g lb encPi S N w) :
    CallsIn F n Tryz.prog 259 #[.slice none 0 0, .func (.func g) #[] lb] w fun e w' => ∃ (v : Value) (ss : List Int), e = .returned v ∧ S ss ∧ w'.ownsRow w.heap.size 3 1 v ss.length (ss.map encPi) ∧ (v = .slice none 0 0 ↔ ss = []) ∧ Below w.heap.size w w' := by
  have h1 : 1 ≤ n := by omega
  refine callsIn_of_wp_marks Tryz.func259 rfl h11 ?_ hro
  simp only [Tryz.ntmps259, List.size_toArray, List.length_cons, List.length_nil, Nat.reduceAdd, Nat.reduceSub, Array.replicate_succ, Array.replicate_zero, List.push_toArray, List.append_toArray, List.nil_append, List.cons_append]
  gi_wp2
  refine wpIn_rangeFunc ?_
  intro fn hfn
  rw [hro]
  obtain ⟨W0, hW0⟩ : ∃ W0, w.alloc (.cells #[.slice none 0 0] 25) = W0 := ⟨_, rfl⟩
  have hs0 : W0.heap.size = w.heap.size + 1 := by rw [← hW0]; simp
  have hv0 : W0.heap[w.heap.size]? = some (.cells #[.slice none 0 0] 25 (0, 0)) := by rw [← hW0]; exact World.alloc_heap_new w _
  have hb0 : Below w.heap.size w W0 := by rw [← hW0]; exact (Below.refl _ w).alloc (Nat.le_refl _) _
  rw [hW0]
  obtain ⟨W1, hW1⟩ : ∃ W1, (W0.alloc (.deferred (some []))).alloc (.loop (Tryz.piapRec fn (.func (.func g) #[] lb) w.heap.size W0.heap.size .ready none)) = W1 := ⟨_, rfl⟩
  have hold : ∀ k, k < W0.heap.size → W1.heap[k]? = W0.heap[k]? := fun k hk => by
    rw [← hW1]; exact (Below.heap_alloc _ _ k (by simp; omega)).trans (Below.heap_alloc _ _ k hk)
  have hb1 : Below w.heap.size w W1 := by rw [← hW1]; exact (hb0.alloc hb0.size _).alloc (by have := hb0.size; simp; omega) _
  have hs1 : W1.heap.size = W0.heap.size + 2 := by rw [← hW1]; simp
  have hM : Tryz.piApAt w fn (.func (.func g) #[] lb) w.heap.size (W0.heap.size + 1) W0.heap.size [] W1 :=
    ⟨⟨_, (hold w.heap.size (by omega)).trans hv0, ⟨rfl, .inl ⟨rfl, rfl⟩⟩, by simp⟩,
     by rw [← hW1]; have := World.alloc_heap_new (W0.alloc (.deferred (some []))) (.loop (Tryz.piapRec fn (.func (.func g) #[] lb) w.heap.size W0.heap.size .ready none)); rwa [World.size_alloc] at this,
     by rw [← hW1]; exact (Below.heap_alloc _ _ _ (by simp)).trans (World.alloc_heap_new W0 _), hb1⟩
  refine ⟨W0.heap.size + 1, [{ target := .collected W0.heap.size, args := #[] }], W1, { target := .fn (.func g) lb, args := #[.func (.yield (W0.heap.size + 1)) #[] #[]] }, W1, g,
    #[.func (.yield (W0.heap.size + 1)) #[] #[]] ++ lb, W1, ?_, ?_, ?_, ?_, fun _ => h1, ?_⟩
  · rw [← hW1]; exact run_enterLoop_outer _ _ _ _ _
  · simp [resolve, go_sem]
  · intro f' hf'; simp [Target.leads] at hf'; subst hf'; exact hFg
  · simp [invoke, go_sem, eg]
  · refine (hseq (W0.heap.size + 1) (Tryz.piApAt w fn (.func (.func g) #[] lb) w.heap.size (W0.heap.size + 1) W0.heap.size) W1 hb1 (fun _ _ h => h.below)
      (fun pre x W hJ hl => Tryz.piapYield F (n - 1 - 1) w fn hfn _ w.heap.size (W0.heap.size + 1) W0.heap.size (by omega) (by omega) (by omega) (Nat.le_refl _) (by omega) N hN hNb pre x W hJ hl) hM).mono ?_
    rintro e W2 ⟨⟨v0, rfl⟩, ss, hS, h2⟩
    obtain ⟨v, hv, hrow, hnil⟩ := h2.box
    have hend := run_endLoop (P := Tryz.prog) h2.L (by simp [Tryz.piapRec])
    obtain ⟨W3, hW3⟩ : ∃ W3, W2.putObj (W0.heap.size + 1) (.loop { Tryz.piapRec fn (.func (.func g) #[] lb) w.heap.size W0.heap.size .ready none with state := .exhausted }) = W3 := ⟨_, rfl⟩
    rw [hW3] at hend
    have hg3 : W2.grownBy W3 (some (W0.heap.size + 1)) := by rw [← hW3]; exact pi_grownBy_putObj _ _ _
    have hv3 : W3.heap[w.heap.size]? = some (.cells #[v] 25 (0, 0)) := by rw [← hW3]; exact (World.putObj_heap_other (by omega)).trans hv
    have hK3 : W3.heap[W0.heap.size]? = some (.deferred (some [])) := by rw [← hW3]; exact (World.putObj_heap_other (by omega)).trans h2.K
    have hrow3 := hrow.kept hg3 (pi_ownsRow_ne hrow h2.L (fun cur e => by cases e))
    have hb3 : Below w.heap.size w W3 := h2.below.grown hg3 h2.below.size (fun k e => by cases e; omega)
    obtain ⟨hc3, hf3⟩ := pi_cell_of_box hv3
    clear hW3
    refine ⟨none, W3, hend, ?_⟩
    gi_wp2
    rw [← hs0]
    refine ⟨by simp, .inl ⟨_, _, rfl, run_takeDeferred hK3, ?_⟩⟩
    exact ⟨_, results_tmp rfl _ _ _, v, ss, rfl, hS, hrow3.kept (pi_grownBy_putObj _ _ _) (pi_ownsRow_ne hrow3 hK3 (fun cur e => by cases e)), hnil, hb3.grown (pi_grownBy_putObj _ _ _) hb3.size (fun k e => by cases e; omega)⟩


set_option maxHeartbeats 1000000 in
/-- **slices.Collect(seq), AGAINST WHATEVER ITERATOR VALUE.** -/
theorem Tryz.picollect_in (F : Fence) (n : Nat) (h8 : F.fn 244) (h11 : F.fn 259) (hro : F.round = none) (hn : 3 ≤ n) (g : Nat) (lb : Array Value) (hFg : F.fn g) (eg : ∀ args w, (callFunc g args).run Tryz.prog w = .ok (.enter g args) w)
    (S : List Int → Prop) (N : Nat) (hN : N ≤ maxLen) (hNb : N * 8 ≤ 140737488355328) (w : World) (hseq : PiGives F (n - 1 - 1) Tryz.prog g lb encPi S N w) :
    CallsIn F n Tryz.prog 244 #[.func (.func g) #[] lb] w fun e w' => ∃ (v : Value) (ss : List Int), e = .returned v ∧ S ss ∧ w'.ownsRow w.heap.size 3 1 v ss.length (ss.map encPi) ∧ (v = .slice none 0 0 ↔ ss = []) ∧ Below w.heap.size w w' := by
  have h1 : 1 ≤ n := by omega
  refine callsIn_of_wp Tryz.func244 rfl h8 ?_ hro
  simp only [Tryz.ntmps244, List.size_toArray, List.length_cons, List.length_nil, Nat.reduceAdd, Nat.reduceSub, Array.replicate_succ, Array.replicate_zero, List.push_toArray, List.append_toArray, List.nil_append, List.cons_append]
  gi_wp2_with (gi_at_call 259; refine (Tryz.piappendSeq_in F (n - 1) h11 hro (by omega) g lb hFg eg S N hN hNb _ hseq).mono ?_; rintro e w' ⟨v, ss, rfl, hS, hrow, hnil, hb⟩)
  go_ret
  exact ⟨v, ss, rfl, hS, hrow, hnil, hb⟩

theorem pi_ownsRow_base {W : World} {base base' : Nat} {e : TypeId} {size : Nat} {v : Value} {k : Nat} {xs : List Value} (h : W.ownsRow base e size v k xs) (hb : base' ≤ base) : W.ownsRow base' e size v k xs := by
  refine ⟨h.1, ?_⟩
  rcases h.2 with hn | ⟨g, cap, cur, hv, hbg, rest⟩
  · exact .inl hn
  · exact .inr ⟨g, cap, cur, hv, Nat.le_trans hb hbg, rest⟩

set_option maxHeartbeats 1000000 in
def PiUpto (f : Nat → Int) (k : Nat) : List Int := (List.range k).map f
theorem PiUpto_succ (f : Nat → Int) (k : Nat) : PiUpto f (k + 1) = PiUpto f k ++ [f k] := by simp [PiUpto, List.range_succ]
theorem PiUpto_length (f : Nat → Int) (k : Nat) : (PiUpto f k).length = k := by simp [PiUpto]
theorem PiUpto_all (zs : List Int) : PiUpto (fun j => zs[j]?.getD 0) zs.length = zs := by
  apply List.ext_getElem
  · simp [PiUpto]
  · intro i h1 h2
    simp [PiUpto, h2]

set_option maxRecDepth 100000 in
set_option maxHeartbeats 2000000 in
/-- slices.Values's closure, over a slice of numbers that lies below. -/
theorem Tryz.piValues1 (F : Fence) (n : Nat) (h7 : F.fn 245) (hro : F.round = none) (hn : 1 ≤ n) (l Bs Bo b off len cap : Nat) (zs : List Int) (hreach : len ≤ 1000000) (w : World) (hBs : Bs < w.heap.size) (hb : b < w.heap.size)
    (hBc : w.cell? ⟨Bs, Bo, none⟩ = some (.slice (some ⟨b, off, none⟩) len cap)) (hc : ∀ j, j < len → w.cell? ⟨b, off + j, none⟩ = some (.int .i64 (zs[j]?.getD 0)))
    (J : List Int → World → Prop) (hJ : ∀ s W', J s W' → Below w.heap.size w W')
    (hY : ∀ pre x W, J pre W → pre.length < len → YieldAt F (n - 1) Tryz.prog l #[.int .i64 x] W fun e W' => e = .returned (.bool true) ∧ J (pre ++ [x]) W' ∧ KeepsWalks W W')
    (W : World) (h0 : J [] W) :
    CallsIn F n Tryz.prog 245 #[.func (.yield l) #[] #[], .pointer (some ⟨Bs, Bo, none⟩)] W fun e W' => (∃ v, e = .returned v) ∧ J (PiUpto (fun j => zs[j]?.getD 0) len) W' := by
  have hBW : W.cell? ⟨Bs, Bo, none⟩ = some (.slice (some ⟨b, off, none⟩) len cap) := ((hJ _ _ h0).cell (p := ⟨Bs, Bo, none⟩) hBs).trans hBc
  refine callsIn_of_wp Tryz.func245 rfl h7 ?_ hro
  simp only [Tryz.ntmps245, List.size_toArray, List.length_cons, List.length_nil, Nat.reduceAdd, Nat.reduceSub, Array.replicate_succ, Array.replicate_zero, List.push_toArray, List.append_toArray, List.nil_append, List.cons_append]
  gi_wp2
  gi_loopw [7] (fun i wr => ∃ k : Nat, k ≤ len ∧ i = .int .i64 k ∧ J (PiUpto (fun j => zs[j]?.getD 0) k) wr)
    (fun i _ => len - (intOf i).toNat)
  case atStart => exact ⟨0, Nat.zero_le _, rfl, h0⟩
  case round =>
    obtain ⟨k, hk, rfl, hJs⟩ := hrel
    have hcx : k < len → wr.cell? ⟨b, off + k, none⟩ = some (.int .i64 (zs[k]?.getD 0)) := fun h => ((hJ _ _ hJs).cell (p := ⟨b, off + k, none⟩) hb).trans (hc k h)
    by_cases hlt : k < len
    · obtain ⟨fn, tmps, assign, body, hy, hR⟩ := hY _ (zs[k]?.getD 0) wr hJs (by rw [PiUpto_length]; exact hlt)
      have hcx' := hcx hlt
      gi_wp2
      refine hR.mono ?_
      rintro e W3 ⟨rfl, hJ3, hk3⟩
      gi_wp2
      go_roundw
      case rel => exact ⟨k + 1, by omega, by simp, by rw [PiUpto_succ]; exact hJ3⟩
      case measure => simp [intOf]; omega
    · obtain rfl : k = len := by omega
      gi_wp2
      go_end0
      exact ⟨⟨_, rfl⟩, hJs⟩

set_option maxRecDepth 100000 in
set_option maxHeartbeats 1000000 in
/-- .. over a slice that has none. -/
theorem Tryz.piValues0 (F : Fence) (n : Nat) (h7 : F.fn 245) (hro : F.round = none) (l Bs Bo : Nat) (a : Option Addr) (cap : Nat) (J : List Int → World → Prop) (W : World) (hBs : W.cell? ⟨Bs, Bo, none⟩ = some (.slice a 0 cap)) (h0 : J [] W) :
    CallsIn F n Tryz.prog 245 #[.func (.yield l) #[] #[], .pointer (some ⟨Bs, Bo, none⟩)] W fun e W' => (∃ v, e = .returned v) ∧ J [] W' := by
  refine callsIn_of_wp Tryz.func245 rfl h7 ?_ hro
  simp only [Tryz.ntmps245, List.size_toArray, List.length_cons, List.length_nil, Nat.reduceAdd, Nat.reduceSub, Array.replicate_succ, Array.replicate_zero, List.push_toArray, List.append_toArray, List.nil_append, List.cons_append]
  gi_wp2
  gi_loopw [7] (fun i wr => i = .int .i64 0 ∧ J [] wr) (fun _ _ => 0)
  case atStart => exact ⟨rfl, h0⟩
  case round =>
    obtain ⟨rfl, hJs⟩ := hrel
    gi_wp2
    go_end0
    exact ⟨⟨_, rfl⟩, hJs⟩
end Go.Proofs

/- slices.Sorted over slices.Values; Sort; Compact. -/
namespace Go.Pi
open Go
set_option linter.unusedVariables false

theorem c_sort (l : List Int) (hl : l.length ≤ 1000000) : Call .val 46 [.tup [], .arr 0 3 1 (ints l), .tup []] (.tup [.arr 0 3 1 (ints (sortS l)), .tup []]) :=
  ⟨Proofs.Tryz.call46, rfl, rfl, sort_mcall Proofs.Tryz.lays189 3 l hl⟩
theorem c_compact (l : List Int) (hl : l.length ≤ 1000000) : Call .back 47 [.tup [], .arr 0 3 1 (ints l), .tup []] (.arr 0 3 1 (ints (Lib.compact l))) :=
  ⟨Proofs.Tryz.call47, rfl, rfl, compact_mcall Proofs.Tryz.lays20 3 l hl⟩

@[reducible] def valuesPV (r : List (List PV)) : PV := .clo (.func 245) [] [.ref [.list 1 r]]
theorem c_valuesIter (r : List (List PV)) : Call .plain 211 [.list 1 r] (valuesPV r) := by
  refine call_of Proofs.Tryz.func211 Proofs.Tryz.call211 rfl rfl fun M C hM hC => ?_
  cbv

theorem below_ext {w w' : World} (h : RowKit.Below w.heap.size w w') : Ext (fun _ => False) w w' := ⟨h.os, h.tape, h.output, h.size, fun k hk _ => h.block k hk⟩

theorem c_collect (l : List Int) (hl : l.length ≤ 1000000) : Call .fresh 244 [valuesPV (ints l)] (.arr 0 3 1 (ints l)) := by
  refine ⟨Proofs.Tryz.call244, ?_⟩
  intro ok w vs hA hok hargs
  obtain ⟨v0, rfl⟩ : ∃ v0, vs = #[v0] := by
    have := hargs.1
    exact Array.size_eq_one_iff.1 (by simpa using this)
  have h0 := hargs.2 0 _ rfl
  simp only [Array.getD_eq_getD_getElem?] at h0
  cases h0 with
  | clo _ vf vc _ _ hsf hsc hf hc =>
    have hvf : vf = #[] := Array.eq_empty_of_size_eq_zero hsf
    obtain ⟨p, rfl⟩ : ∃ p, vc = #[p] := Array.size_eq_one_iff.1 (by simpa using hsc)
    subst hvf
    have hp := hc 0 _ rfl
    simp only [Array.getD_eq_getD_getElem?] at hp
    cases hp with
    | ref b off _ f hb hcell hrep =>
      obtain ⟨hc0, _⟩ := hcell 0 _ rfl
      have hr0 := hrep 0 _ rfl
      rw [Nat.add_zero] at hc0
      have hbl := hok b hb
      have gives : Proofs.PiGives Fence.wide 1 Proofs.Tryz.prog 245 #[.pointer (some ⟨b, off, none⟩)] Proofs.encPi (fun ss => ss = l) l.length w := by
        intro lp J W hW hJ hY hj0
        generalize hf0 : f 0 = sv at hc0 hr0
        generalize hq : ints l = q at hr0
        cases hr0 with
        | empty a cap es =>
          have : l = [] := List.eq_nil_of_length_eq_zero (by rw [← ints_len, hq]; rfl)
          subst this
          exact (Proofs.Tryz.piValues0 Fence.wide 1 trivial rfl lp b off a cap J W (((hJ _ _ hj0).cell (p := ⟨b, off, none⟩) hbl).trans hc0) hj0).mono fun e W' h => ⟨h.1, [], rfl, h.2⟩
        | list b2 off2 cap es xs f2 hb2 hcap hes h1 h2 =>
          subst hq
          rw [ints_len] at hc0
          refine (Proofs.Tryz.piValues1 Fence.wide 1 trivial rfl (Nat.le_refl _) lp b off b2 off2 l.length cap l hl w hbl (hok b2 hb2) hc0 (fun j hj => ?_) J hJ hY W hj0).mono fun e W' h => ⟨h.1, l, rfl, by rw [← Proofs.PiUpto_all l]; exact h.2⟩
          have hi : (ints l)[j]? = some [I (l.getD j 0)] := by rw [ints_get]; simp [List.getD_eq_getElem?_getD, hj]
          obtain ⟨q1, _⟩ := h1 j _ hi 0 _ rfl
          have q2 := h2 j _ hi 0 _ rfl
          have q3 : f2 j 0 = .int .i64 (l.getD j 0) := by
            generalize f2 j 0 = z at q2
            generalize l.getD j 0 = u at q2
            cases q2; rfl
          rw [q3] at q1
          simpa [List.getD_eq_getElem?_getD] using q1
      have key := Proofs.Tryz.picollect_in Fence.wide 3 trivial trivial rfl (Nat.le_refl _) 245 #[.pointer (some ⟨b, off, none⟩)] trivial Proofs.Tryz.call245 _ l.length (by simp only [maxLen]; omega) (by omega) w gives
      refine (callsIn_wide.1 key).mono ?_
      rintro e w' ⟨v, ss, rfl, hss, hrow, _, hbelow⟩
      subst hss
      obtain ⟨h, rfl, h2, h3⟩ := HomeOK.ofRow (ok := ok) hrow
      exact ⟨h, rfl, below_ext hbelow, h2, h3⟩

theorem c_sorted (l : List Int) (hl : l.length ≤ 1000000) (r : List (List PV)) (hr : r = ints l) : Call .fresh 210 [valuesPV r] (.arr 0 3 1 (ints (sortS l))) := by
  subst hr
  have hc1 := c_collect l hl
  have hc2 := c_sort l hl
  generalize ints (sortS l) = q at hc2 ⊢
  generalize ints l = r at hc1 hc2 ⊢
  refine fresh_of Proofs.Tryz.func210 Proofs.Tryz.call210 rfl rfl fun M C hM hC => ?_
  cbv
  refine .new _ _ _ (use_call hC hc1) ?_
  cbv
  refine .inr (.val _ _ (use_call hC hc2) ?_)
  cbv
end Go.Pi

/- strings.Contains, strings.Count, of one byte. -/
namespace Go.Pi
open Go
theorem indexByte_iff (l : List UInt8) (c : UInt8) : 0 ≤ Lib.indexByte l c ↔ c ∈ l := by
  induction l with
  | nil => simp [Lib.indexByte]
  | cons x r ih =>
    have hg := Lib.indexByte_ge r c
    have e : Lib.indexByte (x :: r) c = if x = c then 0 else if Lib.indexByte r c = -1 then -1 else Lib.indexByte r c + 1 := by
      simp [Lib.indexByte]
    rw [e, List.mem_cons, ← ih]
    by_cases h : x = c
    · simp [h]
    · rw [if_neg h]
      have h2 : ¬ c = x := fun e => h e.symm
      simp only [h2, false_or]
      split <;> omega
theorem indexByte_contains (l : List UInt8) (c : UInt8) : decide (0 ≤ Lib.indexByte l c) = l.contains c := by
  rw [Bool.eq_iff_iff, decide_eq_true_eq, indexByte_iff]; simp
theorem c_strContains (s : ByteArray) (c : UInt8) (y : Bool) (hy : y = hasB s c) : Call .plain 141 [Str s, Str ⟨#[c]⟩] (B y) := by
  refine ⟨Proofs.Tryz.call141, ?_⟩
  intro ok w vs hA hok hargs
  obtain ⟨v0, v1, rfl⟩ : ∃ v0 v1, vs = #[v0, v1] := by
    have := hargs.1
    match vs, this with
    | ⟨[a, b]⟩, _ => exact ⟨a, b, rfl⟩
  have h0 := hargs.2 0 _ rfl
  have h1 := hargs.2 1 _ rfl
  simp only [Array.getD_eq_getD_getElem?] at h0 h1
  cases h0
  cases h1
  refine (Proofs.Any.strings_Contains_one Proofs.Tryz.lays144 s c w).mono fun e w' ⟨he, hw⟩ => ⟨_, he, by rw [hw]; exact .refl _ _, ?_⟩
  rw [hy, hasB, indexByte_contains]
  exact .v _
theorem c_strCount (s : ByteArray) (c : UInt8) (y : Int) (hy : y = countB s c) : Call .plain 240 [Str s, Str ⟨#[c]⟩] (I y) := by
  refine ⟨Proofs.Tryz.call240, ?_⟩
  intro ok w vs hA hok hargs
  obtain ⟨v0, v1, rfl⟩ : ∃ v0 v1, vs = #[v0, v1] := by
    have := hargs.1
    match vs, this with
    | ⟨[a, b]⟩, _ => exact ⟨a, b, rfl⟩
  have h0 := hargs.2 0 _ rfl
  have h1 := hargs.2 1 _ rfl
  simp only [Array.getD_eq_getD_getElem?] at h0 h1
  cases h0
  cases h1
  refine (Proofs.Any.strings_Count_one Proofs.Tryz.lays138 s c w).mono fun e w' ⟨he, hw⟩ => ⟨_, he, by rw [hw]; exact .refl _ _, ?_⟩
  rw [hy, countB]
  exact .v _
end Go.Pi
