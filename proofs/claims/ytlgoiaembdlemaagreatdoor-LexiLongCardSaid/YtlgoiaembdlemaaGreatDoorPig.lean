/- A verified evaluator of Go's code over plain values, part 7. No condition. -/
import Derived.Test.YtlgoiaembdlemaaGreatDoorPif
import Derived.Test.YtlgoiaembdlemaaGreatDoorPid
set_option linter.unusedSimpArgs false
set_option linter.unusedVariables false

/- Long rows that begin alike, in plain lists. -/
namespace Go.Pi
open Go
set_option linter.unusedVariables false
set_option linter.unusedSimpArgs false

/-! ### A sorted list without what is alike -/
theorem compactUp_sorted {l : List Int} (h : l.Pairwise (· ≤ ·)) : ∀ m, m ≤ l.length → Rising (Lib.compactUpTo l.toArray m) ∧ ∀ u, u ∈ Lib.compactUpTo l.toArray m ↔ ∃ j, j < m ∧ l.getD j 0 = u := by
  intro m
  have gd : ∀ i, i < l.length → l.toArray[i]! = l.getD i 0 := fun i hi => by simp [List.getD_eq_getElem?_getD, hi]
  induction m with
  | zero => intro _; exact ⟨List.Pairwise.nil, fun u => by simp [Lib.compactUpTo]⟩
  | succ m ih =>
    intro hm
    obtain ⟨h1, h2⟩ := ih (by omega)
    rw [Lib.compactUpTo_succ]
    have gm := gd m (by omega)
    have le : ∀ i j, i ≤ j → j < l.length → l.getD i 0 ≤ l.getD j 0 := fun i j hij hj => by
      rcases Nat.lt_or_ge i j with h3 | h3
      · have := List.pairwise_iff_getElem.1 h i j (by omega) hj h3
        simpa [List.getD_eq_getElem?_getD, hj, show i < l.length by omega] using this
      · have : i = j := by omega
        subst this; omega
    cases hk : Lib.keeps l.toArray m with
    | true =>
      simp only [if_pos]
      rw [gm]
      constructor
      · refine List.pairwise_append.2 ⟨h1, List.pairwise_singleton _ _, fun u hu v hv => ?_⟩
        rw [List.mem_singleton.1 hv]
        obtain ⟨j, hj, rfl⟩ := (h2 u).1 hu
        have g1 := gd (m - 1) (by omega)
        simp only [Lib.keeps] at hk
        have ne : l.getD m 0 ≠ l.getD (m - 1) 0 := by
          rw [← gm, ← g1]
          rcases of_decide_eq_true hk with hk | hk
          · omega
          · exact hk
        have a1 := le j (m - 1) (by omega) (by omega)
        have a2 := le (m - 1) m (by omega) (by omega)
        show l.getD j 0 < l.getD m 0
        omega
      · intro u
        rw [List.mem_append, h2, List.mem_singleton]
        constructor
        · rintro (⟨j, hj, rfl⟩ | rfl)
          · exact ⟨j, by omega, rfl⟩
          · exact ⟨m, by omega, rfl⟩
        · rintro ⟨j, hj, rfl⟩
          rcases Nat.lt_or_ge j m with h3 | h3
          · exact .inl ⟨j, h3, rfl⟩
          · have : j = m := by omega
            subst this; exact .inr rfl
    | false =>
      simp only [Bool.false_eq_true, if_false, List.append_nil]
      refine ⟨h1, fun u => ?_⟩
      rw [h2]
      constructor
      · rintro ⟨j, hj, rfl⟩; exact ⟨j, by omega, rfl⟩
      · rintro ⟨j, hj, rfl⟩
        rcases Nat.lt_or_ge j m with h3 | h3
        · exact ⟨j, h3, rfl⟩
        · have : j = m := by omega
          subst this
          simp only [Lib.keeps] at hk
          simp at hk
          have g1 := gd (j - 1) (by omega)
          refine ⟨j - 1, by omega, ?_⟩
          rw [← g1, ← gm]
          simp
          exact hk.2.symm
theorem sortS_sorted (l : List Int) : (sortS l).Pairwise (· ≤ ·) := by
  have := List.pairwise_mergeSort (le := fun x y : Int => decide (x ≤ y)) (fun a b c h1 h2 => by simp at *; omega) (fun a b => by simp; omega) l
  exact this.imp fun h => by simpa using h
theorem mem_sortS {l : List Int} {u : Int} : u ∈ sortS l ↔ u ∈ l := (List.mergeSort_perm l _).mem_iff
def risingS (l : List Int) : List Int := Lib.compact (sortS l)
theorem risingS_rising (l : List Int) : Rising (risingS l) := (compactUp_sorted (sortS_sorted l) _ (Nat.le_refl _)).1
theorem mem_risingS {l : List Int} {u : Int} : u ∈ risingS l ↔ u ∈ l := by
  refine ((compactUp_sorted (sortS_sorted l) _ (Nat.le_refl _)).2 u).trans ?_
  rw [← mem_sortS]
  constructor
  · rintro ⟨j, hj, rfl⟩; exact getD_mem 0 hj
  · intro hu
    obtain ⟨j, hj, rfl⟩ := List.mem_iff_getElem.1 hu
    exact ⟨j, hj, by simp [List.getD_eq_getElem?_getD, hj]⟩
theorem risingS_len (l : List Int) : (risingS l).length ≤ l.length := by
  have := compact_len (sortS l)
  rw [sortS_len] at this; exact this

/-! ### Rows that begin alike -/
def preL (j : Nat) : List (List Int) := (List.range j).map fun i : Nat => [(i : Int)]
def sufL (m : Nat) : List (List Int) := List.replicate m [0, 1]
def longL (k j : Nat) (a : List Int) : List (List Int) := preL j ++ a :: sufL (k - j - 1)
def longA (k j : Nat) (a : List Int) : List (List Int) := (List.range k).map fun i : Nat => if i < j then [(i : Int)] else if i = j then a else [0, 1]
theorem longA_succ (k j : Nat) (a : List Int) : longA (k + 1) j a = longA k j a ++ [if k < j then [(k : Int)] else if k = j then a else [0, 1]] := by simp [longA, List.range_succ]
theorem longA_len (k j : Nat) (a : List Int) : (longA k j a).length = k := by simp [longA]
theorem longL_len {k j : Nat} (h : j < k) (a : List Int) : (longL k j a).length = k := by simp [longL, preL, sufL]; omega
theorem longA_is {k j : Nat} (h : j < k) (a : List Int) : longA k j a = longL k j a := by
  apply List.ext_getElem
  · rw [longA_len, longL_len h]
  · intro i h1 h2
    rw [longA_len] at h1
    have hp : (preL j).length = j := by simp [preL]
    simp only [longA, longL, List.getElem_map, List.getElem_range]
    rcases Nat.lt_trichotomy i j with h3 | h3 | h3
    · rw [if_pos h3, List.getElem_append_left (by omega)]
      simp [preL]
    · subst h3
      rw [if_neg (by omega), if_pos rfl, List.getElem_append_right (by omega)]
      simp [hp]
    · rw [if_neg (by omega), if_neg (by omega), List.getElem_append_right (by omega)]
      have : i - (preL j).length = (i - j - 1) + 1 := by omega
      simp only [this, List.getElem_cons_succ, sufL, List.getElem_replicate]
theorem longL_set {k j : Nat} (a : List Int) (v : Int) : (longL k j a).set j [v] = longL k j [v] := by
  have hp : (preL j).length = j := by simp [preL]
  unfold longL
  rw [List.set_append_right _ _ (by omega), hp]
  simp
theorem longL_at {k j : Nat} (a : List Int) : (longL k j a).getD j [] = a := by
  have hp : (preL j).length = j := by simp [preL]
  unfold longL
  rw [List.getD_eq_getElem?_getD, List.getElem?_append_right (by omega), hp]
  simp
theorem canS_pre : ∀ (p : List (List Int)) (a b : List (List Int)), (∀ d ∈ p, ∃ k, d = [k]) → canS (p ++ a) (p ++ b) = canS a b
  | [], _, _, _ => rfl
  | x :: p, a, b, h => by
    obtain ⟨k, rfl⟩ := h x (by simp)
    simp only [List.cons_append, canS]
    rw [canS_pre p a b fun d hd => h d (by simp [hd])]
    simp [headS, lastS, meetS]
theorem canS_suf : ∀ m, canS (sufL m) (sufL m) = true
  | 0 => rfl
  | m + 1 => by simp [sufL, List.replicate_succ, canS, headS, lastS]
theorem canS_long (k j : Nat) (a b : List Int) : canS (longL k j a) (longL k j b) = (decide (headS a < lastS b) || meetS a b) := by
  unfold longL
  rw [canS_pre _ _ _ fun d hd => by
    obtain ⟨i, _, rfl⟩ := List.mem_map.1 hd
    exact ⟨_, rfl⟩]
  simp [canS, canS_suf]
section
variable {k j : Nat} {a b : List Int}
theorem long_left (h : j < k) (v : Int) : lexP (longL k j a ++ longL k j b) k j v = (decide (v < lastS b) || b.contains v) := by
  have e := lexP_left (a := longL k j a) (b := longL k j b) (i := j) (v := v) (by rw [longL_len h, longL_len h]) (by rw [longL_len h]; exact h)
  rw [longL_len h] at e
  rw [e, lft_can j v (by rw [longL_len h]; exact h) (by rw [longL_len h]; exact h), longL_set, canS_long]
  simp [headS, meetS]
theorem long_right (h : j < k) (v : Int) : lexP (longL k j a ++ longL k j b) k (k + j) v = (decide (headS a < v) || a.contains v) := by
  have e := lexP_right (a := longL k j a) (b := longL k j b) (i := j) (v := v) (by rw [longL_len h, longL_len h]) (by rw [longL_len h]; exact h)
  rw [longL_len h] at e
  rw [e, rgt_can j v (by rw [longL_len h]; exact h) (by rw [longL_len h]; exact h), longL_set, canS_long]
  have e2 : (a.any fun u => decide (u = v)) = decide (v ∈ a) := by rw [Bool.eq_iff_iff]; simp
  simp [lastS, meetS, e2]
theorem long_full (ha : Rising a) (hb : Rising b) (na : a ≠ []) (nb : b ≠ []) : Full (longL k j a ++ longL k j b) := by
  have one : ∀ {x : List Int}, Rising x → x ≠ [] → Full (longL k j x) := fun hx nx d hd => by
    unfold longL at hd
    rcases List.mem_append.1 hd with hd | hd
    · obtain ⟨i, _, rfl⟩ := List.mem_map.1 hd
      exact ⟨List.pairwise_singleton _ _, by simp⟩
    · rcases List.mem_cons.1 hd with rfl | hd
      · exact ⟨hx, nx⟩
      · rw [(List.mem_replicate.1 hd).2]
        exact ⟨by simp [Rising], by simp⟩
  intro d hd
  rcases List.mem_append.1 hd with hd | hd
  · exact one ha na d hd
  · exact one hb nb d hd
theorem long_some (h : j < k) (ha : Rising a) (hb : Rising b) (na : a ≠ []) (nb : b ≠ []) : someL (leftL (longL k j a ++ longL k j b) (lexP (longL k j a ++ longL k j b) k)) = (decide (headS a < lastS b) || meetS a b) := by
  have hf := long_full (k := k) (j := j) ha hb na nb
  have la := longL_len h a
  have lb := longL_len h b
  rw [← canS_long k j, Bool.eq_iff_iff, (lexP_exact hf (by simp; omega)).some (by simp; omega), canS_iff (by omega) (fun d hd => hf d (by simp [hd])) (fun d hd => hf d (by simp [hd]))]
  constructor
  · rintro ⟨r, r1, r2⟩
    have hr := inD_len r1
    have h3 := inD_app (x := r.take k) (y := r.drop k) (a := longL k j a) (b := longL k j b) (by simp at hr ⊢; omega)
    rw [List.take_append_drop] at h3
    obtain ⟨q1, q2⟩ := h3.1 r1
    exact ⟨_, _, q1, q2, r2⟩
  · rintro ⟨u, w, h1, h2, h3⟩
    have hu := inD_len h1
    refine ⟨u ++ w, (inD_app hu).2 ⟨h1, h2⟩, ?_⟩
    unfold lexH
    rw [List.take_left' (by omega), List.drop_left' (by omega)]
    exact h3
def pS (a b : List Int) : List Int := a.filter fun v => decide (v ≤ lastS b) && (decide (v < lastS b) || b.contains v)
def qS (a b : List Int) : List Int := b.filter fun v => decide (v > headS a) || v == headS a
theorem long_p (h : j < k) (hb : Rising b) : (leftL (longL k j a ++ longL k j b) (lexP (longL k j a ++ longL k j b) k)).getD j [] = pS a b := by
  have la := longL_len h a
  rw [leftL_get _ _ _ (by simp; omega), List.getD_eq_getElem?_getD, List.getElem?_append_left (by omega), ← List.getD_eq_getElem?_getD, longL_at]
  refine List.filter_congr fun v hv => ?_
  rw [long_left h, Bool.eq_iff_iff]
  simp only [Bool.or_eq_true, Bool.and_eq_true, decide_eq_true_eq, List.contains_iff_mem]
  constructor
  · rintro (h1 | h1)
    · exact ⟨by omega, .inl h1⟩
    · exact ⟨lastS_ge hb v h1, .inr h1⟩
  · exact fun h1 => h1.2
theorem long_q (h : j < k) (ha : Rising a) (na : a ≠ []) : (leftL (longL k j a ++ longL k j b) (lexP (longL k j a ++ longL k j b) k)).getD (k + j) [] = qS a b := by
  have la := longL_len h a
  have lb := longL_len h b
  rw [leftL_get _ _ _ (by simp; omega), List.getD_eq_getElem?_getD, List.getElem?_append_right (by omega), la, Nat.add_sub_cancel_left, ← List.getD_eq_getElem?_getD, longL_at]
  refine List.filter_congr fun v hv => ?_
  rw [long_right h, Bool.eq_iff_iff]
  simp only [Bool.or_eq_true, decide_eq_true_eq, List.contains_iff_mem, beq_iff_eq]
  constructor
  · rintro (h1 | h1)
    · exact .inl h1
    · have := headS_le ha v h1
      omega
  · rintro (h1 | h1)
    · exact .inl h1
    · exact .inr (by rw [h1]; exact headS_mem na)
theorem long_none (ha : Rising a) (hb : Rising b) (na : a ≠ []) (nb : b ≠ []) : (decide (pS a b = []) || decide (qS a b = [])) = !(decide (headS a < lastS b) || meetS a b) := by
  have key : ∀ y : Bool, y = (decide (headS a < lastS b) || meetS a b) → (y = true → pS a b ≠ [] ∧ qS a b ≠ []) ∧ (y = false → pS a b = []) := by
    intro y hy
    constructor
    · intro h
      rw [h] at hy
      have hy := hy.symm
      simp only [Bool.or_eq_true, decide_eq_true_eq, meetS_iff] at hy
      have p1 : ∃ v, v ∈ pS a b := by
        rcases hy with hy | ⟨v, h1, h2⟩
        · exact ⟨headS a, List.mem_filter.2 ⟨headS_mem na, by simp; omega⟩⟩
        · have := lastS_ge hb v h2
          exact ⟨v, List.mem_filter.2 ⟨h1, by simp [h2]; omega⟩⟩
      have q1 : ∃ v, v ∈ qS a b := by
        rcases hy with hy | ⟨v, h1, h2⟩
        · exact ⟨lastS b, List.mem_filter.2 ⟨lastS_mem nb, by simp; omega⟩⟩
        · have := headS_le ha v h1
          exact ⟨v, List.mem_filter.2 ⟨h2, by simp; omega⟩⟩
      obtain ⟨v, hv⟩ := p1
      obtain ⟨w, hw⟩ := q1
      exact ⟨fun e => (by rw [e] at hv; simp at hv), fun e => (by rw [e] at hw; simp at hw)⟩
    · intro h
      rw [h] at hy
      have hy := hy.symm
      simp only [Bool.or_eq_false_iff, decide_eq_false_iff_not] at hy
      refine List.filter_eq_nil_iff.2 fun v hv => ?_
      have h1 := headS_le ha v hv
      simp only [Bool.and_eq_true, Bool.or_eq_true, decide_eq_true_eq, List.contains_iff_mem, not_and, not_or]
      intro h2
      refine ⟨by omega, fun h3 => ?_⟩
      have := meetS_iff.2 ⟨v, hv, h3⟩
      rw [hy.2] at this; cases this
  obtain ⟨k1, k2⟩ := key _ rfl
  cases hv : (decide (headS a < lastS b) || meetS a b) with
  | true =>
    obtain ⟨h1, h2⟩ := k1 hv
    simp [h1, h2]
  | false => simp [k2 hv]
end

end Go.Pi
