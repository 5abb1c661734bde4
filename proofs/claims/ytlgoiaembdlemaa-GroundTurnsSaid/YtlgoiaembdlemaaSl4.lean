/- Package slices' Clone and Reverse. -/
import Derived.Test.YtlgoiaembdlemaaSl3
set_option linter.unusedSimpArgs false
set_option linter.unusedVariables false
namespace Go.Pi
open Go
set_option linter.unusedVariables false

theorem c_cloneI (xs : List (List PV)) (h64 : xs.length ≤ 2147483648) : Call .fresh 14 [.list 1 xs] (.arr 0 3 1 xs) := by
  refine fresh_of Proofs.Try.func14 Proofs.Try.call14 rfl rfl fun M C hM hC => ?_
  cbv
  refine .mk fun b hb => ?_
  cases b
  · cbv
    refine .mk (by subst hM; exact h64) ?_
    cbv
    subst hM; rfl
  · have hx : xs = [] := by
      cases xs with
      | nil => rfl
      | cons x r => exact absurd (hb (by simp)) (by simp)
    cbv
    exact hx

theorem c_cloneR (xs : List (List PV)) (h64 : xs.length ≤ 2147483648) : Call .fresh 16 [.list 1 xs] (.arr 0 27 1 xs) := by
  refine fresh_of Proofs.Try.func16 Proofs.Try.call16 rfl rfl fun M C hM hC => ?_
  cbv
  refine .mk fun b hb => ?_
  cases b
  · cbv
    refine .mk (by subst hM; exact h64) ?_
    cbv
    subst hM; rfl
  · have hx : xs = [] := by
      cases xs with
      | nil => rfl
      | cons x r => exact absurd (hb (by simp)) (by simp)
    cbv
    exact hx

theorem c_reverseI (L : List Int) (h64 : L.length ≤ 1000000) (xs xs' : List (List PV)) (hx : xs = ints L) (hx' : xs' = ints L.reverse) : Call .val 15 [.tup [], .arr 0 3 1 xs, .tup []] (.tup [.arr 0 3 1 xs', .tup []]) := by
  refine val_of Proofs.Try.func15 Proofs.Try.call15 rfl rfl fun M C hM hC => ?_
  cbv
  have lx : (xs.length : Int) = L.length := by rw [hx]; simp
  have e0 : M .arith .sub .i64 (Int.ofNat (M .len xs)) 1 = (L.length : Int) - 1 := by
    subst hM
    show IntKind.i64.wrap ((xs.length : Int) - 1) = _
    rw [lx, wrap_i64 (by omega) (by omega)]
  refine Loop.over (Nat × Int × List (List PV)) (fun q => [(.t 2, I q.1), (.t 3, I q.2.1), (.a 0, .arr 0 3 1 q.2.2)]) 1 (fun q => L.length - q.1) (fun q => 2 * q.1 ≤ L.length ∧ q.2.1 = (L.length : Int) - 1 - q.1 ∧ q.2.2 = ints (revS 0 L q.1)) (0, M .arith .sub .i64 (Int.ofNat (M .len xs)) 1, xs) ⟨Nat.zero_le _, by rw [e0]; simp, by rw [revS_zero]; exact hx⟩ (by (cbv; repeat' (first | exact True.intro | exact rfl | apply And.intro))) ?_
  clear e0
  rintro ⟨i, j, q⟩ ⟨hi, hj, hq⟩
  simp only at hi hj hq
  cbv
  split <;> rename_i h <;> (try simp only [h]) <;> (try cbv) <;> (try simp only [ncast] at *)
  · have hlt : (i : Int) < j := by subst hM; exact of_decide_eq_true h
    have hL := revS_len 0 L i
    have gi : ∀ k : Nat, k < L.length → q[k]? = some [I ((revS 0 L i).getD k 0)] := fun k hk => by
      rw [hq, ints_get]; simp [List.getD_eq_getElem?_getD, hL, hk]
    have vi : (revS 0 L i).getD i 0 = L.getD i 0 := by rw [List.getD_eq_getElem?_getD, revS_get 0 L i i (by omega), if_neg (by omega)]; rfl
    have vj : (revS 0 L i).getD (L.length - 1 - i) 0 = L.getD (L.length - 1 - i) 0 := by rw [List.getD_eq_getElem?_getD, revS_get 0 L i _ (by omega), if_neg (by omega)]; rfl
    obtain ⟨u, hu⟩ : ∃ u, u = L.getD i 0 := ⟨_, rfl⟩
    obtain ⟨v, hv⟩ : ∃ v, v = L.getD (L.length - 1 - i) 0 := ⟨_, rfl⟩
    have jn : j.toNat = L.length - 1 - i := by omega
    have hj0 : 0 ≤ j := by omega
    have hne : i ≠ j.toNat := by omega
    have qi : q[i]? = some [I u] := by rw [gi i (by omega), vi, hu]
    have qj : q[j.toNat]? = some [I v] := by rw [jn, gi _ (by omega), vj, hv]
    have step : (q.set i [I v]).set j.toNat [I u] = ints (revS 0 L (i + 1)) := by
      rw [← revS_step 0 L i (by omega), ← hu, ← hv, hq, jn]
      simp [ints, List.map_set]
    clear gi vi vj hL hu hv hq
    refine .mk _ hj0 qj ?_
    cbv
    refine .mk _ hj0 qj ?_
    cbv
    refine .mk _ (Int.natCast_nonneg _) qi ?_
    cbv
    refine .mk _ (Int.natCast_nonneg _) qi ?_
    cbv
    refine .mk _ (Int.natCast_nonneg _) qi ?_
    cbv
    refine .mk _ (Int.natCast_nonneg _) qi ?_
    cbv
    have qi2 : (M .set q (Int.ofNat i) [I v])[j.toNat]? = some [I v] := by
      subst hM
      show (q.set i [I v])[j.toNat]? = _
      rw [List.getElem?_set_ne hne]; exact qj
    refine .mk _ hj0 qi2 ?_
    cbv
    refine .mk _ hj0 qi2 ?_
    cbv
    (try simp only [ncast] at *)
    refine ⟨⟨i + 1, _, _⟩, ⟨by omega, ?_, ?_⟩, ?_, by (cbv; repeat' (first | exact True.intro | exact rfl | apply And.intro)) <;> (subst hM; rw [succ_i64 (by omega)])⟩
    · subst hM
      show IntKind.i64.wrap (j - 1) = _
      rw [wrap_i64 (by omega) (by omega)]; simp only; omega
    · subst hM; exact step
    · simp only; omega
  · have hlt : ¬ (i : Int) < j := by subst hM; exact of_decide_eq_false h
    have hq2 : q = ints L.reverse := by rw [hq, revS_end 0 L i (by omega)]
    exact ⟨hq2.trans hx'.symm, trivial⟩

theorem rowsRaw_get (L : List (List (List PV))) (i : Nat) : (rowsRaw L)[i]? = (L[i]?).map fun x => [.list 1 x] := by simp [rowsRaw]

theorem c_reverseR (L : List (List (List PV))) (h64 : L.length ≤ 1000000) (xs xs' : List (List PV)) (hx : xs = rowsRaw L) (hx' : xs' = rowsRaw L.reverse) : Call .val 17 [.tup [], .arr 0 27 1 xs, .tup []] (.tup [.arr 0 27 1 xs', .tup []]) := by
  refine val_of Proofs.Try.func17 Proofs.Try.call17 rfl rfl fun M C hM hC => ?_
  cbv
  have lx : (xs.length : Int) = L.length := by rw [hx]; simp
  have e0 : M .arith .sub .i64 (Int.ofNat (M .len xs)) 1 = (L.length : Int) - 1 := by
    subst hM
    show IntKind.i64.wrap ((xs.length : Int) - 1) = _
    rw [lx, wrap_i64 (by omega) (by omega)]
  refine Loop.over (Nat × Int × List (List PV)) (fun q => [(.t 2, I q.1), (.t 3, I q.2.1), (.a 0, .arr 0 27 1 q.2.2)]) 1 (fun q => L.length - q.1) (fun q => 2 * q.1 ≤ L.length ∧ q.2.1 = (L.length : Int) - 1 - q.1 ∧ q.2.2 = rowsRaw (revS [] L q.1)) (0, M .arith .sub .i64 (Int.ofNat (M .len xs)) 1, xs) ⟨Nat.zero_le _, by rw [e0]; simp, by rw [revS_zero]; exact hx⟩ (by (cbv; repeat' (first | exact True.intro | exact rfl | apply And.intro))) ?_
  clear e0
  rintro ⟨i, j, q⟩ ⟨hi, hj, hq⟩
  simp only at hi hj hq
  cbv
  split <;> rename_i h <;> (try simp only [h]) <;> (try cbv) <;> (try simp only [ncast] at *)
  · have hlt : (i : Int) < j := by subst hM; exact of_decide_eq_true h
    have hL := revS_len [] L i
    have gi : ∀ k : Nat, k < L.length → q[k]? = some [.list 1 ((revS [] L i).getD k [])] := fun k hk => by
      rw [hq, rowsRaw_get]; simp [List.getD_eq_getElem?_getD, hL, hk]
    have vi : (revS [] L i).getD i [] = L.getD i [] := by rw [List.getD_eq_getElem?_getD, revS_get [] L i i (by omega), if_neg (by omega)]; rfl
    have vj : (revS [] L i).getD (L.length - 1 - i) [] = L.getD (L.length - 1 - i) [] := by rw [List.getD_eq_getElem?_getD, revS_get [] L i _ (by omega), if_neg (by omega)]; rfl
    obtain ⟨u, hu⟩ : ∃ u, u = L.getD i [] := ⟨_, rfl⟩
    obtain ⟨v, hv⟩ : ∃ v, v = L.getD (L.length - 1 - i) [] := ⟨_, rfl⟩
    have jn : j.toNat = L.length - 1 - i := by omega
    have hj0 : 0 ≤ j := by omega
    have hne : i ≠ j.toNat := by omega
    have qi : q[i]? = some [.list 1 u] := by rw [gi i (by omega), vi, hu]
    have qj : q[j.toNat]? = some [.list 1 v] := by rw [jn, gi _ (by omega), vj, hv]
    have step : (q.set i [.list 1 v]).set j.toNat [.list 1 u] = rowsRaw (revS [] L (i + 1)) := by
      rw [← revS_step [] L i (by omega), ← hu, ← hv, hq, jn]
      simp [rowsRaw, List.map_set]
    clear gi vi vj hL hu hv hq
    refine .mk _ hj0 qj ?_
    cbv
    refine .mk _ hj0 qj ?_
    cbv
    refine .mk _ (Int.natCast_nonneg _) qi ?_
    cbv
    refine .mk _ (Int.natCast_nonneg _) qi ?_
    cbv
    refine .mk _ (Int.natCast_nonneg _) qi ?_
    cbv
    refine .mk _ (Int.natCast_nonneg _) qi ?_
    cbv
    have qi2 : (M .set q (Int.ofNat i) [.list 1 v])[j.toNat]? = some [.list 1 v] := by
      subst hM
      show (q.set i [.list 1 v])[j.toNat]? = _
      rw [List.getElem?_set_ne hne]; exact qj
    refine .mk _ hj0 qi2 ?_
    cbv
    refine .mk _ hj0 qi2 ?_
    cbv
    (try simp only [ncast] at *)
    refine ⟨⟨i + 1, _, _⟩, ⟨by omega, ?_, ?_⟩, ?_, by (cbv; repeat' (first | exact True.intro | exact rfl | apply And.intro)) <;> (subst hM; rw [succ_i64 (by omega)])⟩
    · subst hM
      show IntKind.i64.wrap (j - 1) = _
      rw [wrap_i64 (by omega) (by omega)]; simp only; omega
    · subst hM; exact step
    · simp only; omega
  · have hlt : ¬ (i : Int) < j := by subst hM; exact of_decide_eq_false h
    have hq2 : q = rowsRaw L.reverse := by rw [hq, revS_end [] L i (by omega)]
    exact ⟨hq2.trans hx'.symm, trivial⟩
