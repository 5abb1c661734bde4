/- Package jigsawref09: three numbers, circuits, pairs. -/
import Derived.Test.YtlgoiaembdlemaaGreatRa3
set_option linter.unusedSimpArgs false
set_option linter.unusedVariables false
namespace Go.Pi
open Go
set_option linter.unusedVariables false
set_option linter.unusedSimpArgs false

theorem tdiv_in (a b : Int) (h1 : -1000000 ≤ a ∧ a ≤ 1000000) : -1000000 ≤ a.tdiv b ∧ a.tdiv b ≤ 1000000 := by
  have h := Int.natAbs_tdiv_le_natAbs a b
  omega

set_option maxHeartbeats 4000000 in
theorem c_rthree (kind K : Int) (rA rB rC rD rE rR ra : List (List PV)) (A C' a x : List Int) (hA : rA = ints A) (hC' : rC = ints C') (ha : ra = ints a) (X : Reads a A x) (h64 : C'.length ≤ 1000000) (hk : 5 ≤ kind ∧ kind ≤ 11) (hl2 : 2 ≤ A.length) (hl3 : kind ≠ 8 → kind ≠ 11 → 3 ≤ A.length)
    (bx : ∀ i, -1000000 ≤ x.getD i 0 ∧ x.getD i 0 ≤ 1000000) (y : Bool) (hy : y = arithS kind C' x) :
    Call .plain 53 [.agg [I kind, .list 1 rA, .list 1 rB, .list 1 rC, .list 1 rD, .list 1 rE, I K, .list 1 rR], .list 1 ra] (B y) := by
  refine call_of Proofs.Tryz.func53 Proofs.Tryz.call53 rfl rfl fun M C hM hC => ?_
  have b0 := bx 0
  have b1 := bx 1
  have b2 := bx 2
  cbv
  refine idx_ints hA (by omega) (by omega) fun p hp => ?_
  cbv
  refine idx_ints ha (by rw [hp]; exact X.lo 0 (by omega)) (by rw [hp]; exact X.hi 0 (by omega)) fun u hu => ?_
  have hu : u = x.getD 0 0 := by rw [hu, hp]; exact X.get 0 (by omega)
  clear hp
  cbv
  refine idx_ints hA (by omega) (by omega) fun p hp => ?_
  cbv
  refine idx_ints ha (by rw [hp]; exact X.lo 1 (by omega)) (by rw [hp]; exact X.hi 1 (by omega)) fun v hv => ?_
  have hv : v = x.getD 1 0 := by rw [hv, hp]; exact X.get 1 (by omega)
  clear hp
  rw [← hu] at b0
  rw [← hv] at b1
  cbv
  have third : 3 ≤ A.length → ∀ p, p = A.getD 2 0 → (0 ≤ p ∧ p < a.length) ∧ a.getD p.toNat 0 = x.getD 2 0 := fun h p hp => by
    rw [hp]; exact ⟨⟨X.lo 2 (by omega), X.hi 2 (by omega)⟩, X.get 2 (by omega)⟩
  obtain rfl | rfl | rfl | rfl | rfl | rfl | rfl : kind = 5 ∨ kind = 6 ∨ kind = 7 ∨ kind = 8 ∨ kind = 9 ∨ kind = 10 ∨ kind = 11 := by omega
  · have e : ∀ b, M .cmp .eql 5 b = (5 == b) := fun b => by subst hM; rfl
    have hy : y = (u * v == x.getD 2 0) := by rw [hy, hu, hv]; rfl
    have third := third (hl3 (by decide) (by decide))
    have h3 := hl3 (by decide) (by decide)
    repeat (simp only [e]; cbv)
    refine idx_ints hA (by omega) (by omega) fun p hp => ?_
    obtain ⟨⟨t1, t2⟩, t3⟩ := third p hp
    cbv
    refine idx_ints ha t1 t2 fun w hw => ?_
    have hw : w = x.getD 2 0 := by rw [hw]; exact t3
    rw [← hw] at hy
    clear hw t1 t2 t3 hp third
    repeat (simp only [e]; cbv)
    have hb := mul_le b0 b1
    have ev : M .cmp .eql (M .arith .mul .i64 u v) w = y := by
      subst hM
      show (IntKind.i64.wrap (u * v) == w) = y
      rw [wrap_i64 (by omega) (by omega), hy]
    rw [show M .cmp .eql (M .arith .mul .i64 u v) w = _ from ev]
  · have e : ∀ b, M .cmp .eql 6 b = (6 == b) := fun b => by subst hM; rfl
    have hy : y = (v != 0 && u.tdiv v == x.getD 2 0) := by rw [hy, hu, hv]; rfl
    have third := third (hl3 (by decide) (by decide))
    have h3 := hl3 (by decide) (by decide)
    repeat (simp only [e]; cbv)
    refine idx_ints hA (by omega) (by omega) fun p hp => ?_
    obtain ⟨⟨t1, t2⟩, t3⟩ := third p hp
    cbv
    refine idx_ints ha t1 t2 fun w hw => ?_
    have hw : w = x.getD 2 0 := by rw [hw]; exact t3
    rw [← hw] at hy
    clear hw t1 t2 t3 hp third
    repeat (simp only [e]; cbv)
    refine callIB hC (c_rquo u v (by omega) (by omega) _ _ rfl rfl) fun q ok hq hok => ?_
    have hok2 : ok = (v != 0) := by
      rw [hok, quoOK, Bool.eq_iff_iff]; simp; omega
    rw [← hok] at hq
    rw [← hok2] at hy
    cbv
    repeat (simp only [e]; cbv)
    cases ok
    · cbv
      rw [hy]; rfl
    · rw [if_pos rfl] at hq
      cbv
      have ev : M .cmp .eql q w = y := by
        subst hM
        show (q == w) = y
        rw [hy, hq]; rfl
      rw [show M .cmp .eql q w = _ from ev]
  · have e : ∀ b, M .cmp .eql 7 b = (7 == b) := fun b => by subst hM; rfl
    have hy : y = (v != 0 && u.tmod v == x.getD 2 0) := by rw [hy, hu, hv]; rfl
    have third := third (hl3 (by decide) (by decide))
    have h3 := hl3 (by decide) (by decide)
    repeat (simp only [e]; cbv)
    refine idx_ints hA (by omega) (by omega) fun p hp => ?_
    obtain ⟨⟨t1, t2⟩, t3⟩ := third p hp
    cbv
    refine idx_ints ha t1 t2 fun w hw => ?_
    have hw : w = x.getD 2 0 := by rw [hw]; exact t3
    rw [← hw] at hy
    clear hw t1 t2 t3 hp third
    repeat (simp only [e]; cbv)
    refine callIB hC (c_rquo u v (by omega) (by omega) _ _ rfl rfl) fun q ok hq hok => ?_
    have hok2 : ok = (v != 0) := by
      rw [hok, quoOK, Bool.eq_iff_iff]; simp; omega
    rw [← hok] at hq
    rw [← hok2] at hy
    cbv
    repeat (simp only [e]; cbv)
    cases ok
    · cbv
      rw [hy]; rfl
    · rw [if_pos rfl] at hq
      cbv
      have bq := tdiv_in u v b0
      rw [← hq] at bq
      have hb := mul_le b1 bq
      have hm : u.tmod v = u - v * q := by rw [hq]; exact Int.tmod_def u v
      have ev : M .cmp .eql (M .arith .sub .i64 u (M .arith .mul .i64 v q)) w = y := by
        subst hM
        show (IntKind.i64.wrap (u - IntKind.i64.wrap (v * q)) == w) = y
        rw [wrap_i64 (x := v * q) (by omega) (by omega), wrap_i64 (by omega) (by omega), hy, hm]; rfl
      rw [show M .cmp .eql (M .arith .sub .i64 u (M .arith .mul .i64 v q)) w = _ from ev]
  · have e : ∀ b, M .cmp .eql 8 b = (8 == b) := fun b => by subst hM; rfl
    have hy : y = ((if -u > u then -u else u) == v) := by rw [hy, hu, hv]; rfl
    repeat (simp only [e]; cbv)
    by_cases h0 : u ≥ 0
    · have e1 : M .cmp .geq u 0 = true := by subst hM; exact decide_eq_true h0
      have e2 : M .cmp .eql v u = y := by
        subst hM
        show (v == u) = y
        rw [hy, if_neg (by omega), Bool.eq_iff_iff]; simp; omega
      have e3 : M .cmp .lss u 0 = false := by subst hM; exact decide_eq_false (by omega)
      clear hy hu hv e
      simp only [e1]
      cbv
      rw [e2]
      cases y
      · cbv
        rw [e3]
        cbv
      · cbv
    · have e1 : M .cmp .geq u 0 = false := by subst hM; exact decide_eq_false h0
      have e3 : M .cmp .lss u 0 = true := by subst hM; exact decide_eq_true (by omega)
      have e2 : M .cmp .eql v (M .un .neg .i64 u) = y := by
        subst hM
        show (v == IntKind.i64.wrap (0 - u)) = y
        rw [wrap_i64 (by omega) (by omega), hy, if_pos (by omega), Bool.eq_iff_iff]; simp; omega
      clear hy hu hv e
      simp only [e1]
      cbv
      rw [e3]
      cbv
      rw [show M .cmp .eql v (M .un .neg .i64 u) = _ from e2]
  · have e : ∀ b, M .cmp .eql 9 b = (9 == b) := fun b => by subst hM; rfl
    have hy : y = ((if v < u then v else u) == x.getD 2 0) := by rw [hy, hu, hv]; rfl
    have third := third (hl3 (by decide) (by decide))
    have h3 := hl3 (by decide) (by decide)
    repeat (simp only [e]; cbv)
    refine idx_ints hA (by omega) (by omega) fun p hp => ?_
    obtain ⟨⟨t1, t2⟩, t3⟩ := third p hp
    cbv
    refine idx_ints ha t1 t2 fun w hw => ?_
    have hw : w = x.getD 2 0 := by rw [hw]; exact t3
    rw [← hw] at hy
    clear hw t1 t2 t3 hp third
    repeat (simp only [e]; cbv)
    have eA : M .cmp .leq w u = decide (w ≤ u) := by subst hM; rfl
    have eB : M .cmp .leq w v = decide (w ≤ v) := by subst hM; rfl
    have eC : M .cmp .eql w u = decide (w = u) := by subst hM; rfl
    have eD : M .cmp .eql w v = decide (w = v) := by subst hM; rfl
    have hy : y = (decide (w ≤ u) && (decide (w ≤ v) && (decide (w = u) || decide (w = v)))) := by
      rw [hy, Bool.eq_iff_iff]; simp; split <;> omega
    generalize decide (w ≤ u) = q1 at hy eA
    generalize decide (w ≤ v) = q2 at hy eB
    generalize decide (w = u) = q3 at hy eC
    generalize decide (w = v) = q4 at hy eD
    clear hu hv e
    simp only [eA]
    cases q1
    · cbv
      rw [hy]; rfl
    cbv
    simp only [eB]
    cases q2
    · cbv
      rw [hy]; rfl
    cbv
    simp only [eC]
    cases q3
    · cbv
      rw [hy, show M .cmp .eql w v = _ from eD]; rfl
    · cbv
      rw [hy]; rfl
  · have e : ∀ b, M .cmp .eql 10 b = (10 == b) := fun b => by subst hM; rfl
    have hy : y = ((if v > u then v else u) == x.getD 2 0) := by rw [hy, hu, hv]; rfl
    have third := third (hl3 (by decide) (by decide))
    have h3 := hl3 (by decide) (by decide)
    repeat (simp only [e]; cbv)
    refine idx_ints hA (by omega) (by omega) fun p hp => ?_
    obtain ⟨⟨t1, t2⟩, t3⟩ := third p hp
    cbv
    refine idx_ints ha t1 t2 fun w hw => ?_
    have hw : w = x.getD 2 0 := by rw [hw]; exact t3
    rw [← hw] at hy
    clear hw t1 t2 t3 hp third
    repeat (simp only [e]; cbv)
    have eA : M .cmp .geq w u = decide (w ≥ u) := by subst hM; rfl
    have eB : M .cmp .geq w v = decide (w ≥ v) := by subst hM; rfl
    have eC : M .cmp .eql w u = decide (w = u) := by subst hM; rfl
    have eD : M .cmp .eql w v = decide (w = v) := by subst hM; rfl
    have hy : y = (decide (w ≥ u) && (decide (w ≥ v) && (decide (w = u) || decide (w = v)))) := by
      rw [hy, Bool.eq_iff_iff]; simp; split <;> omega
    generalize decide (w ≥ u) = q1 at hy eA
    generalize decide (w ≥ v) = q2 at hy eB
    generalize decide (w = u) = q3 at hy eC
    generalize decide (w = v) = q4 at hy eD
    clear hu hv e
    simp only [eA]
    cases q1
    · cbv
      rw [hy]; rfl
    cbv
    simp only [eB]
    cases q2
    · cbv
      rw [hy]; rfl
    cbv
    simp only [eC]
    cases q3
    · cbv
      rw [hy, show M .cmp .eql w v = _ from eD]; rfl
    · cbv
      rw [hy]; rfl
  · have e : ∀ b, M .cmp .eql 11 b = (11 == b) := fun b => by subst hM; rfl
    have hy : y = (decide (u ≥ 1) && (decide (u ≤ C'.length) && C'.getD (u - 1).toNat 0 == v)) := by rw [hy, hu, hv]; rfl
    repeat (simp only [e]; cbv)
    by_cases h1 : u ≥ 1
    · have e1 : M .cmp .geq u 1 = true := by subst hM; exact decide_eq_true h1
      have e2 : M .cmp .leq u (Int.ofNat (M .len rC)) = decide (u ≤ C'.length) := by
        subst hM
        show decide (u ≤ (rC.length : Int)) = _
        rw [hC', ints_len]
      simp only [e1]
      cbv
      rw [show M .cmp .leq u (Int.ofNat (M .len rC)) = _ from e2]
      by_cases h2 : u ≤ C'.length
      · rw [show decide (u ≤ (C'.length : Int)) = true by simpa using h2]
        rw [show decide (u ≥ 1) = true by simpa using h1, show decide (u ≤ (C'.length : Int)) = true by simpa using h2] at hy
        have nz : Int.ofNat (M .len rC) ≠ 0 := by
          subst hM
          show (rC.length : Int) ≠ 0
          rw [hC', ints_len]; omega
        have ei : M .arith .rem .i64 (M .mx (M .arith .sub .i64 u 1) 0) (Int.ofNat (M .len rC)) = u - 1 := by
          subst hM
          show (if 0 > IntKind.i64.wrap (u - 1) then 0 else IntKind.i64.wrap (u - 1)).tmod (rC.length : Int) = _
          rw [wrap_i64 (by omega) (by omega), if_neg (by omega), hC', ints_len]
          exact Int.tmod_eq_of_lt (by omega) (by omega)
        clear hu hv e e1 e2
        cbv
        refine .mk nz ?_
        cbv
        refine idx_ints hC' (by rw [show M .arith .rem .i64 (M .mx (M .arith .sub .i64 u 1) 0) (Int.ofNat (M .len rC)) = _ from ei]; omega) (by rw [show M .arith .rem .i64 (M .mx (M .arith .sub .i64 u 1) 0) (Int.ofNat (M .len rC)) = _ from ei]; (try simp only [ncast] at *); omega) fun w hw => ?_
        rw [show M .arith .rem .i64 (M .mx (M .arith .sub .i64 u 1) 0) (Int.ofNat (M .len rC)) = _ from ei] at hw
        cbv
        have ev : M .cmp .eql w v = y := by
          subst hM
          show (w == v) = y
          rw [hy, hw]; rfl
        rw [show M .cmp .eql w v = _ from ev]
      · rw [show decide (u ≤ (C'.length : Int)) = false by simpa using h2]
        cbv
        rw [hy]; simp; omega
    · have e1 : M .cmp .geq u 1 = false := by subst hM; exact decide_eq_false h1
      simp only [e1]
      cbv
      rw [hy]; simp; omega

def bools (l : List Bool) : List (List PV) := l.map fun b => [B b]
theorem bools_set (l : List Bool) (i : Nat) (b : Bool) : (bools l).set i [B b] = bools (l.set i b) := by simp [bools, List.map_set]
theorem bools_get {l : List Bool} {i : Nat} (h : i < l.length) : (bools l)[i]? = some [B (l.getD i false)] := by simp [bools, List.getD_eq_getElem?_getD, h]
theorem bools_rep (n : Nat) : List.replicate n [B false] = bools (List.replicate n false) := by simp [bools]
theorem idx_bools {R : List (List PV)} {L : List Bool} {i : Int} {K : List PV → Prop} (hR : R = bools L) (h0 : 0 ≤ i) (h1 : i < L.length) (k : ∀ v, v = L.getD i.toNat false → K [B v]) : Idx R i K := by
  subst hR
  exact .mk [B (L.getD i.toNat false)] h0 (bools_get (by omega)) (k _ rfl)

theorem c_rcircuit (kind K : Int) (rA rB rC rD rE rR ra : List (List PV)) (A a x : List Int) (hA : rA = ints A) (ha : ra = ints a) (X : Reads a A x) (h64 : A.length ≤ 1000000) (h1 : 1 ≤ A.length)
    (y : Bool) (hy : y = roundS x x.length 1 1) :
    Call .plain 57 [.agg [I kind, .list 1 rA, .list 1 rB, .list 1 rC, .list 1 rD, .list 1 rE, I K, .list 1 rR], .list 1 ra] (B y) := by
  have lx := X.len
  rw [← circ_round (by omega)] at hy
  refine call_of Proofs.Tryz.func57 Proofs.Tryz.call57 rfl rfl fun M C hM hC => ?_
  have lA : Int.ofNat (M .len rA) = A.length := by subst hM; show (rA.length : Int) = _; rw [hA, ints_len]
  cbv
  refine .mk (Int.le_refl _) ?_
  cbv
  refine .mk (Int.le_refl _) ?_
  cbv
  refine .mk (Int.natCast_nonneg _) ?_
  cbv
  refine .mk (by rw [show Int.ofNat (M .len rA) = _ from lA]; (try simp only [ncast] at *); omega) ?_
  cbv
  have rep0 : M .rep (Int.ofNat (M .len rA)) [B false] = bools (List.replicate A.length false) := by
    rw [lA]; subst hM
    show List.replicate ((A.length : Int)).toNat [B false] = _
    rw [Int.toNat_natCast, bools_rep]
  refine Loop.over (Nat × Int × List (List PV) × List Bool) (fun q => [(.t 8, I q.1), (.t 7, I q.2.1), (.a 1, .arr 0 4 1 q.2.2.1)]) 2 (fun q => A.length - q.1) (fun q => q.1 ≤ A.length ∧ 0 ≤ q.2.1 ∧ q.2.1 < A.length ∧ q.2.2.1 = bools q.2.2.2 ∧ q.2.2.2.length = A.length ∧ y = circS x (A.length - q.1) q.2.1.toNat q.2.2.2) (0, 0, M .rep (Int.ofNat (M .len rA)) [B false], List.replicate A.length false) ⟨Nat.zero_le _, Int.le_refl _, by show (0 : Int) < _; omega, rep0, by simp, by rw [hy, lx]; rfl⟩ (by (cbv; repeat' (first | exact True.intro | exact rfl | apply And.intro))) ?_
  rintro ⟨j, at', q, met⟩ ⟨hj, ha0, hat, hq, hmet, hr⟩
  simp only at hj ha0 hat hq hmet hr
  clear rep0
  cbv
  split <;> rename_i h <;> (try simp only [h]) <;> (try cbv) <;> (try simp only [ncast] at *)
  · have hlt : j < A.length := by subst hM; have h := of_decide_eq_true h; have h : (j : Int) < (rA.length : Int) := h; rw [hA, ints_len] at h; omega
    clear h
    obtain ⟨k, hk⟩ : ∃ k, A.length - j = k + 1 := ⟨A.length - j - 1, by omega⟩
    rw [hk] at hr
    simp only [circS] at hr
    have hat2 : at'.toNat < A.length := by omega
    refine idx_ints hA ha0 hat fun p hp => ?_
    cbv
    refine idx_ints ha (by rw [hp]; exact X.lo _ hat2) (by rw [hp]; exact X.hi _ hat2) fun v hv => ?_
    have hv : v = x.getD at'.toNat 0 := by rw [hv, hp]; exact X.get _ hat2
    rw [← hv] at hr
    clear hp
    cbv
    split <;> rename_i h <;> (try simp only [h]) <;> (try cbv) <;> (try simp only [ncast] at *)
    · have h2 : v < 1 := by subst hM; exact of_decide_eq_true h
      rw [if_pos (.inl h2)] at hr
      rw [hr]
    · have h2 : ¬ v < 1 := by subst hM; exact of_decide_eq_false h
      clear h
      split <;> rename_i h <;> (try simp only [h]) <;> (try cbv) <;> (try simp only [ncast] at *)
      · have h3 : v > x.length := by subst hM; have h := of_decide_eq_true h; have h : v > (rA.length : Int) := h; rw [hA, ints_len] at h; omega
        rw [if_pos (.inr (.inl h3))] at hr
        rw [hr]
      · have h3 : ¬ v > x.length := by subst hM; have h := of_decide_eq_false h; have h : ¬ v > (rA.length : Int) := h; rw [hA, ints_len] at h; omega
        clear h
        have e1 : M .arith .sub .i64 v 1 = v - 1 := by
          subst hM
          show IntKind.i64.wrap (v - 1) = _
          rw [wrap_i64 (by omega) (by omega)]
        have hv0 : 0 ≤ M .arith .sub .i64 v 1 := by rw [e1]; omega
        have hv1 : (M .arith .sub .i64 v 1 : Int) < (met.length : Int) := by rw [e1, hmet]; omega
        have hm : q.length = met.length := by rw [hq]; simp [bools]
        refine idx_bools hq hv0 hv1 fun b hb => ?_
        rw [show M .arith .sub .i64 v 1 = _ from e1] at hb
        cbv
        refine idx_bools hq hv0 hv1 fun b' hb' => ?_
        rw [show M .arith .sub .i64 v 1 = _ from e1] at hb'
        cbv
        rw [← hb'] at hr
        cases b'
        · rw [if_neg (by simp; omega)] at hr
          cbv
          refine idx_bools hq hv0 hv1 fun _ _ => ?_
          cbv
          refine idx_bools hq hv0 hv1 fun _ _ => ?_
          cbv
          refine ⟨⟨j + 1, M .arith .sub .i64 v 1, M .set q (M .arith .sub .i64 v 1) [B true], met.set (v - 1).toNat true⟩, ⟨hlt, hv0, by rw [← hmet]; exact hv1, ?_, by simpa using hmet, ?_⟩, ?_, by (cbv; repeat' (first | exact True.intro | exact rfl | apply And.intro)) <;> (subst hM; rw [succ_i64 (by omega)])⟩
          · simp only
            rw [e1, hq]; subst hM
            exact bools_set _ _ _
          · simp only
            rw [e1, show A.length - (j + 1) = k by omega]; exact hr
          · simp only; omega
        · rw [if_pos (by simp)] at hr
          cbv
          rw [hr]
  · have hj2 : j = A.length := by subst hM; have h := of_decide_eq_false h; have h : ¬ (j : Int) < (rA.length : Int) := h; rw [hA, ints_len] at h; omega
    subst hj2
    rw [Nat.sub_self, circS] at hr
    have ev : M .cmp .eql at' 0 = y := by
      subst hM
      show (at' == 0) = y
      rw [hr, Bool.eq_iff_iff]; simp; omega
    rw [ev]

theorem c_rpairs (kind K : Int) (rA rB rC rD rE rR ra : List (List PV)) (A Bl a x z : List Int) (hA : rA = ints A) (hB : rB = ints Bl) (ha : ra = ints a) (X : Reads a A x) (Z : Reads a Bl z) (h64 : A.length ≤ 64) (hl : Bl.length = A.length) (hk : kind = 22 ∨ kind = 23)
    (bx : ∀ i, -1000000 ≤ x.getD i 0 ∧ x.getD i 0 ≤ 1000000) (bz : ∀ i, -1000000 ≤ z.getD i 0 ∧ z.getD i 0 ≤ 1000000)
    (y : Bool) (hy : y = if kind = 22 then decide (compareS x z ≤ 0) else inverseS x z) :
    Call .plain 59 [.agg [I kind, .list 1 rA, .list 1 rB, .list 1 rC, .list 1 rD, .list 1 rE, I K, .list 1 rR], .list 1 ra] (B y) := by
  have lx := X.len
  have lz := Z.len
  have hlx : x.length = z.length := by omega
  have getX : ∀ i, i < A.length → ∀ p, p = A.getD i 0 → 0 ≤ p ∧ p < a.length ∧ a.getD p.toNat 0 = x.getD i 0 := fun i hi p hp => by rw [hp]; exact ⟨X.lo i hi, X.hi i hi, X.get i hi⟩
  have getZ : ∀ i, i < A.length → ∀ p, p = Bl.getD i 0 → 0 ≤ p ∧ p < a.length ∧ a.getD p.toNat 0 = z.getD i 0 := fun i hi p hp => by rw [hp]; exact ⟨Z.lo i (by omega), Z.hi i (by omega), Z.get i (by omega)⟩
  refine call_of Proofs.Tryz.func59 Proofs.Tryz.call59 rfl rfl fun M C hM hC => ?_
  obtain rfl | rfl := hk
  · have e : M .cmp .eql 22 22 = true := by subst hM; rfl
    replace hy : y = decide (compareS x z ≤ 0) := by simpa using hy
    cbv
    simp only [e]
    cbv
    refine Loop.over Nat (fun q => [(.t 6, I q)]) 1 (fun q => A.length - q) (fun q => q ≤ A.length ∧ ∀ i, i < q → x.getD i 0 = z.getD i 0) 0 ⟨Nat.zero_le _, by omega⟩ (by (cbv; repeat' (first | exact True.intro | exact rfl | apply And.intro))) ?_
    rintro j ⟨hj, hn⟩
    cbv
    split <;> rename_i h <;> (try simp only [h]) <;> (try cbv) <;> (try simp only [ncast] at *)
    · have hlt : j < A.length := by subst hM; have h := of_decide_eq_true h; have h : (j : Int) < (rA.length : Int) := h; rw [hA, ints_len] at h; omega
      clear h
      refine nidx_ints hA hlt fun p hp => ?_
      obtain ⟨p1, p2, p3⟩ := getX j hlt p hp
      cbv
      refine idx_ints ha p1 p2 fun u hu => ?_
      have hu : u = x.getD j 0 := by rw [hu]; exact p3
      clear p1 p2 p3 hp
      cbv
      refine nidx_ints hB (by omega) fun p hp => ?_
      obtain ⟨p1, p2, p3⟩ := getZ j hlt p hp
      cbv
      refine idx_ints ha p1 p2 fun v hv => ?_
      have hv : v = z.getD j 0 := by rw [hv]; exact p3
      clear p1 p2 p3 hp
      cbv
      split <;> rename_i h <;> (try simp only [h]) <;> (try cbv)
      · have h1 : u ≠ v := by subst hM; exact bne_iff_ne.1 h
        have ev : M .cmp .lss u v = y := by
          subst hM
          show decide (u < v) = y
          rw [hy, compare_at hlx (by omega) hn (by rw [← hu, ← hv]; exact h1), ← hu, ← hv]
        rw [ev]
      · have h1 : u = v := by subst hM; exact bne_eq_false_iff_eq.1 h
        refine ⟨j + 1, ⟨hlt, fun i hi => ?_⟩, ?_, by (cbv; repeat' (first | exact True.intro | exact rfl | apply And.intro)) <;> (subst hM; rw [succ_i64 (by omega)])⟩
        · rcases Nat.lt_or_ge i j with h3 | h3
          · exact hn i h3
          · have : i = j := by omega
            subst this; rw [← hu, ← hv]; exact h1
        · omega
    · have hj2 : j = A.length := by subst hM; have h := of_decide_eq_false h; have h : ¬ (j : Int) < (rA.length : Int) := h; rw [hA, ints_len] at h; omega
      subst hj2
      rw [hy, compare_same hlx fun i hi => hn i (by omega)]
  · have e : M .cmp .eql 23 22 = false := by subst hM; rfl
    replace hy : y = inverseS x z := by simpa using hy
    have hyi : y = true ↔ ∀ i, i < A.length → ∀ k, k < A.length → (1 ≤ x.getD i 0 ∧ x.getD i 0 ≤ A.length ∧ 1 ≤ z.getD k 0 ∧ z.getD k 0 ≤ A.length ∧ (x.getD i 0 = k + 1 ↔ z.getD k 0 = i + 1)) := by
      rw [hy, inverse_all hlx, lx]
    clear hy
    cbv
    simp only [e]
    cbv
    refine Loop.over Nat (fun q => [(.t 9, I q)]) 1 (fun q => A.length - q) (fun q => q ≤ A.length ∧ ∀ i, i < q → ∀ k, k < A.length → (1 ≤ x.getD i 0 ∧ x.getD i 0 ≤ A.length ∧ 1 ≤ z.getD k 0 ∧ z.getD k 0 ≤ A.length ∧ (x.getD i 0 = k + 1 ↔ z.getD k 0 = i + 1))) 0 ⟨Nat.zero_le _, by omega⟩ (by (cbv; repeat' (first | exact True.intro | exact rfl | apply And.intro))) ?_
    rintro j ⟨hj, hn⟩
    cbv
    split <;> rename_i h <;> (try simp only [h]) <;> (try cbv) <;> (try simp only [ncast] at *)
    · have hlt : j < A.length := by subst hM; have h := of_decide_eq_true h; have h : (j : Int) < (rA.length : Int) := h; rw [hA, ints_len] at h; omega
      clear h
      refine Loop.over Nat (fun q => [(.t 10, I q)]) 1 (fun q => A.length - q) (fun q => q ≤ A.length ∧ ∀ k, k < q → (1 ≤ x.getD j 0 ∧ x.getD j 0 ≤ A.length ∧ 1 ≤ z.getD k 0 ∧ z.getD k 0 ≤ A.length ∧ (x.getD j 0 = k + 1 ↔ z.getD k 0 = j + 1))) 0 ⟨Nat.zero_le _, by omega⟩ (by (cbv; repeat' (first | exact True.intro | exact rfl | apply And.intro))) ?_
      rintro k ⟨hk, hn2⟩
      cbv
      split <;> rename_i h <;> (try simp only [h]) <;> (try cbv) <;> (try simp only [ncast] at *)
      · have hlt2 : k < A.length := by subst hM; have h := of_decide_eq_true h; have h : (k : Int) < (rA.length : Int) := h; rw [hA, ints_len] at h; omega
        clear h
        refine nidx_ints hA hlt fun p hp => ?_
        obtain ⟨p1, p2, p3⟩ := getX j hlt p hp
        cbv
        refine idx_ints ha p1 p2 fun u hu => ?_
        have hu : u = x.getD j 0 := by rw [hu]; exact p3
        clear p1 p2 p3 hp
        cbv
        refine nidx_ints hB (by omega) fun p hp => ?_
        obtain ⟨p1, p2, p3⟩ := getZ k hlt2 p hp
        cbv
        refine idx_ints ha p1 p2 fun v hv => ?_
        have hv : v = z.getD k 0 := by rw [hv]; exact p3
        clear p1 p2 p3 hp
        have no : ¬ (1 ≤ u ∧ u ≤ A.length ∧ 1 ≤ v ∧ v ≤ A.length ∧ (u = k + 1 ↔ v = j + 1)) → y = false := fun h => by
          rw [← Bool.not_eq_true, hyi]
          intro h2
          have := h2 j hlt k hlt2
          rw [← hu, ← hv] at this
          exact h this
        have ebn : M .beq .neq (M .cmp .eql u (M .arith .add .i64 (Int.ofNat k) 1)) (M .cmp .eql v (M .arith .add .i64 (Int.ofNat j) 1)) = !decide (u = k + 1 ↔ v = j + 1) := by
          subst hM
          rw [succ_i64 (by omega), succ_i64 (by omega)]
          show (!((u == ((k + 1 : Nat) : Int)) == (v == ((j + 1 : Nat) : Int)))) = _
          congr 1
          rw [Bool.eq_iff_iff]
          simp
          by_cases h1 : u = k + 1 <;> by_cases h2 : v = j + 1 <;> simp [h1, h2, beq_eq_false_iff_ne.2]
        cbv
        split <;> rename_i h <;> (try simp only [h]) <;> (try cbv) <;> (try simp only [ncast] at *)
        · have h1 : u < 1 := by subst hM; exact of_decide_eq_true h
          rw [no (by omega)]
        have h1 : ¬ u < 1 := by subst hM; exact of_decide_eq_false h
        clear h
        split <;> rename_i h <;> (try simp only [h]) <;> (try cbv) <;> (try simp only [ncast] at *)
        · have h2 : u > A.length := by subst hM; have h := of_decide_eq_true h; have h : u > (rA.length : Int) := h; rw [hA, ints_len] at h; omega
          rw [no (by omega)]
        have h2 : ¬ u > A.length := by subst hM; have h := of_decide_eq_false h; have h : ¬ u > (rA.length : Int) := h; rw [hA, ints_len] at h; omega
        clear h
        split <;> rename_i h <;> (try simp only [h]) <;> (try cbv) <;> (try simp only [ncast] at *)
        · have h3 : v < 1 := by subst hM; exact of_decide_eq_true h
          rw [no (by omega)]
        have h3 : ¬ v < 1 := by subst hM; exact of_decide_eq_false h
        clear h
        split <;> rename_i h <;> (try simp only [h]) <;> (try cbv) <;> (try simp only [ncast] at *)
        · have h4 : v > A.length := by subst hM; have h := of_decide_eq_true h; have h : v > (rA.length : Int) := h; rw [hA, ints_len] at h; omega
          rw [no (by omega)]
        have h4 : ¬ v > A.length := by subst hM; have h := of_decide_eq_false h; have h : ¬ v > (rA.length : Int) := h; rw [hA, ints_len] at h; omega
        clear h
        rw [ebn]
        by_cases h5 : u = k + 1 ↔ v = j + 1
        · rw [show (!decide (u = k + 1 ↔ v = j + 1)) = false by simpa using h5]
          cbv
          refine ⟨k + 1, ⟨hlt2, fun i hi => ?_⟩, ?_, by (cbv; repeat' (first | exact True.intro | exact rfl | apply And.intro)) <;> (subst hM; rw [succ_i64 (by omega)])⟩
          · rcases Nat.lt_or_ge i k with h6 | h6
            · exact hn2 i h6
            · have : i = k := by omega
              subst this; rw [← hu, ← hv]; exact ⟨by omega, by omega, by omega, by omega, h5⟩
          · omega
        · rw [show (!decide (u = k + 1 ↔ v = j + 1)) = true by simpa using h5]
          cbv
          rw [no fun h => h5 h.2.2.2.2]
      · have hk2 : k = A.length := by subst hM; have h := of_decide_eq_false h; have h : ¬ (k : Int) < (rA.length : Int) := h; rw [hA, ints_len] at h; omega
        subst hk2
        refine ⟨j + 1, ⟨hlt, fun i hi => ?_⟩, ?_, by (cbv; repeat' (first | exact True.intro | exact rfl | apply And.intro)) <;> (subst hM; rw [succ_i64 (by omega)])⟩
        · rcases Nat.lt_or_ge i j with h6 | h6
          · exact hn i h6
          · have : i = j := by omega
            subst this; exact hn2
        · omega
    · have hj2 : j = A.length := by subst hM; have h := of_decide_eq_false h; have h : ¬ (j : Int) < (rA.length : Int) := h; rw [hA, ints_len] at h; omega
      subst hj2
      rw [hyi.2 hn]
