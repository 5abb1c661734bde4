/- Package ground: arithmetic, logic. -/
import Derived.Test.YtlgoiaembdlemaaGreatGr1
import Derived.Test.YtlgoiaembdlemaaGreatPic
import Derived.Test.YtlgoiaembdlemaaGreatGr2
import Derived.Test.YtlgoiaembdlemaaGreatSl1
set_option linter.unusedSimpArgs false
set_option linter.unusedVariables false
namespace Go.Pi
open Go
set_option linter.unusedVariables false


theorem tdiv_le (a b : Int) (h1 : -1000000 ≤ a ∧ a ≤ 1000000) : -1000000 ≤ a.tdiv b ∧ a.tdiv b ≤ 1000000 := by
  have h : (a.tdiv b).natAbs ≤ a.natAbs := Int.natAbs_tdiv_le_natAbs a b
  omega

theorem c_arith (kind K : Int) (A B' D E Rw rC rx : List (List PV)) (C' x : List Int) (hC' : rC = ints C') (hx : rx = ints x) (h64 : C'.length ≤ 1000000) (hk : 5 ≤ kind ∧ kind ≤ 11) (hl : 2 ≤ x.length) (hl3 : kind ≠ 8 → kind ≠ 11 → 3 ≤ x.length)
    (bx : ∀ i, -1000000 ≤ x.getD i 0 ∧ x.getD i 0 ≤ 1000000) (y : Bool) (hy : y = arithS kind C' x) :
    Call .plain 29 [.agg [I kind, .list 1 A, .list 1 B', .list 1 rC, .list 1 D, .list 1 E, I K, .list 1 Rw], .list 1 rx] (B y) := by
  refine call_of Proofs.Tryz.func29 Proofs.Tryz.call29 rfl rfl fun M C hM hC => ?_
  have eql : ∀ a b, M .cmp .eql a b = (a == b) := fun a b => by subst hM; rfl
  generalize ha : x.getD 0 0 = a
  generalize hb : x.getD 1 0 = b
  generalize hc : x.getD 2 0 = c
  have ba := ha ▸ bx 0
  have bb := hb ▸ bx 1
  have bc := hc ▸ bx 2
  simp only [arithS, ha, hb, hc] at hy
  have i0 : ∀ {K : List PV → Prop}, K [I a] → Idx rx 0 K := fun k => idx_ints hx (by decide) (by omega) fun v hv => by
    have : v = a := by rw [hv]; exact ha
    subst this; exact k
  have i1 : ∀ {K : List PV → Prop}, K [I b] → Idx rx 1 K := fun k => idx_ints hx (by decide) (by omega) fun v hv => by
    have : v = b := by rw [hv]; exact hb
    subst this; exact k
  have i2 : kind ≠ 8 → kind ≠ 11 → ∀ {K : List PV → Prop}, K [I c] → Idx rx 2 K := fun k8 k11 K k => idx_ints hx (by decide) (by have := hl3 k8 k11; omega) fun v hv => by
    have : v = c := by rw [hv]; exact hc
    subst this; exact k
  obtain rfl | rfl | rfl | rfl | rfl | rfl | rfl : kind = 5 ∨ kind = 6 ∨ kind = 7 ∨ kind = 8 ∨ kind = 9 ∨ kind = 10 ∨ kind = 11 := by omega
  · have i2 := @i2 (by decide) (by decide)
    have e : ∀ b, M .cmp .eql 5 b = ((5:Int) == b) := fun b => eql 5 b
    clear eql hl3 hk
    cbv
    simp only [e]; cbv
    refine i0 ?_; cbv
    refine i1 ?_; cbv
    refine i2 ?_; cbv
    subst hM
    have := mul_le ba bb
    rw [real_eql, real_mul, wrap_i64 (by omega) (by omega), hy]; simp
  · have i2 := @i2 (by decide) (by decide)
    have e : ∀ b, M .cmp .eql 6 b = ((6:Int) == b) := fun b => eql 6 b
    clear eql hl3 hk
    cbv
    repeat (simp only [e]; cbv)
    refine i1 ?_; cbv
    split <;> rename_i h <;> (try simp only [h]) <;> (try cbv)
    · have h1 : b ≠ 0 := by subst hM; simpa using h
      refine i0 ?_; cbv
      refine i1 ?_; cbv
      refine .mk h1 ?_; cbv
      refine i2 ?_; cbv
      subst hM
      have := tdiv_le a b ba
      rw [real_eql, real_quo, wrap_i64 (by omega) (by omega), hy]; simp [h1]
    · have h1 : b = 0 := by subst hM; simpa using h
      rw [hy, h1]; simp
  · have i2 := @i2 (by decide) (by decide)
    have e : ∀ b, M .cmp .eql 7 b = ((7:Int) == b) := fun b => eql 7 b
    clear eql hl3 hk
    cbv
    repeat (simp only [e]; cbv)
    refine i1 ?_; cbv
    split <;> rename_i h <;> (try simp only [h]) <;> (try cbv)
    · have h1 : b ≠ 0 := by subst hM; simpa using h
      refine i0 ?_; cbv
      refine i1 ?_; cbv
      refine .mk h1 ?_; cbv
      refine i2 ?_; cbv
      subst hM
      rw [real_eql, real_rem, hy]; simp [h1]
    · have h1 : b = 0 := by subst hM; simpa using h
      rw [hy, h1]; simp
  · have e : ∀ b, M .cmp .eql 8 b = ((8:Int) == b) := fun b => eql 8 b
    clear eql hl3 hk i2
    cbv
    repeat (simp only [e]; cbv)
    refine i0 ?_; cbv
    refine i0 ?_; cbv
    refine i1 ?_; cbv
    subst hM
    rw [real_eql, real_mx, real_neg, wrap_i64 (by omega) (by omega), hy, Int.zero_sub]; simp
  · have i2 := @i2 (by decide) (by decide)
    have e : ∀ b, M .cmp .eql 9 b = ((9:Int) == b) := fun b => eql 9 b
    clear eql hl3 hk
    cbv
    repeat (simp only [e]; cbv)
    refine i0 ?_; cbv
    refine i1 ?_; cbv
    refine i2 ?_; cbv
    subst hM
    rw [real_eql, real_mn, hy]; simp
  · have i2 := @i2 (by decide) (by decide)
    have e : ∀ b, M .cmp .eql 10 b = ((10:Int) == b) := fun b => eql 10 b
    clear eql hl3 hk
    cbv
    repeat (simp only [e]; cbv)
    refine i0 ?_; cbv
    refine i1 ?_; cbv
    refine i2 ?_; cbv
    subst hM
    rw [real_eql, real_mx, hy]; simp
  · have e : ∀ b, M .cmp .eql 11 b = ((11:Int) == b) := fun b => eql 11 b
    clear eql hl3 hk i2
    cbv
    repeat (simp only [e]; cbv)
    refine i0 ?_; cbv
    split <;> rename_i h <;> (try simp only [h]) <;> (try cbv)
    · have h1 : a ≥ 1 := by subst hM; simpa using h
      refine i0 ?_; cbv
      split <;> rename_i h <;> (try simp only [h]) <;> (try cbv)
      · have h2 : a ≤ C'.length := by subst hM; simpa [hC'] using h
        refine i0 ?_; cbv
        have e1 : M .arith .sub .i64 a 1 = a - 1 := by subst hM; simp; rw [wrap_i64 (by omega) (by omega)]
        (try simp only [ncast] at *)
        refine idx_ints hC' (by rw [e1]; omega) (by rw [e1]; omega) fun v hv => ?_
        rw [e1] at hv
        cbv
        refine i1 ?_; cbv
        subst hM
        rw [real_eql, hy, ← hv]; simp [h1, h2]
      · have h2 : ¬ a ≤ C'.length := by subst hM; simp [hC'] at h; omega
        rw [hy]; simp [h2]
    · have h1 : ¬ a ≥ 1 := by subst hM; simp at h; omega
      rw [hy]; simp [h1]


theorem c_logic (kind K : Int) (A B' D E Rw rC rx rz : List (List PV)) (C' x z : List Int) (hC' : rC = ints C') (hx : rx = ints x) (hz : rz = ints z) (hk : kind = 4 ∨ kind = 12 ∨ 13 ≤ kind ∧ kind ≤ 16)
    (hz1 : kind ≠ 12 → 1 ≤ z.length) (hx1 : kind ≠ 12 → 1 ≤ x.length) (hl : kind = 4 → C'.length ≤ x.length) (h64 : C'.length ≤ 64) (h65 : x.length ≤ 1000000) (h66 : z.length ≤ 1000000)
    (bC : ∀ i, -1000000 ≤ C'.getD i 0 ∧ C'.getD i 0 ≤ 1000000) (bx : ∀ i, -1000000 ≤ x.getD i 0 ∧ x.getD i 0 ≤ 1000000) (y : Bool) (hy : y = logicS kind K C' x z) :
    Call .plain 19 [.agg [I kind, .list 1 A, .list 1 B', .list 1 rC, .list 1 D, .list 1 E, I K, .list 1 Rw], .list 1 rx, .list 1 rz] (B y) := by
  refine call_of Proofs.Tryz.func19 Proofs.Tryz.call19 rfl rfl fun M C hM hC => ?_
  have eql : ∀ a b, M .cmp .eql a b = (a == b) := fun a b => by subst hM; rfl
  have cx := c_contains rx x 1 hx h65 _ rfl
  have cz := c_contains rz z 0 hz h66 _ rfl
  have cs := fun hl => c_sum kind K A B' D E Rw rC rx C' x hC' hx hl h64 bC bx _ rfl
  simp only [logicS] at hy
  generalize sumN (fun i => C'.getD i 0 * x.getD i 0) C'.length = n at hy cs
  generalize x.contains 1 = q1 at hy cx
  generalize z.contains 0 = q2 at hy cz
  generalize ha : x.getD 0 0 = a at hy
  generalize hb : z.getD 0 0 = b at hy
  have i0 : kind ≠ 12 → ∀ {K : List PV → Prop}, K [I a] → Idx rx 0 K := fun h12 K k => idx_ints hx (by decide) (by have := hx1 h12; omega) fun v hv => by
    have : v = a := by rw [hv]; exact ha
    subst this; exact k
  have z0 : kind ≠ 12 → ∀ {K : List PV → Prop}, K [I b] → Idx rz 0 K := fun h12 K k => idx_ints hz (by decide) (by have := hz1 h12; omega) fun v hv => by
    have : v = b := by rw [hv]; exact hb
    subst this; exact k
  obtain rfl | rfl | rfl | rfl | rfl | rfl : kind = 4 ∨ kind = 12 ∨ kind = 13 ∨ kind = 14 ∨ kind = 15 ∨ kind = 16 := by omega
  · have z0 := @z0 (by decide)
    have cs := cs (hl rfl)
    have e : ∀ b, M .cmp .eql 4 b = ((4:Int) == b) := fun b => eql 4 b
    clear eql hk i0 cx cz
    cbv
    repeat (simp only [e]; cbv)
    refine z0 ?_; cbv
    refine .mk _ (use_call hC cs) ?_; cbv
    generalize hq : M .cmp .leq n K = q
    refine .mk _ (use_call hC (c_truth b q _ rfl)) ?_
    subst hM
    generalize hr : truthS b q = r
    cbv
    rw [hy, ← hr, ← hq]; simp
  · have e : ∀ b, M .cmp .eql 12 b = ((12:Int) == b) := fun b => eql 12 b
    clear eql hk i0 z0 cs
    cbv
    repeat (simp only [e]; cbv)
    refine .mk _ (use_call hC cx) ?_; cbv
    cases q1
    · cbv
      refine .mk _ (use_call hC cz) ?_; cbv
      rw [hy]; simp
    · cbv
      rw [hy]; simp
  · have z0 := @z0 (by decide)
    have i0 := @i0 (by decide)
    have e : ∀ b, M .cmp .eql 13 b = ((13:Int) == b) := fun b => eql 13 b
    clear eql hk cx cz cs
    cbv
    repeat (simp only [e]; cbv)
    refine z0 ?_; cbv
    refine i0 ?_; cbv
    generalize hq : M .cmp .eql a K = q
    refine .mk _ (use_call hC (c_truth b q _ rfl)) ?_
    subst hM
    generalize hr : truthS b q = r
    cbv
    rw [hy, ← hr, ← hq]; simp
  · have z0 := @z0 (by decide)
    have i0 := @i0 (by decide)
    have e : ∀ b, M .cmp .eql 14 b = ((14:Int) == b) := fun b => eql 14 b
    clear eql hk cx cz cs
    cbv
    repeat (simp only [e]; cbv)
    refine z0 ?_; cbv
    refine i0 ?_; cbv
    generalize hq : M .cmp .leq a K = q
    refine .mk _ (use_call hC (c_truth b q _ rfl)) ?_
    subst hM
    generalize hr : truthS b q = r
    cbv
    rw [hy, ← hr, ← hq]; simp
  · have z0 := @z0 (by decide)
    have i0 := @i0 (by decide)
    have e : ∀ b, M .cmp .eql 15 b = ((15:Int) == b) := fun b => eql 15 b
    clear eql hk cx cz cs
    cbv
    repeat (simp only [e]; cbv)
    refine z0 ?_; cbv
    refine i0 ?_; cbv
    generalize hq : M .cmp .eql a K = q
    refine .mk _ (use_call hC (c_implied b q _ rfl)) ?_
    subst hM
    generalize hr : impliedS b q = r
    cbv
    rw [hy, ← hr, ← hq]; simp
  · have z0 := @z0 (by decide)
    have i0 := @i0 (by decide)
    have e : ∀ b, M .cmp .eql 16 b = ((16:Int) == b) := fun b => eql 16 b
    clear eql hk cx cz cs
    cbv
    repeat (simp only [e]; cbv)
    refine z0 ?_; cbv
    refine i0 ?_; cbv
    generalize hq : M .cmp .leq a K = q
    refine .mk _ (use_call hC (c_implied b q _ rfl)) ?_
    subst hM
    generalize hr : impliedS b q = r
    cbv
    rw [hy, ← hr, ← hq]; simp
