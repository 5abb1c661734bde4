/- Package jigsawref09: sums, three numbers, logic. Package jigsawref01: a quotient. -/
import Derived.Test.YtlgoiaembdlemaaGreatDoorMRf1ToRf2b
import Derived.Test.YtlgoiaembdlemaaGreatDoorPid
import Derived.Test.YtlgoiaembdlemaaGreatDoorEnv
set_option linter.unusedSimpArgs false
set_option linter.unusedVariables false

/- Package jigsawref09: sums, three numbers, logic. Package jigsawref01: a quotient. -/
namespace Go.Pi
open Go
set_option linter.unusedVariables false
set_option linter.unusedSimpArgs false

theorem c_rsize (a : Int) (hb : -9223372036854775808 ≤ a ∧ a ≤ 9223372036854775807) (y : Int) (hy : y = (a.natAbs : Int)) : Call .plain 221 [I a] (U64 y) := by
  have n1 : a < 0 → y = 0 - (a + 1) + 1 := fun h => by omega
  have n2 : ¬ a < 0 → y = a := fun h => by omega
  refine call_of Proofs.Tryz.func221 Proofs.Tryz.call221 rfl rfl fun M C hM hC => ?_
  cbv
  split <;> rename_i h <;> (try simp only [h]) <;> (try cbv)
  · have h1 : a < 0 := by subst hM; exact of_decide_eq_true h
    rw [n1 h1]; subst hM
    show U64 (IntKind.u64.wrap (IntKind.u64.wrap (IntKind.i64.wrap (0 - IntKind.i64.wrap (a + 1))) + 1)) = U64 _
    rw [wrap_i64 (x := a + 1) (by omega) (by omega), wrap_i64 (by omega) (by omega), wrap_u64 (x := 0 - (a + 1)) (by omega) (by omega), wrap_u64 (by omega) (by omega)]
  · have h1 : ¬ a < 0 := by subst hM; exact of_decide_eq_false h
    rw [n2 h1]; subst hM
    show U64 (IntKind.u64.wrap a) = U64 _
    rw [wrap_u64 (by omega) (by omega)]

def quoOK (a b : Int) : Bool := !(b == 0 || (b == -1 && a == -9223372036854775808))
theorem c_rquo (a b : Int) (ha : -9223372036854775808 ≤ a ∧ a ≤ 9223372036854775807) (hb : -9223372036854775808 ≤ b ∧ b ≤ 9223372036854775807) (q : Int) (ok : Bool) (hok : ok = quoOK a b) (hq : q = if ok then a.tdiv b else 0) :
    Call .plain 166 [I a, I b] (.tup [I q, B ok]) := by
  have sa := c_rsize a ha _ rfl
  have sb := c_rsize b hb _ rfl
  refine call_of Proofs.Tryz.func166 Proofs.Tryz.call166 rfl rfl fun M C hM hC => ?_
  have e0 : M .cmp .eql b 0 = (b == 0) := by subst hM; rfl
  have e1 : M .cmp .eql b (-1) = (b == -1) := by subst hM; rfl
  have e2 : M .cmp .eql a (-9223372036854775808) = (a == -9223372036854775808) := by subst hM; rfl
  by_cases h0 : b = 0
  · have e0 : M .cmp .eql b 0 = true := by rw [e0]; simpa using h0
    have hok : ok = false := by rw [hok, quoOK, h0]; rfl
    rw [hok] at hq
    cbv
    simp only [e0]
    cbv
    simp [hok, hq]
  · have e0 : M .cmp .eql b 0 = false := by rw [e0]; simpa using h0
    by_cases hx : b = -1 ∧ a = -9223372036854775808
    · have e1 : M .cmp .eql b (-1) = true := by rw [e1]; simpa using hx.1
      have e2 : M .cmp .eql a (-9223372036854775808) = true := by rw [e2]; simpa using hx.2
      have hok : ok = false := by rw [hok, quoOK, hx.1, hx.2]; rfl
      rw [hok] at hq
      cbv
      simp only [e0]
      cbv
      simp only [e1]
      cbv
      simp only [e2]
      cbv
      simp [hok, hq]
    · have hok : ok = true := by
        rw [hok, quoOK]
        simp [h0]
        omega
      rw [hok, if_pos rfl] at hq
      have eq1 : IntKind.u64.wrap ((a.natAbs : Int).tdiv b.natAbs) = ((a.natAbs / b.natAbs : Nat) : Int) := by
        have h1 : a.natAbs / b.natAbs ≤ a.natAbs := Nat.div_le_self _ _
        have key : ∀ n : Nat, n ≤ a.natAbs → IntKind.u64.wrap (n : Int) = n := fun n h => wrap_u64 (by omega) (by omega)
        exact key _ h1
      have fin : ∀ G : Prop, (∀ z : Bool, z = (b == -1) → True) → True := fun _ _ => trivial
      obtain ⟨za, hza⟩ : ∃ z, z = (a.natAbs : Int) := ⟨_, rfl⟩
      obtain ⟨zb, hzb⟩ : ∃ z, z = (b.natAbs : Int) := ⟨_, rfl⟩
      rw [← hza] at sa
      rw [← hzb] at sb
      have nz : zb ≠ 0 := by omega
      have val : M .conv .i64 (M .arith .quo .u64 za zb) = IntKind.i64.wrap ((a.natAbs / b.natAbs : Nat) : Int) := by
        subst hM
        show IntKind.i64.wrap (IntKind.u64.wrap (za.tdiv zb)) = _
        rw [hza, hzb, eq1]
      have ebn : M .beq .neq (M .cmp .lss a 0) (M .cmp .lss b 0) = !decide ((a < 0) ↔ (b < 0)) := by
        subst hM
        show (!(decide (a < 0) == decide (b < 0))) = _
        congr 1
        by_cases h1 : a < 0 <;> by_cases h2 : b < 0 <;> simp [h1, h2]
      have vneg : ¬ ((a < 0) ↔ (b < 0)) → M .un .neg .i64 (M .conv .i64 (M .arith .quo .u64 za zb)) = q := fun hs => by
        rw [val, hq]; subst hM
        exact neg_wrap ha h0 hs
      have vpos : ((a < 0) ↔ (b < 0)) → M .conv .i64 (M .arith .quo .u64 za zb) = q := fun hs => by
        rw [val, hq]
        exact pos_wrap ha h0 hx hs
      clear eq1 hza hzb val
      have e12 : M .cmp .eql b (-1) = false ∨ M .cmp .eql b (-1) = true ∧ M .cmp .eql a (-9223372036854775808) = false := by
        rw [e1, e2]
        by_cases h : b = -1
        · exact .inr ⟨by simpa using h, by simpa using fun h2 => hx ⟨h, h2⟩⟩
        · exact .inl (by simpa using h)
      clear e1 e2 hq fin hx
      cbv
      simp only [e0]
      cbv
      rcases e12 with e1 | ⟨e1, e2⟩
      · simp only [e1]
        cbv
        refine .mk _ (use_call hC sa) ?_
        cbv
        refine .mk _ (use_call hC sb) ?_
        cbv
        refine .mk nz ?_
        cbv
        rw [ebn]
        by_cases hs : (a < 0) ↔ (b < 0)
        · have vpos := vpos hs
          rw [show (!decide ((a < 0) ↔ (b < 0))) = false by simpa using hs]
          clear vneg ebn
          cbv
          simp [vpos, hok]
        · have vneg := vneg hs
          rw [show (!decide ((a < 0) ↔ (b < 0))) = true by simpa using hs]
          clear vpos ebn
          cbv
          simp [vneg, hok]
      · simp only [e1]
        cbv
        simp only [e2]
        cbv
        refine .mk _ (use_call hC sa) ?_
        cbv
        refine .mk _ (use_call hC sb) ?_
        cbv
        refine .mk nz ?_
        cbv
        rw [ebn]
        by_cases hs : (a < 0) ↔ (b < 0)
        · have vpos := vpos hs
          rw [show (!decide ((a < 0) ↔ (b < 0))) = false by simpa using hs]
          clear vneg ebn
          cbv
          simp [vpos, hok]
        · have vneg := vneg hs
          rw [show (!decide ((a < 0) ↔ (b < 0))) = true by simpa using hs]
          clear vpos ebn
          cbv
          simp [vneg, hok]

theorem c_rsum (kind K : Int) (rA rB rC rD rE rR ra : List (List PV)) (A C' a x : List Int) (hA : rA = ints A) (hC' : rC = ints C') (ha : ra = ints a) (X : Reads a A x) (hl : A.length ≤ C'.length) (h64 : A.length ≤ 64)
    (bC : ∀ i, -1000000 ≤ C'.getD i 0 ∧ C'.getD i 0 ≤ 1000000) (bx : ∀ i, -1000000 ≤ x.getD i 0 ∧ x.getD i 0 ≤ 1000000)
    (y : Int) (hy : y = sumN (fun i => C'.getD i 0 * x.getD i 0) A.length) :
    Call .plain 165 [.agg [I kind, .list 1 rA, .list 1 rB, .list 1 rC, .list 1 rD, .list 1 rE, I K, .list 1 rR], .list 1 ra] (I y) := by
  refine call_of Proofs.Tryz.func165 Proofs.Tryz.call165 rfl rfl fun M C hM hC => ?_
  cbv
  refine Loop.over (Nat × Int) (fun q => [(.t 6, I q.1), (.t 5, I q.2)]) 1 (fun q => A.length - q.1) (fun q => q.1 ≤ A.length ∧ q.2 = sumN (fun i => C'.getD i 0 * x.getD i 0) q.1) (0, 0) ⟨Nat.zero_le _, rfl⟩ (by (cbv; repeat' (first | exact True.intro | exact rfl | apply And.intro))) ?_
  rintro ⟨j, n⟩ ⟨hj, hn⟩
  simp only at hj hn
  cbv
  split <;> rename_i h <;> (try simp only [h]) <;> (try cbv)
  · have hlt : j < A.length := by subst hM; simpa [hA] using h
    refine nidx_ints hC' (by omega) fun v hv => ?_
    cbv
    refine nidx_ints hA hlt fun p hp => ?_
    cbv
    refine idx_ints ha (by rw [hp]; exact X.lo j hlt) (by rw [hp]; exact X.hi j hlt) fun u hu => ?_
    have hu : u = x.getD j 0 := by rw [hu, hp]; exact X.get j hlt
    cbv
    refine ⟨⟨j + 1, _⟩, ⟨hlt, ?_⟩, ?_, by (cbv; repeat' (first | exact True.intro | exact rfl | apply And.intro)) <;> (subst hM; rw [succ_i64 (by omega)])⟩
    · subst hM
      have h1 := bC j
      have h2 := bx j
      rw [← hv] at h1; rw [← hu] at h2
      have hb := mul_le h1 h2
      have hs := sumN_le (f := fun i => C'.getD i 0 * x.getD i 0) (b := 1000000000000) (by decide) j fun i _ => mul_le (bC i) (bx i)
      simp only [real_mul, real_add, sumN]
      rw [wrap_i64 (x := v * u) (by omega) (by omega), wrap_i64 (by omega) (by omega), hn, hv, hu]
    · simp only; omega
  · subst hM
    simp [hA] at h
    have : j = A.length := by omega
    rw [hy, hn, this]

theorem c_rlinear (kind K : Int) (rA rB rC rD rE rR ra : List (List PV)) (A Bl C' a x z : List Int) (hA : rA = ints A) (hB : rB = ints Bl) (hC' : rC = ints C') (ha : ra = ints a) (X : Reads a A x) (Z : Reads a Bl z) (hl : A.length ≤ C'.length) (h64 : A.length ≤ 64) (hz : kind = 4 → 1 ≤ Bl.length) (hk : 1 ≤ kind ∧ kind ≤ 4)
    (bC : ∀ i, -1000000 ≤ C'.getD i 0 ∧ C'.getD i 0 ≤ 1000000) (bx : ∀ i, -1000000 ≤ x.getD i 0 ∧ x.getD i 0 ≤ 1000000) (n : Int) (hn : n = sumN (fun i => C'.getD i 0 * x.getD i 0) A.length)
    (y : Bool) (hy : y = if kind = 1 then n == K else if kind = 2 then decide (n ≤ K) else if kind = 3 then n != K else truthS (z.getD 0 0) (decide (n ≤ K))) :
    Call .plain 93 [.agg [I kind, .list 1 rA, .list 1 rB, .list 1 rC, .list 1 rD, .list 1 rE, I K, .list 1 rR], .list 1 ra] (B y) := by
  have cs := c_rsum kind K rA rB rC rD rE rR ra A C' a x hA hC' ha X hl h64 bC bx n hn
  clear hn
  refine call_of Proofs.Tryz.func93 Proofs.Tryz.call93 rfl rfl fun M C hM hC => ?_
  obtain rfl | rfl | rfl | rfl : kind = 1 ∨ kind = 2 ∨ kind = 3 ∨ kind = 4 := by omega
  · have e : ∀ b, M .cmp .eql 1 b = (1 == b) := fun b => by subst hM; rfl
    have hy : y = M .cmp .eql n K := by subst hM; simpa using hy
    cbv
    refine .mk _ (use_call hC cs) ?_
    cbv
    simp only [e]
    cbv
    rw [hy]
  · have e : ∀ b, M .cmp .eql 2 b = (2 == b) := fun b => by subst hM; rfl
    have hy : y = M .cmp .leq n K := by subst hM; simpa using hy
    cbv
    refine .mk _ (use_call hC cs) ?_
    cbv
    repeat (simp only [e]; cbv)
    rw [hy]
  · have e : ∀ b, M .cmp .eql 3 b = (3 == b) := fun b => by subst hM; rfl
    have hy : y = M .cmp .neq n K := by subst hM; simpa using hy
    cbv
    refine .mk _ (use_call hC cs) ?_
    cbv
    repeat (simp only [e]; cbv)
    rw [hy]
  · have e : ∀ b, M .cmp .eql 4 b = (4 == b) := fun b => by subst hM; rfl
    have hz := hz rfl
    have hy : y = truthS (z.getD 0 0) (decide (n ≤ K)) := by simpa using hy
    cbv
    refine .mk _ (use_call hC cs) ?_
    cbv
    repeat (simp only [e]; cbv)
    clear e
    refine idx_ints hB (by omega) (by omega) fun p hp => ?_
    cbv
    refine idx_ints ha (by rw [hp]; exact Z.lo 0 hz) (by rw [hp]; exact Z.hi 0 hz) fun b hb => ?_
    have hb : b = z.getD 0 0 := by rw [hb, hp]; exact Z.get 0 hz
    rw [← hb] at hy
    obtain ⟨l, hl⟩ : ∃ l, l = decide (n ≤ K) := ⟨_, rfl⟩
    rw [← hl] at hy
    have el : M .cmp .leq n K = l := by subst hM; exact hl.symm
    have eg : M .cmp .gtr n K = !l := by
      subst hM
      show decide (n > K) = !l
      rw [hl, Bool.eq_iff_iff]; simp
    have e1 : M .cmp .eql b 1 = (b == 1) := by subst hM; rfl
    have e0 : M .cmp .eql b 0 = (b == 0) := by subst hM; rfl
    unfold truthS at hy
    generalize (b == 1) = b1 at hy e1
    generalize (b == 0) = b0 at hy e0
    clear hl hp hb
    cbv
    simp only [e1]
    cases b1
    · cbv
      simp only [e0]
      cases b0
      · cbv
        rw [hy]; simp
      · cbv
        rw [hy, show M .cmp .gtr n K = _ from eg]; simp
    · cbv
      simp only [el]
      cases l
      · cbv
        simp only [e0]
        cases b0
        · cbv
          rw [hy]; simp
        · cbv
          rw [hy, show M .cmp .gtr n K = _ from eg]; simp
      · cbv
        rw [hy]; simp

theorem contains_any' (l : List Int) (v : Int) : l.contains v = l.any fun x => x == v := by
  rw [Bool.eq_iff_iff]; simp

theorem c_rlogic (kind K : Int) (rA rB rC rD rE rR ra : List (List PV)) (A Bl C' a x z : List Int) (hA : rA = ints A) (hB : rB = ints Bl) (ha : ra = ints a) (X : Reads a A x) (Z : Reads a Bl z) (hA64 : A.length ≤ 1000000) (hB64 : Bl.length ≤ 1000000) (hx1 : kind ≠ 12 → 1 ≤ A.length) (hz1 : kind ≠ 12 → 1 ≤ Bl.length) (hk : 12 ≤ kind ∧ kind ≤ 16)
    (y : Bool) (hy : y = logicS kind K C' x z) :
    Call .plain 95 [.agg [I kind, .list 1 rA, .list 1 rB, .list 1 rC, .list 1 rD, .list 1 rE, I K, .list 1 rR], .list 1 ra] (B y) := by
  refine call_of Proofs.Tryz.func95 Proofs.Tryz.call95 rfl rfl fun M C hM hC => ?_
  by_cases h12 : kind = 12
  · have e : M .cmp .eql kind 12 = true := by subst hM; rw [h12]; rfl
    have hy : y = (x.contains 1 || z.contains 0) := by rw [hy, h12]; rfl
    have hx : x.contains 1 = true → y = true := fun h => by rw [hy, h]; rfl
    have hz : z.contains 0 = true → y = true := fun h => by rw [hy, h]; simp
    have has : ∀ (l : List Int) (i : Nat) (v : Int), i < l.length → l.getD i 0 = v → l.contains v = true := fun l i v hi h => by
      rw [List.contains_iff_mem, ← h]; exact getD_mem 0 hi
    have hno : ∀ (l : List Int) (v : Int), (∀ i, i < l.length → l.getD i 0 ≠ v) → l.contains v = false := fun l v h => by
      rw [contains_any']
      exact any_no 0 fun i hi => by simpa using h i hi
    cbv
    simp only [e]
    cbv
    refine Loop.over Nat (fun q => [(.t 5, I q)]) 1 (fun q => A.length - q) (fun q => q ≤ A.length ∧ ∀ i, i < q → x.getD i 0 ≠ 1) 0 ⟨Nat.zero_le _, by omega⟩ (by (cbv; repeat' (first | exact True.intro | exact rfl | apply And.intro))) ?_
    rintro j ⟨hj, hn⟩
    cbv
    split <;> rename_i h <;> (try simp only [h]) <;> (try cbv)
    · have hlt : j < A.length := by subst hM; simpa [hA] using h
      refine nidx_ints hA hlt fun p hp => ?_
      cbv
      refine idx_ints ha (by rw [hp]; exact X.lo j hlt) (by rw [hp]; exact X.hi j hlt) fun u hu => ?_
      have hu : u = x.getD j 0 := by rw [hu, hp]; exact X.get j hlt
      cbv
      split <;> rename_i h <;> (try simp only [h]) <;> (try cbv)
      · have h1 : u = 1 := by subst hM; exact eq_of_beq h
        rw [hx (has x j 1 (by have := X.len; omega) (by rw [← hu]; exact h1))]
      · have h1 : u ≠ 1 := by subst hM; exact fun e => by rw [e] at h; simp at h
        refine ⟨j + 1, ⟨hlt, fun i hi => ?_⟩, ?_, by (cbv; repeat' (first | exact True.intro | exact rfl | apply And.intro)) <;> (subst hM; rw [succ_i64 (by omega)])⟩
        · rcases Nat.lt_or_ge i j with h3 | h3
          · exact hn i h3
          · have : i = j := by omega
            subst this; rw [← hu]; exact h1
        · omega
    · have hj2 : j = A.length := by subst hM; simp [hA] at h; omega
      subst hj2
      have nx := hno x 1 fun i hi => hn i (by have := X.len; omega)
      refine Loop.over Nat (fun q => [(.t 6, I q)]) 1 (fun q => Bl.length - q) (fun q => q ≤ Bl.length ∧ ∀ i, i < q → z.getD i 0 ≠ 0) 0 ⟨Nat.zero_le _, by omega⟩ (by (cbv; repeat' (first | exact True.intro | exact rfl | apply And.intro))) ?_
      rintro j ⟨hj, hn⟩
      cbv
      split <;> rename_i h <;> (try simp only [h]) <;> (try cbv)
      · have hlt : j < Bl.length := by subst hM; simpa [hB] using h
        refine nidx_ints hB hlt fun p hp => ?_
        cbv
        refine idx_ints ha (by rw [hp]; exact Z.lo j hlt) (by rw [hp]; exact Z.hi j hlt) fun u hu => ?_
        have hu : u = z.getD j 0 := by rw [hu, hp]; exact Z.get j hlt
        cbv
        split <;> rename_i h <;> (try simp only [h]) <;> (try cbv)
        · have h1 : u = 0 := by subst hM; exact eq_of_beq h
          rw [hz (has z j 0 (by have := Z.len; omega) (by rw [← hu]; exact h1))]
        · have h1 : u ≠ 0 := by subst hM; exact fun e => by rw [e] at h; simp at h
          refine ⟨j + 1, ⟨hlt, fun i hi => ?_⟩, ?_, by (cbv; repeat' (first | exact True.intro | exact rfl | apply And.intro)) <;> (subst hM; rw [succ_i64 (by omega)])⟩
          · rcases Nat.lt_or_ge i j with h3 | h3
            · exact hn i h3
            · have : i = j := by omega
              subst this; rw [← hu]; exact h1
          · omega
      · have hj2 : j = Bl.length := by subst hM; simp [hB] at h; omega
        subst hj2
        have nz := hno z 0 fun i hi => hn i (by have := Z.len; omega)
        rw [hy, nx, nz]; rfl
  · have e : M .cmp .eql kind 12 = false := by subst hM; simpa using h12
    have hx1 := hx1 h12
    have hz1 := hz1 h12
    have e14 : M .cmp .eql kind 14 = (kind == 14) := by subst hM; rfl
    have e16 : M .cmp .eql kind 16 = (kind == 16) := by subst hM; rfl
    have e15 : M .cmp .geq kind 15 = decide (kind ≥ 15) := by subst hM; rfl
    have eK : ∀ v, M .cmp .eql v K = (v == K) := fun v => by subst hM; rfl
    have lK : ∀ v, M .cmp .leq v K = decide (v ≤ K) := fun v => by subst hM; rfl
    have nt : M .not true = false := by subst hM; rfl
    have nf : M .not false = true := by subst hM; rfl
    cbv
    simp only [e]
    cbv
    refine idx_ints hB (by omega) (by omega) fun p hp => ?_
    cbv
    refine idx_ints ha (by rw [hp]; exact Z.lo 0 hz1) (by rw [hp]; exact Z.hi 0 hz1) fun b hb => ?_
    have hb : b = z.getD 0 0 := by rw [hb, hp]; exact Z.get 0 hz1
    cbv
    refine idx_ints hA (by omega) (by omega) fun p hp => ?_
    cbv
    refine idx_ints ha (by rw [hp]; exact X.lo 0 hx1) (by rw [hp]; exact X.hi 0 hx1) fun u hu => ?_
    have hu : u = x.getD 0 0 := by rw [hu, hp]; exact X.get 0 hx1
    have e1 : M .cmp .eql b 1 = (b == 1) := by subst hM; rfl
    have e0 : M .cmp .eql b 0 = (b == 0) := by subst hM; rfl
    have b01 : ¬ ((b == 0) = true ∧ (b == 1) = true) := by simp; omega
    have eu := eK u
    have lu := lK u
    have hy2 : ∀ so h15, so = (if kind = 14 ∨ kind = 16 then decide (u ≤ K) else u == K) → h15 = decide (kind ≥ 15) → y = ((b == 1) && so || (b == 0) && (!so || h15)) := fun so h15 h1 h2 => by
      rw [hy]
      unfold logicS truthS impliedS
      rw [← hb, ← hu]
      obtain rfl | rfl | rfl | rfl : kind = 13 ∨ kind = 14 ∨ kind = 15 ∨ kind = 16 := by omega
      · simp at h1 h2; rw [h1, h2]; simp; cases (b == 1) <;> cases (b == 0) <;> simp
      · simp at h1 h2; rw [h1, h2]; simp; cases (b == 1) <;> cases (b == 0) <;> simp
      · simp at h1 h2; rw [h1, h2]; simp; cases (b == 1) <;> cases (b == 0) <;> simp
      · simp at h1 h2; rw [h1, h2]; simp; cases (b == 1) <;> cases (b == 0) <;> simp
    obtain ⟨c15, hc15⟩ : ∃ c, c = decide (kind ≥ 15) := ⟨_, rfl⟩
    rw [← hc15] at e15
    have hy3 : ∀ so, so = (if kind = 14 ∨ kind = 16 then decide (u ≤ K) else u == K) → y = ((b == 1) && so || (b == 0) && (!so || c15)) := fun so h => hy2 so c15 h hc15
    generalize (b == 1) = b1 at hy3 e1 b01
    generalize (b == 0) = b0 at hy3 e0 b01
    clear hy hy2 hc15 hb hp eK lK
    have fin : ∀ so : Bool, True := fun _ => trivial
    cbv
    simp only [e14]
    by_cases h14 : kind = 14
    · have hy4 := hy3 (decide (u ≤ K)) (by rw [if_pos (.inl h14)])
      rw [show (kind == 14) = true by simpa using h14]
      cbv
      refine idx_ints hA (by omega) (by omega) fun p hp => ?_
      cbv
      refine idx_ints ha (by rw [hp]; exact X.lo 0 hx1) (by rw [hp]; exact X.hi 0 hx1) fun u2 hu2 => ?_
      have hu2 : u2 = u := by rw [hu, hu2, hp]; exact X.get 0 hx1
      subst hu2
      obtain ⟨so, hso⟩ : ∃ so, so = decide (u2 ≤ K) := ⟨_, rfl⟩
      rw [← hso] at hy4 lu
      have eso := lu
      clear hso lu eu
      cbv
      clear hy3 e14 e16
      simp only [e1]
      cases b1
      · cbv
        simp only [e0]
        cases b0
        · cbv
          rw [hy4]; simp
        · cbv
          simp only [eso]
          cases so
          · simp only [nf]
            cbv
            rw [hy4]; simp
          · simp only [nt]
            cbv
            rw [hy4, show M .cmp .geq kind 15 = _ from e15]; simp
      · cbv
        rw [hy4, show M .cmp .leq u2 K = _ from eso]
        cases b0
        · simp
        · simp at b01
    · rw [show (kind == 14) = false by simpa using h14]
      cbv
      simp only [e16]
      by_cases h16 : kind = 16
      · have hy4 := hy3 (decide (u ≤ K)) (by rw [if_pos (.inr h16)])
        rw [show (kind == 16) = true by simpa using h16]
        cbv
        refine idx_ints hA (by omega) (by omega) fun p hp => ?_
        cbv
        refine idx_ints ha (by rw [hp]; exact X.lo 0 hx1) (by rw [hp]; exact X.hi 0 hx1) fun u2 hu2 => ?_
        have hu2 : u2 = u := by rw [hu, hu2, hp]; exact X.get 0 hx1
        subst hu2
        obtain ⟨so, hso⟩ : ∃ so, so = decide (u2 ≤ K) := ⟨_, rfl⟩
        rw [← hso] at hy4 lu
        have eso := lu
        clear hso lu eu
        cbv
        clear hy3 e14 e16
        simp only [e1]
        cases b1
        · cbv
          simp only [e0]
          cases b0
          · cbv
            rw [hy4]; simp
          · cbv
            simp only [eso]
            cases so
            · simp only [nf]
              cbv
              rw [hy4]; simp
            · simp only [nt]
              cbv
              rw [hy4, show M .cmp .geq kind 15 = _ from e15]; simp
        · cbv
          rw [hy4, show M .cmp .leq u2 K = _ from eso]
          cases b0
          · simp
          · simp at b01
      · have hy4 := hy3 (u == K) (by rw [if_neg (by omega)])
        rw [show (kind == 16) = false by simpa using h16]
        cbv
        obtain ⟨so, hso⟩ : ∃ so, so = (u == K) := ⟨_, rfl⟩
        rw [← hso] at hy4 eu
        have eso := eu
        clear hso lu eu
        clear hy3 e14 e16
        simp only [e1]
        cases b1
        · cbv
          simp only [e0]
          cases b0
          · cbv
            rw [hy4]; simp
          · cbv
            simp only [eso]
            cases so
            · simp only [nf]
              cbv
              rw [hy4]; simp
            · simp only [nt]
              cbv
              rw [hy4, show M .cmp .geq kind 15 = _ from e15]; simp
        · cbv
          rw [hy4, show M .cmp .eql u K = _ from eso]
          cases b0
          · simp
          · simp at b01
end Go.Pi

/- Package jigsawref09: rows, tasks, circuits, counts, pairs. -/
namespace Go.Pi
open Go
set_option linter.unusedVariables false
set_option linter.unusedSimpArgs false

theorem c_rrow (kind K : Int) (rA rB rC rD rE rR ra : List (List PV)) (A a x : List Int) (R : List (List Int)) (hA : rA = ints A) (hR : rR = rowsOf R) (ha : ra = ints a) (X : Reads a A x) (hl : ∀ r ∈ R, r.length = A.length) (h64 : A.length ≤ 1000000) (h65 : R.length ≤ 1000000)
    (y : Bool) (hy : y = R.any fun r => r == x) :
    Call .plain 96 [.agg [I kind, .list 1 rA, .list 1 rB, .list 1 rC, .list 1 rD, .list 1 rE, I K, .list 1 rR], .list 1 ra] (B y) := by
  have lx := X.len
  refine call_of Proofs.Tryz.func96 Proofs.Tryz.call96 rfl rfl fun M C hM hC => ?_
  cbv
  refine Loop.over Nat (fun q => [(.t 5, I q)]) 1 (fun q => R.length - q) (fun q => q ≤ R.length ∧ ∀ i, i < q → (R.getD i [] == x) = false) 0 ⟨Nat.zero_le _, by omega⟩ (by (cbv; repeat' (first | exact True.intro | exact rfl | apply And.intro))) ?_
  rintro j ⟨hj, hn⟩
  cbv
  split <;> rename_i h <;> (try simp only [h]) <;> (try cbv)
  · have hlt : j < R.length := by subst hM; simpa [hR] using h
    clear h
    obtain ⟨r, hr⟩ : ∃ r, r = R.getD j [] := ⟨_, rfl⟩
    have lr : r.length = A.length := by rw [hr]; exact hl _ (getD_mem [] hlt)
    refine Loop.over (Nat × Bool) (fun q => [(.t 7, I q.1), (.t 6, B q.2)]) 1 (fun q => A.length - q.1) (fun q => q.1 ≤ A.length ∧ (q.2 = true ↔ ∀ i, i < q.1 → r.getD i 0 = x.getD i 0)) (0, true) ⟨Nat.zero_le _, by simp⟩ (by (cbv; repeat' (first | exact True.intro | exact rfl | apply And.intro))) ?_
    rintro ⟨k, ok⟩ ⟨hk, hok⟩
    simp only at hk hok
    cbv
    split <;> rename_i h <;> (try simp only [h]) <;> (try cbv)
    · have hlt2 : k < A.length := by subst hM; simpa [hA] using h
      clear h
      cases ok
      · cbv
        refine ⟨⟨k + 1, false⟩, ⟨hlt2, ?_⟩, ?_, by (cbv; repeat' (first | exact True.intro | exact rfl | apply And.intro)) <;> (subst hM; rw [succ_i64 (by omega)])⟩
        · simp only [Bool.false_eq_true, false_iff] at hok ⊢
          exact fun h => hok fun i hi => h i (by omega)
        · simp only; omega
      · cbv
        refine nidx_rows hR hlt fun rr hrr => ?_
        rw [← hr] at hrr
        cbv
        refine nidx_ints hrr (by omega) fun v hv => ?_
        cbv
        refine nidx_ints hA hlt2 fun p hp => ?_
        cbv
        refine idx_ints ha (by rw [hp]; exact X.lo k hlt2) (by rw [hp]; exact X.hi k hlt2) fun u hu => ?_
        have hu : u = x.getD k 0 := by rw [hu, hp]; exact X.get k hlt2
        cbv
        refine ⟨⟨k + 1, M .cmp .eql v u⟩, ⟨hlt2, ?_⟩, ?_, by (cbv; repeat' (first | exact True.intro | exact rfl | apply And.intro)) <;> (subst hM; rw [succ_i64 (by omega)])⟩
        · have e : M .cmp .eql v u = (v == u) := by subst hM; rfl
          rw [e, beq_iff_eq, hv, hu]
          constructor
          · intro h i hi
            rcases Nat.lt_or_ge i k with h3 | h3
            · exact hok.1 rfl i h3
            · have : i = k := by omega
              subst this; exact h
          · exact fun h => h k (by omega)
        · simp only; omega
    · have hk2 : k = A.length := by subst hM; simp [hA] at h; omega
      subst hk2
      clear h
      have fin : (r == x) = ok := by
        rw [Bool.eq_iff_iff, hok, beq_iff_eq, ← eq_all (by omega), lr]
      cases ok
      · cbv
        refine ⟨j + 1, ⟨hlt, fun i hi => ?_⟩, ?_, by (cbv; repeat' (first | exact True.intro | exact rfl | apply And.intro)) <;> (subst hM; rw [succ_i64 (by omega)])⟩
        · rcases Nat.lt_or_ge i j with h3 | h3
          · exact hn i h3
          · have : i = j := by omega
            subst this; rw [← hr]; exact fin
        · omega
      · cbv
        have : (R.any fun r => r == x) = true := List.any_eq_true.2 ⟨r, by rw [hr]; exact getD_mem [] hlt, fin⟩
        rw [hy, this]
  · have hj2 : j = R.length := by subst hM; simp [hR] at h; omega
    subst hj2
    rw [hy, any_no [] hn]

theorem c_rruns (kind K t : Int) (rA rB rC rD rE rR ra : List (List PV)) (A C' D a x : List Int) (hA : rA = ints A) (hC' : rC = ints C') (hD : rD = ints D) (ha : ra = ints a) (X : Reads a A x) (hl : A.length ≤ C'.length) (hl2 : A.length ≤ D.length) (h64 : A.length ≤ 64)
    (bt : -1000000 ≤ t ∧ t ≤ 1000000) (bD : ∀ i, -1000000 ≤ D.getD i 0 ∧ D.getD i 0 ≤ 1000000) (bx : ∀ i, -1000000 ≤ x.getD i 0 ∧ x.getD i 0 ≤ 1000000)
    (y : Int) (hy : y = loadS x C' D t A.length) :
    Call .plain 167 [.agg [I kind, .list 1 rA, .list 1 rB, .list 1 rC, .list 1 rD, .list 1 rE, I K, .list 1 rR], .list 1 ra, I t] (I y) := by
  refine call_of Proofs.Tryz.func167 Proofs.Tryz.call167 rfl rfl fun M C hM hC => ?_
  cbv
  have bl : ∀ i, i ≤ A.length → -64000000 ≤ loadS x C' D t i ∧ loadS x C' D t i ≤ 64000000 := fun i hi => by
    have := sumN_le (f := fun i => if x.getD i 0 ≤ t ∧ t < x.getD i 0 + C'.getD i 0 then D.getD i 0 else 0) (b := 1000000) (by decide) i fun i _ => by
      have := bD i
      split <;> omega
    unfold loadS
    omega
  refine Loop.over (Nat × Int) (fun q => [(.t 8, I q.1), (.t 7, I q.2)]) 1 (fun q => A.length - q.1) (fun q => q.1 ≤ A.length ∧ q.2 = loadS x C' D t q.1) (0, 0) ⟨Nat.zero_le _, rfl⟩ (by (cbv; repeat' (first | exact True.intro | exact rfl | apply And.intro))) ?_
  rintro ⟨i, n⟩ ⟨hi, hn2⟩
  simp only at hi hn2
  cbv
  split <;> rename_i h <;> (try simp only [h]) <;> (try cbv)
  · have hlt2 : i < A.length := by subst hM; simpa [hA] using h
    clear h
    refine nidx_ints hA hlt2 fun p hp => ?_
    cbv
    refine idx_ints ha (by rw [hp]; exact X.lo i hlt2) (by rw [hp]; exact X.hi i hlt2) fun s hs => ?_
    have hs : s = x.getD i 0 := by rw [hs, hp]; exact X.get i hlt2
    cbv
    have bs := bx i
    rw [← hs] at bs
    have bd := bD i
    split <;> rename_i h <;> (try simp only [h]) <;> (try cbv)
    · have h1 : s ≤ t := by subst hM; exact of_decide_eq_true h
      clear h
      have e1 : M .arith .sub .i64 t s = t - s := by
        subst hM
        show IntKind.i64.wrap (t - s) = _
        rw [wrap_i64 (by omega) (by omega)]
      refine nidx_ints hC' (by omega) fun c hc => ?_
      have e2 : M .cmp .lss (M .arith .sub .i64 t s) c = decide (t < s + c) := by
        rw [e1]; subst hM
        show decide (t - s < c) = _
        rw [decide_eq_decide]; omega
      clear e1
      cbv
      rw [show M .cmp .lss (M .arith .sub .i64 t s) c = _ from e2]
      clear e2
      by_cases h2 : t < s + c
      · rw [show decide (t < s + c) = true by simpa using h2]
        cbv
        refine nidx_ints hD (by omega) fun d hd => ?_
        cbv
        rw [← hd] at bd
        refine ⟨⟨i + 1, _⟩, ⟨hlt2, ?_⟩, ?_, by (cbv; repeat' (first | exact True.intro | exact rfl | apply And.intro)) <;> (subst hM; rw [succ_i64 (by omega)])⟩
        · subst hM
          have := bl i (by omega)
          have e : loadS x C' D t (i + 1) = loadS x C' D t i + d := by
            simp only [loadS, sumN, ← hs, ← hc, ← hd, h1, h2, and_self, if_true]
          simp only [real_add]
          rw [wrap_i64 (by omega) (by omega), e, hn2]
        · simp only; omega
      · rw [show decide (t < s + c) = false by simpa using h2]
        cbv
        refine ⟨⟨i + 1, _⟩, ⟨hlt2, ?_⟩, ?_, by (cbv; repeat' (first | exact True.intro | exact rfl | apply And.intro)) <;> (subst hM; rw [succ_i64 (by omega)])⟩
        · have e : loadS x C' D t (i + 1) = loadS x C' D t i := by
            simp only [loadS, sumN, ← hs, ← hc, h1, h2, and_false, if_false, Int.add_zero]
          exact hn2.trans e.symm
        · simp only; omega
    · have h1 : ¬ s ≤ t := by subst hM; exact of_decide_eq_false h
      refine ⟨⟨i + 1, _⟩, ⟨hlt2, ?_⟩, ?_, by (cbv; repeat' (first | exact True.intro | exact rfl | apply And.intro)) <;> (subst hM; rw [succ_i64 (by omega)])⟩
      · have e : loadS x C' D t (i + 1) = loadS x C' D t i := by
          simp only [loadS, sumN, ← hs, h1, false_and, if_false, Int.add_zero]
        exact hn2.trans e.symm
      · simp only; omega
  · have hi2 : i = A.length := by subst hM; simp [hA] at h; omega
    subst hi2
    rw [hy, hn2]

theorem c_rcumul (kind K : Int) (rA rB rC rD rE rR ra : List (List PV)) (A C' D a x : List Int) (hA : rA = ints A) (hC' : rC = ints C') (hD : rD = ints D) (ha : ra = ints a) (X : Reads a A x) (hl : A.length ≤ C'.length) (hl2 : A.length ≤ D.length) (h64 : A.length ≤ 64)
    (bD : ∀ i, -1000000 ≤ D.getD i 0 ∧ D.getD i 0 ≤ 1000000) (bx : ∀ i, -1000000 ≤ x.getD i 0 ∧ x.getD i 0 ≤ 1000000)
    (y : Bool) (hy : y = fitsS x C' D K) :
    Call .plain 97 [.agg [I kind, .list 1 rA, .list 1 rB, .list 1 rC, .list 1 rD, .list 1 rE, I K, .list 1 rR], .list 1 ra] (B y) := by
  have lx := X.len
  have cr := fun t bt => c_rruns kind K t rA rB rC rD rE rR ra A C' D a x hA hC' hD ha X hl hl2 h64 bt bD bx _ rfl
  refine call_of Proofs.Tryz.func97 Proofs.Tryz.call97 rfl rfl fun M C hM hC => ?_
  cbv
  refine Loop.over Nat (fun q => [(.t 5, I q)]) 1 (fun q => A.length - q) (fun q => q ≤ A.length ∧ ∀ i, i < q → loadS x C' D (x.getD i 0) x.length ≤ K) 0 ⟨Nat.zero_le _, by omega⟩ (by (cbv; repeat' (first | exact True.intro | exact rfl | apply And.intro))) ?_
  rintro j ⟨hj, hn⟩
  cbv
  split <;> rename_i h <;> (try simp only [h]) <;> (try cbv)
  · have hlt : j < A.length := by subst hM; simpa [hA] using h
    clear h
    refine nidx_ints hA hlt fun p hp => ?_
    cbv
    refine idx_ints ha (by rw [hp]; exact X.lo j hlt) (by rw [hp]; exact X.hi j hlt) fun t ht => ?_
    have ht : t = x.getD j 0 := by rw [ht, hp]; exact X.get j hlt
    cbv
    have bs := bx j
    rw [← ht] at bs
    refine callI hC (cr t bs) fun n hn' => ?_
    cbv
    split <;> rename_i h <;> (try simp only [h]) <;> (try cbv)
    · have h1 : n > K := by subst hM; exact of_decide_eq_true h
      have : fitsS x C' D K = false := by
        simp only [fitsS, List.all_eq_false]
        exact ⟨t, ht ▸ getD_mem 0 (by omega), by rw [lx, ← hn']; simpa using h1⟩
      rw [hy, this]
    · have h1 : ¬ n > K := by subst hM; exact of_decide_eq_false h
      refine ⟨j + 1, ⟨hlt, fun i hi => ?_⟩, ?_, by (cbv; repeat' (first | exact True.intro | exact rfl | apply And.intro)) <;> (subst hM; rw [succ_i64 (by omega)])⟩
      · rcases Nat.lt_or_ge i j with h3 | h3
        · exact hn i h3
        · have : i = j := by omega
          subst this; rw [← ht, lx, ← hn']; omega
      · omega
  · have hj2 : j = A.length := by subst hM; simp [hA] at h; omega
    subst hj2
    have : fitsS x C' D K = true := by
      simp only [fitsS, List.all_eq_true]
      intro v hv
      obtain ⟨i, hi, rfl⟩ := List.mem_iff_getElem.1 hv
      have := hn i (by omega)
      simpa [List.getD_eq_getElem?_getD, hi] using this
    rw [hy, this]

theorem countS_le' (x : List Int) (v : Int) (j : Nat) : 0 ≤ countS x v j ∧ countS x v j ≤ j := by
  induction j with
  | zero => simp [countS, sumN]
  | succ j ih => simp only [countS, sumN] at *; split <;> omega
theorem c_rgcc (kind K : Int) (rA rB rC rD rE rR ra : List (List PV)) (A C' D E a x : List Int) (hA : rA = ints A) (hC' : rC = ints C') (hD : rD = ints D) (hE : rE = ints E) (ha : ra = ints a) (X : Reads a A x) (hl : C'.length ≤ D.length) (hl2 : C'.length ≤ E.length) (h64 : A.length ≤ 64) (h65 : C'.length ≤ 1000000)
    (y : Bool) (hy : y = countedS x C' D E) :
    Call .plain 99 [.agg [I kind, .list 1 rA, .list 1 rB, .list 1 rC, .list 1 rD, .list 1 rE, I K, .list 1 rR], .list 1 ra] (B y) := by
  have lx := X.len
  refine call_of Proofs.Tryz.func99 Proofs.Tryz.call99 rfl rfl fun M C hM hC => ?_
  cbv
  refine Loop.over Nat (fun q => [(.t 5, I q)]) 1 (fun q => C'.length - q) (fun q => q ≤ C'.length ∧ ∀ i, i < q → D.getD i 0 ≤ countS x (C'.getD i 0) x.length ∧ countS x (C'.getD i 0) x.length ≤ E.getD i 0) 0 ⟨Nat.zero_le _, by omega⟩ (by (cbv; repeat' (first | exact True.intro | exact rfl | apply And.intro))) ?_
  rintro j ⟨hj, hn⟩
  cbv
  split <;> rename_i h <;> (try simp only [h]) <;> (try cbv)
  · have hlt : j < C'.length := by subst hM; simpa [hC'] using h
    clear h
    obtain ⟨t, ht⟩ : ∃ t, t = C'.getD j 0 := ⟨_, rfl⟩
    refine Loop.over (Nat × Int) (fun q => [(.t 7, I q.1), (.t 6, I q.2)]) 1 (fun q => A.length - q.1) (fun q => q.1 ≤ A.length ∧ q.2 = countS x t q.1) (0, 0) ⟨Nat.zero_le _, rfl⟩ (by (cbv; repeat' (first | exact True.intro | exact rfl | apply And.intro))) ?_
    rintro ⟨i, n⟩ ⟨hi, hn2⟩
    simp only at hi hn2
    cbv
    split <;> rename_i h <;> (try simp only [h]) <;> (try cbv)
    · have hlt2 : i < A.length := by subst hM; simpa [hA] using h
      clear h
      refine nidx_ints hA hlt2 fun p hp => ?_
      cbv
      refine idx_ints ha (by rw [hp]; exact X.lo i hlt2) (by rw [hp]; exact X.hi i hlt2) fun s hs => ?_
      have hs : s = x.getD i 0 := by rw [hs, hp]; exact X.get i hlt2
      cbv
      refine nidx_ints hC' hlt fun t' ht' => ?_
      have e : t' = t := by rw [ht, ht']
      subst e
      cbv
      split <;> rename_i h <;> (try simp only [h]) <;> (try cbv)
      · have h1 : s = t' := by subst hM; exact eq_of_beq h
        have bl := countS_le' x t' i
        refine ⟨⟨i + 1, _⟩, ⟨hlt2, ?_⟩, ?_, by (cbv; repeat' (first | exact True.intro | exact rfl | apply And.intro)) <;> (subst hM; rw [succ_i64 (by omega)])⟩
        · subst hM
          simp only [real_add]
          rw [wrap_i64 (by omega) (by omega)]
          have e : countS x t' (i + 1) = countS x t' i + 1 := by simp only [countS, sumN, ← hs, h1, if_true]
          rw [e, hn2]
        · simp only; omega
      · have h1 : ¬ s = t' := by subst hM; simpa using h
        refine ⟨⟨i + 1, _⟩, ⟨hlt2, ?_⟩, ?_, by (cbv; repeat' (first | exact True.intro | exact rfl | apply And.intro)) <;> (subst hM; rw [succ_i64 (by omega)])⟩
        · have e : countS x t' (i + 1) = countS x t' i := by simp only [countS, sumN, ← hs, h1, if_false, Int.add_zero]
          exact hn2.trans e.symm
        · simp only; omega
    · have hi2 : i = x.length := by subst hM; simp [hA] at h; omega
      subst hi2
      clear h
      refine nidx_ints hD (by omega) fun d hd => ?_
      cbv
      split <;> rename_i h <;> (try simp only [h]) <;> (try cbv)
      · have h1 : countS x t x.length < d := by subst hM; rw [← hn2]; exact of_decide_eq_true h
        have : countedS x C' D E = false := by
          simp only [countedS, List.all_eq_false]
          refine ⟨j, by simpa using hlt, ?_⟩
          rw [← ht, ← hd]
          simp; omega
        rw [hy, this]
      · have h1 : ¬ countS x t x.length < d := by subst hM; rw [← hn2]; exact of_decide_eq_false h
        refine nidx_ints hE (by omega) fun e he => ?_
        cbv
        split <;> rename_i h <;> (try simp only [h]) <;> (try cbv)
        · have h2 : countS x t x.length > e := by subst hM; rw [← hn2]; exact of_decide_eq_true h
          have : countedS x C' D E = false := by
            simp only [countedS, List.all_eq_false]
            refine ⟨j, by simpa using hlt, ?_⟩
            rw [← ht, ← hd, ← he]
            simp; omega
          rw [hy, this]
        · have h2 : ¬ countS x t x.length > e := by subst hM; rw [← hn2]; exact of_decide_eq_false h
          refine ⟨j + 1, ⟨hlt, fun i hi => ?_⟩, ?_, by (cbv; repeat' (first | exact True.intro | exact rfl | apply And.intro)) <;> (subst hM; rw [succ_i64 (by omega)])⟩
          · rcases Nat.lt_or_ge i j with h3 | h3
            · exact hn i h3
            · have : i = j := by omega
              subst this; rw [← ht, ← hd, ← he]; omega
          · omega
  · have hj2 : j = C'.length := by subst hM; simp [hC'] at h; omega
    subst hj2
    have : countedS x C' D E = true := by
      simp only [countedS, List.all_eq_true, List.mem_range, Bool.and_eq_true, decide_eq_true_eq]
      exact hn
    rw [hy, this]
end Go.Pi

/- Package jigsawref09: three numbers, circuits, pairs. -/
namespace Go.Pi
open Go
set_option linter.unusedVariables false
set_option linter.unusedSimpArgs false

theorem tdiv_in (a b : Int) (h1 : -1000000 ≤ a ∧ a ≤ 1000000) : -1000000 ≤ a.tdiv b ∧ a.tdiv b ≤ 1000000 := by
  have h := Int.natAbs_tdiv_le_natAbs a b
  omega

set_option maxHeartbeats 4000000 in
theorem c_rthree (kind K : Int) (rA rB rC rD rE rR ra : List (List PV)) (A C' a x : List Int) (hA : rA = ints A) (hC' : rC = ints C') (ha : ra = ints a) (X : Reads a A x) (h64 : C'.length ≤ 1000000) (hk : 5 ≤ kind ∧ kind ≤ 11) (hl2 : 2 ≤ A.length) (hl3 : kind ≠ 8 → kind ≠ 11 → 3 ≤ A.length)
    (bx : ∀ i, -1000000 ≤ x.getD i 0 ∧ x.getD i 0 ≤ 1000000) (y : Bool) (hy : y = arithS kind C' x) :
    Call .plain 94 [.agg [I kind, .list 1 rA, .list 1 rB, .list 1 rC, .list 1 rD, .list 1 rE, I K, .list 1 rR], .list 1 ra] (B y) := by
  refine call_of Proofs.Tryz.func94 Proofs.Tryz.call94 rfl rfl fun M C hM hC => ?_
  have b0 := bx 0
  have b1 := bx 1
  have b2 := bx 2
  cbv
  refine idx_ints hA (by omega) (by omega) fun p hp => ?_
  cbv
  refine idx_ints ha (by rw [hp]; exact X.lo 0 (by omega)) (by rw [hp]; exact X.hi 0 (by omega)) fun u hu => ?_
  have hu : u = x.getD 0 0 := by rw [hu, hp]; exact X.get 0 (by omega)
  clear hp
  cbv
  refine idx_ints hA (by omega) (by omega) fun p hp => ?_
  cbv
  refine idx_ints ha (by rw [hp]; exact X.lo 1 (by omega)) (by rw [hp]; exact X.hi 1 (by omega)) fun v hv => ?_
  have hv : v = x.getD 1 0 := by rw [hv, hp]; exact X.get 1 (by omega)
  clear hp
  rw [← hu] at b0
  rw [← hv] at b1
  cbv
  have third : 3 ≤ A.length → ∀ p, p = A.getD 2 0 → (0 ≤ p ∧ p < a.length) ∧ a.getD p.toNat 0 = x.getD 2 0 := fun h p hp => by
    rw [hp]; exact ⟨⟨X.lo 2 (by omega), X.hi 2 (by omega)⟩, X.get 2 (by omega)⟩
  obtain rfl | rfl | rfl | rfl | rfl | rfl | rfl : kind = 5 ∨ kind = 6 ∨ kind = 7 ∨ kind = 8 ∨ kind = 9 ∨ kind = 10 ∨ kind = 11 := by omega
  · have e : ∀ b, M .cmp .eql 5 b = (5 == b) := fun b => by subst hM; rfl
    have hy : y = (u * v == x.getD 2 0) := by rw [hy, hu, hv]; rfl
    have third := third (hl3 (by decide) (by decide))
    have h3 := hl3 (by decide) (by decide)
    repeat (simp only [e]; cbv)
    refine idx_ints hA (by omega) (by omega) fun p hp => ?_
    obtain ⟨⟨t1, t2⟩, t3⟩ := third p hp
    cbv
    refine idx_ints ha t1 t2 fun w hw => ?_
    have hw : w = x.getD 2 0 := by rw [hw]; exact t3
    rw [← hw] at hy
    clear hw t1 t2 t3 hp third
    repeat (simp only [e]; cbv)
    have hb := mul_le b0 b1
    have ev : M .cmp .eql (M .arith .mul .i64 u v) w = y := by
      subst hM
      show (IntKind.i64.wrap (u * v) == w) = y
      rw [wrap_i64 (by omega) (by omega), hy]
    rw [show M .cmp .eql (M .arith .mul .i64 u v) w = _ from ev]
  · have e : ∀ b, M .cmp .eql 6 b = (6 == b) := fun b => by subst hM; rfl
    have hy : y = (v != 0 && u.tdiv v == x.getD 2 0) := by rw [hy, hu, hv]; rfl
    have third := third (hl3 (by decide) (by decide))
    have h3 := hl3 (by decide) (by decide)
    repeat (simp only [e]; cbv)
    refine idx_ints hA (by omega) (by omega) fun p hp => ?_
    obtain ⟨⟨t1, t2⟩, t3⟩ := third p hp
    cbv
    refine idx_ints ha t1 t2 fun w hw => ?_
    have hw : w = x.getD 2 0 := by rw [hw]; exact t3
    rw [← hw] at hy
    clear hw t1 t2 t3 hp third
    repeat (simp only [e]; cbv)
    refine callIB hC (c_rquo u v (by omega) (by omega) _ _ rfl rfl) fun q ok hq hok => ?_
    have hok2 : ok = (v != 0) := by
      rw [hok, quoOK, Bool.eq_iff_iff]; simp; omega
    rw [← hok] at hq
    rw [← hok2] at hy
    cbv
    repeat (simp only [e]; cbv)
    cases ok
    · cbv
      rw [hy]; rfl
    · rw [if_pos rfl] at hq
      cbv
      have ev : M .cmp .eql q w = y := by
        subst hM
        show (q == w) = y
        rw [hy, hq]; rfl
      rw [show M .cmp .eql q w = _ from ev]
  · have e : ∀ b, M .cmp .eql 7 b = (7 == b) := fun b => by subst hM; rfl
    have hy : y = (v != 0 && u.tmod v == x.getD 2 0) := by rw [hy, hu, hv]; rfl
    have third := third (hl3 (by decide) (by decide))
    have h3 := hl3 (by decide) (by decide)
    repeat (simp only [e]; cbv)
    refine idx_ints hA (by omega) (by omega) fun p hp => ?_
    obtain ⟨⟨t1, t2⟩, t3⟩ := third p hp
    cbv
    refine idx_ints ha t1 t2 fun w hw => ?_
    have hw : w = x.getD 2 0 := by rw [hw]; exact t3
    rw [← hw] at hy
    clear hw t1 t2 t3 hp third
    repeat (simp only [e]; cbv)
    refine callIB hC (c_rquo u v (by omega) (by omega) _ _ rfl rfl) fun q ok hq hok => ?_
    have hok2 : ok = (v != 0) := by
      rw [hok, quoOK, Bool.eq_iff_iff]; simp; omega
    rw [← hok] at hq
    rw [← hok2] at hy
    cbv
    repeat (simp only [e]; cbv)
    cases ok
    · cbv
      rw [hy]; rfl
    · rw [if_pos rfl] at hq
      cbv
      have bq := tdiv_in u v b0
      rw [← hq] at bq
      have hb := mul_le b1 bq
      have hm : u.tmod v = u - v * q := by rw [hq]; exact Int.tmod_def u v
      have ev : M .cmp .eql (M .arith .sub .i64 u (M .arith .mul .i64 v q)) w = y := by
        subst hM
        show (IntKind.i64.wrap (u - IntKind.i64.wrap (v * q)) == w) = y
        rw [wrap_i64 (x := v * q) (by omega) (by omega), wrap_i64 (by omega) (by omega), hy, hm]; rfl
      rw [show M .cmp .eql (M .arith .sub .i64 u (M .arith .mul .i64 v q)) w = _ from ev]
  · have e : ∀ b, M .cmp .eql 8 b = (8 == b) := fun b => by subst hM; rfl
    have hy : y = ((if -u > u then -u else u) == v) := by rw [hy, hu, hv]; rfl
    repeat (simp only [e]; cbv)
    by_cases h0 : u ≥ 0
    · have e1 : M .cmp .geq u 0 = true := by subst hM; exact decide_eq_true h0
      have e2 : M .cmp .eql v u = y := by
        subst hM
        show (v == u) = y
        rw [hy, if_neg (by omega), Bool.eq_iff_iff]; simp; omega
      have e3 : M .cmp .lss u 0 = false := by subst hM; exact decide_eq_false (by omega)
      clear hy hu hv e
      simp only [e1]
      cbv
      rw [e2]
      cases y
      · cbv
        rw [e3]
        cbv
      · cbv
    · have e1 : M .cmp .geq u 0 = false := by subst hM; exact decide_eq_false h0
      have e3 : M .cmp .lss u 0 = true := by subst hM; exact decide_eq_true (by omega)
      have e2 : M .cmp .eql v (M .un .neg .i64 u) = y := by
        subst hM
        show (v == IntKind.i64.wrap (0 - u)) = y
        rw [wrap_i64 (by omega) (by omega), hy, if_pos (by omega), Bool.eq_iff_iff]; simp; omega
      clear hy hu hv e
      simp only [e1]
      cbv
      rw [e3]
      cbv
      rw [show M .cmp .eql v (M .un .neg .i64 u) = _ from e2]
  · have e : ∀ b, M .cmp .eql 9 b = (9 == b) := fun b => by subst hM; rfl
    have hy : y = ((if v < u then v else u) == x.getD 2 0) := by rw [hy, hu, hv]; rfl
    have third := third (hl3 (by decide) (by decide))
    have h3 := hl3 (by decide) (by decide)
    repeat (simp only [e]; cbv)
    refine idx_ints hA (by omega) (by omega) fun p hp => ?_
    obtain ⟨⟨t1, t2⟩, t3⟩ := third p hp
    cbv
    refine idx_ints ha t1 t2 fun w hw => ?_
    have hw : w = x.getD 2 0 := by rw [hw]; exact t3
    rw [← hw] at hy
    clear hw t1 t2 t3 hp third
    repeat (simp only [e]; cbv)
    have eA : M .cmp .leq w u = decide (w ≤ u) := by subst hM; rfl
    have eB : M .cmp .leq w v = decide (w ≤ v) := by subst hM; rfl
    have eC : M .cmp .eql w u = decide (w = u) := by subst hM; rfl
    have eD : M .cmp .eql w v = decide (w = v) := by subst hM; rfl
    have hy : y = (decide (w ≤ u) && (decide (w ≤ v) && (decide (w = u) || decide (w = v)))) := by
      rw [hy, Bool.eq_iff_iff]; simp; split <;> omega
    generalize decide (w ≤ u) = q1 at hy eA
    generalize decide (w ≤ v) = q2 at hy eB
    generalize decide (w = u) = q3 at hy eC
    generalize decide (w = v) = q4 at hy eD
    clear hu hv e
    simp only [eA]
    cases q1
    · cbv
      rw [hy]; rfl
    cbv
    simp only [eB]
    cases q2
    · cbv
      rw [hy]; rfl
    cbv
    simp only [eC]
    cases q3
    · cbv
      rw [hy, show M .cmp .eql w v = _ from eD]; rfl
    · cbv
      rw [hy]; rfl
  · have e : ∀ b, M .cmp .eql 10 b = (10 == b) := fun b => by subst hM; rfl
    have hy : y = ((if v > u then v else u) == x.getD 2 0) := by rw [hy, hu, hv]; rfl
    have third := third (hl3 (by decide) (by decide))
    have h3 := hl3 (by decide) (by decide)
    repeat (simp only [e]; cbv)
    refine idx_ints hA (by omega) (by omega) fun p hp => ?_
    obtain ⟨⟨t1, t2⟩, t3⟩ := third p hp
    cbv
    refine idx_ints ha t1 t2 fun w hw => ?_
    have hw : w = x.getD 2 0 := by rw [hw]; exact t3
    rw [← hw] at hy
    clear hw t1 t2 t3 hp third
    repeat (simp only [e]; cbv)
    have eA : M .cmp .geq w u = decide (w ≥ u) := by subst hM; rfl
    have eB : M .cmp .geq w v = decide (w ≥ v) := by subst hM; rfl
    have eC : M .cmp .eql w u = decide (w = u) := by subst hM; rfl
    have eD : M .cmp .eql w v = decide (w = v) := by subst hM; rfl
    have hy : y = (decide (w ≥ u) && (decide (w ≥ v) && (decide (w = u) || decide (w = v)))) := by
      rw [hy, Bool.eq_iff_iff]; simp; split <;> omega
    generalize decide (w ≥ u) = q1 at hy eA
    generalize decide (w ≥ v) = q2 at hy eB
    generalize decide (w = u) = q3 at hy eC
    generalize decide (w = v) = q4 at hy eD
    clear hu hv e
    simp only [eA]
    cases q1
    · cbv
      rw [hy]; rfl
    cbv
    simp only [eB]
    cases q2
    · cbv
      rw [hy]; rfl
    cbv
    simp only [eC]
    cases q3
    · cbv
      rw [hy, show M .cmp .eql w v = _ from eD]; rfl
    · cbv
      rw [hy]; rfl
  · have e : ∀ b, M .cmp .eql 11 b = (11 == b) := fun b => by subst hM; rfl
    have hy : y = (decide (u ≥ 1) && (decide (u ≤ C'.length) && C'.getD (u - 1).toNat 0 == v)) := by rw [hy, hu, hv]; rfl
    repeat (simp only [e]; cbv)
    by_cases h1 : u ≥ 1
    · have e1 : M .cmp .geq u 1 = true := by subst hM; exact decide_eq_true h1
      have e2 : M .cmp .leq u (Int.ofNat (M .len rC)) = decide (u ≤ C'.length) := by
        subst hM
        show decide (u ≤ (rC.length : Int)) = _
        rw [hC', ints_len]
      simp only [e1]
      cbv
      rw [show M .cmp .leq u (Int.ofNat (M .len rC)) = _ from e2]
      by_cases h2 : u ≤ C'.length
      · rw [show decide (u ≤ (C'.length : Int)) = true by simpa using h2]
        rw [show decide (u ≥ 1) = true by simpa using h1, show decide (u ≤ (C'.length : Int)) = true by simpa using h2] at hy
        have nz : Int.ofNat (M .len rC) ≠ 0 := by
          subst hM
          show (rC.length : Int) ≠ 0
          rw [hC', ints_len]; omega
        have ei : M .arith .rem .i64 (M .mx (M .arith .sub .i64 u 1) 0) (Int.ofNat (M .len rC)) = u - 1 := by
          subst hM
          show (if 0 > IntKind.i64.wrap (u - 1) then 0 else IntKind.i64.wrap (u - 1)).tmod (rC.length : Int) = _
          rw [wrap_i64 (by omega) (by omega), if_neg (by omega), hC', ints_len]
          exact Int.tmod_eq_of_lt (by omega) (by omega)
        clear hu hv e e1 e2
        cbv
        refine .mk nz ?_
        cbv
        refine idx_ints hC' (by rw [show M .arith .rem .i64 (M .mx (M .arith .sub .i64 u 1) 0) (Int.ofNat (M .len rC)) = _ from ei]; omega) (by rw [show M .arith .rem .i64 (M .mx (M .arith .sub .i64 u 1) 0) (Int.ofNat (M .len rC)) = _ from ei]; (try simp only [ncast] at *); omega) fun w hw => ?_
        rw [show M .arith .rem .i64 (M .mx (M .arith .sub .i64 u 1) 0) (Int.ofNat (M .len rC)) = _ from ei] at hw
        cbv
        have ev : M .cmp .eql w v = y := by
          subst hM
          show (w == v) = y
          rw [hy, hw]; rfl
        rw [show M .cmp .eql w v = _ from ev]
      · rw [show decide (u ≤ (C'.length : Int)) = false by simpa using h2]
        cbv
        rw [hy]; simp; omega
    · have e1 : M .cmp .geq u 1 = false := by subst hM; exact decide_eq_false h1
      simp only [e1]
      cbv
      rw [hy]; simp; omega

def bools (l : List Bool) : List (List PV) := l.map fun b => [B b]
theorem bools_set (l : List Bool) (i : Nat) (b : Bool) : (bools l).set i [B b] = bools (l.set i b) := by simp [bools, List.map_set]
theorem bools_get {l : List Bool} {i : Nat} (h : i < l.length) : (bools l)[i]? = some [B (l.getD i false)] := by simp [bools, List.getD_eq_getElem?_getD, h]
theorem bools_rep (n : Nat) : List.replicate n [B false] = bools (List.replicate n false) := by simp [bools]
theorem idx_bools {R : List (List PV)} {L : List Bool} {i : Int} {K : List PV → Prop} (hR : R = bools L) (h0 : 0 ≤ i) (h1 : i < L.length) (k : ∀ v, v = L.getD i.toNat false → K [B v]) : Idx R i K := by
  subst hR
  exact .mk [B (L.getD i.toNat false)] h0 (bools_get (by omega)) (k _ rfl)

theorem c_rcircuit (kind K : Int) (rA rB rC rD rE rR ra : List (List PV)) (A a x : List Int) (hA : rA = ints A) (ha : ra = ints a) (X : Reads a A x) (h64 : A.length ≤ 1000000) (h1 : 1 ≤ A.length)
    (y : Bool) (hy : y = roundS x x.length 1 1) :
    Call .plain 98 [.agg [I kind, .list 1 rA, .list 1 rB, .list 1 rC, .list 1 rD, .list 1 rE, I K, .list 1 rR], .list 1 ra] (B y) := by
  have lx := X.len
  rw [← circ_round (by omega)] at hy
  refine call_of Proofs.Tryz.func98 Proofs.Tryz.call98 rfl rfl fun M C hM hC => ?_
  have lA : Int.ofNat (M .len rA) = A.length := by subst hM; show (rA.length : Int) = _; rw [hA, ints_len]
  cbv
  refine .mk (Int.le_refl _) ?_
  cbv
  refine .mk (Int.le_refl _) ?_
  cbv
  refine .mk (Int.natCast_nonneg _) ?_
  cbv
  refine .mk (by rw [show Int.ofNat (M .len rA) = _ from lA]; (try simp only [ncast] at *); omega) ?_
  cbv
  have rep0 : M .rep (Int.ofNat (M .len rA)) [B false] = bools (List.replicate A.length false) := by
    rw [lA]; subst hM
    show List.replicate ((A.length : Int)).toNat [B false] = _
    rw [Int.toNat_natCast, bools_rep]
  refine Loop.over (Nat × Int × List (List PV) × List Bool) (fun q => [(.t 8, I q.1), (.t 7, I q.2.1), (.a 1, .arr 0 4 1 q.2.2.1)]) 2 (fun q => A.length - q.1) (fun q => q.1 ≤ A.length ∧ 0 ≤ q.2.1 ∧ q.2.1 < A.length ∧ q.2.2.1 = bools q.2.2.2 ∧ q.2.2.2.length = A.length ∧ y = circS x (A.length - q.1) q.2.1.toNat q.2.2.2) (0, 0, M .rep (Int.ofNat (M .len rA)) [B false], List.replicate A.length false) ⟨Nat.zero_le _, Int.le_refl _, by show (0 : Int) < _; omega, rep0, by simp, by rw [hy, lx]; rfl⟩ (by (cbv; repeat' (first | exact True.intro | exact rfl | apply And.intro))) ?_
  rintro ⟨j, at', q, met⟩ ⟨hj, ha0, hat, hq, hmet, hr⟩
  simp only at hj ha0 hat hq hmet hr
  clear rep0
  cbv
  split <;> rename_i h <;> (try simp only [h]) <;> (try cbv) <;> (try simp only [ncast] at *)
  · have hlt : j < A.length := by subst hM; have h := of_decide_eq_true h; have h : (j : Int) < (rA.length : Int) := h; rw [hA, ints_len] at h; omega
    clear h
    obtain ⟨k, hk⟩ : ∃ k, A.length - j = k + 1 := ⟨A.length - j - 1, by omega⟩
    rw [hk] at hr
    simp only [circS] at hr
    have hat2 : at'.toNat < A.length := by omega
    refine idx_ints hA ha0 hat fun p hp => ?_
    cbv
    refine idx_ints ha (by rw [hp]; exact X.lo _ hat2) (by rw [hp]; exact X.hi _ hat2) fun v hv => ?_
    have hv : v = x.getD at'.toNat 0 := by rw [hv, hp]; exact X.get _ hat2
    rw [← hv] at hr
    clear hp
    cbv
    split <;> rename_i h <;> (try simp only [h]) <;> (try cbv) <;> (try simp only [ncast] at *)
    · have h2 : v < 1 := by subst hM; exact of_decide_eq_true h
      rw [if_pos (.inl h2)] at hr
      rw [hr]
    · have h2 : ¬ v < 1 := by subst hM; exact of_decide_eq_false h
      clear h
      split <;> rename_i h <;> (try simp only [h]) <;> (try cbv) <;> (try simp only [ncast] at *)
      · have h3 : v > x.length := by subst hM; have h := of_decide_eq_true h; have h : v > (rA.length : Int) := h; rw [hA, ints_len] at h; omega
        rw [if_pos (.inr (.inl h3))] at hr
        rw [hr]
      · have h3 : ¬ v > x.length := by subst hM; have h := of_decide_eq_false h; have h : ¬ v > (rA.length : Int) := h; rw [hA, ints_len] at h; omega
        clear h
        have e1 : M .arith .sub .i64 v 1 = v - 1 := by
          subst hM
          show IntKind.i64.wrap (v - 1) = _
          rw [wrap_i64 (by omega) (by omega)]
        have hv0 : 0 ≤ M .arith .sub .i64 v 1 := by rw [e1]; omega
        have hv1 : (M .arith .sub .i64 v 1 : Int) < (met.length : Int) := by rw [e1, hmet]; omega
        have hm : q.length = met.length := by rw [hq]; simp [bools]
        refine idx_bools hq hv0 hv1 fun b hb => ?_
        rw [show M .arith .sub .i64 v 1 = _ from e1] at hb
        cbv
        refine idx_bools hq hv0 hv1 fun b' hb' => ?_
        rw [show M .arith .sub .i64 v 1 = _ from e1] at hb'
        cbv
        rw [← hb'] at hr
        cases b'
        · rw [if_neg (by simp; omega)] at hr
          cbv
          refine idx_bools hq hv0 hv1 fun _ _ => ?_
          cbv
          refine idx_bools hq hv0 hv1 fun _ _ => ?_
          cbv
          refine ⟨⟨j + 1, M .arith .sub .i64 v 1, M .set q (M .arith .sub .i64 v 1) [B true], met.set (v - 1).toNat true⟩, ⟨hlt, hv0, by rw [← hmet]; exact hv1, ?_, by simpa using hmet, ?_⟩, ?_, by (cbv; repeat' (first | exact True.intro | exact rfl | apply And.intro)) <;> (subst hM; rw [succ_i64 (by omega)])⟩
          · simp only
            rw [e1, hq]; subst hM
            exact bools_set _ _ _
          · simp only
            rw [e1, show A.length - (j + 1) = k by omega]; exact hr
          · simp only; omega
        · rw [if_pos (by simp)] at hr
          cbv
          rw [hr]
  · have hj2 : j = A.length := by subst hM; have h := of_decide_eq_false h; have h : ¬ (j : Int) < (rA.length : Int) := h; rw [hA, ints_len] at h; omega
    subst hj2
    rw [Nat.sub_self, circS] at hr
    have ev : M .cmp .eql at' 0 = y := by
      subst hM
      show (at' == 0) = y
      rw [hr, Bool.eq_iff_iff]; simp; omega
    rw [ev]

theorem c_rpairs (kind K : Int) (rA rB rC rD rE rR ra : List (List PV)) (A Bl a x z : List Int) (hA : rA = ints A) (hB : rB = ints Bl) (ha : ra = ints a) (X : Reads a A x) (Z : Reads a Bl z) (h64 : A.length ≤ 64) (hl : Bl.length = A.length) (hk : kind = 22 ∨ kind = 23)
    (bx : ∀ i, -1000000 ≤ x.getD i 0 ∧ x.getD i 0 ≤ 1000000) (bz : ∀ i, -1000000 ≤ z.getD i 0 ∧ z.getD i 0 ≤ 1000000)
    (y : Bool) (hy : y = if kind = 22 then decide (compareS x z ≤ 0) else inverseS x z) :
    Call .plain 100 [.agg [I kind, .list 1 rA, .list 1 rB, .list 1 rC, .list 1 rD, .list 1 rE, I K, .list 1 rR], .list 1 ra] (B y) := by
  have lx := X.len
  have lz := Z.len
  have hlx : x.length = z.length := by omega
  have getX : ∀ i, i < A.length → ∀ p, p = A.getD i 0 → 0 ≤ p ∧ p < a.length ∧ a.getD p.toNat 0 = x.getD i 0 := fun i hi p hp => by rw [hp]; exact ⟨X.lo i hi, X.hi i hi, X.get i hi⟩
  have getZ : ∀ i, i < A.length → ∀ p, p = Bl.getD i 0 → 0 ≤ p ∧ p < a.length ∧ a.getD p.toNat 0 = z.getD i 0 := fun i hi p hp => by rw [hp]; exact ⟨Z.lo i (by omega), Z.hi i (by omega), Z.get i (by omega)⟩
  refine call_of Proofs.Tryz.func100 Proofs.Tryz.call100 rfl rfl fun M C hM hC => ?_
  obtain rfl | rfl := hk
  · have e : M .cmp .eql 22 22 = true := by subst hM; rfl
    replace hy : y = decide (compareS x z ≤ 0) := by simpa using hy
    cbv
    simp only [e]
    cbv
    refine Loop.over Nat (fun q => [(.t 6, I q)]) 1 (fun q => A.length - q) (fun q => q ≤ A.length ∧ ∀ i, i < q → x.getD i 0 = z.getD i 0) 0 ⟨Nat.zero_le _, by omega⟩ (by (cbv; repeat' (first | exact True.intro | exact rfl | apply And.intro))) ?_
    rintro j ⟨hj, hn⟩
    cbv
    split <;> rename_i h <;> (try simp only [h]) <;> (try cbv) <;> (try simp only [ncast] at *)
    · have hlt : j < A.length := by subst hM; have h := of_decide_eq_true h; have h : (j : Int) < (rA.length : Int) := h; rw [hA, ints_len] at h; omega
      clear h
      refine nidx_ints hA hlt fun p hp => ?_
      obtain ⟨p1, p2, p3⟩ := getX j hlt p hp
      cbv
      refine idx_ints ha p1 p2 fun u hu => ?_
      have hu : u = x.getD j 0 := by rw [hu]; exact p3
      clear p1 p2 p3 hp
      cbv
      refine nidx_ints hB (by omega) fun p hp => ?_
      obtain ⟨p1, p2, p3⟩ := getZ j hlt p hp
      cbv
      refine idx_ints ha p1 p2 fun v hv => ?_
      have hv : v = z.getD j 0 := by rw [hv]; exact p3
      clear p1 p2 p3 hp
      cbv
      split <;> rename_i h <;> (try simp only [h]) <;> (try cbv)
      · have h1 : u ≠ v := by subst hM; exact bne_iff_ne.1 h
        have ev : M .cmp .lss u v = y := by
          subst hM
          show decide (u < v) = y
          rw [hy, compare_at hlx (by omega) hn (by rw [← hu, ← hv]; exact h1), ← hu, ← hv]
        rw [ev]
      · have h1 : u = v := by subst hM; exact bne_eq_false_iff_eq.1 h
        refine ⟨j + 1, ⟨hlt, fun i hi => ?_⟩, ?_, by (cbv; repeat' (first | exact True.intro | exact rfl | apply And.intro)) <;> (subst hM; rw [succ_i64 (by omega)])⟩
        · rcases Nat.lt_or_ge i j with h3 | h3
          · exact hn i h3
          · have : i = j := by omega
            subst this; rw [← hu, ← hv]; exact h1
        · omega
    · have hj2 : j = A.length := by subst hM; have h := of_decide_eq_false h; have h : ¬ (j : Int) < (rA.length : Int) := h; rw [hA, ints_len] at h; omega
      subst hj2
      rw [hy, compare_same hlx fun i hi => hn i (by omega)]
  · have e : M .cmp .eql 23 22 = false := by subst hM; rfl
    replace hy : y = inverseS x z := by simpa using hy
    have hyi : y = true ↔ ∀ i, i < A.length → ∀ k, k < A.length → (1 ≤ x.getD i 0 ∧ x.getD i 0 ≤ A.length ∧ 1 ≤ z.getD k 0 ∧ z.getD k 0 ≤ A.length ∧ (x.getD i 0 = k + 1 ↔ z.getD k 0 = i + 1)) := by
      rw [hy, inverse_all hlx, lx]
    clear hy
    cbv
    simp only [e]
    cbv
    refine Loop.over Nat (fun q => [(.t 9, I q)]) 1 (fun q => A.length - q) (fun q => q ≤ A.length ∧ ∀ i, i < q → ∀ k, k < A.length → (1 ≤ x.getD i 0 ∧ x.getD i 0 ≤ A.length ∧ 1 ≤ z.getD k 0 ∧ z.getD k 0 ≤ A.length ∧ (x.getD i 0 = k + 1 ↔ z.getD k 0 = i + 1))) 0 ⟨Nat.zero_le _, by omega⟩ (by (cbv; repeat' (first | exact True.intro | exact rfl | apply And.intro))) ?_
    rintro j ⟨hj, hn⟩
    cbv
    split <;> rename_i h <;> (try simp only [h]) <;> (try cbv) <;> (try simp only [ncast] at *)
    · have hlt : j < A.length := by subst hM; have h := of_decide_eq_true h; have h : (j : Int) < (rA.length : Int) := h; rw [hA, ints_len] at h; omega
      clear h
      refine Loop.over Nat (fun q => [(.t 10, I q)]) 1 (fun q => A.length - q) (fun q => q ≤ A.length ∧ ∀ k, k < q → (1 ≤ x.getD j 0 ∧ x.getD j 0 ≤ A.length ∧ 1 ≤ z.getD k 0 ∧ z.getD k 0 ≤ A.length ∧ (x.getD j 0 = k + 1 ↔ z.getD k 0 = j + 1))) 0 ⟨Nat.zero_le _, by omega⟩ (by (cbv; repeat' (first | exact True.intro | exact rfl | apply And.intro))) ?_
      rintro k ⟨hk, hn2⟩
      cbv
      split <;> rename_i h <;> (try simp only [h]) <;> (try cbv) <;> (try simp only [ncast] at *)
      · have hlt2 : k < A.length := by subst hM; have h := of_decide_eq_true h; have h : (k : Int) < (rA.length : Int) := h; rw [hA, ints_len] at h; omega
        clear h
        refine nidx_ints hA hlt fun p hp => ?_
        obtain ⟨p1, p2, p3⟩ := getX j hlt p hp
        cbv
        refine idx_ints ha p1 p2 fun u hu => ?_
        have hu : u = x.getD j 0 := by rw [hu]; exact p3
        clear p1 p2 p3 hp
        cbv
        refine nidx_ints hB (by omega) fun p hp => ?_
        obtain ⟨p1, p2, p3⟩ := getZ k hlt2 p hp
        cbv
        refine idx_ints ha p1 p2 fun v hv => ?_
        have hv : v = z.getD k 0 := by rw [hv]; exact p3
        clear p1 p2 p3 hp
        have no : ¬ (1 ≤ u ∧ u ≤ A.length ∧ 1 ≤ v ∧ v ≤ A.length ∧ (u = k + 1 ↔ v = j + 1)) → y = false := fun h => by
          rw [← Bool.not_eq_true, hyi]
          intro h2
          have := h2 j hlt k hlt2
          rw [← hu, ← hv] at this
          exact h this
        have ebn : M .beq .neq (M .cmp .eql u (M .arith .add .i64 (Int.ofNat k) 1)) (M .cmp .eql v (M .arith .add .i64 (Int.ofNat j) 1)) = !decide (u = k + 1 ↔ v = j + 1) := by
          subst hM
          rw [succ_i64 (by omega), succ_i64 (by omega)]
          show (!((u == ((k + 1 : Nat) : Int)) == (v == ((j + 1 : Nat) : Int)))) = _
          congr 1
          rw [Bool.eq_iff_iff]
          simp
          by_cases h1 : u = k + 1 <;> by_cases h2 : v = j + 1 <;> simp [h1, h2, beq_eq_false_iff_ne.2]
        cbv
        split <;> rename_i h <;> (try simp only [h]) <;> (try cbv) <;> (try simp only [ncast] at *)
        · have h1 : u < 1 := by subst hM; exact of_decide_eq_true h
          rw [no (by omega)]
        have h1 : ¬ u < 1 := by subst hM; exact of_decide_eq_false h
        clear h
        split <;> rename_i h <;> (try simp only [h]) <;> (try cbv) <;> (try simp only [ncast] at *)
        · have h2 : u > A.length := by subst hM; have h := of_decide_eq_true h; have h : u > (rA.length : Int) := h; rw [hA, ints_len] at h; omega
          rw [no (by omega)]
        have h2 : ¬ u > A.length := by subst hM; have h := of_decide_eq_false h; have h : ¬ u > (rA.length : Int) := h; rw [hA, ints_len] at h; omega
        clear h
        split <;> rename_i h <;> (try simp only [h]) <;> (try cbv) <;> (try simp only [ncast] at *)
        · have h3 : v < 1 := by subst hM; exact of_decide_eq_true h
          rw [no (by omega)]
        have h3 : ¬ v < 1 := by subst hM; exact of_decide_eq_false h
        clear h
        split <;> rename_i h <;> (try simp only [h]) <;> (try cbv) <;> (try simp only [ncast] at *)
        · have h4 : v > A.length := by subst hM; have h := of_decide_eq_true h; have h : v > (rA.length : Int) := h; rw [hA, ints_len] at h; omega
          rw [no (by omega)]
        have h4 : ¬ v > A.length := by subst hM; have h := of_decide_eq_false h; have h : ¬ v > (rA.length : Int) := h; rw [hA, ints_len] at h; omega
        clear h
        rw [ebn]
        by_cases h5 : u = k + 1 ↔ v = j + 1
        · rw [show (!decide (u = k + 1 ↔ v = j + 1)) = false by simpa using h5]
          cbv
          refine ⟨k + 1, ⟨hlt2, fun i hi => ?_⟩, ?_, by (cbv; repeat' (first | exact True.intro | exact rfl | apply And.intro)) <;> (subst hM; rw [succ_i64 (by omega)])⟩
          · rcases Nat.lt_or_ge i k with h6 | h6
            · exact hn2 i h6
            · have : i = k := by omega
              subst this; rw [← hu, ← hv]; exact ⟨by omega, by omega, by omega, by omega, h5⟩
          · omega
        · rw [show (!decide (u = k + 1 ↔ v = j + 1)) = true by simpa using h5]
          cbv
          rw [no fun h => h5 h.2.2.2.2]
      · have hk2 : k = A.length := by subst hM; have h := of_decide_eq_false h; have h : ¬ (k : Int) < (rA.length : Int) := h; rw [hA, ints_len] at h; omega
        subst hk2
        refine ⟨j + 1, ⟨hlt, fun i hi => ?_⟩, ?_, by (cbv; repeat' (first | exact True.intro | exact rfl | apply And.intro)) <;> (subst hM; rw [succ_i64 (by omega)])⟩
        · rcases Nat.lt_or_ge i j with h6 | h6
          · exact hn i h6
          · have : i = j := by omega
            subst this; exact hn2
        · omega
    · have hj2 : j = A.length := by subst hM; have h := of_decide_eq_false h; have h : ¬ (j : Int) < (rA.length : Int) := h; rw [hA, ints_len] at h; omega
      subst hj2
      rw [hyi.2 hn]
end Go.Pi
