/- Package jigsawref09: sums, three numbers, logic. Package jigsawref01: a quotient. -/
import Derived.Test.YtlgoiaembdlemaaGreatRf1
import Derived.Test.YtlgoiaembdlemaaGreatPid
set_option linter.unusedSimpArgs false
set_option linter.unusedVariables false
namespace Go.Pi
open Go
set_option linter.unusedVariables false
set_option linter.unusedSimpArgs false

theorem c_rsize (a : Int) (hb : -9223372036854775808 ≤ a ∧ a ≤ 9223372036854775807) (y : Int) (hy : y = (a.natAbs : Int)) : Call .plain 84 [I a] (U64 y) := by
  have n1 : a < 0 → y = 0 - (a + 1) + 1 := fun h => by omega
  have n2 : ¬ a < 0 → y = a := fun h => by omega
  refine call_of Proofs.Tryz.func84 Proofs.Tryz.call84 rfl rfl fun M C hM hC => ?_
  cbv
  split <;> rename_i h <;> (try simp only [h]) <;> (try cbv)
  · have h1 : a < 0 := by subst hM; exact of_decide_eq_true h
    rw [n1 h1]; subst hM
    show U64 (IntKind.u64.wrap (IntKind.u64.wrap (IntKind.i64.wrap (0 - IntKind.i64.wrap (a + 1))) + 1)) = U64 _
    rw [wrap_i64 (x := a + 1) (by omega) (by omega), wrap_i64 (by omega) (by omega), wrap_u64 (x := 0 - (a + 1)) (by omega) (by omega), wrap_u64 (by omega) (by omega)]
  · have h1 : ¬ a < 0 := by subst hM; exact of_decide_eq_false h
    rw [n2 h1]; subst hM
    show U64 (IntKind.u64.wrap a) = U64 _
    rw [wrap_u64 (by omega) (by omega)]

def quoOK (a b : Int) : Bool := !(b == 0 || (b == -1 && a == -9223372036854775808))
theorem c_rquo (a b : Int) (ha : -9223372036854775808 ≤ a ∧ a ≤ 9223372036854775807) (hb : -9223372036854775808 ≤ b ∧ b ≤ 9223372036854775807) (q : Int) (ok : Bool) (hok : ok = quoOK a b) (hq : q = if ok then a.tdiv b else 0) :
    Call .plain 75 [I a, I b] (.tup [I q, B ok]) := by
  have sa := c_rsize a ha _ rfl
  have sb := c_rsize b hb _ rfl
  refine call_of Proofs.Tryz.func75 Proofs.Tryz.call75 rfl rfl fun M C hM hC => ?_
  have e0 : M .cmp .eql b 0 = (b == 0) := by subst hM; rfl
  have e1 : M .cmp .eql b (-1) = (b == -1) := by subst hM; rfl
  have e2 : M .cmp .eql a (-9223372036854775808) = (a == -9223372036854775808) := by subst hM; rfl
  by_cases h0 : b = 0
  · have e0 : M .cmp .eql b 0 = true := by rw [e0]; simpa using h0
    have hok : ok = false := by rw [hok, quoOK, h0]; rfl
    rw [hok] at hq
    cbv
    simp only [e0]
    cbv
    simp [hok, hq]
  · have e0 : M .cmp .eql b 0 = false := by rw [e0]; simpa using h0
    by_cases hx : b = -1 ∧ a = -9223372036854775808
    · have e1 : M .cmp .eql b (-1) = true := by rw [e1]; simpa using hx.1
      have e2 : M .cmp .eql a (-9223372036854775808) = true := by rw [e2]; simpa using hx.2
      have hok : ok = false := by rw [hok, quoOK, hx.1, hx.2]; rfl
      rw [hok] at hq
      cbv
      simp only [e0]
      cbv
      simp only [e1]
      cbv
      simp only [e2]
      cbv
      simp [hok, hq]
    · have hok : ok = true := by
        rw [hok, quoOK]
        simp [h0]
        omega
      rw [hok, if_pos rfl] at hq
      have eq1 : IntKind.u64.wrap ((a.natAbs : Int).tdiv b.natAbs) = ((a.natAbs / b.natAbs : Nat) : Int) := by
        have h1 : a.natAbs / b.natAbs ≤ a.natAbs := Nat.div_le_self _ _
        have key : ∀ n : Nat, n ≤ a.natAbs → IntKind.u64.wrap (n : Int) = n := fun n h => wrap_u64 (by omega) (by omega)
        exact key _ h1
      have fin : ∀ G : Prop, (∀ z : Bool, z = (b == -1) → True) → True := fun _ _ => trivial
      obtain ⟨za, hza⟩ : ∃ z, z = (a.natAbs : Int) := ⟨_, rfl⟩
      obtain ⟨zb, hzb⟩ : ∃ z, z = (b.natAbs : Int) := ⟨_, rfl⟩
      rw [← hza] at sa
      rw [← hzb] at sb
      have nz : zb ≠ 0 := by omega
      have val : M .conv .i64 (M .arith .quo .u64 za zb) = IntKind.i64.wrap ((a.natAbs / b.natAbs : Nat) : Int) := by
        subst hM
        show IntKind.i64.wrap (IntKind.u64.wrap (za.tdiv zb)) = _
        rw [hza, hzb, eq1]
      have ebn : M .beq .neq (M .cmp .lss a 0) (M .cmp .lss b 0) = !decide ((a < 0) ↔ (b < 0)) := by
        subst hM
        show (!(decide (a < 0) == decide (b < 0))) = _
        congr 1
        by_cases h1 : a < 0 <;> by_cases h2 : b < 0 <;> simp [h1, h2]
      have vneg : ¬ ((a < 0) ↔ (b < 0)) → M .un .neg .i64 (M .conv .i64 (M .arith .quo .u64 za zb)) = q := fun hs => by
        rw [val, hq]; subst hM
        exact neg_wrap ha h0 hs
      have vpos : ((a < 0) ↔ (b < 0)) → M .conv .i64 (M .arith .quo .u64 za zb) = q := fun hs => by
        rw [val, hq]
        exact pos_wrap ha h0 hx hs
      clear eq1 hza hzb val
      have e12 : M .cmp .eql b (-1) = false ∨ M .cmp .eql b (-1) = true ∧ M .cmp .eql a (-9223372036854775808) = false := by
        rw [e1, e2]
        by_cases h : b = -1
        · exact .inr ⟨by simpa using h, by simpa using fun h2 => hx ⟨h, h2⟩⟩
        · exact .inl (by simpa using h)
      clear e1 e2 hq fin hx
      cbv
      simp only [e0]
      cbv
      rcases e12 with e1 | ⟨e1, e2⟩
      · simp only [e1]
        cbv
        refine .mk _ (use_call hC sa) ?_
        cbv
        refine .mk _ (use_call hC sb) ?_
        cbv
        refine .mk nz ?_
        cbv
        rw [ebn]
        by_cases hs : (a < 0) ↔ (b < 0)
        · have vpos := vpos hs
          rw [show (!decide ((a < 0) ↔ (b < 0))) = false by simpa using hs]
          clear vneg ebn
          cbv
          simp [vpos, hok]
        · have vneg := vneg hs
          rw [show (!decide ((a < 0) ↔ (b < 0))) = true by simpa using hs]
          clear vpos ebn
          cbv
          simp [vneg, hok]
      · simp only [e1]
        cbv
        simp only [e2]
        cbv
        refine .mk _ (use_call hC sa) ?_
        cbv
        refine .mk _ (use_call hC sb) ?_
        cbv
        refine .mk nz ?_
        cbv
        rw [ebn]
        by_cases hs : (a < 0) ↔ (b < 0)
        · have vpos := vpos hs
          rw [show (!decide ((a < 0) ↔ (b < 0))) = false by simpa using hs]
          clear vneg ebn
          cbv
          simp [vpos, hok]
        · have vneg := vneg hs
          rw [show (!decide ((a < 0) ↔ (b < 0))) = true by simpa using hs]
          clear vpos ebn
          cbv
          simp [vneg, hok]

theorem c_rsum (kind K : Int) (rA rB rC rD rE rR ra : List (List PV)) (A C' a x : List Int) (hA : rA = ints A) (hC' : rC = ints C') (ha : ra = ints a) (X : Reads a A x) (hl : A.length ≤ C'.length) (h64 : A.length ≤ 64)
    (bC : ∀ i, -1000000 ≤ C'.getD i 0 ∧ C'.getD i 0 ≤ 1000000) (bx : ∀ i, -1000000 ≤ x.getD i 0 ∧ x.getD i 0 ≤ 1000000)
    (y : Int) (hy : y = sumN (fun i => C'.getD i 0 * x.getD i 0) A.length) :
    Call .plain 74 [.agg [I kind, .list 1 rA, .list 1 rB, .list 1 rC, .list 1 rD, .list 1 rE, I K, .list 1 rR], .list 1 ra] (I y) := by
  refine call_of Proofs.Tryz.func74 Proofs.Tryz.call74 rfl rfl fun M C hM hC => ?_
  cbv
  refine Loop.over (Nat × Int) (fun q => [(.t 6, I q.1), (.t 5, I q.2)]) 1 (fun q => A.length - q.1) (fun q => q.1 ≤ A.length ∧ q.2 = sumN (fun i => C'.getD i 0 * x.getD i 0) q.1) (0, 0) ⟨Nat.zero_le _, rfl⟩ (by (cbv; repeat' (first | exact True.intro | exact rfl | apply And.intro))) ?_
  rintro ⟨j, n⟩ ⟨hj, hn⟩
  simp only at hj hn
  cbv
  split <;> rename_i h <;> (try simp only [h]) <;> (try cbv)
  · have hlt : j < A.length := by subst hM; simpa [hA] using h
    refine nidx_ints hC' (by omega) fun v hv => ?_
    cbv
    refine nidx_ints hA hlt fun p hp => ?_
    cbv
    refine idx_ints ha (by rw [hp]; exact X.lo j hlt) (by rw [hp]; exact X.hi j hlt) fun u hu => ?_
    have hu : u = x.getD j 0 := by rw [hu, hp]; exact X.get j hlt
    cbv
    refine ⟨⟨j + 1, _⟩, ⟨hlt, ?_⟩, ?_, by (cbv; repeat' (first | exact True.intro | exact rfl | apply And.intro)) <;> (subst hM; rw [succ_i64 (by omega)])⟩
    · subst hM
      have h1 := bC j
      have h2 := bx j
      rw [← hv] at h1; rw [← hu] at h2
      have hb := mul_le h1 h2
      have hs := sumN_le (f := fun i => C'.getD i 0 * x.getD i 0) (b := 1000000000000) (by decide) j fun i _ => mul_le (bC i) (bx i)
      simp only [real_mul, real_add, sumN]
      rw [wrap_i64 (x := v * u) (by omega) (by omega), wrap_i64 (by omega) (by omega), hn, hv, hu]
    · simp only; omega
  · subst hM
    simp [hA] at h
    have : j = A.length := by omega
    rw [hy, hn, this]

theorem c_rlinear (kind K : Int) (rA rB rC rD rE rR ra : List (List PV)) (A Bl C' a x z : List Int) (hA : rA = ints A) (hB : rB = ints Bl) (hC' : rC = ints C') (ha : ra = ints a) (X : Reads a A x) (Z : Reads a Bl z) (hl : A.length ≤ C'.length) (h64 : A.length ≤ 64) (hz : kind = 4 → 1 ≤ Bl.length) (hk : 1 ≤ kind ∧ kind ≤ 4)
    (bC : ∀ i, -1000000 ≤ C'.getD i 0 ∧ C'.getD i 0 ≤ 1000000) (bx : ∀ i, -1000000 ≤ x.getD i 0 ∧ x.getD i 0 ≤ 1000000) (n : Int) (hn : n = sumN (fun i => C'.getD i 0 * x.getD i 0) A.length)
    (y : Bool) (hy : y = if kind = 1 then n == K else if kind = 2 then decide (n ≤ K) else if kind = 3 then n != K else truthS (z.getD 0 0) (decide (n ≤ K))) :
    Call .plain 52 [.agg [I kind, .list 1 rA, .list 1 rB, .list 1 rC, .list 1 rD, .list 1 rE, I K, .list 1 rR], .list 1 ra] (B y) := by
  have cs := c_rsum kind K rA rB rC rD rE rR ra A C' a x hA hC' ha X hl h64 bC bx n hn
  clear hn
  refine call_of Proofs.Tryz.func52 Proofs.Tryz.call52 rfl rfl fun M C hM hC => ?_
  obtain rfl | rfl | rfl | rfl : kind = 1 ∨ kind = 2 ∨ kind = 3 ∨ kind = 4 := by omega
  · have e : ∀ b, M .cmp .eql 1 b = (1 == b) := fun b => by subst hM; rfl
    have hy : y = M .cmp .eql n K := by subst hM; simpa using hy
    cbv
    refine .mk _ (use_call hC cs) ?_
    cbv
    simp only [e]
    cbv
    rw [hy]
  · have e : ∀ b, M .cmp .eql 2 b = (2 == b) := fun b => by subst hM; rfl
    have hy : y = M .cmp .leq n K := by subst hM; simpa using hy
    cbv
    refine .mk _ (use_call hC cs) ?_
    cbv
    repeat (simp only [e]; cbv)
    rw [hy]
  · have e : ∀ b, M .cmp .eql 3 b = (3 == b) := fun b => by subst hM; rfl
    have hy : y = M .cmp .neq n K := by subst hM; simpa using hy
    cbv
    refine .mk _ (use_call hC cs) ?_
    cbv
    repeat (simp only [e]; cbv)
    rw [hy]
  · have e : ∀ b, M .cmp .eql 4 b = (4 == b) := fun b => by subst hM; rfl
    have hz := hz rfl
    have hy : y = truthS (z.getD 0 0) (decide (n ≤ K)) := by simpa using hy
    cbv
    refine .mk _ (use_call hC cs) ?_
    cbv
    repeat (simp only [e]; cbv)
    clear e
    refine idx_ints hB (by omega) (by omega) fun p hp => ?_
    cbv
    refine idx_ints ha (by rw [hp]; exact Z.lo 0 hz) (by rw [hp]; exact Z.hi 0 hz) fun b hb => ?_
    have hb : b = z.getD 0 0 := by rw [hb, hp]; exact Z.get 0 hz
    rw [← hb] at hy
    obtain ⟨l, hl⟩ : ∃ l, l = decide (n ≤ K) := ⟨_, rfl⟩
    rw [← hl] at hy
    have el : M .cmp .leq n K = l := by subst hM; exact hl.symm
    have eg : M .cmp .gtr n K = !l := by
      subst hM
      show decide (n > K) = !l
      rw [hl, Bool.eq_iff_iff]; simp
    have e1 : M .cmp .eql b 1 = (b == 1) := by subst hM; rfl
    have e0 : M .cmp .eql b 0 = (b == 0) := by subst hM; rfl
    unfold truthS at hy
    generalize (b == 1) = b1 at hy e1
    generalize (b == 0) = b0 at hy e0
    clear hl hp hb
    cbv
    simp only [e1]
    cases b1
    · cbv
      simp only [e0]
      cases b0
      · cbv
        rw [hy]; simp
      · cbv
        rw [hy, show M .cmp .gtr n K = _ from eg]; simp
    · cbv
      simp only [el]
      cases l
      · cbv
        simp only [e0]
        cases b0
        · cbv
          rw [hy]; simp
        · cbv
          rw [hy, show M .cmp .gtr n K = _ from eg]; simp
      · cbv
        rw [hy]; simp

theorem contains_any' (l : List Int) (v : Int) : l.contains v = l.any fun x => x == v := by
  rw [Bool.eq_iff_iff]; simp

theorem c_rlogic (kind K : Int) (rA rB rC rD rE rR ra : List (List PV)) (A Bl C' a x z : List Int) (hA : rA = ints A) (hB : rB = ints Bl) (ha : ra = ints a) (X : Reads a A x) (Z : Reads a Bl z) (hA64 : A.length ≤ 1000000) (hB64 : Bl.length ≤ 1000000) (hx1 : kind ≠ 12 → 1 ≤ A.length) (hz1 : kind ≠ 12 → 1 ≤ Bl.length) (hk : 12 ≤ kind ∧ kind ≤ 16)
    (y : Bool) (hy : y = logicS kind K C' x z) :
    Call .plain 54 [.agg [I kind, .list 1 rA, .list 1 rB, .list 1 rC, .list 1 rD, .list 1 rE, I K, .list 1 rR], .list 1 ra] (B y) := by
  refine call_of Proofs.Tryz.func54 Proofs.Tryz.call54 rfl rfl fun M C hM hC => ?_
  by_cases h12 : kind = 12
  · have e : M .cmp .eql kind 12 = true := by subst hM; rw [h12]; rfl
    have hy : y = (x.contains 1 || z.contains 0) := by rw [hy, h12]; rfl
    have hx : x.contains 1 = true → y = true := fun h => by rw [hy, h]; rfl
    have hz : z.contains 0 = true → y = true := fun h => by rw [hy, h]; simp
    have has : ∀ (l : List Int) (i : Nat) (v : Int), i < l.length → l.getD i 0 = v → l.contains v = true := fun l i v hi h => by
      rw [List.contains_iff_mem, ← h]; exact getD_mem 0 hi
    have hno : ∀ (l : List Int) (v : Int), (∀ i, i < l.length → l.getD i 0 ≠ v) → l.contains v = false := fun l v h => by
      rw [contains_any']
      exact any_no 0 fun i hi => by simpa using h i hi
    cbv
    simp only [e]
    cbv
    refine Loop.over Nat (fun q => [(.t 5, I q)]) 1 (fun q => A.length - q) (fun q => q ≤ A.length ∧ ∀ i, i < q → x.getD i 0 ≠ 1) 0 ⟨Nat.zero_le _, by omega⟩ (by (cbv; repeat' (first | exact True.intro | exact rfl | apply And.intro))) ?_
    rintro j ⟨hj, hn⟩
    cbv
    split <;> rename_i h <;> (try simp only [h]) <;> (try cbv)
    · have hlt : j < A.length := by subst hM; simpa [hA] using h
      refine nidx_ints hA hlt fun p hp => ?_
      cbv
      refine idx_ints ha (by rw [hp]; exact X.lo j hlt) (by rw [hp]; exact X.hi j hlt) fun u hu => ?_
      have hu : u = x.getD j 0 := by rw [hu, hp]; exact X.get j hlt
      cbv
      split <;> rename_i h <;> (try simp only [h]) <;> (try cbv)
      · have h1 : u = 1 := by subst hM; exact eq_of_beq h
        rw [hx (has x j 1 (by have := X.len; omega) (by rw [← hu]; exact h1))]
      · have h1 : u ≠ 1 := by subst hM; exact fun e => by rw [e] at h; simp at h
        refine ⟨j + 1, ⟨hlt, fun i hi => ?_⟩, ?_, by (cbv; repeat' (first | exact True.intro | exact rfl | apply And.intro)) <;> (subst hM; rw [succ_i64 (by omega)])⟩
        · rcases Nat.lt_or_ge i j with h3 | h3
          · exact hn i h3
          · have : i = j := by omega
            subst this; rw [← hu]; exact h1
        · omega
    · have hj2 : j = A.length := by subst hM; simp [hA] at h; omega
      subst hj2
      have nx := hno x 1 fun i hi => hn i (by have := X.len; omega)
      refine Loop.over Nat (fun q => [(.t 6, I q)]) 1 (fun q => Bl.length - q) (fun q => q ≤ Bl.length ∧ ∀ i, i < q → z.getD i 0 ≠ 0) 0 ⟨Nat.zero_le _, by omega⟩ (by (cbv; repeat' (first | exact True.intro | exact rfl | apply And.intro))) ?_
      rintro j ⟨hj, hn⟩
      cbv
      split <;> rename_i h <;> (try simp only [h]) <;> (try cbv)
      · have hlt : j < Bl.length := by subst hM; simpa [hB] using h
        refine nidx_ints hB hlt fun p hp => ?_
        cbv
        refine idx_ints ha (by rw [hp]; exact Z.lo j hlt) (by rw [hp]; exact Z.hi j hlt) fun u hu => ?_
        have hu : u = z.getD j 0 := by rw [hu, hp]; exact Z.get j hlt
        cbv
        split <;> rename_i h <;> (try simp only [h]) <;> (try cbv)
        · have h1 : u = 0 := by subst hM; exact eq_of_beq h
          rw [hz (has z j 0 (by have := Z.len; omega) (by rw [← hu]; exact h1))]
        · have h1 : u ≠ 0 := by subst hM; exact fun e => by rw [e] at h; simp at h
          refine ⟨j + 1, ⟨hlt, fun i hi => ?_⟩, ?_, by (cbv; repeat' (first | exact True.intro | exact rfl | apply And.intro)) <;> (subst hM; rw [succ_i64 (by omega)])⟩
          · rcases Nat.lt_or_ge i j with h3 | h3
            · exact hn i h3
            · have : i = j := by omega
              subst this; rw [← hu]; exact h1
          · omega
      · have hj2 : j = Bl.length := by subst hM; simp [hB] at h; omega
        subst hj2
        have nz := hno z 0 fun i hi => hn i (by have := Z.len; omega)
        rw [hy, nx, nz]; rfl
  · have e : M .cmp .eql kind 12 = false := by subst hM; simpa using h12
    have hx1 := hx1 h12
    have hz1 := hz1 h12
    have e14 : M .cmp .eql kind 14 = (kind == 14) := by subst hM; rfl
    have e16 : M .cmp .eql kind 16 = (kind == 16) := by subst hM; rfl
    have e15 : M .cmp .geq kind 15 = decide (kind ≥ 15) := by subst hM; rfl
    have eK : ∀ v, M .cmp .eql v K = (v == K) := fun v => by subst hM; rfl
    have lK : ∀ v, M .cmp .leq v K = decide (v ≤ K) := fun v => by subst hM; rfl
    have nt : M .not true = false := by subst hM; rfl
    have nf : M .not false = true := by subst hM; rfl
    cbv
    simp only [e]
    cbv
    refine idx_ints hB (by omega) (by omega) fun p hp => ?_
    cbv
    refine idx_ints ha (by rw [hp]; exact Z.lo 0 hz1) (by rw [hp]; exact Z.hi 0 hz1) fun b hb => ?_
    have hb : b = z.getD 0 0 := by rw [hb, hp]; exact Z.get 0 hz1
    cbv
    refine idx_ints hA (by omega) (by omega) fun p hp => ?_
    cbv
    refine idx_ints ha (by rw [hp]; exact X.lo 0 hx1) (by rw [hp]; exact X.hi 0 hx1) fun u hu => ?_
    have hu : u = x.getD 0 0 := by rw [hu, hp]; exact X.get 0 hx1
    have e1 : M .cmp .eql b 1 = (b == 1) := by subst hM; rfl
    have e0 : M .cmp .eql b 0 = (b == 0) := by subst hM; rfl
    have b01 : ¬ ((b == 0) = true ∧ (b == 1) = true) := by simp; omega
    have eu := eK u
    have lu := lK u
    have hy2 : ∀ so h15, so = (if kind = 14 ∨ kind = 16 then decide (u ≤ K) else u == K) → h15 = decide (kind ≥ 15) → y = ((b == 1) && so || (b == 0) && (!so || h15)) := fun so h15 h1 h2 => by
      rw [hy]
      unfold logicS truthS impliedS
      rw [← hb, ← hu]
      obtain rfl | rfl | rfl | rfl : kind = 13 ∨ kind = 14 ∨ kind = 15 ∨ kind = 16 := by omega
      · simp at h1 h2; rw [h1, h2]; simp; cases (b == 1) <;> cases (b == 0) <;> simp
      · simp at h1 h2; rw [h1, h2]; simp; cases (b == 1) <;> cases (b == 0) <;> simp
      · simp at h1 h2; rw [h1, h2]; simp; cases (b == 1) <;> cases (b == 0) <;> simp
      · simp at h1 h2; rw [h1, h2]; simp; cases (b == 1) <;> cases (b == 0) <;> simp
    obtain ⟨c15, hc15⟩ : ∃ c, c = decide (kind ≥ 15) := ⟨_, rfl⟩
    rw [← hc15] at e15
    have hy3 : ∀ so, so = (if kind = 14 ∨ kind = 16 then decide (u ≤ K) else u == K) → y = ((b == 1) && so || (b == 0) && (!so || c15)) := fun so h => hy2 so c15 h hc15
    generalize (b == 1) = b1 at hy3 e1 b01
    generalize (b == 0) = b0 at hy3 e0 b01
    clear hy hy2 hc15 hb hp eK lK
    have fin : ∀ so : Bool, True := fun _ => trivial
    cbv
    simp only [e14]
    by_cases h14 : kind = 14
    · have hy4 := hy3 (decide (u ≤ K)) (by rw [if_pos (.inl h14)])
      rw [show (kind == 14) = true by simpa using h14]
      cbv
      refine idx_ints hA (by omega) (by omega) fun p hp => ?_
      cbv
      refine idx_ints ha (by rw [hp]; exact X.lo 0 hx1) (by rw [hp]; exact X.hi 0 hx1) fun u2 hu2 => ?_
      have hu2 : u2 = u := by rw [hu, hu2, hp]; exact X.get 0 hx1
      subst hu2
      obtain ⟨so, hso⟩ : ∃ so, so = decide (u2 ≤ K) := ⟨_, rfl⟩
      rw [← hso] at hy4 lu
      have eso := lu
      clear hso lu eu
      cbv
      clear hy3 e14 e16
      simp only [e1]
      cases b1
      · cbv
        simp only [e0]
        cases b0
        · cbv
          rw [hy4]; simp
        · cbv
          simp only [eso]
          cases so
          · simp only [nf]
            cbv
            rw [hy4]; simp
          · simp only [nt]
            cbv
            rw [hy4, show M .cmp .geq kind 15 = _ from e15]; simp
      · cbv
        rw [hy4, show M .cmp .leq u2 K = _ from eso]
        cases b0
        · simp
        · simp at b01
    · rw [show (kind == 14) = false by simpa using h14]
      cbv
      simp only [e16]
      by_cases h16 : kind = 16
      · have hy4 := hy3 (decide (u ≤ K)) (by rw [if_pos (.inr h16)])
        rw [show (kind == 16) = true by simpa using h16]
        cbv
        refine idx_ints hA (by omega) (by omega) fun p hp => ?_
        cbv
        refine idx_ints ha (by rw [hp]; exact X.lo 0 hx1) (by rw [hp]; exact X.hi 0 hx1) fun u2 hu2 => ?_
        have hu2 : u2 = u := by rw [hu, hu2, hp]; exact X.get 0 hx1
        subst hu2
        obtain ⟨so, hso⟩ : ∃ so, so = decide (u2 ≤ K) := ⟨_, rfl⟩
        rw [← hso] at hy4 lu
        have eso := lu
        clear hso lu eu
        cbv
        clear hy3 e14 e16
        simp only [e1]
        cases b1
        · cbv
          simp only [e0]
          cases b0
          · cbv
            rw [hy4]; simp
          · cbv
            simp only [eso]
            cases so
            · simp only [nf]
              cbv
              rw [hy4]; simp
            · simp only [nt]
              cbv
              rw [hy4, show M .cmp .geq kind 15 = _ from e15]; simp
        · cbv
          rw [hy4, show M .cmp .leq u2 K = _ from eso]
          cases b0
          · simp
          · simp at b01
      · have hy4 := hy3 (u == K) (by rw [if_neg (by omega)])
        rw [show (kind == 16) = false by simpa using h16]
        cbv
        obtain ⟨so, hso⟩ : ∃ so, so = (u == K) := ⟨_, rfl⟩
        rw [← hso] at hy4 eu
        have eso := eu
        clear hso lu eu
        clear hy3 e14 e16
        simp only [e1]
        cases b1
        · cbv
          simp only [e0]
          cases b0
          · cbv
            rw [hy4]; simp
          · cbv
            simp only [eso]
            cases so
            · simp only [nf]
              cbv
              rw [hy4]; simp
            · simp only [nt]
              cbv
              rw [hy4, show M .cmp .geq kind 15 = _ from e15]; simp
        · cbv
          rw [hy4, show M .cmp .eql u K = _ from eso]
          cases b0
          · simp
          · simp at b01
