/- ground.Holds. -/
import Derived.Test.YtlgoiaembdlemaaGreatMo4
import Derived.Test.YtlgoiaembdlemaaGreatGr3
import Derived.Test.YtlgoiaembdlemaaGreatGr4
set_option linter.unusedSimpArgs false
set_option linter.unusedVariables false
namespace Go.Pi
open Go
set_option linter.unusedVariables false

theorem c_holds1 (rr rx : List (List PV)) (r x : List Int) (hr : rr = ints r) (hx : rx = ints x) (h64 : r.length ≤ 1000000) (y : Bool) (hy : y = (r == x)) : Call .plain 22 [.list 1 rr, .ref [.list 1 rx]] (B y) := by
  refine call_of Proofs.Tryz.func22 Proofs.Tryz.call22 rfl rfl fun M C hM hC => ?_
  cbv
  refine .mk _ (use_call hC (c_equal rr rx r x hr hx h64 y hy)) ?_
  cbv

set_option maxHeartbeats 4000000 in
theorem c_holds (c : Con) (a : List Int) (kind K : Int) (rA rB rC rD rE rR ra : List (List PV)) (H : ConR c kind rA rB rC rD rE K rR) (ha : ra = ints a) (h64 : a.length ≤ 1000000) (la : lim rA) (lb : lim rB) (lc : lim rC) (ld : lim rD) (le : lim rE) (lr : lim rR) (y : Bool) (hy : y = holdsS c a) :
    Call .plain 7 [.agg [I kind, .list 1 rA, .list 1 rB, .list 1 rC, .list 1 rD, .list 1 rE, I K, .list 1 rR], .list 1 ra] (B y) := by
  have hkd := H.kind
  have hKK := H.K
  have cfar := c_containsFunc0 ra a 16 farS ha h64 (fun v _ => c_far v _ rfl) _ rfl
  obtain ⟨qf, hqf⟩ : ∃ qf, qf = a.any farS := ⟨_, rfl⟩
  rw [← hqf] at cfar
  have lenE : (ra.length : Int) = a.length := by rw [ha]; simp
  refine call_of Proofs.Tryz.func7 Proofs.Tryz.call7 rfl rfl fun M C hM hC => ?_
  cbv
  refine callI hC (c_right c kind K rA rB rC rD rE rR H la lb lc ld le lr _ _ rfl) fun e he => ?_
  have he : e = rightS c a.length := by rw [he]; congr 1; subst hM; exact lenE
  cbv
  split <;> rename_i h <;> (try simp only [h]) <;> (try cbv)
  · have h1 : e ≠ 0 := by subst hM; simpa using h
    rw [hy, holdsS, if_pos (by rw [← he]; simp [h1])]
  · have h1 : e = 0 := by subst hM; simpa using h
    have R := rightS_ok.1 (he.symm.trans h1)
    have ln := R.lens
    refine .mk _ (use_call hC cfar) ?_
    cbv
    cases qf
    · have hy : y = holdsXS c (valuesS a c.A) (valuesS a c.B) := by rw [hy, holdsS, if_neg (by rw [← he, ← hqf, h1]; simp)]
      have bx := values_near hqf.symm c.A
      have lx := values_len a c.A
      have lz := values_len a c.B
      cbv
      have va := c_values rA ra c.A a H.A ha R.varsA (by have := ln.A; omega) _ rfl
      have vb := c_values rB ra c.B a H.B ha R.varsB (by have := ln.B; omega) _ rfl
      obtain ⟨x, hx⟩ : ∃ x, x = valuesS a c.A := ⟨_, rfl⟩
      obtain ⟨z, hz⟩ : ∃ z, z = valuesS a c.B := ⟨_, rfl⟩
      rw [← hx] at va hy bx lx
      rw [← hz] at vb hy lz
      clear hx hz
      refine callL hC va fun rx hrx => ?_
      cbv
      refine callL hC vb fun rz hrz => ?_
      clear va vb
      have eql : ∀ b, M .cmp .eql kind b = (kind == b) := fun b => by subst hM; rfl
      have bd := R.bounds
      have al := R.alike
      have nm := R.named
      have k23 := R.kind
      have dot : ∀ hl, Call .plain 18 [.agg [I kind, .list 1 rA, .list 1 rB, .list 1 rC, .list 1 rD, .list 1 rE, I K, .list 1 rR], .list 1 rx] (I (dotS c.C x)) := fun hl => c_sum kind K rA rB rD rE rR rC rx c.C x H.C hrx hl ln.C bd.1 bx _ rfl
      have lgc : ∀ hk hz1 hx1 hl, Call .plain 19 [.agg [I kind, .list 1 rA, .list 1 rB, .list 1 rC, .list 1 rD, .list 1 rE, I K, .list 1 rR], .list 1 rx, .list 1 rz] (B (logicS kind K c.C x z)) := fun hk hz1 hx1 hl =>
        c_logic kind K rA rB rD rE rR rC rx rz c.C x z H.C hrx hrz hk hz1 hx1 hl ln.C (by rw [lx]; have := ln.A; omega) (by rw [lz]; have := ln.B; omega) bd.1 bx _ rfl
      have ari : ∀ hk hl hl3, Call .plain 29 [.agg [I kind, .list 1 rA, .list 1 rB, .list 1 rC, .list 1 rD, .list 1 rE, I K, .list 1 rR], .list 1 rx] (B (arithS kind c.C x)) := fun hk hl hl3 =>
        c_arith kind K rA rB rD rE rR rC rx c.C x H.C hrx (by have := ln.C; omega) hk hl hl3 bx _ rfl
      have hkr := H.kind
      rcases kinds23 k23 with hk | hk | hk | hk | hk | hk | hk | hk | hk | hk | hk | hk | hk | hk | hk | hk | hk | hk | hk | hk | hk | hk | hk
      · have e : ∀ b, M .cmp .eql kind b = (1 == b) := fun b => by rw [eql, hkd, hk]
        have hy : y = (dotS c.C x == c.K) := by rw [hy]; simp [holdsXS, hk]
        have cs := dot (by rw [lx, alike_lin al (by omega)]; exact Nat.le_refl _)
        clear eql dot lgc ari
        cbv
        repeat (simp only [e]; cbv)
        refine callI hC cs fun n hn => ?_
        cbv
        subst hM
        rw [hy, hKK, hn]; rfl
      · have e : ∀ b, M .cmp .eql kind b = (2 == b) := fun b => by rw [eql, hkd, hk]
        have hy : y = (decide (dotS c.C x ≤ c.K)) := by rw [hy]; simp [holdsXS, hk]
        have cs := dot (by rw [lx, alike_lin al (by omega)]; exact Nat.le_refl _)
        clear eql dot lgc ari
        cbv
        repeat (simp only [e]; cbv)
        refine callI hC cs fun n hn => ?_
        cbv
        subst hM
        rw [hy, hKK, hn]; rfl
      · have e : ∀ b, M .cmp .eql kind b = (3 == b) := fun b => by rw [eql, hkd, hk]
        have hy : y = (dotS c.C x != c.K) := by rw [hy]; simp [holdsXS, hk]
        have cs := dot (by rw [lx, alike_lin al (by omega)]; exact Nat.le_refl _)
        clear eql dot lgc ari
        cbv
        repeat (simp only [e]; cbv)
        refine callI hC cs fun n hn => ?_
        cbv
        subst hM
        rw [hy, hKK, hn]; rfl
      · have e : ∀ b, M .cmp .eql kind b = (4 == b) := fun b => by rw [eql, hkd, hk]
        have n2 := named_is (nm (by omega)).2.1 (by rw [hk]; rfl)
        have n2' : c.B.length = 1 := by rw [n2, hk]; rfl
        have n1 : 1 ≤ c.A.length := by
          have := (nm (by omega)).1
          unfold namedS withinS at this
          rw [hk, show hasB (bs (shapeS 4)) 86 = true from rfl] at this
          simp at this; omega
        have hy : y = logicS kind K c.C x z := by rw [hy, hkd, hKK]; simp [holdsXS, hk]
        have cs := lgc (by omega) (fun _ => by omega) (fun _ => by omega) (fun _ => by rw [lx, alike_lin al (by omega)]; exact Nat.le_refl _)
        clear eql dot lgc ari
        cbv
        repeat (simp only [e]; cbv)
        refine callB hC cs fun q hq => ?_
        cbv
        rw [hy, hq]
      · have e : ∀ b, M .cmp .eql kind b = (5 == b) := fun b => by rw [eql, hkd, hk]
        have n1 := named_is (nm (by omega)).1 (by rw [hk]; rfl)
        have n1' : c.A.length = 3 := by rw [n1, hk]; rfl
        have hy : y = arithS kind c.C x := by rw [hy, hkd]; simp [holdsXS, hk]
        have cs := ari (by omega) (by omega) (by omega)
        clear eql dot lgc ari
        cbv
        repeat (simp only [e]; cbv)
        refine callB hC cs fun q hq => ?_
        cbv
        rw [hy, hq]
      · have e : ∀ b, M .cmp .eql kind b = (6 == b) := fun b => by rw [eql, hkd, hk]
        have n1 := named_is (nm (by omega)).1 (by rw [hk]; rfl)
        have n1' : c.A.length = 3 := by rw [n1, hk]; rfl
        have hy : y = arithS kind c.C x := by rw [hy, hkd]; simp [holdsXS, hk]
        have cs := ari (by omega) (by omega) (by omega)
        clear eql dot lgc ari
        cbv
        repeat (simp only [e]; cbv)
        refine callB hC cs fun q hq => ?_
        cbv
        rw [hy, hq]
      · have e : ∀ b, M .cmp .eql kind b = (7 == b) := fun b => by rw [eql, hkd, hk]
        have n1 := named_is (nm (by omega)).1 (by rw [hk]; rfl)
        have n1' : c.A.length = 3 := by rw [n1, hk]; rfl
        have hy : y = arithS kind c.C x := by rw [hy, hkd]; simp [holdsXS, hk]
        have cs := ari (by omega) (by omega) (by omega)
        clear eql dot lgc ari
        cbv
        repeat (simp only [e]; cbv)
        refine callB hC cs fun q hq => ?_
        cbv
        rw [hy, hq]
      · have e : ∀ b, M .cmp .eql kind b = (8 == b) := fun b => by rw [eql, hkd, hk]
        have n1 := named_is (nm (by omega)).1 (by rw [hk]; rfl)
        have n1' : c.A.length = 2 := by rw [n1, hk]; rfl
        have hy : y = arithS kind c.C x := by rw [hy, hkd]; simp [holdsXS, hk]
        have cs := ari (by omega) (by omega) (by omega)
        clear eql dot lgc ari
        cbv
        repeat (simp only [e]; cbv)
        refine callB hC cs fun q hq => ?_
        cbv
        rw [hy, hq]
      · have e : ∀ b, M .cmp .eql kind b = (9 == b) := fun b => by rw [eql, hkd, hk]
        have n1 := named_is (nm (by omega)).1 (by rw [hk]; rfl)
        have n1' : c.A.length = 3 := by rw [n1, hk]; rfl
        have hy : y = arithS kind c.C x := by rw [hy, hkd]; simp [holdsXS, hk]
        have cs := ari (by omega) (by omega) (by omega)
        clear eql dot lgc ari
        cbv
        repeat (simp only [e]; cbv)
        refine callB hC cs fun q hq => ?_
        cbv
        rw [hy, hq]
      · have e : ∀ b, M .cmp .eql kind b = (10 == b) := fun b => by rw [eql, hkd, hk]
        have n1 := named_is (nm (by omega)).1 (by rw [hk]; rfl)
        have n1' : c.A.length = 3 := by rw [n1, hk]; rfl
        have hy : y = arithS kind c.C x := by rw [hy, hkd]; simp [holdsXS, hk]
        have cs := ari (by omega) (by omega) (by omega)
        clear eql dot lgc ari
        cbv
        repeat (simp only [e]; cbv)
        refine callB hC cs fun q hq => ?_
        cbv
        rw [hy, hq]
      · have e : ∀ b, M .cmp .eql kind b = (11 == b) := fun b => by rw [eql, hkd, hk]
        have n1 := named_is (nm (by omega)).1 (by rw [hk]; rfl)
        have n1' : c.A.length = 2 := by rw [n1, hk]; rfl
        have hy : y = arithS kind c.C x := by rw [hy, hkd]; simp [holdsXS, hk]
        have cs := ari (by omega) (by omega) (by omega)
        clear eql dot lgc ari
        cbv
        repeat (simp only [e]; cbv)
        refine callB hC cs fun q hq => ?_
        cbv
        rw [hy, hq]
      · have e : ∀ b, M .cmp .eql kind b = (12 == b) := fun b => by rw [eql, hkd, hk]
        have hy : y = logicS kind K c.C x z := by rw [hy, hkd, hKK]; simp [holdsXS, hk]
        have cs := lgc (by omega) (fun h => absurd (hkd.trans hk) h) (fun h => absurd (hkd.trans hk) h) (by omega)
        clear eql dot lgc ari
        cbv
        repeat (simp only [e]; cbv)
        refine callB hC cs fun q hq => ?_
        cbv
        rw [hy, hq]
      · have e : ∀ b, M .cmp .eql kind b = (13 == b) := fun b => by rw [eql, hkd, hk]
        have n2 := named_is (nm (by omega)).2.1 (by rw [hk]; rfl)
        have n2' : c.B.length = 1 := by rw [n2, hk]; rfl
        have n1 := named_is (nm (by omega)).1 (by rw [hk]; rfl)
        have n1' : c.A.length = 1 := by rw [n1, hk]; rfl
        have hy : y = logicS kind K c.C x z := by rw [hy, hkd, hKK]; simp [holdsXS, hk]
        have cs := lgc (by omega) (fun _ => by omega) (fun _ => by omega) (fun _ => by rw [lx, alike_lin al (by omega)]; exact Nat.le_refl _)
        clear eql dot lgc ari
        cbv
        repeat (simp only [e]; cbv)
        refine callB hC cs fun q hq => ?_
        cbv
        rw [hy, hq]
      · have e : ∀ b, M .cmp .eql kind b = (14 == b) := fun b => by rw [eql, hkd, hk]
        have n2 := named_is (nm (by omega)).2.1 (by rw [hk]; rfl)
        have n2' : c.B.length = 1 := by rw [n2, hk]; rfl
        have n1 := named_is (nm (by omega)).1 (by rw [hk]; rfl)
        have n1' : c.A.length = 1 := by rw [n1, hk]; rfl
        have hy : y = logicS kind K c.C x z := by rw [hy, hkd, hKK]; simp [holdsXS, hk]
        have cs := lgc (by omega) (fun _ => by omega) (fun _ => by omega) (fun _ => by rw [lx, alike_lin al (by omega)]; exact Nat.le_refl _)
        clear eql dot lgc ari
        cbv
        repeat (simp only [e]; cbv)
        refine callB hC cs fun q hq => ?_
        cbv
        rw [hy, hq]
      · have e : ∀ b, M .cmp .eql kind b = (15 == b) := fun b => by rw [eql, hkd, hk]
        have n2 := named_is (nm (by omega)).2.1 (by rw [hk]; rfl)
        have n2' : c.B.length = 1 := by rw [n2, hk]; rfl
        have n1 := named_is (nm (by omega)).1 (by rw [hk]; rfl)
        have n1' : c.A.length = 1 := by rw [n1, hk]; rfl
        have hy : y = logicS kind K c.C x z := by rw [hy, hkd, hKK]; simp [holdsXS, hk]
        have cs := lgc (by omega) (fun _ => by omega) (fun _ => by omega) (fun _ => by rw [lx, alike_lin al (by omega)]; exact Nat.le_refl _)
        clear eql dot lgc ari
        cbv
        repeat (simp only [e]; cbv)
        refine callB hC cs fun q hq => ?_
        cbv
        rw [hy, hq]
      · have e : ∀ b, M .cmp .eql kind b = (16 == b) := fun b => by rw [eql, hkd, hk]
        have n2 := named_is (nm (by omega)).2.1 (by rw [hk]; rfl)
        have n2' : c.B.length = 1 := by rw [n2, hk]; rfl
        have n1 := named_is (nm (by omega)).1 (by rw [hk]; rfl)
        have n1' : c.A.length = 1 := by rw [n1, hk]; rfl
        have hy : y = logicS kind K c.C x z := by rw [hy, hkd, hKK]; simp [holdsXS, hk]
        have cs := lgc (by omega) (fun _ => by omega) (fun _ => by omega) (fun _ => by rw [lx, alike_lin al (by omega)]; exact Nat.le_refl _)
        clear eql dot lgc ari
        cbv
        repeat (simp only [e]; cbv)
        refine callB hC cs fun q hq => ?_
        cbv
        rw [hy, hq]
      · have e : ∀ b, M .cmp .eql kind b = (17 == b) := fun b => by rw [eql, hkd, hk]
        have hy : y = (apartS x) := by rw [hy]; simp [holdsXS, hk]
        have cs := c_apart rx x hrx (by rw [lx]; have := ln.A; omega) _ rfl
        clear eql dot lgc ari
        cbv
        repeat (simp only [e]; cbv)
        refine callB hC cs fun q hq => ?_
        cbv
        rw [hy, hq]
      · have e : ∀ b, M .cmp .eql kind b = (18 == b) := fun b => by rw [eql, hkd, hk]
        have hy : y = (c.R.any fun r => r == x) := by rw [hy]; simp [holdsXS, hk]
        have cs := c_containsFuncR rR c.R 22 [.list 1 rx] (fun r => r == x) H.R (by have := ln.R; omega) (fun v hv r hr => c_holds1 r rx v x hr hrx (by rw [alike_rows al ln.rows v hv]; have := ln.A; omega) _ rfl) _ rfl
        clear eql dot lgc ari
        cbv
        repeat (simp only [e]; cbv)
        refine callB hC cs fun q hq => ?_
        cbv
        rw [hy, hq]
      · have e : ∀ b, M .cmp .eql kind b = (19 == b) := fun b => by rw [eql, hkd, hk]
        have hy : y = (fitsS x c.C c.D c.K) := by rw [hy]; simp [holdsXS, hk]
        have cs := c_fits kind K rA rB rE rR rC rD rx c.C c.D x H.C H.D hrx (by have := alike_cumul al hk; omega) (by have := alike_cumul al hk; omega) (by rw [lx]; exact ln.A) bd.1 bd.2.1 bx _ rfl
        clear eql dot lgc ari
        cbv
        repeat (simp only [e]; cbv)
        refine callB hC cs fun q hq => ?_
        cbv
        rw [hy, hq]; rw [hKK]
      · have e : ∀ b, M .cmp .eql kind b = (20 == b) := fun b => by rw [eql, hkd, hk]
        have hy : y = (roundS x x.length 1 1) := by rw [hy]; simp [holdsXS, hk]
        have cs := c_round rx x hrx (by rw [lx]; have := ln.A; omega) _ rfl
        clear eql dot lgc ari
        cbv
        repeat (simp only [e]; cbv)
        refine callB hC cs fun q hq => ?_
        cbv
        rw [hy, hq]
      · have e : ∀ b, M .cmp .eql kind b = (21 == b) := fun b => by rw [eql, hkd, hk]
        have hy : y = (countedS x c.C c.D c.E) := by rw [hy]; simp [holdsXS, hk]
        have cs := c_counted kind K rA rB rR rC rD rE rx c.C c.D c.E x H.C H.D H.E hrx (by have := alike_gcc al hk; omega) (by have := alike_gcc al hk; omega) (by rw [lx]; have := ln.A; omega) (by have := ln.C; omega) _ rfl
        clear eql dot lgc ari
        cbv
        repeat (simp only [e]; cbv)
        refine callB hC cs fun q hq => ?_
        cbv
        rw [hy, hq]
      · have e : ∀ b, M .cmp .eql kind b = (22 == b) := fun b => by rw [eql, hkd, hk]
        have hy : y = decide (compareS x z ≤ 0) := by rw [hy]; simp [holdsXS, hk]
        have cs := c_compare rx rz x z hrx hrz (by rw [lx]; have := ln.A; omega) _ rfl
        clear eql dot lgc ari
        cbv
        repeat (simp only [e]; cbv)
        refine callI hC cs fun n hn => ?_
        cbv
        subst hM
        rw [hy, hn]; rfl
      · have e : ∀ b, M .cmp .eql kind b = (23 == b) := fun b => by rw [eql, hkd, hk]
        have hy : y = (inverseS x z) := by rw [hy]; simp [holdsXS, hk]
        have cs := c_inverse rx rz x z hrx hrz (by rw [lx]; have := ln.A; omega) (by rw [lz]; have := ln.B; omega) _ rfl
        clear eql dot lgc ari
        cbv
        repeat (simp only [e]; cbv)
        refine callB hC cs fun q hq => ?_
        cbv
        rw [hy, hq]
    · cbv
      rw [hy, holdsS, if_pos (by rw [← hqf]; simp)]
