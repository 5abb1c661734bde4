/- Package model: the kinds' forms. -/
import Derived.Test.YtlgoiaembdlemaaGreatDoorMSl1ToSt1
import Derived.Test.YtlgoiaembdlemaaGreatDoorPic
set_option linter.unusedSimpArgs false
set_option linter.unusedVariables false

/- Package model: the kinds' forms. -/
namespace Go.Pi
open Go
set_option linter.unusedVariables false

theorem c_within (n a b : Int) (y : Bool) (hy : y = withinS n a b) : Call .plain 147 [I n, I a, I b] (B y) := by
  refine call_of Proofs.Tryz.func147 Proofs.Tryz.call147 rfl rfl fun M C hM hC => ?_
  cbv
  repeat' (split <;> rename_i h <;> (try simp only [h]) <;> (try cbv))
  all_goals (subst hM; rw [hy]; unfold withinS; simp_all)
  all_goals omega

theorem c_forms (r : List (List PV)) (hr : r = formsPV) : Call .plain 152 [] (.list 2 r) := by
  refine call_of Proofs.Tryz.func152 Proofs.Tryz.call152 rfl rfl fun M C hM hC => ?_
  cbv
  exact ⟨hr.symm, trivial⟩

theorem c_word (k : Int) (w : ByteArray) (ok : Bool) (hw : w = bs (wordS k)) (hok : ok = decide (1 ≤ k ∧ k ≤ 23)) : Call .plain 79 [I k] (.tup [Str w, B ok]) := by
  have hf : ∃ r, r = formsPV := ⟨_, rfl⟩
  obtain ⟨r, hr⟩ := hf
  have cf := c_forms r hr
  have hlen : r.length = 23 := by rw [hr]; rfl
  refine call_of Proofs.Tryz.func79 Proofs.Tryz.call79 rfl rfl fun M C hM hC => ?_
  cbv
  split <;> rename_i h <;> (try simp only [h]) <;> (try cbv)
  · have h1 : k < 1 := by subst hM; simpa using h
    have e : ¬ (1 ≤ k ∧ k ≤ 23) := by omega
    rw [hw, hok]
    simp [e, wordS, bs]
  · have h1 : ¬ k < 1 := by subst hM; simp at h; omega
    refine .mk _ (use_call hC cf) ?_
    cbv
    split <;> rename_i h <;> (try simp only [h]) <;> (try cbv)
    · have h2 : k > 23 := by subst hM; simpa [hlen] using h
      have e : ¬ (1 ≤ k ∧ k ≤ 23) := by omega
      rw [hw, hok]
      simp [e, wordS, bs]
    · have h2 : ¬ k > 23 := by subst hM; simp [hlen] at h; omega
      refine .mk _ (use_call hC cf) ?_
      cbv
      have e1 : M .arith .sub .i64 k 1 = k - 1 := by subst hM; simp; rw [wrap_i64 (by omega) (by omega)]
      have e2 : (k - 1).toNat + 1 = k := by omega
      have hg := forms_get (k - 1).toNat (by omega)
      rw [show (((k - 1).toNat : Nat) : Int) + 1 = k from by omega] at hg
      generalize hz : Str (bs (shapeS k)) = z at hg
      have hg : formsPV[(k - 1).toNat]? = some [Str w, z] := by rw [hg, hw]
      refine .mk [Str w, z] (by rw [e1]; omega) (by rw [e1, hr]; exact hg) ?_
      cbv
      have e : (1 ≤ k ∧ k ≤ 23) := by omega
      simp [hok, e]

theorem c_shape (k : Int) (w : ByteArray) (hw : w = bs (shapeS k)) : Call .plain 81 [I k] (Str w) := by
  have hf : ∃ r, r = formsPV := ⟨_, rfl⟩
  obtain ⟨r, hr⟩ := hf
  have cf := c_forms r hr
  obtain ⟨u, hu⟩ : ∃ u, u = bs (wordS k) := ⟨_, rfl⟩
  obtain ⟨ok, hok⟩ : ∃ ok, ok = decide (1 ≤ k ∧ k ≤ 23) := ⟨_, rfl⟩
  have cw := c_word k u ok hu hok
  refine call_of Proofs.Tryz.func81 Proofs.Tryz.call81 rfl rfl fun M C hM hC => ?_
  cbv
  refine .mk _ (use_call hC cw) ?_
  cbv
  have hn : M .not ok = !ok := by subst hM; rfl
  cases ok
  · have e : ¬ (1 ≤ k ∧ k ≤ 23) := by simpa using hok
    have hn : M .not false = true := by subst hM; rfl
    simp only [hn]
    cbv
    rw [hw]
    simp [e, shapeS, bs]
  · have e : (1 ≤ k ∧ k ≤ 23) := by simpa using hok
    have hn : M .not true = false := by subst hM; rfl
    simp only [hn]
    cbv
    refine .mk _ (use_call hC cf) ?_
    cbv
    have e1 : M .arith .sub .i64 k 1 = k - 1 := by subst hM; simp; rw [wrap_i64 (by omega) (by omega)]
    have hg := forms_get (k - 1).toNat (by omega)
    rw [show (((k - 1).toNat : Nat) : Int) + 1 = k from by omega] at hg
    generalize hz : Str (bs (wordS k)) = z at hg
    have hg : formsPV[(k - 1).toNat]? = some [z, Str w] := by rw [hg, hw]
    refine .mk [z, Str w] (by rw [e1]; omega) (by rw [e1, hr]; exact hg) ?_
    cbv
end Go.Pi

/- Package model: how long lists must be. -/
namespace Go.Pi
open Go
set_option linter.unusedVariables false

theorem c_named (n : Int) (shape : ByteArray) (one all : UInt8) (y : Bool) (hy : y = namedS n shape one all) : Call .plain 204 [I n, Str shape, Str ⟨⟨[one]⟩⟩, Str ⟨⟨[all]⟩⟩] (B y) := by
  refine call_of Proofs.Tryz.func204 Proofs.Tryz.call204 rfl rfl fun M C hM hC => ?_
  cbv
  refine callB hC (c_strContains shape all _ rfl) fun q hq => ?_
  cbv
  cases q
  · cbv
    refine callI hC (c_strCount shape one _ rfl) fun k hk => ?_
    cbv
    subst hM
    rw [hy, namedS, ← hq, hk, real_eql]; rfl
  · cbv
    refine callB hC (c_within n 1 64 _ rfl) fun z hz => ?_
    cbv
    rw [hy, hz, namedS, ← hq]; rfl

def lim (l : List (List PV)) : Prop := l.length ≤ 1099511627776
theorem c_mcounted (kind K : Int) (A B' C' D E R : List (List PV)) (shape : ByteArray) (ha : lim A) (hb : lim B') (hc : lim C') (hd : lim D) (he : lim E) (hr : lim R) (y : Bool) (hy : y = mcountedS kind A.length B'.length C'.length D.length E.length R.length shape) :
    Call .plain 139 [.agg [I kind, .list 1 A, .list 1 B', .list 1 C', .list 1 D, .list 1 E, I K, .list 1 R], Str shape] (B y) := by
  refine call_of Proofs.Tryz.func139 Proofs.Tryz.call139 rfl rfl fun M C hM hC => ?_
  by_cases hk : kind = 12
  · have hk1 : M .cmp .eql kind 12 = true := by subst hM; rw [hk]; rfl
    cbv
    simp only [hk1]
    cbv
    refine callB hC (c_within _ _ _ _ rfl) fun z hz => ?_
    have e0 : ∀ z1 z2 : Bool, z1 = decide ((if (B'.length : Int) > A.length then (B'.length : Int) else A.length) ≤ 64) → z2 = ((C'.length : Int) + D.length + E.length + R.length == 0) → y = (z && z1 && z2) := fun z1 z2 h1 h2 => by
      unfold lim at *
      rw [hy, mcountedS, if_pos hk, h1, h2, hz]
      subst hM
      have e1 : Real .arith .add .i64 (Int.ofNat (Real .len A)) (Int.ofNat (Real .len B')) = (A.length : Int) + B'.length := wrap_i64 (x := (A.length : Int) + B'.length) (by omega) (by omega)
      rw [e1]
    clear hy hz
    cbv
    cases z
    · cbv
      rw [e0 _ _ rfl rfl]; simp
    · cbv
      generalize hz1 : M .cmp .leq _ 64 = z1
      have hz1 : z1 = decide ((if (B'.length : Int) > A.length then (B'.length : Int) else A.length) ≤ 64) := by rw [← hz1]; subst hM; rfl
      cases z1
      · cbv
        rw [e0 _ _ hz1 rfl]; simp
      · cbv
        rw [e0 _ _ hz1 rfl]
        unfold lim at *
        subst hM
        show PV.v (Value.bool (IntKind.i64.wrap (IntKind.i64.wrap (IntKind.i64.wrap ((C'.length : Int) + D.length) + E.length) + R.length) == 0)) = _
        rw [wrap_i64 (x := (C'.length : Int) + D.length) (by omega) (by omega), wrap_i64 (x := (C'.length : Int) + D.length + E.length) (by omega) (by omega), wrap_i64 (by omega) (by omega)]
        rfl
  · have hk1 : M .cmp .eql kind 12 = false := by subst hM; simpa using hk
    have e0 : ∀ q z0, q = hasB shape 114 → (z0 = if q then withinS R.length 1 1024 else (R.length : Int) == 0) → y = (z0 && namedS A.length shape 118 86 && namedS B'.length shape 119 87 && namedS C'.length shape 45 99 && namedS D.length shape 45 100 && namedS E.length shape 45 101) := fun q z0 h1 h2 => by
      rw [hy, mcountedS, if_neg hk, h2, h1]
    clear hy
    cbv
    simp only [hk1]
    cbv
    generalize hr0 : M .cmp .eql _ 0 = r0
    have hr0 : r0 = ((R.length : Int) == 0) := by rw [← hr0]; subst hM; rfl
    refine callB hC (c_strContains shape 114 _ rfl) fun q hq => ?_
    have e1 := fun z0 => e0 q z0 hq
    clear e0
    cbv
    cases q
    · have e2 := e1 r0 hr0
      clear e1 hr0
      cbv
      cases r0
      · cbv
        rw [e2]; simp
      · cbv
        refine callB hC (c_named _ _ _ _ _ rfl) fun z1 hz1 => ?_
        have hz1 : z1 = namedS A.length shape 118 86 := by rw [hz1]; subst hM; rfl
        rw [← hz1] at e2
        clear hz1
        cbv
        cases z1
        · cbv
          rw [e2]; simp
        · cbv
          refine callB hC (c_named _ _ _ _ _ rfl) fun z2 hz2 => ?_
          have hz2 : z2 = namedS B'.length shape 119 87 := by rw [hz2]; subst hM; rfl
          rw [← hz2] at e2
          clear hz2
          cbv
          cases z2
          · cbv
            rw [e2]; simp
          · cbv
            refine callB hC (c_named _ _ _ _ _ rfl) fun z3 hz3 => ?_
            have hz3 : z3 = namedS C'.length shape 45 99 := by rw [hz3]; subst hM; rfl
            rw [← hz3] at e2
            clear hz3
            cbv
            cases z3
            · cbv
              rw [e2]; simp
            · cbv
              refine callB hC (c_named _ _ _ _ _ rfl) fun z4 hz4 => ?_
              have hz4 : z4 = namedS D.length shape 45 100 := by rw [hz4]; subst hM; rfl
              rw [← hz4] at e2
              clear hz4
              cbv
              cases z4
              · cbv
                rw [e2]; simp
              · cbv
                refine callB hC (c_named _ _ _ _ _ rfl) fun z5 hz5 => ?_
                have hz5 : z5 = namedS E.length shape 45 101 := by rw [hz5]; subst hM; rfl
                rw [← hz5] at e2
                clear hz5
                cbv
                rw [e2]; simp
    · cbv
      refine callB hC (c_within _ _ _ _ rfl) fun z0 hz0 => ?_
      have e2 := e1 z0 (by rw [hz0]; subst hM; rfl)
      clear e1 hz0 hr0
      revert e2
      generalize z0 = r0
      intro e2
      cbv
      cases r0
      · cbv
        rw [e2]; simp
      · cbv
        refine callB hC (c_named _ _ _ _ _ rfl) fun z1 hz1 => ?_
        have hz1 : z1 = namedS A.length shape 118 86 := by rw [hz1]; subst hM; rfl
        rw [← hz1] at e2
        clear hz1
        cbv
        cases z1
        · cbv
          rw [e2]; simp
        · cbv
          refine callB hC (c_named _ _ _ _ _ rfl) fun z2 hz2 => ?_
          have hz2 : z2 = namedS B'.length shape 119 87 := by rw [hz2]; subst hM; rfl
          rw [← hz2] at e2
          clear hz2
          cbv
          cases z2
          · cbv
            rw [e2]; simp
          · cbv
            refine callB hC (c_named _ _ _ _ _ rfl) fun z3 hz3 => ?_
            have hz3 : z3 = namedS C'.length shape 45 99 := by rw [hz3]; subst hM; rfl
            rw [← hz3] at e2
            clear hz3
            cbv
            cases z3
            · cbv
              rw [e2]; simp
            · cbv
              refine callB hC (c_named _ _ _ _ _ rfl) fun z4 hz4 => ?_
              have hz4 : z4 = namedS D.length shape 45 100 := by rw [hz4]; subst hM; rfl
              rw [← hz4] at e2
              clear hz4
              cbv
              cases z4
              · cbv
                rw [e2]; simp
              · cbv
                refine callB hC (c_named _ _ _ _ _ rfl) fun z5 hz5 => ?_
                have hz5 : z5 = namedS E.length shape 45 101 := by rw [hz5]; subst hM; rfl
                rw [← hz5] at e2
                clear hz5
                cbv
                rw [e2]; simp
end Go.Pi

/- Package model: are lists alike; are numbers within their bounds. -/
namespace Go.Pi
open Go
set_option linter.unusedVariables false

theorem c_alike1 (kind K : Int) (rA rB rC rD rE rR r : List (List PV)) (y : Bool) (hy : y = (r.length != rA.length)) : Call .plain 205 [.list 1 r, .ref [I kind, .list 1 rA, .list 1 rB, .list 1 rC, .list 1 rD, .list 1 rE, I K, .list 1 rR]] (B y) := by
  refine call_of Proofs.Tryz.func205 Proofs.Tryz.call205 rfl rfl fun M C hM hC => ?_
  cbv
  subst hM
  rw [hy]
  show PV.v (Value.bool ((r.length : Int) != (rA.length : Int))) = _
  congr 2
  rw [Bool.eq_iff_iff]; simp; omega

theorem alike_rest {c : Con} (h1 : ¬ c.kind = 1) (h2 : ¬ c.kind = 2) (h3 : ¬ c.kind = 3) (h4 : ¬ c.kind = 4) : alikeS c =
    if c.kind = 19 then c.C.length == c.A.length && c.D.length == c.A.length
  else if c.kind = 21 then c.D.length == c.C.length && c.E.length == c.C.length
  else if c.kind = 22 ∨ c.kind = 23 then c.B.length == c.A.length
  else if c.kind = 18 then !(c.R.any fun r => r.length != c.A.length)
  else true := by
  unfold alikeS; rw [if_neg (by omega)]
theorem beq_cast (a b : Nat) : ((a : Int) == (b : Int)) = (a == b) := by rw [Bool.eq_iff_iff]; simp; omega

theorem c_alike (c : Con) (kind K : Int) (rA rB rC rD rE rR : List (List PV)) (H : ConR c kind rA rB rC rD rE K rR) (h64 : c.kind = 18 → c.R.length ≤ 1000000) (y : Bool) (hy : y = alikeS c) :
    Call .plain 140 [.agg [I kind, .list 1 rA, .list 1 rB, .list 1 rC, .list 1 rD, .list 1 rE, I K, .list 1 rR]] (B y) := by
  have ha : rA.length = c.A.length := by rw [H.A]; simp
  have hb : rB.length = c.B.length := by rw [H.B]; simp
  have hc : rC.length = c.C.length := by rw [H.C]; simp
  have hd : rD.length = c.D.length := by rw [H.D]; simp
  have he : rE.length = c.E.length := by rw [H.E]; simp
  have hkd := H.kind
  refine call_of Proofs.Tryz.func140 Proofs.Tryz.call140 rfl rfl fun M C hM hC => ?_
  have eql : ∀ a b, M .cmp .eql a b = (a == b) := fun a b => by subst hM; rfl
  have leq : ∀ a b : List (List PV), M .cmp .eql (Int.ofNat (M .len a)) (Int.ofNat (M .len b)) = (a.length == b.length) := fun a b => by subst hM; exact beq_cast _ _
  by_cases hk : kind = 18
  · have y18 : y = !(c.R.any fun r => r.length != c.A.length) := by rw [hy, alike_rest (by omega) (by omega) (by omega) (by omega), if_neg (by omega), if_neg (by omega), if_neg (by omega), if_pos (by omega)]
    have cf := c_containsFuncR rR c.R 205 [I kind, .list 1 rA, .list 1 rB, .list 1 rC, .list 1 rD, .list 1 rE, I K, .list 1 rR] (fun r => r.length != c.A.length) H.R (h64 (by omega)) (fun v _ r hr => c_alike1 kind K rA rB rC rD rE rR r _ (by rw [hr, ha]; simp)) _ rfl
    have e : ∀ b, M .cmp .eql kind b = (18 == b) := fun b => by rw [eql, hk]
    clear eql leq hy
    generalize hq : (c.R.any fun r => r.length != c.A.length) = q at cf y18
    cbv
    repeat (simp only [e]; cbv)
    refine callB hC cf fun z hz => ?_
    cbv
    subst hM
    rw [y18, real_not, hz]
  · have y0 : kind = 1 ∨ kind = 2 ∨ kind = 3 ∨ kind = 4 → y = (rC.length == rA.length) := fun h => by
      rw [hy, alikeS, if_pos (by omega), ha, hc]
    have y19 : kind = 19 → y = (rC.length == rA.length && rD.length == rA.length) := fun h => by
      rw [hy, alike_rest (by omega) (by omega) (by omega) (by omega), if_pos (by omega), ha, hc, hd]
    have y21 : kind = 21 → y = (rD.length == rC.length && rE.length == rC.length) := fun h => by
      rw [hy, alike_rest (by omega) (by omega) (by omega) (by omega), if_neg (by omega), if_pos (by omega), he, hc, hd]
    have y22 : kind = 22 ∨ kind = 23 → y = (rB.length == rA.length) := fun h => by
      rw [hy, alike_rest (by omega) (by omega) (by omega) (by omega), if_neg (by omega), if_neg (by omega), if_pos (by omega), ha, hb]
    have yn : (¬ kind = 1 ∧ ¬ kind = 2 ∧ ¬ kind = 3 ∧ ¬ kind = 4 ∧ ¬ kind = 19 ∧ ¬ kind = 21 ∧ ¬ kind = 22 ∧ ¬ kind = 23) → y = true := fun h => by
      rw [hy, alike_rest (by omega) (by omega) (by omega) (by omega), if_neg (by omega), if_neg (by omega), if_neg (by omega), if_neg (by omega)]
    by_cases h1 : kind = 1
    · have e : ∀ b, M .cmp .eql kind b = (1 == b) := fun b => by rw [eql, h1]
      have y1 := y0 (by omega)
      clear eql leq hy y0 y19 y21 y22 yn
      cbv
      repeat (simp only [e]; cbv)
      rw [y1]
      subst hM
      show PV.v (Value.bool ((rC.length : Int) == (rA.length : Int))) = _
      rw [beq_cast]
    by_cases h2 : kind = 2
    · have e : ∀ b, M .cmp .eql kind b = (2 == b) := fun b => by rw [eql, h2]
      have y1 := y0 (by omega)
      clear eql leq hy y0 y19 y21 y22 yn
      cbv
      repeat (simp only [e]; cbv)
      rw [y1]
      subst hM
      show PV.v (Value.bool ((rC.length : Int) == (rA.length : Int))) = _
      rw [beq_cast]
    by_cases h3 : kind = 3
    · have e : ∀ b, M .cmp .eql kind b = (3 == b) := fun b => by rw [eql, h3]
      have y1 := y0 (by omega)
      clear eql leq hy y0 y19 y21 y22 yn
      cbv
      repeat (simp only [e]; cbv)
      rw [y1]
      subst hM
      show PV.v (Value.bool ((rC.length : Int) == (rA.length : Int))) = _
      rw [beq_cast]
    by_cases h4 : kind = 4
    · have e : ∀ b, M .cmp .eql kind b = (4 == b) := fun b => by rw [eql, h4]
      have y1 := y0 (by omega)
      clear eql leq hy y0 y19 y21 y22 yn
      cbv
      repeat (simp only [e]; cbv)
      rw [y1]
      subst hM
      show PV.v (Value.bool ((rC.length : Int) == (rA.length : Int))) = _
      rw [beq_cast]
    by_cases h19 : kind = 19
    · have e : ∀ b, M .cmp .eql kind b = (19 == b) := fun b => by rw [eql, h19]
      have y1 := y19 h19
      clear eql leq hy y0 y19 y21 y22 yn
      cbv
      repeat (simp only [e]; cbv)
      generalize hz : M .cmp .eql (Int.ofNat (M .len rC)) (Int.ofNat (M .len rA)) = z1
      have hz1 : z1 = (rC.length == rA.length) := by rw [← hz]; subst hM; exact beq_cast _ _
      rw [← hz1] at y1
      clear hz hz1
      cases z1
      · cbv
        rw [y1]; simp
      · cbv
        rw [y1]
        subst hM
        show PV.v (Value.bool ((rD.length : Int) == (rA.length : Int))) = _
        rw [beq_cast]; simp
    by_cases h21 : kind = 21
    · have e : ∀ b, M .cmp .eql kind b = (21 == b) := fun b => by rw [eql, h21]
      have y1 := y21 h21
      clear eql leq hy y0 y19 y21 y22 yn
      cbv
      repeat (simp only [e]; cbv)
      generalize hz : M .cmp .eql (Int.ofNat (M .len rD)) (Int.ofNat (M .len rC)) = z1
      have hz1 : z1 = (rD.length == rC.length) := by rw [← hz]; subst hM; exact beq_cast _ _
      rw [← hz1] at y1
      clear hz hz1
      cases z1
      · cbv
        rw [y1]; simp
      · cbv
        rw [y1]
        subst hM
        show PV.v (Value.bool ((rE.length : Int) == (rC.length : Int))) = _
        rw [beq_cast]; simp
    by_cases h22 : kind = 22
    · have e : ∀ b, M .cmp .eql kind b = (22 == b) := fun b => by rw [eql, h22]
      have y1 := y22 (by omega)
      clear eql leq hy y0 y19 y21 y22 yn
      cbv
      repeat (simp only [e]; cbv)
      rw [y1]
      subst hM
      show PV.v (Value.bool ((rB.length : Int) == (rA.length : Int))) = _
      rw [beq_cast]
    by_cases h23 : kind = 23
    · have e : ∀ b, M .cmp .eql kind b = (23 == b) := fun b => by rw [eql, h23]
      have y1 := y22 (by omega)
      clear eql leq hy y0 y19 y21 y22 yn
      cbv
      repeat (simp only [e]; cbv)
      rw [y1]
      subst hM
      show PV.v (Value.bool ((rB.length : Int) == (rA.length : Int))) = _
      rw [beq_cast]
    have K : ∀ b : Int, b = 1 ∨ b = 2 ∨ b = 3 ∨ b = 4 ∨ b = 19 ∨ b = 21 ∨ b = 22 ∨ b = 23 ∨ b = 18 → M .cmp .eql kind b = false := fun b hb => by
      rw [eql]; simp; omega
    have K1 := K 1 (by omega)
    have K2 := K 2 (by omega)
    have K3 := K 3 (by omega)
    have K4 := K 4 (by omega)
    have K19 := K 19 (by omega)
    have K21 := K 21 (by omega)
    have K22 := K 22 (by omega)
    have K23 := K 23 (by omega)
    have K18 := K 18 (by omega)
    have y1 := yn (by omega)
    clear eql leq hy y0 y19 y21 y22 yn K
    cbv
    repeat (simp only [K1, K2, K3, K4, K19, K21, K22, K23, K18]; cbv)
    rw [y1]

theorem c_bounded1 (v least : Int) (y : Bool) (hy : y = (decide (v < least) || decide (v > 1000000))) : Call .plain 243 [I v, .ref [I least]] (B y) := by
  refine call_of Proofs.Tryz.func243 Proofs.Tryz.call243 rfl rfl fun M C hM hC => ?_
  have hy : ∃ a b, a = M .cmp .lss v least ∧ b = M .cmp .gtr v 1000000 ∧ y = (a || b) := ⟨_, _, rfl, rfl, by subst hM; exact hy⟩
  obtain ⟨a, b, ha, hb, hy⟩ := hy
  cbv
  rw [← ha]
  cases a
  · cbv
    rw [hy, hb]; simp
  · cbv
    rw [hy]; simp
theorem c_bounded (rl : List (List PV)) (l : List Int) (least : Int) (hl : rl = ints l) (h64 : l.length ≤ 1000000) (y : Bool) (hy : y = boundedS l least) : Call .plain 209 [.list 1 rl, I least] (B y) := by
  have cf := c_containsFunc1 rl l 243 [I least] (fun v => decide (v < least) || decide (v > 1000000)) hl h64 (fun v _ => c_bounded1 v least _ rfl) _ rfl
  have hy : y = !(l.any fun v => decide (v < least) || decide (v > 1000000)) := hy
  generalize (l.any fun v => decide (v < least) || decide (v > 1000000)) = q at cf hy
  refine call_of Proofs.Tryz.func209 Proofs.Tryz.call209 rfl rfl fun M C hM hC => ?_
  cbv
  refine callB hC cf fun z hz => ?_
  cbv
  subst hM
  rw [hy, hz, real_not]

theorem numbers_rest {c : Con} (hr : ∀ i, i < c.R.length → boundedS (c.R.getD i []) (lowS c.kind) = true) : numbersS c = (boundedS c.C (lowS c.kind) && boundedS c.D (secondS c.kind) && boundedS c.E (secondS c.kind) && decide (c.K ≥ leastK c.kind) && decide (c.K ≤ 9999999999)) := by
  unfold numbersS
  have : (c.R.all fun r => boundedS r (lowS c.kind)) = true := by
    rw [List.all_eq_true]
    intro r hr'
    obtain ⟨i, hi, rfl⟩ := List.mem_iff_getElem.1 hr'
    have := hr i hi
    simpa [List.getD_eq_getElem?_getD, hi] using this
  rw [this, Bool.true_and]
theorem numbers_no {c : Con} {i : Nat} (hi : i < c.R.length) (h : boundedS (c.R.getD i []) (lowS c.kind) = false) : numbersS c = false := by
  unfold numbersS
  have : (c.R.all fun r => boundedS r (lowS c.kind)) = false := by
    rw [List.all_eq_false]
    exact ⟨_, getD_mem [] hi, by rw [h]; simp⟩
  rw [this, Bool.false_and]
theorem c_mnumbers (c : Con) (kind K : Int) (rA rB rC rD rE rR : List (List PV)) (H : ConR c kind rA rB rC rD rE K rR) (hC64 : c.C.length ≤ 1000000) (hD64 : c.D.length ≤ 1000000) (hE64 : c.E.length ≤ 1000000) (hR64 : c.R.length ≤ 1000000) (hRr : ∀ r ∈ c.R, r.length ≤ 1000000) (y : Bool) (hy : y = numbersS c) :
    Call .plain 145 [.agg [I kind, .list 1 rA, .list 1 rB, .list 1 rC, .list 1 rD, .list 1 rE, I K, .list 1 rR]] (B y) := by
  have hkd := H.kind
  have hRR := H.R
  have hCC := H.C
  have hDD := H.D
  have hEE := H.E
  have hKK := H.K
  refine call_of Proofs.Tryz.func145 Proofs.Tryz.call145 rfl rfl fun M C hM hC => ?_
  have eql : ∀ a b, M .cmp .eql a b = (a == b) := fun a b => by subst hM; rfl
  have cases3 : (kind = 19 ∧ M .cmp .eql kind 19 = true ∧ lowS c.kind = 0 ∧ secondS c.kind = 0 ∧ leastK c.kind = 0) ∨
      (M .cmp .eql kind 19 = false ∧ M .cmp .eql kind 21 = true ∧ lowS c.kind = -1000000 ∧ secondS c.kind = 0 ∧ leastK c.kind = -9999999999) ∨
      (M .cmp .eql kind 19 = false ∧ M .cmp .eql kind 21 = false ∧ lowS c.kind = -1000000 ∧ secondS c.kind = -1000000 ∧ leastK c.kind = -9999999999) := by
    by_cases h19 : kind = 19
    · exact .inl ⟨h19, by rw [eql, h19]; rfl, by rw [lowS, if_pos (by omega)], by rw [secondS, if_pos (by omega)], by rw [leastK, if_pos (by omega)]⟩
    · by_cases h21 : kind = 21
      · exact .inr (.inl ⟨by rw [eql]; simpa using h19, by rw [eql, h21]; rfl, by rw [lowS, if_neg (by omega)], by rw [secondS, if_pos (by omega)], by rw [leastK, if_neg (by omega)]⟩)
      · exact .inr (.inr ⟨by rw [eql]; simpa using h19, by rw [eql]; simpa using h21, by rw [lowS, if_neg (by omega)], by rw [secondS, if_neg (by omega)], by rw [leastK, if_neg (by omega)]⟩)
  clear eql
  rcases cases3 with ⟨_, K19, hlow, hsec, hlk⟩ | ⟨K19, K21, hlow, hsec, hlk⟩ | ⟨K19, K21, hlow, hsec, hlk⟩
  all_goals (
    have yn : ∀ i, i < c.R.length → boundedS (c.R.getD i []) (lowS c.kind) = false → y = false := fun i hi h => hy.trans (numbers_no hi h)
    have yy : (∀ i, i < c.R.length → boundedS (c.R.getD i []) (lowS c.kind) = true) → y = (boundedS c.C (lowS c.kind) && boundedS c.D (secondS c.kind) && boundedS c.E (secondS c.kind) && decide (c.K ≥ leastK c.kind) && decide (c.K ≤ 9999999999)) := fun h => hy.trans (numbers_rest h)
    clear hy
    cbv
    simp only [K19]
    cbv
    try (simp only [K21]; cbv)
    refine Loop.over Nat (fun q => [(.t 17, I q)]) 1 (fun q => c.R.length - q) (fun q => q ≤ c.R.length ∧ ∀ i, i < q → boundedS (c.R.getD i []) (lowS c.kind) = true) 0 ⟨Nat.zero_le _, by omega⟩ (by (cbv; repeat' (first | exact True.intro | exact rfl | apply And.intro))) ?_
    rintro j ⟨hj, hn⟩
    cbv
    split <;> rename_i h <;> (try simp only [h]) <;> (try cbv)
    · have hlt : j < c.R.length := by subst hM; simpa [hRR] using h
      refine nidx_rows hRR hlt fun r hr => ?_
      cbv
      refine callB hC (c_bounded r _ _ hr (hRr _ (getD_mem [] hlt)) _ rfl) fun z hz => ?_
      have hz : z = boundedS (c.R.getD j []) (lowS c.kind) := by rw [hz, hlow]
      cbv
      have hnot : M .not z = !z := by subst hM; rfl
      cases z
      · simp only [hnot]
        cbv
        rw [yn j hlt hz.symm]
      · simp only [hnot]
        cbv
        refine ⟨j + 1, ⟨hlt, fun i hi => ?_⟩, ?_, by (cbv; repeat' (first | exact True.intro | exact rfl | apply And.intro)) <;> (subst hM; rw [succ_i64 (by omega)])⟩
        · rcases Nat.lt_or_ge i j with h4 | h4
          · exact hn i h4
          · have : i = j := by omega
            subst this; exact hz.symm
        · omega
    · have hj2 : j = c.R.length := by subst hM; simp [hRR] at h; omega
      subst hj2
      have y1 := yy hn
      rw [hlow, hsec, hlk] at y1
      clear yy yn hn hlow hsec hlk
      refine callB hC (c_bounded _ _ _ hCC hC64 _ rfl) fun z1 hz1 => ?_
      rw [← hz1] at y1
      clear hz1
      cbv
      cases z1
      · cbv
        rw [y1]; simp
      · cbv
        refine callB hC (c_bounded _ _ _ hDD hD64 _ rfl) fun z2 hz2 => ?_
        rw [← hz2] at y1
        clear hz2
        cbv
        cases z2
        · cbv
          rw [y1]; simp
        · cbv
          refine callB hC (c_bounded _ _ _ hEE hE64 _ rfl) fun z3 hz3 => ?_
          rw [← hz3] at y1
          clear hz3
          cbv
          cases z3
          · cbv
            rw [y1]; simp
          · cbv
            split <;> rename_i h <;> (try simp only [h]) <;> (try cbv)
            · subst hM
              rw [y1, ← hKK]
              simp at h
              simp [h]
            · subst hM
              rw [y1, ← hKK]
              simp at h
              simp; omega)
end Go.Pi

/- Package model: a Gcc's numbers; a constraint's variables; may it be? -/
namespace Go.Pi
open Go
set_option linter.unusedVariables false

def countsAt (c : Con) (i : Nat) : Bool := decide (c.D.getD i 0 > c.E.getD i 0) || (decide (0 < i) && (sortS c.C).getD i 0 == (sortS c.C).getD (i - 1) 0)
theorem counts_no {c : Con} {i : Nat} (hk : c.kind = 21) (hi : i < c.C.length) (h : countsAt c i = true) : countsS c = false := by
  unfold countsS
  rw [if_pos hk, List.all_eq_false]
  exact ⟨i, by simpa using hi, by unfold countsAt at h; rw [h]; simp⟩
theorem counts_yes {c : Con} (hk : c.kind = 21) (h : ∀ i, i < c.C.length → countsAt c i = false) : countsS c = true := by
  unfold countsS
  rw [if_pos hk, List.all_eq_true]
  intro i hi
  have := h i (by simpa using hi)
  unfold countsAt at this
  rw [this]; rfl

theorem c_counts (c : Con) (kind K : Int) (rA rB rC rD rE rR : List (List PV)) (H : ConR c kind rA rB rC rD rE K rR) (h64 : c.C.length ≤ 1000000) (hl : c.kind = 21 → c.D.length = c.C.length ∧ c.E.length = c.C.length) (y : Bool) (hy : y = countsS c) :
    Call .plain 146 [.agg [I kind, .list 1 rA, .list 1 rB, .list 1 rC, .list 1 rD, .list 1 rE, I K, .list 1 rR]] (B y) := by
  have hkd := H.kind
  have hCC := H.C
  have hDD := H.D
  have hEE := H.E
  have hit := c_valuesIter rC
  have hso := c_sorted c.C h64 rC hCC
  obtain ⟨sl, hsl⟩ : ∃ sl, sl = sortS c.C := ⟨_, rfl⟩
  have hsll : sl.length = c.C.length := by rw [hsl, sortS_len]
  obtain ⟨q, hq⟩ : ∃ q, q = ints sl := ⟨_, rfl⟩
  rw [← hsl, ← hq] at hso
  refine call_of Proofs.Tryz.func146 Proofs.Tryz.call146 rfl rfl fun M C hM hC => ?_
  have eql : M .cmp .neq kind 21 = (kind != 21) := by subst hM; rfl
  by_cases hk : kind = 21
  · have e : M .cmp .neq kind 21 = false := by rw [eql, hk]; rfl
    have hl := hl (by omega)
    clear eql
    cbv
    simp only [e]
    cbv
    refine .mk _ (use_call hC hit) ?_
    cbv
    refine .new _ _ _ (use_call hC hso) ?_
    cbv
    refine Loop.over Nat (fun q => [(.t 15, I q)]) 2 (fun q => c.C.length - q) (fun q => q ≤ c.C.length ∧ ∀ i, i < q → countsAt c i = false) 0 ⟨Nat.zero_le _, by omega⟩ (by (cbv; repeat' (first | exact True.intro | exact rfl | apply And.intro))) ?_
    rintro j ⟨hj, hn⟩
    cbv
    split <;> rename_i h <;> (try simp only [h]) <;> (try cbv)
    · have hlt : j < c.C.length := by subst hM; simpa [hCC] using h
      have fin : y = true ∨ y = false := by cases y <;> simp
      refine nidx_ints hDD (by omega) fun d hd => ?_
      cbv
      refine nidx_ints hEE (by omega) fun e' he' => ?_
      cbv
      have no : countsAt c j = true → y = false := fun h => hy.trans (counts_no (by omega) hlt h)
      have go : countsAt c j = false → ∀ i, i < j + 1 → countsAt c i = false := fun h i hi => by
        rcases Nat.lt_or_ge i j with h4 | h4
        · exact hn i h4
        · have : i = j := by omega
          subst this; exact h
      split <;> rename_i h <;> (try simp only [h]) <;> (try cbv)
      · have h1 : d > e' := by subst hM; simpa using h
        rw [no (by unfold countsAt; rw [← hd, ← he']; simp [h1])]
      · have h1 : ¬ d > e' := by subst hM; simp at h; omega
        split <;> rename_i h <;> (try simp only [h]) <;> (try cbv)
        · have h2 : 0 < j := by subst hM; simp at h; omega
          refine nidx_ints hq (by omega) fun _ _ => ?_
          cbv
          refine nidx_ints hq (by omega) fun u hu => ?_
          cbv
          have e1 : M .arith .sub .i64 (Int.ofNat j) 1 = Int.ofNat (j - 1) := by
            subst hM
            show IntKind.i64.wrap ((j : Int) - 1) = _
            rw [wrap_i64 (by omega) (by omega)]
            show (j : Int) - 1 = ((j - 1 : Nat) : Int)
            omega
          refine idx_ints hq (by rw [show M .arith .sub .i64 _ 1 = _ from e1]; exact Int.natCast_nonneg _) (by rw [show M .arith .sub .i64 _ 1 = _ from e1]; show ((j - 1 : Nat) : Int) < _; omega) fun _ _ => ?_
          cbv
          refine idx_ints hq (by rw [show M .arith .sub .i64 _ 1 = _ from e1]; exact Int.natCast_nonneg _) (by rw [show M .arith .sub .i64 _ 1 = _ from e1]; show ((j - 1 : Nat) : Int) < _; omega) fun v hv => ?_
          have hv : v = sl.getD (j - 1) 0 := by rw [hv]; congr 1; rw [show M .arith .sub .i64 _ 1 = _ from e1]; rfl
          clear e1
          cbv
          split <;> rename_i h <;> (try simp only [h]) <;> (try cbv)
          · have h3 : u = v := by subst hM; simpa using h
            rw [no (by unfold countsAt; rw [← hsl, ← hu, ← hv]; simp [h2, h3])]
          · have h3 : ¬ u = v := by subst hM; simpa using h
            refine ⟨j + 1, ⟨hlt, go (by unfold countsAt; rw [← hd, ← he', ← hsl, ← hu, ← hv]; simp [h1, h3])⟩, ?_, by (cbv; repeat' (first | exact True.intro | exact rfl | apply And.intro)) <;> (subst hM; rw [succ_i64 (by omega)])⟩
            omega
        · have h2 : j = 0 := by subst hM; simp at h; omega
          refine ⟨j + 1, ⟨hlt, go (by unfold countsAt; rw [← hd, ← he']; simp [h1, h2])⟩, ?_, by (cbv; repeat' (first | exact True.intro | exact rfl | apply And.intro)) <;> (subst hM; rw [succ_i64 (by omega)])⟩
          omega
    · have hj2 : j = c.C.length := by subst hM; simp [hCC] at h; omega
      subst hj2
      rw [hy, counts_yes (by omega) hn]
  · have e : M .cmp .neq kind 21 = true := by rw [eql]; simpa using hk
    have y1 : y = true := by rw [hy, countsS, if_neg (by omega)]
    clear eql hy
    cbv
    simp only [e]
    cbv
    rw [y1]

theorem c_vars (c : Con) (kind K : Int) (rA rB rC rD rE rR : List (List PV)) (H : ConR c kind rA rB rC rD rE K rR) (ha : c.A.length ≤ 1000000) (hb : c.B.length ≤ 1000000) (r : List (List PV)) (hr : r = ints (c.A ++ c.B)) :
    Call .plain 143 [.agg [I kind, .list 1 rA, .list 1 rB, .list 1 rC, .list 1 rD, .list 1 rE, I K, .list 1 rR]] (.list 1 r) := by
  have cc := c_concat [[.list 1 rA], [.list 1 rB]] [rA, rB] rfl (by
    intro x hx
    simp only [List.mem_cons, List.not_mem_nil, or_false] at hx
    rcases hx with rfl | rfl
    · rw [H.A]; simpa using ha
    · rw [H.B]; simpa using hb) (by simp) r (by rw [hr, H.A, H.B]; simp [ints_app])
  refine call_of Proofs.Tryz.func143 Proofs.Tryz.call143 rfl rfl fun M C hM hC => ?_
  cbv
  refine .inl (.mk _ (use_call hC cc) ?_)
  cbv

theorem c_right1 (v vars : Int) (y : Bool) (hy : y = (decide (v < 0) || decide (v ≥ vars))) : Call .plain 144 [I v, .ref [I vars]] (B y) := by
  refine call_of Proofs.Tryz.func144 Proofs.Tryz.call144 rfl rfl fun M C hM hC => ?_
  have hy : ∃ a b, a = M .cmp .lss v 0 ∧ b = M .cmp .geq v vars ∧ y = (a || b) := ⟨_, _, rfl, rfl, by subst hM; exact hy⟩
  obtain ⟨a, b, ha, hb, hy⟩ := hy
  cbv
  rw [← ha]
  cases a
  · cbv
    rw [hy, hb]; simp
  · cbv
    rw [hy]; simp

theorem scmp_nil (l : List UInt8) : ((bs l).toList == (⟨⟨[]⟩⟩ : ByteArray).toList) = decide (l = []) := by
  rw [Lib.toList_data, Lib.toList_data]
  cases l <;> simp [bs]

theorem c_right (c : Con) (kind K : Int) (rA rB rC rD rE rR : List (List PV)) (H : ConR c kind rA rB rC rD rE K rR) (la : lim rA) (lb : lim rB) (lc : lim rC) (ld : lim rD) (le : lim rE) (lr : lim rR) (vars y : Int) (hy : y = rightS c vars) :
    Call .plain 73 [.agg [I kind, .list 1 rA, .list 1 rB, .list 1 rC, .list 1 rD, .list 1 rE, I K, .list 1 rR], I vars] (I y) := by
  have hkd := H.kind
  refine call_of Proofs.Tryz.func73 Proofs.Tryz.call73 rfl rfl fun M C hM hC => ?_
  have nt : M .not true = false := by subst hM; rfl
  have nf : M .not false = true := by subst hM; rfl
  cbv
  refine callS hC (c_shape kind _ rfl) fun w hw => ?_
  cbv
  rw [hkd] at hw
  split <;> rename_i h <;> (try simp only [h]) <;> (try cbv)
  · have h1 : shapeS c.kind = [] := by subst hM; rw [hw, real_seql, scmp_nil] at h; simpa using h
    rw [hy, rightS, if_pos h1]
  · have h1 : ¬ shapeS c.kind = [] := by subst hM; rw [hw, real_seql, scmp_nil] at h; simpa using h
    have hk23 := shapeS_ne.1 h1
    rw [rightS, if_neg h1] at hy
    refine callB hC (c_mcounted kind K rA rB rC rD rE rR w la lb lc ld le lr _ rfl) fun z1 hz1 => ?_
    have hz1 : z1 = mcountedS c.kind c.A.length c.B.length c.C.length c.D.length c.E.length c.R.length (bs (shapeS c.kind)) := by
      rw [hz1, hkd, hw, H.A, H.B, H.C, H.D, H.E, H.R]; simp
    rw [← hz1] at hy
    cbv
    cases z1
    · simp only [nf]
      cbv
      rw [hy]; simp
    · simp only [nt]
      have ln := counted_lens hk23 hz1.symm
      cbv
      refine callB hC (c_alike c kind K rA rB rC rD rE rR H (fun _ => by have := ln.R; omega) _ rfl) fun z2 hz2 => ?_
      rw [← hz2] at hy
      cbv
      cases z2
      · simp only [nf]
        cbv
        rw [hy]; simp
      · simp only [nt]
        have hrows := alike_rows hz2.symm ln.rows
        have hgcc := alike_gcc hz2.symm
        clear hz1 hz2
        simp only [Bool.not_true, Bool.or_self, Bool.false_or] at hy
        have e1 : M .cmp .neq K 0 = (c.K != 0) := by subst hM; rw [H.K]; rfl
        have fin : ∀ z3 : Bool, z3 = (c.K != 0 && !(shapeS c.kind).contains 107) → y = if z3 then 10 else if (c.A ++ c.B).any fun v => decide (v < 0) || decide (v ≥ vars) then 7 else if !numbersS c || !countsS c then 11 else 0 := fun z3 h3 => by rw [hy, h3]
        have cv := fun r hr => c_vars c kind K rA rB rC rD rE rR H (by have := ln.A; omega) (by have := ln.B; omega) r hr
        have cx := fun rl hl => c_containsFunc1 rl (c.A ++ c.B) 144 [I vars] (fun v => decide (v < 0) || decide (v ≥ vars)) hl (by have := ln.A; have := ln.B; simp; omega) (fun v _ => c_right1 v vars _ rfl) _ rfl
        have cn := c_mnumbers c kind K rA rB rC rD rE rR H (by have := ln.C; omega) (by have := ln.D; omega) (by have := ln.E; omega) (by have := ln.R; omega) (fun r hr => by rw [hrows r hr]; have := ln.A; omega) _ rfl
        have cc := c_counts c kind K rA rB rC rD rE rR H (by have := ln.C; omega) hgcc _ rfl
        have hs107 : (shapeS c.kind).contains 107 = hasB w 107 := by rw [hw]; rfl
        rw [hs107] at fin
        generalize ((c.A ++ c.B).any fun v => decide (v < 0) || decide (v ≥ vars)) = q7 at fin cx
        generalize numbersS c = qn at fin cn
        generalize countsS c = qc at fin cc
        clear hy hs107 hrows hgcc ln hw
        cbv
        rw [e1]
        have hsc := c_strContains w 107 _ rfl
        generalize hasB w 107 = q3 at fin hsc
        generalize (c.K != 0) = qk at fin
        clear e1
        cases qk
        · have fin := fin false rfl
          simp only [Bool.false_eq_true, if_false] at fin
          cbv
          refine callL hC (cv _ rfl) fun rv hrv => ?_
          cbv
          refine callB hC (cx rv hrv) fun z7 hz7 => ?_
          subst hz7
          clear cx cv hrv
          cbv
          cases z7
          · simp only [Bool.false_eq_true, if_false] at fin
            cbv
            refine callB hC cn fun zn hzn => ?_
            subst hzn
            cbv
            cases zn
            · simp only [nf]
              cbv
              rw [fin]; rfl
            · simp only [nt]
              cbv
              refine callB hC cc fun zc hzc => ?_
              subst hzc
              cbv
              cases zc
              · simp only [nf]
                cbv
                rw [fin]; rfl
              · simp only [nt]
                cbv
                rw [fin]; rfl
          · simp only [if_true] at fin
            cbv
            rw [fin]
        · cbv
          refine callB hC hsc fun z3 hz3 => ?_
          subst hz3
          cbv
          cases z3
          · have fin := fin true rfl
            simp only [nf]
            cbv
            rw [fin]; rfl
          · have fin := fin false rfl
            simp only [Bool.false_eq_true, if_false] at fin
            simp only [nt]
            cbv
            refine callL hC (cv _ rfl) fun rv hrv => ?_
            cbv
            refine callB hC (cx rv hrv) fun z7 hz7 => ?_
            subst hz7
            clear cx cv hrv
            cbv
            cases z7
            · simp only [Bool.false_eq_true, if_false] at fin
              cbv
              refine callB hC cn fun zn hzn => ?_
              subst hzn
              cbv
              cases zn
              · simp only [nf]
                cbv
                rw [fin]; rfl
              · simp only [nt]
                cbv
                refine callB hC cc fun zc hzc => ?_
                subst hzc
                cbv
                cases zc
                · simp only [nf]
                  cbv
                  rw [fin]; rfl
                · simp only [nt]
                  cbv
                  rw [fin]; rfl
            · simp only [if_true] at fin
              cbv
              rw [fin]
end Go.Pi
