/- Package model: how long lists must be. -/
import Derived.Test.YtlgoiaembdlemaaGreatMo1
import Derived.Test.YtlgoiaembdlemaaGreatPic
set_option linter.unusedSimpArgs false
set_option linter.unusedVariables false
namespace Go.Pi
open Go
set_option linter.unusedVariables false

theorem c_named (n : Int) (shape : ByteArray) (one all : UInt8) (y : Bool) (hy : y = namedS n shape one all) : Call .plain 63 [I n, Str shape, Str ⟨⟨[one]⟩⟩, Str ⟨⟨[all]⟩⟩] (B y) := by
  refine call_of Proofs.Tryz.func63 Proofs.Tryz.call63 rfl rfl fun M C hM hC => ?_
  cbv
  refine callB hC (c_strContains shape all _ rfl) fun q hq => ?_
  cbv
  cases q
  · cbv
    refine callI hC (c_strCount shape one _ rfl) fun k hk => ?_
    cbv
    subst hM
    rw [hy, namedS, ← hq, hk, real_eql]; rfl
  · cbv
    refine callB hC (c_within n 1 64 _ rfl) fun z hz => ?_
    cbv
    rw [hy, hz, namedS, ← hq]; rfl

def lim (l : List (List PV)) : Prop := l.length ≤ 1099511627776
theorem c_mcounted (kind K : Int) (A B' C' D E R : List (List PV)) (shape : ByteArray) (ha : lim A) (hb : lim B') (hc : lim C') (hd : lim D) (he : lim E) (hr : lim R) (y : Bool) (hy : y = mcountedS kind A.length B'.length C'.length D.length E.length R.length shape) :
    Call .plain 33 [.agg [I kind, .list 1 A, .list 1 B', .list 1 C', .list 1 D, .list 1 E, I K, .list 1 R], Str shape] (B y) := by
  refine call_of Proofs.Tryz.func33 Proofs.Tryz.call33 rfl rfl fun M C hM hC => ?_
  by_cases hk : kind = 12
  · have hk1 : M .cmp .eql kind 12 = true := by subst hM; rw [hk]; rfl
    cbv
    simp only [hk1]
    cbv
    refine callB hC (c_within _ _ _ _ rfl) fun z hz => ?_
    have e0 : ∀ z1 z2 : Bool, z1 = decide ((if (B'.length : Int) > A.length then (B'.length : Int) else A.length) ≤ 64) → z2 = ((C'.length : Int) + D.length + E.length + R.length == 0) → y = (z && z1 && z2) := fun z1 z2 h1 h2 => by
      unfold lim at *
      rw [hy, mcountedS, if_pos hk, h1, h2, hz]
      subst hM
      have e1 : Real .arith .add .i64 (Int.ofNat (Real .len A)) (Int.ofNat (Real .len B')) = (A.length : Int) + B'.length := wrap_i64 (x := (A.length : Int) + B'.length) (by omega) (by omega)
      rw [e1]
    clear hy hz
    cbv
    cases z
    · cbv
      rw [e0 _ _ rfl rfl]; simp
    · cbv
      generalize hz1 : M .cmp .leq _ 64 = z1
      have hz1 : z1 = decide ((if (B'.length : Int) > A.length then (B'.length : Int) else A.length) ≤ 64) := by rw [← hz1]; subst hM; rfl
      cases z1
      · cbv
        rw [e0 _ _ hz1 rfl]; simp
      · cbv
        rw [e0 _ _ hz1 rfl]
        unfold lim at *
        subst hM
        show PV.v (Value.bool (IntKind.i64.wrap (IntKind.i64.wrap (IntKind.i64.wrap ((C'.length : Int) + D.length) + E.length) + R.length) == 0)) = _
        rw [wrap_i64 (x := (C'.length : Int) + D.length) (by omega) (by omega), wrap_i64 (x := (C'.length : Int) + D.length + E.length) (by omega) (by omega), wrap_i64 (by omega) (by omega)]
        rfl
  · have hk1 : M .cmp .eql kind 12 = false := by subst hM; simpa using hk
    have e0 : ∀ q z0, q = hasB shape 114 → (z0 = if q then withinS R.length 1 1024 else (R.length : Int) == 0) → y = (z0 && namedS A.length shape 118 86 && namedS B'.length shape 119 87 && namedS C'.length shape 45 99 && namedS D.length shape 45 100 && namedS E.length shape 45 101) := fun q z0 h1 h2 => by
      rw [hy, mcountedS, if_neg hk, h2, h1]
    clear hy
    cbv
    simp only [hk1]
    cbv
    generalize hr0 : M .cmp .eql _ 0 = r0
    have hr0 : r0 = ((R.length : Int) == 0) := by rw [← hr0]; subst hM; rfl
    refine callB hC (c_strContains shape 114 _ rfl) fun q hq => ?_
    have e1 := fun z0 => e0 q z0 hq
    clear e0
    cbv
    cases q
    · have e2 := e1 r0 hr0
      clear e1 hr0
      cbv
      cases r0
      · cbv
        rw [e2]; simp
      · cbv
        refine callB hC (c_named _ _ _ _ _ rfl) fun z1 hz1 => ?_
        have hz1 : z1 = namedS A.length shape 118 86 := by rw [hz1]; subst hM; rfl
        rw [← hz1] at e2
        clear hz1
        cbv
        cases z1
        · cbv
          rw [e2]; simp
        · cbv
          refine callB hC (c_named _ _ _ _ _ rfl) fun z2 hz2 => ?_
          have hz2 : z2 = namedS B'.length shape 119 87 := by rw [hz2]; subst hM; rfl
          rw [← hz2] at e2
          clear hz2
          cbv
          cases z2
          · cbv
            rw [e2]; simp
          · cbv
            refine callB hC (c_named _ _ _ _ _ rfl) fun z3 hz3 => ?_
            have hz3 : z3 = namedS C'.length shape 45 99 := by rw [hz3]; subst hM; rfl
            rw [← hz3] at e2
            clear hz3
            cbv
            cases z3
            · cbv
              rw [e2]; simp
            · cbv
              refine callB hC (c_named _ _ _ _ _ rfl) fun z4 hz4 => ?_
              have hz4 : z4 = namedS D.length shape 45 100 := by rw [hz4]; subst hM; rfl
              rw [← hz4] at e2
              clear hz4
              cbv
              cases z4
              · cbv
                rw [e2]; simp
              · cbv
                refine callB hC (c_named _ _ _ _ _ rfl) fun z5 hz5 => ?_
                have hz5 : z5 = namedS E.length shape 45 101 := by rw [hz5]; subst hM; rfl
                rw [← hz5] at e2
                clear hz5
                cbv
                rw [e2]; simp
    · cbv
      refine callB hC (c_within _ _ _ _ rfl) fun z0 hz0 => ?_
      have e2 := e1 z0 (by rw [hz0]; subst hM; rfl)
      clear e1 hz0 hr0
      revert e2
      generalize z0 = r0
      intro e2
      cbv
      cases r0
      · cbv
        rw [e2]; simp
      · cbv
        refine callB hC (c_named _ _ _ _ _ rfl) fun z1 hz1 => ?_
        have hz1 : z1 = namedS A.length shape 118 86 := by rw [hz1]; subst hM; rfl
        rw [← hz1] at e2
        clear hz1
        cbv
        cases z1
        · cbv
          rw [e2]; simp
        · cbv
          refine callB hC (c_named _ _ _ _ _ rfl) fun z2 hz2 => ?_
          have hz2 : z2 = namedS B'.length shape 119 87 := by rw [hz2]; subst hM; rfl
          rw [← hz2] at e2
          clear hz2
          cbv
          cases z2
          · cbv
            rw [e2]; simp
          · cbv
            refine callB hC (c_named _ _ _ _ _ rfl) fun z3 hz3 => ?_
            have hz3 : z3 = namedS C'.length shape 45 99 := by rw [hz3]; subst hM; rfl
            rw [← hz3] at e2
            clear hz3
            cbv
            cases z3
            · cbv
              rw [e2]; simp
            · cbv
              refine callB hC (c_named _ _ _ _ _ rfl) fun z4 hz4 => ?_
              have hz4 : z4 = namedS D.length shape 45 100 := by rw [hz4]; subst hM; rfl
              rw [← hz4] at e2
              clear hz4
              cbv
              cases z4
              · cbv
                rw [e2]; simp
              · cbv
                refine callB hC (c_named _ _ _ _ _ rfl) fun z5 hz5 => ?_
                have hz5 : z5 = namedS E.length shape 45 101 := by rw [hz5]; subst hM; rfl
                rw [← hz5] at e2
                clear hz5
                cbv
                rw [e2]; simp
