/- jigsawref06.Make. -/
import Derived.Test.YtlgoiaembdlemaaGreatDoorMRf1ToRf2b
set_option linter.unusedSimpArgs false
set_option linter.unusedVariables false

/- jigsawref06.Make. -/
namespace Go.Pi
open Go
set_option linter.unusedVariables false
set_option linter.unusedSimpArgs false

set_option maxHeartbeats 4000000 in
set_option maxRecDepth 100000 in
theorem c_make13 (z : Small) (zk zK zc : Int) (zA zB zC : List (List PV)) (R : SmallR z zk zA zB zC zK zc) (vars : Int) (hv : 1 ≤ vars ∧ vars ≤ 1000000) (kind K : Int) (rA rB rC rD rE rR : List (List PV)) (H : ConR (makeS z vars) kind rA rB rC rD rE K rR)
    (hk : 1 + z.kind.tmod 23 = 13 ∨ 1 + z.kind.tmod 23 = 14 ∨ 1 + z.kind.tmod 23 = 15 ∨ 1 + z.kind.tmod 23 = 16) :
    Call .plain 35 [.agg [U8 zk, .list 1 zA, .list 1 zB, .list 1 zC, I16 zK, U8 zc], I vars] (.agg [I kind, .list 1 rA, .list 1 rB, .list 1 rC, .list 1 rD, .list 1 rE, I K, .list 1 rR]) := by
  have hsh : shapeS (1 + z.kind.tmod 23) = [118, 107, 119] := by rcases hk with hk | hk | hk | hk <;> rw [hk] <;> rfl
  have kb := tmod_le z.kind (b := 23) (by decide)
  have kn : 0 ≤ z.kind.tmod 23 := Int.tmod_nonneg _ R.bk.1
  have q11 : ¬ 1 + z.kind.tmod 23 = 11 := by omega
  have q19 : ¬ 1 + z.kind.tmod 23 = 19 := by omega
  have q21 : ¬ 1 + z.kind.tmod 23 = 21 := by omega
  have q18 : ¬ 1 + z.kind.tmod 23 = 18 := by omega
  have h118 : hasS [118, 107, 119] 118 = 1 := by decide
  have h119 : hasS [118, 107, 119] 119 = 1 := by decide
  have h87 : hasS [118, 107, 119] 87 = 0 := by decide
  have h99 : hasS [118, 107, 119] 99 = 0 := by decide
  have h107 : hasS [118, 107, 119] 107 = 1 := by decide
  have mk : makeS z vars = { kind := 1 + z.kind.tmod 23, A := placesS z.A (1) vars, B := placesS z.B 1 vars, C := [], D := [], E := [], K := z.K.tmod 12, R := [] } := by
    have hshk : shapeS 13 = [118, 107, 119] := rfl
    simp [makeS, hsh, hshk, nS, q11, q19, q21, q18, h118, h119, h87, h99, h107]
  clear h118 h119 h87 h99 h107 q11 q19 q21 q18
  rw [mk] at H
  clear mk
  have keq : ∀ M : Mach, M = Real → M .arith .rem .i64 (M .conv .i64 zK) 12 = z.K.tmod 12 := fun M hM => by
    subst hM
    have := R.bK
    show (IntKind.i64.wrap zK).tmod 12 = _
    rw [R.K, wrap_i64 (x := z.K) (by omega) (by omega)]
  refine call_of Proofs.Tryz.func35 Proofs.Tryz.call35 rfl rfl fun M C hM hC => ?_
  have G0 : M .cmp .gtr 0 0 = false := by subst hM; rfl
  have G1 : M .cmp .gtr 1 0 = true := by subst hM; rfl
  have G2 : M .cmp .gtr 2 0 = true := by subst hM; rfl
  have G3 : M .cmp .gtr 3 0 = true := by subst hM; rfl
  have ek : M .arith .add .i64 1 (M .arith .rem .i64 (M .conv .i64 zk) 23) = 1 + z.kind.tmod 23 := by
    subst hM
    have := R.bk
    show IntKind.i64.wrap (1 + (IntKind.i64.wrap zk).tmod 23) = _
    rw [R.kind, wrap_i64 (x := z.kind) (by omega) (by omega), wrap_i64 (by omega) (by omega)]
  cbv
  generalize hkd : M .arith .add .i64 1 (M .arith .rem .i64 (M .conv .i64 zk) 23) = kd at ek
  clear hkd
  have E11 : M .cmp .eql kd 11 = false := by subst hM; rw [real_eql]; simp; omega
  have E19 : M .cmp .eql kd 19 = false := by subst hM; rw [real_eql]; simp; omega
  have E21 : M .cmp .eql kd 21 = false := by subst hM; rw [real_eql]; simp; omega
  have E18 : M .cmp .eql kd 18 = false := by subst hM; rw [real_eql]; simp; omega
  refine .mk (by decide) (callL hC (c_shapes _ rfl) fun sh hsh2 => ?_)
  cbv
  obtain ⟨w, hw⟩ : ∃ w, w = bs (shapeS kd) := ⟨_, rfl⟩
  refine .mk [Str w] (by omega) (by rw [hsh2, hw]; exact shapes_get (by omega)) ?_
  have hw : w = bs [118, 107, 119] := by rw [hw, ek, hsh]
  have lenA : (Int.ofNat (M .len zA)) = (z.A.length : Int) := by subst hM; rw [R.A]; show ((u8s z.A).length : Int) = _; simp
  have lenC : (Int.ofNat (M .len zC)) = (z.C.length : Int) := by subst hM; rw [R.C]; show ((i8s z.C).length : Int) = _; simp
  have ch : ∀ (ch : UInt8) (cc y : Int), cc = (ch.toNat : Int) → y = (hasS [118, 107, 119] ch : Int) → C .plain 90 [Str w, U8 cc] (I y) := fun ch cc y h1 h2 => use_call hC (c_has _ w hw ch cc h1 (by decide) y h2)
  have cp : ∀ (n : Int) (rl : List (List PV)) (l : List Int), rl = u8s l → (∀ v ∈ l, 0 ≤ v ∧ v ≤ 255) → l.length ≤ 9223372036854775807 → n ≤ 1000000 → CallIn prog Amb .plain 91 [.list 1 rl, I n, I vars] (.list 1 (ints (placesS l n.toNat vars))) := fun n rl l h1 h2 h3 h4 => c_places rl l n vars h1 h2 h3 h4 (by omega) _ rfl
  have cn : ∀ (f n least wide : Int), 0 ≤ f ∧ f ≤ 1000000 → n ≤ 1000000 → 1 ≤ wide ∧ wide ≤ 100 → CallIn prog Amb .plain 92 [.list 1 zC, I f, I n, I least, I wide] (.list 1 (ints (numsS z.C f.toNat n.toNat least wide))) := fun f n least wide h1 h2 h3 => c_nums zC z.C f n least wide R.C R.bC R.lC h1 h2 h3 _ rfl
  have n3 : (M .cmp .lss (Int.ofNat (M .len zA)) 1 = true ∧ M .cmp .gtr 1 4 = false ∧ Int.toNat 1 = nS0 z ∧ (0 : Int) ≤ 1 ∧ (1 : Int) ≤ 4) ∨ (M .cmp .lss (Int.ofNat (M .len zA)) 1 = false ∧ M .cmp .gtr (Int.ofNat (M .len zA)) 4 = true ∧ Int.toNat 4 = nS0 z ∧ (0 : Int) ≤ 4 ∧ (4 : Int) ≤ 4) ∨ (M .cmp .lss (Int.ofNat (M .len zA)) 1 = false ∧ M .cmp .gtr (Int.ofNat (M .len zA)) 4 = false ∧ (Int.ofNat (M .len zA)).toNat = nS0 z ∧ 0 ≤ Int.ofNat (M .len zA) ∧ Int.ofNat (M .len zA) ≤ 4) := by
    rw [lenA]
    rcases Nat.lt_or_ge z.A.length 1 with h1 | h1
    · exact .inl ⟨by subst hM; rw [real_lss]; simp; omega, by subst hM; rfl, by rw [nS0, if_pos h1]; rfl, by decide, by decide⟩
    · rcases Nat.lt_or_ge 4 z.A.length with h2 | h2
      · exact .inr (.inl ⟨by subst hM; rw [real_lss]; simp; omega, by subst hM; rw [real_gtr]; simp; omega, by rw [nS0, if_neg (by omega), if_pos h2]; rfl, by decide, by decide⟩)
      · exact .inr (.inr ⟨by subst hM; rw [real_lss]; simp; omega, by subst hM; rw [real_gtr]; simp; omega, by rw [nS0, if_neg (by omega), if_neg (by omega)]; simp, by omega, by omega⟩)
  clear hw hsh2 hsh kb kn lenA
  cbv
  rcases n3 with ⟨N1, N2, hn0, hn1, hn4⟩ | ⟨N1, N2, hn0, hn1, hn4⟩ | ⟨N1, N2, hn0, hn1, hn4⟩
  all_goals (
    simp only [N1]
    cbv
    simp only [N2]
    cbv
    refine .mk (I 1) (ch 118 118 1 (by decide) (by decide)) ?_
    cbv
    simp only [G1]
    cbv
    refine .mk (I 1) (ch 118 118 1 (by decide) (by decide)) ?_
    cbv
    refine callL hC (cp _ _ _ R.A R.bA R.lA (by omega)) fun rA1 hA1 => ?_
    cbv
    refine .mk (I 1) (ch 119 119 1 (by decide) (by decide)) ?_
    cbv
    simp only [G1]
    cbv
    refine callL hC (cp _ _ _ R.B R.bB R.lB (by omega)) fun rB1 hB1 => ?_
    cbv
    refine .mk (I 0) (ch 87 87 0 (by decide) (by decide)) ?_
    cbv
    simp only [G0]
    cbv
    refine .mk (I 0) (ch 99 99 0 (by decide) (by decide)) ?_
    cbv
    simp only [G0]
    cbv
    simp only [E11]
    cbv
    refine .mk (I 1) (ch 107 107 1 (by decide) (by decide)) ?_
    cbv
    simp only [G1]
    cbv
    refine .mk (by decide) ?_
    cbv
    simp only [E19]
    cbv
    simp only [E21]
    cbv
    simp only [E18]
    cbv
    have HA := H.A
    have HB := H.B
    have HC := H.C
    have HD := H.D
    have HE := H.E
    have HR := H.R
    exact ⟨congrArg _ (congrArg _ (ek.trans H.kind.symm)), ⟨hA1.trans HA.symm, trivial⟩, ⟨hB1.trans HB.symm, trivial⟩, HC, HD, HE, congrArg _ (congrArg _ ((keq M hM).trans H.K.symm)), HR, trivial⟩)

set_option maxHeartbeats 4000000 in
set_option maxRecDepth 100000 in
theorem c_make17 (z : Small) (zk zK zc : Int) (zA zB zC : List (List PV)) (R : SmallR z zk zA zB zC zK zc) (vars : Int) (hv : 1 ≤ vars ∧ vars ≤ 1000000) (kind K : Int) (rA rB rC rD rE rR : List (List PV)) (H : ConR (makeS z vars) kind rA rB rC rD rE K rR)
    (hk : 1 + z.kind.tmod 23 = 17 ∨ 1 + z.kind.tmod 23 = 20) :
    Call .plain 35 [.agg [U8 zk, .list 1 zA, .list 1 zB, .list 1 zC, I16 zK, U8 zc], I vars] (.agg [I kind, .list 1 rA, .list 1 rB, .list 1 rC, .list 1 rD, .list 1 rE, I K, .list 1 rR]) := by
  have hsh : shapeS (1 + z.kind.tmod 23) = [86] := by rcases hk with hk | hk <;> rw [hk] <;> rfl
  have kb := tmod_le z.kind (b := 23) (by decide)
  have kn : 0 ≤ z.kind.tmod 23 := Int.tmod_nonneg _ R.bk.1
  have q11 : ¬ 1 + z.kind.tmod 23 = 11 := by omega
  have q19 : ¬ 1 + z.kind.tmod 23 = 19 := by omega
  have q21 : ¬ 1 + z.kind.tmod 23 = 21 := by omega
  have q18 : ¬ 1 + z.kind.tmod 23 = 18 := by omega
  have h118 : hasS [86] 118 = 0 := by decide
  have h119 : hasS [86] 119 = 0 := by decide
  have h87 : hasS [86] 87 = 0 := by decide
  have h99 : hasS [86] 99 = 0 := by decide
  have h107 : hasS [86] 107 = 0 := by decide
  have mk : makeS z vars = { kind := 1 + z.kind.tmod 23, A := placesS z.A (nS0 z) vars, B := [], C := [], D := [], E := [], K := 0, R := [] } := by
    have hshk : shapeS 17 = [86] := rfl
    simp [makeS, hsh, hshk, nS, q11, q19, q21, q18, h118, h119, h87, h99, h107]
  clear h118 h119 h87 h99 h107 q11 q19 q21 q18
  rw [mk] at H
  clear mk
  have keq : ∀ M : Mach, M = Real → M .arith .rem .i64 (M .conv .i64 zK) 12 = z.K.tmod 12 := fun M hM => by
    subst hM
    have := R.bK
    show (IntKind.i64.wrap zK).tmod 12 = _
    rw [R.K, wrap_i64 (x := z.K) (by omega) (by omega)]
  refine call_of Proofs.Tryz.func35 Proofs.Tryz.call35 rfl rfl fun M C hM hC => ?_
  have G0 : M .cmp .gtr 0 0 = false := by subst hM; rfl
  have G1 : M .cmp .gtr 1 0 = true := by subst hM; rfl
  have G2 : M .cmp .gtr 2 0 = true := by subst hM; rfl
  have G3 : M .cmp .gtr 3 0 = true := by subst hM; rfl
  have ek : M .arith .add .i64 1 (M .arith .rem .i64 (M .conv .i64 zk) 23) = 1 + z.kind.tmod 23 := by
    subst hM
    have := R.bk
    show IntKind.i64.wrap (1 + (IntKind.i64.wrap zk).tmod 23) = _
    rw [R.kind, wrap_i64 (x := z.kind) (by omega) (by omega), wrap_i64 (by omega) (by omega)]
  cbv
  generalize hkd : M .arith .add .i64 1 (M .arith .rem .i64 (M .conv .i64 zk) 23) = kd at ek
  clear hkd
  have E11 : M .cmp .eql kd 11 = false := by subst hM; rw [real_eql]; simp; omega
  have E19 : M .cmp .eql kd 19 = false := by subst hM; rw [real_eql]; simp; omega
  have E21 : M .cmp .eql kd 21 = false := by subst hM; rw [real_eql]; simp; omega
  have E18 : M .cmp .eql kd 18 = false := by subst hM; rw [real_eql]; simp; omega
  refine .mk (by decide) (callL hC (c_shapes _ rfl) fun sh hsh2 => ?_)
  cbv
  obtain ⟨w, hw⟩ : ∃ w, w = bs (shapeS kd) := ⟨_, rfl⟩
  refine .mk [Str w] (by omega) (by rw [hsh2, hw]; exact shapes_get (by omega)) ?_
  have hw : w = bs [86] := by rw [hw, ek, hsh]
  have lenA : (Int.ofNat (M .len zA)) = (z.A.length : Int) := by subst hM; rw [R.A]; show ((u8s z.A).length : Int) = _; simp
  have lenC : (Int.ofNat (M .len zC)) = (z.C.length : Int) := by subst hM; rw [R.C]; show ((i8s z.C).length : Int) = _; simp
  have ch : ∀ (ch : UInt8) (cc y : Int), cc = (ch.toNat : Int) → y = (hasS [86] ch : Int) → C .plain 90 [Str w, U8 cc] (I y) := fun ch cc y h1 h2 => use_call hC (c_has _ w hw ch cc h1 (by decide) y h2)
  have cp : ∀ (n : Int) (rl : List (List PV)) (l : List Int), rl = u8s l → (∀ v ∈ l, 0 ≤ v ∧ v ≤ 255) → l.length ≤ 9223372036854775807 → n ≤ 1000000 → CallIn prog Amb .plain 91 [.list 1 rl, I n, I vars] (.list 1 (ints (placesS l n.toNat vars))) := fun n rl l h1 h2 h3 h4 => c_places rl l n vars h1 h2 h3 h4 (by omega) _ rfl
  have cn : ∀ (f n least wide : Int), 0 ≤ f ∧ f ≤ 1000000 → n ≤ 1000000 → 1 ≤ wide ∧ wide ≤ 100 → CallIn prog Amb .plain 92 [.list 1 zC, I f, I n, I least, I wide] (.list 1 (ints (numsS z.C f.toNat n.toNat least wide))) := fun f n least wide h1 h2 h3 => c_nums zC z.C f n least wide R.C R.bC R.lC h1 h2 h3 _ rfl
  have n3 : (M .cmp .lss (Int.ofNat (M .len zA)) 1 = true ∧ M .cmp .gtr 1 4 = false ∧ Int.toNat 1 = nS0 z ∧ (0 : Int) ≤ 1 ∧ (1 : Int) ≤ 4) ∨ (M .cmp .lss (Int.ofNat (M .len zA)) 1 = false ∧ M .cmp .gtr (Int.ofNat (M .len zA)) 4 = true ∧ Int.toNat 4 = nS0 z ∧ (0 : Int) ≤ 4 ∧ (4 : Int) ≤ 4) ∨ (M .cmp .lss (Int.ofNat (M .len zA)) 1 = false ∧ M .cmp .gtr (Int.ofNat (M .len zA)) 4 = false ∧ (Int.ofNat (M .len zA)).toNat = nS0 z ∧ 0 ≤ Int.ofNat (M .len zA) ∧ Int.ofNat (M .len zA) ≤ 4) := by
    rw [lenA]
    rcases Nat.lt_or_ge z.A.length 1 with h1 | h1
    · exact .inl ⟨by subst hM; rw [real_lss]; simp; omega, by subst hM; rfl, by rw [nS0, if_pos h1]; rfl, by decide, by decide⟩
    · rcases Nat.lt_or_ge 4 z.A.length with h2 | h2
      · exact .inr (.inl ⟨by subst hM; rw [real_lss]; simp; omega, by subst hM; rw [real_gtr]; simp; omega, by rw [nS0, if_neg (by omega), if_pos h2]; rfl, by decide, by decide⟩)
      · exact .inr (.inr ⟨by subst hM; rw [real_lss]; simp; omega, by subst hM; rw [real_gtr]; simp; omega, by rw [nS0, if_neg (by omega), if_neg (by omega)]; simp, by omega, by omega⟩)
  clear hw hsh2 hsh kb kn lenA
  cbv
  rcases n3 with ⟨N1, N2, hn0, hn1, hn4⟩ | ⟨N1, N2, hn0, hn1, hn4⟩ | ⟨N1, N2, hn0, hn1, hn4⟩
  all_goals (
    simp only [N1]
    cbv
    simp only [N2]
    cbv
    refine .mk (I 0) (ch 118 118 0 (by decide) (by decide)) ?_
    cbv
    simp only [G0]
    cbv
    refine callL hC (cp _ _ _ R.A R.bA R.lA (by omega)) fun rA1 hA1 => ?_
    cbv
    refine .mk (I 0) (ch 119 119 0 (by decide) (by decide)) ?_
    cbv
    simp only [G0]
    cbv
    refine .mk (I 0) (ch 87 87 0 (by decide) (by decide)) ?_
    cbv
    simp only [G0]
    cbv
    refine .mk (I 0) (ch 99 99 0 (by decide) (by decide)) ?_
    cbv
    simp only [G0]
    cbv
    simp only [E11]
    cbv
    refine .mk (I 0) (ch 107 107 0 (by decide) (by decide)) ?_
    cbv
    simp only [G0]
    cbv
    simp only [E19]
    cbv
    simp only [E21]
    cbv
    simp only [E18]
    cbv
    have HA := H.A
    have HB := H.B
    have HC := H.C
    have HD := H.D
    have HE := H.E
    have HR := H.R
    simp only [← hn0] at HA
    exact ⟨congrArg _ (congrArg _ (ek.trans H.kind.symm)), ⟨hA1.trans HA.symm, trivial⟩, HB, HC, HD, HE, congrArg _ (congrArg _ H.K.symm), HR, trivial⟩)

set_option maxHeartbeats 4000000 in
set_option maxRecDepth 100000 in
theorem c_make18 (z : Small) (zk zK zc : Int) (zA zB zC : List (List PV)) (R : SmallR z zk zA zB zC zK zc) (vars : Int) (hv : 1 ≤ vars ∧ vars ≤ 1000000) (kind K : Int) (rA rB rC rD rE rR : List (List PV)) (H : ConR (makeS z vars) kind rA rB rC rD rE K rR)
    (hk : 1 + z.kind.tmod 23 = 18) :
    Call .plain 35 [.agg [U8 zk, .list 1 zA, .list 1 zB, .list 1 zC, I16 zK, U8 zc], I vars] (.agg [I kind, .list 1 rA, .list 1 rB, .list 1 rC, .list 1 rD, .list 1 rE, I K, .list 1 rR]) := by
  have hsh : shapeS (1 + z.kind.tmod 23) = [86, 114] := by rcases hk with hk <;> rw [hk] <;> rfl
  have kb := tmod_le z.kind (b := 23) (by decide)
  have kn : 0 ≤ z.kind.tmod 23 := Int.tmod_nonneg _ R.bk.1
  have q11 : ¬ 1 + z.kind.tmod 23 = 11 := by omega
  have q19 : ¬ 1 + z.kind.tmod 23 = 19 := by omega
  have q21 : ¬ 1 + z.kind.tmod 23 = 21 := by omega
  have q18 : 1 + z.kind.tmod 23 = 18 := by omega
  have h118 : hasS [86, 114] 118 = 0 := by decide
  have h119 : hasS [86, 114] 119 = 0 := by decide
  have h87 : hasS [86, 114] 87 = 0 := by decide
  have h99 : hasS [86, 114] 99 = 0 := by decide
  have h107 : hasS [86, 114] 107 = 0 := by decide
  have mk : makeS z vars = { kind := 1 + z.kind.tmod 23, A := placesS z.A (nS0 z) vars, B := [], C := [], D := [], E := [], K := 0, R := (List.range (1 + z.C.length % 6)).map fun i => numsS z.C (i * (nS0 z)) (nS0 z) (-1) 4 } := by
    have hshk : shapeS 18 = [86, 114] := rfl
    simp [makeS, hsh, hshk, nS, q11, q19, q21, q18, h118, h119, h87, h99, h107]
  clear h118 h119 h87 h99 h107 q11 q19 q21 q18
  rw [mk] at H
  clear mk
  have keq : ∀ M : Mach, M = Real → M .arith .rem .i64 (M .conv .i64 zK) 12 = z.K.tmod 12 := fun M hM => by
    subst hM
    have := R.bK
    show (IntKind.i64.wrap zK).tmod 12 = _
    rw [R.K, wrap_i64 (x := z.K) (by omega) (by omega)]
  refine call_of Proofs.Tryz.func35 Proofs.Tryz.call35 rfl rfl fun M C hM hC => ?_
  have G0 : M .cmp .gtr 0 0 = false := by subst hM; rfl
  have G1 : M .cmp .gtr 1 0 = true := by subst hM; rfl
  have G2 : M .cmp .gtr 2 0 = true := by subst hM; rfl
  have G3 : M .cmp .gtr 3 0 = true := by subst hM; rfl
  have ek : M .arith .add .i64 1 (M .arith .rem .i64 (M .conv .i64 zk) 23) = 1 + z.kind.tmod 23 := by
    subst hM
    have := R.bk
    show IntKind.i64.wrap (1 + (IntKind.i64.wrap zk).tmod 23) = _
    rw [R.kind, wrap_i64 (x := z.kind) (by omega) (by omega), wrap_i64 (by omega) (by omega)]
  cbv
  generalize hkd : M .arith .add .i64 1 (M .arith .rem .i64 (M .conv .i64 zk) 23) = kd at ek
  clear hkd
  have E11 : M .cmp .eql kd 11 = false := by subst hM; rw [real_eql]; simp; omega
  have E19 : M .cmp .eql kd 19 = false := by subst hM; rw [real_eql]; simp; omega
  have E21 : M .cmp .eql kd 21 = false := by subst hM; rw [real_eql]; simp; omega
  have E18 : M .cmp .eql kd 18 = true := by subst hM; rw [real_eql]; simp; omega
  refine .mk (by decide) (callL hC (c_shapes _ rfl) fun sh hsh2 => ?_)
  cbv
  obtain ⟨w, hw⟩ : ∃ w, w = bs (shapeS kd) := ⟨_, rfl⟩
  refine .mk [Str w] (by omega) (by rw [hsh2, hw]; exact shapes_get (by omega)) ?_
  have hw : w = bs [86, 114] := by rw [hw, ek, hsh]
  have lenA : (Int.ofNat (M .len zA)) = (z.A.length : Int) := by subst hM; rw [R.A]; show ((u8s z.A).length : Int) = _; simp
  have lenC : (Int.ofNat (M .len zC)) = (z.C.length : Int) := by subst hM; rw [R.C]; show ((i8s z.C).length : Int) = _; simp
  have ch : ∀ (ch : UInt8) (cc y : Int), cc = (ch.toNat : Int) → y = (hasS [86, 114] ch : Int) → C .plain 90 [Str w, U8 cc] (I y) := fun ch cc y h1 h2 => use_call hC (c_has _ w hw ch cc h1 (by decide) y h2)
  have cp : ∀ (n : Int) (rl : List (List PV)) (l : List Int), rl = u8s l → (∀ v ∈ l, 0 ≤ v ∧ v ≤ 255) → l.length ≤ 9223372036854775807 → n ≤ 1000000 → CallIn prog Amb .plain 91 [.list 1 rl, I n, I vars] (.list 1 (ints (placesS l n.toNat vars))) := fun n rl l h1 h2 h3 h4 => c_places rl l n vars h1 h2 h3 h4 (by omega) _ rfl
  have cn : ∀ (f n least wide : Int), 0 ≤ f ∧ f ≤ 1000000 → n ≤ 1000000 → 1 ≤ wide ∧ wide ≤ 100 → CallIn prog Amb .plain 92 [.list 1 zC, I f, I n, I least, I wide] (.list 1 (ints (numsS z.C f.toNat n.toNat least wide))) := fun f n least wide h1 h2 h3 => c_nums zC z.C f n least wide R.C R.bC R.lC h1 h2 h3 _ rfl
  have n3 : (M .cmp .lss (Int.ofNat (M .len zA)) 1 = true ∧ M .cmp .gtr 1 4 = false ∧ Int.toNat 1 = nS0 z ∧ (0 : Int) ≤ 1 ∧ (1 : Int) ≤ 4) ∨ (M .cmp .lss (Int.ofNat (M .len zA)) 1 = false ∧ M .cmp .gtr (Int.ofNat (M .len zA)) 4 = true ∧ Int.toNat 4 = nS0 z ∧ (0 : Int) ≤ 4 ∧ (4 : Int) ≤ 4) ∨ (M .cmp .lss (Int.ofNat (M .len zA)) 1 = false ∧ M .cmp .gtr (Int.ofNat (M .len zA)) 4 = false ∧ (Int.ofNat (M .len zA)).toNat = nS0 z ∧ 0 ≤ Int.ofNat (M .len zA) ∧ Int.ofNat (M .len zA) ≤ 4) := by
    rw [lenA]
    rcases Nat.lt_or_ge z.A.length 1 with h1 | h1
    · exact .inl ⟨by subst hM; rw [real_lss]; simp; omega, by subst hM; rfl, by rw [nS0, if_pos h1]; rfl, by decide, by decide⟩
    · rcases Nat.lt_or_ge 4 z.A.length with h2 | h2
      · exact .inr (.inl ⟨by subst hM; rw [real_lss]; simp; omega, by subst hM; rw [real_gtr]; simp; omega, by rw [nS0, if_neg (by omega), if_pos h2]; rfl, by decide, by decide⟩)
      · exact .inr (.inr ⟨by subst hM; rw [real_lss]; simp; omega, by subst hM; rw [real_gtr]; simp; omega, by rw [nS0, if_neg (by omega), if_neg (by omega)]; simp, by omega, by omega⟩)
  clear hw hsh2 hsh kb kn lenA
  cbv
  rcases n3 with ⟨N1, N2, hn0, hn1, hn4⟩ | ⟨N1, N2, hn0, hn1, hn4⟩ | ⟨N1, N2, hn0, hn1, hn4⟩
  all_goals (
    simp only [N1]
    cbv
    simp only [N2]
    cbv
    refine .mk (I 0) (ch 118 118 0 (by decide) (by decide)) ?_
    cbv
    simp only [G0]
    cbv
    refine callL hC (cp _ _ _ R.A R.bA R.lA (by omega)) fun rA1 hA1 => ?_
    cbv
    refine .mk (I 0) (ch 119 119 0 (by decide) (by decide)) ?_
    cbv
    simp only [G0]
    cbv
    refine .mk (I 0) (ch 87 87 0 (by decide) (by decide)) ?_
    cbv
    simp only [G0]
    cbv
    refine .mk (I 0) (ch 99 99 0 (by decide) (by decide)) ?_
    cbv
    simp only [G0]
    cbv
    simp only [E11]
    cbv
    refine .mk (I 0) (ch 107 107 0 (by decide) (by decide)) ?_
    cbv
    simp only [G0]
    cbv
    simp only [E19]
    cbv
    simp only [E21]
    cbv
    simp only [E18]
    cbv
    refine .mk (by decide) ?_
    cbv
    have hm6 : M .arith .add .i64 1 (M .arith .rem .i64 (Int.ofNat (M .len zC)) 6) = ((1 + z.C.length % 6 : Nat) : Int) := by
      rw [lenC]; subst hM
      show IntKind.i64.wrap (1 + (z.C.length : Int).tmod 6) = _
      rw [show (z.C.length : Int).tmod 6 = ((z.C.length % 6 : Nat) : Int) from rfl, wrap_i64 (by omega) (by omega)]; omega
    have emul : ∀ (j : Nat) (T : Int), j ≤ 6 → 0 ≤ T → T ≤ 4 → M .arith .mul .i64 (Int.ofNat j) T = ((j * T.toNat : Nat) : Int) := fun j T h1 h2 h3 => by
      subst hM
      have hb := Nat.mul_le_mul h1 (show T.toNat ≤ 4 by omega)
      have e : (j : Int) * T = ((j * T.toNat : Nat) : Int) := by rw [Int.natCast_mul, Int.toNat_of_nonneg h2]
      show IntKind.i64.wrap ((j : Int) * T) = _
      rw [e, wrap_i64 (by omega) (by omega)]
    obtain ⟨m, hm⟩ : ∃ m, m = 1 + z.C.length % 6 := ⟨_, rfl⟩
    have hm7 : m ≤ 6 := by omega
    rw [← hm] at hm6
    refine Loop.over (Nat × List (List PV)) (fun q => [(.t 12, I q.1), (.c 2 7, .own 3 0), (.a 3, .arr 0 25 1 q.2), (.i 3, .inf true 0)]) 4 (fun q => m - q.1) (fun q => q.1 ≤ m ∧ q.2 = rowsOf ((List.range q.1).map fun i => numsS z.C (i * nS0 z) (nS0 z) (-1) 4)) (0, []) ⟨Nat.zero_le _, rfl⟩ (by (cbv; repeat' (first | exact True.intro | exact rfl | apply And.intro))) ?_
    rintro ⟨j, q⟩ ⟨hj, hq⟩
    simp only at hj hq
    cbv
    split <;> rename_i h <;> (try simp only [h]) <;> (try cbv) <;> (try simp only [ncast] at *)
    · have hlt : j < m := by
        rw [hm6] at h; subst hM
        have h := of_decide_eq_true h
        have h : (j : Int) < (m : Int) := h
        omega
      refine callL hC (cn _ _ _ _ (by rw [show M .arith .mul .i64 _ _ = _ from emul _ _ (by omega) (by omega) (by omega)]; have := Nat.mul_le_mul (show j ≤ 6 by omega) (show Int.toNat _ ≤ 4 from Int.toNat_le.2 hn4); omega) (by omega) (by omega)) fun rr hr => ?_
      have hrow : rr = ints (numsS z.C (j * nS0 z) (nS0 z) (-1) 4) := by
        rw [hr, show M .arith .mul .i64 _ _ = _ from emul _ _ (by omega) (by omega) (by omega), Int.toNat_natCast, hn0]
      clear hr
      cbv
      refine .mk (by subst hM; simp [hq, rowsOf]; omega) ?_
      cbv
      refine ⟨⟨j + 1, _⟩, ⟨hlt, ?_⟩, ?_, by (cbv; repeat' (first | exact True.intro | exact rfl | apply And.intro)) <;> (subst hM; rw [succ_i64 (by omega)])⟩
      · subst hM
        show q ++ [[.list 1 rr]] = _
        rw [hq, range_map_succ, hrow]; simp [rowsOf]
      · simp only; omega
    · have hj2 : j = m := by
        rw [hm6] at h; subst hM
        have h := of_decide_eq_false h
        have h : ¬ (j : Int) < (m : Int) := h
        omega
      rw [hj2, hm] at hq
      have hR1 := hq
      have HA := H.A
      have HB := H.B
      have HC := H.C
      have HD := H.D
      have HE := H.E
      have HR := H.R
      simp only [← hn0] at HA
      exact ⟨congrArg _ (congrArg _ (ek.trans H.kind.symm)), ⟨hA1.trans HA.symm, trivial⟩, HB, HC, HD, HE, congrArg _ (congrArg _ H.K.symm), ⟨hR1.trans HR.symm, trivial⟩, trivial⟩)
end Go.Pi

/- jigsawref06.Make. -/
namespace Go.Pi
open Go
set_option linter.unusedVariables false
set_option linter.unusedSimpArgs false

set_option maxHeartbeats 4000000 in
set_option maxRecDepth 100000 in
theorem c_make19 (z : Small) (zk zK zc : Int) (zA zB zC : List (List PV)) (R : SmallR z zk zA zB zC zK zc) (vars : Int) (hv : 1 ≤ vars ∧ vars ≤ 1000000) (kind K : Int) (rA rB rC rD rE rR : List (List PV)) (H : ConR (makeS z vars) kind rA rB rC rD rE K rR)
    (hk : 1 + z.kind.tmod 23 = 19) :
    Call .plain 35 [.agg [U8 zk, .list 1 zA, .list 1 zB, .list 1 zC, I16 zK, U8 zc], I vars] (.agg [I kind, .list 1 rA, .list 1 rB, .list 1 rC, .list 1 rD, .list 1 rE, I K, .list 1 rR]) := by
  have hsh : shapeS (1 + z.kind.tmod 23) = [86, 99, 100, 107] := by rcases hk with hk <;> rw [hk] <;> rfl
  have kb := tmod_le z.kind (b := 23) (by decide)
  have kn : 0 ≤ z.kind.tmod 23 := Int.tmod_nonneg _ R.bk.1
  have q11 : ¬ 1 + z.kind.tmod 23 = 11 := by omega
  have q19 : 1 + z.kind.tmod 23 = 19 := by omega
  have q21 : ¬ 1 + z.kind.tmod 23 = 21 := by omega
  have q18 : ¬ 1 + z.kind.tmod 23 = 18 := by omega
  have h118 : hasS [86, 99, 100, 107] 118 = 0 := by decide
  have h119 : hasS [86, 99, 100, 107] 119 = 0 := by decide
  have h87 : hasS [86, 99, 100, 107] 87 = 0 := by decide
  have h99 : hasS [86, 99, 100, 107] 99 = 1 := by decide
  have h107 : hasS [86, 99, 100, 107] 107 = 1 := by decide
  have mk : makeS z vars = { kind := 1 + z.kind.tmod 23, A := placesS z.A (nS0 z) vars, B := [], C := numsS z.C 0 (nS0 z) 0 4, D := numsS z.C (nS0 z) (nS0 z) 0 4, E := [], K := if z.K.tmod 12 < 0 then -(z.K.tmod 12) else z.K.tmod 12, R := [] } := by
    have hshk : shapeS 19 = [86, 99, 100, 107] := rfl
    simp [makeS, hsh, hshk, nS, q11, q19, q21, q18, h118, h119, h87, h99, h107]
  clear h118 h119 h87 h99 h107 q11 q19 q21 q18
  rw [mk] at H
  clear mk
  have keq : ∀ M : Mach, M = Real → M .arith .rem .i64 (M .conv .i64 zK) 12 = z.K.tmod 12 := fun M hM => by
    subst hM
    have := R.bK
    show (IntKind.i64.wrap zK).tmod 12 = _
    rw [R.K, wrap_i64 (x := z.K) (by omega) (by omega)]
  refine call_of Proofs.Tryz.func35 Proofs.Tryz.call35 rfl rfl fun M C hM hC => ?_
  have G0 : M .cmp .gtr 0 0 = false := by subst hM; rfl
  have G1 : M .cmp .gtr 1 0 = true := by subst hM; rfl
  have G2 : M .cmp .gtr 2 0 = true := by subst hM; rfl
  have G3 : M .cmp .gtr 3 0 = true := by subst hM; rfl
  have ek : M .arith .add .i64 1 (M .arith .rem .i64 (M .conv .i64 zk) 23) = 1 + z.kind.tmod 23 := by
    subst hM
    have := R.bk
    show IntKind.i64.wrap (1 + (IntKind.i64.wrap zk).tmod 23) = _
    rw [R.kind, wrap_i64 (x := z.kind) (by omega) (by omega), wrap_i64 (by omega) (by omega)]
  cbv
  generalize hkd : M .arith .add .i64 1 (M .arith .rem .i64 (M .conv .i64 zk) 23) = kd at ek
  clear hkd
  have E11 : M .cmp .eql kd 11 = false := by subst hM; rw [real_eql]; simp; omega
  have E19 : M .cmp .eql kd 19 = true := by subst hM; rw [real_eql]; simp; omega
  have E21 : M .cmp .eql kd 21 = false := by subst hM; rw [real_eql]; simp; omega
  have E18 : M .cmp .eql kd 18 = false := by subst hM; rw [real_eql]; simp; omega
  refine .mk (by decide) (callL hC (c_shapes _ rfl) fun sh hsh2 => ?_)
  cbv
  obtain ⟨w, hw⟩ : ∃ w, w = bs (shapeS kd) := ⟨_, rfl⟩
  refine .mk [Str w] (by omega) (by rw [hsh2, hw]; exact shapes_get (by omega)) ?_
  have hw : w = bs [86, 99, 100, 107] := by rw [hw, ek, hsh]
  have lenA : (Int.ofNat (M .len zA)) = (z.A.length : Int) := by subst hM; rw [R.A]; show ((u8s z.A).length : Int) = _; simp
  have lenC : (Int.ofNat (M .len zC)) = (z.C.length : Int) := by subst hM; rw [R.C]; show ((i8s z.C).length : Int) = _; simp
  have ch : ∀ (ch : UInt8) (cc y : Int), cc = (ch.toNat : Int) → y = (hasS [86, 99, 100, 107] ch : Int) → C .plain 90 [Str w, U8 cc] (I y) := fun ch cc y h1 h2 => use_call hC (c_has _ w hw ch cc h1 (by decide) y h2)
  have cp : ∀ (n : Int) (rl : List (List PV)) (l : List Int), rl = u8s l → (∀ v ∈ l, 0 ≤ v ∧ v ≤ 255) → l.length ≤ 9223372036854775807 → n ≤ 1000000 → CallIn prog Amb .plain 91 [.list 1 rl, I n, I vars] (.list 1 (ints (placesS l n.toNat vars))) := fun n rl l h1 h2 h3 h4 => c_places rl l n vars h1 h2 h3 h4 (by omega) _ rfl
  have cn : ∀ (f n least wide : Int), 0 ≤ f ∧ f ≤ 1000000 → n ≤ 1000000 → 1 ≤ wide ∧ wide ≤ 100 → CallIn prog Amb .plain 92 [.list 1 zC, I f, I n, I least, I wide] (.list 1 (ints (numsS z.C f.toNat n.toNat least wide))) := fun f n least wide h1 h2 h3 => c_nums zC z.C f n least wide R.C R.bC R.lC h1 h2 h3 _ rfl
  have n3 : (M .cmp .lss (Int.ofNat (M .len zA)) 1 = true ∧ M .cmp .gtr 1 4 = false ∧ Int.toNat 1 = nS0 z ∧ (0 : Int) ≤ 1 ∧ (1 : Int) ≤ 4) ∨ (M .cmp .lss (Int.ofNat (M .len zA)) 1 = false ∧ M .cmp .gtr (Int.ofNat (M .len zA)) 4 = true ∧ Int.toNat 4 = nS0 z ∧ (0 : Int) ≤ 4 ∧ (4 : Int) ≤ 4) ∨ (M .cmp .lss (Int.ofNat (M .len zA)) 1 = false ∧ M .cmp .gtr (Int.ofNat (M .len zA)) 4 = false ∧ (Int.ofNat (M .len zA)).toNat = nS0 z ∧ 0 ≤ Int.ofNat (M .len zA) ∧ Int.ofNat (M .len zA) ≤ 4) := by
    rw [lenA]
    rcases Nat.lt_or_ge z.A.length 1 with h1 | h1
    · exact .inl ⟨by subst hM; rw [real_lss]; simp; omega, by subst hM; rfl, by rw [nS0, if_pos h1]; rfl, by decide, by decide⟩
    · rcases Nat.lt_or_ge 4 z.A.length with h2 | h2
      · exact .inr (.inl ⟨by subst hM; rw [real_lss]; simp; omega, by subst hM; rw [real_gtr]; simp; omega, by rw [nS0, if_neg (by omega), if_pos h2]; rfl, by decide, by decide⟩)
      · exact .inr (.inr ⟨by subst hM; rw [real_lss]; simp; omega, by subst hM; rw [real_gtr]; simp; omega, by rw [nS0, if_neg (by omega), if_neg (by omega)]; simp, by omega, by omega⟩)
  clear hw hsh2 hsh kb kn lenA
  cbv
  rcases n3 with ⟨N1, N2, hn0, hn1, hn4⟩ | ⟨N1, N2, hn0, hn1, hn4⟩ | ⟨N1, N2, hn0, hn1, hn4⟩
  all_goals (
    simp only [N1]
    cbv
    simp only [N2]
    cbv
    refine .mk (I 0) (ch 118 118 0 (by decide) (by decide)) ?_
    cbv
    simp only [G0]
    cbv
    refine callL hC (cp _ _ _ R.A R.bA R.lA (by omega)) fun rA1 hA1 => ?_
    cbv
    refine .mk (I 0) (ch 119 119 0 (by decide) (by decide)) ?_
    cbv
    simp only [G0]
    cbv
    refine .mk (I 0) (ch 87 87 0 (by decide) (by decide)) ?_
    cbv
    simp only [G0]
    cbv
    refine .mk (I 1) (ch 99 99 1 (by decide) (by decide)) ?_
    cbv
    simp only [G1]
    cbv
    refine callL hC (cn _ _ _ _ (by omega) (by omega) (by omega)) fun rC1 hC1 => ?_
    cbv
    simp only [E11]
    cbv
    refine .mk (I 1) (ch 107 107 1 (by decide) (by decide)) ?_
    cbv
    simp only [G1]
    cbv
    refine .mk (by decide) ?_
    cbv
    simp only [E19]
    cbv
    refine callL hC (cn _ _ _ _ (by omega) (by omega) (by omega)) fun rC2 hC2 => ?_
    cbv
    refine callL hC (cn _ _ _ _ (by omega) (by omega) (by omega)) fun rD1 hD1 => ?_
    cbv
    have ke := keq M hM
    have kb := tmod_le z.K (b := 12) (by decide)
    split <;> rename_i h <;> (try simp only [h]) <;> (try cbv)
    · have h2 : z.K.tmod 12 < 0 := by rw [← ke]; subst hM; exact of_decide_eq_true h
      have hK19 : M .un .neg .i64 (M .arith .rem .i64 (M .conv .i64 zK) 12) = if z.K.tmod 12 < 0 then -(z.K.tmod 12) else z.K.tmod 12 := by
        rw [if_pos h2, ke]; subst hM
        show IntKind.i64.wrap (0 - z.K.tmod 12) = _
        rw [wrap_i64 (by omega) (by omega)]; omega
      simp only [E21]
      cbv
      simp only [E18]
      cbv
      have HA := H.A
      have HB := H.B
      have HC := H.C
      have HD := H.D
      have HE := H.E
      have HR := H.R
      simp only [← hn0] at HA HC HD
      exact ⟨congrArg _ (congrArg _ (ek.trans H.kind.symm)), ⟨hA1.trans HA.symm, trivial⟩, HB, ⟨hC2.trans HC.symm, trivial⟩, ⟨hD1.trans HD.symm, trivial⟩, HE, congrArg _ (congrArg _ (hK19.trans H.K.symm)), HR, trivial⟩
    · have h2 : ¬ z.K.tmod 12 < 0 := by rw [← ke]; subst hM; exact of_decide_eq_false h
      have hK19 : M .arith .rem .i64 (M .conv .i64 zK) 12 = if z.K.tmod 12 < 0 then -(z.K.tmod 12) else z.K.tmod 12 := by
        rw [if_neg h2, ke]
      simp only [E21]
      cbv
      simp only [E18]
      cbv
      have HA := H.A
      have HB := H.B
      have HC := H.C
      have HD := H.D
      have HE := H.E
      have HR := H.R
      simp only [← hn0] at HA HC HD
      exact ⟨congrArg _ (congrArg _ (ek.trans H.kind.symm)), ⟨hA1.trans HA.symm, trivial⟩, HB, ⟨hC2.trans HC.symm, trivial⟩, ⟨hD1.trans HD.symm, trivial⟩, HE, congrArg _ (congrArg _ (hK19.trans H.K.symm)), HR, trivial⟩)

set_option maxHeartbeats 4000000 in
set_option maxRecDepth 100000 in
theorem c_make21 (z : Small) (zk zK zc : Int) (zA zB zC : List (List PV)) (R : SmallR z zk zA zB zC zK zc) (vars : Int) (hv : 1 ≤ vars ∧ vars ≤ 1000000) (kind K : Int) (rA rB rC rD rE rR : List (List PV)) (H : ConR (makeS z vars) kind rA rB rC rD rE K rR)
    (hk : 1 + z.kind.tmod 23 = 21) :
    Call .plain 35 [.agg [U8 zk, .list 1 zA, .list 1 zB, .list 1 zC, I16 zK, U8 zc], I vars] (.agg [I kind, .list 1 rA, .list 1 rB, .list 1 rC, .list 1 rD, .list 1 rE, I K, .list 1 rR]) := by
  have hsh : shapeS (1 + z.kind.tmod 23) = [86, 99, 100, 101] := by rcases hk with hk <;> rw [hk] <;> rfl
  have kb := tmod_le z.kind (b := 23) (by decide)
  have kn : 0 ≤ z.kind.tmod 23 := Int.tmod_nonneg _ R.bk.1
  have q11 : ¬ 1 + z.kind.tmod 23 = 11 := by omega
  have q19 : ¬ 1 + z.kind.tmod 23 = 19 := by omega
  have q21 : 1 + z.kind.tmod 23 = 21 := by omega
  have q18 : ¬ 1 + z.kind.tmod 23 = 18 := by omega
  have h118 : hasS [86, 99, 100, 101] 118 = 0 := by decide
  have h119 : hasS [86, 99, 100, 101] 119 = 0 := by decide
  have h87 : hasS [86, 99, 100, 101] 87 = 0 := by decide
  have h99 : hasS [86, 99, 100, 101] 99 = 1 := by decide
  have h107 : hasS [86, 99, 100, 101] 107 = 0 := by decide
  have mk : makeS z vars = { kind := 1 + z.kind.tmod 23, A := placesS z.A (nS0 z) vars, B := [], C := (List.range (1 + z.C.length % 3)).map fun i : Nat => z.K.tmod 3 + (i : Int), D := numsS z.C 0 (1 + z.C.length % 3) 0 2, E := (List.range (1 + z.C.length % 3)).map fun i => (numsS z.C 0 (1 + z.C.length % 3) 0 2).getD i 0 + (z.ch / 2 ^ i).tmod 3, K := 0, R := [] } := by
    have hshk : shapeS 21 = [86, 99, 100, 101] := rfl
    simp [makeS, hsh, hshk, nS, q11, q19, q21, q18, h118, h119, h87, h99, h107]
  clear h118 h119 h87 h99 h107 q11 q19 q21 q18
  rw [mk] at H
  clear mk
  have keq : ∀ M : Mach, M = Real → M .arith .rem .i64 (M .conv .i64 zK) 12 = z.K.tmod 12 := fun M hM => by
    subst hM
    have := R.bK
    show (IntKind.i64.wrap zK).tmod 12 = _
    rw [R.K, wrap_i64 (x := z.K) (by omega) (by omega)]
  refine call_of Proofs.Tryz.func35 Proofs.Tryz.call35 rfl rfl fun M C hM hC => ?_
  have G0 : M .cmp .gtr 0 0 = false := by subst hM; rfl
  have G1 : M .cmp .gtr 1 0 = true := by subst hM; rfl
  have G2 : M .cmp .gtr 2 0 = true := by subst hM; rfl
  have G3 : M .cmp .gtr 3 0 = true := by subst hM; rfl
  have ek : M .arith .add .i64 1 (M .arith .rem .i64 (M .conv .i64 zk) 23) = 1 + z.kind.tmod 23 := by
    subst hM
    have := R.bk
    show IntKind.i64.wrap (1 + (IntKind.i64.wrap zk).tmod 23) = _
    rw [R.kind, wrap_i64 (x := z.kind) (by omega) (by omega), wrap_i64 (by omega) (by omega)]
  cbv
  generalize hkd : M .arith .add .i64 1 (M .arith .rem .i64 (M .conv .i64 zk) 23) = kd at ek
  clear hkd
  have E11 : M .cmp .eql kd 11 = false := by subst hM; rw [real_eql]; simp; omega
  have E19 : M .cmp .eql kd 19 = false := by subst hM; rw [real_eql]; simp; omega
  have E21 : M .cmp .eql kd 21 = true := by subst hM; rw [real_eql]; simp; omega
  have E18 : M .cmp .eql kd 18 = false := by subst hM; rw [real_eql]; simp; omega
  refine .mk (by decide) (callL hC (c_shapes _ rfl) fun sh hsh2 => ?_)
  cbv
  obtain ⟨w, hw⟩ : ∃ w, w = bs (shapeS kd) := ⟨_, rfl⟩
  refine .mk [Str w] (by omega) (by rw [hsh2, hw]; exact shapes_get (by omega)) ?_
  have hw : w = bs [86, 99, 100, 101] := by rw [hw, ek, hsh]
  have lenA : (Int.ofNat (M .len zA)) = (z.A.length : Int) := by subst hM; rw [R.A]; show ((u8s z.A).length : Int) = _; simp
  have lenC : (Int.ofNat (M .len zC)) = (z.C.length : Int) := by subst hM; rw [R.C]; show ((i8s z.C).length : Int) = _; simp
  have ch : ∀ (ch : UInt8) (cc y : Int), cc = (ch.toNat : Int) → y = (hasS [86, 99, 100, 101] ch : Int) → C .plain 90 [Str w, U8 cc] (I y) := fun ch cc y h1 h2 => use_call hC (c_has _ w hw ch cc h1 (by decide) y h2)
  have cp : ∀ (n : Int) (rl : List (List PV)) (l : List Int), rl = u8s l → (∀ v ∈ l, 0 ≤ v ∧ v ≤ 255) → l.length ≤ 9223372036854775807 → n ≤ 1000000 → CallIn prog Amb .plain 91 [.list 1 rl, I n, I vars] (.list 1 (ints (placesS l n.toNat vars))) := fun n rl l h1 h2 h3 h4 => c_places rl l n vars h1 h2 h3 h4 (by omega) _ rfl
  have cn : ∀ (f n least wide : Int), 0 ≤ f ∧ f ≤ 1000000 → n ≤ 1000000 → 1 ≤ wide ∧ wide ≤ 100 → CallIn prog Amb .plain 92 [.list 1 zC, I f, I n, I least, I wide] (.list 1 (ints (numsS z.C f.toNat n.toNat least wide))) := fun f n least wide h1 h2 h3 => c_nums zC z.C f n least wide R.C R.bC R.lC h1 h2 h3 _ rfl
  have n3 : (M .cmp .lss (Int.ofNat (M .len zA)) 1 = true ∧ M .cmp .gtr 1 4 = false ∧ Int.toNat 1 = nS0 z ∧ (0 : Int) ≤ 1 ∧ (1 : Int) ≤ 4) ∨ (M .cmp .lss (Int.ofNat (M .len zA)) 1 = false ∧ M .cmp .gtr (Int.ofNat (M .len zA)) 4 = true ∧ Int.toNat 4 = nS0 z ∧ (0 : Int) ≤ 4 ∧ (4 : Int) ≤ 4) ∨ (M .cmp .lss (Int.ofNat (M .len zA)) 1 = false ∧ M .cmp .gtr (Int.ofNat (M .len zA)) 4 = false ∧ (Int.ofNat (M .len zA)).toNat = nS0 z ∧ 0 ≤ Int.ofNat (M .len zA) ∧ Int.ofNat (M .len zA) ≤ 4) := by
    rw [lenA]
    rcases Nat.lt_or_ge z.A.length 1 with h1 | h1
    · exact .inl ⟨by subst hM; rw [real_lss]; simp; omega, by subst hM; rfl, by rw [nS0, if_pos h1]; rfl, by decide, by decide⟩
    · rcases Nat.lt_or_ge 4 z.A.length with h2 | h2
      · exact .inr (.inl ⟨by subst hM; rw [real_lss]; simp; omega, by subst hM; rw [real_gtr]; simp; omega, by rw [nS0, if_neg (by omega), if_pos h2]; rfl, by decide, by decide⟩)
      · exact .inr (.inr ⟨by subst hM; rw [real_lss]; simp; omega, by subst hM; rw [real_gtr]; simp; omega, by rw [nS0, if_neg (by omega), if_neg (by omega)]; simp, by omega, by omega⟩)
  clear hw hsh2 hsh kb kn lenA
  cbv
  rcases n3 with ⟨N1, N2, hn0, hn1, hn4⟩ | ⟨N1, N2, hn0, hn1, hn4⟩ | ⟨N1, N2, hn0, hn1, hn4⟩
  all_goals (
    simp only [N1]
    cbv
    simp only [N2]
    cbv
    refine .mk (I 0) (ch 118 118 0 (by decide) (by decide)) ?_
    cbv
    simp only [G0]
    cbv
    refine callL hC (cp _ _ _ R.A R.bA R.lA (by omega)) fun rA1 hA1 => ?_
    cbv
    refine .mk (I 0) (ch 119 119 0 (by decide) (by decide)) ?_
    cbv
    simp only [G0]
    cbv
    refine .mk (I 0) (ch 87 87 0 (by decide) (by decide)) ?_
    cbv
    simp only [G0]
    cbv
    refine .mk (I 1) (ch 99 99 1 (by decide) (by decide)) ?_
    cbv
    simp only [G1]
    cbv
    refine callL hC (cn _ _ _ _ (by omega) (by omega) (by omega)) fun rC1 hC1 => ?_
    cbv
    simp only [E11]
    cbv
    refine .mk (I 0) (ch 107 107 0 (by decide) (by decide)) ?_
    cbv
    simp only [G0]
    cbv
    simp only [E19]
    cbv
    simp only [E21]
    cbv
    refine .mk (by decide) ?_
    cbv
    have hm6 : M .arith .add .i64 1 (M .arith .rem .i64 (Int.ofNat (M .len zC)) 3) = ((1 + z.C.length % 3 : Nat) : Int) := by
      rw [lenC]; subst hM
      show IntKind.i64.wrap (1 + (z.C.length : Int).tmod 3) = _
      rw [show (z.C.length : Int).tmod 3 = ((z.C.length % 3 : Nat) : Int) from rfl, wrap_i64 (by omega) (by omega)]; omega
    have ke : M .arith .rem .i64 (M .conv .i64 zK) 3 = z.K.tmod 3 := by
      subst hM
      have := R.bK
      show (IntKind.i64.wrap zK).tmod 3 = _
      rw [R.K, wrap_i64 (x := z.K) (by omega) (by omega)]
    have kb := tmod_le z.K (b := 3) (by decide)
    obtain ⟨m, hm⟩ : ∃ m, m = 1 + z.C.length % 3 := ⟨_, rfl⟩
    have hm7 : m ≤ 3 := by omega
    rw [← hm] at hm6
    refine Loop.over (Nat × List (List PV)) (fun q => [(.t 9, I q.1), (.c 2 3, .own 3 0), (.a 3, .arr 0 3 1 q.2), (.i 3, .inf true 0)]) 4 (fun q => m - q.1) (fun q => q.1 ≤ m ∧ q.2 = ints ((List.range q.1).map fun i : Nat => z.K.tmod 3 + (i : Int))) (0, []) ⟨Nat.zero_le _, rfl⟩ (by (cbv; repeat' (first | exact True.intro | exact rfl | apply And.intro))) ?_
    rintro ⟨j, q⟩ ⟨hj, hq⟩
    simp only at hj hq
    cbv
    split <;> rename_i h <;> (try simp only [h]) <;> (try cbv) <;> (try simp only [ncast] at *)
    · have hlt : j < m := by
        rw [hm6] at h; subst hM
        have h := of_decide_eq_true h
        have h : (j : Int) < (m : Int) := h
        omega
      refine .mk (by decide) ?_
      cbv
      refine .mk (by subst hM; simp [hq]; omega) ?_
      cbv
      refine ⟨⟨j + 1, _⟩, ⟨hlt, ?_⟩, ?_, by (cbv; repeat' (first | exact True.intro | exact rfl | apply And.intro)) <;> (subst hM; rw [succ_i64 (by omega)])⟩
      · rw [show M .arith .rem .i64 (M .conv .i64 zK) 3 = _ from ke]
        subst hM
        show q ++ [[I (IntKind.i64.wrap (z.K.tmod 3 + (j : Int)))]] = _
        rw [wrap_i64 (by omega) (by omega), hq, range_map_succ, ← ints_app]; rfl
      · simp only; omega
    · have hj2 : j = m := by
        rw [hm6] at h; subst hM
        have h := of_decide_eq_false h
        have h : ¬ (j : Int) < (m : Int) := h
        omega
      have hC2 : q = ints ((List.range (1 + z.C.length % 3)).map fun i : Nat => z.K.tmod 3 + (i : Int)) := by rw [hq, hj2, hm]
      refine callL hC (cn _ _ _ _ (by omega) (by rw [show M .arith .add .i64 1 _ = _ from hm6]; omega) (by omega)) fun rD1 hD1 => ?_
      have hD1 : rD1 = ints (numsS z.C 0 m 0 2) := by rw [hD1, show M .arith .add .i64 1 _ = _ from hm6]; rfl
      obtain ⟨D, hD⟩ : ∃ D, D = numsS z.C 0 m 0 2 := ⟨_, rfl⟩
      have lD : D.length = m := by rw [hD]; simp [numsS]
      have bD : ∀ i, -2 ≤ D.getD i 0 ∧ D.getD i 0 ≤ 2 := fun i => mem_getD_bounds (by
        intro v hv
        rw [hD, numsS] at hv
        obtain ⟨i, _, rfl⟩ := List.mem_map.1 hv
        unfold numS
        have tb := tmod_le (if 0 + i < z.C.length then z.C.getD (0 + i) 0 else 1) (b := 2) (by decide)
        simp only
        generalize (if 0 + i < z.C.length then z.C.getD (0 + i) 0 else 1).tmod 2 = t at tb
        split <;> omega) (by omega) i
      rw [← hD] at hD1
      clear hq hj hj2
      cbv
      refine Loop.over (Nat × List (List PV)) (fun q => [(.t 10, I q.1), (.c 2 5, .own 4 0), (.a 4, .arr 0 3 1 q.2), (.i 4, .inf true 0)]) 5 (fun q => m - q.1) (fun q => q.1 ≤ m ∧ q.2 = ints ((List.range q.1).map fun i => D.getD i 0 + (z.ch / 2 ^ i).tmod 3)) (0, []) ⟨Nat.zero_le _, rfl⟩ (by (cbv; repeat' (first | exact True.intro | exact rfl | apply And.intro))) ?_
      rintro ⟨i, p⟩ ⟨hi, hp⟩
      simp only at hi hp
      cbv
      split <;> rename_i h <;> (try simp only [h]) <;> (try cbv) <;> (try simp only [ncast] at *)
      · have hlt : i < m := by
          rw [hm6] at h; subst hM
          have h := of_decide_eq_true h
          have h : (i : Int) < (m : Int) := h
          omega
        refine nidx_ints hD1 (by omega) fun d hd => ?_
        have bd := bD i
        rw [← hd] at bd
        cbv
        refine .mk (Int.natCast_nonneg _) ?_
        cbv
        refine .mk (by decide) ?_
        cbv
        refine .mk (by subst hM; simp [hp]; omega) ?_
        cbv
        refine ⟨⟨i + 1, _⟩, ⟨hlt, ?_⟩, ?_, by (cbv; repeat' (first | exact True.intro | exact rfl | apply And.intro)) <;> (subst hM; rw [succ_i64 (by omega)])⟩
        · have tb := tmod_le (z.ch / 2 ^ i) (b := 3) (by decide)
          have es : M .shift .shr .i64 (M .conv .i64 zc) (Int.ofNat i) = z.ch / 2 ^ i := by
            subst hM
            have := R.bch
            show (IntKind.i64.wrap zc).fdiv (2 ^ (min (Int.ofNat i).toNat 64)) = _
            rw [R.ch, wrap_i64 (by omega) (by omega), Int.fdiv_eq_ediv_of_nonneg _ (Int.le_of_lt (Int.pow_pos (by decide))), show min (Int.ofNat i).toNat 64 = i from by show min i 64 = i; omega]
          rw [show M .shift .shr .i64 (M .conv .i64 zc) _ = _ from es]
          subst hM
          show p ++ [[I (IntKind.i64.wrap (d + (z.ch / 2 ^ i).tmod 3))]] = _
          rw [wrap_i64 (by omega) (by omega), hp, range_map_succ, ← ints_app, hd]; rfl
        · simp only; omega
      · have hj2 : i = m := by
          rw [hm6] at h; subst hM
          have h := of_decide_eq_false h
          have h : ¬ (i : Int) < (m : Int) := h
          omega
        have hE1 : p = ints ((List.range (1 + z.C.length % 3)).map fun i => (numsS z.C 0 (1 + z.C.length % 3) 0 2).getD i 0 + (z.ch / 2 ^ i).tmod 3) := by rw [hp, hj2, hD, hm]
        rw [hD, hm] at hD1
        clear hp hD
        simp only [E18]
        cbv
        have HA := H.A
        have HB := H.B
        have HC := H.C
        have HD := H.D
        have HE := H.E
        have HR := H.R
        simp only [← hn0] at HA
        exact ⟨congrArg _ (congrArg _ (ek.trans H.kind.symm)), ⟨hA1.trans HA.symm, trivial⟩, HB, ⟨hC2.trans HC.symm, trivial⟩, ⟨hD1.trans HD.symm, trivial⟩, ⟨hE1.trans HE.symm, trivial⟩, congrArg _ (congrArg _ H.K.symm), HR, trivial⟩)
end Go.Pi

/- jigsawref06.Make: all classes. -/
namespace Go.Pi
open Go
set_option linter.unusedVariables false

theorem c_make (z : Small) (zk zK zc : Int) (zA zB zC : List (List PV)) (R : SmallR z zk zA zB zC zK zc) (vars : Int) (hv : 1 ≤ vars ∧ vars ≤ 1000000) (kind K : Int) (rA rB rC rD rE rR : List (List PV)) (H : ConR (makeS z vars) kind rA rB rC rD rE K rR) :
    Call .plain 35 [.agg [U8 zk, .list 1 zA, .list 1 zB, .list 1 zC, I16 zK, U8 zc], I vars] (.agg [I kind, .list 1 rA, .list 1 rB, .list 1 rC, .list 1 rD, .list 1 rE, I K, .list 1 rR]) := by
  have kb := tmod_le z.kind (b := 23) (by decide)
  have kn : 0 ≤ z.kind.tmod 23 := Int.tmod_nonneg _ R.bk.1
  rcases kinds23 (k := 1 + z.kind.tmod 23) (by omega) with hk | hk | hk | hk | hk | hk | hk | hk | hk | hk | hk | hk | hk | hk | hk | hk | hk | hk | hk | hk | hk | hk | hk
  · exact c_make1 z zk zK zc zA zB zC R vars hv kind K rA rB rC rD rE rR H (by omega)
  · exact c_make1 z zk zK zc zA zB zC R vars hv kind K rA rB rC rD rE rR H (by omega)
  · exact c_make1 z zk zK zc zA zB zC R vars hv kind K rA rB rC rD rE rR H (by omega)
  · exact c_make4 z zk zK zc zA zB zC R vars hv kind K rA rB rC rD rE rR H (by omega)
  · exact c_make5 z zk zK zc zA zB zC R vars hv kind K rA rB rC rD rE rR H (by omega)
  · exact c_make5 z zk zK zc zA zB zC R vars hv kind K rA rB rC rD rE rR H (by omega)
  · exact c_make5 z zk zK zc zA zB zC R vars hv kind K rA rB rC rD rE rR H (by omega)
  · exact c_make8 z zk zK zc zA zB zC R vars hv kind K rA rB rC rD rE rR H (by omega)
  · exact c_make5 z zk zK zc zA zB zC R vars hv kind K rA rB rC rD rE rR H (by omega)
  · exact c_make5 z zk zK zc zA zB zC R vars hv kind K rA rB rC rD rE rR H (by omega)
  · exact c_make11 z zk zK zc zA zB zC R vars hv kind K rA rB rC rD rE rR H (by omega)
  · exact c_make12 z zk zK zc zA zB zC R vars hv kind K rA rB rC rD rE rR H (by omega)
  · exact c_make13 z zk zK zc zA zB zC R vars hv kind K rA rB rC rD rE rR H (by omega)
  · exact c_make13 z zk zK zc zA zB zC R vars hv kind K rA rB rC rD rE rR H (by omega)
  · exact c_make13 z zk zK zc zA zB zC R vars hv kind K rA rB rC rD rE rR H (by omega)
  · exact c_make13 z zk zK zc zA zB zC R vars hv kind K rA rB rC rD rE rR H (by omega)
  · exact c_make17 z zk zK zc zA zB zC R vars hv kind K rA rB rC rD rE rR H (by omega)
  · exact c_make18 z zk zK zc zA zB zC R vars hv kind K rA rB rC rD rE rR H (by omega)
  · exact c_make19 z zk zK zc zA zB zC R vars hv kind K rA rB rC rD rE rR H (by omega)
  · exact c_make17 z zk zK zc zA zB zC R vars hv kind K rA rB rC rD rE rR H (by omega)
  · exact c_make21 z zk zK zc zA zB zC R vars hv kind K rA rB rC rD rE rR H (by omega)
  · exact c_make12 z zk zK zc zA zB zC R vars hv kind K rA rB rC rD rE rR H (by omega)
  · exact c_make12 z zk zK zc zA zB zC R vars hv kind K rA rB rC rD rE rR H (by omega)
end Go.Pi
