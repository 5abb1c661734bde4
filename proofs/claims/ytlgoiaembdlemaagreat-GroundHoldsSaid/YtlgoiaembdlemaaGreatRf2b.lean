/- jigsawref06.Make. -/
import Derived.Test.YtlgoiaembdlemaaGreatRf1
set_option linter.unusedSimpArgs false
set_option linter.unusedVariables false
namespace Go.Pi
open Go
set_option linter.unusedVariables false
set_option linter.unusedSimpArgs false

set_option maxHeartbeats 4000000 in
set_option maxRecDepth 100000 in
theorem c_make8 (z : Small) (zk zK zc : Int) (zA zB zC : List (List PV)) (R : SmallR z zk zA zB zC zK zc) (vars : Int) (hv : 1 ≤ vars ∧ vars ≤ 1000000) (kind K : Int) (rA rB rC rD rE rR : List (List PV)) (H : ConR (makeS z vars) kind rA rB rC rD rE K rR)
    (hk : 1 + z.kind.tmod 23 = 8) :
    Call .plain 4 [.agg [U8 zk, .list 1 zA, .list 1 zB, .list 1 zC, I16 zK, U8 zc], I vars] (.agg [I kind, .list 1 rA, .list 1 rB, .list 1 rC, .list 1 rD, .list 1 rE, I K, .list 1 rR]) := by
  have hsh : shapeS (1 + z.kind.tmod 23) = [118, 118] := by rcases hk with hk <;> rw [hk] <;> rfl
  have kb := tmod_le z.kind (b := 23) (by decide)
  have kn : 0 ≤ z.kind.tmod 23 := Int.tmod_nonneg _ R.bk.1
  have q11 : ¬ 1 + z.kind.tmod 23 = 11 := by omega
  have q19 : ¬ 1 + z.kind.tmod 23 = 19 := by omega
  have q21 : ¬ 1 + z.kind.tmod 23 = 21 := by omega
  have q18 : ¬ 1 + z.kind.tmod 23 = 18 := by omega
  have h118 : hasS [118, 118] 118 = 2 := by decide
  have h119 : hasS [118, 118] 119 = 0 := by decide
  have h87 : hasS [118, 118] 87 = 0 := by decide
  have h99 : hasS [118, 118] 99 = 0 := by decide
  have h107 : hasS [118, 118] 107 = 0 := by decide
  have mk : makeS z vars = { kind := 1 + z.kind.tmod 23, A := placesS z.A (2) vars, B := [], C := [], D := [], E := [], K := 0, R := [] } := by
    have hshk : shapeS 8 = [118, 118] := rfl
    simp [makeS, hsh, hshk, nS, q11, q19, q21, q18, h118, h119, h87, h99, h107]
  clear h118 h119 h87 h99 h107 q11 q19 q21 q18
  rw [mk] at H
  clear mk
  have keq : ∀ M : Mach, M = Real → M .arith .rem .i64 (M .conv .i64 zK) 12 = z.K.tmod 12 := fun M hM => by
    subst hM
    have := R.bK
    show (IntKind.i64.wrap zK).tmod 12 = _
    rw [R.K, wrap_i64 (x := z.K) (by omega) (by omega)]
  refine call_of Proofs.Tryz.func4 Proofs.Tryz.call4 rfl rfl fun M C hM hC => ?_
  have G0 : M .cmp .gtr 0 0 = false := by subst hM; rfl
  have G1 : M .cmp .gtr 1 0 = true := by subst hM; rfl
  have G2 : M .cmp .gtr 2 0 = true := by subst hM; rfl
  have G3 : M .cmp .gtr 3 0 = true := by subst hM; rfl
  have ek : M .arith .add .i64 1 (M .arith .rem .i64 (M .conv .i64 zk) 23) = 1 + z.kind.tmod 23 := by
    subst hM
    have := R.bk
    show IntKind.i64.wrap (1 + (IntKind.i64.wrap zk).tmod 23) = _
    rw [R.kind, wrap_i64 (x := z.kind) (by omega) (by omega), wrap_i64 (by omega) (by omega)]
  cbv
  generalize hkd : M .arith .add .i64 1 (M .arith .rem .i64 (M .conv .i64 zk) 23) = kd at ek
  clear hkd
  have E11 : M .cmp .eql kd 11 = false := by subst hM; rw [real_eql]; simp; omega
  have E19 : M .cmp .eql kd 19 = false := by subst hM; rw [real_eql]; simp; omega
  have E21 : M .cmp .eql kd 21 = false := by subst hM; rw [real_eql]; simp; omega
  have E18 : M .cmp .eql kd 18 = false := by subst hM; rw [real_eql]; simp; omega
  refine .mk (by decide) (callL hC (c_shapes _ rfl) fun sh hsh2 => ?_)
  cbv
  obtain ⟨w, hw⟩ : ∃ w, w = bs (shapeS kd) := ⟨_, rfl⟩
  refine .mk [Str w] (by omega) (by rw [hsh2, hw]; exact shapes_get (by omega)) ?_
  have hw : w = bs [118, 118] := by rw [hw, ek, hsh]
  have lenA : (Int.ofNat (M .len zA)) = (z.A.length : Int) := by subst hM; rw [R.A]; show ((u8s z.A).length : Int) = _; simp
  have lenC : (Int.ofNat (M .len zC)) = (z.C.length : Int) := by subst hM; rw [R.C]; show ((i8s z.C).length : Int) = _; simp
  have ch : ∀ (ch : UInt8) (cc y : Int), cc = (ch.toNat : Int) → y = (hasS [118, 118] ch : Int) → C .plain 11 [Str w, U8 cc] (I y) := fun ch cc y h1 h2 => use_call hC (c_has _ w hw ch cc h1 (by decide) y h2)
  have cp : ∀ (n : Int) (rl : List (List PV)) (l : List Int), rl = u8s l → (∀ v ∈ l, 0 ≤ v ∧ v ≤ 255) → l.length ≤ 9223372036854775807 → n ≤ 1000000 → CallIn prog Amb .plain 12 [.list 1 rl, I n, I vars] (.list 1 (ints (placesS l n.toNat vars))) := fun n rl l h1 h2 h3 h4 => c_places rl l n vars h1 h2 h3 h4 (by omega) _ rfl
  have cn : ∀ (f n least wide : Int), 0 ≤ f ∧ f ≤ 1000000 → n ≤ 1000000 → 1 ≤ wide ∧ wide ≤ 100 → CallIn prog Amb .plain 13 [.list 1 zC, I f, I n, I least, I wide] (.list 1 (ints (numsS z.C f.toNat n.toNat least wide))) := fun f n least wide h1 h2 h3 => c_nums zC z.C f n least wide R.C R.bC R.lC h1 h2 h3 _ rfl
  have n3 : (M .cmp .lss (Int.ofNat (M .len zA)) 1 = true ∧ M .cmp .gtr 1 4 = false ∧ Int.toNat 1 = nS0 z ∧ (0 : Int) ≤ 1 ∧ (1 : Int) ≤ 4) ∨ (M .cmp .lss (Int.ofNat (M .len zA)) 1 = false ∧ M .cmp .gtr (Int.ofNat (M .len zA)) 4 = true ∧ Int.toNat 4 = nS0 z ∧ (0 : Int) ≤ 4 ∧ (4 : Int) ≤ 4) ∨ (M .cmp .lss (Int.ofNat (M .len zA)) 1 = false ∧ M .cmp .gtr (Int.ofNat (M .len zA)) 4 = false ∧ (Int.ofNat (M .len zA)).toNat = nS0 z ∧ 0 ≤ Int.ofNat (M .len zA) ∧ Int.ofNat (M .len zA) ≤ 4) := by
    rw [lenA]
    rcases Nat.lt_or_ge z.A.length 1 with h1 | h1
    · exact .inl ⟨by subst hM; rw [real_lss]; simp; omega, by subst hM; rfl, by rw [nS0, if_pos h1]; rfl, by decide, by decide⟩
    · rcases Nat.lt_or_ge 4 z.A.length with h2 | h2
      · exact .inr (.inl ⟨by subst hM; rw [real_lss]; simp; omega, by subst hM; rw [real_gtr]; simp; omega, by rw [nS0, if_neg (by omega), if_pos h2]; rfl, by decide, by decide⟩)
      · exact .inr (.inr ⟨by subst hM; rw [real_lss]; simp; omega, by subst hM; rw [real_gtr]; simp; omega, by rw [nS0, if_neg (by omega), if_neg (by omega)]; simp, by omega, by omega⟩)
  clear hw hsh2 hsh kb kn lenA
  cbv
  rcases n3 with ⟨N1, N2, hn0, hn1, hn4⟩ | ⟨N1, N2, hn0, hn1, hn4⟩ | ⟨N1, N2, hn0, hn1, hn4⟩
  all_goals (
    simp only [N1]
    cbv
    simp only [N2]
    cbv
    refine .mk (I 2) (ch 118 118 2 (by decide) (by decide)) ?_
    cbv
    simp only [G2]
    cbv
    refine .mk (I 2) (ch 118 118 2 (by decide) (by decide)) ?_
    cbv
    refine callL hC (cp _ _ _ R.A R.bA R.lA (by omega)) fun rA1 hA1 => ?_
    cbv
    refine .mk (I 0) (ch 119 119 0 (by decide) (by decide)) ?_
    cbv
    simp only [G0]
    cbv
    refine .mk (I 0) (ch 87 87 0 (by decide) (by decide)) ?_
    cbv
    simp only [G0]
    cbv
    refine .mk (I 0) (ch 99 99 0 (by decide) (by decide)) ?_
    cbv
    simp only [G0]
    cbv
    simp only [E11]
    cbv
    refine .mk (I 0) (ch 107 107 0 (by decide) (by decide)) ?_
    cbv
    simp only [G0]
    cbv
    simp only [E19]
    cbv
    simp only [E21]
    cbv
    simp only [E18]
    cbv
    have HA := H.A
    have HB := H.B
    have HC := H.C
    have HD := H.D
    have HE := H.E
    have HR := H.R
    exact ⟨congrArg _ (congrArg _ (ek.trans H.kind.symm)), ⟨hA1.trans HA.symm, trivial⟩, HB, HC, HD, HE, congrArg _ (congrArg _ H.K.symm), HR, trivial⟩)

set_option maxHeartbeats 4000000 in
set_option maxRecDepth 100000 in
theorem c_make11 (z : Small) (zk zK zc : Int) (zA zB zC : List (List PV)) (R : SmallR z zk zA zB zC zK zc) (vars : Int) (hv : 1 ≤ vars ∧ vars ≤ 1000000) (kind K : Int) (rA rB rC rD rE rR : List (List PV)) (H : ConR (makeS z vars) kind rA rB rC rD rE K rR)
    (hk : 1 + z.kind.tmod 23 = 11) :
    Call .plain 4 [.agg [U8 zk, .list 1 zA, .list 1 zB, .list 1 zC, I16 zK, U8 zc], I vars] (.agg [I kind, .list 1 rA, .list 1 rB, .list 1 rC, .list 1 rD, .list 1 rE, I K, .list 1 rR]) := by
  have hsh : shapeS (1 + z.kind.tmod 23) = [118, 99, 118] := by rcases hk with hk <;> rw [hk] <;> rfl
  have kb := tmod_le z.kind (b := 23) (by decide)
  have kn : 0 ≤ z.kind.tmod 23 := Int.tmod_nonneg _ R.bk.1
  have q11 : 1 + z.kind.tmod 23 = 11 := by omega
  have q19 : ¬ 1 + z.kind.tmod 23 = 19 := by omega
  have q21 : ¬ 1 + z.kind.tmod 23 = 21 := by omega
  have q18 : ¬ 1 + z.kind.tmod 23 = 18 := by omega
  have h118 : hasS [118, 99, 118] 118 = 2 := by decide
  have h119 : hasS [118, 99, 118] 119 = 0 := by decide
  have h87 : hasS [118, 99, 118] 87 = 0 := by decide
  have h99 : hasS [118, 99, 118] 99 = 1 := by decide
  have h107 : hasS [118, 99, 118] 107 = 0 := by decide
  have mk : makeS z vars = { kind := 1 + z.kind.tmod 23, A := placesS z.A (2) vars, B := [], C := numsS z.C 0 (1 + z.C.length % 5) (-1) 5, D := [], E := [], K := 0, R := [] } := by
    have hshk : shapeS 11 = [118, 99, 118] := rfl
    simp [makeS, hsh, hshk, nS, q11, q19, q21, q18, h118, h119, h87, h99, h107]
  clear h118 h119 h87 h99 h107 q11 q19 q21 q18
  rw [mk] at H
  clear mk
  have keq : ∀ M : Mach, M = Real → M .arith .rem .i64 (M .conv .i64 zK) 12 = z.K.tmod 12 := fun M hM => by
    subst hM
    have := R.bK
    show (IntKind.i64.wrap zK).tmod 12 = _
    rw [R.K, wrap_i64 (x := z.K) (by omega) (by omega)]
  refine call_of Proofs.Tryz.func4 Proofs.Tryz.call4 rfl rfl fun M C hM hC => ?_
  have G0 : M .cmp .gtr 0 0 = false := by subst hM; rfl
  have G1 : M .cmp .gtr 1 0 = true := by subst hM; rfl
  have G2 : M .cmp .gtr 2 0 = true := by subst hM; rfl
  have G3 : M .cmp .gtr 3 0 = true := by subst hM; rfl
  have ek : M .arith .add .i64 1 (M .arith .rem .i64 (M .conv .i64 zk) 23) = 1 + z.kind.tmod 23 := by
    subst hM
    have := R.bk
    show IntKind.i64.wrap (1 + (IntKind.i64.wrap zk).tmod 23) = _
    rw [R.kind, wrap_i64 (x := z.kind) (by omega) (by omega), wrap_i64 (by omega) (by omega)]
  cbv
  generalize hkd : M .arith .add .i64 1 (M .arith .rem .i64 (M .conv .i64 zk) 23) = kd at ek
  clear hkd
  have E11 : M .cmp .eql kd 11 = true := by subst hM; rw [real_eql]; simp; omega
  have E19 : M .cmp .eql kd 19 = false := by subst hM; rw [real_eql]; simp; omega
  have E21 : M .cmp .eql kd 21 = false := by subst hM; rw [real_eql]; simp; omega
  have E18 : M .cmp .eql kd 18 = false := by subst hM; rw [real_eql]; simp; omega
  refine .mk (by decide) (callL hC (c_shapes _ rfl) fun sh hsh2 => ?_)
  cbv
  obtain ⟨w, hw⟩ : ∃ w, w = bs (shapeS kd) := ⟨_, rfl⟩
  refine .mk [Str w] (by omega) (by rw [hsh2, hw]; exact shapes_get (by omega)) ?_
  have hw : w = bs [118, 99, 118] := by rw [hw, ek, hsh]
  have lenA : (Int.ofNat (M .len zA)) = (z.A.length : Int) := by subst hM; rw [R.A]; show ((u8s z.A).length : Int) = _; simp
  have lenC : (Int.ofNat (M .len zC)) = (z.C.length : Int) := by subst hM; rw [R.C]; show ((i8s z.C).length : Int) = _; simp
  have ch : ∀ (ch : UInt8) (cc y : Int), cc = (ch.toNat : Int) → y = (hasS [118, 99, 118] ch : Int) → C .plain 11 [Str w, U8 cc] (I y) := fun ch cc y h1 h2 => use_call hC (c_has _ w hw ch cc h1 (by decide) y h2)
  have cp : ∀ (n : Int) (rl : List (List PV)) (l : List Int), rl = u8s l → (∀ v ∈ l, 0 ≤ v ∧ v ≤ 255) → l.length ≤ 9223372036854775807 → n ≤ 1000000 → CallIn prog Amb .plain 12 [.list 1 rl, I n, I vars] (.list 1 (ints (placesS l n.toNat vars))) := fun n rl l h1 h2 h3 h4 => c_places rl l n vars h1 h2 h3 h4 (by omega) _ rfl
  have cn : ∀ (f n least wide : Int), 0 ≤ f ∧ f ≤ 1000000 → n ≤ 1000000 → 1 ≤ wide ∧ wide ≤ 100 → CallIn prog Amb .plain 13 [.list 1 zC, I f, I n, I least, I wide] (.list 1 (ints (numsS z.C f.toNat n.toNat least wide))) := fun f n least wide h1 h2 h3 => c_nums zC z.C f n least wide R.C R.bC R.lC h1 h2 h3 _ rfl
  have n3 : (M .cmp .lss (Int.ofNat (M .len zA)) 1 = true ∧ M .cmp .gtr 1 4 = false ∧ Int.toNat 1 = nS0 z ∧ (0 : Int) ≤ 1 ∧ (1 : Int) ≤ 4) ∨ (M .cmp .lss (Int.ofNat (M .len zA)) 1 = false ∧ M .cmp .gtr (Int.ofNat (M .len zA)) 4 = true ∧ Int.toNat 4 = nS0 z ∧ (0 : Int) ≤ 4 ∧ (4 : Int) ≤ 4) ∨ (M .cmp .lss (Int.ofNat (M .len zA)) 1 = false ∧ M .cmp .gtr (Int.ofNat (M .len zA)) 4 = false ∧ (Int.ofNat (M .len zA)).toNat = nS0 z ∧ 0 ≤ Int.ofNat (M .len zA) ∧ Int.ofNat (M .len zA) ≤ 4) := by
    rw [lenA]
    rcases Nat.lt_or_ge z.A.length 1 with h1 | h1
    · exact .inl ⟨by subst hM; rw [real_lss]; simp; omega, by subst hM; rfl, by rw [nS0, if_pos h1]; rfl, by decide, by decide⟩
    · rcases Nat.lt_or_ge 4 z.A.length with h2 | h2
      · exact .inr (.inl ⟨by subst hM; rw [real_lss]; simp; omega, by subst hM; rw [real_gtr]; simp; omega, by rw [nS0, if_neg (by omega), if_pos h2]; rfl, by decide, by decide⟩)
      · exact .inr (.inr ⟨by subst hM; rw [real_lss]; simp; omega, by subst hM; rw [real_gtr]; simp; omega, by rw [nS0, if_neg (by omega), if_neg (by omega)]; simp, by omega, by omega⟩)
  clear hw hsh2 hsh kb kn lenA
  cbv
  rcases n3 with ⟨N1, N2, hn0, hn1, hn4⟩ | ⟨N1, N2, hn0, hn1, hn4⟩ | ⟨N1, N2, hn0, hn1, hn4⟩
  all_goals (
    simp only [N1]
    cbv
    simp only [N2]
    cbv
    refine .mk (I 2) (ch 118 118 2 (by decide) (by decide)) ?_
    cbv
    simp only [G2]
    cbv
    refine .mk (I 2) (ch 118 118 2 (by decide) (by decide)) ?_
    cbv
    refine callL hC (cp _ _ _ R.A R.bA R.lA (by omega)) fun rA1 hA1 => ?_
    cbv
    refine .mk (I 0) (ch 119 119 0 (by decide) (by decide)) ?_
    cbv
    simp only [G0]
    cbv
    refine .mk (I 0) (ch 87 87 0 (by decide) (by decide)) ?_
    cbv
    simp only [G0]
    cbv
    refine .mk (I 1) (ch 99 99 1 (by decide) (by decide)) ?_
    cbv
    simp only [G1]
    cbv
    refine callL hC (cn _ _ _ _ (by omega) (by omega) (by omega)) fun rC1 hC1 => ?_
    cbv
    simp only [E11]
    cbv
    have hm5 : M .arith .add .i64 1 (M .arith .rem .i64 (Int.ofNat (M .len zC)) 5) = ((1 + z.C.length % 5 : Nat) : Int) := by
      rw [lenC]; subst hM
      show IntKind.i64.wrap (1 + (z.C.length : Int).tmod 5) = _
      rw [show (z.C.length : Int).tmod 5 = ((z.C.length % 5 : Nat) : Int) from rfl, wrap_i64 (by omega) (by omega)]; omega
    obtain ⟨m, hm⟩ : ∃ m, m = 1 + z.C.length % 5 := ⟨_, rfl⟩
    have hm7 : m ≤ 5 := by omega
    rw [← hm] at hm5
    refine .mk (by decide) ?_
    cbv
    (try simp only [ncast] at *)
    refine callL hC (cn _ _ _ _ (by omega) (by rw [show M .arith .add .i64 1 _ = _ from hm5]; omega) (by omega)) fun rC2 hC2 => ?_
    have hC2 : rC2 = ints (numsS z.C 0 m (-1) 5) := by rw [hC2, show M .arith .add .i64 1 _ = _ from hm5]; rfl
    rw [hm] at hC2
    cbv
    refine .mk (I 0) (ch 107 107 0 (by decide) (by decide)) ?_
    cbv
    simp only [G0]
    cbv
    simp only [E19]
    cbv
    simp only [E21]
    cbv
    simp only [E18]
    cbv
    have HA := H.A
    have HB := H.B
    have HC := H.C
    have HD := H.D
    have HE := H.E
    have HR := H.R
    exact ⟨congrArg _ (congrArg _ (ek.trans H.kind.symm)), ⟨hA1.trans HA.symm, trivial⟩, HB, ⟨hC2.trans HC.symm, trivial⟩, HD, HE, congrArg _ (congrArg _ H.K.symm), HR, trivial⟩)

set_option maxHeartbeats 4000000 in
set_option maxRecDepth 100000 in
theorem c_make12 (z : Small) (zk zK zc : Int) (zA zB zC : List (List PV)) (R : SmallR z zk zA zB zC zK zc) (vars : Int) (hv : 1 ≤ vars ∧ vars ≤ 1000000) (kind K : Int) (rA rB rC rD rE rR : List (List PV)) (H : ConR (makeS z vars) kind rA rB rC rD rE K rR)
    (hk : 1 + z.kind.tmod 23 = 12 ∨ 1 + z.kind.tmod 23 = 22 ∨ 1 + z.kind.tmod 23 = 23) :
    Call .plain 4 [.agg [U8 zk, .list 1 zA, .list 1 zB, .list 1 zC, I16 zK, U8 zc], I vars] (.agg [I kind, .list 1 rA, .list 1 rB, .list 1 rC, .list 1 rD, .list 1 rE, I K, .list 1 rR]) := by
  have hsh : shapeS (1 + z.kind.tmod 23) = [86, 87] := by rcases hk with hk | hk | hk <;> rw [hk] <;> rfl
  have kb := tmod_le z.kind (b := 23) (by decide)
  have kn : 0 ≤ z.kind.tmod 23 := Int.tmod_nonneg _ R.bk.1
  have q11 : ¬ 1 + z.kind.tmod 23 = 11 := by omega
  have q19 : ¬ 1 + z.kind.tmod 23 = 19 := by omega
  have q21 : ¬ 1 + z.kind.tmod 23 = 21 := by omega
  have q18 : ¬ 1 + z.kind.tmod 23 = 18 := by omega
  have h118 : hasS [86, 87] 118 = 0 := by decide
  have h119 : hasS [86, 87] 119 = 0 := by decide
  have h87 : hasS [86, 87] 87 = 1 := by decide
  have h99 : hasS [86, 87] 99 = 0 := by decide
  have h107 : hasS [86, 87] 107 = 0 := by decide
  have mk : makeS z vars = { kind := 1 + z.kind.tmod 23, A := placesS z.A (nS0 z) vars, B := placesS z.B (nS0 z) vars, C := [], D := [], E := [], K := 0, R := [] } := by
    have hshk : shapeS 12 = [86, 87] := rfl
    simp [makeS, hsh, hshk, nS, q11, q19, q21, q18, h118, h119, h87, h99, h107]
  clear h118 h119 h87 h99 h107 q11 q19 q21 q18
  rw [mk] at H
  clear mk
  have keq : ∀ M : Mach, M = Real → M .arith .rem .i64 (M .conv .i64 zK) 12 = z.K.tmod 12 := fun M hM => by
    subst hM
    have := R.bK
    show (IntKind.i64.wrap zK).tmod 12 = _
    rw [R.K, wrap_i64 (x := z.K) (by omega) (by omega)]
  refine call_of Proofs.Tryz.func4 Proofs.Tryz.call4 rfl rfl fun M C hM hC => ?_
  have G0 : M .cmp .gtr 0 0 = false := by subst hM; rfl
  have G1 : M .cmp .gtr 1 0 = true := by subst hM; rfl
  have G2 : M .cmp .gtr 2 0 = true := by subst hM; rfl
  have G3 : M .cmp .gtr 3 0 = true := by subst hM; rfl
  have ek : M .arith .add .i64 1 (M .arith .rem .i64 (M .conv .i64 zk) 23) = 1 + z.kind.tmod 23 := by
    subst hM
    have := R.bk
    show IntKind.i64.wrap (1 + (IntKind.i64.wrap zk).tmod 23) = _
    rw [R.kind, wrap_i64 (x := z.kind) (by omega) (by omega), wrap_i64 (by omega) (by omega)]
  cbv
  generalize hkd : M .arith .add .i64 1 (M .arith .rem .i64 (M .conv .i64 zk) 23) = kd at ek
  clear hkd
  have E11 : M .cmp .eql kd 11 = false := by subst hM; rw [real_eql]; simp; omega
  have E19 : M .cmp .eql kd 19 = false := by subst hM; rw [real_eql]; simp; omega
  have E21 : M .cmp .eql kd 21 = false := by subst hM; rw [real_eql]; simp; omega
  have E18 : M .cmp .eql kd 18 = false := by subst hM; rw [real_eql]; simp; omega
  refine .mk (by decide) (callL hC (c_shapes _ rfl) fun sh hsh2 => ?_)
  cbv
  obtain ⟨w, hw⟩ : ∃ w, w = bs (shapeS kd) := ⟨_, rfl⟩
  refine .mk [Str w] (by omega) (by rw [hsh2, hw]; exact shapes_get (by omega)) ?_
  have hw : w = bs [86, 87] := by rw [hw, ek, hsh]
  have lenA : (Int.ofNat (M .len zA)) = (z.A.length : Int) := by subst hM; rw [R.A]; show ((u8s z.A).length : Int) = _; simp
  have lenC : (Int.ofNat (M .len zC)) = (z.C.length : Int) := by subst hM; rw [R.C]; show ((i8s z.C).length : Int) = _; simp
  have ch : ∀ (ch : UInt8) (cc y : Int), cc = (ch.toNat : Int) → y = (hasS [86, 87] ch : Int) → C .plain 11 [Str w, U8 cc] (I y) := fun ch cc y h1 h2 => use_call hC (c_has _ w hw ch cc h1 (by decide) y h2)
  have cp : ∀ (n : Int) (rl : List (List PV)) (l : List Int), rl = u8s l → (∀ v ∈ l, 0 ≤ v ∧ v ≤ 255) → l.length ≤ 9223372036854775807 → n ≤ 1000000 → CallIn prog Amb .plain 12 [.list 1 rl, I n, I vars] (.list 1 (ints (placesS l n.toNat vars))) := fun n rl l h1 h2 h3 h4 => c_places rl l n vars h1 h2 h3 h4 (by omega) _ rfl
  have cn : ∀ (f n least wide : Int), 0 ≤ f ∧ f ≤ 1000000 → n ≤ 1000000 → 1 ≤ wide ∧ wide ≤ 100 → CallIn prog Amb .plain 13 [.list 1 zC, I f, I n, I least, I wide] (.list 1 (ints (numsS z.C f.toNat n.toNat least wide))) := fun f n least wide h1 h2 h3 => c_nums zC z.C f n least wide R.C R.bC R.lC h1 h2 h3 _ rfl
  have n3 : (M .cmp .lss (Int.ofNat (M .len zA)) 1 = true ∧ M .cmp .gtr 1 4 = false ∧ Int.toNat 1 = nS0 z ∧ (0 : Int) ≤ 1 ∧ (1 : Int) ≤ 4) ∨ (M .cmp .lss (Int.ofNat (M .len zA)) 1 = false ∧ M .cmp .gtr (Int.ofNat (M .len zA)) 4 = true ∧ Int.toNat 4 = nS0 z ∧ (0 : Int) ≤ 4 ∧ (4 : Int) ≤ 4) ∨ (M .cmp .lss (Int.ofNat (M .len zA)) 1 = false ∧ M .cmp .gtr (Int.ofNat (M .len zA)) 4 = false ∧ (Int.ofNat (M .len zA)).toNat = nS0 z ∧ 0 ≤ Int.ofNat (M .len zA) ∧ Int.ofNat (M .len zA) ≤ 4) := by
    rw [lenA]
    rcases Nat.lt_or_ge z.A.length 1 with h1 | h1
    · exact .inl ⟨by subst hM; rw [real_lss]; simp; omega, by subst hM; rfl, by rw [nS0, if_pos h1]; rfl, by decide, by decide⟩
    · rcases Nat.lt_or_ge 4 z.A.length with h2 | h2
      · exact .inr (.inl ⟨by subst hM; rw [real_lss]; simp; omega, by subst hM; rw [real_gtr]; simp; omega, by rw [nS0, if_neg (by omega), if_pos h2]; rfl, by decide, by decide⟩)
      · exact .inr (.inr ⟨by subst hM; rw [real_lss]; simp; omega, by subst hM; rw [real_gtr]; simp; omega, by rw [nS0, if_neg (by omega), if_neg (by omega)]; simp, by omega, by omega⟩)
  clear hw hsh2 hsh kb kn lenA
  cbv
  rcases n3 with ⟨N1, N2, hn0, hn1, hn4⟩ | ⟨N1, N2, hn0, hn1, hn4⟩ | ⟨N1, N2, hn0, hn1, hn4⟩
  all_goals (
    simp only [N1]
    cbv
    simp only [N2]
    cbv
    refine .mk (I 0) (ch 118 118 0 (by decide) (by decide)) ?_
    cbv
    simp only [G0]
    cbv
    refine callL hC (cp _ _ _ R.A R.bA R.lA (by omega)) fun rA1 hA1 => ?_
    cbv
    refine .mk (I 0) (ch 119 119 0 (by decide) (by decide)) ?_
    cbv
    simp only [G0]
    cbv
    refine .mk (I 1) (ch 87 87 1 (by decide) (by decide)) ?_
    cbv
    simp only [G1]
    cbv
    refine callL hC (cp _ _ _ R.B R.bB R.lB (by omega)) fun rB1 hB1 => ?_
    cbv
    refine .mk (I 0) (ch 99 99 0 (by decide) (by decide)) ?_
    cbv
    simp only [G0]
    cbv
    simp only [E11]
    cbv
    refine .mk (I 0) (ch 107 107 0 (by decide) (by decide)) ?_
    cbv
    simp only [G0]
    cbv
    simp only [E19]
    cbv
    simp only [E21]
    cbv
    simp only [E18]
    cbv
    have HA := H.A
    have HB := H.B
    have HC := H.C
    have HD := H.D
    have HE := H.E
    have HR := H.R
    simp only [← hn0] at HA HB HC
    exact ⟨congrArg _ (congrArg _ (ek.trans H.kind.symm)), ⟨hA1.trans HA.symm, trivial⟩, ⟨hB1.trans HB.symm, trivial⟩, HC, HD, HE, congrArg _ (congrArg _ H.K.symm), HR, trivial⟩)
