/- jigsawlaw09.GroundHolds. -/
import Derived.Test.YtlgoiaembdlemaaGreatLw1
import Derived.Test.YtlgoiaembdlemaaGreatRa6
set_option linter.unusedSimpArgs false
set_option linter.unusedVariables false
namespace Go.Pi
open Go
set_option linter.unusedVariables false
set_option linter.unusedSimpArgs false

theorem min_take (M : Mach) (hM : M = Real) (rl : List (List PV)) (l : List Int) (hl : rl = ints l) (h64 : l.length ≤ 9223372036854775807) :
    M .sub rl 0 (M .mn (Int.ofNat (M .len rl)) 8) = ints (l.take 8) ∧ 0 ≤ (M .mn (Int.ofNat (M .len rl)) 8 : Int) ∧ (M .mn (Int.ofNat (M .len rl)) 8 : Int) ≤ Int.ofNat (M .len rl) := by
  subst hM
  have e : (Real .mn (Int.ofNat (Real .len rl)) 8 : Int) = if 8 < (rl.length : Int) then 8 else (rl.length : Int) := rfl
  have e2 : Int.ofNat (Real .len rl) = (rl.length : Int) := rfl
  rw [e, e2, hl, ints_len]
  refine ⟨?_, by split <;> omega, by split <;> omega⟩
  show ((ints l).drop 0).take _ = _
  rw [List.drop_zero]
  split
  · show (ints l).take 8 = _
    simp [ints, List.map_take]
  · rename_i h
    rw [show ((l.length : Int) - 0).toNat = l.length by omega, List.take_of_length_le (by simp), List.take_of_length_le (by omega)]

theorem c_short (rl : List (List PV)) (l : List Int) (hl : rl = ints l) (h64 : l.length ≤ 9223372036854775807) (r : List (List PV)) (hr : r = ints (l.take 8)) : Call .plain 5 [.list 1 rl] (.list 1 r) := by
  refine call_of Proofs.Tryz.func5 Proofs.Tryz.call5 rfl rfl fun M C hM hC => ?_
  obtain ⟨m1, m2, m3⟩ := min_take M hM rl l hl h64
  cbv
  refine .mk m2 ?_
  cbv
  refine .mk m3 ?_
  exact ⟨m1.trans hr.symm, trivial⟩

theorem c_both (c : Con) (kind K : Int) (rA rB rC rD rE rR : List (List PV)) (H : ConR c kind rA rB rC rD rE K rR) (h1 : c.A.length ≤ 8) (h2 : c.B.length ≤ 8) (h3 : c.C.length ≤ 8) (h4 : c.D.length ≤ 8) (h5 : c.E.length ≤ 8) (h6 : c.R.length ≤ 8)
    (v : List Int) (rv : List (List PV)) (hv : rv = ints v) (hl : v.length ≤ 8) : ∃ y,
    Call .plain 7 [.agg [I kind, .list 1 rA, .list 1 rB, .list 1 rC, .list 1 rD, .list 1 rE, I K, .list 1 rR], .list 1 rv] (B y) ∧
    Call .plain 8 [.agg [I kind, .list 1 rA, .list 1 rB, .list 1 rC, .list 1 rD, .list 1 rE, I K, .list 1 rR], .list 1 rv] (B y) := by
  have la : lim rA := lim_small (by rw [H.A]; simp; omega)
  have lb : lim rB := lim_small (by rw [H.B]; simp; omega)
  have lc : lim rC := lim_small (by rw [H.C]; simp; omega)
  have ld : lim rD := lim_small (by rw [H.D]; simp; omega)
  have le : lim rE := lim_small (by rw [H.E]; simp; omega)
  have lr : lim rR := lim_small (by rw [H.R]; simp; omega)
  exact ⟨holdsS c v, c_holds c v kind K rA rB rC rD rE rR rv H hv (by omega) la lb lc ld le lr _ rfl, c_any c v kind K rA rB rC rD rE rR rv H hv (by omega) la lb lc ld le lr _ rfl⟩

set_option maxRecDepth 100000 in
set_option maxHeartbeats 4000000 in
theorem c_groundHolds (z : Small) (zk zK zc : Int) (zA zB zC : List (List PV)) (R : SmallR z zk zA zB zC zK zc) (a : List Int) (ra : List (List PV)) (ha : ra = ints a) (la : a.length ≤ 9223372036854775807)
    (wk wK : Int) (A Bl C' D E : List Int) (wA wB wC wD wE wR : List (List PV)) (hA : wA = ints A) (hB : wB = ints Bl) (hC' : wC = ints C') (hD : wD = ints D) (hE : wE = ints E) (lA : A.length ≤ 9223372036854775807) (lB : Bl.length ≤ 9223372036854775807) (lC : C'.length ≤ 9223372036854775807) (lD : D.length ≤ 9223372036854775807) (lE : E.length ≤ 9223372036854775807) :
    Call .plain 3 [.agg [U8 zk, .list 1 zA, .list 1 zB, .list 1 zC, I16 zK, U8 zc], .list 1 ra, .agg [I wk, .list 1 wA, .list 1 wB, .list 1 wC, .list 1 wD, .list 1 wE, I wK, .list 1 wR]] (B true) := by
  have ml := make_lens z 5
  obtain ⟨c, hc⟩ : ∃ c, c = makeS z 5 := ⟨_, rfl⟩
  rw [← hc] at ml
  obtain ⟨m1, m2, m3, m4, m5, m6⟩ := ml
  obtain ⟨kind, rA, rB, rC, rD, rE, K, rR, H⟩ : ∃ kind rA rB rC rD rE K rR, ConR c kind rA rB rC rD rE K rR := ⟨_, _, _, _, _, _, _, _, ⟨rfl, rfl, rfl, rfl, rfl, rfl, rfl, rfl⟩⟩
  have cm := c_make z zk zK zc zA zB zC R 5 (by decide) kind K rA rB rC rD rE rR (by rw [← hc]; exact H)
  obtain ⟨a8, ha8⟩ : ∃ a8, a8 = a.take 8 := ⟨_, rfl⟩
  have l8 : a8.length ≤ 8 := by rw [ha8]; simp; omega
  obtain ⟨r8, hr8⟩ : ∃ r8, r8 = ints a8 := ⟨_, rfl⟩
  obtain ⟨r5, hr5⟩ : ∃ r, r = ints (nearS a8 5) := ⟨_, rfl⟩
  obtain ⟨r3, hr3⟩ : ∃ r, r = ints (nearS a8 3) := ⟨_, rfl⟩
  have cn5 := c_near r8 a8 5 hr8 (by decide) r5 hr5
  have cn3 := c_near r8 a8 3 hr8 (by decide) r3 hr3
  obtain ⟨tA, htA⟩ : ∃ r, r = ints (A.take 8) := ⟨_, rfl⟩
  obtain ⟨tB, htB⟩ : ∃ r, r = ints (Bl.take 8) := ⟨_, rfl⟩
  obtain ⟨tC, htC⟩ : ∃ r, r = ints (C'.take 8) := ⟨_, rfl⟩
  obtain ⟨tD, htD⟩ : ∃ r, r = ints (D.take 8) := ⟨_, rfl⟩
  obtain ⟨tE, htE⟩ : ∃ r, r = ints (E.take 8) := ⟨_, rfl⟩
  have sA := c_short wA A hA lA tA htA
  have sB := c_short wB Bl hB lB tB htB
  have sC := c_short wC C' hC' lC tC htC
  have sD := c_short wD D hD lD tD htD
  have sE := c_short wE E hE lE tE htE
  have Hd : ConR ⟨wk, A.take 8, Bl.take 8, C'.take 8, D.take 8, E.take 8, wK, []⟩ wk tA tB tC tD tE wK [] := ⟨rfl, htA, htB, htC, htD, htE, rfl, rfl⟩
  have b1 := fun v rv hv hl => c_both c kind K rA rB rC rD rE rR H (by omega) (by omega) (by omega) (by omega) (by omega) (by omega) v rv hv hl
  have b2 := fun v rv hv hl => c_both _ wk wK tA tB tC tD tE [] Hd (by simp; omega) (by simp; omega) (by simp; omega) (by simp; omega) (by simp; omega) (by simp) v rv hv hl
  obtain ⟨y15, p15, q15⟩ := b1 _ r5 hr5 (by rw [nearS_len]; decide)
  obtain ⟨y18, p18, q18⟩ := b1 _ r8 hr8 l8
  obtain ⟨y13, p13, q13⟩ := b1 _ r3 hr3 (by rw [nearS_len]; decide)
  obtain ⟨y25, p25, q25⟩ := b2 _ r5 hr5 (by rw [nearS_len]; decide)
  obtain ⟨y28, p28, q28⟩ := b2 _ r8 hr8 l8
  obtain ⟨y23, p23, q23⟩ := b2 _ r3 hr3 (by rw [nearS_len]; decide)
  have cw := c_wakes
  refine call_of Proofs.Tryz.func3 Proofs.Tryz.call3 rfl rfl fun M C hM hC => ?_
  obtain ⟨k1, k2, k3⟩ := min_take M hM ra a ha la
  have bne : ∀ p, M .beq .neq p p = false := fun p => by subst hM; cases p <;> rfl
  rw [← ha8, ← hr8] at k1
  clear b1 b2 Hd H htA htB htC htD htE hr5 hr8 hr3 hc ha8
  cbv
  refine .mk k2 ?_
  cbv
  refine .mk k3 ?_
  rw [show M .sub ra 0 (M .mn (Int.ofNat (M .len ra)) 8) = _ from k1]
  clear k1 k2 k3
  cbv
  refine .mk _ (use_call hC cm) ?_
  cbv
  refine .mk _ (use_call hC sA) ?_
  cbv
  refine .mk _ (use_call hC sB) ?_
  cbv
  refine .mk _ (use_call hC sC) ?_
  cbv
  refine .mk _ (use_call hC sD) ?_
  cbv
  refine .mk _ (use_call hC sE) ?_
  cbv
  refine Loop.over Nat (fun q => [(.t 50, I q)]) 5 (fun q => 2 - q) (fun q => q ≤ 2) 0 (by omega) (by (cbv; repeat' (first | exact True.intro | exact rfl | apply And.intro))) ?_
  rintro j hj
  cbv
  split <;> rename_i h <;> (try simp only [h]) <;> (try cbv)
  · have hlt : j < 2 := by subst hM; have h := of_decide_eq_true h; exact Int.ofNat_lt.1 h
    clear h
    obtain rfl | rfl : j = 0 ∨ j = 1 := by omega
    · refine .mk _ (by decide) rfl ?_
      cbv
      refine .mk _ (by decide) rfl ?_
      cbv
      refine .mk _ (use_call hC cn5) ?_
      cbv
      refine .mk _ (use_call hC cn3) ?_
      cbv
      refine Loop.over Nat (fun q => [(.t 61, I q), (.t 52, .junk)]) 7 (fun q => 3 - q) (fun q => q ≤ 3) 0 (by omega) (by (cbv; repeat' (first | exact True.intro | exact rfl | apply And.intro))) ?_
      rintro k hk
      cbv
      split <;> rename_i h <;> (try simp only [h]) <;> (try cbv)
      · have hlt2 : k < 3 := by subst hM; have h := of_decide_eq_true h; exact Int.ofNat_lt.1 h
        clear h
        obtain rfl | rfl | rfl : k = 0 ∨ k = 1 ∨ k = 2 := by omega
        · refine .mk _ (by decide) rfl ?_
          cbv
          refine .mk _ (by decide) rfl ?_
          cbv
          refine .mk _ (use_call hC p15) ?_
          cbv
          refine .mk _ (use_call hC q15) ?_
          cbv
          simp only [bne]
          cbv
          refine ⟨0 + 1, by omega, by omega, by (cbv; repeat' (first | exact True.intro | exact rfl | apply And.intro)) <;> (subst hM; rw [succ_i64 (by omega)])⟩
        · refine .mk _ (by decide) rfl ?_
          cbv
          refine .mk _ (by decide) rfl ?_
          cbv
          refine .mk _ (use_call hC p18) ?_
          cbv
          refine .mk _ (use_call hC q18) ?_
          cbv
          simp only [bne]
          cbv
          refine ⟨1 + 1, by omega, by omega, by (cbv; repeat' (first | exact True.intro | exact rfl | apply And.intro)) <;> (subst hM; rw [succ_i64 (by omega)])⟩
        · refine .mk _ (by decide) rfl ?_
          cbv
          refine .mk _ (by decide) rfl ?_
          cbv
          refine .mk _ (use_call hC p13) ?_
          cbv
          refine .mk _ (use_call hC q13) ?_
          cbv
          simp only [bne]
          cbv
          refine ⟨2 + 1, by omega, by omega, by (cbv; repeat' (first | exact True.intro | exact rfl | apply And.intro)) <;> (subst hM; rw [succ_i64 (by omega)])⟩
      · refine ⟨0 + 1, by omega, by omega, by (cbv; repeat' (first | exact True.intro | exact rfl | apply And.intro)) <;> (subst hM; rw [succ_i64 (by omega)])⟩
    · refine .mk _ (by decide) rfl ?_
      cbv
      refine .mk _ (by decide) rfl ?_
      cbv
      refine .mk _ (use_call hC cn5) ?_
      cbv
      refine .mk _ (use_call hC cn3) ?_
      cbv
      refine Loop.over Nat (fun q => [(.t 61, I q), (.t 52, .junk)]) 7 (fun q => 3 - q) (fun q => q ≤ 3) 0 (by omega) (by (cbv; repeat' (first | exact True.intro | exact rfl | apply And.intro))) ?_
      rintro k hk
      cbv
      split <;> rename_i h <;> (try simp only [h]) <;> (try cbv)
      · have hlt2 : k < 3 := by subst hM; have h := of_decide_eq_true h; exact Int.ofNat_lt.1 h
        clear h
        obtain rfl | rfl | rfl : k = 0 ∨ k = 1 ∨ k = 2 := by omega
        · refine .mk _ (by decide) rfl ?_
          cbv
          refine .mk _ (by decide) rfl ?_
          cbv
          refine .as _ _ ?_ (use_call hC p25) ?_
          · (cbv; repeat' (first | exact True.intro | exact rfl | apply And.intro))
          cbv
          refine .as _ _ ?_ (use_call hC q25) ?_
          · (cbv; repeat' (first | exact True.intro | exact rfl | apply And.intro))
          cbv
          simp only [bne]
          cbv
          refine ⟨0 + 1, by omega, by omega, by (cbv; repeat' (first | exact True.intro | exact rfl | apply And.intro)) <;> (subst hM; rw [succ_i64 (by omega)])⟩
        · refine .mk _ (by decide) rfl ?_
          cbv
          refine .mk _ (by decide) rfl ?_
          cbv
          refine .as _ _ ?_ (use_call hC p28) ?_
          · (cbv; repeat' (first | exact True.intro | exact rfl | apply And.intro))
          cbv
          refine .as _ _ ?_ (use_call hC q28) ?_
          · (cbv; repeat' (first | exact True.intro | exact rfl | apply And.intro))
          cbv
          simp only [bne]
          cbv
          refine ⟨1 + 1, by omega, by omega, by (cbv; repeat' (first | exact True.intro | exact rfl | apply And.intro)) <;> (subst hM; rw [succ_i64 (by omega)])⟩
        · refine .mk _ (by decide) rfl ?_
          cbv
          refine .mk _ (by decide) rfl ?_
          cbv
          refine .as _ _ ?_ (use_call hC p23) ?_
          · (cbv; repeat' (first | exact True.intro | exact rfl | apply And.intro))
          cbv
          refine .as _ _ ?_ (use_call hC q23) ?_
          · (cbv; repeat' (first | exact True.intro | exact rfl | apply And.intro))
          cbv
          simp only [bne]
          cbv
          refine ⟨2 + 1, by omega, by omega, by (cbv; repeat' (first | exact True.intro | exact rfl | apply And.intro)) <;> (subst hM; rw [succ_i64 (by omega)])⟩
      · refine ⟨1 + 1, by omega, by omega, by (cbv; repeat' (first | exact True.intro | exact rfl | apply And.intro)) <;> (subst hM; rw [succ_i64 (by omega)])⟩
  · refine .mk _ (use_call hC cw) ?_
    cbv
