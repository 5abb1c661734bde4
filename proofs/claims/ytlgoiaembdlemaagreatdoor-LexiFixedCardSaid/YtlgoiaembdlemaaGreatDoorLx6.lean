/- jigsawlaw21.LexiFixed: of fixed values, the filter tells whether the constraint holds. -/
import Derived.Test.YtlgoiaembdlemaaGreatDoorLx4
import Derived.Test.YtlgoiaembdlemaaGreatDoorPif
set_option linter.unusedSimpArgs false
set_option linter.unusedVariables false
namespace Go.Pi
open Go
set_option linter.unusedVariables false
set_option linter.unusedSimpArgs false

set_option maxHeartbeats 1000000 in
theorem fixed21 (zk zK zc : Int) (zA zB zC : List (List PV)) (n : Int) (ra : List (List PV)) (la : List Int) (hla : ra = i8s la) (c : Con) (kind K : Int) (rA rB rC rD rE rR lA lB : List (List PV)) (N : Nat) (hN : (rA.length : Int) + rB.length = N) (hN8 : N ≤ 1000) (hb : ∀ v ∈ la, -128 ≤ v ∧ v ≤ 127)
    (ck : Call .plain 48 [U8 n] (I 22)) (cm : Call .plain 35 [.agg [U8 21, .list 1 zA, .list 1 zB, .list 1 zC, I16 zK, U8 zc], I 4] (.agg [I kind, .list 1 rA, .list 1 rB, .list 1 rC, .list 1 rD, .list 1 rE, I K, .list 1 rR]))
    (cl : Call .plain 36 [.agg [I kind, .list 1 rA, .list 1 rB, .list 1 rC, .list 1 rD, .list 1 rE, I K, .list 1 rR]] (.agg [I kind, .list 1 lA, .list 1 lB, .list 1 rC, .list 1 rD, .list 1 rE, I K, .list 1 rR]))
    (ks : List Int) (hks : ks = takenS la (fun i => 1 + (i : Int)) N) (rv rl : List (List PV)) (hrv : rv = ints ks) (hrl : rl = rowsOf (oneL ks)) (y : Bool)
    (ch : Call .plain 37 [.agg [I kind, .list 1 lA, .list 1 lB, .list 1 rC, .list 1 rD, .list 1 rE, I K, .list 1 rR], .list 1 rv] (B y))
    (rows : List (List PV)) (cd : Call .plain 50 [.list 1 rl] (.list 5 rows))
    (rows' : List (List PV)) (cf : Call .plain 49 [.agg [I kind, .list 1 rA, .list 1 rB, .list 1 rC, .list 1 rD, .list 1 rE, I K, .list 1 rR], .list 5 rows] (.tup [.list 5 rows', B y]))
    (cls : y = true → Call .plain 53 [.list 5 rows'] (.list 1 rl)) (csame : Call .plain 31 [.list 1 rl, .list 1 rl] (B true)) :
    Call .plain 12 [.agg [U8 zk, .list 1 zA, .list 1 zB, .list 1 zC, I16 zK, U8 zc], U8 n, .list 1 ra] (B true) := by
  have cw := c_wakes21
  refine call_of Proofs.Tryz.func12 Proofs.Tryz.call12 rfl rfl fun M C hM hC => ?_
  have nt : M .not true = false := by subst hM; rfl
  have nf : M .not false = true := by subst hM; rfl
  have beq : ∀ y, M .beq .eql y y = true := by subst hM; intro y; cases y <;> rfl
  have e0 : M .conv .u8 (M .arith .sub .i64 22 1) = 21 := by subst hM; rfl
  have elen : M .arith .add .i64 (Int.ofNat (M .len rA)) (Int.ofNat (M .len rB)) = N := by
    subst hM
    show IntKind.i64.wrap ((rA.length : Int) + (rB.length : Int)) = _
    rw [hN, wrap_i64 (by omega) (by omega)]
  cbv
  refine .mk _ (use_call hC ck) ?_
  cbv
  rw [show M .conv .u8 _ = _ from e0]
  refine .mk _ (use_call hC cm) ?_
  cbv
  refine .mk _ (use_call hC cl) ?_
  cbv
  refine Loop.over (Nat × List (List PV) × List (List PV)) (fun q => [(.t 31, I q.1), (.t 9, .own 3 0), (.a 3, .arr 0 25 1 q.2.1), (.i 3, .inf true 0), (.t 10, .own 4 0), (.a 4, .arr 0 3 1 q.2.2), (.i 4, .inf true 0)]) 5 (fun q => N - q.1) (fun q => q.1 ≤ N ∧ q.2.1 = rowsOf (oneL (takenS la (fun i => 1 + (i : Int)) q.1)) ∧ q.2.2 = ints (takenS la (fun i => 1 + (i : Int)) q.1)) (0, [], []) ⟨Nat.zero_le _, rfl, rfl⟩ (by (cbv; repeat' (first | exact True.intro | exact rfl | apply And.intro))) ?_
  rintro ⟨j, p, q⟩ ⟨hj, hp, hq⟩
  simp only at hj hp hq
  cbv
  rw [show M .arith .add .i64 _ _ = _ from elen]
  split <;> rename_i h <;> (try simp only [h]) <;> (try cbv) <;> (try simp only [ncast] at *)
  · have hlt : j < N := by subst hM; have h := of_decide_eq_true h; exact Int.ofNat_lt.1 h
    clear h
    have step : ∀ k, k = (if j < la.length then la.getD j 0 else 1 + (j : Int)) → M .app p [[.list 1 [[I k]]]] = rowsOf (oneL (takenS la (fun i => 1 + (i : Int)) (j + 1))) ∧ M .app q [[I k]] = ints (takenS la (fun i => 1 + (i : Int)) (j + 1)) := fun k hk => by
      subst hM
      rw [real_app, real_app, hp, hq, takenS_succ, ← hk]
      simp [rowsOf, ints, oneL]
    have few : ∀ k, k = (if j < la.length then la.getD j 0 else 1 + (j : Int)) → (M .app p [[.list 1 [[I k]]]]).length ≤ 2147483648 ∧ (M .app q [[I k]]).length ≤ 2147483648 := fun k hk => by
      rw [(step k hk).1, (step k hk).2]
      rw [rowsOf_len, oneL_len, ints_len, takenS_len]
      omega
    have e1 : M .arith .add .i64 1 (Int.ofNat j) = 1 + (j : Int) := by subst hM; rw [real_add, wrap_i64 (by simp; omega) (by simp; omega)]; rfl
    have ll : (la.length : Int) = ra.length := by rw [hla]; simp [i8s]
    clear hp hq
    cbv
    split <;> rename_i h <;> (try simp only [h]) <;> (try cbv) <;> (try simp only [ncast] at *)
    · have hlt2 : j < la.length := by subst hM; have h := of_decide_eq_true h; have h : (j : Int) < (ra.length : Int) := h; omega
      clear h
      refine nidx_i8s hla hlt2 fun v hv => ?_
      have e2 : M .conv .i64 v = v := by
        have := hb v (by rw [hv]; exact getD_mem 0 hlt2)
        subst hM; exact wrap_i64 (by omega) (by omega)
      obtain ⟨s1, s2⟩ := step v (by rw [if_pos hlt2, hv])
      obtain ⟨f1, f2⟩ := few v (by rw [if_pos hlt2, hv])
      clear step few hv
      cbv
      rw [show M .conv .i64 v = _ from e2]
      refine .mk f1 ?_
      cbv
      refine .mk f2 ?_
      cbv
      refine ⟨⟨j + 1, _, _⟩, ⟨hlt, s1, s2⟩, ?_, by (cbv; repeat' (first | exact True.intro | exact rfl | apply And.intro)) <;> (subst hM; rw [succ_i64 (by omega)])⟩
      simp only; omega
    · have hlt2 : ¬ j < la.length := by subst hM; have h := of_decide_eq_false h; have h : ¬ (j : Int) < (ra.length : Int) := h; omega
      clear h
      obtain ⟨k, hk⟩ : ∃ k, k = 1 + (j : Int) := ⟨_, rfl⟩
      rw [← hk] at e1
      obtain ⟨s1, s2⟩ := step k (by rw [if_neg hlt2, hk])
      obtain ⟨f1, f2⟩ := few k (by rw [if_neg hlt2, hk])
      clear step few hk
      cbv
      rw [show M .arith .add .i64 1 _ = _ from e1]
      refine .mk f1 ?_
      cbv
      refine .mk f2 ?_
      cbv
      refine ⟨⟨j + 1, _, _⟩, ⟨hlt, s1, s2⟩, ?_, by (cbv; repeat' (first | exact True.intro | exact rfl | apply And.intro)) <;> (subst hM; rw [succ_i64 (by omega)])⟩
      simp only; omega
  · have hj2 : j = N := by subst hM; have h := of_decide_eq_false h; have h : ¬ (j : Int) < (N : Int) := h; omega
    subst hj2
    rw [← hks] at hp hq
    rw [← hrl] at hp
    rw [← hrv] at hq
    clear h hks hrl hrv
    subst hp hq
    refine .inl (.mk _ (use_call hC cd) ?_)
    cbv
    refine .mk _ (use_call hC cf) ?_
    cbv
    refine .mk _ (use_call hC cw) ?_
    cbv
    refine .inl (.mk _ (use_call hC ch) ?_)
    cbv
    cases y with
    | false =>
      simp only [beq]
      cbv
      simp only [nf]
      cbv
    | true =>
      simp only [beq]
      cbv
      simp only [nt]
      cbv
      refine .mk _ (use_call hC (cls rfl)) ?_
      cbv
      refine .inl (.mk _ (use_call hC csame) ?_)
      cbv

set_option maxHeartbeats 1000000 in
theorem c_lexiFixed (z : Small) (zk zK zc : Int) (zA zB zC : List (List PV)) (R : SmallR z zk zA zB zC zK zc) (n : Int) (hn8 : 0 ≤ n ∧ n ≤ 255) (ra : List (List PV)) (la : List Int) (hla : ra = i8s la) (h64 : la.length ≤ 9223372036854775807) (hb : ∀ v ∈ la, -128 ≤ v ∧ v ≤ 127) :
    Call .plain 12 [.agg [U8 zk, .list 1 zA, .list 1 zB, .list 1 zC, I16 zK, U8 zc], U8 n, .list 1 ra] (B true) := by
  obtain ⟨c, hc⟩ : ∃ c, c = makeS { z with kind := 22 - 1 } 4 := ⟨_, rfl⟩
  have hk : 1 + ({ z with kind := 22 - 1 } : Small).kind.tmod 23 = 22 := kind_is (z := z) (by decide)
  have R4 := right_22 (vars := 4) hk (by decide) (fun v hv => (R.bA v hv).1) (fun v hv => (R.bB v hv).1)
  have hm := make_22 (vars := 4) hk
  have hn := nS0_in { z with kind := 22 - 1 }
  rw [← hc] at R4 hm
  have hAl : c.A.length = nS0 { z with kind := 22 - 1 } := by rw [hm]; simp [places_len]
  have hBl : c.B.length = nS0 { z with kind := 22 - 1 } := by rw [hm]; simp [places_len]
  obtain ⟨kind, rA, rB, rC, rD, rE, K, rR, H⟩ : ∃ kind rA rB rC rD rE K rR, ConR c kind rA rB rC rD rE K rR := ⟨_, _, _, _, _, _, _, _, ⟨rfl, rfl, rfl, rfl, rfl, rfl, rfl, rfl⟩⟩
  have R' : SmallR { z with kind := 22 - 1 } (22 - 1) zA zB zC zK zc := ⟨rfl, R.A, R.B, R.C, R.K, R.ch, ⟨show (0 : Int) ≤ 22 - 1 by decide, show (22 - 1 : Int) ≤ 255 by decide⟩, R.bA, R.bB, R.bC, R.bK, R.bch, R.lA, R.lB, R.lC⟩
  have cm := c_make { z with kind := 22 - 1 } (22 - 1) zK zc zA zB zC R' 4 (by decide) kind K rA rB rC rD rE rR (by rw [← hc]; exact H)
  have ml := make_lens { z with kind := 22 - 1 } 4
  rw [← hc] at ml
  obtain ⟨m1, m2, m3, m4, m5, m6⟩ := ml
  have la' : lim rA := lim_le (by rw [H.A]; simp; omega)
  have lb : lim rB := lim_le (by rw [H.B]; simp; omega)
  have lc : lim rC := lim_le (by rw [H.C]; simp; omega)
  have ld : lim rD := lim_le (by rw [H.D]; simp; omega)
  have le : lim rE := lim_le (by rw [H.E]; simp; omega)
  have lr : lim rR := lim_le (by rw [H.R]; simp; omega)
  obtain ⟨N, hN⟩ : ∃ N, N = c.A.length + c.B.length := ⟨_, rfl⟩
  obtain ⟨ks, hks⟩ : ∃ ks, ks = takenS la (fun i => 1 + (i : Int)) N := ⟨_, rfl⟩
  have kl : ks.length = N := by rw [hks, takenS_len]
  have kb : ∀ v ∈ ks, -128 ≤ v ∧ v ≤ 127 := by rw [hks]; exact takenS_in hb fun i hi => by omega
  have L : LexCase c (oneL ks) := ⟨by rw [hm], R4.more (by decide), by omega, by omega, by omega, by rw [oneL_len, kl, hN], oneL_full ks, oneL_dom fun k hk => by have := kb k hk; omega, fun d hd => by obtain ⟨k, _, rfl⟩ := List.mem_map.1 hd; simp⟩
  obtain ⟨rv, hrv⟩ : ∃ rv, rv = ints ks := ⟨_, rfl⟩
  obtain ⟨rl, hrl⟩ : ∃ rl, rl = rowsOf (oneL ks) := ⟨_, rfl⟩
  obtain ⟨lA, hlA⟩ : ∃ lA, lA = ints (localS c).A := ⟨_, rfl⟩
  obtain ⟨lB, hlB⟩ : ∃ lB, lB = ints (localS c).B := ⟨_, rfl⟩
  have cl := c_local c kind K rA rB rC rD rE rR H (by omega) (by omega) lA lB hlA hlB
  have far : ks.any farS = false := by
    rw [List.any_eq_false]
    intro v hv
    have := kb v hv
    simp [farS]
    omega
  obtain ⟨y, hy⟩ : ∃ y, y = solB c ks := ⟨_, rfl⟩
  have ch := c_holdsLocal c R4 ks (by omega) far kind K rA rB rC rD rE rR lA lB H hlA hlB rv hrv y hy
  have ol : (oneL ks).length = ks.length := oneL_len ks
  obtain ⟨rows, D, cd⟩ := c_doms_jigsawlaw21 rl (oneL ks) hrl (by omega) (fun d hd => by have := L.few d hd; omega)
  rw [map_ofL L.dom] at D
  have hy1 : y = someL (leftL (oneL ks) (lexP (oneL ks) c.A.length)) := by
    rw [hy, Bool.eq_iff_iff]
    exact (L.exact.one (by omega)).symm
  have hy' : y = (fitsD c (oneL ks) 22 22 && someL (leftL (oneL ks) (lexP (oneL ks) c.A.length))) := by rw [L.fits, ← hy1]; rfl
  obtain ⟨rows', f1, f2, cf⟩ := c_lexFilter c kind K rA rB rC rD rE rR H la' lb lc ld le lr rows (oneL ks) D (by omega) L.dom y hy'
  have csame := c_same10 rl rl (oneL ks) (oneL ks) hrl hrl (by omega) (fun d hd => by have := L.few d hd; omega) true (sameL_self _).symm
  refine fixed21 zk zK zc zA zB zC n ra la hla c kind K rA rB rC rD rE rR lA lB N (by rw [H.A, H.B]; simp; omega) (by omega) hb (c_kind21 n) cm cl ks hks rv rl hrv hrl y ch rows cd rows' cf (fun h => ?_) csame
  have De := f1 h
  rw [left_one (by rw [← hy1]; exact h)] at De
  exact c_lists_jigsawlaw21 rows' (oneL ks) De (by omega) rl hrl
