/- jigsawlaw21.LexiKeeps: every solution is kept, nothing is added, a second filter changes nothing. -/
import Derived.Test.YtlgoiaembdlemaaGreatDoorLx4
set_option linter.unusedSimpArgs false
set_option linter.unusedVariables false
namespace Go.Pi
open Go
set_option linter.unusedVariables false
set_option linter.unusedSimpArgs false

set_option maxHeartbeats 1000000 in
theorem keeps21 (zk zK zc : Int) (zA zB zC rd : List (List PV)) (n : Int) (c : Con) (kind K : Int) (rA rB rC rD rE rR rl : List (List PV)) (ls : List (List Int)) (hl : rl = rowsOf ls)
    (ck : Call .plain 48 [U8 n] (I 22)) (cm : Call .plain 25 [.agg [U8 zk, .list 1 zA, .list 1 zB, .list 1 zC, I16 zK, U8 zc, .list 1 rd], I 22, I 6] (.tup [.agg [I kind, .list 1 rA, .list 1 rB, .list 1 rC, .list 1 rD, .list 1 rE, I K, .list 1 rR], .list 1 rl]))
    (rs : List (List PV)) (sols : List (List Int)) (fw : Bool) (hrs : fw = true → rs = rowsOf sols) (csol : Call .plain 38 [.agg [I kind, .list 1 rA, .list 1 rB, .list 1 rC, .list 1 rD, .list 1 rE, I K, .list 1 rR], .list 1 rl, I 4000] (.tup [.list 1 rs, B fw]))
    (rows : List (List PV)) (cd : Call .plain 50 [.list 1 rl] (.list 5 rows))
    (rows' : List (List PV)) (e : List (List Int)) (De : DomsR rows' e) (y : Bool) (cf : Call .plain 49 [.agg [I kind, .list 1 rA, .list 1 rB, .list 1 rC, .list 1 rD, .list 1 rE, I K, .list 1 rR], .list 5 rows] (.tup [.list 5 rows', B y]))
    (he : y = true → e.length = ls.length) (hin : ∀ i, i < e.length → ∀ v ∈ e.getD i [], v ∈ ls.getD i [])
    (hsol : y = true → ∀ r ∈ sols, r.length = e.length ∧ ∀ i, i < e.length → r.getD i 0 ∈ e.getD i []) (hno : y = false → fw = true → rs = [])
    (rows2 : List (List PV)) (e2 : List (List Int)) (De2 : y = true → DomsR rows2 e2) (cf2 : y = true → Call .plain 49 [.agg [I kind, .list 1 rA, .list 1 rB, .list 1 rC, .list 1 rD, .list 1 rE, I K, .list 1 rR], .list 5 rows'] (.tup [.list 5 rows2, B true]))
    (hsame : y = true → e2 = e) (l1 : ls.length ≤ 1000) (l2 : fw = true → sols.length ≤ 1000000) (l3 : ∀ l ∈ ls, l.length ≤ 1000000) (l4 : ∀ l ∈ e, l.length ≤ 1000000) :
    Call .plain 13 [.agg [U8 zk, .list 1 zA, .list 1 zB, .list 1 zC, I16 zK, U8 zc, .list 1 rd], U8 n] (B true) := by
  have cw := c_wakes21
  refine call_of Proofs.Tryz.func13 Proofs.Tryz.call13 rfl rfl fun M C hM hC => ?_
  have nt : M .not true = false := by subst hM; rfl
  have nf : M .not false = true := by subst hM; rfl
  cbv
  refine .mk _ (use_call hC ck) ?_
  cbv
  refine .mk _ (use_call hC cm) ?_
  cbv
  refine .mk _ (use_call hC csol) ?_
  cbv
  refine .mk _ (use_call hC cd) ?_
  cbv
  refine .mk _ (use_call hC cf) ?_
  cbv
  cases fw with
  | false =>
    simp only [nf]
    cbv
    refine .mk _ (use_call hC cw) ?_
    cbv
  | true =>
    replace hrs := hrs rfl
    replace l2 := l2 rfl
    simp only [nt]
    cbv
    cases y with
    | false =>
      replace hno := hno rfl rfl
      have q1 : M .cmp .eql (Int.ofNat (M .len rs)) 0 = true := by subst hM; rw [hno]; rfl
      simp only [nf]
      cbv
      refine .mk _ (use_call hC cw) ?_
      cbv
      rw [show M .cmp .eql _ 0 = _ from q1]
    | true =>
      replace he := he rfl
      replace hsol := hsol rfl
      replace De2 := De2 rfl
      replace cf2 := cf2 rfl
      replace hsame := hsame rfl
      subst hsame
      have q1 : M .cmp .neq (Int.ofNat (M .len rows')) (Int.ofNat (M .len rl)) = false := by
        subst hM
        show ((rows'.length : Int) != (rl.length : Int)) = false
        rw [De.len, hl, rowsOf_len, he]; simp
      simp only [nt]
      cbv
      rw [show M .cmp .neq _ _ = _ from q1]
      cbv
      have eS := De2.len
      obtain ⟨re, hre⟩ : ∃ re, re = rowsOf e2 := ⟨_, rfl⟩
      have csame := c_same10 re re e2 e2 hre hre (by omega) l4 true (sameL_self e2).symm
      have cl1 := c_lists_jigsawlaw21 rows' e2 De (by omega) re hre
      have cl2 := c_lists_jigsawlaw21 rows2 e2 De2 (by omega) re hre
      clear q1 hno
      refine Loop.over Nat (fun j => [(.t 59, I j)]) 2 (fun j => ls.length - j) (fun j => j ≤ ls.length) 0 (Nat.zero_le _) (by (cbv; repeat' (first | exact True.intro | exact rfl | apply And.intro))) ?_
      intro j hj
      cbv
      split <;> rename_i h <;> (try simp only [h]) <;> (try cbv) <;> (try simp only [ncast] at *)
      · have hlt : j < ls.length := by subst hM; have h := of_decide_eq_true h; have h : (j : Int) < (rl.length : Int) := h; rw [hl, rowsOf_len] at h; omega
        clear h
        have hinj := hin j (by omega)
        have lj := l3 _ (getD_mem [] hlt)
        refine nidx_rows hl hlt fun rr hrr => ?_
        cbv
        refine nidx_doms De (by omega) fun off ws mn mx sz Dj => ?_
        cbv
        obtain ⟨d, hd⟩ : ∃ d, d = e2.getD j [] := ⟨_, rfl⟩
        rw [← hd] at Dj hinj
        have ld := l4 d (by rw [hd]; exact getD_mem [] (by omega))
        obtain ⟨lr, hlr⟩ : ∃ lr, lr = ints d := ⟨_, rfl⟩
        refine .mk _ (use_call hC (c_domList off mn mx sz ws _ Dj lr hlr)) ?_
        cbv
        refine Loop.over Nat (fun k => [(.t 70, I k)]) 2 (fun k => d.length - k) (fun k => k ≤ d.length) 0 (Nat.zero_le _) (by (cbv; repeat' (first | exact True.intro | exact rfl | apply And.intro))) ?_
        intro k hk
        cbv
        split <;> rename_i h <;> (try simp only [h]) <;> (try cbv) <;> (try simp only [ncast] at *)
        · have hlt2 : k < d.length := by subst hM; have h := of_decide_eq_true h; have h : (k : Int) < (lr.length : Int) := h; rw [hlr, ints_len] at h; omega
          clear h
          have hv1 := hinj (d.getD k 0) (getD_mem 0 hlt2)
          refine nidx_ints hlr hlt2 fun v hv => ?_
          rw [← hv] at hv1
          cbv
          refine .mk _ (use_call hC (c_contains rr _ v hrr lj true (by simpa using hv1))) ?_
          cbv
          simp only [nt]
          cbv
          refine ⟨k + 1, hlt2, ?_, by (cbv; repeat' (first | exact True.intro | exact rfl | apply And.intro)) <;> (subst hM; rw [succ_i64 (by omega)])⟩
          omega
        · refine ⟨j + 1, hlt, ?_, by (cbv; repeat' (first | exact True.intro | exact rfl | apply And.intro)) <;> (subst hM; rw [succ_i64 (by omega)])⟩
          omega
      · clear h
        refine Loop.over Nat (fun j => [(.t 82, I j)]) 2 (fun j => sols.length - j) (fun j => j ≤ sols.length) 0 (Nat.zero_le _) (by (cbv; repeat' (first | exact True.intro | exact rfl | apply And.intro))) ?_
        intro j hj
        cbv
        split <;> rename_i h <;> (try simp only [h]) <;> (try cbv) <;> (try simp only [ncast] at *)
        · have hlt : j < sols.length := by subst hM; have h := of_decide_eq_true h; have h : (j : Int) < (rs.length : Int) := h; rw [hrs, rowsOf_len] at h; omega
          clear h
          obtain ⟨hs1, hs2⟩ := hsol _ (getD_mem [] hlt)
          refine nidx_rows hrs hlt fun rr hrr => ?_
          cbv
          obtain ⟨r, hr⟩ : ∃ r, r = sols.getD j [] := ⟨_, rfl⟩
          rw [← hr] at hs1 hs2 hrr
          refine Loop.over Nat (fun k => [(.t 88, I k)]) 2 (fun k => r.length - k) (fun k => k ≤ r.length) 0 (Nat.zero_le _) (by (cbv; repeat' (first | exact True.intro | exact rfl | apply And.intro))) ?_
          intro k hk
          cbv
          split <;> rename_i h <;> (try simp only [h]) <;> (try cbv) <;> (try simp only [ncast] at *)
          · have hlt2 : k < r.length := by subst hM; have h := of_decide_eq_true h; have h : (k : Int) < (rr.length : Int) := h; rw [hrr, ints_len] at h; omega
            clear h
            have hv1 := hs2 k (by omega)
            refine nidx_ints hrr hlt2 fun v hv => ?_
            rw [← hv] at hv1
            cbv
            refine nidx_doms De (by omega) fun off ws mn mx sz Dj => ?_
            cbv
            refine .mk _ (use_call hC (c_domHas off mn mx sz ws _ Dj v true (by simpa using hv1))) ?_
            cbv
            simp only [nt]
            cbv
            refine ⟨k + 1, hlt2, ?_, by (cbv; repeat' (first | exact True.intro | exact rfl | apply And.intro)) <;> (subst hM; rw [succ_i64 (by omega)])⟩
            omega
          · refine ⟨j + 1, hlt, ?_, by (cbv; repeat' (first | exact True.intro | exact rfl | apply And.intro)) <;> (subst hM; rw [succ_i64 (by omega)])⟩
            omega
        · clear h
          refine .mk _ (use_call hC cf2) ?_
          cbv
          refine .mk _ (use_call hC cw) ?_
          cbv
          refine .mk _ (use_call hC cl2) ?_
          cbv
          refine .mk _ (use_call hC cl1) ?_
          cbv
          refine .mk _ (use_call hC csame) ?_
          cbv

/-- What a filter that is exact leaves is in the domains, and keeps every solution. -/
theorem leftL_in {ds : List (List Int)} {p : Nat → Int → Bool} : ∀ i, i < (leftL ds p).length → ∀ v ∈ (leftL ds p).getD i [], v ∈ ds.getD i [] := fun i hi v hv => by
  rw [leftL_len] at hi
  rw [leftL_get _ _ _ hi] at hv
  exact (List.mem_filter.1 hv).1

set_option maxHeartbeats 1000000 in
theorem c_lexiKeeps (z : Small) (zk zK zc : Int) (zA zB zC : List (List PV)) (R : SmallR z zk zA zB zC zK zc) (rd : List (List PV)) (ds : List (List Int)) (hrd : rd = rowsOf ds) (h64 : ds.length ≤ 9223372036854775807) (h65 : ∀ l ∈ ds, l.length ≤ 9223372036854775807) (n : Int) (hn8 : 0 ≤ n ∧ n ≤ 255) :
    Call .plain 13 [.agg [U8 zk, .list 1 zA, .list 1 zB, .list 1 zC, I16 zK, U8 zc, .list 1 rd], U8 n] (B true) := by
  obtain ⟨c, hc⟩ : ∃ c, c = makeS { z with kind := 22 - 1 } 5 := ⟨_, rfl⟩
  obtain ⟨ls, hls⟩ : ∃ ls, ls = domsS ds 6 (c.A.length + c.B.length) := ⟨_, rfl⟩
  have L : LexCase c ls := by rw [hls]; exact lex_case (fun v hv => (R.bA v hv).1) (fun v hv => (R.bB v hv).1) ds hc
  obtain ⟨kind, rA, rB, rC, rD, rE, K, rR, H⟩ : ∃ kind rA rB rC rD rE K rR, ConR c kind rA rB rC rD rE K rR := ⟨_, _, _, _, _, _, _, _, ⟨rfl, rfl, rfl, rfl, rfl, rfl, rfl, rfl⟩⟩
  obtain ⟨rl, hrl⟩ : ∃ rl, rl = rowsOf ls := ⟨_, rfl⟩
  have cm := c_make10 z zk zK zc zA zB zC R rd ds hrd h64 h65 22 (by decide) 6 (by decide) (by decide) c hc kind K rA rB rC rD rE rR H rl (by rw [hrl, hls])
  have ml := make_lens { z with kind := 22 - 1 } 5
  rw [← hc] at ml
  obtain ⟨m1, m2, m3, m4, m5, m6⟩ := ml
  have la : lim rA := lim_le (by rw [H.A]; simp; omega)
  have lb : lim rB := lim_le (by rw [H.B]; simp; omega)
  have lc : lim rC := lim_le (by rw [H.C]; simp; omega)
  have ld : lim rD := lim_le (by rw [H.D]; simp; omega)
  have le : lim rE := lim_le (by rw [H.E]; simp; omega)
  have lr : lim rR := lim_le (by rw [H.R]; simp; omega)
  have lsl : ls.length ≤ 8 := by have := L.len; omega
  have six : ∀ d ∈ ls, d.length ≤ 1000000 := fun d hd => by have := L.few d hd; omega
  have far : ∀ d ∈ ls, ∀ v ∈ d, -1000000 ≤ v ∧ v ≤ 1000000 := fun d hd => (L.dom d hd).far
  obtain ⟨rows, D, cd⟩ := c_doms_jigsawlaw21 rl ls hrl (by omega) six
  rw [map_ofL L.dom] at D
  obtain ⟨out, hout⟩ : ∃ out, out = leftL ls (lexP ls c.A.length) := ⟨_, rfl⟩
  have ex := L.exact
  obtain ⟨y, hy⟩ : ∃ y, y = someL out := ⟨_, rfl⟩
  have hy' : y = (fitsD c ls 22 22 && someL (leftL ls (lexP ls c.A.length))) := by rw [L.fits, ← hout, hy]; rfl
  obtain ⟨rows', f1, f2, cf⟩ := c_lexFilter c kind K rA rB rC rD rE rR H la lb lc ld le lr rows ls D (by omega) L.dom y hy'
  rw [← hout] at f1
  obtain ⟨e, he⟩ : ∃ e : List (List Int), e = if y = true then out else [] := ⟨_, rfl⟩
  have De : DomsR rows' e := by
    rw [he]
    cases y with
    | true => exact f1 rfl
    | false => rw [f2 rfl]; exact .nil
  have eout : ∀ d ∈ out, DomL d := fun d hd => by
    rw [hout, leftL] at hd
    obtain ⟨i, hi, rfl⟩ := List.mem_map.1 hd
    exact (L.dom _ (getD_mem [] (List.mem_range.1 hi))).filter _
  have e6 : ∀ l ∈ e, l.length ≤ 1000000 := fun l hl => by
    rw [he] at hl
    split at hl
    · rw [hout, leftL] at hl
      obtain ⟨i, hi, rfl⟩ := List.mem_map.1 hl
      have h1 := List.length_filter_le (lexP ls c.A.length i) (ls.getD i [])
      have h2 := six _ (getD_mem [] (List.mem_range.1 hi))
      omega
    · simp at hl
  have outl : out.length = ls.length := by rw [hout, leftL_len]
  have hpl : ls.length = c.A.length + c.B.length := L.len
  obtain ⟨fw, hfw⟩ : ∃ fw, fw = decide ((prodL ls : Int) ≤ 4000) := ⟨_, rfl⟩
  obtain ⟨rs, hrs⟩ : ∃ rs : List (List PV), rs = if fw = true then rowsOf (solsS c ls) else [] := ⟨_, rfl⟩
  have csol := c_solutions c L.right kind K rA rB rC rD rE rR H rl ls hrl L.full.ne far hpl six 4000 (by decide) fw hfw rs (fun h => by rw [hrs, if_pos h]) (fun h => by rw [hrs, if_neg (by rw [h]; decide)])
  -- the second time
  have hfull : y = true → Full out := fun h d hd => by
    rw [hy, someL_iff] at h
    exact ⟨(eout d hd).rising, h d hd⟩
  have again : y = true → leftL out (lexP out c.A.length) = out := fun h => by
    have e2 : ExactP out (fun r => solB c r = true) (lexP out c.A.length) := (lexP_exact (hfull h) (by have := L.len; have := L.B; omega)).congr fun r _ => (sol_22 L.kind r).symm
    rw [hout] at e2 ⊢
    exact ex.again e2
  have fits2 : y = true → fitsD c out 22 22 = true := fun h => by
    have h1 := L.kind
    have h2 := rightS_ok.2 L.right
    have h4 : someL out = true := by rw [← hy]; exact h
    unfold fitsD
    simp [h1, h2, outl, hpl, h4]
  obtain ⟨rows2, f3, cf2⟩ : ∃ rows2, (y = true → DomsR rows2 out) ∧ (y = true → Call .plain 49 [.agg [I kind, .list 1 rA, .list 1 rB, .list 1 rC, .list 1 rD, .list 1 rE, I K, .list 1 rR], .list 5 rows'] (.tup [.list 5 rows2, B true])) := by
    by_cases h : y = true
    · obtain ⟨rows2, g1, g2, g3⟩ := c_lexFilter c kind K rA rB rC rD rE rR H la lb lc ld le lr rows' out (f1 h) (by omega) eout true (by rw [fits2 h, again h, ← hy, h]; rfl)
      rw [again h] at g1
      exact ⟨rows2, fun _ => g1 rfl, fun _ => g3⟩
    · exact ⟨[], fun h' => absurd h' h, fun h' => absurd h' h⟩
  refine keeps21 zk zK zc zA zB zC rd n c kind K rA rB rC rD rE rR rl ls hrl (c_kind21 n) cm rs (solsS c ls) fw (fun h => by rw [hrs, if_pos h]) csol rows cd rows' e De y cf (fun h => by rw [he, if_pos h, outl]) (fun i hi v hv => ?_) (fun h r hr => ?_) (fun h hf => ?_) rows2 out f3 cf2 (fun h => by rw [he, if_pos h]) (by omega) ?_ six e6
  · rw [he] at hi hv
    split at hi
    · rw [if_pos (by assumption)] at hv
      rw [hout] at hi hv
      exact leftL_in i hi v hv
    · simp at hi
  · obtain ⟨r1, r2⟩ := (mem_solsS L.full.ne).1 hr
    rw [he, if_pos h]
    exact inD_get.1 (by rw [hout]; exact (ex.sols r r2).2 r1)
  · rw [hrs, if_pos hf]
    have : solsS c ls = [] := by
      rcases Classical.em (solsS c ls = []) with h3 | h3
      · exact h3
      · rw [hy, hout] at h
        rw [(ex.some (by have := L.one; omega)).2 ((sols_ne L.full.ne).1 h3)] at h
        cases h
    rw [this]; rfl
  · intro h
    rw [h] at hfw
    have hp : (prodL ls : Int) ≤ 4000 := of_decide_eq_true hfw.symm
    have h1 : (solsS c ls).length ≤ (rowsS ls).length := List.length_filter_le _ _
    have h2 : (rowsS ls).length = prodL ls := by simp [rowsS]
    omega
