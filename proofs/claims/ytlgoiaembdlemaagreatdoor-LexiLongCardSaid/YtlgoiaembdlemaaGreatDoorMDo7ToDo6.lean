/- Package jigsawref02: the document's lists of numbers. -/
import Derived.Test.YtlgoiaembdlemaaGreatDoorEnv
import Derived.Test.YtlgoiaembdlemaaGreatDoorPid
import Derived.Test.YtlgoiaembdlemaaGreatDoorMDo1ToDo5
import Derived.Test.YtlgoiaembdlemaaGreatDoorMSl1ToSt1
import Derived.Test.YtlgoiaembdlemaaGreatDoorMRf2cToRf3
set_option linter.unusedSimpArgs false
set_option linter.unusedVariables false

/- Package jigsawref02: the document's lists of numbers. -/
namespace Go.Pi
open Go
set_option linter.unusedVariables false
set_option linter.unusedSimpArgs false

theorem c_r2has (rl : List (List PV)) (l : List Int) (hl : rl = ints l) (h64 : l.length ≤ 1000000) (v : Int) (y : Bool) (hy : y = hasL l v) : Call .plain 135 [.list 1 rl, I v] (B y) := by
  refine call_of Proofs.Tryz.func135 Proofs.Tryz.call135 rfl rfl fun M C hM hC => ?_
  cbv
  refine Loop.over Nat (fun q => [(.t 5, I q)]) 0 (fun q => l.length - q) (fun q => q ≤ l.length ∧ ∀ i, i < q → l.getD i 0 ≠ v) 0 ⟨Nat.zero_le _, by omega⟩ (by (cbv; repeat' (first | exact True.intro | exact rfl | apply And.intro))) ?_
  rintro j ⟨hj, hn⟩
  cbv
  split <;> rename_i h <;> (try simp only [h]) <;> (try cbv) <;> (try simp only [ncast] at *)
  · have hlt : j < l.length := by subst hM; simpa [hl] using h
    clear h
    refine nidx_ints hl hlt fun u hu => ?_
    cbv
    split <;> rename_i h <;> (try simp only [h]) <;> (try cbv) <;> (try simp only [ncast] at *)
    · have h1 : u = v := by subst hM; simpa using h
      rw [hy, show hasL l v = true from by rw [hasL_iff, ← h1, hu]; exact getD_mem 0 hlt]
    · have h1 : u ≠ v := by subst hM; simpa using h
      refine ⟨j + 1, ⟨hlt, fun i hi => ?_⟩, ?_, by (cbv; repeat' (first | exact True.intro | exact rfl | apply And.intro)) <;> (subst hM; rw [succ_i64 (by omega)])⟩
      · rcases Nat.lt_or_ge i j with h3 | h3
        · exact hn i h3
        · have : i = j := by omega
          subst this; rw [← hu]; exact h1
      · omega
  · have hj2 : j = l.length := by subst hM; simp [hl] at h; omega
    subst hj2
    have : hasL l v = false := by
      rw [hasL_not]
      intro this
      obtain ⟨i, hi, e⟩ := List.mem_iff_getElem.1 this
      exact absurd (by simp [List.getD_eq_getElem?_getD, hi, e]) (hn i hi)
    rw [hy, this]

/-- The loop that puts a number into a rising list. -/
def putS (v : Int) (p : List Int × Bool) (x : Int) : List Int × Bool := if x > v ∧ p.2 = false then (p.1 ++ [v, x], true) else (p.1 ++ [x], p.2)
theorem putS_true (v : Int) (l a : List Int) : l.foldl (putS v) (a, true) = (a ++ l, true) := by
  induction l generalizing a with
  | nil => simp
  | cons x r ih => rw [List.foldl_cons, show putS v (a, true) x = (a ++ [x], true) from by simp [putS], ih]; simp
theorem putS_spec {v : Int} : ∀ {l : List Int} (a : List Int), Rising l → v ∉ l → ((l.foldl (putS v) (a, false)).2 = true → (l.foldl (putS v) (a, false)).1 = a ++ insS v l) ∧ ((l.foldl (putS v) (a, false)).2 = false → (l.foldl (putS v) (a, false)).1 ++ [v] = a ++ insS v l)
  | [], a, _, _ => by simp [insS]
  | x :: r, a, h, hv => by
    have h' := List.pairwise_cons.1 h
    simp only [List.mem_cons, not_or] at hv
    rw [List.foldl_cons]
    by_cases hx : x > v
    · rw [show putS v (a, false) x = (a ++ [v, x], true) from by simp [putS, hx], putS_true]
      have : insS v (x :: r) = v :: x :: r := by simp [insS, hx]
      rw [this]
      simp
    · rw [show putS v (a, false) x = (a ++ [x], false) from by simp [putS, hx]]
      have : insS v (x :: r) = x :: insS v r := by
        rw [insS, if_neg (by omega), if_neg (by omega)]
      rw [this]
      have := putS_spec (a ++ [x]) h'.2 hv.2
      simpa using this
theorem putS_len (v : Int) (l : List Int) (p : List Int × Bool) : (l.foldl (putS v) p).1.length ≤ p.1.length + l.length + (if p.2 then 0 else 1) := by
  induction l generalizing p with
  | nil => simp
  | cons x r ih =>
    have := ih (putS v p x)
    rw [List.foldl_cons]
    refine Nat.le_trans this ?_
    unfold putS
    split
    · rename_i h
      simp [h.2]
      omega
    · simp
      omega

set_option maxHeartbeats 1000000 in
theorem c_r2of (rl : List (List PV)) (l : List Int) (hl : rl = ints l) (h64 : l.length ≤ 1000000) (r : List (List PV)) (hr : r = ints (ofL l)) (e : Int) (he : e = ofE l) : Call .plain 76 [.list 1 rl] (.tup [.list 1 r, I e]) := by
  refine call_of Proofs.Tryz.func76 Proofs.Tryz.call76 rfl rfl fun M C hM hC => ?_
  have c0 : M .cmp .eql (Int.ofNat (M .len rl)) 0 = decide (l = []) := by
    subst hM
    show ((rl.length : Int) == 0) = _
    rw [hl, ints_len, Bool.eq_iff_iff]
    cases l <;> simp
    omega
  by_cases h0 : l = []
  · have c0 : M .cmp .eql (Int.ofNat (M .len rl)) 0 = true := by rw [c0]; simp [h0]
    have he' : e = 4 := by rw [he, ofE, if_pos h0]
    have hr' : r = [] := by rw [hr, ofL, ofE, if_pos h0]; rfl
    clear he hr h0
    cbv
    rw [show M .cmp .eql _ 0 = _ from c0]
    cbv
    rw [he', hr']
    (cbv; repeat' (first | exact True.intro | exact rfl | apply And.intro))
  · have c0 : M .cmp .eql (Int.ofNat (M .len rl)) 0 = false := by rw [c0]; simp [h0]
    have hpos : 0 < l.length := List.length_pos_iff.2 h0
    cbv
    rw [show M .cmp .eql _ 0 = _ from c0]
    clear c0
    cbv
    refine idx_ints hl (by decide) (by omega) fun v0 hv0 => ?_
    cbv
    refine idx_ints hl (by decide) (by omega) fun v0' hv0' => ?_
    have e0 : v0' = v0 := by rw [hv0, hv0']
    subst e0
    clear hv0'
    have m0 : v0' ∈ l := by rw [hv0]; exact getD_mem 0 hpos
    clear hv0
    cbv
    refine Loop.over (Nat × Int × Int) (fun q => [(.t 6, I q.1), (.t 4, I q.2.1), (.t 5, I q.2.2)]) 0 (fun q => l.length - q.1) (fun q => q.1 ≤ l.length ∧ (q.2.1 ∈ l ∧ q.2.2 ∈ l) ∧ ∀ i, i < q.1 → q.2.1 ≤ l.getD i 0 ∧ l.getD i 0 ≤ q.2.2 ∧ farS (l.getD i 0) = false) (0, v0', v0') ⟨Nat.zero_le _, ⟨m0, m0⟩, by intro i hi; simp only at hi; omega⟩ (by (cbv; repeat' (first | exact True.intro | exact rfl | apply And.intro))) ?_
    clear m0
    rintro ⟨j, lo, hi'⟩ ⟨hj, ⟨mlo, mhi⟩, hn⟩
    simp only at hj mlo mhi hn
    cbv
    split <;> rename_i h <;> (try simp only [h]) <;> (try cbv) <;> (try simp only [ncast] at *)
    · have hlt : j < l.length := by subst hM; simpa [hl] using h
      clear h
      obtain ⟨u, hu⟩ : ∃ u, u = l.getD j 0 := ⟨_, rfl⟩
      have um : u ∈ l := by rw [hu]; exact getD_mem 0 hlt
      have gi : rl[(Int.ofNat j).toNat]? = some [I u] := by
        rw [hl, show (Int.ofNat j).toNat = j from rfl, ints_get, hu]
        simp [List.getD_eq_getElem?_getD, hlt]
      have bad : farS u = true → e = 3 ∧ r = [] := fun hf => by
        have hany : l.any farS = true := List.any_eq_true.2 ⟨u, um, hf⟩
        have : ofE l = 3 := by rw [ofE, if_neg h0, if_pos hany]
        exact ⟨by rw [he, this], by rw [hr, ofL, if_neg (by rw [this]; decide)]; rfl⟩
      refine .mk _ (Int.natCast_nonneg _) gi ?_
      cbv
      by_cases g1 : u < -1000000
      · obtain ⟨he', hr'⟩ := bad (by simp [farS, g1])
        have q1 : M .cmp .lss u (-1000000) = true := by subst hM; exact decide_eq_true g1
        clear bad he hr
        simp only [q1]
        cbv
        rw [he', hr']
        (cbv; repeat' (first | exact True.intro | exact rfl | apply And.intro))
      · have q1 : M .cmp .lss u (-1000000) = false := by subst hM; exact decide_eq_false g1
        simp only [q1]
        cbv
        refine .mk _ (Int.natCast_nonneg _) gi ?_
        cbv
        by_cases g2 : u > 1000000
        · obtain ⟨he', hr'⟩ := bad (by simp [farS, g2])
          have q2 : M .cmp .gtr u 1000000 = true := by subst hM; exact decide_eq_true g2
          clear bad he hr
          simp only [q2]
          cbv
          rw [he', hr']
          (cbv; repeat' (first | exact True.intro | exact rfl | apply And.intro))
        · have q2 : M .cmp .gtr u 1000000 = false := by subst hM; exact decide_eq_false g2
          have hf : farS u = false := by simp [farS]; omega
          have next : ∀ a b : Int, a = (if u < lo then u else lo) → b = (if u > hi' then u else hi') → (a ∈ l ∧ b ∈ l) ∧ ∀ i, i < j + 1 → a ≤ l.getD i 0 ∧ l.getD i 0 ≤ b ∧ farS (l.getD i 0) = false := fun a b ha hb => by
            refine ⟨⟨?_, ?_⟩, fun i hi => ?_⟩
            · rw [ha]; split <;> assumption
            · rw [hb]; split <;> assumption
            · rcases Nat.lt_or_ge i j with h3 | h3
              · obtain ⟨n1, n2, n3⟩ := hn i h3
                refine ⟨?_, ?_, n3⟩
                · rw [ha]; split <;> omega
                · rw [hb]; split <;> omega
              · have : i = j := by omega
                subst this
                rw [← hu]
                refine ⟨?_, ?_, hf⟩
                · rw [ha]; split <;> omega
                · rw [hb]; split <;> omega
          clear bad he hr hn mlo mhi um
          simp only [q2]
          cbv
          refine .mk _ (Int.natCast_nonneg _) gi ?_
          cbv
          by_cases g3 : u < lo
          · have q3 : M .cmp .lss u lo = true := by subst hM; exact decide_eq_true g3
            simp only [if_pos g3] at next
            simp only [q3]
            cbv
            refine .mk _ (Int.natCast_nonneg _) gi ?_
            cbv
            refine .mk _ (Int.natCast_nonneg _) gi ?_
            cbv
            by_cases g4 : u > hi'
            · have q4 : M .cmp .gtr u hi' = true := by subst hM; exact decide_eq_true g4
              simp only [if_pos g4] at next
              simp only [q4]
              cbv
              refine .mk _ (Int.natCast_nonneg _) gi ?_
              cbv
              refine ⟨⟨j + 1, _, _⟩, ⟨hlt, next _ _ rfl rfl⟩, ?_, by (cbv; repeat' (first | exact True.intro | exact rfl | apply And.intro)) <;> (subst hM; rw [succ_i64 (by omega)])⟩
              simp only; omega
            · have q4 : M .cmp .gtr u hi' = false := by subst hM; exact decide_eq_false g4
              simp only [if_neg g4] at next
              simp only [q4]
              cbv
              refine ⟨⟨j + 1, _, _⟩, ⟨hlt, next _ _ rfl rfl⟩, ?_, by (cbv; repeat' (first | exact True.intro | exact rfl | apply And.intro)) <;> (subst hM; rw [succ_i64 (by omega)])⟩
              simp only; omega
          · have q3 : M .cmp .lss u lo = false := by subst hM; exact decide_eq_false g3
            simp only [if_neg g3] at next
            simp only [q3]
            cbv
            refine .mk _ (Int.natCast_nonneg _) gi ?_
            cbv
            by_cases g4 : u > hi'
            · have q4 : M .cmp .gtr u hi' = true := by subst hM; exact decide_eq_true g4
              simp only [if_pos g4] at next
              simp only [q4]
              cbv
              refine .mk _ (Int.natCast_nonneg _) gi ?_
              cbv
              refine ⟨⟨j + 1, _, _⟩, ⟨hlt, next _ _ rfl rfl⟩, ?_, by (cbv; repeat' (first | exact True.intro | exact rfl | apply And.intro)) <;> (subst hM; rw [succ_i64 (by omega)])⟩
              simp only; omega
            · have q4 : M .cmp .gtr u hi' = false := by subst hM; exact decide_eq_false g4
              simp only [if_neg g4] at next
              simp only [q4]
              cbv
              refine ⟨⟨j + 1, _, _⟩, ⟨hlt, next _ _ rfl rfl⟩, ?_, by (cbv; repeat' (first | exact True.intro | exact rfl | apply And.intro)) <;> (subst hM; rw [succ_i64 (by omega)])⟩
              simp only; omega
    · have hj2 : j = l.length := by subst hM; simp [hl] at h; omega
      subst hj2
      clear h hj
      have hall : ∀ v ∈ l, lo ≤ v ∧ v ≤ hi' ∧ farS v = false := fun v hv => by
        obtain ⟨i, hi, e⟩ := List.mem_iff_getElem.1 hv
        have := hn i hi
        rw [show l.getD i 0 = v by simp [List.getD_eq_getElem?_getD, hi, e]] at this
        exact this
      have elo : minS l = lo := by
        have := (minS_spec h0).2 lo mlo
        have := (hall _ (minS_spec h0).1).1
        omega
      have ehi : maxS l = hi' := by
        have := (maxS_spec h0).2 hi' mhi
        have := (hall _ (maxS_spec h0).1).2.1
        omega
      have hnf : l.any farS = false := by
        rw [List.any_eq_false]
        intro v hv
        simp [(hall v hv).2.2]
      have blo := (hall lo mlo).2.2
      have bhi := (hall hi' mhi).2.2
      simp [farS] at blo bhi
      have hE : ofE l = if hi' - lo ≥ 65536 then 5 else 0 := by
        rw [ofE, if_neg h0, hnf, elo, ehi]; simp
      have q1 : M .cmp .geq (M .arith .sub .i64 hi' lo) 65536 = decide (hi' - lo ≥ 65536) := by
        subst hM
        show decide (IntKind.i64.wrap (hi' - lo) ≥ 65536) = _
        rw [wrap_i64 (by omega) (by omega)]
      clear hn hall elo ehi hnf blo bhi mlo mhi
      by_cases g1 : hi' - lo ≥ 65536
      · rw [if_pos g1] at hE
        have q1 : M .cmp .geq (M .arith .sub .i64 hi' lo) 65536 = true := by rw [q1]; exact decide_eq_true g1
        have he' : e = 5 := by rw [he, hE]
        have hr' : r = [] := by rw [hr, ofL, if_neg (by rw [hE]; decide)]; rfl
        clear he hr hE g1
        rw [show M .cmp .geq _ 65536 = _ from q1]
        cbv
        rw [he', hr']
        (cbv; repeat' (first | exact True.intro | exact rfl | apply And.intro))
      · rw [if_neg g1] at hE
        have q1 : M .cmp .geq (M .arith .sub .i64 hi' lo) 65536 = false := by rw [q1]; exact decide_eq_false g1
        have he' : e = 0 := by rw [he, hE]
        have hr' : r = ints (setS l) := by rw [hr, ofL, if_pos hE]
        clear he hr hE g1
        rw [show M .cmp .geq _ 65536 = _ from q1]
        cbv
        refine Loop.over (Nat × List (List PV)) (fun q => [(.t 8, I q.1), (.t 7, .list 1 q.2)]) 0 (fun q => l.length - q.1) (fun q => q.1 ≤ l.length ∧ q.2 = ints (setS (l.take q.1))) (0, []) ⟨Nat.zero_le _, rfl⟩ (by (cbv; repeat' (first | exact True.intro | exact rfl | apply And.intro))) ?_
        rintro ⟨j, q⟩ ⟨hj, hq⟩
        simp only at hj hq
        cbv
        split <;> rename_i h <;> (try simp only [h]) <;> (try cbv) <;> (try simp only [ncast] at *)
        · have hlt : j < l.length := by subst hM; simpa [hl] using h
          clear h
          have hsl := setS_len (l.take j)
          rw [List.length_take] at hsl
          have hsr := setS_rising (l.take j)
          have hsn : setS (l.take (j + 1)) = insS (l.getD j 0) (setS (l.take j)) := by rw [take_succ_getD 0 hlt, setS_snoc]
          generalize setS (l.take j) = S at hq hsl hsr hsn
          obtain ⟨u, hu⟩ : ∃ u, u = l.getD j 0 := ⟨_, rfl⟩
          have gi : rl[(Int.ofNat j).toNat]? = some [I u] := by
            rw [hl, show (Int.ofNat j).toNat = j from rfl, ints_get, hu]
            simp [List.getD_eq_getElem?_getD, hlt]
          rw [← hu] at hsn
          refine .mk _ (Int.natCast_nonneg _) gi ?_
          cbv
          refine callB hC (c_r2has q S hq (by omega) u _ rfl) fun z hz => ?_
          cbv
          cases z
          · have hnot : u ∉ S := hasL_not.1 hz.symm
            have hput := putS_spec [] hsr hnot
            cbv
            refine Loop.over (Nat × Bool × List (List PV)) (fun q => [(.t 12, I q.1), (.t 11, B q.2.1), (.t 10, .own 0 0), (.a 0, .arr 0 3 1 q.2.2), (.i 0, .inf true 0)]) 1 (fun q => S.length - q.1) (fun q => q.1 ≤ S.length ∧ q.2.1 = ((S.take q.1).foldl (putS u) ([], false)).2 ∧ q.2.2 = ints ((S.take q.1).foldl (putS u) ([], false)).1) (0, false, []) ⟨Nat.zero_le _, rfl, rfl⟩ (by (cbv; repeat' (first | exact True.intro | exact rfl | apply And.intro))) ?_
            rintro ⟨k, d, p⟩ ⟨hk, hd, hp⟩
            simp only at hk hd hp
            have hpl := putS_len u (S.take k) ([], false)
            rw [List.length_take] at hpl
            cbv
            split <;> rename_i h <;> (try simp only [h]) <;> (try cbv) <;> (try simp only [ncast] at *)
            · have hlt2 : k < S.length := by subst hM; simpa [hq] using h
              clear h
              obtain ⟨x, hx⟩ : ∃ x, x = S.getD k 0 := ⟨_, rfl⟩
              have gk : q[(Int.ofNat k).toNat]? = some [I x] := by
                rw [hq, show (Int.ofNat k).toNat = k from rfl, ints_get, hx]
                simp [List.getD_eq_getElem?_getD, hlt2]
              have hfold : (S.take (k + 1)).foldl (putS u) ([], false) = putS u ((S.take k).foldl (putS u) ([], false)) x := by
                rw [take_succ_getD 0 hlt2, List.foldl_append, ← hx]; rfl
              generalize (S.take k).foldl (putS u) ([], false) = st at hd hp hfold hpl
              obtain ⟨st1, st2⟩ := st
              simp only at hd hp hpl
              simp at hpl
              subst hd
              refine .mk _ (Int.natCast_nonneg _) gk ?_
              cbv
              refine .mk _ (Int.natCast_nonneg _) gi ?_
              cbv
              by_cases g1 : x > u
              · have q2 : M .cmp .gtr x u = true := by subst hM; exact decide_eq_true g1
                simp only [q2]
                cases d
                · have nf : M .not false = true := by subst hM; rfl
                  cbv
                  simp only [nf]
                  cbv
                  refine .mk _ (Int.natCast_nonneg _) gi ?_
                  cbv
                  have few : (M .app p [[I u]]).length ≤ 2147483648 := by subst hM; simp [hp]; omega
                  refine .mk few ?_
                  cbv
                  refine .mk _ (Int.natCast_nonneg _) gk ?_
                  cbv
                  refine .mk (by subst hM; simp [hp]; omega) ?_
                  cbv
                  refine ⟨⟨k + 1, true, _⟩, ⟨hlt2, ?_, ?_⟩, ?_, by (cbv; repeat' (first | exact True.intro | exact rfl | apply And.intro)) <;> (subst hM; rw [succ_i64 (by omega)])⟩
                  · rw [hfold, putS, if_pos ⟨g1, rfl⟩]
                  · rw [hfold, putS, if_pos ⟨g1, rfl⟩]
                    subst hM
                    rw [real_app, real_app, hp]
                    simp [ints]
                  · simp only; omega
                · have nf : M .not true = false := by subst hM; rfl
                  cbv
                  simp only [nf]
                  cbv
                  refine .mk _ (Int.natCast_nonneg _) gk ?_
                  cbv
                  refine .mk (by subst hM; simp [hp]; omega) ?_
                  cbv
                  refine ⟨⟨k + 1, true, _⟩, ⟨hlt2, ?_, ?_⟩, ?_, by (cbv; repeat' (first | exact True.intro | exact rfl | apply And.intro)) <;> (subst hM; rw [succ_i64 (by omega)])⟩
                  · rw [hfold, putS, if_neg (by simp)]
                  · rw [hfold, putS, if_neg (by simp)]
                    subst hM
                    rw [real_app, hp]
                    simp [ints]
                  · simp only; omega
              · have q2 : M .cmp .gtr x u = false := by subst hM; exact decide_eq_false g1
                simp only [q2]
                cbv
                refine .mk _ (Int.natCast_nonneg _) gk ?_
                cbv
                refine .mk (by subst hM; simp [hp]; omega) ?_
                cbv
                refine ⟨⟨k + 1, d, _⟩, ⟨hlt2, ?_, ?_⟩, ?_, by (cbv; repeat' (first | exact True.intro | exact rfl | apply And.intro)) <;> (subst hM; rw [succ_i64 (by omega)])⟩
                · rw [hfold, putS, if_neg (by simp [g1])]
                · rw [hfold, putS, if_neg (by simp [g1])]
                  subst hM
                  rw [real_app, hp]
                  simp [ints]
                · simp only; omega
            · have hk2 : k = S.length := by subst hM; simp [hq] at h; omega
              subst hk2
              clear h
              rw [List.take_length] at hd hp hpl
              generalize S.foldl (putS u) ([], false) = st at hd hp hpl hput
              obtain ⟨st1, st2⟩ := st
              simp only [List.nil_append] at hd hp hput hpl
              simp at hpl
              subst hd
              cases d
              · have nf : M .not false = true := by subst hM; rfl
                have hput := hput.2 rfl
                simp only [nf]
                cbv
                refine .mk _ (Int.natCast_nonneg _) gi ?_
                cbv
                refine .mk (by subst hM; simp [hp]; omega) ?_
                cbv
                refine ⟨⟨j + 1, _⟩, ⟨hlt, ?_⟩, ?_, by (cbv; repeat' (first | exact True.intro | exact rfl | apply And.intro)) <;> (subst hM; rw [succ_i64 (by omega)])⟩
                · rw [hsn, ← hput]
                  subst hM
                  rw [real_app, hp]
                  simp [ints]
                · simp only; omega
              · have nf : M .not true = false := by subst hM; rfl
                have hput := hput.1 rfl
                simp only [nf]
                cbv
                refine ⟨⟨j + 1, p⟩, ⟨hlt, ?_⟩, ?_, by (cbv; repeat' (first | exact True.intro | exact rfl | apply And.intro)) <;> (subst hM; rw [succ_i64 (by omega)])⟩
                · rw [hsn, ← hput]; exact hp
                · simp only; omega
          · have hin : u ∈ S := hasL_iff.1 hz.symm
            rw [insS_in hsr hin] at hsn
            cbv
            refine ⟨⟨j + 1, q⟩, ⟨hlt, ?_⟩, ?_, by (cbv; repeat' (first | exact True.intro | exact rfl | apply And.intro)) <;> (subst hM; rw [succ_i64 (by omega)])⟩
            · rw [hsn]; exact hq
            · simp only; omega
        · have hj2 : j = l.length := by subst hM; simp [hl] at h; omega
          subst hj2
          rw [List.take_length, ← hr'] at hq
          rw [hq, he']
          (cbv; repeat' (first | exact True.intro | exact rfl | apply And.intro))
end Go.Pi

/- Lists of domains: made, listed; the document's small lists. -/
namespace Go.Pi
open Go
set_option linter.unusedVariables false
set_option linter.unusedSimpArgs false

/-! ### Rows of domains -/
def DomRow (r : List PV) (l : List Int) : Prop := ∃ off ws mn mx sz, r = [I off, .list 1 ws, I mn, I mx, I sz] ∧ DomR off ws mn mx sz l
structure DomsR (rows : List (List PV)) (ls : List (List Int)) : Prop where
  len : rows.length = ls.length
  get : ∀ i, i < ls.length → DomRow (rows.getD i []) (ls.getD i [])
theorem DomsR.nil : DomsR [] [] := ⟨rfl, fun i hi => by simp at hi⟩
theorem DomsR.app {a b : List (List PV)} {x y : List (List Int)} (ha : DomsR a x) (hb : DomsR b y) : DomsR (a ++ b) (x ++ y) := by
  refine ⟨by rw [List.length_append, List.length_append, ha.len, hb.len], fun i hi => ?_⟩
  rw [List.length_append] at hi
  have l1 := ha.len
  by_cases h : i < x.length
  · have := ha.get i h
    simpa [List.getD_eq_getElem?_getD, List.getElem?_append_left, h, show i < a.length by omega] using this
  · have := hb.get (i - x.length) (by omega)
    have e : i - a.length = i - x.length := by rw [l1]
    simpa [List.getD_eq_getElem?_getD, List.getElem?_append_right, show x.length ≤ i by omega, show a.length ≤ i by omega, e] using this
theorem DomsR.one {r : List PV} {l : List Int} (h : DomRow r l) : DomsR [r] [l] := ⟨rfl, fun i hi => by
  have : i = 0 := by simpa using hi
  subst this; exact h⟩
theorem DomsR.sub {a : List (List PV)} {x : List (List Int)} (h : DomsR a x) (i k : Nat) : DomsR ((a.drop i).take k) ((x.drop i).take k) := by
  have l1 := h.len
  refine ⟨by simp [l1], fun j hj => ?_⟩
  simp only [List.length_take, List.length_drop] at hj
  have := h.get (i + j) (by omega)
  simpa [List.getD_eq_getElem?_getD, List.getElem?_take, show j < k by omega] using this
theorem DomsR.set {a : List (List PV)} {x : List (List Int)} (h : DomsR a x) {i : Nat} {r : List PV} {l : List Int} (hr : DomRow r l) : DomsR (a.set i r) (x.set i l) := by
  have l1 := h.len
  refine ⟨by simp [l1], fun j hj => ?_⟩
  rw [List.length_set] at hj
  by_cases e : j = i
  · subst e
    simpa [List.getD_eq_getElem?_getD, List.getElem?_set_self, hj, show j < a.length by omega] using hr
  · have := h.get j hj
    simpa [List.getD_eq_getElem?_getD, List.getElem?_set_ne (fun h => e h.symm)] using this
theorem nidx_doms {R : List (List PV)} {A : List (List Int)} {j : Nat} {K : List PV → Prop} (hR : DomsR R A) (h1 : j < A.length) (k : ∀ off ws mn mx sz, DomR off ws mn mx sz (A.getD j []) → K [I off, .list 1 ws, I mn, I mx, I sz]) : Idx R (Int.ofNat j) K := by
  obtain ⟨off, ws, mn, mx, sz, e, D⟩ := hR.get j h1
  have hlt : j < R.length := by rw [hR.len]; exact h1
  refine .mk _ (Int.natCast_nonneg j) ?_ (k off ws mn mx sz D)
  rw [show (Int.ofNat j).toNat = j from rfl, List.getElem?_eq_getElem hlt, ← e]
  simp [List.getD_eq_getElem?_getD, hlt]
/-- Some rows that show these. -/
theorem doms_some (ls : List (List Int)) (h : ∀ l ∈ ls, ∃ r, DomRow r l) : ∃ rows, DomsR rows ls := by
  induction ls with
  | nil => exact ⟨[], .nil⟩
  | cons l r ih =>
    obtain ⟨a, ha⟩ := h l (by simp)
    obtain ⟨b, hb⟩ := ih fun x hx => h x (by simp [hx])
    exact ⟨a :: b, DomsR.app (.one ha) hb⟩

/-! ### Domains of lists -/
/-- A row for each list, that dom.Of makes. -/
theorem of_rows (ls : List (List Int)) (h64 : ∀ l ∈ ls, l.length ≤ 1000000) : ∃ f : Nat → List PV, ∀ i, i < ls.length → DomRow (f i) (ofL (ls.getD i [])) ∧ ∀ rl, rl = ints (ls.getD i []) → Call .plain 86 [.list 1 rl] (.tup [.agg (f i), I (ofE (ls.getD i []))]) := by
  have : ∀ i : Nat, ∃ r : List PV, i < ls.length → DomRow r (ofL (ls.getD i [])) ∧ ∀ rl, rl = ints (ls.getD i []) → Call .plain 86 [.list 1 rl] (.tup [.agg r, I (ofE (ls.getD i []))]) := fun i => by
    by_cases hi : i < ls.length
    · obtain ⟨off, ws, mn, mx, sz, D, c⟩ := c_of (ints (ls.getD i [])) (ls.getD i []) rfl (h64 _ (getD_mem [] hi))
      exact ⟨_, fun _ => ⟨⟨off, ws, mn, mx, sz, rfl, D⟩, fun rl e => e ▸ c⟩⟩
    · exact ⟨[], fun h => absurd h hi⟩
  exact Classical.axiomOfChoice this
theorem rows_of (f : Nat → List PV) (ls : List (List Int)) (h : ∀ i, i < ls.length → DomRow (f i) (ls.getD i [])) : DomsR ((List.range ls.length).map f) ls :=
  ⟨by simp, fun i hi => by simpa [List.getD_eq_getElem?_getD, hi] using h i hi⟩
theorem map_getD {ls : List (List Int)} (g : List Int → List Int) {i : Nat} (h : i < ls.length) : (ls.map g).getD i [] = g (ls.getD i []) := by
  simp [List.getD_eq_getElem?_getD, h]



theorem c_doms_jigsawlaw10 (rl : List (List PV)) (ls : List (List Int)) (hl : rl = rowsOf ls) (h64 : ls.length ≤ 1000000) (h65 : ∀ l ∈ ls, l.length ≤ 1000000) : ∃ rows, DomsR rows (ls.map ofL) ∧ Call .plain 60 [.list 1 rl] (.list 5 rows) := by
  obtain ⟨f, hf⟩ := of_rows ls h65
  refine ⟨(List.range ls.length).map f, by
    have := rows_of f (ls.map ofL) fun i hi => by rw [map_getD _ (by simpa using hi)]; exact (hf i (by simpa using hi)).1
    rw [List.length_map] at this
    exact this, ?_⟩
  generalize hr : (List.range ls.length).map f = r
  refine call_of Proofs.Tryz.func60 Proofs.Tryz.call60 rfl rfl fun M C hM hC => ?_
  cbv
  refine Loop.over (Nat × List (List PV)) (fun q => [(.t 10, I q.1), (.t 3, .own 0 0), (.a 0, .arr 0 73 5 q.2), (.i 0, .inf true 0)]) 1 (fun q => ls.length - q.1) (fun q => q.1 ≤ ls.length ∧ q.2 = (List.range q.1).map f) (0, []) ⟨Nat.zero_le _, rfl⟩ (by (cbv; repeat' (first | exact True.intro | exact rfl | apply And.intro))) ?_
  rintro ⟨j, q⟩ ⟨hj, hq⟩
  simp only at hj hq
  cbv
  split <;> rename_i h <;> (try simp only [h]) <;> (try cbv) <;> (try simp only [ncast] at *)
  · have hlt : j < ls.length := by subst hM; simpa [hl] using h
    clear h
    obtain ⟨⟨off, ws, mn, mx, sz, ef, _⟩, cf⟩ := hf j hlt
    rw [ef] at cf
    have step : M .app q [[I off, .list 1 ws, I mn, I mx, I sz]] = (List.range (j + 1)).map f := by
      subst hM
      rw [real_app, hq, range_map_succ, ef]
    have few : (M .app q [[I off, .list 1 ws, I mn, I mx, I sz]]).length ≤ 2147483648 := by rw [step]; simp; omega
    clear ef hq
    refine nidx_rows hl hlt fun rr hrr => ?_
    cbv
    refine .mk _ (use_call hC (cf rr hrr)) ?_
    cbv
    refine .mk few ?_
    cbv
    refine ⟨⟨j + 1, _⟩, ⟨hlt, step⟩, ?_, by (cbv; repeat' (first | exact True.intro | exact rfl | apply And.intro)) <;> (subst hM; rw [succ_i64 (by omega)])⟩
    simp only; omega
  · have hj2 : j = ls.length := by subst hM; simp [hl] at h; omega
    subst hj2
    exact ⟨hq.trans hr, trivial⟩


theorem c_lists_jigsawlaw10 (rows : List (List PV)) (ls : List (List Int)) (D : DomsR rows ls) (h64 : ls.length ≤ 1000000) (r : List (List PV)) (hr : r = rowsOf ls) : Call .plain 63 [.list 5 rows] (.list 1 r) := by
  have hlen := D.len
  refine call_of Proofs.Tryz.func63 Proofs.Tryz.call63 rfl rfl fun M C hM hC => ?_
  cbv
  refine Loop.over (Nat × List (List PV)) (fun q => [(.t 8, I q.1), (.t 3, .own 0 0), (.a 0, .arr 0 25 1 q.2), (.i 0, .inf true 0)]) 1 (fun q => ls.length - q.1) (fun q => q.1 ≤ ls.length ∧ q.2 = rowsOf (ls.take q.1)) (0, []) ⟨Nat.zero_le _, rfl⟩ (by (cbv; repeat' (first | exact True.intro | exact rfl | apply And.intro))) ?_
  rintro ⟨j, q⟩ ⟨hj, hq⟩
  simp only at hj hq
  cbv
  split <;> rename_i h <;> (try simp only [h]) <;> (try cbv) <;> (try simp only [ncast] at *)
  · have hlt : j < ls.length := by subst hM; have h := of_decide_eq_true h; rw [← hlen]; exact Int.ofNat_lt.1 h
    clear h
    refine nidx_doms D hlt fun off ws mn mx sz Dj => ?_
    cbv
    obtain ⟨lr, hlr⟩ : ∃ lr, lr = ints (ls.getD j []) := ⟨_, rfl⟩
    refine .mk _ (use_call hC (c_domList off mn mx sz ws _ Dj lr hlr)) ?_
    have step : M .app q [[.list 1 lr]] = rowsOf (ls.take (j + 1)) := by
      subst hM
      rw [real_app, hq, hlr, take_succ_getD [] hlt]
      simp [rowsOf]
    have few : (M .app q [[.list 1 lr]]).length ≤ 2147483648 := by rw [step]; simp; omega
    clear hq hlr
    cbv
    refine .mk few ?_
    cbv
    refine ⟨⟨j + 1, _⟩, ⟨hlt, step⟩, ?_, by (cbv; repeat' (first | exact True.intro | exact rfl | apply And.intro)) <;> (subst hM; rw [succ_i64 (by omega)])⟩
    simp only; omega
  · have hj2 : j = ls.length := by subst hM; have h := of_decide_eq_false h; have h : ¬ (j : Int) < (rows.length : Int) := h; omega
    subst hj2
    rw [List.take_length] at hq
    exact ⟨hq.trans hr.symm, trivial⟩



theorem c_doms_jigsawlaw18 (rl : List (List PV)) (ls : List (List Int)) (hl : rl = rowsOf ls) (h64 : ls.length ≤ 1000000) (h65 : ∀ l ∈ ls, l.length ≤ 1000000) : ∃ rows, DomsR rows (ls.map ofL) ∧ Call .plain 28 [.list 1 rl] (.list 5 rows) := by
  obtain ⟨f, hf⟩ := of_rows ls h65
  refine ⟨(List.range ls.length).map f, by
    have := rows_of f (ls.map ofL) fun i hi => by rw [map_getD _ (by simpa using hi)]; exact (hf i (by simpa using hi)).1
    rw [List.length_map] at this
    exact this, ?_⟩
  generalize hr : (List.range ls.length).map f = r
  refine call_of Proofs.Tryz.func28 Proofs.Tryz.call28 rfl rfl fun M C hM hC => ?_
  cbv
  refine Loop.over (Nat × List (List PV)) (fun q => [(.t 10, I q.1), (.t 3, .own 0 0), (.a 0, .arr 0 73 5 q.2), (.i 0, .inf true 0)]) 1 (fun q => ls.length - q.1) (fun q => q.1 ≤ ls.length ∧ q.2 = (List.range q.1).map f) (0, []) ⟨Nat.zero_le _, rfl⟩ (by (cbv; repeat' (first | exact True.intro | exact rfl | apply And.intro))) ?_
  rintro ⟨j, q⟩ ⟨hj, hq⟩
  simp only at hj hq
  cbv
  split <;> rename_i h <;> (try simp only [h]) <;> (try cbv) <;> (try simp only [ncast] at *)
  · have hlt : j < ls.length := by subst hM; simpa [hl] using h
    clear h
    obtain ⟨⟨off, ws, mn, mx, sz, ef, _⟩, cf⟩ := hf j hlt
    rw [ef] at cf
    have step : M .app q [[I off, .list 1 ws, I mn, I mx, I sz]] = (List.range (j + 1)).map f := by
      subst hM
      rw [real_app, hq, range_map_succ, ef]
    have few : (M .app q [[I off, .list 1 ws, I mn, I mx, I sz]]).length ≤ 2147483648 := by rw [step]; simp; omega
    clear ef hq
    refine nidx_rows hl hlt fun rr hrr => ?_
    cbv
    refine .mk _ (use_call hC (cf rr hrr)) ?_
    cbv
    refine .mk few ?_
    cbv
    refine ⟨⟨j + 1, _⟩, ⟨hlt, step⟩, ?_, by (cbv; repeat' (first | exact True.intro | exact rfl | apply And.intro)) <;> (subst hM; rw [succ_i64 (by omega)])⟩
    simp only; omega
  · have hj2 : j = ls.length := by subst hM; simp [hl] at h; omega
    subst hj2
    exact ⟨hq.trans hr, trivial⟩


theorem c_lists_jigsawlaw18 (rows : List (List PV)) (ls : List (List Int)) (D : DomsR rows ls) (h64 : ls.length ≤ 1000000) (r : List (List PV)) (hr : r = rowsOf ls) : Call .plain 32 [.list 5 rows] (.list 1 r) := by
  have hlen := D.len
  refine call_of Proofs.Tryz.func32 Proofs.Tryz.call32 rfl rfl fun M C hM hC => ?_
  cbv
  refine Loop.over (Nat × List (List PV)) (fun q => [(.t 8, I q.1), (.t 3, .own 0 0), (.a 0, .arr 0 25 1 q.2), (.i 0, .inf true 0)]) 1 (fun q => ls.length - q.1) (fun q => q.1 ≤ ls.length ∧ q.2 = rowsOf (ls.take q.1)) (0, []) ⟨Nat.zero_le _, rfl⟩ (by (cbv; repeat' (first | exact True.intro | exact rfl | apply And.intro))) ?_
  rintro ⟨j, q⟩ ⟨hj, hq⟩
  simp only at hj hq
  cbv
  split <;> rename_i h <;> (try simp only [h]) <;> (try cbv) <;> (try simp only [ncast] at *)
  · have hlt : j < ls.length := by subst hM; have h := of_decide_eq_true h; rw [← hlen]; exact Int.ofNat_lt.1 h
    clear h
    refine nidx_doms D hlt fun off ws mn mx sz Dj => ?_
    cbv
    obtain ⟨lr, hlr⟩ : ∃ lr, lr = ints (ls.getD j []) := ⟨_, rfl⟩
    refine .mk _ (use_call hC (c_domList off mn mx sz ws _ Dj lr hlr)) ?_
    have step : M .app q [[.list 1 lr]] = rowsOf (ls.take (j + 1)) := by
      subst hM
      rw [real_app, hq, hlr, take_succ_getD [] hlt]
      simp [rowsOf]
    have few : (M .app q [[.list 1 lr]]).length ≤ 2147483648 := by rw [step]; simp; omega
    clear hq hlr
    cbv
    refine .mk few ?_
    cbv
    refine ⟨⟨j + 1, _⟩, ⟨hlt, step⟩, ?_, by (cbv; repeat' (first | exact True.intro | exact rfl | apply And.intro)) <;> (subst hM; rw [succ_i64 (by omega)])⟩
    simp only; omega
  · have hj2 : j = ls.length := by subst hM; have h := of_decide_eq_false h; have h : ¬ (j : Int) < (rows.length : Int) := h; omega
    subst hj2
    rw [List.take_length] at hq
    exact ⟨hq.trans hr.symm, trivial⟩



theorem c_doms_jigsawlaw21 (rl : List (List PV)) (ls : List (List Int)) (hl : rl = rowsOf ls) (h64 : ls.length ≤ 1000000) (h65 : ∀ l ∈ ls, l.length ≤ 1000000) : ∃ rows, DomsR rows (ls.map ofL) ∧ Call .plain 50 [.list 1 rl] (.list 5 rows) := by
  obtain ⟨f, hf⟩ := of_rows ls h65
  refine ⟨(List.range ls.length).map f, by
    have := rows_of f (ls.map ofL) fun i hi => by rw [map_getD _ (by simpa using hi)]; exact (hf i (by simpa using hi)).1
    rw [List.length_map] at this
    exact this, ?_⟩
  generalize hr : (List.range ls.length).map f = r
  refine call_of Proofs.Tryz.func50 Proofs.Tryz.call50 rfl rfl fun M C hM hC => ?_
  cbv
  refine Loop.over (Nat × List (List PV)) (fun q => [(.t 10, I q.1), (.t 3, .own 0 0), (.a 0, .arr 0 73 5 q.2), (.i 0, .inf true 0)]) 1 (fun q => ls.length - q.1) (fun q => q.1 ≤ ls.length ∧ q.2 = (List.range q.1).map f) (0, []) ⟨Nat.zero_le _, rfl⟩ (by (cbv; repeat' (first | exact True.intro | exact rfl | apply And.intro))) ?_
  rintro ⟨j, q⟩ ⟨hj, hq⟩
  simp only at hj hq
  cbv
  split <;> rename_i h <;> (try simp only [h]) <;> (try cbv) <;> (try simp only [ncast] at *)
  · have hlt : j < ls.length := by subst hM; simpa [hl] using h
    clear h
    obtain ⟨⟨off, ws, mn, mx, sz, ef, _⟩, cf⟩ := hf j hlt
    rw [ef] at cf
    have step : M .app q [[I off, .list 1 ws, I mn, I mx, I sz]] = (List.range (j + 1)).map f := by
      subst hM
      rw [real_app, hq, range_map_succ, ef]
    have few : (M .app q [[I off, .list 1 ws, I mn, I mx, I sz]]).length ≤ 2147483648 := by rw [step]; simp; omega
    clear ef hq
    refine nidx_rows hl hlt fun rr hrr => ?_
    cbv
    refine .mk _ (use_call hC (cf rr hrr)) ?_
    cbv
    refine .mk few ?_
    cbv
    refine ⟨⟨j + 1, _⟩, ⟨hlt, step⟩, ?_, by (cbv; repeat' (first | exact True.intro | exact rfl | apply And.intro)) <;> (subst hM; rw [succ_i64 (by omega)])⟩
    simp only; omega
  · have hj2 : j = ls.length := by subst hM; simp [hl] at h; omega
    subst hj2
    exact ⟨hq.trans hr, trivial⟩


theorem c_lists_jigsawlaw21 (rows : List (List PV)) (ls : List (List Int)) (D : DomsR rows ls) (h64 : ls.length ≤ 1000000) (r : List (List PV)) (hr : r = rowsOf ls) : Call .plain 53 [.list 5 rows] (.list 1 r) := by
  have hlen := D.len
  refine call_of Proofs.Tryz.func53 Proofs.Tryz.call53 rfl rfl fun M C hM hC => ?_
  cbv
  refine Loop.over (Nat × List (List PV)) (fun q => [(.t 8, I q.1), (.t 3, .own 0 0), (.a 0, .arr 0 25 1 q.2), (.i 0, .inf true 0)]) 1 (fun q => ls.length - q.1) (fun q => q.1 ≤ ls.length ∧ q.2 = rowsOf (ls.take q.1)) (0, []) ⟨Nat.zero_le _, rfl⟩ (by (cbv; repeat' (first | exact True.intro | exact rfl | apply And.intro))) ?_
  rintro ⟨j, q⟩ ⟨hj, hq⟩
  simp only at hj hq
  cbv
  split <;> rename_i h <;> (try simp only [h]) <;> (try cbv) <;> (try simp only [ncast] at *)
  · have hlt : j < ls.length := by subst hM; have h := of_decide_eq_true h; rw [← hlen]; exact Int.ofNat_lt.1 h
    clear h
    refine nidx_doms D hlt fun off ws mn mx sz Dj => ?_
    cbv
    obtain ⟨lr, hlr⟩ : ∃ lr, lr = ints (ls.getD j []) := ⟨_, rfl⟩
    refine .mk _ (use_call hC (c_domList off mn mx sz ws _ Dj lr hlr)) ?_
    have step : M .app q [[.list 1 lr]] = rowsOf (ls.take (j + 1)) := by
      subst hM
      rw [real_app, hq, hlr, take_succ_getD [] hlt]
      simp [rowsOf]
    have few : (M .app q [[.list 1 lr]]).length ≤ 2147483648 := by rw [step]; simp; omega
    clear hq hlr
    cbv
    refine .mk few ?_
    cbv
    refine ⟨⟨j + 1, _⟩, ⟨hlt, step⟩, ?_, by (cbv; repeat' (first | exact True.intro | exact rfl | apply And.intro)) <;> (subst hM; rw [succ_i64 (by omega)])⟩
    simp only; omega
  · have hj2 : j = ls.length := by subst hM; have h := of_decide_eq_false h; have h : ¬ (j : Int) < (rows.length : Int) := h; omega
    subst hj2
    rw [List.take_length] at hq
    exact ⟨hq.trans hr.symm, trivial⟩



/-- prop.Made: the domains, if none is empty. -/
theorem c_propMade (rl : List (List PV)) (ls : List (List Int)) (hl : rl = rowsOf ls) (h64 : ls.length ≤ 1000000) (h65 : ∀ l ∈ ls, DomL l) (y : Bool) (hy : y = someL ls) : ∃ rows, (y = true → DomsR rows ls) ∧ (y = false → rows = []) ∧ Call .plain 119 [.list 1 rl] (.tup [.list 5 rows, B y]) := by
  have h66 : ∀ l ∈ ls, l.length ≤ 1000000 := fun l hl => by
    have := (h65 l hl)
    have hr := this.rising
    have key : ∀ (l : List Int) (a b : Int), Rising l → (∀ v ∈ l, a ≤ v ∧ v < b) → (l.length : Int) ≤ max 0 (b - a) := by
      intro l
      induction l with
      | nil => intro a b _ _; simp; omega
      | cons x r ih =>
        intro a b hr h
        have h' := List.pairwise_cons.1 hr
        have hx := h x (by simp)
        have := ih (x + 1) b h'.2 fun v hv => ⟨by have := h'.1 v hv; omega, (h v (by simp [hv])).2⟩
        simp only [List.length_cons]
        omega
    by_cases e : l = []
    · rw [e]; simp
    · have := key l (headS l) (headS l + 65536) hr fun v hv => ⟨headS_le hr v hv, by have := this.wide v hv _ (headS_mem e); omega⟩
      omega
  obtain ⟨f, hf⟩ := of_rows ls h66
  have hgood : ∀ i, i < ls.length → ls.getD i [] ≠ [] → ofE (ls.getD i []) = 0 ∧ ofL (ls.getD i []) = ls.getD i [] := fun i hi hn => (h65 _ (getD_mem [] hi)).of hn
  have hbad : ∀ i, i < ls.length → ls.getD i [] = [] → y = false := fun i hi hn => by
    rw [hy]
    cases hs : someL ls with
    | false => rfl
    | true => exact absurd hn (someL_iff.1 hs _ (getD_mem [] hi))
  refine ⟨if y = true then (List.range ls.length).map f else [], fun h => ?_, fun h => ?_, ?_⟩
  · rw [if_pos h]
    refine rows_of f ls fun i hi => ?_
    have hn : ls.getD i [] ≠ [] := fun e => by rw [hbad i hi e] at h; cases h
    have := (hf i hi).1
    rw [(hgood i hi hn).2] at this
    exact this
  · rw [if_neg (by rw [h]; decide)]
  generalize hr : (if y = true then (List.range ls.length).map f else []) = r
  refine call_of Proofs.Tryz.func119 Proofs.Tryz.call119 rfl rfl fun M C hM hC => ?_
  cbv
  refine Loop.over (Nat × List (List PV)) (fun q => [(.t 11, I q.1), (.t 4, .own 0 0), (.a 0, .arr 0 73 5 q.2), (.i 0, .inf true 0)]) 1 (fun q => ls.length - q.1) (fun q => q.1 ≤ ls.length ∧ q.2 = (List.range q.1).map f ∧ ∀ i, i < q.1 → ls.getD i [] ≠ []) (0, []) ⟨Nat.zero_le _, rfl, by omega⟩ (by (cbv; repeat' (first | exact True.intro | exact rfl | apply And.intro))) ?_
  rintro ⟨j, q⟩ ⟨hj, hq, hn⟩
  simp only at hj hq hn
  cbv
  split <;> rename_i h <;> (try simp only [h]) <;> (try cbv) <;> (try simp only [ncast] at *)
  · have hlt : j < ls.length := by subst hM; simpa [hl] using h
    clear h
    obtain ⟨⟨off, ws, mn, mx, sz, ef, _⟩, cf⟩ := hf j hlt
    rw [ef] at cf
    have step : M .app q [[I off, .list 1 ws, I mn, I mx, I sz]] = (List.range (j + 1)).map f := by
      subst hM
      rw [real_app, hq, range_map_succ, ef]
    have few : (M .app q [[I off, .list 1 ws, I mn, I mx, I sz]]).length ≤ 2147483648 := by rw [step]; simp; omega
    clear ef hq
    by_cases he : ls.getD j [] = []
    · have hyf := hbad j hlt he
      have hE : ofE (ls.getD j []) = 4 := by rw [he]; rfl
      rw [hE] at cf
      have hr' : r = [] := by rw [← hr, if_neg (by rw [hyf]; decide)]
      have q1 : M .cmp .neq 4 0 = true := by subst hM; rfl
      clear step few he hn hf hgood hbad hE hr hy h65 h66 h64
      refine nidx_rows hl hlt fun rr hrr => ?_
      cbv
      refine .mk _ (use_call hC (cf rr hrr)) ?_
      cbv
      simp only [q1]
      cbv
      rw [hr', hyf]
      (cbv; repeat' (first | exact True.intro | exact rfl | apply And.intro))
    · have hE := (hgood j hlt he).1
      rw [hE] at cf
      have q1 : M .cmp .neq 0 0 = false := by subst hM; rfl
      have hn' : ∀ i, i < j + 1 → ls.getD i [] ≠ [] := fun i hi => by
        rcases Nat.lt_or_ge i j with h3 | h3
        · exact hn i h3
        · have : i = j := by omega
          subst this; exact he
      clear he hn hf hgood hbad hE hr hy h65 h66
      refine nidx_rows hl hlt fun rr hrr => ?_
      cbv
      refine .mk _ (use_call hC (cf rr hrr)) ?_
      cbv
      simp only [q1]
      cbv
      refine .mk few ?_
      cbv
      refine ⟨⟨j + 1, _⟩, ⟨hlt, step, hn'⟩, ?_, by (cbv; repeat' (first | exact True.intro | exact rfl | apply And.intro)) <;> (subst hM; rw [succ_i64 (by omega)])⟩
      simp only; omega
  · have hj2 : j = ls.length := by subst hM; simp [hl] at h; omega
    subst hj2
    have hyt : y = true := by
      rw [hy, someL_iff]
      intro d hd
      obtain ⟨i, hi, rfl⟩ := List.mem_iff_getElem.1 hd
      have := hn i hi
      simpa [List.getD_eq_getElem?_getD, hi] using this
    have hr' : q = r := by rw [hq, ← hr, if_pos hyt]
    rw [hyt, hr']
    (cbv; repeat' (first | exact True.intro | exact rfl | apply And.intro))
end Go.Pi

/- Package dom: what both have; without a number; from a number on, up to one. -/
namespace Go.Pi
open Go
set_option linter.unusedVariables false
set_option linter.unusedSimpArgs false

theorem c_and1 (eoff emn emx esz : Int) (rw' : List (List PV)) (w : List Int) (hrw : rw' = u64s w) (h1 : -3000000 ≤ eoff) (h2 : eoff ≤ 3000000) (hl : w.length ≤ 2000000) (a x : Int) (h3 : -2000000 ≤ a) (h4 : a ≤ 200000000) (y : Int) (hy : y = wrdS eoff w a) :
    Call .plain 234 [I a, U64 x, .ref [I eoff, .list 1 rw', I emn, I emx, I esz]] (U64 y) := by
  refine call_of Proofs.Tryz.func234 Proofs.Tryz.call234 rfl rfl fun M C hM hC => ?_
  cbv
  refine .mk _ (use_call hC (c_word64 eoff emn emx esz rw' w hrw h1 h2 hl a (by omega) (by omega) y hy)) ?_
  cbv
theorem c_domAnd (off mn mx sz : Int) (ws : List (List PV)) (l : List Int) (D : DomR off ws mn mx sz l) (eoff emn emx esz : Int) (ews : List (List PV)) (e : List Int) (E : DomR eoff ews emn emx esz e) :
    ∃ off' ws' mn' mx' sz', DomR off' ws' mn' mx' sz' (l.filter fun v => e.contains v) ∧ Call .plain 185 [.agg [I off, .list 1 ws, I mn, I mx, I sz], .agg [I eoff, .list 1 ews, I emn, I emx, I esz]] (.tup [.agg [I off', .list 1 ws', I mn', I mx', I sz'], I (changeS l (l.filter fun v => e.contains v))]) := by
  obtain ⟨w, hrw, hw, hl, hlen⟩ := E.words
  have o1 := E.lo
  have o2 := E.hi
  obtain ⟨off', ws', mn', mx', sz', D', cl⟩ := c_less off mn mx sz ws l D 234 [I eoff, .list 1 ews, I emn, I emx, I esz] (wrdS eoff w) (fun v => e.contains v)
    (fun a x h1 h2 h3 h4 => c_and1 eoff emn emx esz ews w hrw (by omega) (by omega) hlen a x h2 h3 _ rfl) (fun a _ _ _ => wrdS_word hw a)
    (fun a v h1 _ _ h2 h3 => by
      rw [wrdS_bit E.al h1 h2 h3, hl, Bool.eq_iff_iff, ← mem_listW]; simp)
  refine ⟨off', ws', mn', mx', sz', D', ?_⟩
  generalize changeS l _ = ch at cl
  refine call_of Proofs.Tryz.func185 Proofs.Tryz.call185 rfl rfl fun M C hM hC => ?_
  cbv
  refine .mk _ (use_call hC cl) ?_
  cbv


theorem c_without1 (v : Int) (hv : -1000000000000000 ≤ v ∧ v ≤ 1000000000000000) (a x : Int) (h1 : a % 64 = 0) (h3 : -2000000 ≤ a) (h4 : a ≤ 200000000) (y : Int) (hy : y = butW v a) :
    Call .plain 233 [I a, U64 x, .ref [I v]] (U64 y) := by
  have p := plcS_le v
  have cp := c_place v ⟨by omega, by omega⟩ _ rfl
  unfold butW at hy
  generalize plcS v = q at cp p hy
  refine call_of Proofs.Tryz.func233 Proofs.Tryz.call233 rfl rfl fun M C hM hC => ?_
  have e1 : M .cmp .eql a q = decide (a = q) := by subst hM; show (a == q) = _; rw [Bool.eq_iff_iff]; simp
  cbv
  refine .mk _ (use_call hC cp) ?_
  by_cases h : a = q
  · rw [if_pos h] at hy
    have e1 : M .cmp .eql a q = true := by rw [e1]; simpa using h
    have e2 : M .arith .sub .i64 v a = v - a := by subst hM; exact wrap_i64 (by omega) (by omega)
    have fin : M .un .xor .u64 (M .shift .shl .u64 1 (M .arith .sub .i64 v a)) = y := by
      rw [e2]; subst hM
      rw [real_shl1 (by omega) (by omega), real_not64 (oneW_word (by omega)), hy]
    clear hy
    cbv
    rw [show M .cmp .eql a q = _ from e1]
    cbv
    refine .mk (by rw [show M .arith .sub .i64 v a = _ from e2]; omega) ?_
    cbv
    rw [show M .un .xor .u64 _ = _ from fin]
  · rw [if_neg h] at hy
    have e1 : M .cmp .eql a q = false := by rw [e1]; simpa using h
    have hy : y = 18446744073709551615 := hy
    clear h p
    cbv
    rw [show M .cmp .eql a q = _ from e1]
    cbv
    rw [hy]
theorem c_domWithout (off mn mx sz : Int) (ws : List (List PV)) (l : List Int) (D : DomR off ws mn mx sz l) (v : Int) (hv : -1000000000000000 ≤ v ∧ v ≤ 1000000000000000) :
    ∃ off' ws' mn' mx' sz', DomR off' ws' mn' mx' sz' (l.filter fun u => decide (u ≠ v)) ∧ Call .plain 184 [.agg [I off, .list 1 ws, I mn, I mx, I sz], I v] (.tup [.agg [I off', .list 1 ws', I mn', I mx', I sz'], I (changeS l (l.filter fun u => decide (u ≠ v)))]) := by
  obtain ⟨off', ws', mn', mx', sz', D', cl⟩ := c_less off mn mx sz ws l D 233 [I v] (butW v) (fun u => decide (u ≠ v))
    (fun a x h1 h2 h3 h4 => c_without1 v hv a x h1 h2 h3 _ rfl) (fun a _ _ _ => butW_word v a) (fun a u h1 _ _ h2 h3 => butW_bit h1 h2 h3)
  refine ⟨off', ws', mn', mx', sz', D', ?_⟩
  generalize changeS l _ = ch at cl
  refine call_of Proofs.Tryz.func184 Proofs.Tryz.call184 rfl rfl fun M C hM hC => ?_
  cbv
  refine .mk _ (use_call hC cl) ?_
  cbv


theorem c_above (a v : Int) (h1 : -2000000 ≤ a) (h2 : a ≤ 200000000) (h3 : -2000000 ≤ v) (h4 : v ≤ 2000000) (y : Int) (hy : y = aboveW a v) : Call .plain 250 [I a, I v] (U64 y) := by
  refine call_of Proofs.Tryz.func250 Proofs.Tryz.call250 rfl rfl fun M C hM hC => ?_
  have e2 : M .arith .sub .i64 v a = v - a := by subst hM; exact wrap_i64 (by omega) (by omega)
  unfold aboveW at hy
  by_cases g1 : v ≤ a
  · have q1 : M .cmp .leq v a = true := by subst hM; exact decide_eq_true g1
    rw [if_pos g1] at hy
    have hy : y = 18446744073709551615 := hy
    clear g1 e2
    cbv
    simp only [q1]
    cbv
    rw [hy]
  · have q1 : M .cmp .leq v a = false := by subst hM; exact decide_eq_false g1
    rw [if_neg g1] at hy
    by_cases g2 : v - a ≥ 64
    · have q2 : M .cmp .geq (M .arith .sub .i64 v a) 64 = true := by rw [e2]; subst hM; exact decide_eq_true g2
      rw [if_pos g2] at hy
      clear g1 g2 e2
      cbv
      simp only [q1]
      cbv
      rw [show M .cmp .geq _ 64 = _ from q2]
      cbv
      rw [hy]
    · have q2 : M .cmp .geq (M .arith .sub .i64 v a) 64 = false := by rw [e2]; subst hM; exact decide_eq_false g2
      rw [if_neg g2] at hy
      have fin : M .shift .shl .u64 18446744073709551615 (M .arith .sub .i64 v a) = y := by
        rw [e2]; subst hM
        rw [hy]
        exact real_shl onesW_word (by omega) (by omega)
      have nn : 0 ≤ M .arith .sub .i64 v a := by rw [e2]; omega
      clear g1 g2 e2 hy
      cbv
      simp only [q1]
      cbv
      rw [show M .cmp .geq _ 64 = _ from q2]
      cbv
      refine .mk nn ?_
      cbv
      rw [show M .shift .shl .u64 _ _ = _ from fin]
theorem c_atLeast1 (v : Int) (hv : -1500000 ≤ v ∧ v ≤ 1500000) (a x : Int) (h3 : -2000000 ≤ a) (h4 : a ≤ 200000000) (y : Int) (hy : y = aboveW a v) :
    Call .plain 251 [I a, U64 x, .ref [I v]] (U64 y) := by
  refine call_of Proofs.Tryz.func251 Proofs.Tryz.call251 rfl rfl fun M C hM hC => ?_
  cbv
  refine .mk _ (use_call hC (c_above a v h3 h4 (by omega) (by omega) y hy)) ?_
  cbv
theorem c_atMost1 (v : Int) (hv : -1500000 ≤ v ∧ v ≤ 1500000) (a x : Int) (h3 : -2000000 ≤ a) (h4 : a ≤ 200000000) (y : Int) (hy : y = notW (aboveW a (v + 1))) :
    Call .plain 249 [I a, U64 x, .ref [I v]] (U64 y) := by
  obtain ⟨v1, hv1⟩ : ∃ v1, v1 = v + 1 := ⟨_, rfl⟩
  rw [← hv1] at hy
  obtain ⟨z, hz⟩ : ∃ z, z = aboveW a v1 := ⟨_, rfl⟩
  have ca := c_above a v1 h3 h4 (by omega) (by omega) z hz
  have hzw : word z := by rw [hz]; exact aboveW_word _ _
  rw [← hz] at hy
  refine call_of Proofs.Tryz.func249 Proofs.Tryz.call249 rfl rfl fun M C hM hC => ?_
  have e1 : M .arith .add .i64 v 1 = v1 := by rw [hv1]; subst hM; exact wrap_i64 (by omega) (by omega)
  have fin : M .un .xor .u64 z = y := by subst hM; rw [real_not64 hzw, hy]
  clear hy hz
  cbv
  rw [show M .arith .add .i64 v 1 = _ from e1]
  refine .mk _ (use_call hC ca) ?_
  cbv
  rw [show M .un .xor .u64 _ = _ from fin]
def clampS (v lo hi : Int) : Int := if lo > (if hi < v then hi else v) then lo else if hi < v then hi else v
theorem c_domAtLeast (off mn mx sz : Int) (ws : List (List PV)) (l : List Int) (D : DomR off ws mn mx sz l) (v : Int) :
    ∃ off' ws' mn' mx' sz', DomR off' ws' mn' mx' sz' (l.filter fun u => decide (v ≤ u)) ∧ Call .plain 231 [.agg [I off, .list 1 ws, I mn, I mx, I sz], I v] (.tup [.agg [I off', .list 1 ws', I mn', I mx', I sz'], I (changeS l (l.filter fun u => decide (v ≤ u)))]) := by
  obtain ⟨v', hv'⟩ : ∃ v', v' = clampS v (-1000000) 1000001 := ⟨_, rfl⟩
  have hb : -1500000 ≤ v' ∧ v' ≤ 1500000 := by rw [hv', clampS]; split <;> (try split) <;> omega
  have hf : l.filter (fun u => decide (v ≤ u)) = l.filter (fun u => decide (v' ≤ u)) := List.filter_congr fun u hu => by
    have := D.far u hu
    rw [decide_eq_decide, hv', clampS]
    split <;> (try split) <;> omega
  rw [hf]
  obtain ⟨off', ws', mn', mx', sz', D', cl⟩ := c_less off mn mx sz ws l D 251 [I v'] (fun a => aboveW a v') (fun u => decide (v' ≤ u))
    (fun a x h1 h2 h3 h4 => c_atLeast1 v' hb a x h2 h3 _ rfl) (fun a _ _ _ => aboveW_word a v') (fun a u h1 _ _ h2 h3 => aboveW_bit h2 h3)
  refine ⟨off', ws', mn', mx', sz', D', ?_⟩
  generalize changeS l _ = ch at cl
  refine call_of Proofs.Tryz.func231 Proofs.Tryz.call231 rfl rfl fun M C hM hC => ?_
  have e1 : M .mx (M .mn v 1000001) (-1000000) = v' := by subst hM; exact hv'.symm
  clear hv' hf
  cbv
  rw [show M .mx _ _ = _ from e1]
  refine .mk _ (use_call hC cl) ?_
  cbv
theorem c_domAtMost (off mn mx sz : Int) (ws : List (List PV)) (l : List Int) (D : DomR off ws mn mx sz l) (v : Int) :
    ∃ off' ws' mn' mx' sz', DomR off' ws' mn' mx' sz' (l.filter fun u => decide (u ≤ v)) ∧ Call .plain 229 [.agg [I off, .list 1 ws, I mn, I mx, I sz], I v] (.tup [.agg [I off', .list 1 ws', I mn', I mx', I sz'], I (changeS l (l.filter fun u => decide (u ≤ v)))]) := by
  obtain ⟨v', hv'⟩ : ∃ v', v' = clampS v (-1000001) 1000000 := ⟨_, rfl⟩
  have hb : -1500000 ≤ v' ∧ v' ≤ 1500000 := by rw [hv', clampS]; split <;> (try split) <;> omega
  have hf : l.filter (fun u => decide (u ≤ v)) = l.filter (fun u => decide (u ≤ v')) := List.filter_congr fun u hu => by
    have := D.far u hu
    rw [decide_eq_decide, hv', clampS]
    split <;> (try split) <;> omega
  rw [hf]
  obtain ⟨off', ws', mn', mx', sz', D', cl⟩ := c_less off mn mx sz ws l D 249 [I v'] (fun a => notW (aboveW a (v' + 1))) (fun u => decide (u ≤ v'))
    (fun a x h1 h2 h3 h4 => c_atMost1 v' hb a x h2 h3 _ rfl) (fun a _ _ _ => notW_word (aboveW_word a _)) (fun a u h1 _ _ h2 h3 => by
      rw [notW_bit (aboveW_word _ _) (by omega), aboveW_bit h2 h3, Bool.eq_iff_iff]; simp; omega)
  refine ⟨off', ws', mn', mx', sz', D', ?_⟩
  generalize changeS l _ = ch at cl
  refine call_of Proofs.Tryz.func229 Proofs.Tryz.call229 rfl rfl fun M C hM hC => ?_
  have e1 : M .mx (M .mn v 1000000) (-1000001) = v' := by subst hM; exact hv'.symm
  clear hv' hf
  cbv
  rw [show M .mx _ _ = _ from e1]
  refine .mk _ (use_call hC cl) ?_
  cbv
end Go.Pi
