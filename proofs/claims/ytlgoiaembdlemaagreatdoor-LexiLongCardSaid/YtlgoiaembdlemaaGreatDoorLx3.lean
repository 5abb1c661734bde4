/- Package jigsawref21: the document's two rows in order. -/
import Derived.Test.YtlgoiaembdlemaaGreatDoorMDo11ToDo12
set_option linter.unusedSimpArgs false
set_option linter.unusedVariables false
namespace Go.Pi
open Go
set_option linter.unusedVariables false
set_option linter.unusedSimpArgs false

theorem canR_drop {a b : List (List Int)} {j : Nat} (h1 : j < a.length) (h2 : j < b.length) : canR (a.drop j) (b.drop j) = if headS (a.getD j []) < lastS (b.getD j []) then true else if headS (a.getD j []) > lastS (b.getD j []) then false else canR (a.drop (j + 1)) (b.drop (j + 1)) := by
  rw [List.drop_eq_getElem_cons h1, List.drop_eq_getElem_cons h2]
  simp only [canR, List.getD_eq_getElem?_getD, List.getElem?_eq_getElem h1, List.getElem?_eq_getElem h2, Option.getD_some]
theorem c_can (ra rb : List (List PV)) (a b : List (List Int)) (ha : ra = rowsOf a) (hb : rb = rowsOf b) (hl : a.length = b.length) (h64 : a.length ≤ 1000000) (hna : ∀ d ∈ a, d ≠ []) (hnb : ∀ d ∈ b, d ≠ []) (hlb : ∀ d ∈ b, d.length ≤ 1000000) (y : Bool) (hy : y = canR a b) :
    Call .plain 121 [.list 1 ra, .list 1 rb] (B y) := by
  refine call_of Proofs.Tryz.func121 Proofs.Tryz.call121 rfl rfl fun M C hM hC => ?_
  cbv
  refine Loop.over Nat (fun q => [(.t 5, I q)]) 0 (fun q => a.length - q) (fun q => q ≤ a.length ∧ y = canR (a.drop q) (b.drop q)) 0 ⟨Nat.zero_le _, hy⟩ (by (cbv; repeat' (first | exact True.intro | exact rfl | apply And.intro))) ?_
  clear hy
  rintro j ⟨hj, hn⟩
  cbv
  split <;> rename_i h <;> (try simp only [h]) <;> (try cbv) <;> (try simp only [ncast] at *)
  · have hlt : j < a.length := by subst hM; simpa [ha] using h
    clear h
    rw [canR_drop hlt (by omega)] at hn
    have nu := hna _ (getD_mem [] hlt)
    have nv := hnb _ (getD_mem [] (show j < b.length by omega))
    have lv := hlb _ (getD_mem [] (show j < b.length by omega))
    obtain ⟨u, hu⟩ : ∃ u, u = a.getD j [] := ⟨_, rfl⟩
    obtain ⟨v, hv⟩ : ∃ v, v = b.getD j [] := ⟨_, rfl⟩
    rw [← hu] at nu hn
    rw [← hv] at nv lv hn
    obtain ⟨ru, hru⟩ : ∃ ru, ru = ints u := ⟨_, rfl⟩
    obtain ⟨rv, hrv⟩ : ∃ rv, rv = ints v := ⟨_, rfl⟩
    have ga : ra[(Int.ofNat j).toNat]? = some [.list 1 ru] := by
      rw [ha, show (Int.ofNat j).toNat = j from rfl, rowsOf_get, hru, hu]
      simp [List.getD_eq_getElem?_getD, hlt]
    have gb : rb[(Int.ofNat j).toNat]? = some [.list 1 rv] := by
      rw [hb, show (Int.ofNat j).toNat = j from rfl, rowsOf_get, hrv, hv]
      simp [List.getD_eq_getElem?_getD, show j < b.length by omega]
    obtain ⟨p, hp⟩ : ∃ p, p = headS u := ⟨_, rfl⟩
    obtain ⟨q, hq⟩ : ∃ q, q = lastS v := ⟨_, rfl⟩
    rw [← hp, ← hq] at hn
    have lu := List.length_pos_iff.2 nu
    have lv0 := List.length_pos_iff.2 nv
    have gu : ru[(0 : Int).toNat]? = some [I p] := by
      rw [hru, show (0 : Int).toNat = 0 from rfl, ints_get, hp, ← getD_lt_head nu]
      simp [List.getD_eq_getElem?_getD, lu]
    have e1 : M .arith .sub .i64 (Int.ofNat (M .len rv)) 1 = ((v.length - 1 : Nat) : Int) := by
      subst hM
      show IntKind.i64.wrap ((rv.length : Int) - 1) = _
      rw [hrv, ints_len, wrap_i64 (by omega) (by omega)]; omega
    have gv : rv[(((v.length - 1 : Nat) : Int)).toNat]? = some [I q] := by
      rw [Int.toNat_natCast, hrv, ints_get, hq, ← getLast_lastS nv]
      have : v.length - 1 < v.length := by omega
      simp [List.getD_eq_getElem?_getD, this]
    have nn : (0 : Int) ≤ ((v.length - 1 : Nat) : Int) := Int.natCast_nonneg _
    clear hu hv hru hrv hp hq nu nv lu lv0
    refine .mk _ (Int.natCast_nonneg _) ga ?_
    cbv
    refine .mk _ (Int.le_refl _) gu ?_
    cbv
    refine .mk _ (Int.natCast_nonneg _) gb ?_
    cbv
    refine .mk _ (Int.natCast_nonneg _) gb ?_
    cbv
    rw [show M .arith .sub .i64 _ 1 = _ from e1]
    refine .mk _ nn gv ?_
    cbv
    by_cases g1 : p < q
    · have q1 : M .cmp .lss p q = true := by subst hM; exact decide_eq_true g1
      rw [if_pos g1] at hn
      clear g1
      simp only [q1]
      cbv
      rw [hn]
    · have q1 : M .cmp .lss p q = false := by subst hM; exact decide_eq_false g1
      rw [if_neg g1] at hn
      simp only [q1]
      cbv
      by_cases g2 : p > q
      · have q2 : M .cmp .gtr p q = true := by subst hM; exact decide_eq_true g2
        rw [if_pos g2] at hn
        clear g1 g2
        simp only [q2]
        cbv
        rw [hn]
      · have q2 : M .cmp .gtr p q = false := by subst hM; exact decide_eq_false g2
        rw [if_neg g2] at hn
        clear g1 g2
        simp only [q2]
        cbv
        refine ⟨j + 1, ⟨hlt, hn⟩, ?_, by (cbv; repeat' (first | exact True.intro | exact rfl | apply And.intro)) <;> (subst hM; rw [succ_i64 (by omega)])⟩
        omega
  · have hj2 : j = a.length := by subst hM; simp [ha] at h; omega
    subst hj2
    rw [hn, List.drop_length]
    rfl

theorem c_fixed21 (rl : List (List PV)) (ds : List (List Int)) (hl : rl = rowsOf ds) (h64 : ds.length ≤ 1000000) (i : Nat) (v : Int) (ii : Int) (hii : ii = i) (r : List (List PV)) (hr : r = rowsOf (ds.set i [v])) :
    Call .plain 120 [.list 1 rl, I ii, I v] (.list 1 r) := by
  have step : ∀ j, j < ds.length → (ds.set i [v]).take (j + 1) = (ds.set i [v]).take j ++ [if j = i then [v] else ds.getD j []] := fun j hj => by
    rw [take_succ_getD [] (by simpa using hj)]
    congr 2
    by_cases e : j = i
    · subst e; simp [List.getD_eq_getElem?_getD, hj]
    · rw [if_neg e, List.getD_eq_getElem?_getD, List.getElem?_set_ne (fun h => e h.symm), List.getD_eq_getElem?_getD]
  have hsl : (ds.set i [v]).length = ds.length := by simp
  refine call_of Proofs.Tryz.func120 Proofs.Tryz.call120 rfl rfl fun M C hM hC => ?_
  cbv
  refine Loop.over (Nat × List (List PV)) (fun q => [(.t 8, I q.1), (.t 7, .own 0 0), (.a 0, .arr 0 25 1 q.2), (.i 0, .inf true 0)]) 1 (fun q => ds.length - q.1) (fun q => q.1 ≤ ds.length ∧ q.2 = rowsOf ((ds.set i [v]).take q.1)) (0, []) ⟨Nat.zero_le _, rfl⟩ (by (cbv; repeat' (first | exact True.intro | exact rfl | apply And.intro))) ?_
  rintro ⟨j, q⟩ ⟨hj, hq⟩
  simp only at hj hq
  cbv
  split <;> rename_i h <;> (try simp only [h]) <;> (try cbv) <;> (try simp only [ncast] at *)
  · have hlt : j < ds.length := by subst hM; simpa [hl] using h
    clear h
    have st := step j hlt
    have nx : ∀ r, r = ints (if j = i then [v] else ds.getD j []) → M .app q [[.list 1 r]] = rowsOf ((ds.set i [v]).take (j + 1)) ∧ (M .app q [[.list 1 r]]).length ≤ 2147483648 := fun r hr => by
      subst hM
      rw [real_app]
      refine ⟨?_, ?_⟩
      · rw [hq, hr, st]; simp [rowsOf]
      · rw [hq, List.length_append, rowsOf_len, List.length_take]; simp; omega
    have q1 : M .cmp .eql (Int.ofNat j) ii = decide (j = i) := by
      subst hM
      show ((j : Int) == ii) = _
      rw [Bool.eq_iff_iff, hii]
      simp
      omega
    clear hq step st
    by_cases e : j = i
    · have q1 : M .cmp .eql (Int.ofNat j) ii = true := by rw [q1]; simpa using e
      obtain ⟨n1, n2⟩ := nx [[I v]] (by rw [if_pos e]; rfl)
      clear nx e
      rw [show M .cmp .eql _ ii = _ from q1]
      cbv
      refine .mk n2 ?_
      cbv
      refine ⟨⟨j + 1, _⟩, ⟨hlt, n1⟩, ?_, by (cbv; repeat' (first | exact True.intro | exact rfl | apply And.intro)) <;> (subst hM; rw [succ_i64 (by omega)])⟩
      simp only; omega
    · have q1 : M .cmp .eql (Int.ofNat j) ii = false := by rw [q1]; simpa using e
      obtain ⟨rd, hrd⟩ : ∃ rd, rd = ints (ds.getD j []) := ⟨_, rfl⟩
      obtain ⟨n1, n2⟩ := nx rd (by rw [if_neg e, hrd])
      have gi : rl[(Int.ofNat j).toNat]? = some [.list 1 rd] := by
        rw [hl, show (Int.ofNat j).toNat = j from rfl, rowsOf_get, hrd]
        simp [List.getD_eq_getElem?_getD, hlt]
      clear nx e hrd
      rw [show M .cmp .eql _ ii = _ from q1]
      cbv
      refine .mk _ (Int.natCast_nonneg _) gi ?_
      cbv
      refine .mk n2 ?_
      cbv
      refine ⟨⟨j + 1, _⟩, ⟨hlt, n1⟩, ?_, by (cbv; repeat' (first | exact True.intro | exact rfl | apply And.intro)) <;> (subst hM; rw [succ_i64 (by omega)])⟩
      simp only; omega
  · have hj2 : j = ds.length := by subst hM; simp [hl] at h; omega
    subst hj2
    rw [List.take_of_length_le (by omega)] at hq
    exact ⟨hq.trans hr.symm, trivial⟩

set_option maxHeartbeats 1000000 in
theorem c_filter21 (c : Con) (kind K : Int) (rA rB rC rD rE rR : List (List PV)) (H : ConR c kind rA rB rC rD rE K rR) (la : lim rA) (lb : lim rB) (lc : lim rC) (ld : lim rD) (le : lim rE) (lr : lim rR) (rl : List (List PV)) (ds : List (List Int)) (hl : rl = rowsOf ds) (h64 : ds.length ≤ 1000000) (hr : ∀ d ∈ ds, Rising d) (hdl : ∀ d ∈ ds, d.length ≤ 1000000)
    (y : Bool) (hy : y = (fitsD c ds 22 22 && someL (leftL ds (lexP ds c.A.length)))) (r : List (List PV)) (hr1 : y = true → r = rowsOf (leftL ds (lexP ds c.A.length))) (hr2 : y = false → r = []) :
    Call .plain 51 [.agg [I kind, .list 1 rA, .list 1 rB, .list 1 rC, .list 1 rD, .list 1 rE, I K, .list 1 rR], .list 1 rl] (.tup [.list 1 r, B y]) := by
  have cf := c_fits10 c kind K rA rB rC rD rE rR H la lb lc ld le lr rl ds hl h64 22 22 _ rfl
  have lA : (rA.length : Int) = c.A.length := by rw [H.A]; simp
  cases hf : fitsD c ds 22 22 with
  | false =>
    rw [hf] at cf hy
    have hy : y = false := hy
    have hr := hr2 hy
    clear H la lb lc ld le lr hl hf hr1 hr2
    refine call_of Proofs.Tryz.func51 Proofs.Tryz.call51 rfl rfl fun M C hM hC => ?_
    have nf : M .not false = true := by subst hM; rfl
    cbv
    refine .mk _ (use_call hC cf) ?_
    cbv
    simp only [nf]
    cbv
    rw [hy, hr]
    (cbv; repeat' (first | exact True.intro | exact rfl | apply And.intro))
  | true =>
    rw [hf] at cf hy
    simp only [fitsD, Bool.and_eq_true, decide_eq_true_eq] at hf
    obtain ⟨f1, f2, f3, f4, f5⟩ := hf
    have hk : c.kind = 22 := by omega
    have R := rightS_ok.1 f3
    have ln := R.lens.A
    have hBA : c.B.length = c.A.length := by
      have := R.alike
      unfold alikeS at this
      rw [if_neg (by omega), if_neg (by omega), if_neg (by omega), if_pos (.inl hk)] at this
      simpa using this
    have hfull : Full ds := fun d hd => ⟨hr d hd, someL_iff.1 f5 d hd⟩
    obtain ⟨n, hn⟩ : ∃ n, n = c.A.length := ⟨_, rfl⟩
    rw [← hn] at lA ln hBA f4 hy hr1
    have hy : y = someL (leftL ds (lexP ds n)) := hy
    have dl : ds.length = n + n := by omega
    have dlen : (rl.length : Int) = n + n := by rw [hl, rowsOf_len]; omega
    obtain ⟨F, hF⟩ : ∃ F : Nat → List Int, F = fun i => (ds.getD i []).filter (lexP ds n i) := ⟨_, rfl⟩
    have hout : leftL ds (lexP ds n) = (List.range (n + n)).map F := by rw [leftL, dl, hF]
    rw [hout] at hy hr1
    have bad : ∀ i, i < n + n → F i = [] → y = false := fun i hi he => by
      rw [hy]
      cases hs : someL ((List.range (n + n)).map F) with
      | false => rfl
      | true => exact absurd he (someL_iff.1 hs _ (List.mem_map.2 ⟨i, List.mem_range.2 hi, rfl⟩))
    have good : (∀ i, i < n + n → F i ≠ []) → y = true := fun h => by
      rw [hy, someL_iff]
      intro d hd
      obtain ⟨i, hi, rfl⟩ := List.mem_map.1 hd
      exact h i (List.mem_range.1 hi)
    -- one value at a place
    have cfix := fun (i : Nat) (v : Int) r hr => c_fixed21 rl ds hl h64 i v (Int.ofNat i) rfl r hr
    have ccan : ∀ (i : Nat) (v : Int) (ra rb : List (List PV)), ra = rowsOf ((ds.set i [v]).take n) → rb = rowsOf ((ds.set i [v]).drop n) → Call .plain 121 [.list 1 ra, .list 1 rb] (B (lexP ds n i v)) := fun i v ra rb h1 h2 => by
      have hs := hfull.set i v
      refine c_can ra rb _ _ h1 h2 (by simp; omega) (by simp; omega) (full_take hs n).ne (full_drop hs n).ne (fun d hd => ?_) _ ?_
      · rcases List.mem_or_eq_of_mem_set (List.mem_of_mem_drop hd) with hd | rfl
        · exact hdl d hd
        · simp
      · rw [canR_eq (full_take hs n) (full_drop hs n)]; rfl
    clear H la lb lc ld le lr f5 f3 R hfull hr hy hBA f4
    refine call_of Proofs.Tryz.func51 Proofs.Tryz.call51 rfl rfl fun M C hM hC => ?_
    have nt : M .not true = false := by subst hM; rfl
    have elen : (Int.ofNat (M .len rA) : Int) = (n : Int) := by subst hM; exact lA
    cbv
    refine .mk _ (use_call hC cf) ?_
    cbv
    simp only [nt]
    cbv
    refine Loop.over (Nat × List (List PV)) (fun q => [(.t 9, I q.1), (.t 8, .own 1 0), (.a 1, .arr 0 25 1 q.2), (.i 1, .inf true 0)]) 2 (fun q => n + n - q.1) (fun q => q.1 ≤ n + n ∧ q.2 = rowsOf ((List.range q.1).map F) ∧ ∀ i, i < q.1 → F i ≠ []) (0, []) ⟨Nat.zero_le _, rfl, by omega⟩ (by (cbv; repeat' (first | exact True.intro | exact rfl | apply And.intro))) ?_
    rintro ⟨i, q⟩ ⟨hi, hq, hne⟩
    simp only at hi hq hne
    cbv
    split <;> rename_i h <;> (try simp only [h]) <;> (try cbv) <;> (try simp only [ncast] at *)
    · have hlt : i < n + n := by subst hM; have h := of_decide_eq_true h; have h : (i : Int) < (rl.length : Int) := h; omega
      clear h
      obtain ⟨d, hd⟩ : ∃ d, d = ds.getD i [] := ⟨_, rfl⟩
      obtain ⟨rd, hrd⟩ : ∃ rd, rd = ints d := ⟨_, rfl⟩
      have dl2 : d.length ≤ 1000000 := by rw [hd]; exact hdl _ (getD_mem [] (by omega))
      have gi : rl[(Int.ofNat i).toNat]? = some [.list 1 rd] := by
        rw [hl, show (Int.ofNat i).toNat = i from rfl, rowsOf_get, hrd, hd]
        simp [List.getD_eq_getElem?_getD, show i < ds.length by omega]
      have hFi : F i = d.filter (lexP ds n i) := by rw [hF, hd]
      have hnext : ∀ l, l = ints (F i) → M .app q [[.list 1 l]] = rowsOf ((List.range (i + 1)).map F) ∧ (M .app q [[.list 1 l]]).length ≤ 2147483648 := fun l hl => by
        subst hM
        rw [real_app]
        refine ⟨?_, ?_⟩
        · rw [hq, range_map_succ, hl]; simp [rowsOf]
        · rw [hq, List.length_append]; simp; omega
      have badi := bad i hlt
      clear hq bad hd
      refine Loop.over (Nat × List (List PV)) (fun q => [(.t 11, I q.1), (.t 10, .own 2 0), (.a 2, .arr 0 3 1 q.2), (.i 2, .inf true 0), (.t 12, .junk), (.t 13, .junk)]) 3 (fun q => d.length - q.1) (fun q => q.1 ≤ d.length ∧ q.2 = ints ((d.take q.1).filter (lexP ds n i))) (0, []) ⟨Nat.zero_le _, rfl⟩ (by (cbv; repeat' (first | exact True.intro | exact rfl | apply And.intro))) ?_
      rintro ⟨k, p⟩ ⟨hk, hp⟩
      simp only at hk hp
      cbv
      refine .mk _ (Int.natCast_nonneg _) gi ?_
      cbv
      split <;> rename_i h <;> (try simp only [h]) <;> (try cbv) <;> (try simp only [ncast] at *)
      · have hlt2 : k < d.length := by subst hM; simpa [hrd] using h
        clear h
        obtain ⟨v, hv⟩ : ∃ v, v = d.getD k 0 := ⟨_, rfl⟩
        have gk : rd[(Int.ofNat k).toNat]? = some [I v] := by
          rw [hrd, show (Int.ofNat k).toNat = k from rfl, ints_get, hv]
          simp [List.getD_eq_getElem?_getD, hlt2]
        have hpl : p.length ≤ k := by
          rw [hp, ints_len]
          refine Nat.le_trans (List.length_filter_le _ _) (by rw [List.length_take]; omega)
        have few : (M .app p [[I v]]).length ≤ 2147483648 := by subst hM; rw [real_app, List.length_append]; simp; omega
        have step : ∀ b : Bool, b = lexP ds n i v → (b = true → M .app p [[I v]] = ints ((d.take (k + 1)).filter (lexP ds n i))) ∧ (b = false → p = ints ((d.take (k + 1)).filter (lexP ds n i))) := fun b hb => by
          rw [take_succ_getD 0 hlt2, List.filter_append, ← hv]
          constructor
          · intro h
            subst hM
            rw [hb] at h
            rw [real_app, hp]
            simp [h, ints]
          · intro h
            rw [hb] at h
            rw [hp]
            simp [h]
        obtain ⟨rx, hrx⟩ : ∃ rx, rx = rowsOf (ds.set i [v]) := ⟨_, rfl⟩
        have cx := cfix i v rx hrx
        have lrx : (rx.length : Int) = n + n := by rw [hrx, rowsOf_len, List.length_set]; omega
        obtain ⟨rx1, hrx1⟩ : ∃ r, r = rowsOf ((ds.set i [v]).take n) := ⟨_, rfl⟩
        obtain ⟨rx2, hrx2⟩ : ∃ r, r = rowsOf ((ds.set i [v]).drop n) := ⟨_, rfl⟩
        have cc := ccan i v rx1 rx2 hrx1 hrx2
        obtain ⟨pv, hpv⟩ : ∃ pv, pv = lexP ds n i v := ⟨_, rfl⟩
        rw [← hpv] at cc
        have l1 : (0 : Int) ≤ Int.ofNat (M .len rA) := Int.natCast_nonneg _
        have l2 : (Int.ofNat (M .len rA) : Int) ≤ Int.ofNat (M .len rx) := by rw [elen]; subst hM; show (n : Int) ≤ (rx.length : Int); omega
        have s1 : M .sub rx 0 (Int.ofNat (M .len rA)) = rx1 := by
          rw [elen]; subst hM
          show ((rx.drop 0).take ((n : Int) - 0).toNat) = rx1
          rw [hrx1, hrx]; simp [rowsOf, List.map_take]
        have s2 : M .sub rx (Int.ofNat (M .len rA)) (Int.ofNat (M .len rx)) = rx2 := by
          rw [elen]; subst hM
          show ((rx.drop ((n : Int)).toNat).take ((rx.length : Int) - (n : Int)).toNat) = rx2
          rw [Int.toNat_natCast, List.take_of_length_le (by rw [List.length_drop]; omega), hrx2, hrx]; simp [rowsOf, List.map_drop]
        obtain ⟨t1, t2⟩ := step pv hpv
        clear step hp hpv hrx hrx1 hrx2 hv
        refine .mk _ (Int.natCast_nonneg _) gi ?_
        cbv
        refine .mk _ (Int.natCast_nonneg _) gk ?_
        cbv
        refine .mk _ (use_call hC cx) ?_
        cbv
        refine .mk l1 (.mk l2 ?_)
        cbv
        refine .mk l1 (.mk l2 ?_)
        rw [show M .sub rx 0 _ = _ from s1, show M .sub rx _ _ = _ from s2]
        cbv
        refine .mk _ (use_call hC cc) ?_
        cbv
        cases pv
        · have t2 := t2 rfl
          cbv
          refine ⟨⟨k + 1, p⟩, ⟨hlt2, t2⟩, ?_, by (cbv; repeat' (first | exact True.intro | exact rfl | apply And.intro)) <;> (subst hM; rw [succ_i64 (by omega)])⟩
          simp only; omega
        · have t1 := t1 rfl
          cbv
          refine .mk _ (Int.natCast_nonneg _) gi ?_
          cbv
          refine .mk _ (Int.natCast_nonneg _) gk ?_
          cbv
          refine .mk few ?_
          cbv
          refine ⟨⟨k + 1, _⟩, ⟨hlt2, t1⟩, ?_, by (cbv; repeat' (first | exact True.intro | exact rfl | apply And.intro)) <;> (subst hM; rw [succ_i64 (by omega)])⟩
          simp only; omega
      · have hk2 : k = d.length := by subst hM; simp [hrd] at h; omega
        subst hk2
        rw [List.take_length, ← hFi] at hp
        obtain ⟨n1, n2⟩ := hnext p hp
        have q1 : M .cmp .eql (Int.ofNat (M .len p)) 0 = decide (F i = []) := by
          subst hM
          show ((p.length : Int) == 0) = _
          rw [hp, ints_len, Bool.eq_iff_iff]
          simp
        clear hnext hp h hFi
        by_cases he : F i = []
        · have q1 : M .cmp .eql (Int.ofNat (M .len p)) 0 = true := by rw [q1]; simpa using he
          have hyf := badi he
          have hr := hr2 hyf
          rw [show M .cmp .eql _ 0 = _ from q1]
          cbv
          rw [hyf, hr]
          (cbv; repeat' (first | exact True.intro | exact rfl | apply And.intro))
        · have q1 : M .cmp .eql (Int.ofNat (M .len p)) 0 = false := by rw [q1]; simpa using he
          have hne' : ∀ i', i' < i + 1 → F i' ≠ [] := fun i' hi' => by
            rcases Nat.lt_or_ge i' i with h3 | h3
            · exact hne i' h3
            · have : i' = i := by omega
              subst this; exact he
          clear he hne badi
          rw [show M .cmp .eql _ 0 = _ from q1]
          cbv
          refine .mk n2 ?_
          cbv
          refine ⟨⟨i + 1, _⟩, ⟨hlt, n1, hne'⟩, ?_, by (cbv; repeat' (first | exact True.intro | exact rfl | apply And.intro)) <;> (subst hM; rw [succ_i64 (by omega)])⟩
          simp only; omega
    · have hi2 : i = n + n := by subst hM; have h := of_decide_eq_false h; have h : ¬ (i : Int) < (rl.length : Int) := h; omega
      subst hi2
      have hyt := good hne
      have hq2 : q = r := by rw [hq, hr1 hyt]
      rw [hyt, hq2]
      (cbv; repeat' (first | exact True.intro | exact rfl | apply And.intro))
