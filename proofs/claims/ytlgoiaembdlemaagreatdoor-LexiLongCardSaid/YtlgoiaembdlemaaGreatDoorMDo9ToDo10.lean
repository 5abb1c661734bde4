/- Package jigsawref10: what all layers have in common: the same lists; small lists; a constraint's domains; its places alone. -/
import Derived.Test.YtlgoiaembdlemaaGreatDoorMDo7ToDo6
import Derived.Test.YtlgoiaembdlemaaGreatDoorMMo1ToMo4
import Derived.Test.YtlgoiaembdlemaaGreatDoorMRa2ToRa6
set_option linter.unusedSimpArgs false
set_option linter.unusedVariables false

/- Package jigsawref10: what all layers have in common: the same lists; small lists; a constraint's domains; its places alone. -/
namespace Go.Pi
open Go
set_option linter.unusedVariables false
set_option linter.unusedSimpArgs false

def sameL (a b : List (List Int)) : Bool := a == b
theorem sameL_iff {a b : List (List Int)} : sameL a b = true ↔ a = b := by simp [sameL]
theorem sameL_self (a : List (List Int)) : sameL a a = true := sameL_iff.2 rfl
theorem sameL_not {a b : List (List Int)} : sameL a b = false ↔ a ≠ b := by rw [Ne, ← sameL_iff]; cases sameL a b <;> simp
theorem rows_ext {a b : List (List Int)} (h : a.length = b.length) (h2 : ∀ i, i < a.length → a.getD i [] = b.getD i []) : a = b := by
  apply List.ext_getElem h
  intro i h3 h4
  have := h2 i h3
  simpa [List.getD_eq_getElem?_getD, h3, h4] using this
theorem ints_ext {a b : List Int} (h : a.length = b.length) (h2 : ∀ i, i < a.length → a.getD i 0 = b.getD i 0) : a = b := (eq_all h).1 h2

theorem c_same10 (ra rb : List (List PV)) (a b : List (List Int)) (ha : ra = rowsOf a) (hb : rb = rowsOf b) (h64 : a.length ≤ 1000000) (h65 : ∀ l ∈ a, l.length ≤ 1000000) (y : Bool) (hy : y = sameL a b) :
    Call .plain 31 [.list 1 ra, .list 1 rb] (B y) := by
  refine call_of Proofs.Tryz.func31 Proofs.Tryz.call31 rfl rfl fun M C hM hC => ?_
  have q0 : M .cmp .neq (Int.ofNat (M .len ra)) (Int.ofNat (M .len rb)) = decide (a.length ≠ b.length) := by
    subst hM
    show ((ra.length : Int) != (rb.length : Int)) = _
    rw [ha, hb, rowsOf_len, rowsOf_len, Bool.eq_iff_iff]
    simp
    omega
  by_cases g0 : a.length = b.length
  · have q0 : M .cmp .neq (Int.ofNat (M .len ra)) (Int.ofNat (M .len rb)) = false := by rw [q0]; simpa using g0
    cbv
    rw [show M .cmp .neq _ _ = _ from q0]
    clear q0
    cbv
    refine Loop.over Nat (fun q => [(.t 5, I q)]) 0 (fun q => a.length - q) (fun q => q ≤ a.length ∧ ∀ i, i < q → a.getD i [] = b.getD i []) 0 ⟨Nat.zero_le _, by omega⟩ (by (cbv; repeat' (first | exact True.intro | exact rfl | apply And.intro))) ?_
    rintro j ⟨hj, hn⟩
    cbv
    split <;> rename_i h <;> (try simp only [h]) <;> (try cbv) <;> (try simp only [ncast] at *)
    · have hlt : j < a.length := by subst hM; simpa [ha] using h
      clear h
      obtain ⟨u, hu⟩ : ∃ u, u = a.getD j [] := ⟨_, rfl⟩
      obtain ⟨v, hv⟩ : ∃ v, v = b.getD j [] := ⟨_, rfl⟩
      have ul : u.length ≤ 1000000 := by rw [hu]; exact h65 _ (getD_mem [] hlt)
      obtain ⟨ru, hru⟩ : ∃ ru, ru = ints u := ⟨_, rfl⟩
      obtain ⟨rv, hrv⟩ : ∃ rv, rv = ints v := ⟨_, rfl⟩
      have ga : ra[(Int.ofNat j).toNat]? = some [.list 1 ru] := by
        rw [ha, show (Int.ofNat j).toNat = j from rfl, rowsOf_get, hru, hu]
        simp [List.getD_eq_getElem?_getD, hlt]
      have gb : rb[(Int.ofNat j).toNat]? = some [.list 1 rv] := by
        rw [hb, show (Int.ofNat j).toNat = j from rfl, rowsOf_get, hrv, hv]
        simp [List.getD_eq_getElem?_getD, show j < b.length by omega]
      have no : u ≠ v → y = false := fun h => by
        rw [hy, sameL_not]
        rintro rfl
        exact h (by rw [hu, hv])
      refine .mk _ (Int.natCast_nonneg _) ga ?_
      cbv
      refine .mk _ (Int.natCast_nonneg _) gb ?_
      have q1 : M .cmp .neq (Int.ofNat (M .len ru)) (Int.ofNat (M .len rv)) = decide (u.length ≠ v.length) := by
        subst hM
        show ((ru.length : Int) != (rv.length : Int)) = _
        rw [hru, hrv, ints_len, ints_len, Bool.eq_iff_iff]
        simp
        omega
      by_cases g1 : u.length = v.length
      · have q1 : M .cmp .neq (Int.ofNat (M .len ru)) (Int.ofNat (M .len rv)) = false := by rw [q1]; simpa using g1
        cbv
        rw [show M .cmp .neq _ _ = _ from q1]
        clear q1
        cbv
        refine Loop.over Nat (fun q => [(.t 6, I q)]) 0 (fun q => u.length - q) (fun q => q ≤ u.length ∧ ∀ i, i < q → u.getD i 0 = v.getD i 0) 0 ⟨Nat.zero_le _, by omega⟩ (by (cbv; repeat' (first | exact True.intro | exact rfl | apply And.intro))) ?_
        rintro k ⟨hk, hm⟩
        cbv
        refine .mk _ (Int.natCast_nonneg _) ga ?_
        cbv
        split <;> rename_i h <;> (try simp only [h]) <;> (try cbv) <;> (try simp only [ncast] at *)
        · have hlt2 : k < u.length := by subst hM; simpa [hru] using h
          clear h
          refine .mk _ (Int.natCast_nonneg _) ga ?_
          cbv
          refine nidx_ints hru hlt2 fun p hp => ?_
          cbv
          refine .mk _ (Int.natCast_nonneg _) gb ?_
          cbv
          refine nidx_ints hrv (by omega) fun q hq => ?_
          cbv
          split <;> rename_i h <;> (try simp only [h]) <;> (try cbv) <;> (try simp only [ncast] at *)
          · have h2 : p ≠ q := by subst hM; simpa using h
            rw [no fun e => h2 (by rw [hp, hq, e])]
          · have h2 : p = q := by subst hM; simpa using h
            refine ⟨k + 1, ⟨hlt2, fun i hi => ?_⟩, ?_, by (cbv; repeat' (first | exact True.intro | exact rfl | apply And.intro)) <;> (subst hM; rw [succ_i64 (by omega)])⟩
            · rcases Nat.lt_or_ge i k with h3 | h3
              · exact hm i h3
              · have : i = k := by omega
                subst this; rw [← hp, ← hq]; exact h2
            · omega
        · have hk2 : k = u.length := by subst hM; simp [hru] at h; omega
          subst hk2
          have huv : u = v := ints_ext g1 hm
          refine ⟨j + 1, ⟨hlt, fun i hi => ?_⟩, ?_, by (cbv; repeat' (first | exact True.intro | exact rfl | apply And.intro)) <;> (subst hM; rw [succ_i64 (by omega)])⟩
          · rcases Nat.lt_or_ge i j with h3 | h3
            · exact hn i h3
            · have : i = j := by omega
              subst this; rw [← hu, ← hv]; exact huv
          · omega
      · have q1 : M .cmp .neq (Int.ofNat (M .len ru)) (Int.ofNat (M .len rv)) = true := by rw [q1]; simpa using g1
        have hyf := no fun e => g1 (by rw [e])
        clear no hn
        cbv
        rw [show M .cmp .neq _ _ = _ from q1]
        cbv
        rw [hyf]
    · have hj2 : j = a.length := by subst hM; simp [ha] at h; omega
      subst hj2
      have := rows_ext g0 hn
      rw [hy, sameL_iff.2 this]
  · have q0 : M .cmp .neq (Int.ofNat (M .len ra)) (Int.ofNat (M .len rb)) = true := by rw [q0]; simpa using g0
    have hyf : y = false := by rw [hy, sameL_not]; rintro rfl; exact g0 rfl
    clear g0 hy
    cbv
    rw [show M .cmp .neq _ _ = _ from q0]
    cbv
    rw [hyf]

def smallS (l : List Int) (most : Nat) (width : Int) : List Int := ofL ((l.take most).map fun v => v.tmod width)
theorem c_small (rl : List (List PV)) (l : List Int) (hl : rl = ints l) (h64 : l.length ≤ 9223372036854775807) (most : Nat) (hm : most ≤ 1000000) (width : Int) (hw : 0 < width) (hw2 : width ≤ 1000000) (mi : Int) (hmi : mi = most) (r : List (List PV)) (hr : r = ints (smallS l most width)) : Call .plain 82 [.list 1 rl, I mi, I width] (.list 1 r) := by
  unfold smallS at hr
  have hll : ((l.take most).map fun v => v.tmod width).length ≤ 1000000 := by simp; omega
  obtain ⟨e, he⟩ : ∃ e, e = ofE ((l.take most).map fun v => v.tmod width) := ⟨_, rfl⟩
  have cof := fun rl hrl => c_r2of rl ((l.take most).map fun v => v.tmod width) hrl hll r hr e he
  clear hr he hll
  refine call_of Proofs.Tryz.func82 Proofs.Tryz.call82 rfl rfl fun M C hM hC => ?_
  cbv
  refine Loop.over (Nat × List (List PV)) (fun q => [(.t 8, I q.1), (.t 7, .own 0 0), (.a 0, .arr 0 3 1 q.2), (.i 0, .inf true 0)]) 1 (fun q => l.length - q.1) (fun q => q.1 ≤ l.length ∧ q.1 ≤ most ∧ q.2 = ints ((l.take q.1).map fun v => v.tmod width)) (0, []) ⟨Nat.zero_le _, Nat.zero_le _, rfl⟩ (by (cbv; repeat' (first | exact True.intro | exact rfl | apply And.intro))) ?_
  rintro ⟨j, q⟩ ⟨hj, hjm, hq⟩
  simp only at hj hjm hq
  have fin : (l.length ≤ j ∨ most ≤ j) → q = ints ((l.take most).map fun v => v.tmod width) := fun h => by
    rw [hq]
    congr 2
    rcases h with h | h
    · rw [List.take_of_length_le h, List.take_of_length_le (by omega)]
    · rw [show j = most by omega]
  cbv
  split <;> rename_i h <;> (try simp only [h]) <;> (try cbv) <;> (try simp only [ncast] at *)
  · have hlt : j < l.length := by subst hM; simpa [hl] using h
    clear h
    split <;> rename_i h <;> (try simp only [h]) <;> (try cbv) <;> (try simp only [ncast] at *)
    · have hlt2 : j < most := by subst hM; have h := of_decide_eq_true h; have h : (j : Int) < mi := h; omega
      clear h
      refine nidx_ints hl hlt fun v hv => ?_
      have step : M .app q [[I (M .arith .rem .i64 v width)]] = ints ((l.take (j + 1)).map fun v => v.tmod width) := by
        subst hM
        rw [take_succ_getD 0 hlt, real_app, hq, ← hv]
        simp [ints]
      have few : (M .app q [[I (M .arith .rem .i64 v width)]]).length ≤ 2147483648 := by rw [step]; simp; omega
      clear hq fin
      cbv
      refine .mk (by omega) ?_
      cbv
      refine .mk few ?_
      cbv
      refine ⟨⟨j + 1, _⟩, ⟨hlt, hlt2, step⟩, ?_, by (cbv; repeat' (first | exact True.intro | exact rfl | apply And.intro)) <;> (subst hM; rw [succ_i64 (by omega)])⟩
      simp only; omega
    · have hge : most ≤ j := by subst hM; have h := of_decide_eq_false h; have h : ¬ (j : Int) < mi := h; omega
      refine .inl (.mk _ (use_call hC (cof q (fin (.inr hge)))) ?_)
      cbv
  · have hge : l.length ≤ j := by subst hM; simp [hl] at h; omega
    refine .inl (.mk _ (use_call hC (cof q (fin (.inl hge)))) ?_)
    cbv

/-- Each place a variable by itself. -/
def localS (c : Con) : Con := { c with A := (List.range c.A.length).map fun (i : Nat) => (i : Int), B := (List.range c.B.length).map fun (i : Nat) => (c.A.length : Int) + (i : Int) }
theorem c_local (c : Con) (kind K : Int) (rA rB rC rD rE rR : List (List PV)) (H : ConR c kind rA rB rC rD rE K rR) (h1 : c.A.length ≤ 1000000) (h2 : c.B.length ≤ 1000000) (lA lB : List (List PV)) (hlA : lA = ints (localS c).A) (hlB : lB = ints (localS c).B) :
    Call .plain 36 [.agg [I kind, .list 1 rA, .list 1 rB, .list 1 rC, .list 1 rD, .list 1 rE, I K, .list 1 rR]] (.agg [I kind, .list 1 lA, .list 1 lB, .list 1 rC, .list 1 rD, .list 1 rE, I K, .list 1 rR]) := by
  have hA := H.A
  have hB := H.B
  simp only [localS] at hlA hlB
  have la : (rA.length : Int) = c.A.length := by rw [hA]; simp
  have lb : (rB.length : Int) = c.B.length := by rw [hB]; simp
  clear H
  generalize c.A.length = n at *
  generalize c.B.length = m at *
  clear hA hB
  refine call_of Proofs.Tryz.func36 Proofs.Tryz.call36 rfl rfl fun M C hM hC => ?_
  cbv
  refine Loop.over (Nat × List (List PV)) (fun q => [(.t 4, I q.1), (.c 2 1, .own 3 0), (.a 3, .arr 0 3 1 q.2), (.i 3, .inf true 0)]) 4 (fun q => n - q.1) (fun q => q.1 ≤ n ∧ q.2 = ints ((List.range q.1).map fun (i : Nat) => (i : Int))) (0, []) ⟨Nat.zero_le _, rfl⟩ (by (cbv; repeat' (first | exact True.intro | exact rfl | apply And.intro))) ?_
  rintro ⟨j, q⟩ ⟨hj, hq⟩
  simp only at hj hq
  cbv
  split <;> rename_i h <;> (try simp only [h]) <;> (try cbv) <;> (try simp only [ncast] at *)
  · have hlt : j < n := by subst hM; have h := of_decide_eq_true h; have h : (j : Int) < (rA.length : Int) := h; omega
    clear h
    have step : M .app q [[I (Int.ofNat j)]] = ints ((List.range (j + 1)).map fun (i : Nat) => (i : Int)) := by
      subst hM
      rw [real_app, hq, range_map_succ, ← ints_app]; rfl
    have few : (M .app q [[I (Int.ofNat j)]]).length ≤ 2147483648 := by rw [step]; simp; omega
    clear hq
    refine .mk few ?_
    cbv
    refine ⟨⟨j + 1, _⟩, ⟨hlt, step⟩, ?_, by (cbv; repeat' (first | exact True.intro | exact rfl | apply And.intro)) <;> (subst hM; rw [succ_i64 (by omega)])⟩
    simp only; omega
  · have hj2 : j = n := by subst hM; have h := of_decide_eq_false h; have h : ¬ (j : Int) < (rA.length : Int) := h; omega
    subst hj2
    rw [← hlA] at hq
    subst hq
    clear h
    refine Loop.over (Nat × List (List PV)) (fun q => [(.t 5, I q.1), (.c 2 2, .own 4 0), (.a 4, .arr 0 3 1 q.2), (.i 4, .inf true 0)]) 5 (fun q => m - q.1) (fun q => q.1 ≤ m ∧ q.2 = ints ((List.range q.1).map fun (i : Nat) => (j : Int) + (i : Int))) (0, []) ⟨Nat.zero_le _, rfl⟩ (by (cbv; repeat' (first | exact True.intro | exact rfl | apply And.intro))) ?_
    rintro ⟨k, p⟩ ⟨hk, hp⟩
    simp only at hk hp
    cbv
    split <;> rename_i h <;> (try simp only [h]) <;> (try cbv) <;> (try simp only [ncast] at *)
    · have hlt : k < m := by subst hM; have h := of_decide_eq_true h; have h : (k : Int) < (rB.length : Int) := h; omega
      clear h
      have e1 : M .arith .add .i64 (Int.ofNat (M .len rA)) (Int.ofNat k) = (j : Int) + (k : Int) := by
        subst hM
        show IntKind.i64.wrap ((rA.length : Int) + (k : Int)) = _
        rw [la, wrap_i64 (by omega) (by omega)]
      have step : M .app p [[I (M .arith .add .i64 (Int.ofNat (M .len rA)) (Int.ofNat k))]] = ints ((List.range (k + 1)).map fun (i : Nat) => (j : Int) + (i : Int)) := by
        rw [e1]
        subst hM
        rw [real_app, hp, range_map_succ, ← ints_app]; rfl
      have few : (M .app p [[I (M .arith .add .i64 (Int.ofNat (M .len rA)) (Int.ofNat k))]]).length ≤ 2147483648 := by rw [step]; simp; omega
      clear hp e1
      refine .mk few ?_
      cbv
      refine ⟨⟨k + 1, _⟩, ⟨hlt, step⟩, ?_, by (cbv; repeat' (first | exact True.intro | exact rfl | apply And.intro)) <;> (subst hM; rw [succ_i64 (by omega)])⟩
      simp only; omega
    · have hk2 : k = m := by subst hM; have h := of_decide_eq_false h; have h : ¬ (k : Int) < (rB.length : Int) := h; omega
      subst hk2
      rw [← hlB] at hp
      subst hp
      cbv
end Go.Pi

/- Package jigsawref10: a case is made; is it one? Rows of values. -/
namespace Go.Pi
open Go
set_option linter.unusedVariables false
set_option linter.unusedSimpArgs false

/-! ### A case: a constraint and its domains -/
def domS (ds : List (List Int)) (width : Int) (i : Nat) : List Int := smallS (if i < ds.length ∧ (ds.getD i []) ≠ [] then ds.getD i [] else [(i : Int).tmod 3, 1]) 6 width
def domsS (ds : List (List Int)) (width : Int) (n : Nat) : List (List Int) := (List.range n).map (domS ds width)
theorem domsS_len (ds : List (List Int)) (width : Int) (n : Nat) : (domsS ds width n).length = n := by simp [domsS]
theorem domsS_get (ds : List (List Int)) (width : Int) {n i : Nat} (h : i < n) : (domsS ds width n).getD i [] = domS ds width i := by simp [domsS, List.getD_eq_getElem?_getD, h]
theorem smallS_in {l : List Int} {most : Nat} {width : Int} (hw : 0 < width) (hw2 : width ≤ 1000) (h0 : l ≠ []) (hm : 0 < most) : DomL (smallS l most width) ∧ smallS l most width ≠ [] ∧ (smallS l most width).length ≤ most ∧ ∀ v ∈ smallS l most width, -width < v ∧ v < width := by
  have hne : (l.take most).map (fun v => v.tmod width) ≠ [] := by
    intro e
    have := congrArg List.length e
    simp only [List.length_map, List.length_take, List.length_nil] at this
    have := List.length_pos_iff.2 h0
    omega
  have hb : ∀ v ∈ (l.take most).map (fun v => v.tmod width), -width < v ∧ v < width := fun v hv => by
    obtain ⟨x, _, rfl⟩ := List.mem_map.1 hv
    have h1 := Int.tmod_lt_of_pos x hw
    have h2 := Int.lt_tmod_of_pos x hw
    omega
  have hE : ofE ((l.take most).map fun v => v.tmod width) = 0 := ofE_zero.2 ⟨hne, fun v hv => by have := hb v hv; omega, by
    have := hb _ (maxS_spec hne).1
    have := hb _ (minS_spec hne).1
    omega⟩
  have e : smallS l most width = setS ((l.take most).map fun v => v.tmod width) := by rw [smallS, ofL, if_pos hE]
  refine ⟨ofL_dom _, ?_, ?_, ?_⟩
  · rw [e]; exact fun h => hne (setS_nil.1 h)
  · rw [e]
    have := setS_len ((l.take most).map fun v => v.tmod width)
    rw [List.length_map, List.length_take] at this
    omega
  · rw [e]; exact fun v hv => hb v (mem_setS.1 hv)
theorem domS_in (ds : List (List Int)) {width : Int} (hw : 0 < width) (hw2 : width ≤ 1000) (i : Nat) : DomL (domS ds width i) ∧ domS ds width i ≠ [] ∧ (domS ds width i).length ≤ 6 ∧ ∀ v ∈ domS ds width i, -width < v ∧ v < width := by
  unfold domS
  refine smallS_in hw hw2 ?_ (by decide)
  split
  · rename_i h; exact h.2
  · simp

theorem c_make10 (z : Small) (zk zK zc : Int) (zA zB zC : List (List PV)) (R : SmallR z zk zA zB zC zK zc) (rd : List (List PV)) (ds : List (List Int)) (hrd : rd = rowsOf ds) (h64 : ds.length ≤ 9223372036854775807) (h65 : ∀ l ∈ ds, l.length ≤ 9223372036854775807) (kn : Int) (hk : 1 ≤ kn ∧ kn ≤ 23) (width : Int) (hw : 0 < width) (hw2 : width ≤ 1000)
    (c : Con) (hc : c = makeS { z with kind := kn - 1 } 5) (kind K : Int) (rA rB rC rD rE rR : List (List PV)) (H : ConR c kind rA rB rC rD rE K rR) (r : List (List PV)) (hr : r = rowsOf (domsS ds width (c.A.length + c.B.length))) :
    Call .plain 25 [.agg [U8 zk, .list 1 zA, .list 1 zB, .list 1 zC, I16 zK, U8 zc, .list 1 rd], I kn, I width] (.tup [.agg [I kind, .list 1 rA, .list 1 rB, .list 1 rC, .list 1 rD, .list 1 rE, I K, .list 1 rR], .list 1 r]) := by
  obtain ⟨k1, hk1⟩ : ∃ k1, k1 = kn - 1 := ⟨_, rfl⟩
  rw [← hk1] at hc
  have R' : SmallR { z with kind := k1 } k1 zA zB zC zK zc := ⟨rfl, R.A, R.B, R.C, R.K, R.ch, ⟨show 0 ≤ k1 by omega, show k1 ≤ 255 by omega⟩, R.bA, R.bB, R.bC, R.bK, R.bch, R.lA, R.lB, R.lC⟩
  have cm := c_make { z with kind := k1 } k1 zK zc zA zB zC R' 5 (by decide) kind K rA rB rC rD rE rR (by rw [← hc]; exact H)
  have ml := make_lens { z with kind := k1 } 5
  rw [← hc] at ml
  obtain ⟨m1, m2, -⟩ := ml
  have la : (rA.length : Int) = c.A.length := by rw [H.A]; simp
  have lb : (rB.length : Int) = c.B.length := by rw [H.B]; simp
  obtain ⟨n, hn⟩ : ∃ n, n = c.A.length + c.B.length := ⟨_, rfl⟩
  rw [← hn] at hr
  have ln : (rA.length : Int) + (rB.length : Int) = n := by omega
  have hn2 : n ≤ 1000 := by omega
  clear H hc R R' la lb
  refine call_of Proofs.Tryz.func25 Proofs.Tryz.call25 rfl rfl fun M C hM hC => ?_
  have e0 : M .conv .u8 (M .arith .sub .i64 kn 1) = k1 := by
    subst hM
    rw [real_sub, wrap_i64 (by omega) (by omega), real_conv, hk1]
    show (kn - 1) % 256 = kn - 1
    omega
  have elen : M .arith .add .i64 (Int.ofNat (M .len rA)) (Int.ofNat (M .len rB)) = n := by
    subst hM
    show IntKind.i64.wrap ((rA.length : Int) + (rB.length : Int)) = _
    rw [ln, wrap_i64 (by omega) (by omega)]
  cbv
  rw [show M .conv .u8 _ = _ from e0]
  refine .mk _ (use_call hC cm) ?_
  clear cm e0
  cbv
  refine Loop.over (Nat × List (List PV)) (fun q => [(.t 10, I q.1), (.t 9, .own 3 0), (.a 3, .arr 0 25 1 q.2), (.i 3, .inf true 0)]) 4 (fun q => n - q.1) (fun q => q.1 ≤ n ∧ q.2 = rowsOf (domsS ds width q.1)) (0, []) ⟨Nat.zero_le _, rfl⟩ (by (cbv; repeat' (first | exact True.intro | exact rfl | apply And.intro))) ?_
  rintro ⟨j, q⟩ ⟨hj, hq⟩
  simp only at hj hq
  cbv
  rw [show M .arith .add .i64 _ _ = _ from elen]
  split <;> rename_i h <;> (try simp only [h]) <;> (try cbv) <;> (try simp only [ncast] at *)
  · have hlt : j < n := by subst hM; have h := of_decide_eq_true h; exact Int.ofNat_lt.1 h
    clear h
    obtain ⟨x, hx⟩ : ∃ x, x = domS ds width j := ⟨_, rfl⟩
    obtain ⟨rx, hrx⟩ : ∃ rx, rx = ints x := ⟨_, rfl⟩
    have step : M .app q [[.list 1 rx]] = rowsOf (domsS ds width (j + 1)) := by
      subst hM
      rw [real_app, hq, hrx, hx]
      unfold domsS
      rw [range_map_succ]
      simp [rowsOf]
    have few : (M .app q [[.list 1 rx]]).length ≤ 2147483648 := by rw [step]; simp [domsS]; omega
    have cs1 := fun rl l hl hl2 (e : (if j < ds.length ∧ ds.getD j [] ≠ [] then ds.getD j [] else [(j : Int).tmod 3, 1]) = l) => c_small rl l hl hl2 6 (by decide) width hw (by omega) 6 rfl rx (by rw [hrx, hx, domS, e])
    have e3 : M .arith .rem .i64 (Int.ofNat j) 3 = (j : Int).tmod 3 := by subst hM; rfl
    have dl : (ds.length : Int) = rd.length := by rw [hrd]; simp
    clear hx hrx hq
    refine .mk (by decide) ?_
    cbv
    split <;> rename_i h <;> (try simp only [h]) <;> (try cbv) <;> (try simp only [ncast] at *)
    · have hlt2 : j < ds.length := by subst hM; have h := of_decide_eq_true h; have h : (j : Int) < (rd.length : Int) := h; omega
      clear h
      obtain ⟨u, hu⟩ : ∃ u, u = ds.getD j [] := ⟨_, rfl⟩
      obtain ⟨ru, hru⟩ : ∃ ru, ru = ints u := ⟨_, rfl⟩
      have ul : u.length ≤ 9223372036854775807 := by rw [hu]; exact h65 _ (getD_mem [] hlt2)
      have gi : rd[(Int.ofNat j).toNat]? = some [.list 1 ru] := by
        rw [hrd, show (Int.ofNat j).toNat = j from rfl, rowsOf_get, hru, hu]
        simp [List.getD_eq_getElem?_getD, hlt2]
      refine .mk _ (Int.natCast_nonneg _) gi ?_
      cbv
      split <;> rename_i h <;> (try simp only [h]) <;> (try cbv) <;> (try simp only [ncast] at *)
      · have h0 : u ≠ [] := by
          subst hM
          have h := of_decide_eq_true h
          rw [hru] at h
          have h : ((ints u).length : Int) > 0 := h
          rw [ints_len] at h
          rintro rfl
          simp at h
        clear h
        have cs1 := cs1 ru u hru ul (by rw [if_pos ⟨hlt2, by rw [← hu]; exact h0⟩, hu])
        clear h0 hru hu
        refine .mk _ (Int.natCast_nonneg _) gi ?_
        cbv
        refine .mk _ (use_call hC cs1) ?_
        cbv
        refine .mk few ?_
        cbv
        refine ⟨⟨j + 1, _⟩, ⟨hlt, step⟩, ?_, by (cbv; repeat' (first | exact True.intro | exact rfl | apply And.intro)) <;> (subst hM; rw [succ_i64 (by omega)])⟩
        simp only; omega
      · have h0 : u = [] := by
          subst hM
          have h := of_decide_eq_false h
          rw [hru] at h
          have h : ¬ ((ints u).length : Int) > 0 := h
          rw [ints_len] at h
          cases u with
          | nil => rfl
          | cons x r => simp at h
        clear h
        have cs1 := cs1 [[I (M .arith .rem .i64 (Int.ofNat j) 3)], [I 1]] [(j : Int).tmod 3, 1] (by rw [e3]; rfl) (by simp) (by rw [if_neg (by rw [← hu]; simp [h0])])
        clear h0 hru hu e3
        refine .inl (.mk _ (use_call hC cs1) ?_)
        cbv
        refine .mk few ?_
        cbv
        refine ⟨⟨j + 1, _⟩, ⟨hlt, step⟩, ?_, by (cbv; repeat' (first | exact True.intro | exact rfl | apply And.intro)) <;> (subst hM; rw [succ_i64 (by omega)])⟩
        simp only; omega
    · have hge : ¬ j < ds.length := by subst hM; have h := of_decide_eq_false h; have h : ¬ (j : Int) < (rd.length : Int) := h; omega
      clear h
      have cs1 := cs1 [[I (M .arith .rem .i64 (Int.ofNat j) 3)], [I 1]] [(j : Int).tmod 3, 1] (by rw [e3]; rfl) (by simp) (by rw [if_neg (fun h => hge h.1)])
      clear e3
      refine .inl (.mk _ (use_call hC cs1) ?_)
      cbv
      refine .mk few ?_
      cbv
      refine ⟨⟨j + 1, _⟩, ⟨hlt, step⟩, ?_, by (cbv; repeat' (first | exact True.intro | exact rfl | apply And.intro)) <;> (subst hM; rw [succ_i64 (by omega)])⟩
      simp only; omega
  · have hj2 : j = n := by subst hM; have h := of_decide_eq_false h; have h : ¬ (j : Int) < (n : Int) := h; omega
    subst hj2
    rw [hq, hr]
    (cbv; repeat' (first | exact True.intro | exact rfl | apply And.intro))

/-! ### Is it one? -/
def fitsD (c : Con) (ls : List (List Int)) (first last : Int) : Bool := decide (c.kind ≥ first) && (decide (c.kind ≤ last) && (decide (rightS c 256 = 0) && (decide (ls.length = c.A.length + c.B.length) && someL ls)))
theorem c_fits10 (c : Con) (kind K : Int) (rA rB rC rD rE rR : List (List PV)) (H : ConR c kind rA rB rC rD rE K rR) (la : lim rA) (lb : lim rB) (lc : lim rC) (ld : lim rD) (le : lim rE) (lr : lim rR) (rl : List (List PV)) (ls : List (List Int)) (hl : rl = rowsOf ls) (h64 : ls.length ≤ 1000000) (first last : Int) (y : Bool) (hy : y = fitsD c ls first last) :
    Call .plain 34 [.agg [I kind, .list 1 rA, .list 1 rB, .list 1 rC, .list 1 rD, .list 1 rE, I K, .list 1 rR], .list 1 rl, I first, I last] (B y) := by
  have cr := c_rright c kind K rA rB rC rD rE rR H la lb lc ld le lr 256 _ (by decide) rfl
  have hkd := H.kind
  have lA : (rA.length : Int) = c.A.length := by rw [H.A]; simp
  have lB : (rB.length : Int) = c.B.length := by rw [H.B]; simp
  have lL : (rl.length : Int) = ls.length := by rw [hl]; simp
  unfold lim at la lb
  have e1 : rightS c 256 = 0 ∨ rightS c 256 ≠ 0 := by omega
  unfold fitsD at hy
  rw [← hkd] at hy
  generalize rightS c 256 = rr at cr hy e1
  have hlen : decide (ls.length = c.A.length + c.B.length) = decide ((rl.length : Int) = (rA.length : Int) + (rB.length : Int)) := by rw [decide_eq_decide]; omega
  rw [hlen] at hy
  clear hlen H lr ld le lc
  have some0 : ∀ i, i < ls.length → ls.getD i [] = [] → someL ls = false := fun i hi he => by
    cases hs : someL ls with
    | false => rfl
    | true => exact absurd he (someL_iff.1 hs _ (getD_mem [] hi))
  have some1 : (∀ i, i < ls.length → ls.getD i [] ≠ []) → someL ls = true := fun h => by
    rw [someL_iff]
    intro d hd
    obtain ⟨i, hi, rfl⟩ := List.mem_iff_getElem.1 hd
    have := h i hi
    simpa [List.getD_eq_getElem?_getD, hi] using this
  generalize someL ls = so at hy some0 some1
  refine call_of Proofs.Tryz.func34 Proofs.Tryz.call34 rfl rfl fun M C hM hC => ?_
  have q1 : M .cmp .lss kind first = !decide (kind ≥ first) := by subst hM; show decide _ = _; rw [Bool.eq_iff_iff]; simp
  have q2 : M .cmp .gtr kind last = !decide (kind ≤ last) := by subst hM; show decide _ = _; rw [Bool.eq_iff_iff]; simp
  have q3 : M .cmp .neq (Int.ofNat (M .len rl)) (M .arith .add .i64 (Int.ofNat (M .len rA)) (Int.ofNat (M .len rB))) = !decide ((rl.length : Int) = (rA.length : Int) + (rB.length : Int)) := by
    subst hM
    show ((rl.length : Int) != IntKind.i64.wrap ((rA.length : Int) + (rB.length : Int))) = _
    rw [wrap_i64 (by omega) (by omega), Bool.eq_iff_iff]
    simp
  have q4 : M .cmp .neq rr 0 = !decide (rr = 0) := by subst hM; show (rr != 0) = _; rw [Bool.eq_iff_iff]; simp
  generalize decide (kind ≥ first) = b1 at q1 hy
  generalize decide (kind ≤ last) = b2 at q2 hy
  generalize decide ((rl.length : Int) = (rA.length : Int) + (rB.length : Int)) = b3 at q3 hy
  generalize decide (rr = 0) = b4 at q4 hy
  cases b1
  · have q1 : M .cmp .lss kind first = true := q1
    have hy : y = false := hy
    cbv
    simp only [q1]
    cbv
    rw [hy]
  · have q1 : M .cmp .lss kind first = false := q1
    cases b2
    · have q2 : M .cmp .gtr kind last = true := q2
      have hy : y = false := hy
      cbv
      simp only [q1]
      cbv
      simp only [q2]
      cbv
      rw [hy]
    · have q2 : M .cmp .gtr kind last = false := q2
      cases b3
      · have q3 : M .cmp .neq (Int.ofNat (M .len rl)) (M .arith .add .i64 (Int.ofNat (M .len rA)) (Int.ofNat (M .len rB))) = true := q3
        have hy : y = false := by rw [hy]; simp
        cbv
        simp only [q1]
        cbv
        simp only [q2]
        cbv
        rw [show M .cmp .neq _ _ = _ from q3]
        cbv
        rw [hy]
      · have q3 : M .cmp .neq (Int.ofNat (M .len rl)) (M .arith .add .i64 (Int.ofNat (M .len rA)) (Int.ofNat (M .len rB))) = false := q3
        cbv
        simp only [q1]
        cbv
        simp only [q2]
        cbv
        rw [show M .cmp .neq _ _ = _ from q3]
        cbv
        refine .mk _ (use_call hC cr) ?_
        cbv
        cases b4
        · have q4 : M .cmp .neq rr 0 = true := q4
          have hy : y = false := by rw [hy]; simp
          simp only [q4]
          cbv
          rw [hy]
        · have q4 : M .cmp .neq rr 0 = false := q4
          have hy : y = so := by rw [hy]; simp
          simp only [q4]
          clear q1 q2 q3 q4
          cbv
          refine Loop.over Nat (fun q => [(.t 10, I q)]) 1 (fun q => ls.length - q) (fun q => q ≤ ls.length ∧ ∀ i, i < q → ls.getD i [] ≠ []) 0 ⟨Nat.zero_le _, by omega⟩ (by (cbv; repeat' (first | exact True.intro | exact rfl | apply And.intro))) ?_
          rintro j ⟨hj, hn⟩
          cbv
          split <;> rename_i h <;> (try simp only [h]) <;> (try cbv) <;> (try simp only [ncast] at *)
          · have hlt : j < ls.length := by subst hM; have h := of_decide_eq_true h; have h : (j : Int) < (rl.length : Int) := h; omega
            clear h
            refine nidx_rows hl hlt fun u hu => ?_
            cbv
            split <;> rename_i h <;> (try simp only [h]) <;> (try cbv) <;> (try simp only [ncast] at *)
            · have h0 : ls.getD j [] = [] := by
                subst hM
                have h := eq_of_beq h
                rw [hu] at h
                have h : ((ints (ls.getD j [])).length : Int) = 0 := h
                rw [ints_len] at h
                exact List.eq_nil_of_length_eq_zero (by omega)
              rw [hy, some0 j hlt h0]
            · have h0 : ls.getD j [] ≠ [] := by
                subst hM
                have h : ((u.length : Int) == 0) = false := h
                rw [hu, ints_len] at h
                intro e
                rw [e] at h
                simp at h
              refine ⟨j + 1, ⟨hlt, fun i hi => ?_⟩, ?_, by (cbv; repeat' (first | exact True.intro | exact rfl | apply And.intro)) <;> (subst hM; rw [succ_i64 (by omega)])⟩
              · rcases Nat.lt_or_ge i j with h3 | h3
                · exact hn i h3
                · have : i = j := by omega
                  subst this; exact h0
              · omega
          · have hj2 : j = ls.length := by subst hM; have h := of_decide_eq_false h; have h : ¬ (j : Int) < (rl.length : Int) := h; omega
            subst hj2
            rw [hy, some1 hn]

theorem c_fits1 (off mn mx sz : Int) (ws : List (List PV)) (l : List Int) (D : DomR off ws mn mx sz l) (y : Bool) (hy : y = decide (l = [])) : Call .plain 156 [.agg [I off, .list 1 ws, I mn, I mx, I sz]] (B y) := by
  have hs := D.sz
  have : decide (l = []) = decide (sz = 0) := by
    rw [decide_eq_decide, hs]
    constructor
    · rintro rfl; rfl
    · intro h; exact List.eq_nil_of_length_eq_zero (by omega)
  rw [this] at hy
  clear this hs D
  refine call_of Proofs.Tryz.func156 Proofs.Tryz.call156 rfl rfl fun M C hM hC => ?_
  cbv
  refine .mk _ (use_call hC (c_domSize off mn mx sz ws)) ?_
  cbv
  subst hM
  rw [hy]
  show PV.v (Value.bool (sz == 0)) = _
  have : (sz == 0) = decide (sz = 0) := by rw [Bool.eq_iff_iff]; simp
  rw [this]
def nilAny (ls : List (List Int)) : Bool := ls.any fun l => decide (l = [])
theorem nilAny_some (ls : List (List Int)) : someL ls = !nilAny ls := by
  unfold someL nilAny
  rw [Bool.eq_iff_iff]
  simp
theorem c_indexFuncD (rows : List (List PV)) (ls : List (List Int)) (D : DomsR rows ls) (h64 : ls.length ≤ 1000000) (y : Int) (hy : y = idxS (fun l => decide (l = [])) ls) : Call .plain 215 [.list 5 rows, .clo (.func 156) [] []] (I y) := by
  have hlen := D.len
  refine call_of Proofs.Tryz.func215 Proofs.Tryz.call215 rfl rfl fun M C hM hC => ?_
  cbv
  refine Loop.over Nat (fun q => [(.t 8, I q)]) 0 (fun q => ls.length - q) (fun q => q ≤ ls.length ∧ ∀ i, i < q → decide (ls.getD i [] = []) = false) 0 ⟨Nat.zero_le _, by omega⟩ (by (cbv; repeat' (first | exact True.intro | exact rfl | apply And.intro))) ?_
  rintro j ⟨hj, hn⟩
  cbv
  split <;> rename_i h <;> (try simp only [h]) <;> (try cbv) <;> (try simp only [ncast] at *)
  · have hlt : j < ls.length := by subst hM; have h := of_decide_eq_true h; have h : (j : Int) < (rows.length : Int) := h; omega
    clear h
    refine nidx_doms D hlt fun off ws mn mx sz Dj => ?_
    cbv
    refine callB hC (c_fits1 off mn mx sz ws _ Dj _ rfl) fun z hz => ?_
    cbv
    cases z
    · cbv
      refine ⟨j + 1, ⟨hlt, fun i hi => ?_⟩, ?_, by (cbv; repeat' (first | exact True.intro | exact rfl | apply And.intro)) <;> (subst hM; rw [succ_i64 (by omega)])⟩
      · rcases Nat.lt_or_ge i j with h3 | h3
        · exact hn i h3
        · have : i = j := by omega
          subst this; exact hz.symm
      · omega
    · cbv
      rw [hy, idxS_hit [] hlt hz.symm hn]
      rfl
  · have hj2 : j = ls.length := by subst hM; have h := of_decide_eq_false h; have h : ¬ (j : Int) < (rows.length : Int) := h; omega
    subst hj2
    rw [hy, idxS_no [] hn]
theorem c_containsFuncD (rows : List (List PV)) (ls : List (List Int)) (D : DomsR rows ls) (h64 : ls.length ≤ 1000000) (y : Bool) (hy : y = nilAny ls) : Call .plain 155 [.list 5 rows, .clo (.func 156) [] []] (B y) := by
  refine call_of Proofs.Tryz.func155 Proofs.Tryz.call155 rfl rfl fun M C hM hC => ?_
  cbv
  refine callI hC (c_indexFuncD rows ls D h64 _ rfl) fun i hi => ?_
  cbv
  subst hM
  rw [hy, real_geq, hi, idxS_nonneg]
  rfl
theorem c_propFits (c : Con) (kind K : Int) (rA rB rC rD rE rR : List (List PV)) (H : ConR c kind rA rB rC rD rE K rR) (la : lim rA) (lb : lim rB) (lc : lim rC) (ld : lim rD) (le : lim rE) (lr : lim rR) (rows : List (List PV)) (ls : List (List Int)) (D : DomsR rows ls) (h64 : ls.length ≤ 1000000) (first last : Int) (y : Bool) (hy : y = fitsD c ls first last) :
    Call .plain 83 [.agg [I kind, .list 1 rA, .list 1 rB, .list 1 rC, .list 1 rD, .list 1 rE, I K, .list 1 rR], .list 5 rows, I first, I last] (B y) := by
  have cr := c_right c kind K rA rB rC rD rE rR H la lb lc ld le lr 256 _ rfl
  have hkd := H.kind
  have lA : (rA.length : Int) = c.A.length := by rw [H.A]; simp
  have lB : (rB.length : Int) = c.B.length := by rw [H.B]; simp
  have lL : (rows.length : Int) = ls.length := by rw [D.len]
  unfold lim at la lb
  have cc := c_containsFuncD rows ls D h64 _ rfl
  unfold fitsD at hy
  rw [← hkd, nilAny_some] at hy
  have hlen : decide (ls.length = c.A.length + c.B.length) = decide ((rows.length : Int) = (rA.length : Int) + (rB.length : Int)) := by rw [decide_eq_decide]; omega
  rw [hlen] at hy
  clear hlen H lr ld le lc D
  generalize rightS c 256 = rr at cr hy
  generalize nilAny ls = em at cc hy
  refine call_of Proofs.Tryz.func83 Proofs.Tryz.call83 rfl rfl fun M C hM hC => ?_
  have q1 : M .cmp .geq kind first = decide (kind ≥ first) := by subst hM; rfl
  have q2 : M .cmp .leq kind last = decide (kind ≤ last) := by subst hM; rfl
  have q3 : M .cmp .eql (Int.ofNat (M .len rows)) (M .arith .add .i64 (Int.ofNat (M .len rA)) (Int.ofNat (M .len rB))) = decide ((rows.length : Int) = (rA.length : Int) + (rB.length : Int)) := by
    subst hM
    show ((rows.length : Int) == IntKind.i64.wrap ((rA.length : Int) + (rB.length : Int))) = _
    rw [wrap_i64 (by omega) (by omega), Bool.eq_iff_iff]
    simp
  have q4 : M .cmp .eql rr 0 = decide (rr = 0) := by subst hM; show (rr == 0) = _; rw [Bool.eq_iff_iff]; simp
  have q5 : M .not em = !em := by subst hM; rfl
  generalize decide (kind ≥ first) = b1 at q1 hy
  generalize decide (kind ≤ last) = b2 at q2 hy
  generalize decide ((rows.length : Int) = (rA.length : Int) + (rB.length : Int)) = b3 at q3 hy
  generalize decide (rr = 0) = b4 at q4 hy
  cbv
  refine .mk _ (use_call hC cc) ?_
  cbv
  simp only [q1]
  cases b1
  · have hy : y = false := hy
    cbv
    rw [hy]
  · cbv
    simp only [q2]
    cases b2
    · have hy : y = false := hy
      cbv
      rw [hy]
    · cbv
      refine .mk _ (use_call hC cr) ?_
      cbv
      simp only [q4]
      cases b4
      · have hy : y = false := hy
        cbv
        rw [hy]
      · cbv
        rw [show M .cmp .eql _ (M .arith .add .i64 _ _) = _ from q3]
        cases b3
        · have hy : y = false := hy
          cbv
          rw [hy]
        · cbv
          rw [show M .not em = _ from q5]
          have hy : y = !em := hy
          rw [hy]
end Go.Pi
