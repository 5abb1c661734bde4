/- Package jigsawlaw09: its small functions. -/
import Derived.Test.YtlgoiaembdlemaaGreatGr5
import Derived.Test.YtlgoiaembdlemaaGreatRf3
import Derived.Test.YtlgoiaembdlemaaGreatPid
set_option linter.unusedSimpArgs false
set_option linter.unusedVariables false
namespace Go.Pi
open Go
set_option linter.unusedVariables false

theorem near_eq (a : List Int) (n : Nat) : nearS a n = (List.range n).map fun i => if i < a.length then (a.getD i 0).tmod 7 else (i : Int) := rfl
theorem c_near (ra : List (List PV)) (a : List Int) (n : Int) (ha : ra = ints a) (hn : n ≤ 1000) (r : List (List PV)) (hr : r = ints (nearS a n.toNat)) : Call .plain 6 [.list 1 ra, I n] (.list 1 r) := by
  refine call_of Proofs.Tryz.func6 Proofs.Tryz.call6 rfl rfl fun M C hM hC => ?_
  cbv
  refine Loop.over (Nat × List (List PV)) (fun q => [(.t 9, I q.1), (.t 5, .own 0 0), (.a 0, .arr 0 3 1 q.2), (.i 0, .inf true 0)]) 1 (fun q => n.toNat - q.1) (fun q => q.1 ≤ n.toNat ∧ q.2 = ints (nearS a q.1)) (0, []) ⟨Nat.zero_le _, rfl⟩ (by (cbv; repeat' (first | exact True.intro | exact rfl | apply And.intro))) ?_
  rintro ⟨j, q⟩ ⟨hj, hq⟩
  simp only at hj hq
  cbv
  split <;> rename_i h <;> (try simp only [h]) <;> (try cbv) <;> (try simp only [ncast] at *)
  · have hlt : j < n.toNat := by subst hM; have h := of_decide_eq_true h; have h : (j : Int) < n := h; omega
    have step : ∀ x : Int, (x = if j < a.length then (a.getD j 0).tmod 7 else (j : Int)) → M .app q [[I x]] = ints (nearS a (j + 1)) := fun x hx => by
      subst hM
      rw [real_app, hq, hx, near_eq, near_eq, range_map_succ, ← ints_app]; rfl
    have few : ∀ x : PV, (M .app q [[x]]).length ≤ 2147483648 := fun x => by
      subst hM
      simp [hq, nearS]; omega
    split <;> rename_i h <;> (try simp only [h]) <;> (try cbv) <;> (try simp only [ncast] at *)
    · have h1 : j < a.length := by subst hM; have h := of_decide_eq_true h; rw [ha] at h; have h : (j : Int) < ((ints a).length : Int) := h; simp at h; exact h
      refine nidx_ints ha h1 fun v hv => ?_
      cbv
      refine .mk (by decide) ?_
      cbv
      refine .mk (few _) ?_
      cbv
      refine ⟨⟨j + 1, _⟩, ⟨hlt, step _ ?_⟩, ?_, by (cbv; repeat' (first | exact True.intro | exact rfl | apply And.intro)) <;> (subst hM; rw [succ_i64 (by omega)])⟩
      · rw [if_pos h1, ← hv]; subst hM; rfl
      · simp only; omega
    · have h1 : ¬ j < a.length := by subst hM; have h := of_decide_eq_false h; rw [ha] at h; have h : ¬ (j : Int) < ((ints a).length : Int) := h; simp at h; omega
      refine .mk (few _) ?_
      cbv
      refine ⟨⟨j + 1, _⟩, ⟨hlt, step _ ?_⟩, ?_, by (cbv; repeat' (first | exact True.intro | exact rfl | apply And.intro)) <;> (subst hM; rw [succ_i64 (by omega)])⟩
      · rw [if_neg h1]; rfl
      · simp only; omega
  · have hj2 : j = n.toNat := by subst hM; have h := of_decide_eq_false h; have h : ¬ (j : Int) < n := h; omega
    subst hj2
    exact ⟨hq.trans hr.symm, trivial⟩



/-- The constraints of the signs of life. -/
def lifeD : Con := ⟨17, [0, 1, 2], [], [], [], [], 0, []⟩
def lifeC : Con := ⟨20, [0, 1, 2], [], [], [], [], 0, []⟩
theorem lifeR (k : Int) : ConR ⟨k, [0, 1, 2], [], [], [], [], 0, []⟩ k [[I 0], [I 1], [I 2]] [] [] [] [] 0 [] := ⟨rfl, rfl, rfl, rfl, rfl, rfl, rfl, rfl⟩
theorem lim_small {l : List (List PV)} (h : l.length ≤ 1000000) : lim l := by unfold lim; omega
theorem c_life (k : Int) (a : List Int) (ra : List (List PV)) (ha : ra = ints a) (hl : a.length = 3) (y : Bool) (hy : y = holdsS ⟨k, [0, 1, 2], [], [], [], [], 0, []⟩ a) :
    Call .plain 7 [.agg [I k, .list 1 [[I 0], [I 1], [I 2]], .list 1 [], .list 1 [], .list 1 [], .list 1 [], I 0, .list 1 []], .list 1 ra] (B y) :=
  c_holds _ a k 0 _ _ _ _ _ _ ra (lifeR k) ha (by omega) (lim_small (by simp)) (lim_small (by simp)) (lim_small (by simp)) (lim_small (by simp)) (lim_small (by simp)) (lim_small (by simp)) y hy
theorem lifeOK : RightOK ⟨17, [0, 1, 2], [], [], [], [], 0, []⟩ 3 := rightS_ok.1 (by decide +kernel)
theorem life_all (a : List Int) (hl : a.length = 3) (hf : a.any farS = false) : holdsS ⟨17, [0, 1, 2], [], [], [], [], 0, []⟩ a = apartS (valuesS a [0, 1, 2]) := by
  rw [holds_of (by rw [hl]; exact lifeOK) hf]
  simp [holdsXS]
theorem life1 : holdsS ⟨17, [0, 1, 2], [], [], [], [], 0, []⟩ [3, 1, 2] = true := by
  rw [life_all _ rfl (by decide)]
  exact apart_nodup (by decide)
theorem life2 : holdsS ⟨17, [0, 1, 2], [], [], [], [], 0, []⟩ [3, 1, 3] = false := by
  rw [life_all _ rfl (by decide)]
  have e : sortS [3, 1, 3] = [1, 3, 3] := sorted_perm_eq (sort_sorted _) (by decide) ((sort_perm _).trans (by decide))
  have e2 : valuesS [3, 1, 3] [0, 1, 2] = [3, 1, 3] := by decide
  rw [e2, apartS, e]
  decide +kernel
theorem life3 : holdsS ⟨20, [0, 1, 2], [], [], [], [], 0, []⟩ [2, 3, 1] = true := by decide +kernel
theorem life4 : holdsS ⟨20, [0, 1, 2], [], [], [], [], 0, []⟩ [1, 3, 2] = false := by decide +kernel
theorem c_wakes : Call .plain 9 [] (B true) := by
  have h1 := c_life 17 [3, 1, 2] [[I 3], [I 1], [I 2]] rfl rfl true life1.symm
  have h2 := c_life 17 [3, 1, 3] [[I 3], [I 1], [I 3]] rfl rfl false life2.symm
  have h3 := c_life 20 [2, 3, 1] [[I 2], [I 3], [I 1]] rfl rfl true life3.symm
  have h4 := c_life 20 [1, 3, 2] [[I 1], [I 3], [I 2]] rfl rfl false life4.symm
  refine call_of Proofs.Tryz.func9 Proofs.Tryz.call9 rfl rfl fun M C hM hC => ?_
  have nf : M .not false = true := by subst hM; rfl
  cbv
  refine .inl (.as _ _ ?_ (use_call hC h1) ?_)
  · (cbv; repeat' (first | exact True.intro | exact rfl | apply And.intro))
  cbv
  refine .inl (.as _ _ ?_ (use_call hC h2) ?_)
  · (cbv; repeat' (first | exact True.intro | exact rfl | apply And.intro))
  cbv
  simp only [nf]
  cbv
  refine .inl (.as _ _ ?_ (use_call hC h3) ?_)
  · (cbv; repeat' (first | exact True.intro | exact rfl | apply And.intro))
  cbv
  refine .inl (.as _ _ ?_ (use_call hC h4) ?_)
  · (cbv; repeat' (first | exact True.intro | exact rfl | apply And.intro))
  cbv
  simp only [nf]
