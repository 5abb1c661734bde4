/- slices.Sorted over slices.Values; Sort; Compact. -/
import Derived.Test.YtlgoiaembdlemaaGreatSh1
import Derived.Test.YtlgoiaembdlemaaGreatPic
set_option linter.unusedSimpArgs false
set_option linter.unusedVariables false
namespace Go.Pi
open Go
set_option linter.unusedVariables false

theorem c_sort (l : List Int) (hl : l.length ≤ 1000000) : Call .val 70 [.tup [], .arr 0 3 1 (ints l), .tup []] (.tup [.arr 0 3 1 (ints (sortS l)), .tup []]) :=
  ⟨Proofs.Tryz.call70, rfl, rfl, sort_mcall Proofs.Tryz.lays189 3 l hl⟩
theorem c_compact (l : List Int) (hl : l.length ≤ 1000000) : Call .back 46 [.tup [], .arr 0 3 1 (ints l), .tup []] (.arr 0 3 1 (ints (Lib.compact l))) :=
  ⟨Proofs.Tryz.call46, rfl, rfl, compact_mcall Proofs.Tryz.lays20 3 l hl⟩

@[reducible] def valuesPV (r : List (List PV)) : PV := .clo (.func 71) [] [.ref [.list 1 r]]
theorem c_valuesIter (r : List (List PV)) : Call .plain 45 [.list 1 r] (valuesPV r) := by
  refine call_of Proofs.Tryz.func45 Proofs.Tryz.call45 rfl rfl fun M C hM hC => ?_
  cbv

theorem below_ext {w w' : World} (h : RowKit.Below w.heap.size w w') : Ext (fun _ => False) w w' := ⟨h.os, h.tape, h.output, h.size, fun k hk _ => h.block k hk⟩

theorem c_collect (l : List Int) (hl : l.length ≤ 1000000) : Call .fresh 69 [valuesPV (ints l)] (.arr 0 3 1 (ints l)) := by
  refine ⟨Proofs.Tryz.call69, ?_⟩
  intro ok w vs hA hok hargs
  obtain ⟨v0, rfl⟩ : ∃ v0, vs = #[v0] := by
    have := hargs.1
    exact Array.size_eq_one_iff.1 (by simpa using this)
  have h0 := hargs.2 0 _ rfl
  simp only [Array.getD_eq_getD_getElem?] at h0
  cases h0 with
  | clo _ vf vc _ _ hsf hsc hf hc =>
    have hvf : vf = #[] := Array.eq_empty_of_size_eq_zero hsf
    obtain ⟨p, rfl⟩ : ∃ p, vc = #[p] := Array.size_eq_one_iff.1 (by simpa using hsc)
    subst hvf
    have hp := hc 0 _ rfl
    simp only [Array.getD_eq_getD_getElem?] at hp
    cases hp with
    | ref b off _ f hb hcell hrep =>
      obtain ⟨hc0, _⟩ := hcell 0 _ rfl
      have hr0 := hrep 0 _ rfl
      rw [Nat.add_zero] at hc0
      have hbl := hok b hb
      have gives : Proofs.PiGives Fence.wide 1 Proofs.Tryz.prog 71 #[.pointer (some ⟨b, off, none⟩)] Proofs.encPi (fun ss => ss = l) l.length w := by
        intro lp J W hW hJ hY hj0
        generalize hf0 : f 0 = sv at hc0 hr0
        generalize hq : ints l = q at hr0
        cases hr0 with
        | empty a cap es =>
          have : l = [] := List.eq_nil_of_length_eq_zero (by rw [← ints_len, hq]; rfl)
          subst this
          exact (Proofs.Tryz.piValues0 Fence.wide 1 trivial rfl lp b off a cap J W (((hJ _ _ hj0).cell (p := ⟨b, off, none⟩) hbl).trans hc0) hj0).mono fun e W' h => ⟨h.1, [], rfl, h.2⟩
        | list b2 off2 cap es xs f2 hb2 hcap hes h1 h2 =>
          subst hq
          rw [ints_len] at hc0
          refine (Proofs.Tryz.piValues1 Fence.wide 1 trivial rfl (Nat.le_refl _) lp b off b2 off2 l.length cap l hl w hbl (hok b2 hb2) hc0 (fun j hj => ?_) J hJ hY W hj0).mono fun e W' h => ⟨h.1, l, rfl, by rw [← Proofs.PiUpto_all l]; exact h.2⟩
          have hi : (ints l)[j]? = some [I (l.getD j 0)] := by rw [ints_get]; simp [List.getD_eq_getElem?_getD, hj]
          obtain ⟨q1, _⟩ := h1 j _ hi 0 _ rfl
          have q2 := h2 j _ hi 0 _ rfl
          have q3 : f2 j 0 = .int .i64 (l.getD j 0) := by
            generalize f2 j 0 = z at q2
            generalize l.getD j 0 = u at q2
            cases q2; rfl
          rw [q3] at q1
          simpa [List.getD_eq_getElem?_getD] using q1
      have key := Proofs.Tryz.picollect_in Fence.wide 3 trivial trivial rfl (Nat.le_refl _) 71 #[.pointer (some ⟨b, off, none⟩)] trivial Proofs.Tryz.call71 _ l.length (by simp only [maxLen]; omega) (by omega) w gives
      refine (callsIn_wide.1 key).mono ?_
      rintro e w' ⟨v, ss, rfl, hss, hrow, _, hbelow⟩
      subst hss
      obtain ⟨h, rfl, h2, h3⟩ := HomeOK.ofRow (ok := ok) hrow
      exact ⟨h, rfl, below_ext hbelow, h2, h3⟩

theorem c_sorted (l : List Int) (hl : l.length ≤ 1000000) (r : List (List PV)) (hr : r = ints l) : Call .fresh 44 [valuesPV r] (.arr 0 3 1 (ints (sortS l))) := by
  subst hr
  have hc1 := c_collect l hl
  have hc2 := c_sort l hl
  generalize ints (sortS l) = q at hc2 ⊢
  generalize ints l = r at hc1 hc2 ⊢
  refine fresh_of Proofs.Tryz.func44 Proofs.Tryz.call44 rfl rfl fun M C hM hC => ?_
  cbv
  refine .new _ _ _ (use_call hC hc1) ?_
  cbv
  refine .inr (.val _ _ (use_call hC hc2) ?_)
  cbv
