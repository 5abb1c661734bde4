/- jigsawlaw21.LexiFixed returns true, whatever the input is; the input reads as it did; the library's table of bits is as the program's text lays it (tied). No other condition. -/
import Derived.Test.YtlgoiaembdlemaaGreatDoorMGl0ToGl1
import Derived.Test.YtlgoiaembdlemaaGreatDoorLx6
import Derived.Test.YtlgoiaembdlemaaGreatDoorCards
import Derived.Test.YtlgoiaembdlemaaGreatDoorTie
set_option linter.unusedSimpArgs false
set_option linter.unusedVariables false
namespace Go.Proofs.YtlgoiaembdlemaaGreatDoor
open Go.ChangeShapes Go.WideShapes Go.ChangeAt Go.RowKit Go.Pi
set_option linter.unusedVariables false

set_option maxRecDepth 100000 in
theorem lexiFixed_lifted (os : Os) (started : os.Started) (H : Type) (enc : TypeId × Value → H) :
    ReturnsInHanded {} Tryz.checked os 12 .any (fun w args => (Rows.lexiFixedSpec.pre enc Tryz.prog Tryz.f12 [] false w args ∧ laidMetH Tryz.prog laidL w) ∧ sizedMet enc Tryz.prog Tryz.f12 (OpenSpec.ofChange Rows.lexiFixedSpec) false w args)
      (Rows.lexiFixedSpec.post enc Tryz.prog Tryz.f12 false true false false) := by
  refine returnsInHanded_of_change_and (C := Tryz.checked) (X := fun w _ => laidMetH Tryz.prog laidL w) (fun _ _ _ hh h => h.of_heap hh) own started (by kernel_rfl) Tryz.func12
    (ChangeSpec.witness_shaped (enc := enc) (C := Tryz.checked) (os := os) (X := fun w _ => laidMetH Tryz.prog laidL w) false (World.doorLaid Tryz.prog 14 os) #[.agg #[.int .u8 0, .slice none 0 0, .slice none 0 0, .slice none 0 0, .int .i16 0, .int .u8 0], .int .u8 0, .slice none 0 0] 8 rfl (World.shaped_of_RefB (by kernel_rfl) (by kernel_rfl)) (by kernel_rfl) (by kernel_rfl) (by kernel_rfl) (door_met os _)) ?_
  intro W base args ds0 gs before hval0 hW _ _ hL _
  have hval : ∀ (j : Nat) t v, Tryz.f12.params[j]? = some t → args[j]? = some v → Value.okWide Tryz.prog W .any base t v := hval0
  have hW' := hW
  obtain ⟨p, q, hA0, hV, rfl, hfz, hnd⟩ := hW
  have hA : DataW.TrodAll enc Tryz.prog W 0 (fun _ => true) true Tryz.f12.params.toList args.toList ds0 p := hA0
  rw [Tryz.params12] at hA hval
  obtain ⟨v0, vs0, e0, es0, p0, q0, hargs, rfl, rfl, h0, r0⟩ := trodAll_cons hA
  obtain ⟨v1, vs1, e1, es1, p1, q1, rfl, rfl, rfl, h1, r1⟩ := trodAll_cons r0
  obtain ⟨v2, vs2, e2, es2, p2, q2, rfl, rfl, rfl, h2, r2⟩ := trodAll_cons r1
  obtain ⟨rfl, rfl, rfl⟩ := trodAll_nil r2
  obtain rfl : args = #[v0, v1, v2] := by cases args; simp_all
  obtain ⟨rfl, rfl⟩ := trodVars_none hV
  have hv0 := hval 0 46 v0 rfl rfl
  unfold Value.okWide at hv0
  rw [Tryz.underlying46] at hv0
  obtain ⟨cs0, rfl, _, _⟩ := hv0
  obtain ⟨n1, rfl⟩ := okWide_int Tryz.underlying5 (hval 1 5 v1 rfl rfl)
  obtain ⟨a2, len2, cap2, rfl⟩ := okWide_slice Tryz.underlying43 (hval 2 43 v2 rfl rfl)
  have k0 := h0
  have lt0 : ∀ x ∈ p0, x.block < W.heap.size := by obtain ⟨m, hm⟩ := k0; exact DataW.trod_lt m _ _ _ hm
  have k1 := h1
  have lt1 : ∀ x ∈ p1, x.block < W.heap.size := by obtain ⟨m, hm⟩ := k1; exact DataW.trod_lt m _ _ _ hm
  have k2 := h2
  have lt2 : ∀ x ∈ p2, x.block < W.heap.size := by obtain ⟨m, hm⟩ := k2; exact DataW.trod_lt m _ _ _ hm
  obtain ⟨qs0, rep0, len0, ty0⟩ := read_agg shSmall h0
  obtain ⟨z, zk, zK, zc, zA, zB, zC, R, rfl⟩ := typed_small len0 ty0
  obtain ⟨pv1, rep1, ty1⟩ := read_one shU8 rfl h1
  obtain ⟨n, rfl, wn⟩ := typed_int ty1
  obtain ⟨pv2, rep2, ty2⟩ := read_one shI8s rfl h2
  obtain ⟨la, rfl, bla, wla⟩ := typed_list ty2
  clear hA0 hval0 h0 h1 h2
  refine (ran (c_lexiFixed z zk zK zc zA zB zC R n (wf_u8 wn) _ la rfl (by have e9 : (9223372036854775807 : Nat) = maxLen := rfl; rw [e9]; exact bla) (fun v hv => wf_i8 (wla v hv))) (of_laid hL) (vs := #[.agg cs0, .int .u8 n1, .slice a2 len2 cap2]) ⟨rfl, fun i p hi => ?_⟩).mono fun e W' ⟨he, bel⟩ => ?_
  · match i with
    | 0 => simp at hi; subst hi; exact rep0
    | 1 => simp at hi; subst hi; exact rep1
    | 2 => simp at hi; subst hi; exact rep2
    | n + 3 => simp at hi
  subst he
  exact ⟨_, rfl, _, _, _, [], _, [], hW', trodAll_mk1 (shut_bool Tryz.underlying4 _), (trodAll_cons_mk (Below.trod laidOut (by kernel_rfl) (of_decide_eq_true (by kernel_rfl)) k0 bel lt0) (trodAll_cons_mk (Below.trod laidOut (by kernel_rfl) (of_decide_eq_true (by kernel_rfl)) k1 bel lt1) (trodAll_cons_mk (Below.trod laidOut (by kernel_rfl) (of_decide_eq_true (by kernel_rfl)) k2 bel lt2) trodAll_mk0))), rfl, bel.frame _, fun h => by cases h⟩

theorem lexiFixed_k1 : Rows.lexiFixedRow.wf (OpenSpec.ofChange Rows.lexiFixedSpec) = true := by kernel_rfl
theorem lexiFixed_k4 : Tryz.f12.params.all (Tryz.prog.readableRec ·) = true := by kernel_rfl
theorem lexiFixed_k5 : namedTie Tryz.prog Rows.lexiFixedRow.named Rows.lexiFixedSpec.vars = true := by kernel_rfl
theorem lexiFixed_k10 : (Rows.lexiFixedRow.inPlace == Tryz.prog.inPlace 12) = true := by kernel_rfl
theorem lexiFixed_k11 : (Rows.lexiFixedRow.unfollowed == Tryz.prog.unfollowed 12) = true := by kernel_rfl
theorem lexiFixed_k12 : (Rows.lexiFixedRow.recurses == Tryz.prog.recurses 12) = true := by kernel_rfl
theorem lexiFixed_k13 : (Rows.lexiFixedRow.named == Tryz.prog.varsNamed 12) = true := by kernel_rfl
theorem lexiFixed_k14 : (Rows.lexiFixedRow.maps == (Tryz.f12.params.toList ++ Rows.lexiFixedSpec.plain.varTypes Tryz.prog).any (Tryz.prog.mapsRec ·)) = true := by kernel_rfl
theorem lexiFixed_k15 : (Rows.lexiFixedRow.ifaces == (Tryz.f12.params.toList ++ Rows.lexiFixedSpec.plain.varTypes Tryz.prog).any (Tryz.prog.ifacesRec ·)) = true := by kernel_rfl
theorem lexiFixed_k16 : (Rows.lexiFixedRow.mapsOut == Tryz.prog.mapsAmong Tryz.f12.resultTypes.toList) = true := by kernel_rfl
theorem lexiFixed_k17 : (Rows.lexiFixedRow.loops == (Tryz.f12.params.toList ++ Rows.lexiFixedSpec.plain.varTypes Tryz.prog).any (Tryz.prog.loopsFrom ·)) = true := by kernel_rfl
theorem lexiFixed_k17b : (Rows.lexiFixedRow.wideKeys == (Tryz.f12.params.toList ++ Rows.lexiFixedSpec.plain.varTypes Tryz.prog ++ Tryz.f12.resultTypes.toList).any (Tryz.prog.wideKeysFrom ·)) = true := by kernel_rfl
theorem lexiFixed_k19 : Tryz.f12.resultTypes.all (fun t => Tryz.prog.readableRec t && decide (t < Tryz.prog.types.size)) = true := by kernel_rfl
theorem lexiFixed_k20 : (Rows.lexiFixedRow.ifacesOut == Tryz.f12.resultTypes.toList.any (Tryz.prog.ifacesRec ·)) = true := by kernel_rfl
theorem lexiFixed_k21 : (Rows.lexiFixedRow.loopsOut == Tryz.f12.resultTypes.toList.any (Tryz.prog.loopsFrom ·)) = true := by kernel_rfl
theorem lexiFixed_k27 : (Rows.lexiFixedRow.veiled == (Tryz.f12.params.toList ++ Rows.lexiFixedSpec.plain.varTypes Tryz.prog ++ Tryz.f12.resultTypes.toList).any (Tryz.prog.veiledRec ·)) = true := by kernel_rfl
theorem lexiFixed_k28 : Rows.lexiFixedRow.veiledFits Tryz.prog Tryz.f12.params.toList (Tryz.f12.params.toList ++ Rows.lexiFixedSpec.plain.varTypes Tryz.prog ++ Tryz.f12.resultTypes.toList) = true := by kernel_rfl
theorem lexiFixed_fnd : Tryz.prog.funcNamed "jigsaw/jigsawlaw21.LexiFixed" = some 12 := by kernel_rfl
theorem lexiFixed_wrp : Tryz.f12.isWrapper Tryz.prog Rows.lexiFixedRow.wrapper Rows.lexiFixedRow.mainSum := by unfold Func.isWrapper; first | (rw [if_pos (by decide +kernel)]; kernel_rfl) | (rw [if_neg (by decide +kernel)]; exact ⟨rfl, rfl⟩)
theorem lexiFixed_ins : Tryz.f12.isInstance Tryz.prog Rows.lexiFixedRow.origin Rows.lexiFixedRow.targs := of_decide_eq_true (by kernel_rfl)
theorem lexiFixed_wft : Rows.lexiFixedRow.wfByText (OpenSpec.ofChange Rows.lexiFixedSpec) = true := by kernel_rfl
theorem lexiFixed_goe : false = Rows.lexiFixedRow.goesBy Tryz.prog := by kernel_rfl
theorem lexiFixed_std : ([46, 5, 43].all fun u => !Tryz.prog.wantsStandIn u) = true := by kernel_rfl

theorem lexiFixed_over : Rows.LexiFixedSaid :=
  OpenClaim.holds_of_wide 12 Tryz.f12 rfl rfl rfl rfl rfl rfl rfl ⟨rfl, rfl, rfl, rfl, rfl⟩ rfl rfl rfl rfl rfl lexiFixed_fnd Tryz.func12
    (joined_parts lexiFixed_k1 laidOut w_maps lexiFixed_k4 lexiFixed_k5 rfl w_stops rfl w_knobs lexiFixed_k10 lexiFixed_k11 lexiFixed_k12 lexiFixed_k13 lexiFixed_k14 lexiFixed_k15 lexiFixed_k16 lexiFixed_k17 lexiFixed_k17b rfl lexiFixed_k19 lexiFixed_k20 lexiFixed_k21 w_plain rfl w_heard w_enter w_lifted w_make rfl rfl lexiFixed_k27 lexiFixed_k28)
    lexiFixed_ins lexiFixed_wrp (fun os started H enc _ => lexiFixed_lifted os started H enc)

theorem lexiFixed_holds : Rows.LexiFixedCardSaid :=
  Claim7.holds_tied_plain_at .later [] [.data] true (true, "cb5e8e4fb6f76fcecce959adce0815f459b36c06e8674393564509c78d966a14") false
    lexiFixed_over (fun _ h => by cases h) lexiFixed_wft (fun _ h => by cases h) lexiFixed_row_tie rfl ⟨rfl, rfl⟩ w_main rfl
    (fun f fn hf hfn => by
      obtain rfl : f = 12 := (Option.some.inj (lexiFixed_fnd.symm.trans hf)).symm
      obtain rfl : fn = Tryz.f12 := (Option.some.inj (Tryz.func12.symm.trans hfn)).symm
      exact ⟨w_looks, fun j t ht => by
        rw [Tryz.params12] at ht
        exact w_stand lexiFixed_std (by simpa using Array.mem_of_getElem? ht)⟩)
    lexiFixed_goe
#print axioms lexiFixed_holds
end Go.Proofs.YtlgoiaembdlemaaGreatDoor
