/- jigsawlaw21.LexiFilters returns true, whatever the input is; the input reads as it did; the library's table of bits is as the program's text lays it (tied). No other condition. -/
import Derived.Test.YtlgoiaembdlemaaGreatDoorMGl0ToGl1
import Derived.Test.YtlgoiaembdlemaaGreatDoorLx4
import Derived.Test.YtlgoiaembdlemaaGreatDoorCards
import Derived.Test.YtlgoiaembdlemaaGreatDoorTie
set_option linter.unusedSimpArgs false
set_option linter.unusedVariables false
namespace Go.Proofs.YtlgoiaembdlemaaGreatDoor
open Go.ChangeShapes Go.WideShapes Go.ChangeAt Go.RowKit Go.Pi
set_option linter.unusedVariables false

set_option maxRecDepth 100000 in
theorem lexiFilters_lifted (os : Os) (started : os.Started) (H : Type) (enc : TypeId × Value → H) :
    ReturnsInHanded {} Tryz.checked os 10 .any (fun w args => (Rows.lexiFiltersSpec.pre enc Tryz.prog Tryz.f10 [] false w args ∧ laidMetH Tryz.prog laidL w) ∧ sizedMet enc Tryz.prog Tryz.f10 (OpenSpec.ofChange Rows.lexiFiltersSpec) false w args)
      (Rows.lexiFiltersSpec.post enc Tryz.prog Tryz.f10 false true false false) := by
  refine returnsInHanded_of_change_and (C := Tryz.checked) (X := fun w _ => laidMetH Tryz.prog laidL w) (fun _ _ _ hh h => h.of_heap hh) own started (by kernel_rfl) Tryz.func10
    (ChangeSpec.witness_shaped (enc := enc) (C := Tryz.checked) (os := os) (X := fun w _ => laidMetH Tryz.prog laidL w) false (World.doorLaid Tryz.prog 14 os) #[.agg #[.int .u8 0, .slice none 0 0, .slice none 0 0, .slice none 0 0, .int .i16 0, .int .u8 0, .slice none 0 0], .int .u8 0] 8 rfl (World.shaped_of_RefB (by kernel_rfl) (by kernel_rfl)) (by kernel_rfl) (by kernel_rfl) (by kernel_rfl) (door_met os _)) ?_
  intro W base args ds0 gs before hval0 hW _ _ hL _
  have hval : ∀ (j : Nat) t v, Tryz.f10.params[j]? = some t → args[j]? = some v → Value.okWide Tryz.prog W .any base t v := hval0
  have hW' := hW
  obtain ⟨p, q, hA0, hV, rfl, hfz, hnd⟩ := hW
  have hA : DataW.TrodAll enc Tryz.prog W 0 (fun _ => true) true Tryz.f10.params.toList args.toList ds0 p := hA0
  rw [Tryz.params10] at hA hval
  obtain ⟨v0, vs0, e0, es0, p0, q0, hargs, rfl, rfl, h0, r0⟩ := trodAll_cons hA
  obtain ⟨v1, vs1, e1, es1, p1, q1, rfl, rfl, rfl, h1, r1⟩ := trodAll_cons r0
  obtain ⟨rfl, rfl, rfl⟩ := trodAll_nil r1
  obtain rfl : args = #[v0, v1] := by cases args; simp_all
  obtain ⟨rfl, rfl⟩ := trodVars_none hV
  have hv0 := hval 0 48 v0 rfl rfl
  unfold Value.okWide at hv0
  rw [Tryz.underlying48] at hv0
  obtain ⟨cs0, rfl, _, _⟩ := hv0
  obtain ⟨n1, rfl⟩ := okWide_int Tryz.underlying5 (hval 1 5 v1 rfl rfl)
  have k0 := h0
  have lt0 : ∀ x ∈ p0, x.block < W.heap.size := by obtain ⟨m, hm⟩ := k0; exact DataW.trod_lt m _ _ _ hm
  have k1 := h1
  have lt1 : ∀ x ∈ p1, x.block < W.heap.size := by obtain ⟨m, hm⟩ := k1; exact DataW.trod_lt m _ _ _ hm
  obtain ⟨qs0, rep0, len0, ty0⟩ := read_agg shCase h0
  obtain ⟨z, zk, zK, zc, zA, zB, zC, ds, R, b1, b2, b3, rfl⟩ := typed_case len0 ty0
  obtain ⟨pv1, rep1, ty1⟩ := read_one shU8 rfl h1
  obtain ⟨n, rfl, wn⟩ := typed_int ty1
  clear hA0 hval0 h0 h1
  refine (ran (c_lexiFilters z zk zK zc zA zB zC R _ ds rfl b1 b2 n (wf_u8 wn)) (of_laid hL) (vs := #[.agg cs0, .int .u8 n1]) ⟨rfl, fun i p hi => ?_⟩).mono fun e W' ⟨he, bel⟩ => ?_
  · match i with
    | 0 => simp at hi; subst hi; exact rep0
    | 1 => simp at hi; subst hi; exact rep1
    | n + 2 => simp at hi
  subst he
  exact ⟨_, rfl, _, _, _, [], _, [], hW', trodAll_mk1 (shut_bool Tryz.underlying4 _), (trodAll_cons_mk (Below.trod laidOut (by kernel_rfl) (of_decide_eq_true (by kernel_rfl)) k0 bel lt0) (trodAll_cons_mk (Below.trod laidOut (by kernel_rfl) (of_decide_eq_true (by kernel_rfl)) k1 bel lt1) trodAll_mk0)), rfl, bel.frame _, fun h => by cases h⟩

theorem lexiFilters_k1 : Rows.lexiFiltersRow.wf (OpenSpec.ofChange Rows.lexiFiltersSpec) = true := by kernel_rfl
theorem lexiFilters_k4 : Tryz.f10.params.all (Tryz.prog.readableRec ·) = true := by kernel_rfl
theorem lexiFilters_k5 : namedTie Tryz.prog Rows.lexiFiltersRow.named Rows.lexiFiltersSpec.vars = true := by kernel_rfl
theorem lexiFilters_k10 : (Rows.lexiFiltersRow.inPlace == Tryz.prog.inPlace 10) = true := by kernel_rfl
theorem lexiFilters_k11 : (Rows.lexiFiltersRow.unfollowed == Tryz.prog.unfollowed 10) = true := by kernel_rfl
theorem lexiFilters_k12 : (Rows.lexiFiltersRow.recurses == Tryz.prog.recurses 10) = true := by kernel_rfl
theorem lexiFilters_k13 : (Rows.lexiFiltersRow.named == Tryz.prog.varsNamed 10) = true := by kernel_rfl
theorem lexiFilters_k14 : (Rows.lexiFiltersRow.maps == (Tryz.f10.params.toList ++ Rows.lexiFiltersSpec.plain.varTypes Tryz.prog).any (Tryz.prog.mapsRec ·)) = true := by kernel_rfl
theorem lexiFilters_k15 : (Rows.lexiFiltersRow.ifaces == (Tryz.f10.params.toList ++ Rows.lexiFiltersSpec.plain.varTypes Tryz.prog).any (Tryz.prog.ifacesRec ·)) = true := by kernel_rfl
theorem lexiFilters_k16 : (Rows.lexiFiltersRow.mapsOut == Tryz.prog.mapsAmong Tryz.f10.resultTypes.toList) = true := by kernel_rfl
theorem lexiFilters_k17 : (Rows.lexiFiltersRow.loops == (Tryz.f10.params.toList ++ Rows.lexiFiltersSpec.plain.varTypes Tryz.prog).any (Tryz.prog.loopsFrom ·)) = true := by kernel_rfl
theorem lexiFilters_k17b : (Rows.lexiFiltersRow.wideKeys == (Tryz.f10.params.toList ++ Rows.lexiFiltersSpec.plain.varTypes Tryz.prog ++ Tryz.f10.resultTypes.toList).any (Tryz.prog.wideKeysFrom ·)) = true := by kernel_rfl
theorem lexiFilters_k19 : Tryz.f10.resultTypes.all (fun t => Tryz.prog.readableRec t && decide (t < Tryz.prog.types.size)) = true := by kernel_rfl
theorem lexiFilters_k20 : (Rows.lexiFiltersRow.ifacesOut == Tryz.f10.resultTypes.toList.any (Tryz.prog.ifacesRec ·)) = true := by kernel_rfl
theorem lexiFilters_k21 : (Rows.lexiFiltersRow.loopsOut == Tryz.f10.resultTypes.toList.any (Tryz.prog.loopsFrom ·)) = true := by kernel_rfl
theorem lexiFilters_k27 : (Rows.lexiFiltersRow.veiled == (Tryz.f10.params.toList ++ Rows.lexiFiltersSpec.plain.varTypes Tryz.prog ++ Tryz.f10.resultTypes.toList).any (Tryz.prog.veiledRec ·)) = true := by kernel_rfl
theorem lexiFilters_k28 : Rows.lexiFiltersRow.veiledFits Tryz.prog Tryz.f10.params.toList (Tryz.f10.params.toList ++ Rows.lexiFiltersSpec.plain.varTypes Tryz.prog ++ Tryz.f10.resultTypes.toList) = true := by kernel_rfl
theorem lexiFilters_fnd : Tryz.prog.funcNamed "jigsaw/jigsawlaw21.LexiFilters" = some 10 := by kernel_rfl
theorem lexiFilters_wrp : Tryz.f10.isWrapper Tryz.prog Rows.lexiFiltersRow.wrapper Rows.lexiFiltersRow.mainSum := by unfold Func.isWrapper; first | (rw [if_pos (by decide +kernel)]; kernel_rfl) | (rw [if_neg (by decide +kernel)]; exact ⟨rfl, rfl⟩)
theorem lexiFilters_ins : Tryz.f10.isInstance Tryz.prog Rows.lexiFiltersRow.origin Rows.lexiFiltersRow.targs := of_decide_eq_true (by kernel_rfl)
theorem lexiFilters_wft : Rows.lexiFiltersRow.wfByText (OpenSpec.ofChange Rows.lexiFiltersSpec) = true := by kernel_rfl
theorem lexiFilters_goe : false = Rows.lexiFiltersRow.goesBy Tryz.prog := by kernel_rfl
theorem lexiFilters_std : ([48, 5].all fun u => !Tryz.prog.wantsStandIn u) = true := by kernel_rfl

theorem lexiFilters_over : Rows.LexiFiltersSaid :=
  OpenClaim.holds_of_wide 10 Tryz.f10 rfl rfl rfl rfl rfl rfl rfl ⟨rfl, rfl, rfl, rfl, rfl⟩ rfl rfl rfl rfl rfl lexiFilters_fnd Tryz.func10
    (joined_parts lexiFilters_k1 laidOut w_maps lexiFilters_k4 lexiFilters_k5 rfl w_stops rfl w_knobs lexiFilters_k10 lexiFilters_k11 lexiFilters_k12 lexiFilters_k13 lexiFilters_k14 lexiFilters_k15 lexiFilters_k16 lexiFilters_k17 lexiFilters_k17b rfl lexiFilters_k19 lexiFilters_k20 lexiFilters_k21 w_plain rfl w_heard w_enter w_lifted w_make rfl rfl lexiFilters_k27 lexiFilters_k28)
    lexiFilters_ins lexiFilters_wrp (fun os started H enc _ => lexiFilters_lifted os started H enc)

theorem lexiFilters_holds : Rows.LexiFiltersCardSaid :=
  Claim7.holds_tied_plain_at .later [] [.data] true (true, "cb5e8e4fb6f76fcecce959adce0815f459b36c06e8674393564509c78d966a14") false
    lexiFilters_over (fun _ h => by cases h) lexiFilters_wft (fun _ h => by cases h) lexiFilters_row_tie rfl ⟨rfl, rfl⟩ w_main rfl
    (fun f fn hf hfn => by
      obtain rfl : f = 10 := (Option.some.inj (lexiFilters_fnd.symm.trans hf)).symm
      obtain rfl : fn = Tryz.f10 := (Option.some.inj (Tryz.func10.symm.trans hfn)).symm
      exact ⟨w_looks, fun j t ht => by
        rw [Tryz.params10] at ht
        exact w_stand lexiFilters_std (by simpa using Array.mem_of_getElem? ht)⟩)
    lexiFilters_goe
#print axioms lexiFilters_holds
end Go.Proofs.YtlgoiaembdlemaaGreatDoor
