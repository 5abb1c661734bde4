/- jigsawlaw21.LexiKeeps returns true, whatever the input is; the input reads as it did; the library's table of bits is as the program's text lays it (tied). No other condition. -/
import Derived.Test.YtlgoiaembdlemaaGreatDoorMGl0ToGl1
import Derived.Test.YtlgoiaembdlemaaGreatDoorLx5
import Derived.Test.YtlgoiaembdlemaaGreatDoorCards
import Derived.Test.YtlgoiaembdlemaaGreatDoorTie
set_option linter.unusedSimpArgs false
set_option linter.unusedVariables false
namespace Go.Proofs.YtlgoiaembdlemaaGreatDoor
open Go.ChangeShapes Go.WideShapes Go.ChangeAt Go.RowKit Go.Pi
set_option linter.unusedVariables false

set_option maxRecDepth 100000 in
theorem lexiKeeps_lifted (os : Os) (started : os.Started) (H : Type) (enc : TypeId × Value → H) :
    ReturnsInHanded {} Tryz.checked os 13 .any (fun w args => (Rows.lexiKeepsSpec.pre enc Tryz.prog Tryz.f13 [] false w args ∧ laidMetH Tryz.prog laidL w) ∧ sizedMet enc Tryz.prog Tryz.f13 (OpenSpec.ofChange Rows.lexiKeepsSpec) false w args)
      (Rows.lexiKeepsSpec.post enc Tryz.prog Tryz.f13 false true false false) := by
  refine returnsInHanded_of_change_and (C := Tryz.checked) (X := fun w _ => laidMetH Tryz.prog laidL w) (fun _ _ _ hh h => h.of_heap hh) own started (by kernel_rfl) Tryz.func13
    (ChangeSpec.witness_shaped (enc := enc) (C := Tryz.checked) (os := os) (X := fun w _ => laidMetH Tryz.prog laidL w) false (World.doorLaid Tryz.prog 14 os) #[.agg #[.int .u8 0, .slice none 0 0, .slice none 0 0, .slice none 0 0, .int .i16 0, .int .u8 0, .slice none 0 0], .int .u8 0] 8 rfl (World.shaped_of_RefB (by kernel_rfl) (by kernel_rfl)) (by kernel_rfl) (by kernel_rfl) (by kernel_rfl) (door_met os _)) ?_
  intro W base args ds0 gs before hval0 hW _ _ hL _
  have hval : ∀ (j : Nat) t v, Tryz.f13.params[j]? = some t → args[j]? = some v → Value.okWide Tryz.prog W .any base t v := hval0
  have hW' := hW
  obtain ⟨p, q, hA0, hV, rfl, hfz, hnd⟩ := hW
  have hA : DataW.TrodAll enc Tryz.prog W 0 (fun _ => true) true Tryz.f13.params.toList args.toList ds0 p := hA0
  rw [Tryz.params13] at hA hval
  obtain ⟨v0, vs0, e0, es0, p0, q0, hargs, rfl, rfl, h0, r0⟩ := trodAll_cons hA
  obtain ⟨v1, vs1, e1, es1, p1, q1, rfl, rfl, rfl, h1, r1⟩ := trodAll_cons r0
  obtain ⟨rfl, rfl, rfl⟩ := trodAll_nil r1
  obtain rfl : args = #[v0, v1] := by cases args; simp_all
  obtain ⟨rfl, rfl⟩ := trodVars_none hV
  have hv0 := hval 0 48 v0 rfl rfl
  unfold Value.okWide at hv0
  rw [Tryz.underlying48] at hv0
  obtain ⟨cs0, rfl, _, _⟩ := hv0
  obtain ⟨n1, rfl⟩ := okWide_int Tryz.underlying5 (hval 1 5 v1 rfl rfl)
  have k0 := h0
  have lt0 : ∀ x ∈ p0, x.block < W.heap.size := by obtain ⟨m, hm⟩ := k0; exact DataW.trod_lt m _ _ _ hm
  have k1 := h1
  have lt1 : ∀ x ∈ p1, x.block < W.heap.size := by obtain ⟨m, hm⟩ := k1; exact DataW.trod_lt m _ _ _ hm
  obtain ⟨qs0, rep0, len0, ty0⟩ := read_agg shCase h0
  obtain ⟨z, zk, zK, zc, zA, zB, zC, ds, R, b1, b2, b3, rfl⟩ := typed_case len0 ty0
  obtain ⟨pv1, rep1, ty1⟩ := read_one shU8 rfl h1
  obtain ⟨n, rfl, wn⟩ := typed_int ty1
  clear hA0 hval0 h0 h1
  refine (ran (c_lexiKeeps z zk zK zc zA zB zC R _ ds rfl b1 b2 n (wf_u8 wn)) (of_laid hL) (vs := #[.agg cs0, .int .u8 n1]) ⟨rfl, fun i p hi => ?_⟩).mono fun e W' ⟨he, bel⟩ => ?_
  · match i with
    | 0 => simp at hi; subst hi; exact rep0
    | 1 => simp at hi; subst hi; exact rep1
    | n + 2 => simp at hi
  subst he
  exact ⟨_, rfl, _, _, _, [], _, [], hW', trodAll_mk1 (shut_bool Tryz.underlying4 _), (trodAll_cons_mk (Below.trod laidOut (by kernel_rfl) (of_decide_eq_true (by kernel_rfl)) k0 bel lt0) (trodAll_cons_mk (Below.trod laidOut (by kernel_rfl) (of_decide_eq_true (by kernel_rfl)) k1 bel lt1) trodAll_mk0)), rfl, bel.frame _, fun h => by cases h⟩

theorem lexiKeeps_k1 : Rows.lexiKeepsRow.wf (OpenSpec.ofChange Rows.lexiKeepsSpec) = true := by kernel_rfl
theorem lexiKeeps_k4 : Tryz.f13.params.all (Tryz.prog.readableRec ·) = true := by kernel_rfl
theorem lexiKeeps_k5 : namedTie Tryz.prog Rows.lexiKeepsRow.named Rows.lexiKeepsSpec.vars = true := by kernel_rfl
theorem lexiKeeps_k10 : (Rows.lexiKeepsRow.inPlace == Tryz.prog.inPlace 13) = true := by kernel_rfl
theorem lexiKeeps_k11 : (Rows.lexiKeepsRow.unfollowed == Tryz.prog.unfollowed 13) = true := by kernel_rfl
theorem lexiKeeps_k12 : (Rows.lexiKeepsRow.recurses == Tryz.prog.recurses 13) = true := by kernel_rfl
theorem lexiKeeps_k13 : (Rows.lexiKeepsRow.named == Tryz.prog.varsNamed 13) = true := by kernel_rfl
theorem lexiKeeps_k14 : (Rows.lexiKeepsRow.maps == (Tryz.f13.params.toList ++ Rows.lexiKeepsSpec.plain.varTypes Tryz.prog).any (Tryz.prog.mapsRec ·)) = true := by kernel_rfl
theorem lexiKeeps_k15 : (Rows.lexiKeepsRow.ifaces == (Tryz.f13.params.toList ++ Rows.lexiKeepsSpec.plain.varTypes Tryz.prog).any (Tryz.prog.ifacesRec ·)) = true := by kernel_rfl
theorem lexiKeeps_k16 : (Rows.lexiKeepsRow.mapsOut == Tryz.prog.mapsAmong Tryz.f13.resultTypes.toList) = true := by kernel_rfl
theorem lexiKeeps_k17 : (Rows.lexiKeepsRow.loops == (Tryz.f13.params.toList ++ Rows.lexiKeepsSpec.plain.varTypes Tryz.prog).any (Tryz.prog.loopsFrom ·)) = true := by kernel_rfl
theorem lexiKeeps_k17b : (Rows.lexiKeepsRow.wideKeys == (Tryz.f13.params.toList ++ Rows.lexiKeepsSpec.plain.varTypes Tryz.prog ++ Tryz.f13.resultTypes.toList).any (Tryz.prog.wideKeysFrom ·)) = true := by kernel_rfl
theorem lexiKeeps_k19 : Tryz.f13.resultTypes.all (fun t => Tryz.prog.readableRec t && decide (t < Tryz.prog.types.size)) = true := by kernel_rfl
theorem lexiKeeps_k20 : (Rows.lexiKeepsRow.ifacesOut == Tryz.f13.resultTypes.toList.any (Tryz.prog.ifacesRec ·)) = true := by kernel_rfl
theorem lexiKeeps_k21 : (Rows.lexiKeepsRow.loopsOut == Tryz.f13.resultTypes.toList.any (Tryz.prog.loopsFrom ·)) = true := by kernel_rfl
theorem lexiKeeps_k27 : (Rows.lexiKeepsRow.veiled == (Tryz.f13.params.toList ++ Rows.lexiKeepsSpec.plain.varTypes Tryz.prog ++ Tryz.f13.resultTypes.toList).any (Tryz.prog.veiledRec ·)) = true := by kernel_rfl
theorem lexiKeeps_k28 : Rows.lexiKeepsRow.veiledFits Tryz.prog Tryz.f13.params.toList (Tryz.f13.params.toList ++ Rows.lexiKeepsSpec.plain.varTypes Tryz.prog ++ Tryz.f13.resultTypes.toList) = true := by kernel_rfl
theorem lexiKeeps_fnd : Tryz.prog.funcNamed "jigsaw/jigsawlaw21.LexiKeeps" = some 13 := by kernel_rfl
theorem lexiKeeps_wrp : Tryz.f13.isWrapper Tryz.prog Rows.lexiKeepsRow.wrapper Rows.lexiKeepsRow.mainSum := by unfold Func.isWrapper; first | (rw [if_pos (by decide +kernel)]; kernel_rfl) | (rw [if_neg (by decide +kernel)]; exact ⟨rfl, rfl⟩)
theorem lexiKeeps_ins : Tryz.f13.isInstance Tryz.prog Rows.lexiKeepsRow.origin Rows.lexiKeepsRow.targs := of_decide_eq_true (by kernel_rfl)
theorem lexiKeeps_wft : Rows.lexiKeepsRow.wfByText (OpenSpec.ofChange Rows.lexiKeepsSpec) = true := by kernel_rfl
theorem lexiKeeps_goe : false = Rows.lexiKeepsRow.goesBy Tryz.prog := by kernel_rfl
theorem lexiKeeps_std : ([48, 5].all fun u => !Tryz.prog.wantsStandIn u) = true := by kernel_rfl

theorem lexiKeeps_over : Rows.LexiKeepsSaid :=
  OpenClaim.holds_of_wide 13 Tryz.f13 rfl rfl rfl rfl rfl rfl rfl ⟨rfl, rfl, rfl, rfl, rfl⟩ rfl rfl rfl rfl rfl lexiKeeps_fnd Tryz.func13
    (joined_parts lexiKeeps_k1 laidOut w_maps lexiKeeps_k4 lexiKeeps_k5 rfl w_stops rfl w_knobs lexiKeeps_k10 lexiKeeps_k11 lexiKeeps_k12 lexiKeeps_k13 lexiKeeps_k14 lexiKeeps_k15 lexiKeeps_k16 lexiKeeps_k17 lexiKeeps_k17b rfl lexiKeeps_k19 lexiKeeps_k20 lexiKeeps_k21 w_plain rfl w_heard w_enter w_lifted w_make rfl rfl lexiKeeps_k27 lexiKeeps_k28)
    lexiKeeps_ins lexiKeeps_wrp (fun os started H enc _ => lexiKeeps_lifted os started H enc)

theorem lexiKeeps_holds : Rows.LexiKeepsCardSaid :=
  Claim7.holds_tied_plain_at .later [] [.data] true (true, "cb5e8e4fb6f76fcecce959adce0815f459b36c06e8674393564509c78d966a14") false
    lexiKeeps_over (fun _ h => by cases h) lexiKeeps_wft (fun _ h => by cases h) lexiKeeps_row_tie rfl ⟨rfl, rfl⟩ w_main rfl
    (fun f fn hf hfn => by
      obtain rfl : f = 13 := (Option.some.inj (lexiKeeps_fnd.symm.trans hf)).symm
      obtain rfl : fn = Tryz.f13 := (Option.some.inj (Tryz.func13.symm.trans hfn)).symm
      exact ⟨w_looks, fun j t ht => by
        rw [Tryz.params13] at ht
        exact w_stand lexiKeeps_std (by simpa using Array.mem_of_getElem? ht)⟩)
    lexiKeeps_goe
#print axioms lexiKeeps_holds
end Go.Proofs.YtlgoiaembdlemaaGreatDoor
