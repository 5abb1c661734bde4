/- jigsawlaw21.LexiLong returns true, whatever the input is; the input reads as it did; the library's table of bits is as the program's text lays it (tied). No other condition. -/
import Derived.Test.YtlgoiaembdlemaaGreatDoorMGl0ToGl1
import Derived.Test.YtlgoiaembdlemaaGreatDoorGl2
import Derived.Test.YtlgoiaembdlemaaGreatDoorLx7
import Derived.Test.YtlgoiaembdlemaaGreatDoorCards
import Derived.Test.YtlgoiaembdlemaaGreatDoorTie
set_option linter.unusedSimpArgs false
set_option linter.unusedVariables false
namespace Go.Proofs.YtlgoiaembdlemaaGreatDoor
open Go.ChangeShapes Go.WideShapes Go.ChangeAt Go.RowKit Go.Pi
set_option linter.unusedVariables false

set_option maxRecDepth 100000 in
theorem lexiLong_lifted (os : Os) (started : os.Started) (H : Type) (enc : TypeId × Value → H) :
    ReturnsInHanded {} Tryz.checked os 14 .any (fun w args => (Rows.lexiLongSpec.pre enc Tryz.prog Tryz.f14 [] false w args ∧ laidMetH Tryz.prog laidL w) ∧ sizedMet enc Tryz.prog Tryz.f14 (OpenSpec.ofChange Rows.lexiLongSpec) false w args)
      (Rows.lexiLongSpec.post enc Tryz.prog Tryz.f14 false true false false) := by
  refine returnsInHanded_of_change_and (C := Tryz.checked) (X := fun w _ => laidMetH Tryz.prog laidL w) (fun _ _ _ hh h => h.of_heap hh) own started (by kernel_rfl) Tryz.func14
    (ChangeSpec.witness_shaped (enc := enc) (C := Tryz.checked) (os := os) (X := fun w _ => laidMetH Tryz.prog laidL w) false (World.doorLaid Tryz.prog 14 os) #[.agg #[.int .u8 0, .int .u8 0, .slice none 0 0, .slice none 0 0]] 8 rfl (World.shaped_of_RefB (by kernel_rfl) (by kernel_rfl)) (by kernel_rfl) (by kernel_rfl) (by kernel_rfl) (door_met os _)) ?_
  intro W base args ds0 gs before hval0 hW _ _ hL _
  have hval : ∀ (j : Nat) t v, Tryz.f14.params[j]? = some t → args[j]? = some v → Value.okWide Tryz.prog W .any base t v := hval0
  have hW' := hW
  obtain ⟨p, q, hA0, hV, rfl, hfz, hnd⟩ := hW
  have hA : DataW.TrodAll enc Tryz.prog W 0 (fun _ => true) true Tryz.f14.params.toList args.toList ds0 p := hA0
  rw [Tryz.params14] at hA hval
  obtain ⟨v0, vs0, e0, es0, p0, q0, hargs, rfl, rfl, h0, r0⟩ := trodAll_cons hA
  obtain ⟨rfl, rfl, rfl⟩ := trodAll_nil r0
  obtain rfl : args = #[v0] := by cases args; simp_all
  obtain ⟨rfl, rfl⟩ := trodVars_none hV
  have hv0 := hval 0 87 v0 rfl rfl
  unfold Value.okWide at hv0
  rw [Tryz.underlying87] at hv0
  obtain ⟨cs0, rfl, _, _⟩ := hv0
  have k0 := h0
  have lt0 : ∀ x ∈ p0, x.block < W.heap.size := by obtain ⟨m, hm⟩ := k0; exact DataW.trod_lt m _ _ _ hm
  obtain ⟨qs0, rep0, len0, ty0⟩ := read_agg shLong h0
  obtain ⟨tN, tA, tX, tY, g1, g2, g3, g4, g5, g6, rfl⟩ := typed_long len0 ty0
  clear hA0 hval0 h0
  refine (ran (c_lexiLong tN tA tX tY g1 g2 g3 g4 g5 g6) (of_laid hL) (vs := #[.agg cs0]) ⟨rfl, fun i p hi => ?_⟩).mono fun e W' ⟨he, bel⟩ => ?_
  · match i with
    | 0 => simp at hi; subst hi; exact rep0
    | n + 1 => simp at hi
  subst he
  exact ⟨_, rfl, _, _, _, [], _, [], hW', trodAll_mk1 (shut_bool Tryz.underlying4 _), (trodAll_cons_mk (Below.trod laidOut (by kernel_rfl) (of_decide_eq_true (by kernel_rfl)) k0 bel lt0) trodAll_mk0), rfl, bel.frame _, fun h => by cases h⟩

theorem lexiLong_k1 : Rows.lexiLongRow.wf (OpenSpec.ofChange Rows.lexiLongSpec) = true := by kernel_rfl
theorem lexiLong_k4 : Tryz.f14.params.all (Tryz.prog.readableRec ·) = true := by kernel_rfl
theorem lexiLong_k5 : namedTie Tryz.prog Rows.lexiLongRow.named Rows.lexiLongSpec.vars = true := by kernel_rfl
theorem lexiLong_k10 : (Rows.lexiLongRow.inPlace == Tryz.prog.inPlace 14) = true := by kernel_rfl
theorem lexiLong_k11 : (Rows.lexiLongRow.unfollowed == Tryz.prog.unfollowed 14) = true := by kernel_rfl
theorem lexiLong_k12 : (Rows.lexiLongRow.recurses == Tryz.prog.recurses 14) = true := by kernel_rfl
theorem lexiLong_k13 : (Rows.lexiLongRow.named == Tryz.prog.varsNamed 14) = true := by kernel_rfl
theorem lexiLong_k14 : (Rows.lexiLongRow.maps == (Tryz.f14.params.toList ++ Rows.lexiLongSpec.plain.varTypes Tryz.prog).any (Tryz.prog.mapsRec ·)) = true := by kernel_rfl
theorem lexiLong_k15 : (Rows.lexiLongRow.ifaces == (Tryz.f14.params.toList ++ Rows.lexiLongSpec.plain.varTypes Tryz.prog).any (Tryz.prog.ifacesRec ·)) = true := by kernel_rfl
theorem lexiLong_k16 : (Rows.lexiLongRow.mapsOut == Tryz.prog.mapsAmong Tryz.f14.resultTypes.toList) = true := by kernel_rfl
theorem lexiLong_k17 : (Rows.lexiLongRow.loops == (Tryz.f14.params.toList ++ Rows.lexiLongSpec.plain.varTypes Tryz.prog).any (Tryz.prog.loopsFrom ·)) = true := by kernel_rfl
theorem lexiLong_k17b : (Rows.lexiLongRow.wideKeys == (Tryz.f14.params.toList ++ Rows.lexiLongSpec.plain.varTypes Tryz.prog ++ Tryz.f14.resultTypes.toList).any (Tryz.prog.wideKeysFrom ·)) = true := by kernel_rfl
theorem lexiLong_k19 : Tryz.f14.resultTypes.all (fun t => Tryz.prog.readableRec t && decide (t < Tryz.prog.types.size)) = true := by kernel_rfl
theorem lexiLong_k20 : (Rows.lexiLongRow.ifacesOut == Tryz.f14.resultTypes.toList.any (Tryz.prog.ifacesRec ·)) = true := by kernel_rfl
theorem lexiLong_k21 : (Rows.lexiLongRow.loopsOut == Tryz.f14.resultTypes.toList.any (Tryz.prog.loopsFrom ·)) = true := by kernel_rfl
theorem lexiLong_k27 : (Rows.lexiLongRow.veiled == (Tryz.f14.params.toList ++ Rows.lexiLongSpec.plain.varTypes Tryz.prog ++ Tryz.f14.resultTypes.toList).any (Tryz.prog.veiledRec ·)) = true := by kernel_rfl
theorem lexiLong_k28 : Rows.lexiLongRow.veiledFits Tryz.prog Tryz.f14.params.toList (Tryz.f14.params.toList ++ Rows.lexiLongSpec.plain.varTypes Tryz.prog ++ Tryz.f14.resultTypes.toList) = true := by kernel_rfl
theorem lexiLong_fnd : Tryz.prog.funcNamed "jigsaw/jigsawlaw21.LexiLong" = some 14 := by kernel_rfl
theorem lexiLong_wrp : Tryz.f14.isWrapper Tryz.prog Rows.lexiLongRow.wrapper Rows.lexiLongRow.mainSum := by unfold Func.isWrapper; first | (rw [if_pos (by decide +kernel)]; kernel_rfl) | (rw [if_neg (by decide +kernel)]; exact ⟨rfl, rfl⟩)
theorem lexiLong_ins : Tryz.f14.isInstance Tryz.prog Rows.lexiLongRow.origin Rows.lexiLongRow.targs := of_decide_eq_true (by kernel_rfl)
theorem lexiLong_wft : Rows.lexiLongRow.wfByText (OpenSpec.ofChange Rows.lexiLongSpec) = true := by kernel_rfl
theorem lexiLong_goe : false = Rows.lexiLongRow.goesBy Tryz.prog := by kernel_rfl
theorem lexiLong_std : ([87].all fun u => !Tryz.prog.wantsStandIn u) = true := by kernel_rfl

theorem lexiLong_over : Rows.LexiLongSaid :=
  OpenClaim.holds_of_wide 14 Tryz.f14 rfl rfl rfl rfl rfl rfl rfl ⟨rfl, rfl, rfl, rfl, rfl⟩ rfl rfl rfl rfl rfl lexiLong_fnd Tryz.func14
    (joined_parts lexiLong_k1 laidOut w_maps lexiLong_k4 lexiLong_k5 rfl w_stops rfl w_knobs lexiLong_k10 lexiLong_k11 lexiLong_k12 lexiLong_k13 lexiLong_k14 lexiLong_k15 lexiLong_k16 lexiLong_k17 lexiLong_k17b rfl lexiLong_k19 lexiLong_k20 lexiLong_k21 w_plain rfl w_heard w_enter w_lifted w_make rfl rfl lexiLong_k27 lexiLong_k28)
    lexiLong_ins lexiLong_wrp (fun os started H enc _ => lexiLong_lifted os started H enc)

theorem lexiLong_holds : Rows.LexiLongCardSaid :=
  Claim7.holds_tied_plain_at .later [] [.data] true (true, "cb5e8e4fb6f76fcecce959adce0815f459b36c06e8674393564509c78d966a14") false
    lexiLong_over (fun _ h => by cases h) lexiLong_wft (fun _ h => by cases h) lexiLong_row_tie rfl ⟨rfl, rfl⟩ w_main rfl
    (fun f fn hf hfn => by
      obtain rfl : f = 14 := (Option.some.inj (lexiLong_fnd.symm.trans hf)).symm
      obtain rfl : fn = Tryz.f14 := (Option.some.inj (Tryz.func14.symm.trans hfn)).symm
      exact ⟨w_looks, fun j t ht => by
        rw [Tryz.params14] at ht
        exact w_stand lexiLong_std (by simpa using Array.mem_of_getElem? ht)⟩)
    lexiLong_goe
#print axioms lexiLong_holds
end Go.Proofs.YtlgoiaembdlemaaGreatDoor
