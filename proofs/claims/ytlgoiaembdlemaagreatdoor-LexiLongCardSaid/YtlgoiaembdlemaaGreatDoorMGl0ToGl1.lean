/- From contracts to given statements: the seat's types; what the listed variable reads as. No condition. -/
import Derived.Test.YtlgoiaembdlemaaGreatDoorRows
import Derived.Test.YtlgoiaembdlemaaGreatDoorEnv
import Derived.Test.YtlgoiaembdlemaaGreatDoorPid
import Derived.WalkKit
import Derived.ProofKit
import Derived.LaidMore
import Derived.OpenShut
import Derived.ShutString
import Derived.ChangeOld
import Derived.Below
import Derived.Stop.Joined
import Derived.SevenTiedAt
set_option linter.unusedSimpArgs false
set_option linter.unusedVariables false

/- From contracts to given statements: the seat's types; what the listed variable reads as. No condition. -/
namespace Go.Proofs.YtlgoiaembdlemaaGreatDoor
open Go.ChangeShapes Go.WideShapes Go.ChangeAt Go.RowKit Go.Pi
set_option linter.unusedVariables false

theorem own : ownKnob Tryz.prog.godebug = none := by kernel_rfl
theorem laidOut : laidOutB Tryz.prog = true := by kernel_rfl

/-! ### The library's table of bits -/
def laidL : List (String × DataW Unit) := [("math/bits.deBruijn64tab", Rows.laid_math_bits_deBruijn64tab)]
theorem gTab : Tryz.prog.globalNamed "math/bits.deBruijn64tab" = some 0 := by kernel_rfl
theorem tTab : (Tryz.prog.globals[0]?).map (·.type) = some 176 := by kernel_rfl
/-- The door's own heap meets the condition. -/
theorem door_met (os : Os) (args : Array Value) : laidMetH Tryz.prog laidL ((World.doorLaid Tryz.prog 14 os).forCall (fun _ _ => 0) ⟨#[], args, []⟩).memory :=
  laidMetH_of_parts3 (fuel := 8) (laidMet_of_run' 8 (by kernel_rfl) (by kernel_rfl)) (by kernel_rfl) (by kernel_rfl)
theorem tab_eq {H : Type} : (Rows.laid_math_bits_deBruijn64tab : DataW H) = .agg (Lib.deBruijn64tab.map fun (k : Nat) => .lit (.int .u8 (k : Int))) := rfl
/-- What the condition gives: the table's cells. -/
theorem of_laid {W : World} (h : laidMetH Tryz.prog laidL W) : Amb W := by
  rw [MakeChecks.laidMetH_plain _ _ _ (by kernel_rfl)] at h
  obtain ⟨ps, ⟨g0, t0, cs0, f0, p0, q0, hg0, ht0, hv0, hd0, _, _⟩, _, _⟩ := h
  obtain rfl := Option.some.inj (gTab.symm.trans hg0)
  obtain rfl := Option.some.inj (tTab.symm.trans ht0)
  obtain ⟨xs, m1, rfl, hx1, hlen, hn3, hel⟩ := DataW.trod_array Tryz.underlying176 hd0
  have c5 : Tryz.prog.cellsOf 5 = 1 := by kernel_rfl
  simp only [Prod.mk.injEq] at hx1
  have hx := hx1.1
  rw [tab_eq] at hx
  have hx := DataW.agg.inj hx
  intro j hj
  have hj64 : j < 64 := hj
  have h0 := hel j hj64
  have hxj : xs[j]? = some xs[j] := List.getElem?_eq_getElem (by omega)
  rw [hxj] at h0
  obtain ⟨k, e1, e2, _⟩ := DataW.trod_int Tryz.underlying5 h0
  have e3 : (xs.map (·.1))[j]? = some (.lit (.int .u8 k)) := by rw [List.getElem?_map, hxj, e2]; rfl
  rw [← hx, List.getElem?_map, List.getElem?_eq_getElem hj] at e3
  simp only [Option.map_some, Option.some.injEq, DataW.lit.injEq, Lit.int.injEq, true_and] at e3
  have hc := World.var?_cell hg0 hv0 j
  rw [hc]
  have e4 : cs0[j]? = some (.int .u8 k) := by
    rw [c5, Nat.mul_one] at e1
    have := congrArg (fun l => l[0]?) e1
    simpa using this
  rw [e4, ← e3]
  simp [List.getD_eq_getElem?_getD, hj]

/-! ### Types -/
theorem shSmall : ShOf Tryz.prog 46 smallSh := by
  refine ShOf.struct _ [[.int .u8], [.slice [.int .u8]], [.slice [.int .u8]], [.slice [.int .i8]], [.int .i16], [.int .u8]] Tryz.underlying46 rfl (by kernel_rfl) (fun i f sh hf hs => ?_) (fun i f sh hf hs => ?_)
  · match i with
    | 0 | 1 | 2 | 3 | 4 | 5 => cases hf; cases hs; exact ⟨by kernel_rfl, rfl⟩
    | n + 6 => cases hs
  · match i with
    | 0 => cases hf; cases hs; exact .int _ Tryz.underlying5
    | 1 => cases hf; cases hs; exact .slice _ _ Tryz.underlying42 (by kernel_rfl) (by decide) (.int _ Tryz.underlying5)
    | 2 => cases hf; cases hs; exact .slice _ _ Tryz.underlying42 (by kernel_rfl) (by decide) (.int _ Tryz.underlying5)
    | 3 => cases hf; cases hs; exact .slice _ _ Tryz.underlying43 (by kernel_rfl) (by decide) (.int _ Tryz.underlying67)
    | 4 => cases hf; cases hs; exact .int _ Tryz.underlying44
    | 5 => cases hf; cases hs; exact .int _ Tryz.underlying5
    | n + 6 => cases hs
theorem shInts : ShOf Tryz.prog 25 [.slice [.int .i64]] := .slice _ _ Tryz.underlying25 (by kernel_rfl) (by decide) (.int _ Tryz.underlying3)
theorem shRows : ShOf Tryz.prog 26 [.slice [.slice [.int .i64]]] := .slice _ _ Tryz.underlying26 (by kernel_rfl) (by decide) shInts
theorem shU8 : ShOf Tryz.prog 5 [.int .u8] := .int _ Tryz.underlying5
theorem shInt : ShOf Tryz.prog 3 [.int .i64] := .int _ Tryz.underlying3
theorem shI8s : ShOf Tryz.prog 43 [.slice [.int .i8]] := .slice _ _ Tryz.underlying43 (by kernel_rfl) (by decide) (.int _ Tryz.underlying67)
theorem shU8s : ShOf Tryz.prog 42 [.slice [.int .u8]] := .slice _ _ Tryz.underlying42 (by kernel_rfl) (by decide) (.int _ Tryz.underlying5)
def caseSh : List Sh := [.int .u8, .slice [.int .u8], .slice [.int .u8], .slice [.int .i8], .int .i16, .int .u8, .slice [.slice [.int .i64]]]
theorem shCase : ShOf Tryz.prog 48 caseSh := by
  refine ShOf.struct _ [smallSh, [.slice [.slice [.int .i64]]]] Tryz.underlying48 rfl (by kernel_rfl) (fun i f sh hf hs => ?_) (fun i f sh hf hs => ?_)
  · match i with
    | 0 | 1 => cases hf; cases hs; exact ⟨by kernel_rfl, rfl⟩
    | n + 2 => cases hs
  · match i with
    | 0 => cases hf; cases hs; exact shSmall
    | 1 => cases hf; cases hs; exact shRows
    | n + 2 => cases hs
def conSh : List Sh := [.int .i64, .slice [.int .i64], .slice [.int .i64], .slice [.int .i64], .slice [.int .i64], .slice [.int .i64], .int .i64, .slice [.slice [.int .i64]]]
theorem shCon : ShOf Tryz.prog 28 conSh := by
  refine ShOf.struct _ [[.int .i64], [.slice [.int .i64]], [.slice [.int .i64]], [.slice [.int .i64]], [.slice [.int .i64]], [.slice [.int .i64]], [.int .i64], [.slice [.slice [.int .i64]]]] Tryz.underlying28 rfl (by kernel_rfl) (fun i f sh hf hs => ?_) (fun i f sh hf hs => ?_)
  · match i with
    | 0 | 1 | 2 | 3 | 4 | 5 | 6 | 7 => cases hf; cases hs; exact ⟨by kernel_rfl, rfl⟩
    | n + 8 => cases hs
  · match i with
    | 0 => cases hf; cases hs; exact shInt
    | 1 => cases hf; cases hs; exact shInts
    | 2 => cases hf; cases hs; exact shInts
    | 3 => cases hf; cases hs; exact shInts
    | 4 => cases hf; cases hs; exact shInts
    | 5 => cases hf; cases hs; exact shInts
    | 6 => cases hf; cases hs; exact shInt
    | 7 => cases hf; cases hs; exact shRows
    | n + 8 => cases hs

/-! ### Plain data out of typed ones -/
def intOK (x : Int) : Prop := -9223372036854775808 ≤ x ∧ x ≤ 9223372036854775807
theorem typed_rows {p : PV} (h : Typed (.slice [.slice [.int .i64]]) p) : ∃ L : List (List Int), p = .list 1 (rowsOf L) ∧ L.length ≤ 9223372036854775807 ∧ (∀ l ∈ L, l.length ≤ 9223372036854775807) ∧ ∀ l ∈ L, ∀ x ∈ l, intOK x := by
  have e9 : (9223372036854775807 : Nat) = maxLen := rfl
  cases h with
  | slice row xs hl hr ht =>
    have each : ∀ r ∈ xs, ∃ l : List Int, r = [PV.list 1 (ints l)] ∧ l.length ≤ 9223372036854775807 ∧ ∀ x ∈ l, intOK x := fun r hr' => by
      have h1 := hr r hr'
      match r, h1 with
      | [q], _ =>
        have := ht _ hr' 0 _ q rfl rfl
        obtain ⟨l, rfl, hb, hw⟩ := typed_list this
        exact ⟨l, rfl, by rw [e9]; exact hb, fun x hx => wf_i64 (hw x hx)⟩
    have go : ∀ ys : List (List PV), (∀ r ∈ ys, ∃ l : List Int, r = [PV.list 1 (ints l)] ∧ l.length ≤ 9223372036854775807 ∧ ∀ x ∈ l, intOK x) → ∃ L : List (List Int), ys = rowsOf L ∧ (∀ l ∈ L, l.length ≤ 9223372036854775807) ∧ ∀ l ∈ L, ∀ x ∈ l, intOK x := by
      intro ys
      induction ys with
      | nil => intro _; exact ⟨[], rfl, by simp, by simp⟩
      | cons y r ih =>
        intro h
        obtain ⟨l, rfl, hb, hw⟩ := h y (by simp)
        obtain ⟨L, hL, h1, h2⟩ := ih fun r hr => h r (by simp [hr])
        refine ⟨l :: L, by simp [hL, rowsOf], fun u hu => ?_, fun u hu => ?_⟩
        · rcases List.mem_cons.1 hu with rfl | hu
          · exact hb
          · exact h1 u hu
        · rcases List.mem_cons.1 hu with rfl | hu
          · exact hw
          · exact h2 u hu
    obtain ⟨L, rfl, h1, h2⟩ := go xs each
    exact ⟨L, rfl, by rw [e9]; simpa using hl, h1, h2⟩
theorem typed_case {qs : List PV} (hl : qs.length = caseSh.length) (h : ∀ (i : Nat) p sh, qs[i]? = some p → caseSh[i]? = some sh → Typed sh p) :
    ∃ (z : Small) (zk zK zc : Int) (zA zB zC : List (List PV)) (ds : List (List Int)), SmallR z zk zA zB zC zK zc ∧ ds.length ≤ 9223372036854775807 ∧ (∀ l ∈ ds, l.length ≤ 9223372036854775807) ∧ (∀ l ∈ ds, ∀ x ∈ l, intOK x) ∧ qs = [U8 zk, .list 1 zA, .list 1 zB, .list 1 zC, I16 zK, U8 zc, .list 1 (rowsOf ds)] := by
  match qs, hl with
  | [q0, q1, q2, q3, q4, q5, q6], _ =>
    obtain ⟨z, zk, zK, zc, zA, zB, zC, R, e⟩ := typed_small (qs := [q0, q1, q2, q3, q4, q5]) rfl fun i p sh hi hs => by
      have hlt : i < 6 := by have := (List.getElem?_eq_some_iff.1 hi).1; simpa using this
      match i, hlt with
      | 0, _ => exact h 0 p sh hi hs
      | 1, _ => exact h 1 p sh hi hs
      | 2, _ => exact h 2 p sh hi hs
      | 3, _ => exact h 3 p sh hi hs
      | 4, _ => exact h 4 p sh hi hs
      | 5, _ => exact h 5 p sh hi hs
    obtain ⟨ds, rfl, h1, h2, h3⟩ := typed_rows (h 6 _ _ rfl rfl)
    simp only [List.cons.injEq, and_true] at e
    obtain ⟨rfl, rfl, rfl, rfl, rfl, rfl⟩ := e
    exact ⟨z, zk, zK, zc, zA, zB, zC, ds, R, h1, h2, h3, rfl⟩
theorem typed_con {qs : List PV} (hl : qs.length = conSh.length) (h : ∀ (i : Nat) p sh, qs[i]? = some p → conSh[i]? = some sh → Typed sh p) :
    ∃ (k K : Int) (A Bl C' D E : List Int) (R : List (List Int)), (A.length ≤ 9223372036854775807 ∧ Bl.length ≤ 9223372036854775807 ∧ C'.length ≤ 9223372036854775807 ∧ D.length ≤ 9223372036854775807 ∧ E.length ≤ 9223372036854775807) ∧
      (intOK k ∧ intOK K) ∧ qs = [I k, .list 1 (ints A), .list 1 (ints Bl), .list 1 (ints C'), .list 1 (ints D), .list 1 (ints E), I K, .list 1 (rowsOf R)] := by
  match qs, hl with
  | [q0, q1, q2, q3, q4, q5, q6, q7], _ =>
    obtain ⟨n0, rfl, w0⟩ := typed_int (h 0 _ _ rfl rfl)
    obtain ⟨l1, rfl, b1, w1⟩ := typed_list (h 1 _ _ rfl rfl)
    obtain ⟨l2, rfl, b2, w2⟩ := typed_list (h 2 _ _ rfl rfl)
    obtain ⟨l3, rfl, b3, w3⟩ := typed_list (h 3 _ _ rfl rfl)
    obtain ⟨l4, rfl, b4, w4⟩ := typed_list (h 4 _ _ rfl rfl)
    obtain ⟨l5, rfl, b5, w5⟩ := typed_list (h 5 _ _ rfl rfl)
    obtain ⟨n6, rfl, w6⟩ := typed_int (h 6 _ _ rfl rfl)
    obtain ⟨R, rfl, _, _, _⟩ := typed_rows (h 7 _ _ rfl rfl)
    have e9 : (9223372036854775807 : Nat) = maxLen := rfl
    rw [e9]
    exact ⟨n0, n6, l1, l2, l3, l4, l5, R, ⟨b1, b2, b3, b4, b5⟩, ⟨wf_i64 w0, wf_i64 w6⟩, rfl⟩

/-- From a contract to what a call does: true comes back, nothing that was there is written. -/
theorem ran {f : FuncId} {args : List PV} (h : Pi.Call .plain f args (B true)) {W : World} (hA : Amb W) {vs : Array Value} (hr : RepSL (fun b => b < W.heap.size) W vs args) :
    Calls Tryz.prog f vs W fun e W' => e = .returned (.bool true) ∧ Below W.heap.size W W' :=
  (h.2 (fun b => b < W.heap.size) W vs hA (fun _ h => h) hr).mono fun e W' ⟨v, he, hx, hv⟩ => by
    cases hv
    exact ⟨he, below_of hx⟩
end Go.Proofs.YtlgoiaembdlemaaGreatDoor

/- What a row asks of the whole program, each as a theorem of its own: one check of them all together is more than the kernel's memory. No condition. -/
namespace Go.Proofs.YtlgoiaembdlemaaGreatDoor
open Go.ChangeShapes Go.WideShapes Go.ChangeAt Go.RowKit Go.Pi

theorem w_maps : mapsRowed Tryz.prog = true := by kernel_rfl
theorem w_stops : (Tryz.prog.stops == []) = true := by kernel_rfl
theorem w_knobs : (Tryz.prog.stopKnobs == []) = true := by kernel_rfl
theorem w_heard : Tryz.prog.stopsHeard = true := by kernel_rfl
theorem w_enter : Tryz.prog.mayEnter = true := by kernel_rfl
theorem w_plain : (Rows.lexiFiltersRow.plainKeys == Tryz.prog.plainKeys) = true := by kernel_rfl
theorem w_lifted : (Rows.lexiFiltersRow.lifted == Tryz.prog.liftsFinal) = true := by kernel_rfl
theorem w_make : (Tryz.prog.make == some Rows.lexiFiltersRow.make) = true := by kernel_rfl
theorem w_main : Tryz.prog.mainIs = some (true, "cb5e8e4fb6f76fcecce959adce0815f459b36c06e8674393564509c78d966a14".toList) := by kernel_rfl
theorem w_looks : false = Tryz.prog.looks [] := by kernel_rfl
theorem w_stand {t : TypeId} {l : List TypeId} (h : (l.all fun u => !Tryz.prog.wantsStandIn u) = true) (hm : t ∈ l) : Tryz.prog.wantsStandIn t = false := by simpa using List.all_eq_true.1 h t hm

end Go.Proofs.YtlgoiaembdlemaaGreatDoor
