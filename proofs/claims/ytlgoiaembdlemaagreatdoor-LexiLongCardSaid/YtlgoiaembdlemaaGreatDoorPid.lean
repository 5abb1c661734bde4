/- A verified evaluator of Go's code over plain values, part 4. No condition. -/
import Derived.Test.YtlgoiaembdlemaaGreatDoorPic
import Derived.Deep.Slices
import Derived.Below
import Derived.JoinedOf
import Derived.Lib.BitFns
import Derived.Lib.TrailingZeros
import Derived.Laws.Bits64b
import Derived.Shelf.Sort.Plain
import Derived.Shelf.Slices.In.SortNone
import Derived.Shelf.Slices.CompactI
import Derived.Sort.OwnSorted
set_option linter.unusedSimpArgs false
set_option linter.unusedVariables false

/- What comes in, as a row reads it, shows structural values of its type. -/
namespace Go.Pi
open Go Go.Deep

/-- What a cell of a type shows. -/
inductive Sh where
  | int (k : IntKind)
  | bool
  | str
  | slice (row : List Sh)
inductive Typed : Sh → PV → Prop
  | int (k : IntKind) (n : Int) (h : (Lit.int k n).wf = true) : Typed (.int k) (.v (.int k n))
  | bool (b : Bool) : Typed .bool (.v (.bool b))
  | str (s : ByteArray) (h : s.size ≤ maxLen) : Typed .str (.v (.string s))
  | slice (row : List Sh) (xs : List (List PV)) (hl : xs.length ≤ maxLen) (hr : ∀ r ∈ xs, r.length = row.length)
      (h : ∀ r ∈ xs, ∀ (i : Nat) sh p, row[i]? = some sh → r[i]? = some p → Typed sh p) : Typed (.slice row) (.list row.length xs)
inductive ShOf (P : Program) : TypeId → List Sh → Prop
  | int {t : TypeId} (k : IntKind) (h : P.underlying t = some (.int k)) : ShOf P t [.int k]
  | bool {t : TypeId} (h : P.underlying t = some .bool) : ShOf P t [.bool]
  | str {t : TypeId} (h : P.underlying t = some .string) : ShOf P t [.str]
  | slice {t : TypeId} (e : TypeId) (row : List Sh) (h : P.underlying t = some (.slice e)) (hc : P.cellsOf e = row.length) (hp : 0 < row.length) (he : ShOf P e row) : ShOf P t [.slice row]
  | struct {t : TypeId} (fs : Array Field) (parts : List (List Sh)) (h : P.underlying t = some (.struct fs)) (hl : parts.length = fs.size) (hc : P.cellsOf t = parts.flatten.length)
      (hp : ∀ (i : Nat) f sh, fs[i]? = some f → parts[i]? = some sh → P.cellsOf f.type = sh.length ∧ f.offset = (parts.take i).flatten.length)
      (hs : ∀ (i : Nat) f sh, fs[i]? = some f → parts[i]? = some sh → ShOf P f.type sh) : ShOf P t parts.flatten

/-- Cells, what they show, and that it is of their type. -/
inductive CellsAre (w : World) : List Value → List Sh → List PV → Prop
  | nil : CellsAre w [] [] []
  | cons {v : Value} {sh : Sh} {p : PV} {cs : List Value} {shs : List Sh} {ps : List PV} (h1 : v.oneCell' = true) (h2 : RepS (fun b => b < w.heap.size) w v p) (h3 : Typed sh p) (r : CellsAre w cs shs ps) : CellsAre w (v :: cs) (sh :: shs) (p :: ps)
theorem CellsAre.append {w : World} {a b : List Value} {sa sb : List Sh} {pa pb : List PV} (h : CellsAre w a sa pa) (k : CellsAre w b sb pb) : CellsAre w (a ++ b) (sa ++ sb) (pa ++ pb) := by
  induction h with
  | nil => exact k
  | cons h1 h2 h3 _ ih => exact .cons h1 h2 h3 ih
theorem CellsAre.lens {w : World} {a : List Value} {sa : List Sh} {pa : List PV} (h : CellsAre w a sa pa) : a.length = sa.length ∧ pa.length = sa.length := by
  induction h with
  | nil => exact ⟨rfl, rfl⟩
  | cons _ _ _ _ ih => exact ⟨by simp [ih.1], by simp [ih.2]⟩
theorem CellsAre.at {w : World} {a : List Value} {sa : List Sh} {pa : List PV} (h : CellsAre w a sa pa) : ∀ (i : Nat) p, pa[i]? = some p → ∃ v sh, a[i]? = some v ∧ sa[i]? = some sh ∧ v.oneCell' = true ∧ RepS (fun b => b < w.heap.size) w v p ∧ Typed sh p := by
  induction h with
  | nil => intro i p hi; simp at hi
  | @cons v sh p _ _ _ h1 h2 h3 _ ih =>
    intro i q hi
    cases i with
    | zero => simp at hi; subst hi; exact ⟨v, sh, rfl, rfl, h1, h2, h3⟩
    | succ i => simpa using ih i q (by simpa using hi)

section
variable {H : Type} {enc : TypeId × Value → H} {P : Program} {w : World} {base : Nat} {spare : Nat → Bool} {held : Bool}

theorem read_cells {t : TypeId} {shs : List Sh} (h : ShOf P t shs) : ∀ (fuel : Nat) (cs : List Value) (x : DataW H × List MemPlace), DataW.trod enc P w base spare held fuel t cs = some x → ∃ ps, CellsAre w cs shs ps := by
  induction h with
  | int k h =>
    intro fuel cs x hx
    obtain ⟨n, rfl, _, wf⟩ := DataW.trod_int h hx
    exact ⟨[.v (.int k n)], .cons rfl (.v _) (.int k n wf) .nil⟩
  | bool h =>
    intro fuel cs x hx
    obtain ⟨b, rfl, _⟩ := DataW.trod_bool h hx
    exact ⟨[.v (.bool b)], .cons rfl (.v _) (.bool b) .nil⟩
  | str h =>
    intro fuel cs x hx
    obtain ⟨s, rfl, _, hs⟩ := DataW.trod_string h hx
    exact ⟨[.v (.string s)], .cons rfl (.v _) (.str s hs) .nil⟩
  | @slice t e row h hc hp he ih =>
    intro fuel cs x hx
    rcases open_slice h hx with ⟨rfl, _⟩ | ⟨a, len, cap, m, n, D, Pl, rfl, hb, hl, hm, hmm, _, hall⟩
    · exact ⟨[.list row.length []], .cons rfl (.empty _ _ _) (.slice row [] (Nat.zero_le _) (by simp) (by simp)) .nil⟩
    · have hlm : len ≤ m := by rw [hmm]; split <;> omega
      obtain ⟨F, hF⟩ := choose_lt (α := List Value × List PV) (n := len) (p := fun i q => w.cells? base (a.add (i * P.cellsOf e)) (P.cellsOf e) = some q.1 ∧ CellsAre w q.1 row q.2) (fun i hi => by
        obtain ⟨cs', h1, h2⟩ := hall i (by omega)
        obtain ⟨ps, h3⟩ := ih n cs' _ h2
        exact ⟨(cs', ps), h1, h3⟩)
      rw [hc] at hF
      have hrows : ∀ r ∈ (List.range len).map fun i => (F i).2, ∃ i, i < len ∧ r = (F i).2 := fun r hr => by
        simp only [List.mem_map, List.mem_range] at hr
        obtain ⟨i, hi, rfl⟩ := hr
        exact ⟨i, hi, rfl⟩
      have hty : Typed (.slice row) (.list row.length ((List.range len).map fun i => (F i).2)) := .slice row _ (by simp; omega) (fun r hr => by
        obtain ⟨i, hi, rfl⟩ := hrows r hr
        exact (hF i hi).2.lens.2) (fun r hr j sh p hj hp => by
        obtain ⟨i, hi, rfl⟩ := hrows r hr
        obtain ⟨v, sh', _, h2, _, _, h5⟩ := (hF i hi).2.at j p hp
        rw [hj] at h2; cases h2; exact h5)
      refine ⟨[.list row.length ((List.range len).map fun i => (F i).2)], .cons rfl ?_ hty .nil⟩
      rcases Nat.eq_zero_or_pos len with rfl | hpos
      · exact .empty _ _ _
      · obtain ⟨b, off, spot⟩ := a
        have hspot : spot = none := by
          obtain ⟨_, _, h3⟩ := World.cells?_some (hF 0 hpos).1
          have h0 := h3 0 hp
          have hlen := (hF 0 hpos).2.lens.1
          rw [List.getElem?_eq_getElem (by omega)] at h0
          simpa [Addr.add] using World.cell?_spot h0
        subst hspot
        have cell : ∀ i, i < len → ∀ j, j < row.length → w.cell? ⟨b, off + (i * row.length + j), none⟩ = (F i).1[j]? := fun i hi j hj => by
          obtain ⟨_, _, h3⟩ := World.cells?_some (hF i hi).1
          have := h3 j hj
          rw [addr_add, addr_add, Nat.add_assoc] at this
          exact this
        have := RepS.list (ok := fun b => b < w.heap.size) (w := w) b off cap row.length ((List.range len).map fun i => (F i).2) (fun i j => ((F i).1.getD j undef)) (by
            have h0 := cell 0 hpos 0 hp
            have hlen := (hF 0 hpos).2.lens.1
            rw [List.getElem?_eq_getElem (by omega)] at h0
            exact lt_of_cell h0) (by simpa using hl) (fun r hr => by
            obtain ⟨i, hi, rfl⟩ := hrows r hr
            exact (hF i hi).2.lens.2) (fun i r hi j c hj => by
            have hilt : i < len := by have := (List.getElem?_eq_some_iff.1 hi).1; simpa using this
            have hr : r = (F i).2 := by simp [hilt] at hi; exact hi.symm
            subst hr
            obtain ⟨v, sh, q1, _, q3, _, _⟩ := (hF i hilt).2.at j c hj
            have hjl : j < row.length := by have := (List.getElem?_eq_some_iff.1 hj).1; rw [(hF i hilt).2.lens.2] at this; exact this
            rw [cell i hilt j hjl, q1, List.getD_eq_getElem?_getD, q1]
            exact ⟨rfl, q3⟩) (fun i r hi j c hj => by
            have hilt : i < len := by have := (List.getElem?_eq_some_iff.1 hi).1; simpa using this
            have hr : r = (F i).2 := by simp [hilt] at hi; exact hi.symm
            subst hr
            obtain ⟨v, sh, q1, _, _, q4, _⟩ := (hF i hilt).2.at j c hj
            rw [List.getD_eq_getElem?_getD, q1]
            exact q4)
        simpa using this
  | @struct t fs parts h hl hc hp hs ih =>
    intro fuel cs x hx
    obtain ⟨xs, n, _, _, hlen, hxl, hf⟩ := DataW.trod_struct h hx
    have step : ∀ k, k ≤ parts.length → ∃ ps, CellsAre w (cs.take (parts.take k).flatten.length) (parts.take k).flatten ps := by
      intro k
      induction k with
      | zero => intro _; exact ⟨[], by simpa using CellsAre.nil⟩
      | succ k ihk =>
        intro hk
        obtain ⟨ps, hps⟩ := ihk (by omega)
        have hfk : fs[k]? = some fs[k] := Array.getElem?_eq_getElem (by omega)
        have hpk : parts[k]? = some parts[k] := List.getElem?_eq_getElem (by omega)
        obtain ⟨h1, h2⟩ := hp k _ _ hfk hpk
        have h3 := hf k _ hfk
        have hxk : xs[k]? = some xs[k] := List.getElem?_eq_getElem (by omega)
        rw [hxk, h1, h2] at h3
        obtain ⟨qs, hqs⟩ := ih k _ _ hfk hpk n _ _ h3
        have e1 : parts.take (k + 1) = parts.take k ++ [parts[k]] := by rw [List.take_succ_eq_append_getElem (by omega)]
        refine ⟨ps ++ qs, ?_⟩
        rw [e1, List.flatten_append, List.length_append]
        have e2 : [parts[k]].flatten = parts[k] := by simp
        rw [e2, List.take_add]
        exact hps.append hqs
    obtain ⟨ps, hps⟩ := step parts.length (Nat.le_refl _)
    rw [List.take_length] at hps
    rw [List.take_of_length_le (by omega)] at hps
    exact ⟨ps, hps⟩

/-- An argument of one cell. -/
theorem read_one {t : TypeId} {sh : Sh} (h : ShOf P t [sh]) {v : Value} (hv : v.cells.toList = [v]) {d : DataW H} {ps : List MemPlace} (hd : DataW.Trod enc P w base spare held t v d ps) : ∃ p, RepS (fun b => b < w.heap.size) w v p ∧ Typed sh p := by
  obtain ⟨fuel, hf⟩ := hd
  obtain ⟨qs, hq⟩ := read_cells h _ _ _ hf
  rw [hv] at hq
  cases hq with
  | cons h1 h2 h3 r => exact ⟨_, h2, h3⟩
/-- A struct. -/
theorem read_agg {t : TypeId} {shs : List Sh} (h : ShOf P t shs) {vs : Array Value} {d : DataW H} {ps : List MemPlace} (hd : DataW.Trod enc P w base spare held t (.agg vs) d ps) :
    ∃ qs, RepS (fun b => b < w.heap.size) w (.agg vs) (.agg qs) ∧ qs.length = shs.length ∧ ∀ (i : Nat) p sh, qs[i]? = some p → shs[i]? = some sh → Typed sh p := by
  obtain ⟨fuel, hf⟩ := hd
  obtain ⟨qs, hq⟩ := read_cells h _ _ _ hf
  have hcells : (Value.agg vs).cells.toList = vs.toList := rfl
  rw [hcells] at hq
  refine ⟨qs, .agg vs qs (by have := hq.lens; rw [Array.length_toList] at this; omega) (fun i c hi => ?_), hq.lens.2, fun i p sh hi hsh => ?_⟩
  · obtain ⟨v, _, q1, _, _, q4, _⟩ := hq.at i c hi
    rw [Array.getElem?_toList] at q1
    rw [Array.getD_eq_getD_getElem?, q1]
    exact q4
  · obtain ⟨v, sh', q1, q2, _, _, q5⟩ := hq.at i p hi
    rw [hsh] at q2; cases q2; exact q5
end

/-! ### Plain numbers out of typed ones -/
theorem typed_list {k : IntKind} {p : PV} (h : Typed (.slice [.int k]) p) : ∃ l : List Int, p = .list 1 (l.map fun x => [.v (.int k x)]) ∧ l.length ≤ maxLen ∧ ∀ x ∈ l, (Lit.int k x).wf = true := by
  cases h with
  | slice row xs hl hr ht =>
    have each : ∀ r ∈ xs, ∃ x, r = [PV.v (.int k x)] ∧ (Lit.int k x).wf = true := fun r hr' => by
      have h1 := hr r hr'
      match r, h1 with
      | [q], _ =>
        have := ht _ hr' 0 _ q rfl rfl
        cases this with
        | int _ n hn => exact ⟨n, rfl, hn⟩
    have go : ∀ ys : List (List PV), (∀ r ∈ ys, ∃ x, r = [PV.v (.int k x)] ∧ (Lit.int k x).wf = true) → ∃ l : List Int, ys = l.map (fun x => [.v (.int k x)]) ∧ ∀ x ∈ l, (Lit.int k x).wf = true := by
      intro ys
      induction ys with
      | nil => intro _; exact ⟨[], rfl, by simp⟩
      | cons y r ih =>
        intro h
        obtain ⟨x, rfl, hx⟩ := h y (by simp)
        obtain ⟨l, hl, hw⟩ := ih fun r hr => h r (by simp [hr])
        refine ⟨x :: l, by simp [hl], fun u hu => ?_⟩
        rcases List.mem_cons.1 hu with rfl | hu
        · exact hx
        · exact hw u hu
    obtain ⟨l, rfl, hw⟩ := go xs each
    exact ⟨l, rfl, by simpa using hl, hw⟩
theorem typed_int {k : IntKind} {p : PV} (h : Typed (.int k) p) : ∃ n, p = .v (.int k n) ∧ (Lit.int k n).wf = true := by
  cases h with
  | int _ n hn => exact ⟨n, rfl, hn⟩
theorem wf_u8 {n : Int} (h : (Lit.int .u8 n).wf = true) : 0 ≤ n ∧ n ≤ 255 := by
  simp [Lit.wf, IntKind.min, IntKind.max, IntKind.bits, IntKind.signed] at h; omega
theorem wf_i8 {n : Int} (h : (Lit.int .i8 n).wf = true) : -128 ≤ n ∧ n ≤ 127 := by
  simp [Lit.wf, IntKind.min, IntKind.max, IntKind.bits, IntKind.signed] at h; omega
theorem wf_i16 {n : Int} (h : (Lit.int .i16 n).wf = true) : -32768 ≤ n ∧ n ≤ 32767 := by
  simp [Lit.wf, IntKind.min, IntKind.max, IntKind.bits, IntKind.signed] at h; omega
theorem wf_i64 {n : Int} (h : (Lit.int .i64 n).wf = true) : -9223372036854775808 ≤ n ∧ n ≤ 9223372036854775807 := by
  simp [Lit.wf, IntKind.min, IntKind.max, IntKind.bits, IntKind.signed] at h; omega

/-- The kinds of a Small's cells. -/
def smallSh : List Sh := [.int .u8, .slice [.int .u8], .slice [.int .u8], .slice [.int .i8], .int .i16, .int .u8]
theorem typed_small {qs : List PV} (hl : qs.length = smallSh.length) (h : ∀ (i : Nat) p sh, qs[i]? = some p → smallSh[i]? = some sh → Typed sh p) :
    ∃ (z : Small) (zk zK zc : Int) (zA zB zC : List (List PV)), SmallR z zk zA zB zC zK zc ∧ qs = [U8 zk, .list 1 zA, .list 1 zB, .list 1 zC, I16 zK, U8 zc] := by
  match qs, hl with
  | [q0, q1, q2, q3, q4, q5], _ =>
    obtain ⟨n0, rfl, w0⟩ := typed_int (h 0 _ _ rfl rfl)
    obtain ⟨l1, rfl, b1, w1⟩ := typed_list (h 1 _ _ rfl rfl)
    obtain ⟨l2, rfl, b2, w2⟩ := typed_list (h 2 _ _ rfl rfl)
    obtain ⟨l3, rfl, b3, w3⟩ := typed_list (h 3 _ _ rfl rfl)
    obtain ⟨n4, rfl, w4⟩ := typed_int (h 4 _ _ rfl rfl)
    obtain ⟨n5, rfl, w5⟩ := typed_int (h 5 _ _ rfl rfl)
    have e9 : (9223372036854775807 : Nat) = maxLen := rfl
    exact ⟨⟨n0, l1, l2, l3, n4, n5⟩, n0, n4, n5, _, _, _, ⟨rfl, rfl, rfl, rfl, rfl, rfl, wf_u8 w0, fun v hv => wf_u8 (w1 v hv), fun v hv => wf_u8 (w2 v hv), fun v hv => wf_i8 (w3 v hv), wf_i16 w4, wf_u8 w5, by rw [e9]; exact b1, by rw [e9]; exact b2, by rw [e9]; exact b3⟩, rfl⟩

theorem below_of {w w' : World} (h : Ext (fun _ => False) w w') : RowKit.Below w.heap.size w w' := ⟨h.os, h.tape, h.output, h.size, fun k hk => h.block k hk (fun e => e)⟩
end Go.Pi

/- The parts of what a row asks of a program, put together. -/
namespace Go.Pi
open Go

theorem joined_parts {P : Program} {f : FuncId} {fn : Func} {s : ChangeSpec} {c : OpenClaim}
    (k1 : c.wf (OpenSpec.ofChange s) = true) (k2 : laidOutB P = true) (k3 : mapsRowed P = true) (k4 : fn.params.all (P.readableRec ·) = true) (k5 : namedTie P c.named s.vars = true)
    (k6 : (c.stops == []) = true) (k7 : (P.stops == []) = true) (k8 : (c.knobs == []) = true) (k9 : (P.stopKnobs == []) = true)
    (k10 : (c.inPlace == P.inPlace f) = true) (k11 : (c.unfollowed == P.unfollowed f) = true) (k12 : (c.recurses == P.recurses f) = true) (k13 : (c.named == P.varsNamed f) = true)
    (k14 : (c.maps == (fn.params.toList ++ s.plain.varTypes P).any (P.mapsRec ·)) = true) (k15 : (c.ifaces == (fn.params.toList ++ s.plain.varTypes P).any (P.ifacesRec ·)) = true) (k16 : (c.mapsOut == P.mapsAmong fn.resultTypes.toList) = true)
    (k17 : (c.loops == (fn.params.toList ++ s.plain.varTypes P).any (P.loopsFrom ·)) = true) (k17b : (c.wideKeys == (fn.params.toList ++ s.plain.varTypes P ++ fn.resultTypes.toList).any (P.wideKeysFrom ·)) = true)
    (k18 : s.vars.all (P.varReadable ·) = true) (k19 : fn.resultTypes.all (fun t => P.readableRec t && decide (t < P.types.size)) = true)
    (k20 : (c.ifacesOut == fn.resultTypes.toList.any (P.ifacesRec ·)) = true) (k21 : (c.loopsOut == fn.resultTypes.toList.any (P.loopsFrom ·)) = true) (k22 : (c.plainKeys == P.plainKeys) = true) (k23 : c.shortTexts.isNone = true)
    (k23b : P.stopsHeard = true) (k24 : P.mayEnter = true) (k24b : (c.lifted == P.liftsFinal) = true) (k24c : (P.make == some c.make) = true)
    (k25 : (c.kinds == (if c.domain.isEmpty then [] else fn.params.toList.map fun t => match P.underlying t with | some (.int k) => some k | _ => none)) = true) (k26 : (c.pinned == c.pinnedBy) = true)
    (k27 : (c.veiled == (fn.params.toList ++ s.plain.varTypes P ++ fn.resultTypes.toList).any (P.veiledRec ·)) = true) (k28 : c.veiledFits P fn.params.toList (fn.params.toList ++ s.plain.varTypes P ++ fn.resultTypes.toList) = true) :
    joinedFacts P f fn s c = true := by
  simp only [joinedFacts, Bool.and_eq_true]
  exact ⟨⟨⟨⟨⟨⟨⟨⟨⟨⟨⟨⟨⟨⟨⟨⟨⟨⟨⟨⟨⟨⟨⟨⟨⟨⟨⟨⟨⟨⟨⟨k1, k2⟩, k3⟩, k4⟩, k5⟩, k6⟩, k7⟩, k8⟩, k9⟩, k10⟩, k11⟩, k12⟩, k13⟩, k14⟩, k15⟩, k16⟩, k17⟩, k17b⟩, k18⟩, k19⟩, k20⟩, k21⟩, k22⟩, k23⟩, k23b⟩, k24⟩, k24b⟩, k24c⟩, k25⟩, k26⟩, k27⟩, k28⟩
end Go.Pi

/- Words of bits: the numbers of a domain, in plain lists. -/
namespace Go.Pi
open Go
set_option linter.unusedVariables false
set_option linter.unusedSimpArgs false

/-! ### Rising lists -/
def Rising (l : List Int) : Prop := l.Pairwise fun a b => a < b
theorem rising_ext : ∀ {a b : List Int}, Rising a → Rising b → (∀ v, v ∈ a ↔ v ∈ b) → a = b
  | [], [], _, _, _ => rfl
  | [], y :: l, _, _, h => by have := (h y).2 (by simp); simp at this
  | x :: r, [], _, _, h => by have := (h x).1 (by simp); simp at this
  | x :: r, y :: l, ha, hb, h => by
    have ha' := List.pairwise_cons.1 ha
    have hb' := List.pairwise_cons.1 hb
    have e : x = y := by
      have h1 := (h x).1 (by simp)
      have h2 := (h y).2 (by simp)
      simp only [List.mem_cons] at h1 h2
      rcases h1 with h1 | h1
      · exact h1
      · rcases h2 with h2 | h2
        · exact h2.symm
        · have := ha'.1 y h2
          have := hb'.1 x h1
          omega
    subst e
    congr 1
    refine rising_ext ha'.2 hb'.2 fun v => ?_
    have := h v
    simp only [List.mem_cons] at this
    constructor
    · intro hv
      rcases this.1 (.inr hv) with e | e
      · subst e; have := ha'.1 v hv; omega
      · exact e
    · intro hv
      rcases this.2 (.inr hv) with e | e
      · subst e; have := hb'.1 v hv; omega
      · exact e
theorem Rising.filter {l : List Int} (h : Rising l) (p : Int → Bool) : Rising (l.filter p) := List.Pairwise.filter p h
theorem Rising.nodup {l : List Int} (h : Rising l) : l.Nodup := h.imp fun h => by omega

/-! ### The bits of a word -/
def word (w : Int) : Prop := 0 ≤ w ∧ w < 18446744073709551616
def bitsW (b w : Int) : List Int := ((List.range 64).filter fun k => w.toNat.testBit k).map fun (k : Nat) => b + (k : Int)
theorem mem_bitsW {b w v : Int} : v ∈ bitsW b w ↔ b ≤ v ∧ v < b + 64 ∧ w.toNat.testBit (v - b).toNat = true := by
  simp only [bitsW, List.mem_map, List.mem_filter, List.mem_range]
  constructor
  · rintro ⟨k, ⟨h1, h2⟩, rfl⟩
    refine ⟨by omega, by omega, ?_⟩
    rw [show (b + (k : Int) - b).toNat = k by omega]; exact h2
  · rintro ⟨h1, h2, h3⟩
    exact ⟨(v - b).toNat, ⟨by omega, h3⟩, by omega⟩
theorem bitsW_rising (b w : Int) : Rising (bitsW b w) := by
  unfold bitsW Rising
  rw [List.pairwise_map]
  exact (List.Pairwise.filter _ List.pairwise_lt_range).imp fun h => by omega
theorem bitsW_zero (b : Int) : bitsW b 0 = [] := by
  simp [bitsW]
theorem bitsW_len (b w : Int) : (bitsW b w).length ≤ 64 := by
  unfold bitsW
  rw [List.length_map]
  exact Nat.le_trans (List.length_filter_le _ _) (by simp)

/-- The numbers of words, from a number on. -/
def listW : Int → List Int → List Int
  | _, [] => []
  | off, w :: r => bitsW off w ++ listW (off + 64) r
def hasW (off : Int) (ws : List Int) (v : Int) : Bool := decide (off ≤ v) && (ws.getD ((v - off) / 64).toNat 0).toNat.testBit ((v - off) % 64).toNat
theorem mem_listW : ∀ {off v : Int} {ws : List Int}, v ∈ listW off ws ↔ hasW off ws v = true
  | off, v, [] => by simp [listW, hasW]
  | off, v, w :: r => by
    simp only [listW, List.mem_append, mem_bitsW, mem_listW (off := off + 64), hasW, Bool.and_eq_true, decide_eq_true_eq]
    by_cases h0 : off ≤ v
    · by_cases h1 : v < off + 64
      · have e1 : ((v - off) / 64).toNat = 0 := by omega
        have e2 : ((v - off) % 64).toNat = (v - off).toNat := by omega
        rw [e1, e2]
        simp only [List.getD_cons_zero]
        constructor
        · rintro (h | h)
          · exact ⟨h0, h.2.2⟩
          · omega
        · rintro ⟨_, h⟩
          exact .inl ⟨h0, h1, h⟩
      · have e1 : ((v - off) / 64).toNat = ((v - (off + 64)) / 64).toNat + 1 := by omega
        have e2 : ((v - off) % 64).toNat = ((v - (off + 64)) % 64).toNat := by omega
        rw [e1, e2, List.getD_cons_succ]
        constructor
        · rintro (h | h)
          · omega
          · exact ⟨h0, h.2⟩
        · rintro ⟨_, h⟩
          exact .inr ⟨by omega, h⟩
    · constructor
      · rintro (h | h) <;> omega
      · rintro ⟨h, _⟩; omega
theorem listW_ge : ∀ {off v : Int} {ws : List Int}, v ∈ listW off ws → off ≤ v := fun h => by
  rw [mem_listW, hasW, Bool.and_eq_true, decide_eq_true_eq] at h
  exact h.1
theorem listW_lt {off v : Int} {ws : List Int} (h : v ∈ listW off ws) : v < off + 64 * ws.length := by
  rw [mem_listW, hasW, Bool.and_eq_true, decide_eq_true_eq] at h
  have : ((v - off) / 64).toNat < ws.length := by
    apply Nat.lt_of_not_le
    intro hle
    rw [List.getD_eq_getElem?_getD, List.getElem?_eq_none hle] at h
    simp at h
  omega
theorem listW_rising : ∀ (off : Int) (ws : List Int), Rising (listW off ws)
  | _, [] => List.Pairwise.nil
  | off, w :: r => by
    unfold Rising listW
    rw [List.pairwise_append]
    refine ⟨bitsW_rising off w, listW_rising _ r, fun a ha b hb => ?_⟩
    have := (mem_bitsW.1 ha).2.1
    have := listW_ge hb
    omega
theorem listW_app : ∀ (off : Int) (a b : List Int), listW off (a ++ b) = listW off a ++ listW (off + 64 * a.length) b
  | off, [], b => by simp [listW]
  | off, w :: r, b => by
    simp only [List.cons_append, listW, List.length_cons, listW_app (off + 64) r b, List.append_assoc]
    congr 3
    omega
theorem listW_take {off : Int} {ws : List Int} {j : Nat} (h : j < ws.length) : listW off (ws.take (j + 1)) = listW off (ws.take j) ++ bitsW (off + 64 * j) (ws.getD j 0) := by
  rw [take_succ_getD 0 h, listW_app]
  simp [listW, Nat.min_eq_left (Nat.le_of_lt h)]
theorem listW_len : ∀ (off : Int) (ws : List Int), (listW off ws).length ≤ 64 * ws.length
  | _, [] => by simp [listW]
  | off, w :: r => by
    have := bitsW_len off w
    have := listW_len (off + 64) r
    simp only [listW, List.length_append, List.length_cons]
    omega

/-! ### The lowest bit, the highest one, how many -/
theorem ctz_spec {x : Nat} (h0 : x ≠ 0) (h : x < 2 ^ 64) : x.testBit (Lib.ctz 64 x) = true ∧ Lib.ctz 64 x < 64 ∧ ∀ k, k < Lib.ctz 64 x → x.testBit k = false := by
  unfold Lib.ctz
  rw [if_neg h0]
  obtain ⟨m, hm, hk⟩ := Lib.ctzFrom_spec 64 x (by omega) h
  generalize Lib.ctzFrom 64 x = c at hm hk
  subst hm
  refine ⟨?_, hk, fun k hk => ?_⟩
  · rw [Nat.mul_comm, Nat.testBit_mul_two_pow]
    simp [Nat.testBit_zero]
  · rw [Nat.mul_comm, Nat.testBit_mul_two_pow]
    simp; omega
theorem and_pred {x : Nat} (h0 : x ≠ 0) (h : x < 2 ^ 64) (k : Nat) : (x &&& (x - 1)).testBit k = (x.testBit k && decide (k ≠ Lib.ctz 64 x)) := by
  unfold Lib.ctz
  rw [if_neg h0]
  obtain ⟨m, hm, hk⟩ := Lib.ctzFrom_spec 64 x (by omega) h
  generalize Lib.ctzFrom 64 x = c at hm hk
  subst hm
  have e : 2 ^ c * (2 * m + 1) - 1 = (2 * m) * 2 ^ c + (2 ^ c - 1) := by
    have : 0 < 2 ^ c := Nat.two_pow_pos c
    rw [Nat.mul_add, Nat.mul_one, Nat.mul_comm]; omega
  have hlt : 2 ^ c - 1 < 2 ^ c := by have : 0 < 2 ^ c := Nat.two_pow_pos c; omega
  rw [Nat.testBit_and, e, Nat.mul_comm (2 ^ c)]
  have t1 : ((2 * m + 1) * 2 ^ c).testBit k = (decide (k ≥ c) && (2 * m + 1).testBit (k - c)) := Nat.testBit_mul_two_pow ..
  have t2 : ((2 * m) * 2 ^ c + (2 ^ c - 1)).testBit k = if k < c then (2 ^ c - 1).testBit k else (2 * m).testBit (k - c) := by
    rw [Nat.mul_comm (2 * m) (2 ^ c)]
    exact Nat.testBit_two_pow_mul_add _ hlt _
  rw [t1, t2]
  by_cases hc : k < c
  · simp [hc]; omega
  · rw [if_neg hc]
    by_cases he : k = c
    · subst he; simp
    · obtain ⟨j, rfl⟩ : ∃ j, k = c + (j + 1) := ⟨k - c - 1, by omega⟩
      have e3 : c + (j + 1) - c = j + 1 := by omega
      have d1 : (2 * m + 1) / 2 = m := by omega
      have d2 : 2 * m / 2 = m := by omega
      rw [e3, Nat.testBit_succ, Nat.testBit_succ, d1, d2]
      cases m.testBit j <;> simp
/-- The lowest bit, and the others. -/
theorem bitsW_low {b w : Int} (h : word w) (h0 : w ≠ 0) : bitsW b w = (b + Lib.ctz 64 w.toNat) :: bitsW b ((w.toNat &&& (w.toNat - 1) : Nat) : Int) := by
  obtain ⟨h1, h2⟩ := h
  have hx : w.toNat < 2 ^ 64 := by omega
  have hx0 : w.toNat ≠ 0 := by omega
  obtain ⟨c1, c2, c3⟩ := ctz_spec hx0 hx
  have hp := and_pred hx0 hx
  generalize Lib.ctz 64 w.toNat = c at c1 c2 c3 hp
  refine rising_ext (bitsW_rising _ _) (List.pairwise_cons.2 ⟨fun v hv => ?_, bitsW_rising _ _⟩) fun v => ?_
  · rw [mem_bitsW] at hv
    simp only [Int.toNat_natCast, hp, Bool.and_eq_true, decide_eq_true_eq] at hv
    obtain ⟨q1, q2, q3, q4⟩ := hv
    apply Int.lt_of_not_ge
    intro hle
    have := c3 (v - b).toNat (by omega)
    rw [q3] at this; cases this
  · rw [List.mem_cons, mem_bitsW, mem_bitsW]
    simp only [Int.toNat_natCast, hp, Bool.and_eq_true, decide_eq_true_eq]
    constructor
    · rintro ⟨q1, q2, q3⟩
      by_cases e : (v - b).toNat = c
      · left; omega
      · right; exact ⟨q1, q2, q3, e⟩
    · rintro (rfl | ⟨q1, q2, q3, _⟩)
      · refine ⟨by omega, by omega, ?_⟩
        rw [show (b + (c : Int) - b).toNat = c by omega]; exact c1
      · exact ⟨q1, q2, q3⟩

theorem bitLenAux_spec : ∀ (f x : Nat), 0 < x → x < 2 ^ f → x.testBit (Lib.bitLenAux f x - 1) = true ∧ 0 < Lib.bitLenAux f x ∧ Lib.bitLenAux f x ≤ f ∧ x < 2 ^ Lib.bitLenAux f x
  | 0, x, h0, h => by simp at h; omega
  | f + 1, x, h0, h => by
    have e : Lib.bitLenAux (f + 1) x = 1 + Lib.bitLenAux f (x / 2) := by
      rw [Lib.bitLenAux, if_neg (by omega)]
    rw [e]
    by_cases h1 : x / 2 = 0
    · have hx : x = 1 := by omega
      subst hx
      have : Lib.bitLenAux f (1 / 2) = 0 := by
        cases f <;> simp [Lib.bitLenAux]
      rw [this]
      simp
    · obtain ⟨q1, q2, q3, q4⟩ := bitLenAux_spec f (x / 2) (by omega) (by rw [Nat.pow_succ] at h; omega)
      refine ⟨?_, by omega, by omega, ?_⟩
      · rw [show 1 + Lib.bitLenAux f (x / 2) - 1 = (Lib.bitLenAux f (x / 2) - 1) + 1 by omega, Nat.testBit_succ]
        exact q1
      · rw [Nat.add_comm, Nat.pow_succ]; omega
theorem rising_last {l : List Int} {v : Int} (hr : Rising l) (hv : v ∈ l) (hm : ∀ u ∈ l, u ≤ v) (d : Int) : l.getLastD d = v := by
  induction l generalizing d with
  | nil => simp at hv
  | cons x r ih =>
    rw [List.getLastD_cons]
    cases r with
    | nil => simp at hv; simp [hv]
    | cons y r =>
      have hr' := List.pairwise_cons.1 hr
      refine ih hr'.2 ?_ (fun u hu => hm u (List.mem_cons_of_mem _ hu)) x
      rcases List.mem_cons.1 hv with e | e
      · have h1 := hr'.1 y (by simp)
        have h2 := hm y (by simp)
        omega
      · exact e
theorem bitsW_last {b w : Int} (h : word w) (h0 : w ≠ 0) (d : Int) : (bitsW b w).getLastD d = b + 63 - (64 - Lib.bitLen w.toNat) := by
  obtain ⟨h1, h2⟩ := h
  obtain ⟨q1, q2, q3, q4⟩ := bitLenAux_spec 64 w.toNat (by omega) (by omega)
  have e : Lib.bitLen w.toNat = Lib.bitLenAux 64 w.toNat := rfl
  rw [e]
  generalize Lib.bitLenAux 64 w.toNat = c at q1 q2 q3 q4
  refine rising_last (bitsW_rising _ _) (mem_bitsW.2 ⟨by omega, by omega, ?_⟩) (fun u hu => ?_) d
  · rw [show (b + 63 - (64 - (c : Int)) - b).toNat = c - 1 by omega]; exact q1
  · obtain ⟨r1, r2, r3⟩ := mem_bitsW.1 hu
    apply Int.le_of_not_gt
    intro hgt
    have : w.toNat < 2 ^ (u - b).toNat := Nat.lt_of_lt_of_le q4 (Nat.pow_le_pow_right (by decide) (by omega))
    rw [Nat.testBit_lt_two_pow this] at r3
    cases r3
theorem bitsW_size (b w : Int) : ((bitsW b w).length : Int) = (((List.range 64).filter fun k => w.toNat.testBit k).length : Int) := by simp [bitsW]

/-! ### A domain's row -/
def headS (l : List Int) : Int := l.headD 0
def lastS (l : List Int) : Int := l.getLastD 0
/-- A domain, as its row of cells tells it. -/
structure DomR (off : Int) (ws : List (List PV)) (mn mx sz : Int) (l : List Int) : Prop where
  words : ∃ w : List Int, ws = u64s w ∧ (∀ x ∈ w, word x) ∧ l = listW off w ∧ w.length ≤ 2000000
  al : off % 64 = 0
  lo : -2000000 ≤ off
  hi : off ≤ 2000000
  mn : mn = headS l
  mx : mx = lastS l
  sz : sz = l.length
  far : ∀ v ∈ l, -1000000 ≤ v ∧ v ≤ 1000000
theorem DomR.rising {off ws mn mx sz l} (h : DomR off ws mn mx sz l) : Rising l := by
  obtain ⟨w, _, _, rfl, _⟩ := h.words
  exact listW_rising _ _

end Go.Pi

/- How many bits a word has: the library's way of counting them. -/
namespace Go.Pi
open Go
set_option linter.unusedVariables false
set_option linter.unusedSimpArgs false

def num : List Nat → Nat
  | [] => 0
  | b :: r => b + 256 * num r
theorem add_eq_mul (b h : Nat) : b + 256 * h = 2 ^ 8 * h + b := by omega
theorem and_num {b h c H : Nat} (hb : b < 256) (hc : c < 256) : (b + 256 * h) &&& (c + 256 * H) = (b &&& c) + 256 * (h &&& H) := by
  have hbc : b &&& c < 2 ^ 8 := Nat.and_lt_two_pow _ (by omega)
  apply Nat.eq_of_testBit_eq
  intro i
  rw [Nat.testBit_and, add_eq_mul, add_eq_mul, add_eq_mul, Nat.testBit_two_pow_mul_add _ (by omega), Nat.testBit_two_pow_mul_add _ (by omega), Nat.testBit_two_pow_mul_add _ (by omega)]
  split <;> simp [Nat.testBit_and]
def msk (c : Nat) : Nat → Nat
  | 0 => 0
  | n + 1 => c + 256 * msk c n
def g1 (b : Nat) : Nat := (b / 2 &&& 85) + (b &&& 85)
def g2 (b : Nat) : Nat := (b / 4 &&& 51) + (b &&& 51)
def g3 (b : Nat) : Nat := (b / 16 + b) &&& 15
theorem fin1 : ∀ (b : Fin 256) (q : Fin 2), (b.val / 2 + 128 * q.val) &&& 85 = b.val / 2 &&& 85 := by decide +kernel
theorem fin2 : ∀ (b : Fin 256) (q : Fin 4), (b.val / 4 + 64 * q.val) &&& 51 = b.val / 4 &&& 51 := by decide +kernel
theorem fin3 : ∀ (b : Fin 69) (q : Fin 5), (b.val / 16 + 16 * q.val + b.val) &&& 15 = (b.val / 16 + b.val) &&& 15 := by decide +kernel
theorem fing1 : ∀ b : Fin 256, g1 b.val < 256 := by decide +kernel
theorem fing2 : ∀ b : Fin 256, g2 (g1 b.val) ≤ 68 ∧ g2 (g1 b.val) % 16 ≤ 4 := by decide +kernel
def pop8 (b : Nat) : Nat := ((List.range 8).filter fun k => b.testBit k).length
theorem fing3 : ∀ b : Fin 256, g3 (g2 (g1 b.val)) = pop8 b.val ∧ pop8 b.val ≤ 8 := by decide +kernel

theorem num_lt : ∀ {l : List Nat}, (∀ b ∈ l, b < 256) → num l < 256 ^ l.length
  | [], _ => by simp [num]
  | b :: r, h => by
    have := num_lt (l := r) fun x hx => h x (by simp [hx])
    have := h b (by simp)
    simp only [num, List.length_cons, Nat.pow_succ]
    omega
theorem st1 : ∀ (l : List Nat), (∀ b ∈ l, b < 256) → (num l / 2 &&& msk 85 l.length) + (num l &&& msk 85 l.length) = num (l.map g1)
  | [], _ => by simp [num, msk]
  | b :: r, h => by
    have ih := st1 r fun x hx => h x (by simp [hx])
    have hb := h b (by simp)
    simp only [num, List.map_cons, List.length_cons, msk, ← ih]
    have e : (b + 256 * num r) / 2 = (b / 2 + 128 * (num r % 2)) + 256 * (num r / 2) := by omega
    have f := fin1 ⟨b, hb⟩ ⟨num r % 2, by omega⟩
    simp only at f
    rw [e, and_num (by omega) (by omega), and_num hb (by omega), f]
    unfold g1
    omega
theorem st2 : ∀ (l : List Nat), (∀ b ∈ l, b < 256) → (num l / 4 &&& msk 51 l.length) + (num l &&& msk 51 l.length) = num (l.map g2)
  | [], _ => by simp [num, msk]
  | b :: r, h => by
    have ih := st2 r fun x hx => h x (by simp [hx])
    have hb := h b (by simp)
    simp only [num, List.map_cons, List.length_cons, msk, ← ih]
    have e : (b + 256 * num r) / 4 = (b / 4 + 64 * (num r % 4)) + 256 * (num r / 4) := by omega
    have f := fin2 ⟨b, hb⟩ ⟨num r % 4, by omega⟩
    simp only at f
    rw [e, and_num (by omega) (by omega), and_num hb (by omega), f]
    unfold g2
    omega
theorem num_le : ∀ (l : List Nat), (∀ b ∈ l, b ≤ 68) → num l ≤ num (List.replicate l.length 68)
  | [], _ => Nat.le_refl _
  | b :: r, h => by
    have ih := num_le r fun x hx => h x (by simp [hx])
    have := h b (by simp)
    simp only [num, List.length_cons, List.replicate_succ]
    omega
theorem num_mod (r : List Nat) (h : ∀ b ∈ r, b ≤ 68 ∧ b % 16 ≤ 4) : num r % 16 ≤ 4 := by
  cases r with
  | nil => simp [num]
  | cons b r =>
    have := (h b (by simp)).2
    simp only [num]
    omega
theorem st3 : ∀ (l : List Nat), (∀ b ∈ l, b ≤ 68 ∧ b % 16 ≤ 4) → (num l / 16 + num l) &&& msk 15 l.length = num (l.map g3)
  | [], _ => by simp [num, msk]
  | b :: r, h => by
    have hr : ∀ b ∈ r, b ≤ 68 ∧ b % 16 ≤ 4 := fun x hx => h x (by simp [hx])
    have ih := st3 r hr
    have hb := h b (by simp)
    have hm := num_mod r hr
    simp only [num, List.map_cons, List.length_cons, msk, ← ih]
    have e : (b + 256 * num r) / 16 + (b + 256 * num r) = (b / 16 + 16 * (num r % 16) + b) + 256 * (num r / 16 + num r) := by omega
    have f := fin3 ⟨b, by omega⟩ ⟨num r % 16, by omega⟩
    simp only at f
    rw [e, and_num (by omega) (by omega), f]
    rfl

def sumL : List Nat → Nat
  | [] => 0
  | b :: r => b + sumL r
theorem div1 {z R : Nat} (h : z < 256) : (z + 256 * R) / 256 = R := by omega
theorem div2 {z y R : Nat} (h : z < 256) (h2 : y < 256) : (z + 256 * (y + 256 * R)) / 65536 = R := by omega
theorem div4 {z y u v R : Nat} (h : z < 256) (h2 : y < 256) (h3 : u < 256) (h4 : v < 256) : (z + 256 * (y + 256 * (u + 256 * (v + 256 * R)))) / 4294967296 = R := by
  rw [show 4294967296 = 65536 * 65536 from rfl, ← Nat.div_div_eq_div_mul, div2 h h2, div2 h3 h4]
theorem mod1 {z R : Nat} (h : z < 128) : (z + 256 * R) % 128 = z := by omega
theorem st4 (z0 z1 z2 z3 z4 z5 z6 z7 : Nat) (h0 : z0 ≤ 8) (h1 : z1 ≤ 8) (h2 : z2 ≤ 8) (h3 : z3 ≤ 8) (h4 : z4 ≤ 8) (h5 : z5 ≤ 8) (h6 : z6 ≤ 8) (h7 : z7 ≤ 8) (x : Nat) (hx : x = num [z0, z1, z2, z3, z4, z5, z6, z7]) (x1 x2 x3 : Nat)
    (e1 : x1 = x + x / 256) (e2 : x2 = x1 + x1 / 65536) (e3 : x3 = x2 + x2 / 4294967296) : x3 % 128 = sumL [z0, z1, z2, z3, z4, z5, z6, z7] ∧ x < 1152921504606846976 ∧ x1 < 2305843009213693952 ∧ x2 < 4611686018427387904 ∧ x3 < 9223372036854775808 := by
  simp only [num, sumL, Nat.mul_zero, Nat.add_zero] at *
  have a1 : x / 256 = z1 + 256 * (z2 + 256 * (z3 + 256 * (z4 + 256 * (z5 + 256 * (z6 + 256 * z7))))) := by rw [hx, div1 (by omega)]
  generalize x / 256 = q1 at a1 e1
  have b1 : x1 = (z0 + z1) + 256 * ((z1 + z2) + 256 * ((z2 + z3) + 256 * ((z3 + z4) + 256 * ((z4 + z5) + 256 * ((z5 + z6) + 256 * ((z6 + z7) + 256 * z7)))))) := by omega
  have a2 : x1 / 65536 = (z2 + z3) + 256 * ((z3 + z4) + 256 * ((z4 + z5) + 256 * ((z5 + z6) + 256 * ((z6 + z7) + 256 * z7)))) := by rw [b1, div2 (by omega) (by omega)]
  generalize x1 / 65536 = q2 at a2 e2
  have b2 : x2 = (z0 + z1 + z2 + z3) + 256 * ((z1 + z2 + z3 + z4) + 256 * ((z2 + z3 + z4 + z5) + 256 * ((z3 + z4 + z5 + z6) + 256 * ((z4 + z5 + z6 + z7) + 256 * ((z5 + z6 + z7) + 256 * ((z6 + z7) + 256 * z7)))))) := by omega
  have a3 : x2 / 4294967296 = (z4 + z5 + z6 + z7) + 256 * ((z5 + z6 + z7) + 256 * ((z6 + z7) + 256 * z7)) := by rw [b2, div4 (by omega) (by omega) (by omega) (by omega)]
  generalize x2 / 4294967296 = q3 at a3 e3
  have b3 : x3 = (z0 + z1 + z2 + z3 + z4 + z5 + z6 + z7) + 256 * (((z1 + z2 + z3 + z4) + 256 * ((z2 + z3 + z4 + z5) + 256 * ((z3 + z4 + z5 + z6) + 256 * ((z4 + z5 + z6 + z7) + 256 * ((z5 + z6 + z7) + 256 * ((z6 + z7) + 256 * z7)))))) + ((z5 + z6 + z7) + 256 * ((z6 + z7) + 256 * z7))) := by omega
  refine ⟨by rw [b3, mod1 (by omega)]; omega, ?_, ?_, ?_, ?_⟩
  · clear b1 b2 b3 a1 a2 a3 e1 e2 e3; omega
  · clear b2 b3 a1 a2 a3 e1 e2 e3 hx; omega
  · clear b1 b3 a1 a2 a3 e1 e2 e3 hx; omega
  · clear b1 b2 a1 a2 a3 e1 e2 e3 hx; omega

def cnt (n x : Nat) : Nat := ((List.range n).filter fun k => x.testBit k).length
theorem cnt_byte (n b h : Nat) (hb : b < 256) : cnt (8 + n) (b + 256 * h) = pop8 b + cnt n h := by
  unfold cnt pop8
  rw [List.range_add, List.filter_append, List.length_append, List.filter_map, List.length_map]
  congr 2
  · refine List.filter_congr fun k hk => ?_
    have : k < 8 := List.mem_range.1 hk
    rw [add_eq_mul, Nat.testBit_two_pow_mul_add _ (by omega), if_pos this]
  · refine List.filter_congr fun k hk => ?_
    simp only [Function.comp]
    rw [add_eq_mul, Nat.testBit_two_pow_mul_add _ (by omega), if_neg (by omega), show 8 + k - 8 = k by omega]
theorem cnt_num : ∀ (l : List Nat), (∀ b ∈ l, b < 256) → cnt (8 * l.length) (num l) = sumL (l.map pop8)
  | [], _ => by simp [cnt, num, sumL]
  | b :: r, h => by
    have ih := cnt_num r fun x hx => h x (by simp [hx])
    have hb := h b (by simp)
    rw [List.length_cons, show 8 * (r.length + 1) = 8 + 8 * r.length by omega, num, cnt_byte _ _ _ hb, ih]
    rfl
theorem bytes_of {x : Nat} (h : x < 2 ^ 64) : ∃ b0 b1 b2 b3 b4 b5 b6 b7, x = num [b0, b1, b2, b3, b4, b5, b6, b7] ∧ b0 < 256 ∧ b1 < 256 ∧ b2 < 256 ∧ b3 < 256 ∧ b4 < 256 ∧ b5 < 256 ∧ b6 < 256 ∧ b7 < 256 := by
  refine ⟨x % 256, x / 256 % 256, x / 256 / 256 % 256, x / 256 / 256 / 256 % 256, x / 256 / 256 / 256 / 256 % 256, x / 256 / 256 / 256 / 256 / 256 % 256, x / 256 / 256 / 256 / 256 / 256 / 256 % 256, x / 256 / 256 / 256 / 256 / 256 / 256 / 256 % 256, ?_, ?_⟩
  · simp only [num]; omega
  · omega

/-- The library's way. -/
theorem pop_spec (x : Nat) (h : x < 2 ^ 64) (y1 y2 y3 x1 x2 x3 : Nat) (e1 : y1 = (x / 2 &&& 6148914691236517205) + (x &&& 6148914691236517205)) (e2 : y2 = (y1 / 4 &&& 3689348814741910323) + (y1 &&& 3689348814741910323)) (e3 : y3 = (y2 / 16 + y2) &&& 1085102592571150095)
    (f1 : x1 = y3 + y3 / 256) (f2 : x2 = x1 + x1 / 65536) (f3 : x3 = x2 + x2 / 4294967296) :
    x3 % 128 = cnt 64 x ∧ y1 < 18446744073709551616 ∧ y2 ≤ 4919131752989213764 ∧ y3 < 1152921504606846976 ∧ x1 < 2305843009213693952 ∧ x2 < 4611686018427387904 ∧ x3 < 9223372036854775808 := by
  obtain ⟨b0, b1, b2, b3, b4, b5, b6, b7, hx, h0, h1, h2, h3, h4, h5, h6, h7⟩ := bytes_of h
  generalize hl : [b0, b1, b2, b3, b4, b5, b6, b7] = l at hx
  have hlen : l.length = 8 := by rw [← hl]; rfl
  have hall : ∀ b ∈ l, b < 256 := by
    intro b hb
    rw [← hl] at hb
    simp only [List.mem_cons, List.not_mem_nil, or_false] at hb
    rcases hb with rfl | rfl | rfl | rfl | rfl | rfl | rfl | rfl <;> assumption
  have s1 := st1 l hall
  rw [hlen, show msk 85 8 = 6148914691236517205 from rfl, ← hx, ← e1] at s1
  have hall1 : ∀ b ∈ l.map g1, b < 256 := by
    intro b hb
    obtain ⟨a, ha, rfl⟩ := List.mem_map.1 hb
    exact fing1 ⟨a, hall a ha⟩
  have s2 := st2 (l.map g1) hall1
  rw [List.length_map, hlen, show msk 51 8 = 3689348814741910323 from rfl, ← s1, ← e2] at s2
  have hall2 : ∀ b ∈ (l.map g1).map g2, b ≤ 68 ∧ b % 16 ≤ 4 := by
    intro b hb
    rw [List.map_map] at hb
    obtain ⟨a, ha, rfl⟩ := List.mem_map.1 hb
    exact fing2 ⟨a, hall a ha⟩
  have s3 := st3 ((l.map g1).map g2) hall2
  rw [List.length_map, List.length_map, hlen, show msk 15 8 = 1085102592571150095 from rfl, ← s2, ← e3] at s3
  have hpop : ((l.map g1).map g2).map g3 = l.map pop8 := by
    rw [List.map_map, List.map_map]
    refine List.map_congr_left fun a ha => ?_
    exact (fing3 ⟨a, hall a ha⟩).1
  rw [hpop] at s3
  have hc := cnt_num l hall
  rw [hlen, ← hx] at hc
  have u1 : y1 < 18446744073709551616 := by
    rw [s1]
    have := num_lt hall1
    rw [List.length_map, hlen] at this
    exact this
  have u2 : y2 ≤ 4919131752989213764 := by
    have := num_le _ fun b hb => (hall2 b hb).1
    rw [List.length_map, List.length_map, hlen, ← s2] at this
    exact this
  have p : ∀ b, b ∈ l → pop8 b ≤ 8 := fun b hb => (fing3 ⟨b, hall b hb⟩).2
  rw [← hl] at p s3 hc
  simp only [List.map_cons, List.map_nil] at s3 hc
  have fin := st4 (pop8 b0) (pop8 b1) (pop8 b2) (pop8 b3) (pop8 b4) (pop8 b5) (pop8 b6) (pop8 b7) (p b0 (by simp)) (p b1 (by simp)) (p b2 (by simp)) (p b3 (by simp)) (p b4 (by simp)) (p b5 (by simp)) (p b6 (by simp)) (p b7 (by simp)) y3 s3.symm.symm x1 x2 x3 f1 f2 f3
  rw [hc]
  exact ⟨fin.1, u1, u2, fin.2.1, fin.2.2.1, fin.2.2.2.1, fin.2.2.2.2⟩

end Go.Pi

/- Words of bits: set, kept; the machine's operations on them. -/
namespace Go.Pi
open Go
set_option linter.unusedVariables false
set_option linter.unusedSimpArgs false

theorem wrap_w64 {x : Int} (h : word x) : IntKind.u64.wrap x = x := by
  obtain ⟨h1, h2⟩ := h
  simp only [IntKind.wrap, IntKind.bits, IntKind.signed]
  have : (2 : Int) ^ 64 = 18446744073709551616 := by decide
  first
    | (simp only [this]; split <;> omega)
    | (simp; omega)
theorem word_nat {n : Nat} (h : n < 2 ^ 64) : word (n : Int) := ⟨by omega, by omega⟩
theorem word_lt {w : Int} (h : word w) : w.toNat < 2 ^ 64 := by obtain ⟨h1, h2⟩ := h; omega
theorem word_cast {w : Int} (h : word w) : ((w.toNat : Nat) : Int) = w := Int.toNat_of_nonneg h.1
theorem bv_nat {a : Int} (h : word a) : BitVec.ofInt 64 a = BitVec.ofNat 64 a.toNat := by
  have := word_cast h
  rw [← this, BitVec.ofInt_natCast, Int.toNat_natCast]

def andW (a b : Int) : Int := ((a.toNat &&& b.toNat : Nat) : Int)
def orW (a b : Int) : Int := ((a.toNat ||| b.toNat : Nat) : Int)
theorem andW_word {a b : Int} (ha : word a) : word (andW a b) := word_nat (Nat.lt_of_le_of_lt Nat.and_le_left (word_lt ha))
theorem orW_word {a b : Int} (ha : word a) (hb : word b) : word (orW a b) := word_nat (Nat.or_lt_two_pow (word_lt ha) (word_lt hb))
theorem real_and {a b : Int} (ha : word a) (hb : word b) : Real .arith .and .u64 a b = andW a b := by
  show IntKind.u64.wrap ((BitVec.ofInt 64 a &&& BitVec.ofInt 64 b).toNat : Int) = _
  rw [bv_nat ha, bv_nat hb, BitVec.toNat_and, BitVec.toNat_ofNat, BitVec.toNat_ofNat, Nat.mod_eq_of_lt (word_lt ha), Nat.mod_eq_of_lt (word_lt hb)]
  exact wrap_w64 (andW_word ha)
theorem real_or {a b : Int} (ha : word a) (hb : word b) : Real .arith .or .u64 a b = orW a b := by
  show IntKind.u64.wrap ((BitVec.ofInt 64 a ||| BitVec.ofInt 64 b).toNat : Int) = _
  rw [bv_nat ha, bv_nat hb, BitVec.toNat_or, BitVec.toNat_ofNat, BitVec.toNat_ofNat, Nat.mod_eq_of_lt (word_lt ha), Nat.mod_eq_of_lt (word_lt hb)]
  exact wrap_w64 (orW_word ha hb)
/-- 1 << k -/
def oneW (k : Int) : Int := ((2 ^ k.toNat : Nat) : Int)
theorem oneW_word {k : Int} (h : k < 64) : word (oneW k) := word_nat (Nat.pow_lt_pow_right (by decide) (by omega))
theorem real_shl1 {k : Int} (h0 : 0 ≤ k) (h : k < 64) : Real .shift .shl .u64 1 k = oneW k := by
  show IntKind.u64.wrap (1 * 2 ^ (min k.toNat 64)) = _
  rw [Nat.min_eq_left (by omega), Int.one_mul]
  have : (2 : Int) ^ k.toNat = oneW k := by simp [oneW]
  rw [this, wrap_w64 (oneW_word h)]
theorem oneW_bit {k : Int} (h0 : 0 ≤ k) (n : Nat) : (oneW k).toNat.testBit n = decide ((n : Int) = k) := by
  show ((2 ^ k.toNat : Nat)).testBit n = _
  rw [Nat.testBit_two_pow]
  congr 1
  simp only [eq_iff_iff]
  omega
theorem andW_bit (a b : Int) (n : Nat) : (andW a b).toNat.testBit n = (a.toNat.testBit n && b.toNat.testBit n) := Nat.testBit_and ..
theorem orW_bit (a b : Int) (n : Nat) : (orW a b).toNat.testBit n = (a.toNat.testBit n || b.toNat.testBit n) := Nat.testBit_or ..
def notW (a : Int) : Int := 18446744073709551615 - a
theorem notW_word {a : Int} (h : word a) : word (notW a) := by obtain ⟨h1, h2⟩ := h; unfold notW; exact ⟨by omega, by omega⟩
theorem notW_bit {a : Int} (h : word a) {n : Nat} (hn : n < 64) : (notW a).toNat.testBit n = !a.toNat.testBit n := by
  have e : (notW a).toNat = 2 ^ 64 - (a.toNat + 1) := by obtain ⟨h1, h2⟩ := h; unfold notW; omega
  rw [e, Nat.testBit_two_pow_sub_succ (word_lt h)]
  simp [hn]
theorem real_not64 {a : Int} (h : word a) : Real .un .xor .u64 a = notW a := by
  show IntKind.u64.wrap ((BitVec.ofInt 64 18446744073709551615 ^^^ BitVec.ofInt 64 a).toNat : Int) = _
  have e1 : BitVec.ofInt 64 18446744073709551615 = BitVec.allOnes 64 := by decide
  rw [e1, bv_nat h, BitVec.allOnes_xor, BitVec.toNat_not, BitVec.toNat_ofNat, Nat.mod_eq_of_lt (word_lt h)]
  have : ((2 ^ 64 - 1 - a.toNat : Nat) : Int) = notW a := by obtain ⟨h1, h2⟩ := h; unfold notW; omega
  rw [this, wrap_w64 (notW_word h)]
/-- x >> k & 1 -/
theorem real_shr {a k : Int} (h : word a) (h0 : 0 ≤ k) (h1 : k < 64) : Real .shift .shr .u64 a k = ((a.toNat >>> k.toNat : Nat) : Int) := by
  show a.fdiv (2 ^ (min k.toNat 64)) = _
  rw [Nat.min_eq_left (by omega), Nat.shiftRight_eq_div_pow]
  have : (2 : Int) ^ k.toNat = ((2 ^ k.toNat : Nat) : Int) := by simp
  rw [this, Int.fdiv_eq_ediv_of_nonneg _ (Int.natCast_nonneg _), Int.natCast_ediv, word_cast h]
theorem shr_word {a : Int} (h : word a) (k : Nat) : word ((a.toNat >>> k : Nat) : Int) := word_nat (Nat.lt_of_le_of_lt (by rw [Nat.shiftRight_eq_div_pow]; exact Nat.div_le_self ..) (word_lt h))
theorem bit_one (n k : Nat) : (andW ((n >>> k : Nat) : Int) 1 == 1) = n.testBit k := by
  unfold andW
  have e : ((1 : Int)).toNat = 1 := rfl
  rw [e, Int.toNat_natCast, Nat.and_one_is_mod, Nat.shiftRight_eq_div_pow, Nat.testBit_eq_decide_div_mod_eq]
  rw [Bool.eq_iff_iff, beq_iff_eq, decide_eq_true_eq]
  omega

/-- The multiple of 64 that isn't above. -/
def plcS (v : Int) : Int := v - v % 64
theorem plcS_al (v : Int) : plcS v % 64 = 0 := by unfold plcS; omega
theorem plcS_le (v : Int) : plcS v ≤ v ∧ v < plcS v + 64 := by unfold plcS; omega
theorem plcS_eq {a v : Int} (ha : a % 64 = 0) : a = plcS v ↔ a ≤ v ∧ v < a + 64 := by unfold plcS; omega
theorem andnot63 (u : Nat) (h : u < 2 ^ 64) : (BitVec.ofNat 64 u &&& ~~~(63#64)).toNat = u - u % 64 := by
  have e2 : (~~~(63#64)).toNat = 2 ^ 64 - (63 + 1) := by decide
  have e : (BitVec.ofNat 64 u &&& ~~~(63#64)).toNat = (u / 2 ^ 6) * 2 ^ 6 := by
    rw [BitVec.toNat_and, BitVec.toNat_ofNat, Nat.mod_eq_of_lt h, e2]
    apply Nat.eq_of_testBit_eq
    intro i
    rw [Nat.testBit_and, Nat.testBit_mul_two_pow, Nat.testBit_div_two_pow, Nat.testBit_two_pow_sub_succ (by decide) i, show (63 : Nat) = 2 ^ 6 - 1 from rfl, Nat.testBit_two_pow_sub_one]
    by_cases h6 : 6 ≤ i
    · rw [show i - 6 + 6 = i by omega]
      by_cases h64 : i < 64
      · simp [h6, h64]
      · have : u.testBit i = false := Nat.testBit_lt_two_pow (Nat.lt_of_lt_of_le h (Nat.pow_le_pow_right (by decide) (by omega)))
        simp [this]
    · simp [h6]; omega
  rw [e]; omega
theorem real_place {v : Int} (h : i64 v) : Real .arith .andNot .i64 v 63 = plcS v := by
  obtain ⟨h1, h2⟩ := h
  show IntKind.i64.wrap ((BitVec.ofInt 64 v &&& ~~~(BitVec.ofInt 64 63)).toNat : Int) = _
  have e1 : BitVec.ofInt 64 v = BitVec.ofNat 64 (v % 18446744073709551616).toNat := by
    apply BitVec.eq_of_toNat_eq
    rw [BitVec.toNat_ofInt, BitVec.toNat_ofNat]
    omega
  have e2 : BitVec.ofInt 64 63 = 63#64 := by decide
  rw [e1, e2, andnot63 _ (by omega)]
  simp only [IntKind.wrap, IntKind.bits, IntKind.signed]
  unfold plcS
  have : (2 : Int) ^ 64 = 18446744073709551616 := by decide
  first
    | (simp only [this]; split <;> omega)
    | (simp; omega)

/-! ### Words set, words kept -/
def setW (off : Int) (ws : List Int) (v : Int) : List Int := ws.set ((v - off) / 64).toNat (orW (ws.getD ((v - off) / 64).toNat 0) (oneW ((v - off) % 64)))
theorem setW_len (off : Int) (ws : List Int) (v : Int) : (setW off ws v).length = ws.length := by simp [setW]
theorem getD_setI {l : List Int} {i k : Nat} {x : Int} (h : i < l.length) : (l.set i x).getD k 0 = if k = i then x else l.getD k 0 := by
  simp only [List.getD_eq_getElem?_getD, List.getElem?_set]
  by_cases e : k = i
  · subst e; simp [h]
  · rw [if_neg (fun h => e h.symm), if_neg e]
theorem getD_word {ws : List Int} (h : ∀ x ∈ ws, word x) (k : Nat) : word (ws.getD k 0) := by
  rw [List.getD_eq_getElem?_getD]
  cases hk : ws[k]? with
  | none => exact ⟨by simp, by simp⟩
  | some x => exact h x (List.mem_of_getElem? hk)
theorem setW_words {off v : Int} {ws : List Int} (h : ∀ x ∈ ws, word x) : ∀ x ∈ setW off ws v, word x := by
  intro x hx
  rcases List.mem_or_eq_of_mem_set hx with hx | rfl
  · exact h x hx
  · exact orW_word (getD_word h _) (oneW_word (by omega))
theorem hasW_set {off v : Int} {ws : List Int} (h0 : off ≤ v) (h1 : v < off + 64 * ws.length) (u : Int) : hasW off (setW off ws v) u = (hasW off ws u || u == v) := by
  unfold hasW setW
  rw [getD_setI (by omega)]
  by_cases hu : off ≤ u
  · simp only [hu, decide_true, Bool.true_and]
    by_cases e : ((u - off) / 64).toNat = ((v - off) / 64).toNat
    · rw [if_pos e, orW_bit, oneW_bit (by omega), e]
      congr 1
      rw [Bool.eq_iff_iff]
      simp
      omega
    · rw [if_neg e]
      have : (u == v) = false := by
        simp
        rintro rfl
        exact e rfl
      rw [this, Bool.or_false]
  · have : (u == v) = false := by simp; omega
    simp [hu, this]
theorem hasW_zeros (off : Int) (n : Nat) (u : Int) : hasW off (List.replicate n 0) u = false := by
  unfold hasW
  rw [List.getD_eq_getElem?_getD, List.getElem?_replicate]
  split <;> simp
/-- A list's words, that a rising list is of. -/
theorem listW_eq {off : Int} {ws l : List Int} (hl : Rising l) (h : ∀ v, hasW off ws v = decide (v ∈ l)) : listW off ws = l :=
  rising_ext (listW_rising _ _) hl fun v => by rw [mem_listW, h]; simp

def keepW (off : Int) (ws : List Int) (k : Int → Int) : List Int := (List.range ws.length).map fun i => andW (ws.getD i 0) (k (off + 64 * i))
theorem keepW_len (off : Int) (ws : List Int) (k : Int → Int) : (keepW off ws k).length = ws.length := by simp [keepW]
theorem keepW_words {off : Int} {ws : List Int} {k : Int → Int} (h : ∀ x ∈ ws, word x) : ∀ x ∈ keepW off ws k, word x := by
  intro x hx
  obtain ⟨i, _, rfl⟩ := List.mem_map.1 hx
  exact andW_word (getD_word h _)
theorem keepW_list {off : Int} {ws : List Int} {k : Int → Int} {p : Int → Bool} (hoff : off % 64 = 0) (hk : ∀ a v, a % 64 = 0 → off ≤ a → a < off + 64 * ws.length → a ≤ v → v < a + 64 → (k a).toNat.testBit (v - a).toNat = p v) :
    listW off (keepW off ws k) = (listW off ws).filter p := by
  refine rising_ext (listW_rising _ _) ((listW_rising _ _).filter p) fun v => ?_
  rw [List.mem_filter, mem_listW, mem_listW, ← Bool.and_eq_true, ← Bool.eq_iff_iff]
  by_cases h0 : off ≤ v
  · by_cases h1 : v < off + 64 * ws.length
    · unfold hasW keepW
      have hi : ((v - off) / 64).toNat < ws.length := by omega
      have e : ((List.range ws.length).map fun i => andW (ws.getD i 0) (k (off + 64 * (i : Int)))).getD ((v - off) / 64).toNat 0 = andW (ws.getD ((v - off) / 64).toNat 0) (k (off + 64 * (((v - off) / 64).toNat : Int))) := by
        simp [List.getD_eq_getElem?_getD, hi]
      rw [e, andW_bit]
      have := hk (off + 64 * (((v - off) / 64).toNat : Int)) v (by omega) (by omega) (by omega) (by omega) (by omega)
      rw [show (v - (off + 64 * (((v - off) / 64).toNat : Int))).toNat = ((v - off) % 64).toNat by omega] at this
      rw [this, Bool.and_assoc]
    · have a1 : hasW off ws v = false := by
        cases hh : hasW off ws v with
        | false => rfl
        | true => exact absurd (listW_lt (mem_listW.2 hh)) h1
      have a2 : hasW off (keepW off ws k) v = false := by
        cases hh : hasW off (keepW off ws k) v with
        | false => rfl
        | true =>
          have := listW_lt (mem_listW.2 hh)
          rw [keepW_len] at this
          exact absurd this h1
      rw [a1, a2]; rfl
  · unfold hasW; simp [h0]

/-- The word that begins at a place. -/
def wrdS (off : Int) (ws : List Int) (a : Int) : Int := if a < off ∨ (a - off) / 64 ≥ ws.length then 0 else ws.getD ((a - off) / 64).toNat 0
theorem wrdS_word {off : Int} {ws : List Int} (h : ∀ x ∈ ws, word x) (a : Int) : word (wrdS off ws a) := by
  unfold wrdS
  split
  · exact ⟨by simp, by simp⟩
  · exact getD_word h _
theorem wrdS_bit {off a v : Int} {ws : List Int} (ho : off % 64 = 0) (ha : a % 64 = 0) (h1 : a ≤ v) (h2 : v < a + 64) : (wrdS off ws a).toNat.testBit (v - a).toNat = hasW off ws v := by
  unfold wrdS hasW
  split
  · rename_i h
    rcases h with h | h
    · have : ¬ off ≤ v := by omega
      simp [this]
    · rw [List.getD_eq_getElem?_getD, List.getElem?_eq_none (by omega)]
      simp
  · rename_i h
    have e0 : off ≤ v := by omega
    have e1 : ((v - off) / 64).toNat = ((a - off) / 64).toNat := by omega
    have e2 : ((v - off) % 64).toNat = (v - a).toNat := by omega
    rw [e1, e2]
    simp [e0]
/-- Numbers set, one by one. -/
def fillW (off : Int) (z : List Int) (l : List Int) : List Int := l.foldl (fun w v => setW off w v) z
theorem fillW_len (off : Int) (z l : List Int) : (fillW off z l).length = z.length := by
  unfold fillW
  induction l generalizing z with
  | nil => rfl
  | cons v r ih => rw [List.foldl_cons, ih, setW_len]
theorem fillW_words {off : Int} {z l : List Int} (h : ∀ x ∈ z, word x) : ∀ x ∈ fillW off z l, word x := by
  unfold fillW
  induction l generalizing z with
  | nil => exact h
  | cons v r ih => rw [List.foldl_cons]; exact ih (setW_words h)
theorem hasW_fill {off : Int} {z l : List Int} (h : ∀ v ∈ l, off ≤ v ∧ v < off + 64 * z.length) (u : Int) : hasW off (fillW off z l) u = (hasW off z u || l.contains u) := by
  unfold fillW
  induction l generalizing z with
  | nil => simp
  | cons v r ih =>
    have hv := h v (by simp)
    rw [List.foldl_cons, ih (fun x hx => by rw [setW_len]; exact h x (by simp [hx])), hasW_set hv.1 hv.2, List.contains_cons, Bool.or_assoc]
theorem fillW_snoc (off : Int) (z l : List Int) (v : Int) : fillW off z (l ++ [v]) = setW off (fillW off z l) v := by simp [fillW]
theorem zeros_words (n : Nat) : ∀ x ∈ List.replicate n (0 : Int), word x := fun x hx => by
  rw [List.mem_replicate] at hx
  rw [hx.2]; exact ⟨by decide, by decide⟩
theorem fill_list {off : Int} {n : Nat} {l s : List Int} (h : ∀ v ∈ l, off ≤ v ∧ v < off + 64 * n) (hs : Rising s) (hm : ∀ u, u ∈ s ↔ u ∈ l) : listW off (fillW off (List.replicate n 0) l) = s :=
  listW_eq hs fun v => by
    rw [hasW_fill (by simpa using h), hasW_zeros, Bool.false_or, Bool.eq_iff_iff]
    simp [hm]
theorem u64s_setW {off v : Int} {ws : List Int} : u64s (setW off ws v) = (u64s ws).set ((v - off) / 64).toNat [U64 (orW (ws.getD ((v - off) / 64).toNat 0) (oneW ((v - off) % 64)))] := by
  simp [u64s, setW, List.map_set]

/-! ### Bits from a place on -/
def onesW : Int := 18446744073709551615
theorem onesW_word : word onesW := ⟨by decide, by decide⟩
theorem onesW_bit {n : Nat} (h : n < 64) : onesW.toNat.testBit n = true := by
  show (2 ^ 64 - 1 : Nat).testBit n = true
  rw [Nat.testBit_two_pow_sub_one]; simpa using h
def shlW (a k : Int) : Int := ((a.toNat * 2 ^ k.toNat % 2 ^ 64 : Nat) : Int)
theorem shlW_word (a k : Int) : word (shlW a k) := word_nat (Nat.mod_lt _ (by decide))
theorem real_shl {a k : Int} (h : word a) (h0 : 0 ≤ k) (h1 : k < 64) : Real .shift .shl .u64 a k = shlW a k := by
  show IntKind.u64.wrap (a * 2 ^ (min k.toNat 64)) = _
  rw [Nat.min_eq_left (by omega)]
  have e : a * 2 ^ k.toNat = ((a.toNat * 2 ^ k.toNat : Nat) : Int) := by
    rw [Int.natCast_mul, word_cast h]; simp
  rw [e]
  unfold shlW
  generalize a.toNat * 2 ^ k.toNat = m
  simp only [IntKind.wrap, IntKind.bits, IntKind.signed]
  have : (2 : Int) ^ 64 = 18446744073709551616 := by decide
  simp
theorem shlW_bit {k : Int} (h0 : 0 ≤ k) (h1 : k < 64) {n : Nat} (hn : n < 64) : (shlW onesW k).toNat.testBit n = decide (k ≤ (n : Int)) := by
  show (onesW.toNat * 2 ^ k.toNat % 2 ^ 64 : Nat).testBit n = _
  rw [Nat.testBit_mod_two_pow, Nat.testBit_mul_two_pow]
  by_cases h : k.toNat ≤ n
  · have := onesW_bit (n := n - k.toNat) (by omega)
    simp [hn, h, this]; omega
  · simp [h]; omega
def aboveW (a v : Int) : Int := if v ≤ a then onesW else if v - a ≥ 64 then 0 else shlW onesW (v - a)
theorem aboveW_word (a v : Int) : word (aboveW a v) := by
  unfold aboveW
  split
  · exact onesW_word
  · split
    · exact ⟨by decide, by decide⟩
    · exact shlW_word _ _
theorem aboveW_bit {a v u : Int} (h1 : a ≤ u) (h2 : u < a + 64) : (aboveW a v).toNat.testBit (u - a).toNat = decide (v ≤ u) := by
  unfold aboveW
  split
  · rw [onesW_bit (by omega)]; simp; omega
  · split
    · simp; omega
    · rw [shlW_bit (by omega) (by omega) (by omega)]
      rw [Bool.eq_iff_iff]; simp; omega
def butW (v a : Int) : Int := if a = plcS v then notW (oneW (v - a)) else onesW
theorem butW_word (v a : Int) : word (butW v a) := by
  unfold butW
  split
  · rename_i h; exact notW_word (oneW_word (by have := plcS_le v; omega))
  · exact onesW_word
theorem butW_bit {v a u : Int} (ha : a % 64 = 0) (h1 : a ≤ u) (h2 : u < a + 64) : (butW v a).toNat.testBit (u - a).toNat = decide (u ≠ v) := by
  unfold butW
  split
  · rename_i h
    have := plcS_le v
    rw [notW_bit (oneW_word (by omega)) (by omega), oneW_bit (by omega), Bool.eq_iff_iff]
    simp
    omega
  · rename_i h
    rw [onesW_bit (by omega)]
    have : u ≠ v := by
      rintro rfl
      exact h ((plcS_eq ha).2 ⟨h1, h2⟩)
    simp [this]

def changeS (l l' : List Int) : Int := if l'.length = l.length then 0 else if l'.length = 0 then 4 else if l'.length = 1 then 3 else if headS l' ≠ headS l ∨ lastS l' ≠ lastS l then 2 else 1

end Go.Pi

/- Rising lists of numbers, rows of values of them: in plain lists. -/
namespace Go.Pi
open Go
set_option linter.unusedVariables false
set_option linter.unusedSimpArgs false

/-! ### The rising list of some numbers -/
def insS (v : Int) : List Int → List Int
  | [] => [v]
  | x :: r => if v < x then v :: x :: r else if v = x then x :: r else x :: insS v r
theorem mem_insS {v u : Int} : ∀ {l : List Int}, u ∈ insS v l ↔ u = v ∨ u ∈ l
  | [] => by simp [insS]
  | x :: r => by
    simp only [insS]
    split
    · simp
    · split
      · rename_i h; subst h; simp
      · simp only [List.mem_cons, mem_insS (l := r)]
        constructor
        · rintro (h | h | h) <;> simp [h]
        · rintro (h | h | h) <;> simp [h]
theorem insS_rising {v : Int} : ∀ {l : List Int}, Rising l → Rising (insS v l)
  | [], _ => List.pairwise_singleton _ _
  | x :: r, h => by
    have h' := List.pairwise_cons.1 h
    simp only [insS]
    split
    · refine List.pairwise_cons.2 ⟨fun u hu => ?_, h⟩
      rcases List.mem_cons.1 hu with rfl | hu
      · assumption
      · have := h'.1 u hu; omega
    · split
      · exact h
      · refine List.pairwise_cons.2 ⟨fun u hu => ?_, insS_rising h'.2⟩
        rcases mem_insS.1 hu with rfl | hu
        · omega
        · exact h'.1 u hu
theorem insS_len {v : Int} : ∀ (l : List Int), (insS v l).length ≤ l.length + 1
  | [] => by simp [insS]
  | x :: r => by
    have := insS_len (v := v) r
    simp only [insS]
    split
    · simp
    · split
      · simp
      · simp; omega
theorem insS_in {v : Int} : ∀ {l : List Int}, Rising l → v ∈ l → insS v l = l := fun {l} h hv =>
  rising_ext (insS_rising h) h fun u => by
    rw [mem_insS]
    exact ⟨fun h => h.elim (fun e => e ▸ hv) id, .inr⟩
def setS (l : List Int) : List Int := l.foldl (fun o v => insS v o) []
theorem setS_foldl (l o : List Int) (ho : Rising o) : Rising (l.foldl (fun o v => insS v o) o) ∧ (∀ u, u ∈ l.foldl (fun o v => insS v o) o ↔ u ∈ o ∨ u ∈ l) ∧ (l.foldl (fun o v => insS v o) o).length ≤ o.length + l.length := by
  induction l generalizing o with
  | nil => exact ⟨ho, by simp, by simp⟩
  | cons x r ih =>
    obtain ⟨h1, h2, h3⟩ := ih (insS x o) (insS_rising ho)
    refine ⟨h1, fun u => ?_, ?_⟩
    · rw [List.foldl_cons, h2, mem_insS, List.mem_cons]
      constructor
      · rintro ((h | h) | h) <;> simp [h]
      · rintro (h | h | h) <;> simp [h]
    · have := insS_len (v := x) o
      simp only [List.foldl_cons, List.length_cons]
      omega
theorem setS_rising (l : List Int) : Rising (setS l) := (setS_foldl l [] List.Pairwise.nil).1
theorem mem_setS {l : List Int} {u : Int} : u ∈ setS l ↔ u ∈ l := by rw [setS, (setS_foldl l [] List.Pairwise.nil).2.1]; simp
theorem setS_len (l : List Int) : (setS l).length ≤ l.length := by have := (setS_foldl l [] List.Pairwise.nil).2.2; simpa [setS] using this
theorem setS_self {l : List Int} (h : Rising l) : setS l = l := rising_ext (setS_rising l) h fun u => mem_setS
theorem setS_nil {l : List Int} : setS l = [] ↔ l = [] := by
  constructor
  · intro h
    cases l with
    | nil => rfl
    | cons x r =>
      have : x ∈ setS (x :: r) := mem_setS.2 (by simp)
      rw [h] at this; simp at this
  · rintro rfl; rfl
theorem setS_snoc (l : List Int) (v : Int) : setS (l ++ [v]) = insS v (setS l) := by simp [setS]
/-- Sorted, and each number once. -/
theorem setS_ext {l m : List Int} (h : Rising m) (hm : ∀ u, u ∈ m ↔ u ∈ l) : setS l = m := rising_ext (setS_rising l) h fun u => by rw [mem_setS, hm]

def hasL (l : List Int) (v : Int) : Bool := l.contains v
theorem hasL_iff {l : List Int} {v : Int} : hasL l v = true ↔ v ∈ l := List.contains_iff_mem
theorem hasL_not {l : List Int} {v : Int} : hasL l v = false ↔ v ∉ l := by rw [← hasL_iff]; cases hasL l v <;> simp
/-! ### The least, the greatest -/
theorem headS_mem {l : List Int} (h : l ≠ []) : headS l ∈ l := by
  cases l with
  | nil => exact absurd rfl h
  | cons x r => simp [headS]
theorem lastS_mem {l : List Int} (h : l ≠ []) : lastS l ∈ l := by
  unfold lastS
  cases l with
  | nil => exact absurd rfl h
  | cons x r =>
    rw [List.getLastD_cons]
    have : ∀ (r : List Int) (x : Int), r.getLastD x ∈ x :: r := by
      intro r
      induction r with
      | nil => intro x; simp
      | cons y r ih => intro x; rw [List.getLastD_cons]; exact List.mem_cons_of_mem _ (ih y)
    exact this r x
theorem headS_le {l : List Int} (h : Rising l) : ∀ v ∈ l, headS l ≤ v := by
  cases l with
  | nil => simp
  | cons x r =>
    intro v hv
    have h' := List.pairwise_cons.1 h
    rcases List.mem_cons.1 hv with rfl | hv
    · simp [headS]
    · have := h'.1 v hv; simp [headS]; omega
theorem lastS_ge {l : List Int} (h : Rising l) : ∀ v ∈ l, v ≤ lastS l := by
  have key : ∀ (l : List Int) (d : Int), Rising l → ∀ v ∈ l, v ≤ l.getLastD d := by
    intro l
    induction l with
    | nil => simp
    | cons x r ih =>
      intro d h v hv
      have h' := List.pairwise_cons.1 h
      rw [List.getLastD_cons]
      rcases List.mem_cons.1 hv with rfl | hv
      · cases r with
        | nil => simp
        | cons y r =>
          have h1 := h'.1 y (by simp)
          have h2 := ih v h'.2 y (by simp)
          omega
      · exact ih x h'.2 v hv
  exact key l 0 h
theorem getD_lt_head {l : List Int} (h : l ≠ []) : l.getD 0 0 = headS l := by cases l <;> simp [headS] at *
theorem getLast_lastS {l : List Int} (h : l ≠ []) : l.getD (l.length - 1) 0 = lastS l := by
  unfold lastS
  rw [List.getLastD_eq_getLast?, List.getLast?_eq_getElem?, List.getD_eq_getElem?_getD]

/-- The greatest and the least of any numbers. -/
def maxS : List Int → Int
  | [] => 0
  | x :: r => r.foldl (fun a b => if b > a then b else a) x
def minS : List Int → Int
  | [] => 0
  | x :: r => r.foldl (fun a b => if b < a then b else a) x
theorem max_foldl (l : List Int) (a : Int) : a ≤ l.foldl (fun a b => if b > a then b else a) a ∧ (∀ v ∈ l, v ≤ l.foldl (fun a b => if b > a then b else a) a) ∧ (l.foldl (fun a b => if b > a then b else a) a = a ∨ l.foldl (fun a b => if b > a then b else a) a ∈ l) := by
  induction l generalizing a with
  | nil => simp
  | cons x r ih =>
    obtain ⟨h1, h2, h3⟩ := ih (if x > a then x else a)
    rw [List.foldl_cons]
    generalize r.foldl (fun a b => if b > a then b else a) (if x > a then x else a) = q at h1 h2 h3
    refine ⟨by split at h1 <;> omega, fun v hv => ?_, ?_⟩
    · rcases List.mem_cons.1 hv with rfl | hv
      · split at h1 <;> omega
      · exact h2 v hv
    · rcases h3 with h3 | h3
      · split at h3
        · right; rw [h3]; simp
        · left; exact h3
      · right; exact List.mem_cons_of_mem _ h3
theorem min_foldl (l : List Int) (a : Int) : l.foldl (fun a b => if b < a then b else a) a ≤ a ∧ (∀ v ∈ l, l.foldl (fun a b => if b < a then b else a) a ≤ v) ∧ (l.foldl (fun a b => if b < a then b else a) a = a ∨ l.foldl (fun a b => if b < a then b else a) a ∈ l) := by
  induction l generalizing a with
  | nil => simp
  | cons x r ih =>
    obtain ⟨h1, h2, h3⟩ := ih (if x < a then x else a)
    rw [List.foldl_cons]
    generalize r.foldl (fun a b => if b < a then b else a) (if x < a then x else a) = q at h1 h2 h3
    refine ⟨by split at h1 <;> omega, fun v hv => ?_, ?_⟩
    · rcases List.mem_cons.1 hv with rfl | hv
      · split at h1 <;> omega
      · exact h2 v hv
    · rcases h3 with h3 | h3
      · split at h3
        · right; rw [h3]; simp
        · left; exact h3
      · right; exact List.mem_cons_of_mem _ h3
theorem maxS_spec {l : List Int} (h : l ≠ []) : maxS l ∈ l ∧ ∀ v ∈ l, v ≤ maxS l := by
  cases l with
  | nil => exact absurd rfl h
  | cons x r =>
    obtain ⟨h1, h2, h3⟩ := max_foldl r x
    refine ⟨?_, fun v hv => ?_⟩
    · rcases h3 with h3 | h3
      · show maxS _ ∈ _; rw [show maxS (x :: r) = x from h3]; simp
      · exact List.mem_cons_of_mem _ h3
    · rcases List.mem_cons.1 hv with rfl | hv
      · exact h1
      · exact h2 v hv
theorem minS_spec {l : List Int} (h : l ≠ []) : minS l ∈ l ∧ ∀ v ∈ l, minS l ≤ v := by
  cases l with
  | nil => exact absurd rfl h
  | cons x r =>
    obtain ⟨h1, h2, h3⟩ := min_foldl r x
    refine ⟨?_, fun v hv => ?_⟩
    · rcases h3 with h3 | h3
      · show minS _ ∈ _; rw [show minS (x :: r) = x from h3]; simp
      · exact List.mem_cons_of_mem _ h3
    · rcases List.mem_cons.1 hv with rfl | hv
      · exact h1
      · exact h2 v hv

theorem maxS_snoc {l : List Int} (h : l ≠ []) (v : Int) : maxS (l ++ [v]) = if v > maxS l then v else maxS l := by
  cases l with
  | nil => exact absurd rfl h
  | cons x r => simp [maxS]
theorem minS_snoc {l : List Int} (h : l ≠ []) (v : Int) : minS (l ++ [v]) = if v < minS l then v else minS l := by
  cases l with
  | nil => exact absurd rfl h
  | cons x r =>
    simp only [minS, List.cons_append, List.foldl_append, List.foldl_cons, List.foldl_nil]
    rfl
theorem take_ne {l : List Int} {j : Nat} (h : 0 < j) (h2 : j ≤ l.length) : l.take j ≠ [] := by
  intro e
  have := congrArg List.length e
  rw [List.length_take] at this
  simp only [List.length_nil] at this
  omega
theorem take_one {l : List Int} (h : 0 < l.length) : l.take 1 = [l.getD 0 0] := by
  cases l with
  | nil => simp at h
  | cons x r => simp

/-! ### Numbers from one to another one -/
def rangeL (low high : Int) : List Int := (List.range (high - low + 1).toNat).map fun (i : Nat) => low + (i : Int)
theorem mem_rangeL {low high v : Int} : v ∈ rangeL low high ↔ low ≤ v ∧ v ≤ high := by
  simp only [rangeL, List.mem_map, List.mem_range]
  constructor
  · rintro ⟨i, h1, rfl⟩; omega
  · rintro ⟨h1, h2⟩; exact ⟨(v - low).toNat, by omega, by omega⟩
theorem rangeL_rising (low high : Int) : Rising (rangeL low high) := by
  unfold rangeL Rising
  rw [List.pairwise_map]
  exact List.pairwise_lt_range.imp fun h => by omega

/-! ### A domain of numbers -/
/-- The error: 0 none, 4 there is none, 3 out of range, 5 too wide. -/
def ofE (l : List Int) : Int := if l = [] then 4 else if l.any farS then 3 else if maxS l - minS l ≥ 65536 then 5 else 0
def ofL (l : List Int) : List Int := if ofE l = 0 then setS l else []
/-- A list that a domain may be. -/
structure DomL (l : List Int) : Prop where
  rising : Rising l
  far : ∀ v ∈ l, -1000000 ≤ v ∧ v ≤ 1000000
  wide : ∀ u ∈ l, ∀ v ∈ l, u - v < 65536
theorem ofE_zero {l : List Int} : ofE l = 0 ↔ l ≠ [] ∧ (∀ v ∈ l, -1000000 ≤ v ∧ v ≤ 1000000) ∧ maxS l - minS l < 65536 := by
  unfold ofE
  split
  · rename_i h; simp [h]
  · rename_i h
    split
    · rename_i h2
      simp only [h, ne_eq, not_false_iff, true_and]
      constructor
      · intro h3; cases h3
      · rintro ⟨h3, _⟩
        obtain ⟨v, hv, hf⟩ := List.any_eq_true.1 h2
        have := h3 v hv
        simp [farS] at hf; omega
    · rename_i h2
      have h2' : ∀ v ∈ l, -1000000 ≤ v ∧ v ≤ 1000000 := fun v hv => by
        have : farS v = false := by
          cases hf : farS v with
          | false => rfl
          | true => exact absurd (List.any_eq_true.2 ⟨v, hv, hf⟩) h2
        simp [farS] at this; omega
      split
      · rename_i h3; constructor; (intro h; cases h); rintro ⟨_, _, h4⟩; omega
      · rename_i h3; exact ⟨fun _ => ⟨h, h2', by omega⟩, fun _ => rfl⟩
theorem ofL_dom (l : List Int) : DomL (ofL l) := by
  unfold ofL
  split
  · rename_i h
    obtain ⟨h1, h2, h3⟩ := ofE_zero.1 h
    refine ⟨setS_rising l, fun v hv => h2 v (mem_setS.1 hv), fun u hu v hv => ?_⟩
    have := (maxS_spec h1).2 u (mem_setS.1 hu)
    have := (minS_spec h1).2 v (mem_setS.1 hv)
    omega
  · exact ⟨List.Pairwise.nil, by simp, by simp⟩
theorem DomL.of {l : List Int} (h : DomL l) (h0 : l ≠ []) : ofE l = 0 ∧ ofL l = l := by
  have e : ofE l = 0 := ofE_zero.2 ⟨h0, h.far, h.wide _ (maxS_spec h0).1 _ (minS_spec h0).1⟩
  exact ⟨e, by rw [ofL, if_pos e, setS_self h.rising]⟩
theorem DomL.filter {l : List Int} (h : DomL l) (p : Int → Bool) : DomL (l.filter p) :=
  ⟨h.rising.filter p, fun v hv => h.far v (List.mem_filter.1 hv).1, fun u hu v hv => h.wide u (List.mem_filter.1 hu).1 v (List.mem_filter.1 hv).1⟩
theorem DomL.nil : DomL [] := ⟨List.Pairwise.nil, by simp, by simp⟩
theorem DomL.one {v : Int} (h : -1000000 ≤ v ∧ v ≤ 1000000) : DomL [v] := ⟨List.pairwise_singleton _ _, by simpa using h, by simp⟩

/-! ### Rows of values of domains -/
def inD : List Int → List (List Int) → Prop
  | [], [] => True
  | v :: r, d :: ds => v ∈ d ∧ inD r ds
  | _, _ => False
theorem inD_len : ∀ {r : List Int} {ds : List (List Int)}, inD r ds → r.length = ds.length
  | [], [], _ => rfl
  | v :: r, d :: ds, h => by simp [inD_len h.2]
  | [], _ :: _, h => h.elim
  | _ :: _, [], h => h.elim
theorem inD_get : ∀ {r : List Int} {ds : List (List Int)}, inD r ds ↔ r.length = ds.length ∧ ∀ i, i < ds.length → r.getD i 0 ∈ ds.getD i []
  | [], [] => by simp [inD]
  | v :: r, d :: ds => by
    simp only [inD, inD_get (r := r), List.length_cons]
    constructor
    · rintro ⟨h1, h2, h3⟩
      refine ⟨by omega, fun i hi => ?_⟩
      cases i with
      | zero => simpa using h1
      | succ i => simpa using h3 i (by omega)
    · rintro ⟨h1, h2⟩
      exact ⟨by simpa using h2 0 (by omega), by omega, fun i hi => by simpa using h2 (i + 1) (by omega)⟩
  | [], _ :: _ => by simp [inD]
  | _ :: _, [] => by simp [inD]
theorem inD_app : ∀ {x y : List Int} {a b : List (List Int)}, x.length = a.length → (inD (x ++ y) (a ++ b) ↔ inD x a ∧ inD y b)
  | [], y, [], b, _ => by simp [inD]
  | v :: x, y, d :: a, b, h => by
    simp only [List.cons_append, inD, inD_app (x := x) (a := a) (by simpa using h), and_assoc]
  | [], _, _ :: _, _, h => by simp at h
  | _ :: _, _, [], _, h => by simp at h
theorem inD_set : ∀ {r : List Int} {ds : List (List Int)} {i : Nat} {v : Int}, i < ds.length → v ∈ ds.getD i [] → (inD r (ds.set i [v]) ↔ inD r ds ∧ r.getD i 0 = v)
  | [], [], i, v, h, _ => by simp at h
  | u :: r, d :: ds, 0, v, _, hv => by
    simp only [List.set_cons_zero, inD, List.mem_singleton, List.getD_cons_zero] at *
    constructor
    · rintro ⟨rfl, h⟩; exact ⟨⟨hv, h⟩, rfl⟩
    · rintro ⟨⟨_, h⟩, rfl⟩; exact ⟨rfl, h⟩
  | u :: r, d :: ds, i + 1, v, h, hv => by
    simp only [List.set_cons_succ, inD, List.getD_cons_succ] at *
    rw [inD_set (by simpa using h) hv, and_assoc]
  | [], _ :: _, 0, _, _, _ => by simp [inD]
  | [], _ :: _, _ + 1, _, _, _ => by simp [inD]
  | _ :: _, [], _, _, h, _ => by simp at h
theorem inD_some : ∀ {ds : List (List Int)}, (∀ d ∈ ds, d ≠ []) → ∃ r, inD r ds
  | [], _ => ⟨[], trivial⟩
  | d :: ds, h => by
    obtain ⟨r, hr⟩ := inD_some (ds := ds) fun x hx => h x (by simp [hx])
    exact ⟨headS d :: r, headS_mem (h d (by simp)), hr⟩

/-- How many rows. -/
def prodL : List (List Int) → Nat
  | [] => 1
  | d :: ds => d.length * prodL ds
/-- Row k: the last one changes first. -/
def rowK : List (List Int) → Nat → List Int
  | [], _ => []
  | d :: ds, k => d.getD (k / prodL ds % d.length) 0 :: rowK ds k
theorem rowK_len : ∀ (ds : List (List Int)) (k : Nat), (rowK ds k).length = ds.length
  | [], _ => rfl
  | d :: ds, k => by simp [rowK, rowK_len ds k]
theorem rowK_add : ∀ (ds : List (List Int)) (a k : Nat), rowK ds (a * prodL ds + k) = rowK ds k
  | [], _, _ => rfl
  | d :: ds, a, k => by
    simp only [rowK, prodL]
    have e : a * (d.length * prodL ds) + k = (a * d.length) * prodL ds + k := by rw [Nat.mul_assoc]
    rw [e, rowK_add ds (a * d.length) k]
    rcases Nat.eq_zero_or_pos (prodL ds) with h0 | h0
    · simp [h0]
    · congr 2
      rw [Nat.add_comm, Nat.add_mul_div_right _ _ h0, Nat.add_mul_mod_self_right]
theorem prodL_pos : ∀ {ds : List (List Int)}, (∀ d ∈ ds, d ≠ []) → 0 < prodL ds
  | [], _ => by simp [prodL]
  | d :: ds, h => by
    have h1 := prodL_pos (ds := ds) fun x hx => h x (by simp [hx])
    have h2 : 0 < d.length := List.length_pos_iff.2 (h d (by simp))
    exact Nat.mul_pos h2 h1
theorem rowK_in : ∀ {ds : List (List Int)} (k : Nat), (∀ d ∈ ds, d ≠ []) → inD (rowK ds k) ds
  | [], _, _ => trivial
  | d :: ds, k, h => by
    have h2 : 0 < d.length := List.length_pos_iff.2 (h d (by simp))
    exact ⟨getD_mem 0 (Nat.mod_lt _ h2), rowK_in k fun x hx => h x (by simp [hx])⟩
theorem rowK_of : ∀ {ds : List (List Int)} {r : List Int}, inD r ds → ∃ k, k < prodL ds ∧ rowK ds k = r
  | [], [], _ => ⟨0, by simp [prodL], rfl⟩
  | d :: ds, v :: r, h => by
    obtain ⟨k, hk, e⟩ := rowK_of h.2
    obtain ⟨i, hi, e2⟩ := List.mem_iff_getElem.1 h.1
    have hp : 0 < prodL ds := by omega
    refine ⟨i * prodL ds + k, ?_, ?_⟩
    · simp only [prodL]
      calc i * prodL ds + k < i * prodL ds + prodL ds := by omega
        _ = (i + 1) * prodL ds := by rw [Nat.add_mul, Nat.one_mul]
        _ ≤ d.length * prodL ds := Nat.mul_le_mul_right _ hi
    · simp only [rowK]
      rw [rowK_add, e]
      congr 1
      rw [Nat.add_comm, Nat.add_mul_div_right _ _ hp, Nat.div_eq_of_lt hk, Nat.zero_add, Nat.mod_eq_of_lt hi]
      simp [List.getD_eq_getElem?_getD, hi, e2]
  | [], _ :: _, h => h.elim
  | _ :: _, [], h => h.elim
def rowsS (ds : List (List Int)) : List (List Int) := (List.range (prodL ds)).map (rowK ds)
theorem mem_rowsS {ds : List (List Int)} (h : ∀ d ∈ ds, d ≠ []) {r : List Int} : r ∈ rowsS ds ↔ inD r ds := by
  simp only [rowsS, List.mem_map, List.mem_range]
  constructor
  · rintro ⟨k, _, rfl⟩; exact rowK_in k h
  · intro h; obtain ⟨k, h1, h2⟩ := rowK_of h; exact ⟨k, h1, h2⟩

theorem prodL_app : ∀ (a b : List (List Int)), prodL (a ++ b) = prodL a * prodL b
  | [], b => by simp [prodL]
  | d :: a, b => by simp only [List.cons_append, prodL, prodL_app a b, Nat.mul_assoc]
theorem prodL_take {ds : List (List Int)} {j : Nat} (h : j < ds.length) : prodL (ds.take (j + 1)) = prodL (ds.take j) * (ds.getD j []).length := by
  rw [take_succ_getD [] h, prodL_app]
  simp [prodL]
theorem prodL_drop {ds : List (List Int)} {j : Nat} (h : j < ds.length) : prodL (ds.drop j) = (ds.getD j []).length * prodL (ds.drop (j + 1)) := by
  rw [List.drop_eq_getElem_cons h]
  simp [prodL, List.getD_eq_getElem?_getD, h]
theorem prodL_mono {ds : List (List Int)} (h : ∀ d ∈ ds, d ≠ []) (j : Nat) : prodL (ds.take j) ≤ prodL ds := by
  have e : prodL ds = prodL (ds.take j) * prodL (ds.drop j) := by rw [← prodL_app, List.take_append_drop]
  have := prodL_pos (ds := ds.drop j) fun d hd => h d (List.mem_of_mem_drop hd)
  rw [e]
  exact Nat.le_mul_of_pos_right _ this
theorem rowK_get : ∀ {ds : List (List Int)} {k i : Nat}, i < ds.length → (rowK ds k).getD i 0 = (ds.getD i []).getD (k / prodL (ds.drop (i + 1)) % (ds.getD i []).length) 0
  | d :: ds, k, 0, _ => by simp [rowK]
  | d :: ds, k, i + 1, h => by
    simp only [rowK, List.getD_cons_succ, List.drop_succ_cons]
    exact rowK_get (by simpa using h)
  | [], _, _, h => by simp at h
theorem rowK_far {ds : List (List Int)} (h : ∀ d ∈ ds, d ≠ []) (hb : ∀ d ∈ ds, ∀ v ∈ d, -1000000 ≤ v ∧ v ≤ 1000000) (k : Nat) : (rowK ds k).any farS = false := by
  rw [List.any_eq_false]
  intro v hv
  obtain ⟨i, hi, e⟩ := List.mem_iff_getElem.1 hv
  rw [rowK_len] at hi
  have h1 := (inD_get.1 (rowK_in k h)).2 i hi
  rw [show (rowK ds k).getD i 0 = v by simp [List.getD_eq_getElem?_getD, rowK_len, hi, e]] at h1
  have := hb _ (getD_mem [] hi) v h1
  simp [farS]; omega

/-! ### What is left of domains -/
/-- Of each domain what may be: nothing, if one is empty then. -/
def leftL (ds : List (List Int)) (p : Nat → Int → Bool) : List (List Int) := (List.range ds.length).map fun i => (ds.getD i []).filter (p i)
def someL (out : List (List Int)) : Bool := out.all fun d => d.length != 0
theorem leftL_len (ds : List (List Int)) (p : Nat → Int → Bool) : (leftL ds p).length = ds.length := by simp [leftL]
theorem leftL_get (ds : List (List Int)) (p : Nat → Int → Bool) (i : Nat) (h : i < ds.length) : (leftL ds p).getD i [] = (ds.getD i []).filter (p i) := by
  simp [leftL, List.getD_eq_getElem?_getD, h]
theorem leftL_congr {ds : List (List Int)} {p q : Nat → Int → Bool} (h : ∀ i, i < ds.length → ∀ v ∈ ds.getD i [], p i v = q i v) : leftL ds p = leftL ds q := by
  unfold leftL
  refine List.map_congr_left fun i hi => List.filter_congr fun v hv => h i (List.mem_range.1 hi) v hv
theorem someL_iff {out : List (List Int)} : someL out = true ↔ ∀ d ∈ out, d ≠ [] := by
  simp [someL]

end Go.Pi

/- The kit's contracts of the library's sort, turned into contracts of these pages. -/
namespace Go.Pi
open Go

theorem HomeOK.ofRow {w w' : World} {ok : Nat → Prop} {v : Value} {l : List Int} {e : Nat} (hrow : w'.ownsRow w.heap.size e 1 v l.length (l.map fun x => .int .i64 x)) :
    ∃ h : Home, v = h.slice 0 h.len ∧ (∀ a, h.base = some a → w.heap.size ≤ a.block) ∧ HomeOK (fun b => (ok b ∨ (w.heap.size ≤ b ∧ b < w'.heap.size)) ∧ ∀ a, h.base = some a → b ≠ a.block) w' h e 1 (ints l) := by
  rcases hrow.2 with ⟨rfl, h0⟩ | ⟨g, cap, cur, rfl, hb, hg, h1, h2, h3, h4⟩
  · have : l = [] := List.eq_nil_of_length_eq_zero h0
    subst this
    exact ⟨⟨true, none, 0, 0, 1, 0⟩, rfl, (fun _ h => by cases h), rfl, (fun _ h => by cases h), ⟨rfl, rfl, Nat.le_refl _, Nat.zero_le _, (by simp [ints]), .inl ⟨rfl, rfl⟩⟩⟩
  · refine ⟨⟨true, some ⟨g, 0, none⟩, cap, l.length, 1, 0⟩, by simp [Home.slice], (fun a h => by cases h; exact hb), rfl, (fun a h => by
      cases h
      exact ⟨rfl, (Array.getElem?_eq_some_iff.1 hg).1, fun hq => hq.2 _ rfl rfl, fun o => by simp [World.frozen?, hg]⟩), ⟨rfl, by simp, by simpa using h1, h2, ?_, .inr ⟨g, cur, rfl, hg, h3, ?_⟩⟩⟩
    · intro r hr
      simp only [ints, List.mem_map] at hr
      obtain ⟨x, _, rfl⟩ := hr
      rfl
    · intro i r hi j c hj
      rw [ints_get] at hi
      cases hx : l[i]? with
      | none => simp [hx] at hi
      | some x =>
        simp [hx] at hi
        subst hi
        cases j with
        | succ j => simp at hj
        | zero =>
          simp at hj
          subst hj
          refine ⟨.int .i64 x, ?_, rfl, .v _⟩
          have hlt : i < l.length := (List.getElem?_eq_some_iff.1 hx).1
          have := congrArg (fun z => z[i]?) h4
          simp only [Nat.mul_one] at this
          rw [List.getElem?_take_of_lt hlt] at this
          simpa [hx] using this

section
open Go.Shelf Go.Sort Go.RowKit Go.Proofs

/-- The numbers that a home shows. -/
theorem HomeOK.cells {ok : Nat → Prop} {w : World} {h : Home} {e : Nat} {l : List Int} (H : HomeOK ok w h e 1 (ints l)) {ad : Addr} (had : h.base = some ad) :
    ∃ g cur, ad = ⟨g, 0, none⟩ ∧ w.heap[g]? = some (.cells cur e (0, 0)) ∧ cur.size = h.cap ∧ h.len = l.length ∧ l.length ≤ h.cap ∧ h.slice 0 h.len = .slice (some ⟨g, 0, none⟩) l.length h.cap ∧ ∀ j, j < l.length → cur[j]? = some (.int .i64 (l.getD j 0)) := by
  have hlen : h.len = l.length := by rw [← H.rows.len]; simp
  have hcap : l.length ≤ h.cap := by have := H.rows.cap; simpa using this
  rcases H.rows.row with ⟨h1, _⟩ | ⟨g, cur, h1, h2, h3, h4⟩
  · rw [h1] at had; cases had
  · rw [h1] at had; cases had
    refine ⟨g, cur, rfl, h2, by simpa using h3, hlen, hcap, by simp [Home.slice, h1, hlen], fun j hj => ?_⟩
    obtain ⟨x, q1, _, q3⟩ := h4 j [I (l.getD j 0)] (by rw [ints_get]; simp [List.getD_eq_getElem?_getD, hj]) 0 _ rfl
    cases q3
    simpa using q1

theorem ext_sorted {w : World} {g n : Nat} {os : Array Obj} (d : Array Int) {h : Home} (hb : h.base = some ⟨g, 0, none⟩) : Ext (homeB h) w (grow (putRow (Value.int .i64) (Sort.ahead w n) g 0 d) os) := by
  refine ⟨rfl, rfl, rfl, by simp, fun k hk hne => ?_⟩
  rw [heap_grow_old _ _ (by simpa using hk)]
  have : g ≠ k := fun e => hne ⟨_, hb, e⟩
  simp [putRow, mapBlock, Sort.ahead, Array.getElem?_modify, this]

/-- A row that has been written over holds what it was given. -/
theorem HomeOK.put {ok ok' : Nat → Prop} {w : World} {h : Home} {e g n : Nat} {os : Array Obj} {l l' : List Int} (H : HomeOK ok w h e 1 (ints l)) (hb : h.base = some ⟨g, 0, none⟩) (hl : l'.length = l.length) (hok : ∀ b, ok' b → b ≠ g) :
    HomeOK ok' (grow (putRow (Value.int .i64) (Sort.ahead w n) g 0 l'.toArray) os) h e 1 (ints l') := by
  obtain ⟨g', cur, q1, q2, q3, q4, q5, q6, q7⟩ := H.cells hb
  cases q1
  have hg : g < w.heap.size := (Array.getElem?_eq_some_iff.1 q2).1
  have hh : (grow (putRow (Value.int .i64) (Sort.ahead w n) g 0 l'.toArray) os).heap[g]? = some (.cells (putCells (Value.int .i64) 0 l'.toArray cur) e (0, 0)) := by
    rw [heap_grow_old _ _ (by simpa using hg)]
    simp [putRow, mapBlock, Sort.ahead, Array.getElem?_modify, q2, onCells]
  refine ⟨H.arr, fun a ha => ?_, ⟨H.rows.hes, by simp [hl, q4], by simp [hl]; exact q5, H.rows.most, fun r hr => ?_, .inr ⟨g, _, hb, hh, by simp [putCells, q3], fun i r hi j c hj => ?_⟩⟩⟩
  · rw [hb] at ha; cases ha
    exact ⟨rfl, (Array.getElem?_eq_some_iff.1 hh).1, fun hq => hok _ hq rfl, fun o => by simp [World.frozen?, hh]⟩
  · simp only [ints, List.mem_map] at hr
    obtain ⟨x, _, rfl⟩ := hr
    rfl
  · rw [ints_get] at hi
    cases hx : l'[i]? with
    | none => simp [hx] at hi
    | some x =>
      simp [hx] at hi
      subst hi
      cases j with
      | succ j => simp at hj
      | zero =>
        simp at hj
        subst hj
        have hlt : i < l'.length := (List.getElem?_eq_some_iff.1 hx).1
        refine ⟨.int .i64 x, ?_, rfl, .v _⟩
        have h2 : i < cur.size := by omega
        have e3 : l'[i] = x := by rw [List.getElem?_eq_getElem hlt] at hx; exact Option.some.inj hx
        simp [putCells, h2, hlt, e3]

theorem sort_mcall {P : Program} {A : World → Prop} {ρ : Ren} (Ly : Lays.n189 P ρ) (e : Nat) (l : List Int) (hl : l.length ≤ 1000000) :
    MCall P A (ρ.f 189) e 1 (ints l) [] [] (ints (l.mergeSort fun x y => decide (x ≤ y))) (some (.tup [])) := by
  intro ok w h vp vs hA hok H hpre hargs
  have hvs : vs = #[] := Array.eq_empty_of_size_eq_zero hargs.1
  subst hvs
  have hvp : vp = #[] := Array.eq_empty_of_size_eq_zero hpre.1
  subst hvp
  simp only [Array.append_empty, Array.empty_append]
  cases hb : h.base with
  | none =>
    have hl0 : l = [] := by
      rcases H.rows.row with ⟨_, h2⟩ | ⟨_, _, h1, _⟩
      · have := H.rows.cap
        rw [h2] at this
        exact List.eq_nil_of_length_eq_zero (by simpa using this)
      · rw [hb] at h1; cases h1
    subst hl0
    have e1 : h.slice 0 h.len = .slice none 0 0 := by simp [Home.slice, hb]
    rw [e1]
    refine (Any.slices_Sort_int_none Ly none 0 w).mono fun e w' ⟨he, hw⟩ => ⟨_, h, he, ?_, ?_, ?_, ⟨hb, rfl, rfl⟩, .tup _ _ rfl (by simp)⟩
    · rw [hw]; exact .refl _ _
    · intro a ha; rw [hb] at ha; cases ha
    · subst hw
      refine ⟨H.arr, (fun a ha => by rw [hb] at ha; cases ha), ?_⟩
      have := H.rows
      exact ⟨this.hes, by simpa using this.len, by simp, this.most, by simp [ints], .inl ⟨hb, by
        rcases this.row with ⟨_, h2⟩ | ⟨_, _, h1, _⟩
        · exact h2
        · rw [hb] at h1; cases h1⟩⟩
  | some ad =>
    obtain ⟨g, cur, rfl, q2, q3, q4, q5, q6, q7⟩ := H.cells hb
    rw [q6]
    have hH : Holds (Value.int .i64) w g 0 l.toArray := fun j hj => by
      have hj' : j < l.length := by simpa using hj
      refine ⟨?_, by simp [World.frozen?, q2]⟩
      have h7 := q7 j hj'
      simp only [World.cell?, q2, Nat.zero_add]
      simp [h7, List.getD_eq_getElem?_getD, hj']
    refine (Any.slices_Sort_int Ly g 0 h.cap l w hH (Array.getElem?_eq_some_iff.1 q2).1 (by omega)).mono ?_
    rintro e w' ⟨he, n, os, rfl⟩
    refine ⟨_, h, he, ext_sorted _ hb, fun a ha => .inl ⟨a, ha, rfl⟩, H.put hb (by simp) fun b hb' => ?_, ⟨hb, rfl, rfl⟩, .tup _ _ rfl (by simp)⟩
    exact hb'.2 _ (.inl hb)

theorem HomeOK.cut {ok : Nat → Prop} {w : World} {h : Home} {e : Nat} {a b : List Int} (H : HomeOK ok w h e 1 (ints (a ++ b))) : HomeOK ok w { h with len := a.length } e 1 (ints a) := by
  have hlen : h.len = (a ++ b).length := by rw [← H.rows.len]; simp
  have hcap : (a ++ b).length ≤ h.cap := by have := H.rows.cap; simpa using this
  refine ⟨H.arr, H.base, ⟨H.rows.hes, by simp, by simp at hcap ⊢; omega, H.rows.most, fun r hr => ?_, ?_⟩⟩
  · simp only [ints, List.mem_map] at hr
    obtain ⟨x, _, rfl⟩ := hr
    rfl
  · rcases H.rows.row with h1 | ⟨g, cur, h1, h2, h3, h4⟩
    · exact .inl h1
    · refine .inr ⟨g, cur, h1, h2, h3, fun i r hi j c hj => h4 i r ?_ j c hj⟩
      have hlt := (List.getElem?_eq_some_iff.1 hi).1
      rw [← ints_app, List.getElem?_append_left hlt]
      exact hi
theorem compact_len (l : List Int) : (Lib.compact l).length ≤ l.length := by
  simp only [Lib.compact, Lib.compactUpTo, List.length_map]
  exact Nat.le_trans (List.length_filter_le _ _) (by simp)

theorem compact_mcall {P : Program} {A : World → Prop} {ρ : Ren} (Ly : Lays2.n20 P ρ) (e : Nat) (l : List Int) (hl : l.length ≤ 1000000) :
    MCall P A (ρ.f 20) e 1 (ints l) [] [] (ints (Lib.compact l)) none := by
  intro ok w h vp vs hA hok H hpre hargs
  have hvs : vs = #[] := Array.eq_empty_of_size_eq_zero hargs.1
  subst hvs
  have hvp : vp = #[] := Array.eq_empty_of_size_eq_zero hpre.1
  subst hvp
  simp only [Array.append_empty, Array.empty_append]
  have hcl := compact_len l
  cases hb : h.base with
  | none =>
    have hl0 : l = [] ∧ h.cap = 0 := by
      rcases H.rows.row with ⟨_, h2⟩ | ⟨_, _, h1, _⟩
      · have := H.rows.cap
        rw [h2] at this
        exact ⟨List.eq_nil_of_length_eq_zero (by simpa using this), h2⟩
      · rw [hb] at h1; cases h1
    obtain ⟨rfl, hc0⟩ := hl0
    have e1 : h.slice 0 h.len = .slice none 0 0 := by simp [Home.slice, hb]
    rw [e1]
    refine (Any.slices_Compact_int_empty Ly none 0 w).mono fun e w' ⟨he, hw⟩ => ⟨_, h, he, ?_, ?_, ?_, e1.symm⟩
    · rw [hw]; exact .refl _ _
    · intro a ha; rw [hb] at ha; cases ha
    · subst hw
      refine ⟨H.arr, (fun a ha => by rw [hb] at ha; cases ha), ?_⟩
      have := H.rows
      have h0 : Lib.compact ([] : List Int) = [] := rfl
      exact ⟨this.hes, by rw [h0]; simpa using this.len, by rw [h0]; simp, this.most, by rw [h0]; simp [ints], .inl ⟨hb, hc0⟩⟩
  | some ad =>
    obtain ⟨g, cur, rfl, q2, q3, q4, q5, q6, q7⟩ := H.cells hb
    rw [q6]
    have hH : Holds (Value.int .i64) w g 0 l.toArray := fun j hj => by
      have hj' : j < l.length := by simpa using hj
      refine ⟨?_, by simp [World.frozen?, q2]⟩
      have h7 := q7 j hj'
      simp only [World.cell?, q2, Nat.zero_add]
      simp [h7, List.getD_eq_getElem?_getD, hj']
    refine (Any.slices_Compact_int Ly g 0 h.cap l w hH (by omega) q5).mono ?_
    rintro e w' ⟨he, n, hw⟩
    have hw2 : w' = grow (putRow (Value.int .i64) (Sort.ahead w n) g 0 (Lib.compact l ++ List.replicate (l.length - (Lib.compact l).length) 0).toArray) #[] := by rw [grow_empty]; exact hw
    subst hw2
    have H2 := H.put (ok' := leftB ok w (grow (putRow (Value.int .i64) (Sort.ahead w n) g 0 (Lib.compact l ++ List.replicate (l.length - (Lib.compact l).length) 0).toArray) #[]) h { h with len := (Lib.compact l).length })
      (n := n) (os := #[]) hb (l' := Lib.compact l ++ List.replicate (l.length - (Lib.compact l).length) 0) (by simp; omega) fun b hb' => hb'.2 _ (.inl hb)
    refine ⟨_, { h with len := (Lib.compact l).length }, he, ext_sorted _ hb, fun a ha => .inl ⟨a, ha, rfl⟩, H2.cut, ?_⟩
    simp [Home.slice, hb]

end

end Go.Pi

/- Package ground's laws, in plain lists: what is made may be; turned about, a constraint holds of the same. -/
namespace Go.Pi
open Go

/-! ### Sums turned about -/
theorem sumN_congr {f g : Nat → Int} : ∀ n : Nat, (∀ i, i < n → f i = g i) → sumN f n = sumN g n
  | 0, _ => rfl
  | n + 1, h => by
    simp only [sumN]
    rw [sumN_congr n fun i hi => h i (by omega), h n (by omega)]
theorem sumN_head (f : Nat → Int) : ∀ n : Nat, sumN f (n + 1) = f 0 + sumN (fun i => f (i + 1)) n
  | 0 => by simp [sumN]
  | n + 1 => by
    rw [sumN, sumN_head f n]
    simp only [sumN]
    omega
theorem sumN_back (f : Nat → Int) : ∀ n : Nat, sumN (fun i => f (n - 1 - i)) n = sumN f n
  | 0 => rfl
  | n + 1 => by
    rw [sumN_head]
    have e : sumN (fun i => f (n + 1 - 1 - (i + 1))) n = sumN (fun i => f (n - 1 - i)) n := sumN_congr n fun i hi => by
      rw [show n + 1 - 1 - (i + 1) = n - 1 - i from by omega]
    rw [e, sumN_back f n]
    simp only [sumN]
    rw [show n + 1 - 1 - 0 = n from by omega]
    omega
theorem getD_reverse {l : List Int} {i : Nat} (h : i < l.length) : l.reverse.getD i 0 = l.getD (l.length - 1 - i) 0 := by
  simp only [List.getD_eq_getElem?_getD]
  rw [List.getElem?_reverse h]

theorem values_reverse (a l : List Int) : valuesS a l.reverse = (valuesS a l).reverse := by simp [valuesS]

theorem dot_reverse {c x : List Int} (h : c.length = x.length) : dotS c.reverse x.reverse = dotS c x := by
  unfold dotS
  rw [List.length_reverse, ← sumN_back (fun i => c.getD i 0 * x.getD i 0)]
  exact sumN_congr _ fun i hi => by rw [getD_reverse hi, getD_reverse (by omega), h]
theorem count_reverse (x : List Int) (v : Int) : countS x.reverse v x.length = countS x v x.length := by
  unfold countS
  rw [← sumN_back (fun i => if x.getD i 0 = v then 1 else 0)]
  exact sumN_congr _ fun i hi => by rw [getD_reverse hi]
theorem load_reverse {x c d : List Int} (hc : c.length = x.length) (hd : d.length = x.length) (t : Int) : loadS x.reverse c.reverse d.reverse t x.length = loadS x c d t x.length := by
  unfold loadS
  rw [← sumN_back (fun i => if x.getD i 0 ≤ t ∧ t < x.getD i 0 + c.getD i 0 then d.getD i 0 else 0)]
  exact sumN_congr _ fun i hi => by rw [getD_reverse hi, getD_reverse (by omega), getD_reverse (by omega), hc, hd]
theorem fits_reverse {x c d : List Int} (hc : c.length = x.length) (hd : d.length = x.length) (K : Int) : fitsS x.reverse c.reverse d.reverse K = fitsS x c d K := by
  unfold fitsS
  rw [List.length_reverse, List.all_reverse]
  congr 1
  funext t
  rw [load_reverse hc hd]
theorem counted_reverse (x c d e : List Int) : countedS x.reverse c d e = countedS x c d e := by
  unfold countedS
  congr 1
  funext i
  rw [List.length_reverse, count_reverse]

theorem sort_perm (l : List Int) : (sortS l).Perm l := List.mergeSort_perm l _
theorem sort_sorted (l : List Int) : (sortS l).Pairwise (· ≤ ·) := by
  have := List.pairwise_mergeSort (le := fun x y : Int => decide (x ≤ y)) (fun a b c h1 h2 => by simp at *; omega) (fun a b => by simp; omega) l
  exact this.imp fun h => by simpa using h
theorem sorted_perm_eq : ∀ {a b : List Int}, a.Pairwise (· ≤ ·) → b.Pairwise (· ≤ ·) → a.Perm b → a = b
  | [], b, _, _, h => (List.nil_perm.1 h).symm ▸ rfl
  | x :: r, [], _, _, h => absurd (List.perm_nil.1 h) (by simp)
  | x :: r, y :: l, ha, hb, h => by
    have e : x = y := by
      have h1 : x ∈ y :: l := h.subset (by simp)
      have h2 : y ∈ x :: r := h.symm.subset (by simp)
      rw [List.pairwise_cons] at ha hb
      rcases List.mem_cons.1 h1 with h1 | h1
      · exact h1
      · rcases List.mem_cons.1 h2 with h2 | h2
        · exact h2.symm
        · have := hb.1 x h1
          have := ha.1 y h2
          omega
    subst e
    rw [sorted_perm_eq (List.pairwise_cons.1 ha).2 (List.pairwise_cons.1 hb).2 (List.perm_cons x |>.1 h)]
theorem sort_of_perm {a b : List Int} (h : a.Perm b) : sortS a = sortS b :=
  sorted_perm_eq (sort_sorted a) (sort_sorted b) ((sort_perm a).trans (h.trans (sort_perm b).symm))
theorem apart_perm {a b : List Int} (h : a.Perm b) : apartS a = apartS b := by
  unfold apartS
  rw [sort_of_perm h, h.length_eq]

/-! ### Turned about -/
theorem bounded_reverse (l : List Int) (k : Int) : boundedS l.reverse k = boundedS l k := by simp [boundedS]
theorem any_reverse {α : Type} (l : List α) (p : α → Bool) : l.reverse.any p = l.any p := by simp

/-- What isn't its variables' order makes a constraint right. -/
theorem right_turn {c d : Con} {n : Int} (hk : d.kind = c.kind) (hA : d.A.length = c.A.length) (hB : d.B.length = c.B.length) (hC : d.C.length = c.C.length) (hD : d.D.length = c.D.length) (hE : d.E.length = c.E.length) (hR : d.R.length = c.R.length)
    (hK : d.K = c.K) (hal : alikeS d = alikeS c) (hv : (d.A ++ d.B).any (fun v => decide (v < 0) || decide (v ≥ n)) = (c.A ++ c.B).any (fun v => decide (v < 0) || decide (v ≥ n))) (hn : numbersS d = numbersS c) (hc : countsS d = countsS c) : rightS d n = rightS c n := by
  unfold rightS
  rw [hk, hA, hB, hC, hD, hE, hR, hK, hal, hv, hn, hc]


/-! ### What holds, by right and by values -/
theorem holds_of {c : Con} {a : List Int} (R : RightOK c a.length) (hf : a.any farS = false) : holdsS c a = holdsXS c (valuesS a c.A) (valuesS a c.B) := by
  rw [holdsS, if_neg (by rw [rightS_ok.2 R, hf]; simp)]
theorem holds_right {c : Con} {a : List Int} (h : holdsS c a = true) : RightOK c a.length ∧ a.any farS = false ∧ holdsXS c (valuesS a c.A) (valuesS a c.B) = true := by
  unfold holdsS at h
  split at h
  · cases h
  · rename_i hn
    simp only [Bool.or_eq_true, bne_iff_ne, ne_eq, not_or, Decidable.not_not, Bool.not_eq_true] at hn
    exact ⟨rightS_ok.1 hn.1, hn.2, h⟩
theorem holds_turn {c d : Con} {a : List Int} (hr : rightS d a.length = rightS c a.length)
    (hx : RightOK c a.length → a.any farS = false → holdsXS d (valuesS a d.A) (valuesS a d.B) = holdsXS c (valuesS a c.A) (valuesS a c.B)) : holdsS d a = holdsS c a := by
  by_cases h : (rightS c a.length != 0 || a.any farS) = true
  · rw [holdsS, holdsS, hr, if_pos h, if_pos h]
  · have h2 := h
    simp only [Bool.or_eq_true, bne_iff_ne, ne_eq, not_or, Decidable.not_not, Bool.not_eq_true] at h2
    rw [holdsS, holdsS, hr, if_neg h, if_neg h]
    exact hx (rightS_ok.1 h2.1) h2.2

/-! ### Values near 0 -/
def nearS (a : List Int) (n : Nat) : List Int := (List.range n).map fun i => if i < a.length then (a.getD i 0).tmod 7 else (i : Int)
theorem nearS_len (a : List Int) (n : Nat) : (nearS a n).length = n := by simp [nearS]
theorem tmod_in (a : Int) {b : Int} (hb : 0 < b) : -b < a.tmod b ∧ a.tmod b < b := by
  have h1 := Int.tmod_lt_of_pos a hb
  have h2 := Int.tmod_lt_of_pos (-a) hb
  rw [Int.neg_tmod] at h2
  omega
theorem nearS_far (a : List Int) (n : Nat) (hn : n ≤ 100) : (nearS a n).any farS = false := by
  rw [List.any_eq_false]
  intro v hv
  simp only [nearS, List.mem_map, List.mem_range] at hv
  obtain ⟨i, hi, rfl⟩ := hv
  simp only [farS, Bool.or_eq_true, decide_eq_true_eq, not_or]
  split
  · have := tmod_in (a.getD i 0) (b := 7) (by decide); omega
  · omega

/-! ### What is made may be -/
theorem places_in {l : List Int} {n : Nat} {vars : Int} (h : ∀ v ∈ l, 0 ≤ v) (hv : 0 < vars) : ∀ v ∈ placesS l n vars, 0 ≤ v ∧ v < vars := by
  intro v hv'
  simp only [placesS, List.mem_map, List.mem_range] at hv'
  obtain ⟨i, hi, rfl⟩ := hv'
  refine ⟨Int.tmod_nonneg _ ?_, Int.tmod_lt_of_pos _ hv⟩
  split
  · rename_i h2; exact h _ (getD_mem 0 h2)
  · omega
theorem places_len (l : List Int) (n : Nat) (vars : Int) : (placesS l n vars).length = n := by simp [placesS]
theorem nums_len (l : List Int) (f n : Nat) (least wide : Int) : (numsS l f n least wide).length = n := by simp [numsS]
theorem nums_in {l : List Int} {f n : Nat} {least wide : Int} (hw : 0 < wide) : ∀ v ∈ numsS l f n least wide, -wide < v ∧ v < wide := by
  intro v hv
  simp only [numsS, List.mem_map, List.mem_range] at hv
  obtain ⟨i, hi, rfl⟩ := hv
  unfold numS
  have := tmod_in (if f + i < l.length then l.getD (f + i) 0 else 1) hw
  simp only
  generalize (if f + i < l.length then l.getD (f + i) 0 else 1).tmod wide = t at this
  split <;> omega
theorem bounded_of {l : List Int} {k : Int} (h : ∀ v ∈ l, k ≤ v ∧ v ≤ 1000000) : boundedS l k = true := by
  unfold boundedS
  simp only [Bool.not_eq_true', List.any_eq_false, Bool.or_eq_true, decide_eq_true_eq, not_or]
  intro v hv
  have := h v hv
  omega
theorem nS0_in (z : Small) : 1 ≤ nS0 z ∧ nS0 z ≤ 4 := by
  unfold nS0
  split
  · omega
  · split <;> omega
theorem make_lin {z : Small} {vars : Int} {k : Int} (hk : 1 + z.kind.tmod 23 = k) (h3 : k = 1 ∨ k = 2 ∨ k = 3) :
    makeS z vars = { kind := k, A := placesS z.A (nS0 z) vars, B := [], C := numsS z.C 0 (nS0 z) (-1) 5, D := [], E := [], K := z.K.tmod 12, R := [] } := by
  rcases h3 with rfl | rfl | rfl
  all_goals simp [makeS, nS, hk, show shapeS 1 = [99, 86, 107] from rfl, show shapeS 2 = [99, 86, 107] from rfl, show shapeS 3 = [99, 86, 107] from rfl, show hasS [99, 86, 107] 118 = 0 from by decide, show hasS [99, 86, 107] 119 = 0 from by decide, show hasS [99, 86, 107] 87 = 0 from by decide, show hasS [99, 86, 107] 99 = 1 from by decide, show hasS [99, 86, 107] 107 = 1 from by decide]
theorem lin_right {z : Small} {vars : Int} (hA : ∀ v ∈ z.A, 0 ≤ v) (hv : 0 < vars) {k : Int} (h3 : k = 1 ∨ k = 2 ∨ k = 3) :
    RightOK { kind := k, A := placesS z.A (nS0 z) vars, B := [], C := numsS z.C 0 (nS0 z) (-1) 5, D := [], E := [], K := z.K.tmod 12, R := [] } vars := by
  have hn := nS0_in z
  have hs : shapeS k = [99, 86, 107] := by rcases h3 with rfl | rfl | rfl <;> rfl
  refine ⟨by simp only; omega, ?_, ?_, fun _ => ?_, places_in hA hv, fun v h => absurd h (by simp), ?_, ?_⟩
  · simp only [places_len, nums_len, hs, List.length_nil]
    unfold mcountedS
    rw [if_neg (by omega)]
    simp only [namedS, show hasB (bs [99, 86, 107]) 114 = false from rfl, show hasB (bs [99, 86, 107]) 86 = true from rfl, show hasB (bs [99, 86, 107]) 87 = false from rfl, show hasB (bs [99, 86, 107]) 99 = true from rfl, show hasB (bs [99, 86, 107]) 100 = false from rfl, show hasB (bs [99, 86, 107]) 101 = false from rfl,
      show countB (bs [99, 86, 107]) 119 = 0 from rfl, show countB (bs [99, 86, 107]) 45 = 0 from rfl, withinS]
    simp; omega
  · unfold alikeS
    rw [if_pos (by simp only; omega)]
    simp [places_len, nums_len]
  · simp only [hs]; rfl
  · have hkb := tmod_in z.K (b := 12) (by decide)
    unfold numbersS
    simp only [List.all_nil, Bool.true_and, Bool.and_eq_true, decide_eq_true_eq]
    have hl : lowS k = -1000000 := by rw [lowS, if_neg (by omega)]
    have hk2 : leastK k = -9999999999 := by rw [leastK, if_neg (by omega)]
    refine ⟨⟨⟨⟨bounded_of fun v hv => ?_, bounded_of (by simp)⟩, bounded_of (by simp)⟩, ?_⟩, ?_⟩
    · have := nums_in (wide := 5) (by decide) v hv
      rw [hl]; omega
    · rw [hk2]; omega
    · omega
  · unfold countsS
    rw [if_neg (by simp only; omega)]

/-! ### GroundTurns -/
theorem turn_lin {c : Con} {z : Small} {a : List Int} (hc : c = makeS z 5) (hA : ∀ v ∈ z.A, 0 ≤ v) (hk : c.kind = 1 ∨ c.kind = 3) :
    holdsS { c with kind := 1 } (nearS a 5) = !holdsS { c with kind := 3 } (nearS a 5) ∧ (holdsS { c with kind := 1 } (nearS a 5) = true → holdsS { c with kind := 2 } (nearS a 5) = true) := by
  have hm := make_lin (z := z) (vars := 5) (k := 1 + z.kind.tmod 23) rfl (by have : c.kind = 1 + z.kind.tmod 23 := by rw [hc]; rfl
                                                                             omega)
  rw [← hc] at hm
  subst hm
  have hf := nearS_far a 5 (by decide)
  have hl := nearS_len a 5
  have H : ∀ k : Int, k = 1 ∨ k = 2 ∨ k = 3 → holdsS { kind := k, A := placesS z.A (nS0 z) 5, B := [], C := numsS z.C 0 (nS0 z) (-1) 5, D := [], E := [], K := z.K.tmod 12, R := [] } (nearS a 5) = holdsXS { kind := k, A := placesS z.A (nS0 z) 5, B := [], C := numsS z.C 0 (nS0 z) (-1) 5, D := [], E := [], K := z.K.tmod 12, R := [] } (valuesS (nearS a 5) (placesS z.A (nS0 z) 5)) (valuesS (nearS a 5) []) := fun k hk => by
    exact holds_of (by rw [hl]; exact lin_right hA (by decide) hk) hf
  simp only
  rw [H 1 (by omega), H 2 (by omega), H 3 (by omega)]
  constructor
  · simp [holdsXS, bne]
  · simp only [holdsXS]
    simp
    omega

theorem right_reif {c : Con} {n : Int} (R : RightOK c n) {k : Int} (hk : c.kind = 13 ∧ k = 15 ∨ c.kind = 14 ∧ k = 16) : RightOK { c with kind := k } n := by
  have hs : shapeS k = shapeS c.kind := by rcases hk with ⟨h, rfl⟩ | ⟨h, rfl⟩ <;> rw [h] <;> rfl
  have h1 := R.counted
  have h2 := R.numbers
  refine ⟨by simp only; omega, ?_, ?_, ?_, R.varsA, R.varsB, ?_, ?_⟩
  · simp only [hs]
    unfold mcountedS at h1 ⊢
    rw [if_neg (by omega)] at h1 ⊢
    exact h1
  · unfold alikeS
    rw [if_neg (by simp only; omega), if_neg (by simp only; omega), if_neg (by simp only; omega), if_neg (by simp only; omega), if_neg (by simp only; omega)]
  · simp only [hs]; exact R.K
  · unfold numbersS at h2 ⊢
    have e1 : lowS k = lowS c.kind := by rw [lowS, lowS, if_neg (by omega), if_neg (by omega)]
    have e2 : secondS k = secondS c.kind := by rw [secondS, secondS, if_neg (by omega), if_neg (by omega)]
    have e3 : leastK k = leastK c.kind := by rw [leastK, leastK, if_neg (by omega), if_neg (by omega)]
    simp only [e1, e2, e3]
    exact h2
  · unfold countsS
    rw [if_neg (by simp only; omega)]
theorem turn_reif {c : Con} {a : List Int} {k : Int} (hk : c.kind = 13 ∧ k = 15 ∨ c.kind = 14 ∧ k = 16) (h : holdsS c a = true) :
    holdsS { c with kind := k } a = true ∧ c.B.length = 1 ∧ (∀ b, b = c.B.getD 0 0 → 0 ≤ b ∧ b < a.length ∧ (a.getD b.toNat 0 = 0 ∨ a.getD b.toNat 0 = 1)) := by
  obtain ⟨R, hf, hx⟩ := holds_right h
  have n2 := named_is (R.named (by omega)).2.1 (by rcases hk with ⟨h, _⟩ | ⟨h, _⟩ <;> rw [h] <;> rfl)
  have n2' : c.B.length = 1 := by rw [n2]; rcases hk with ⟨h, _⟩ | ⟨h, _⟩ <;> rw [h] <;> rfl
  have tr : ∃ so, truthS ((valuesS a c.B).getD 0 0) so = true ∧ holdsXS { c with kind := k } (valuesS a c.A) (valuesS a c.B) = impliedS ((valuesS a c.B).getD 0 0) so := by
    rcases hk with ⟨h, rfl⟩ | ⟨h, rfl⟩
    · refine ⟨(valuesS a c.A).getD 0 0 == c.K, ?_, ?_⟩
      · simpa [holdsXS, logicS, h] using hx
      · simp [holdsXS, logicS]
    · refine ⟨decide ((valuesS a c.A).getD 0 0 ≤ c.K), ?_, ?_⟩
      · simpa [holdsXS, logicS, h] using hx
      · simp [holdsXS, logicS]
  obtain ⟨so, h1, h2⟩ := tr
  refine ⟨?_, n2', fun b hb => ?_⟩
  · rw [holds_of (right_reif R hk) hf, h2]
    unfold truthS at h1
    unfold impliedS
    cases so <;> simp_all
  · have hm := R.varsB b (hb ▸ getD_mem 0 (by omega))
    rw [values_get a c.B (by omega), ← hb] at h1
    refine ⟨hm.1, hm.2, ?_⟩
    unfold truthS at h1
    cases so <;> simp_all

/-! ### A circuit goes through all places -/
theorem perm_of_sub : ∀ {l x : List Int}, l.Nodup → (∀ v ∈ l, v ∈ x) → l.length = x.length → l.Perm x
  | [], x, _, _, h => by
    have : x = [] := List.eq_nil_of_length_eq_zero h.symm
    subst this; exact .refl _
  | a :: r, x, hn, hs, h => by
    rw [List.nodup_cons] at hn
    have ha := hs a (by simp)
    have h1 := List.perm_cons_erase ha
    have hl : (x.erase a).length = x.length - 1 := List.length_erase_of_mem ha
    have := perm_of_sub (l := r) (x := x.erase a) hn.2 (fun v hv => (List.mem_erase_of_ne (fun e => hn.1 (by rw [← e]; exact hv))).2 (hs v (by simp [hv]))) (by rw [hl, ← h]; simp)
    exact (this.cons a).trans h1.symm
theorem round_same {x : List Int} : ∀ {k k' : Nat} {v : Int} {n n' : Nat}, roundS x k v n = true → roundS x k' v n' = true → n = n'
  | 0, _, _, _, _, h, _ => by simp [roundS] at h
  | _ + 1, 0, _, _, _, _, h => by simp [roundS] at h
  | k + 1, k' + 1, v, n, n', h, h' => by
    simp only [roundS] at h h'
    split at h
    · cases h
    · rename_i h1
      rw [if_neg h1] at h'
      split at h
      · rename_i h2
        rw [if_pos h2] at h'
        rw [beq_iff_eq] at h h'
        omega
      · rename_i h2
        rw [if_neg h2] at h'
        have := round_same h h'
        omega
/-- The places that are come to. -/
def comes (x : List Int) : Nat → Int → List Int
  | 0, _ => []
  | k + 1, at' => let v := x.getD (at' - 1).toNat 0; if v = 1 then [v] else v :: comes x k v
theorem comes_spec {x : List Int} : ∀ {k : Nat} {at' : Int} {n : Nat}, 1 ≤ at' → at' ≤ x.length → roundS x k at' n = true →
    (comes x k at').length + n = x.length + 1 ∧ (∀ v ∈ comes x k at', v ∈ x ∧ (v = 1 ∨ ∃ k' n', n < n' ∧ roundS x k' v n' = true)) ∧ (comes x k at').Nodup
  | 0, _, _, _, _, h => by simp [roundS] at h
  | k + 1, at', n, h1, h2, h => by
    simp only [roundS] at h
    have hm : x.getD (at' - 1).toNat 0 ∈ x := getD_mem 0 (by omega)
    simp only [comes]
    generalize hv : x.getD (at' - 1).toNat 0 = v at h hm
    split at h
    · cases h
    · rename_i h3
      split at h
      · rename_i h4
        rw [if_pos h4]
        rw [beq_iff_eq] at h
        refine ⟨by simp; omega, fun u hu => ?_, by simp⟩
        simp only [List.mem_singleton] at hu
        subst hu
        exact ⟨hm, .inl h4⟩
      · rename_i h4
        rw [if_neg h4]
        obtain ⟨i1, i2, i3⟩ := comes_spec (x := x) (k := k) (at' := v) (n := n + 1) (by omega) (by omega) h
        refine ⟨by simp; omega, fun u hu => ?_, ?_⟩
        · rcases List.mem_cons.1 hu with rfl | hu
          · exact ⟨hm, .inr ⟨k, n + 1, by omega, h⟩⟩
          · obtain ⟨j1, j2⟩ := i2 u hu
            exact ⟨j1, j2.imp id fun ⟨k', n', q1, q2⟩ => ⟨k', n', by omega, q2⟩⟩
        · rw [List.nodup_cons]
          refine ⟨fun hin => ?_, i3⟩
          rcases (i2 v hin).2 with q | ⟨k', n', q1, q2⟩
          · exact h4 q
          · have := round_same h q2
            omega
theorem round_nodup {x : List Int} (h : roundS x x.length 1 1 = true) : x.Nodup := by
  have hl : 1 ≤ x.length := by
    cases hx : x.length with
    | zero => rw [hx] at h; simp [roundS] at h
    | succ n => omega
  obtain ⟨h1, h2, h3⟩ := comes_spec (x := x) (k := x.length) (at' := 1) (n := 1) (by omega) (by omega) h
  exact (perm_of_sub h3 (fun v hv => (h2 v hv).1) (by omega)).nodup_iff.1 h3

theorem compact_nodup {l : List Int} (h : l.Nodup) : Lib.compact l = l := by
  refine Lib.compact_all l fun j hj => ?_
  rcases Nat.eq_zero_or_pos j with rfl | hp
  · exact Lib.keeps_lt_one _ 0 (by omega)
  · refine Lib.keeps_pos fun e => ?_
    have e1 : l.toArray[j]! = l[j] := by simp [hj]
    have e2 : l.toArray[j - 1]! = l[j - 1] := by simp [show j - 1 < l.length from by omega]
    rw [e1, e2] at e
    have := (List.nodup_iff_pairwise_ne.1 h)
    rw [List.pairwise_iff_getElem] at this
    exact this (j - 1) j (by omega) hj (by omega) e.symm
theorem sort_nodup {l : List Int} (h : l.Nodup) : (sortS l).Nodup := (sort_perm l).nodup_iff.2 h
theorem apart_nodup {l : List Int} (h : l.Nodup) : apartS l = true := by
  unfold apartS
  rw [compact_nodup (sort_nodup h), sortS_len]; simp
theorem nodup_of_map {f : Int → Int} : ∀ {l : List Int}, (l.map f).Nodup → l.Nodup
  | [], _ => .nil
  | a :: r, h => by
    rw [List.map_cons, List.nodup_cons] at h
    rw [List.nodup_cons]
    exact ⟨fun hin => h.1 (List.mem_map_of_mem hin), nodup_of_map h.2⟩
theorem all_right {c : Con} {n : Int} (R : RightOK c n) (hk : c.kind = 20) {A : List Int} (hp : A.Perm c.A) : RightOK { kind := 17, A := A, B := [], C := [], D := [], E := [], K := 0, R := [] } n := by
  have nA := (R.named (by omega)).1
  have hl := hp.length_eq
  rw [show shapeS c.kind = [86] from by rw [hk]; rfl] at nA
  refine ⟨by simp only; omega, ?_, ?_, fun h => absurd rfl h, fun v hv => R.varsA v (hp.subset hv), fun v h => absurd h (by simp), ?_, ?_⟩
  · simp only [hl]
    unfold mcountedS
    rw [if_neg (by omega), show shapeS 17 = [86] from rfl, nA]
    rfl
  · simp [alikeS]
  · simp [numbersS, boundedS, leastK]
  · simp [countsS]
theorem turn_circuit {c : Con} {a : List Int} (hk : c.kind = 20) (h : holdsS c a = true) : holdsS { kind := 17, A := Lib.compact (sortS c.A), B := [], C := [], D := [], E := [], K := 0, R := [] } a = true := by
  obtain ⟨R, hf, hx⟩ := holds_right h
  have hx : roundS (valuesS a c.A) (valuesS a c.A).length 1 1 = true := by simpa [holdsXS, hk] using hx
  have nd := round_nodup hx
  have nA : c.A.Nodup := nodup_of_map nd
  rw [compact_nodup (sort_nodup nA)]
  have hp := sort_perm c.A
  rw [holds_of (all_right R hk hp) hf]
  have : (valuesS a (sortS c.A)).Nodup := ((hp.map _).nodup_iff).2 nd
  simp [holdsXS, apart_nodup this]

/-! ### An inverse is one from both sides -/
theorem inverse_iff {x z : List Int} : inverseS x z = true ↔ ∀ i, i < x.length → 1 ≤ x.getD i 0 ∧ x.getD i 0 ≤ z.length ∧ z.getD (x.getD i 0 - 1).toNat 0 = i + 1 := by
  unfold inverseS
  simp only [List.all_eq_true, List.mem_range, Bool.and_eq_true, decide_eq_true_eq, beq_iff_eq]
  exact ⟨fun h i hi => ⟨(h i hi).1.1, (h i hi).1.2, (h i hi).2⟩, fun h i hi => ⟨⟨(h i hi).1, (h i hi).2.1⟩, (h i hi).2.2⟩⟩
theorem inverse_back {x z : List Int} (hl : x.length = z.length) (h : inverseS x z = true) : inverseS z x = true := by
  rw [inverse_iff] at h ⊢
  have nd : x.Nodup := by
    rw [List.nodup_iff_pairwise_ne, List.pairwise_iff_getElem]
    intro i j hi hj hij e
    have h1 := (h i hi).2.2
    have h2 := (h j hj).2.2
    have e1 : x.getD i 0 = x[i] := by simp [List.getD_eq_getElem?_getD, hi]
    have e2 : x.getD j 0 = x[j] := by simp [List.getD_eq_getElem?_getD, hj]
    rw [e1, e] at h1
    rw [e2] at h2
    omega
  have pm : x.Perm ((List.range x.length).map fun i => ((i : Nat) : Int) + 1) := perm_of_sub nd (fun v hv => by
    obtain ⟨i, hi, rfl⟩ := List.mem_iff_getElem.1 hv
    have := h i hi
    have e1 : x.getD i 0 = x[i] := by simp [List.getD_eq_getElem?_getD, hi]
    rw [e1] at this
    simp only [List.mem_map, List.mem_range]
    exact ⟨(x[i] - 1).toNat, by omega, by omega⟩) (by simp)
  intro j hj
  have hm : ((j : Nat) : Int) + 1 ∈ x := pm.mem_iff.2 (by simp only [List.mem_map, List.mem_range]; exact ⟨j, by omega, rfl⟩)
  obtain ⟨i, hi, hij⟩ := List.mem_iff_getElem.1 hm
  have e1 : x.getD i 0 = ((j : Nat) : Int) + 1 := by simp [List.getD_eq_getElem?_getD, hi, hij]
  have h1 := (h i hi).2.2
  rw [e1, show (((j : Nat) : Int) + 1 - 1).toNat = j from by omega] at h1
  rw [h1]
  refine ⟨by omega, by omega, ?_⟩
  rw [show (((i : Nat) : Int) + 1 - 1).toNat = i from by omega, e1]
theorem inverse_turn {x z : List Int} (hl : x.length = z.length) : inverseS z x = inverseS x z := by
  rw [Bool.eq_iff_iff]
  exact ⟨inverse_back hl.symm, inverse_back hl⟩
theorem turn_inverse {c : Con} {a : List Int} (hk : c.kind = 23) : holdsS { c with A := c.B, B := c.A } a = holdsS c a := by
  have hs : shapeS c.kind = [86, 87] := by rw [hk]; rfl
  refine holds_turn ?_ fun R _ => ?_
  · unfold rightS
    have hal : alikeS { c with A := c.B, B := c.A } = alikeS c := by
      rw [Bool.eq_iff_iff]
      simp [alikeS, hk]
      omega
    have h12 : ¬ c.kind = 12 := by omega
    have hm : mcountedS c.kind c.B.length c.A.length c.C.length c.D.length c.E.length c.R.length (bs (shapeS c.kind)) = mcountedS c.kind c.A.length c.B.length c.C.length c.D.length c.E.length c.R.length (bs (shapeS c.kind)) := by
      unfold mcountedS
      simp only [if_neg h12, hs]
      simp only [namedS, show hasB (bs [86, 87]) 86 = true from rfl, show hasB (bs [86, 87]) 87 = true from rfl, if_true]
      cases withinS c.A.length 1 64 <;> cases withinS c.B.length 1 64 <;> simp
    have hv : (c.B ++ c.A).any (fun v => decide (v < 0) || decide (v ≥ (a.length : Int))) = (c.A ++ c.B).any (fun v => decide (v < 0) || decide (v ≥ (a.length : Int))) := by
      rw [List.any_append, List.any_append, Bool.or_comm]
    simp only [hal, hm, hv]
    rfl
  · have := alike_pair R.alike (.inr hk)
    simp only [holdsXS, hk]
    simp
    exact inverse_turn (by rw [values_len, values_len]; omega)

/-! ### GroundOrder -/
theorem any_rev_app (A B A' B' : List Int) (p : Int → Bool) (hA : A'.any p = A.any p) (hB : B'.any p = B.any p) : (A' ++ B').any p = (A ++ B).any p := by
  rw [List.any_append, List.any_append, hA, hB]
theorem order_lin {c : Con} {a : List Int} (hk : 1 ≤ c.kind ∧ c.kind ≤ 4) : holdsS { c with A := c.A.reverse, C := c.C.reverse } a = holdsS c a := by
  refine holds_turn ?_ fun R hf => ?_
  · refine right_turn rfl (by simp) rfl (by simp) rfl rfl rfl rfl ?_ (any_rev_app _ _ _ _ _ (by simp) rfl) ?_ ?_
    · unfold alikeS; simp [hk]
    · unfold numbersS; simp [boundedS]
    · unfold countsS; rw [if_neg (by simp only; omega), if_neg (by omega)]
  · have hl := alike_lin R.alike hk
    have e := dot_reverse (c := c.C) (x := valuesS a c.A) (by rw [values_len]; exact hl)
    have e2 : dotS c.C.reverse (valuesS a c.A.reverse) = dotS c.C (valuesS a c.A) := by rw [values_reverse, e]
    obtain h | h | h | h : c.kind = 1 ∨ c.kind = 2 ∨ c.kind = 3 ∨ c.kind = 4 := by omega
    · simp [holdsXS, h, e2]
    · simp [holdsXS, h, e2]
    · simp [holdsXS, h, e2]
    · have e3 : sumN (fun i => c.C.reverse.getD i 0 * (valuesS a c.A.reverse).getD i 0) c.C.reverse.length = sumN (fun i => c.C.getD i 0 * (valuesS a c.A).getD i 0) c.C.length := e2
      have e4 : logicS 4 c.K c.C.reverse (valuesS a c.A.reverse) (valuesS a c.B) = logicS 4 c.K c.C (valuesS a c.A) (valuesS a c.B) := by
        unfold logicS
        rw [if_pos rfl, if_pos rfl, e3]
      simp [holdsXS, h, e4]
theorem order_all {c : Con} {a : List Int} (hk : c.kind = 17) : holdsS { c with A := c.A.reverse } a = holdsS c a := by
  refine holds_turn ?_ fun R hf => ?_
  · refine right_turn rfl (by simp) rfl rfl rfl rfl rfl rfl ?_ (any_rev_app _ _ _ _ _ (by simp) rfl) rfl rfl
    unfold alikeS; simp [hk]
  · simp only [holdsXS, hk, values_reverse]
    simp
    exact apart_perm (List.reverse_perm _)
theorem order_gcc {c : Con} {a : List Int} (hk : c.kind = 21) : holdsS { c with A := c.A.reverse } a = holdsS c a := by
  refine holds_turn ?_ fun R hf => ?_
  · refine right_turn rfl (by simp) rfl rfl rfl rfl rfl rfl ?_ (any_rev_app _ _ _ _ _ (by simp) rfl) rfl rfl
    unfold alikeS; simp [hk]
  · simp only [holdsXS, hk, values_reverse]
    simp
    exact counted_reverse _ _ _ _
theorem order_clause {c : Con} {a : List Int} (hk : c.kind = 12) : holdsS { c with A := c.A.reverse, B := c.B.reverse } a = holdsS c a := by
  refine holds_turn ?_ fun R hf => ?_
  · refine right_turn rfl (by simp) (by simp) rfl rfl rfl rfl rfl ?_ (any_rev_app _ _ _ _ _ (by simp) (by simp)) rfl rfl
    unfold alikeS; simp [hk]
  · simp only [holdsXS, hk, values_reverse, logicS]
    simp
theorem order_cumul {c : Con} {a : List Int} (hk : c.kind = 19) : holdsS { c with A := c.A.reverse, C := c.C.reverse, D := c.D.reverse } a = holdsS c a := by
  refine holds_turn ?_ fun R hf => ?_
  · refine right_turn rfl (by simp) rfl (by simp) (by simp) rfl rfl rfl ?_ (any_rev_app _ _ _ _ _ (by simp) rfl) ?_ ?_
    · unfold alikeS; simp [hk]
    · unfold numbersS; simp [boundedS]
    · unfold countsS; rw [if_neg (by simp only; omega), if_neg (by omega)]
  · obtain ⟨h1, h2⟩ := alike_cumul R.alike hk
    simp only [holdsXS, hk, values_reverse]
    simp
    exact fits_reverse (by rw [values_len]; exact h1) (by rw [values_len]; exact h2) _
theorem order_table {c : Con} {a : List Int} (hk : c.kind = 18) : holdsS { c with R := c.R.reverse } a = holdsS c a := by
  refine holds_turn ?_ fun R hf => ?_
  · refine right_turn rfl rfl rfl rfl rfl rfl (by simp) rfl ?_ rfl ?_ rfl
    · unfold alikeS; simp [hk]
    · unfold numbersS; simp
  · simp [holdsXS, hk]

/-! ### How long what is made is -/
theorem shape_len' (k : Int) : (shapeS k).length ≤ 4 := by
  by_cases h : 1 ≤ k ∧ k ≤ 23
  · exact shape_len h
  · rw [shapeS, if_neg h]; simp
theorem nS_le (z : Small) (k : Int) : nS z (shapeS k) ≤ 4 := by
  unfold nS
  split
  · exact Nat.le_trans List.count_le_length (shape_len' k)
  · exact (nS0_in z).2
theorem make_lens (z : Small) (vars : Int) : (makeS z vars).A.length ≤ 4 ∧ (makeS z vars).B.length ≤ 4 ∧ (makeS z vars).C.length ≤ 5 ∧ (makeS z vars).D.length ≤ 5 ∧ (makeS z vars).E.length ≤ 5 ∧ (makeS z vars).R.length ≤ 6 := by
  have hn := nS_le z (1 + z.kind.tmod 23)
  simp only [makeS]
  refine ⟨by rw [places_len]; exact hn, ?_, ?_, ?_, ?_, ?_⟩
  · split
    · rw [places_len]; exact hn
    · split
      · rw [places_len]; omega
      · simp
  · split
    · simp; omega
    · split
      · rw [nums_len]; omega
      · split
        · rw [nums_len]; omega
        · split
          · rw [nums_len]; omega
          · simp
  · split
    · rw [nums_len]; omega
    · split
      · rw [nums_len]; omega
      · simp
  · split
    · simp; omega
    · simp
  · split
    · simp; omega
    · simp
end Go.Pi

/- The document's answer, in plain lists: what the reference computes is what rightS, holdsXS say. -/
namespace Go.Pi
open Go

theorem getD_lt {α : Type} (d : α) {l : List α} {i : Nat} (h : i < l.length) : l.getD i d = l[i] := by simp [List.getD_eq_getElem?_getD, h]

/-! ### All unlike -/
theorem compact_len_le (d : Array Int) (m : Nat) : (Lib.compactUpTo d m).length ≤ m := by
  induction m with
  | zero => simp [Lib.compactUpTo]
  | succ m ih =>
    rw [Lib.compactUpTo_succ, List.length_append]
    split <;> simp <;> omega
theorem compact_all_of (d : Array Int) (m : Nat) (h : (Lib.compactUpTo d m).length = m) : ∀ j, j < m → Lib.keeps d j = true := by
  induction m with
  | zero => intro j hj; omega
  | succ m ih =>
    rw [Lib.compactUpTo_succ, List.length_append] at h
    have hl := compact_len_le d m
    intro j hj
    by_cases hk : Lib.keeps d m = true
    · rw [if_pos hk] at h
      simp at h
      rcases Nat.lt_or_ge j m with h1 | h1
      · exact ih h j h1
      · have : j = m := by omega
        rw [this]; exact hk
    · rw [if_neg hk] at h
      simp at h; omega
theorem sorted_lt {l : List Int} (hs : l.Pairwise (· ≤ ·)) (h : ∀ i, 0 < i → i < l.length → l.getD i 0 ≠ l.getD (i - 1) 0) : l.Nodup := by
  have step : ∀ i j, i < j → j < l.length → l.getD i 0 < l.getD j 0 := by
    intro i j hij hj
    induction j with
    | zero => omega
    | succ j ih =>
      have h1 := h (j + 1) (by omega) hj
      rw [List.pairwise_iff_getElem] at hs
      have h2 := hs j (j + 1) (by omega) hj (by omega)
      rw [← getD_lt 0, ← getD_lt 0 hj] at h2
      rw [Nat.add_sub_cancel] at h1
      rcases Nat.lt_or_ge i j with h3 | h3
      · have := ih h3 (by omega); omega
      · have : i = j := by omega
        subst this; omega
  rw [List.nodup_iff_pairwise_ne, List.pairwise_iff_getElem]
  intro i j hi hj hij e
  have := step i j hij hj
  rw [getD_lt 0 hi, getD_lt 0 hj, e] at this
  omega
theorem nodup_of_apart {l : List Int} (h : apartS l = true) : l.Nodup := by
  unfold apartS at h
  rw [beq_iff_eq] at h
  rw [← sortS_len l] at h
  have hk := compact_all_of (sortS l).toArray (sortS l).length h
  refine (sort_perm l).nodup_iff.1 (sorted_lt (sort_sorted l) fun i h0 hi e => ?_)
  have := hk i hi
  rw [Lib.keeps_neg h0 ?_] at this
  · cases this
  · rw [getD_lt 0 hi, getD_lt 0 (show i - 1 < (sortS l).length by omega)] at e
    simpa [hi, show i - 1 < (sortS l).length by omega] using e
theorem nodup_iff {l : List Int} : l.Nodup ↔ ∀ i, i < l.length → ∀ k, k < i → l.getD i 0 ≠ l.getD k 0 := by
  rw [List.nodup_iff_pairwise_ne, List.pairwise_iff_getElem]
  constructor
  · intro h i hi k hk e
    rw [getD_lt 0 hi, getD_lt 0 (by omega)] at e
    exact h k i (by omega) hi hk e.symm
  · intro h i j hi hj hij e
    refine h j hj i hij ?_
    rw [getD_lt 0 hi, getD_lt 0 hj, e]
theorem apart_yes {l : List Int} (h : ∀ i, i < l.length → ∀ k, k < i → l.getD i 0 ≠ l.getD k 0) : apartS l = true := apart_nodup (nodup_iff.2 h)
theorem apart_no {l : List Int} {i k : Nat} (hi : i < l.length) (hk : k < i) (e : l.getD i 0 = l.getD k 0) : apartS l = false := by
  cases h : apartS l
  · rfl
  · exact absurd e (nodup_iff.1 (nodup_of_apart h) i hi k hk)

/-! ### A Gcc's numbers -/
theorem nodup_counts {l : List Int} (h : l.Nodup) {i : Nat} (h0 : 0 < i) (hi : i < l.length) : (sortS l).getD i 0 ≠ (sortS l).getD (i - 1) 0 :=
  nodup_iff.1 (sort_nodup h) i (by rw [sortS_len]; exact hi) (i - 1) (by omega)
theorem counts_nodup {l : List Int} (h : ∀ i, 0 < i → i < l.length → (sortS l).getD i 0 ≠ (sortS l).getD (i - 1) 0) : l.Nodup :=
  (sort_perm l).nodup_iff.1 (sorted_lt (sort_sorted l) fun i h0 hi => h i h0 (by rw [sortS_len] at hi; exact hi))
theorem countsS_iff {c : Con} (hk : c.kind = 21) : countsS c = true ↔ ∀ i, i < c.C.length → c.D.getD i 0 ≤ c.E.getD i 0 ∧ ∀ j, j < i → c.C.getD i 0 ≠ c.C.getD j 0 := by
  unfold countsS
  rw [if_pos hk, List.all_eq_true]
  simp only [List.mem_range, Bool.not_eq_true', Bool.or_eq_false_iff, Bool.and_eq_false_iff, decide_eq_false_iff_not, beq_eq_false_iff_ne, Int.not_lt]
  constructor
  · intro h
    have nd := nodup_iff.1 (counts_nodup fun i h0 hi => (h i hi).2.resolve_left (by omega))
    exact fun i hi => ⟨by have := (h i hi).1; omega, nd i hi⟩
  · intro h i hi
    refine ⟨by have := (h i hi).1; omega, ?_⟩
    rcases Nat.eq_zero_or_pos i with h0 | h0
    · exact .inl (by omega)
    · exact .inr (nodup_counts (nodup_iff.2 fun i hi => (h i hi).2) h0 hi)

/-! ### A circuit, marking what is met -/
def circS (x : List Int) : Nat → Nat → List Bool → Bool
  | 0, at', _ => at' == 0
  | k + 1, at', met => let v := x.getD at' 0; if v < 1 ∨ v > x.length ∨ met.getD (v - 1).toNat false = true then false else circS x k (v - 1).toNat (met.set (v - 1).toNat true)
theorem bget_set (met : List Bool) (i j : Nat) (h : i < met.length) : (met.set i true).getD j false = if i = j then true else met.getD j false := by
  simp only [List.getD_eq_getElem?_getD, List.getElem?_set]
  by_cases e : i = j
  · rw [if_pos e, if_pos e, if_pos h]; rfl
  · rw [if_neg e, if_neg e]
/-- Place by place. -/
def goS (x : List Int) : Nat → Int
  | 0 => 1
  | k + 1 => x.getD (goS x k - 1).toNat 0
/-- From step j on: all is met once. -/
theorem circ_iff {x : List Int} : ∀ (k j : Nat) (met : List Bool), met.length = x.length → 1 ≤ goS x j → goS x j ≤ x.length →
    (∀ i : Nat, i < x.length → (met.getD i false = true ↔ ∃ s, 1 ≤ s ∧ s ≤ j ∧ goS x s = i + 1)) →
    (circS x k (goS x j - 1).toNat met = true ↔ (∀ s, j < s → s ≤ j + k → (1 ≤ goS x s ∧ goS x s ≤ x.length) ∧ ∀ t, 1 ≤ t → t < s → goS x t ≠ goS x s) ∧ goS x (j + k) = 1)
  | 0, j, met, _, h1, h2, _ => by
    simp only [circS, beq_iff_eq, Nat.add_zero]
    constructor
    · intro h
      exact ⟨fun s h3 h4 => by omega, by omega⟩
    · intro h; rw [h.2]; rfl
  | k + 1, j, met, hm, h1, h2, h3 => by
    have e : x.getD (goS x j - 1).toNat 0 = goS x (j + 1) := rfl
    simp only [circS, e]
    split
    · rename_i hb
      refine ⟨fun h => (by cases h), fun ⟨h, _⟩ => ?_⟩
      have := h (j + 1) (by omega) (by omega)
      rcases hb with hb | hb | hb
      · omega
      · omega
      · obtain ⟨s, s1, s2, s3⟩ := (h3 (goS x (j + 1) - 1).toNat (by omega)).1 hb
        exact absurd (show goS x s = goS x (j + 1) by omega) (this.2 s s1 (by omega))
    · rename_i hb
      simp only [not_or, Int.not_lt] at hb
      obtain ⟨b1, b2, b3⟩ := hb
      rw [circ_iff k (j + 1) (met.set (goS x (j + 1) - 1).toNat true) (by simpa using hm) (by omega) (by omega) fun i hi => ?_]
      · rw [show j + 1 + k = j + (k + 1) by omega]
        constructor
        · rintro ⟨h, hz⟩
          refine ⟨fun s s1 s2 => ?_, hz⟩
          rcases Nat.lt_or_ge (j + 1) s with h4 | h4
          · exact h s h4 s2
          · have : s = j + 1 := by omega
            subst this
            refine ⟨by omega, fun t t1 t2 et => b3 ((h3 _ (by omega)).2 ⟨t, t1, by omega, by omega⟩)⟩
        · rintro ⟨h, hz⟩
          exact ⟨fun s s1 s2 => h s (by omega) s2, hz⟩
      · rw [bget_set _ _ _ (by omega)]
        by_cases ei : (goS x (j + 1) - 1).toNat = i
        · rw [if_pos ei]
          exact ⟨fun _ => ⟨j + 1, by omega, by omega, by omega⟩, fun _ => rfl⟩
        · rw [if_neg ei, h3 i hi]
          constructor
          · rintro ⟨s, s1, s2, s3⟩; exact ⟨s, s1, by omega, s3⟩
          · rintro ⟨s, s1, s2, s3⟩
            refine ⟨s, s1, ?_, s3⟩
            rcases Nat.lt_or_ge j s with h4 | h4
            · have : s = j + 1 := by omega
              subst this; omega
            · exact h4
theorem round_iff {x : List Int} : ∀ (k j : Nat), 
    (roundS x k (goS x j) (j + 1) = true ↔ ∃ s, j < s ∧ s ≤ j + k ∧ (∀ t, j < t → t ≤ s → 1 ≤ goS x t ∧ goS x t ≤ x.length) ∧ (∀ t, j < t → t < s → goS x t ≠ 1) ∧ goS x s = 1 ∧ s = x.length)
  | 0, j => by
    simp only [roundS]
    exact ⟨fun h => (by cases h), fun ⟨s, h1, h2, _⟩ => by omega⟩
  | k + 1, j => by
    have e : x.getD (goS x j - 1).toNat 0 = goS x (j + 1) := rfl
    simp only [roundS, e]
    split
    · rename_i hb
      refine ⟨fun h => (by cases h), fun ⟨s, h1, h2, h3, _⟩ => ?_⟩
      have := h3 (j + 1) (by omega) (by omega)
      omega
    · rename_i hb
      split
      · rename_i h1
        rw [beq_iff_eq]
        constructor
        · intro h
          refine ⟨j + 1, by omega, by omega, fun t t1 t2 => ?_, fun t t1 t2 => by omega, h1, h⟩
          have : t = j + 1 := by omega
          subst this; omega
        · rintro ⟨s, s1, s2, s3, s4, s5, s6⟩
          rcases Nat.lt_or_ge (j + 1) s with h4 | h4
          · exact absurd h1 (s4 (j + 1) (by omega) h4)
          · omega
      · rename_i h1
        rw [round_iff k (j + 1)]
        constructor
        · rintro ⟨s, s1, s2, s3, s4, s5, s6⟩
          refine ⟨s, by omega, by omega, fun t t1 t2 => ?_, fun t t1 t2 => ?_, s5, s6⟩
          · rcases Nat.lt_or_ge (j + 1) t with h4 | h4
            · exact s3 t h4 t2
            · have : t = j + 1 := by omega
              subst this; omega
          · rcases Nat.lt_or_ge (j + 1) t with h4 | h4
            · exact s4 t h4 t2
            · have : t = j + 1 := by omega
              subst this; exact h1
        · rintro ⟨s, s1, s2, s3, s4, s5, s6⟩
          rcases Nat.lt_or_ge (j + 1) s with h4 | h4
          · exact ⟨s, h4, by omega, fun t t1 t2 => s3 t (by omega) t2, fun t t1 t2 => s4 t (by omega) t2, s5, s6⟩
          · have : s = j + 1 := by omega
            subst this; exact absurd s5 h1
theorem go_add {x : List Int} {i j : Nat} (h : goS x i = goS x j) : ∀ k, goS x (i + k) = goS x (j + k)
  | 0 => h
  | k + 1 => by
    show x.getD (goS x (i + k) - 1).toNat 0 = x.getD (goS x (j + k) - 1).toNat 0
    rw [go_add h k]
theorem circ_round {x : List Int} (hl : 1 ≤ x.length) : circS x x.length 0 (List.replicate x.length false) = roundS x x.length 1 1 := by
  rw [Bool.eq_iff_iff]
  have h1 := circ_iff (x := x) x.length 0 (List.replicate x.length false) (by simp) (by show (1 : Int) ≤ 1; omega) (by show (1 : Int) ≤ _; omega) (fun i hi => by
    simp [List.getD_eq_getElem?_getD, hi]
    intro s s1 s2; omega)
  have h2 := round_iff (x := x) x.length 0
  rw [show circS x x.length 0 (List.replicate x.length false) = circS x x.length (goS x 0 - 1).toNat (List.replicate x.length false) from rfl, h1, show roundS x x.length 1 1 = roundS x x.length (goS x 0) (0 + 1) from rfl, h2]
  rw [Nat.zero_add]
  constructor
  · rintro ⟨h, hz⟩
    exact ⟨x.length, by omega, Nat.le_refl _, fun t t1 t2 => (h t t1 t2).1, fun t t1 t2 e => (h x.length (by omega) (Nat.le_refl _)).2 t t1 t2 (e.trans hz.symm), hz, rfl⟩
  · rintro ⟨s, s1, s2, s3, s4, s5, rfl⟩
    refine ⟨fun t t1 t2 => ⟨s3 t t1 t2, fun u u1 u2 e => ?_⟩, s5⟩
    have := go_add e (x.length - t)
    rw [show t + (x.length - t) = x.length by omega, s5] at this
    exact s4 _ (by omega) (by omega) this

/-! ### Pairs -/
theorem inverse_all {x z : List Int} (hl : x.length = z.length) : inverseS x z = true ↔ ∀ i, i < x.length → ∀ k, k < x.length →
    (1 ≤ x.getD i 0 ∧ x.getD i 0 ≤ x.length ∧ 1 ≤ z.getD k 0 ∧ z.getD k 0 ≤ x.length ∧ (x.getD i 0 = k + 1 ↔ z.getD k 0 = i + 1)) := by
  constructor
  · intro h
    have h1 := inverse_iff.1 h
    have h2 := inverse_iff.1 (inverse_back hl h)
    intro i hi k hk
    have a := h1 i hi
    have b := h2 k (by omega)
    refine ⟨a.1, by omega, b.1, by omega, fun e => ?_, fun e => ?_⟩
    · have := a.2.2
      rw [e, show ((k : Int) + 1 - 1).toNat = k by omega] at this
      exact this
    · have := b.2.2
      rw [e, show ((i : Int) + 1 - 1).toNat = i by omega] at this
      exact this
  · intro h
    rw [inverse_iff]
    intro i hi
    have a := h i hi 0 (by omega)
    refine ⟨a.1, by omega, ?_⟩
    have b := h i hi (x.getD i 0 - 1).toNat (by omega)
    exact b.2.2.2.2.1 (by omega)
theorem compare_at {x z : List Int} (hl : x.length = z.length) {j : Nat} (hj : j < x.length) (hp : ∀ i, i < j → x.getD i 0 = z.getD i 0) (hne : x.getD j 0 ≠ z.getD j 0) : decide (compareS x z ≤ 0) = decide (x.getD j 0 < z.getD j 0) := by
  induction x generalizing z j with
  | nil => simp at hj
  | cons a l ih =>
    cases z with
    | nil => simp at hl
    | cons b m =>
      cases j with
      | zero =>
        simp only [List.getD_cons_zero] at hne ⊢
        by_cases h : a < b
        · have e : compareS (a :: l) (b :: m) = -1 := by simp [compareS, h]
          rw [e]; simp [h]
        · have e : compareS (a :: l) (b :: m) = 1 := by simp [compareS, h, show a > b by omega]
          rw [e]; simp [h]
      | succ j =>
        have h0 := hp 0 (by omega)
        simp only [List.getD_cons_zero] at h0
        subst h0
        simp only [List.getD_cons_succ] at hne ⊢
        simp only [compareS, Int.lt_irrefl, gt_iff_lt, if_false]
        exact ih (by simpa using hl) (by simpa using hj) (fun i hi => by simpa using hp (i + 1) (by omega)) hne
theorem compare_same {x z : List Int} (hl : x.length = z.length) (hp : ∀ i, i < x.length → x.getD i 0 = z.getD i 0) : decide (compareS x z ≤ 0) = true := by
  rw [(eq_all hl).1 hp]
  have : ∀ l : List Int, compareS l l = 0 := by
    intro l
    induction l with
    | nil => rfl
    | cons a l ih => simp [compareS, ih]
  rw [this]; rfl

/-! ### How long lists are -/
def listS (n one all : Int) : Bool := if all > 0 then decide (1 ≤ n) && decide (n ≤ 64) else n == one
theorem has_pos {s : List UInt8} {c : UInt8} : ((hasS s c : Int) > 0) ↔ hasB (bs s) c = true := by
  unfold hasS hasB
  show ((s.count c : Nat) : Int) > 0 ↔ s.contains c = true
  rw [List.contains_iff_mem, ← List.count_pos_iff]
  omega
theorem list_named (n : Int) (s : List UInt8) (one all : UInt8) : listS n (hasS s one) (hasS s all) = namedS n (bs s) one all := by
  unfold listS namedS
  by_cases h : hasB (bs s) all = true
  · rw [if_pos (has_pos.2 h), if_pos h]; rfl
  · rw [if_neg (fun e => h (has_pos.1 e)), if_neg h]; rfl
theorem no_dash {k : Int} (h : 1 ≤ k ∧ k ≤ 23) : hasS (shapeS k) 45 = 0 := by
  rcases kinds23 h with rfl | rfl | rfl | rfl | rfl | rfl | rfl | rfl | rfl | rfl | rfl | rfl | rfl | rfl | rfl | rfl | rfl | rfl | rfl | rfl | rfl | rfl | rfl <;> decide
theorem list_dash (n : Int) {k : Int} (h : 1 ≤ k ∧ k ≤ 23) (all : UInt8) : listS n 0 (hasS (shapeS k) all) = namedS n (bs (shapeS k)) 45 all := by
  rw [← list_named, no_dash h]; rfl

/-! ### What the reference calls right -/
def inS (l : List Int) (low high : Int) : Bool := l.all fun v => !(decide (v < low) || decide (v > high))
theorem in_yes {l : List Int} {low high : Int} (h : ∀ i, i < l.length → low ≤ l.getD i 0 ∧ l.getD i 0 ≤ high) : inS l low high = true := by
  unfold inS
  rw [List.all_eq_true]
  intro v hv
  obtain ⟨i, hi, rfl⟩ := List.mem_iff_getElem.1 hv
  have := h i hi
  rw [getD_lt 0 hi] at this
  simp; omega
theorem in_no {l : List Int} {low high : Int} {i : Nat} (hi : i < l.length) (h : l.getD i 0 < low ∨ l.getD i 0 > high) : inS l low high = false := by
  unfold inS
  rw [List.all_eq_false]
  refine ⟨_, getD_mem 0 hi, ?_⟩
  generalize l.getD i 0 = v at h
  simp; omega
theorem in_bounded (l : List Int) (low : Int) : inS l low 1000000 = boundedS l low := by
  unfold inS boundedS
  rw [Bool.eq_iff_iff]
  simp
def arityS (c : Con) : Bool := mcountedS c.kind c.A.length c.B.length c.C.length c.D.length c.E.length c.R.length (bs (shapeS c.kind)) && alikeS c && (c.K == 0 || (shapeS c.kind).contains 107)
def coefsS (c : Con) : Bool := numbersS c && countsS c
theorem right_eq (c : Con) (vars : Int) : rightS c vars = if c.kind < 1 ∨ c.kind > 23 then 9 else if arityS c = false then 10 else if inS c.A 0 (vars - 1) = false ∨ inS c.B 0 (vars - 1) = false then 7 else if coefsS c = false then 11 else 0 := by
  unfold rightS
  by_cases h1 : c.kind < 1 ∨ c.kind > 23
  · rw [if_pos h1, if_pos]
    cases h : shapeS c.kind with
    | nil => rfl
    | cons a l => exact absurd (shapeS_ne.1 (by rw [h]; simp)) (by omega)
  · rw [if_neg h1, if_neg (shapeS_ne.2 (by omega))]
    have e1 : (!mcountedS c.kind c.A.length c.B.length c.C.length c.D.length c.E.length c.R.length (bs (shapeS c.kind)) || !alikeS c || (c.K != 0 && !(shapeS c.kind).contains 107)) = !arityS c := by
      unfold arityS
      simp only [Bool.not_and, Bool.not_or, bne]
    rw [e1]
    have e2 : ((c.A ++ c.B).any fun v => decide (v < 0) || decide (v ≥ vars)) = !(inS c.A 0 (vars - 1) && inS c.B 0 (vars - 1)) := by
      unfold inS
      rw [List.any_append, Bool.not_and, List.not_all_eq_any_not, List.not_all_eq_any_not]
      have : (fun v : Int => decide (v < 0) || decide (v ≥ vars)) = fun x => !!(decide (x < 0) || decide (x > vars - 1)) := by
        funext v
        rw [Bool.not_not]
        congr 1
        rw [decide_eq_decide]; omega
      rw [this]
    rw [e2]
    have e3 : (!numbersS c || !countsS c) = !coefsS c := by simp [coefsS]
    rw [e3]
    cases arityS c <;> cases inS c.A 0 (vars - 1) <;> cases inS c.B 0 (vars - 1) <;> cases coefsS c <;> simp

/-! ### Reading values by their places -/
structure Reads (a A x : List Int) : Prop where
  len : x.length = A.length
  lo : ∀ i, i < A.length → 0 ≤ A.getD i 0
  hi : ∀ i, i < A.length → A.getD i 0 < a.length
  get : ∀ i, i < A.length → a.getD (A.getD i 0).toNat 0 = x.getD i 0
theorem reads_of {a A : List Int} (h : ∀ v ∈ A, 0 ≤ v ∧ v < a.length) : Reads a A (valuesS a A) :=
  ⟨values_len a A, fun i hi => (h _ (getD_mem 0 hi)).1, fun i hi => (h _ (getD_mem 0 hi)).2, fun i hi => (values_get a A hi).symm⟩
end Go.Pi

/- Quotients. -/
namespace Go.Pi
open Go

/-! ### Quotients -/
theorem wrap_u64 {x : Int} (h1 : 0 ≤ x) (h2 : x < 18446744073709551616) : IntKind.u64.wrap x = x := by
  simp only [IntKind.wrap, IntKind.bits, IntKind.signed]
  have : (2 : Int) ^ 64 = 18446744073709551616 := by decide
  first
    | (simp only [this]; split <;> omega)
    | (simp; omega)
theorem tdiv_abs (a b : Int) : a.tdiv b = if (a < 0) ↔ (b < 0) then ((a.natAbs / b.natAbs : Nat) : Int) else -((a.natAbs / b.natAbs : Nat) : Int) := by
  have core : (a.natAbs : Int).tdiv b.natAbs = ((a.natAbs / b.natAbs : Nat) : Int) := rfl
  rcases Int.lt_or_le a 0 with ha | ha <;> rcases Int.lt_or_le b 0 with hb | hb
  · rw [if_pos (by omega)]
    have ea : a = -(a.natAbs : Int) := by omega
    have eb : b = -(b.natAbs : Int) := by omega
    conv => lhs; rw [ea, eb, Int.tdiv_neg, Int.neg_tdiv, Int.neg_neg, core]
  · rw [if_neg (by omega)]
    have ea : a = -(a.natAbs : Int) := by omega
    have eb : b = (b.natAbs : Int) := by omega
    conv => lhs; rw [ea, eb, Int.neg_tdiv, core]
  · rw [if_neg (by omega)]
    have ea : a = (a.natAbs : Int) := by omega
    have eb : b = -(b.natAbs : Int) := by omega
    conv => lhs; rw [ea, eb, Int.tdiv_neg, core]
  · rw [if_pos (by omega)]
    have ea : a = (a.natAbs : Int) := by omega
    have eb : b = (b.natAbs : Int) := by omega
    conv => lhs; rw [ea, eb, core]
theorem neg_wrap {a b : Int} (ha : -9223372036854775808 ≤ a ∧ a ≤ 9223372036854775807) (hb : b ≠ 0) (hs : ¬ ((a < 0) ↔ (b < 0))) :
    IntKind.i64.wrap (0 - IntKind.i64.wrap ((a.natAbs / b.natAbs : Nat) : Int)) = a.tdiv b := by
  rw [tdiv_abs, if_neg hs]
  have h1 : a.natAbs / b.natAbs ≤ a.natAbs := Nat.div_le_self _ _
  generalize a.natAbs / b.natAbs = n at h1
  rcases Nat.lt_or_ge n 9223372036854775808 with h | h
  · rw [wrap_i64 (x := (n : Int)) (by omega) (by omega), wrap_i64 (by omega) (by omega)]; omega
  · have : n = 9223372036854775808 := by omega
    subst this; decide
theorem pos_wrap {a b : Int} (ha : -9223372036854775808 ≤ a ∧ a ≤ 9223372036854775807) (hb : b ≠ 0) (hx : ¬ (b = -1 ∧ a = -9223372036854775808)) (hs : (a < 0) ↔ (b < 0)) :
    IntKind.i64.wrap ((a.natAbs / b.natAbs : Nat) : Int) = a.tdiv b := by
  rw [tdiv_abs, if_pos hs]
  have h1 : a.natAbs / b.natAbs ≤ a.natAbs := Nat.div_le_self _ _
  have h2 : 2 ≤ b.natAbs → a.natAbs / b.natAbs ≤ a.natAbs / 2 := fun h2 => Nat.div_le_div_left h2 (by decide)
  have h3 : a.natAbs / b.natAbs ≤ 9223372036854775807 := by
    generalize a.natAbs / b.natAbs = n at h1 h2
    by_cases h : b = -1
    · omega
    · by_cases ha0 : a < 0
      · have := h2 (by omega)
        omega
      · omega
  generalize a.natAbs / b.natAbs = n at h3
  rw [wrap_i64 (by omega) (by omega)]
end Go.Pi
