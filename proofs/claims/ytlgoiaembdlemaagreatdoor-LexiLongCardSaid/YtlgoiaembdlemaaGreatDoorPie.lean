/- A verified evaluator of Go's code over plain values, part 5. No condition. -/
import Derived.Test.YtlgoiaembdlemaaGreatDoorPid
set_option linter.unusedSimpArgs false
set_option linter.unusedVariables false

/- Two rows in order: what is left of their domains, in plain lists. -/
namespace Go.Pi
open Go
set_option linter.unusedVariables false
set_option linter.unusedSimpArgs false

/-! ### What is in a solution is left, nothing else -/
/-- Of each domain what is in a solution (H tells which rows are ones). -/
def ExactP (ds : List (List Int)) (H : List Int → Prop) (p : Nat → Int → Bool) : Prop := ∀ i, i < ds.length → ∀ v ∈ ds.getD i [], (p i v = true ↔ ∃ r, inD r ds ∧ H r ∧ r.getD i 0 = v)
section
variable {ds : List (List Int)} {H : List Int → Prop} {p : Nat → Int → Bool}
theorem ExactP.some (h : ExactP ds H p) (h0 : 0 < ds.length) : someL (leftL ds p) = true ↔ ∃ r, inD r ds ∧ H r := by
  rw [someL_iff]
  constructor
  · intro hs
    have h1 : (leftL ds p).getD 0 [] ∈ leftL ds p := getD_mem [] (by rw [leftL_len]; exact h0)
    have h2 := hs _ h1
    rw [leftL_get _ _ _ h0] at h2
    have h3 := headS_mem h2
    obtain ⟨h4, h5⟩ := List.mem_filter.1 h3
    obtain ⟨r, r1, r2, _⟩ := (h 0 h0 _ h4).1 h5
    exact ⟨r, r1, r2⟩
  · rintro ⟨r, r1, r2⟩ d hd
    obtain ⟨i, hi, rfl⟩ := List.mem_iff_getElem.1 hd
    rw [leftL_len] at hi
    have hg : (leftL ds p)[i] = (leftL ds p).getD i [] := by simp [List.getD_eq_getElem?_getD, leftL_len, hi]
    rw [hg, leftL_get _ _ _ hi]
    have hv := (inD_get.1 r1).2 i hi
    have : r.getD i 0 ∈ (ds.getD i []).filter (p i) := List.mem_filter.2 ⟨hv, (h i hi _ hv).2 ⟨r, r1, r2, rfl⟩⟩
    intro e
    rw [e] at this
    simp at this
theorem ExactP.sols (h : ExactP ds H p) (r : List Int) (hr : H r) : inD r (leftL ds p) ↔ inD r ds := by
  rw [inD_get, inD_get, leftL_len]
  constructor
  · rintro ⟨h1, h2⟩
    exact ⟨h1, fun i hi => by have := h2 i hi; rw [leftL_get _ _ _ hi] at this; exact (List.mem_filter.1 this).1⟩
  · rintro ⟨h1, h2⟩
    refine ⟨h1, fun i hi => ?_⟩
    rw [leftL_get _ _ _ hi]
    exact List.mem_filter.2 ⟨h2 i hi, (h i hi _ (h2 i hi)).2 ⟨r, inD_get.2 ⟨h1, h2⟩, hr, rfl⟩⟩
theorem ExactP.again (h : ExactP ds H p) {q : Nat → Int → Bool} (h2 : ExactP (leftL ds p) H q) : leftL (leftL ds p) q = leftL ds p := by
  apply List.ext_getElem
  · rw [leftL_len]
  · intro i h3 h4
    have h5 : i < ds.length := by rw [leftL_len] at h4; exact h4
    have e1 : (leftL (leftL ds p) q)[i] = (leftL (leftL ds p) q).getD i [] := by simp [List.getD_eq_getElem?_getD, h3]
    have e2 : (leftL ds p)[i] = (leftL ds p).getD i [] := by simp [List.getD_eq_getElem?_getD, h4]
    rw [e1, e2, leftL_get _ _ _ h4]
    refine List.filter_eq_self.2 fun v hv => ?_
    have hv' := hv
    rw [leftL_get _ _ _ h5] at hv'
    obtain ⟨v1, v2⟩ := List.mem_filter.1 hv'
    obtain ⟨r, r1, r2, r3⟩ := (h i h5 v v1).1 v2
    exact (h2 i h4 v hv).2 ⟨r, (h.sols r r2).2 r1, r2, r3⟩
end

/-! ### Two rows in order -/
def meetS (x y : List Int) : Bool := x.any fun v => y.contains v
theorem meetS_iff {x y : List Int} : meetS x y = true ↔ ∃ v, v ∈ x ∧ v ∈ y := by simp [meetS]
def canS : List (List Int) → List (List Int) → Bool
  | x :: a, y :: b => decide (headS x < lastS y) || (meetS x y && canS a b)
  | _, _ => true
/-- Rising lists with something in them. -/
def Full (ds : List (List Int)) : Prop := ∀ d ∈ ds, Rising d ∧ d ≠ []
theorem Full.tail {d : List Int} {ds : List (List Int)} (h : Full (d :: ds)) : Full ds := fun x hx => h x (by simp [hx])
theorem Full.ne {ds : List (List Int)} (h : Full ds) : ∀ d ∈ ds, d ≠ [] := fun d hd => (h d hd).2
theorem Full.get {ds : List (List Int)} (h : Full ds) {i : Nat} (hi : i < ds.length) : Rising (ds.getD i []) ∧ ds.getD i [] ≠ [] := h _ (getD_mem [] hi)
theorem Full.set {ds : List (List Int)} (h : Full ds) (i : Nat) (v : Int) : Full (ds.set i [v]) := fun d hd => by
  rcases List.mem_or_eq_of_mem_set hd with hd | rfl
  · exact h d hd
  · exact ⟨List.pairwise_singleton _ _, by simp⟩
theorem canS_iff : ∀ {a b : List (List Int)}, a.length = b.length → Full a → Full b → (canS a b = true ↔ ∃ u w, inD u a ∧ inD w b ∧ compareS u w ≤ 0)
  | [], [], _, _, _ => by
    constructor
    · intro _; exact ⟨[], [], trivial, trivial, by simp [compareS]⟩
    · intro _; rfl
  | x :: a, y :: b, hl, ha, hb => by
    have hx := ha x (by simp)
    have hy := hb y (by simp)
    have ih := canS_iff (a := a) (b := b) (by simpa using hl) ha.tail hb.tail
    simp only [canS, Bool.or_eq_true, Bool.and_eq_true, decide_eq_true_eq, ih, meetS_iff]
    constructor
    · rintro (h | ⟨⟨v, h1, h2⟩, u, w, h3, h4, h5⟩)
      · obtain ⟨u, hu⟩ := inD_some ha.tail.ne
        obtain ⟨w, hw⟩ := inD_some hb.tail.ne
        refine ⟨headS x :: u, lastS y :: w, ⟨headS_mem hx.2, hu⟩, ⟨lastS_mem hy.2, hw⟩, ?_⟩
        simp [compareS, h]
      · refine ⟨v :: u, v :: w, ⟨h1, h3⟩, ⟨h2, h4⟩, ?_⟩
        simpa [compareS] using h5
    · rintro ⟨u, w, h1, h2, h3⟩
      cases u with
      | nil => exact h1.elim
      | cons u0 u =>
        cases w with
        | nil => exact h2.elim
        | cons w0 w =>
          simp only [compareS] at h3
          by_cases hlt : u0 < w0
          · left
            have := headS_le hx.1 u0 h1.1
            have := lastS_ge hy.1 w0 h2.1
            omega
          · rw [if_neg hlt] at h3
            by_cases hgt : u0 > w0
            · rw [if_pos hgt] at h3; omega
            · rw [if_neg hgt] at h3
              have : u0 = w0 := by omega
              subst this
              exact .inr ⟨⟨u0, h1.1, h2.1⟩, u, w, h1.2, h2.2, h3⟩
  | [], _ :: _, h, _, _ => by simp at h
  | _ :: _, [], h, _, _ => by simp at h

/-- The document's way. -/
def canR : List (List Int) → List (List Int) → Bool
  | x :: a, y :: b => if headS x < lastS y then true else if headS x > lastS y then false else canR a b
  | _, _ => true
theorem canR_eq : ∀ {a b : List (List Int)}, Full a → Full b → canR a b = canS a b
  | x :: a, y :: b, ha, hb => by
    have hx := ha x (by simp)
    have hy := hb y (by simp)
    simp only [canR, canS, canR_eq ha.tail hb.tail]
    by_cases h1 : headS x < lastS y
    · simp [h1]
    · rw [if_neg h1]
      by_cases h2 : headS x > lastS y
      · have : meetS x y = false := by
          cases hm : meetS x y with
          | false => rfl
          | true =>
            obtain ⟨v, v1, v2⟩ := meetS_iff.1 hm
            have := headS_le hx.1 v v1
            have := lastS_ge hy.1 v v2
            omega
        simp [h1, h2, this]
      · have : meetS x y = true := meetS_iff.2 ⟨headS x, headS_mem hx.2, by
          have : headS x = lastS y := by omega
          rw [this]; exact lastS_mem hy.2⟩
        simp [h1, h2, this]
  | [], _, _, _ => rfl
  | _ :: _, [], _, _ => rfl

/-! ### The program's way: place by place -/
def evenS (a b : List (List Int)) : Nat → Bool
  | 0 => true
  | i + 1 => evenS a b i && meetS (a.getD i []) (b.getD i [])
def belowS (a b : List (List Int)) : Nat → Bool
  | 0 => false
  | i + 1 => belowS a b i || evenS a b i && decide (headS (a.getD i []) < lastS (b.getD i []))
def restS (a b : List (List Int)) (i : Nat) : Bool := canS (a.drop i) (b.drop i)
def lftS (a b : List (List Int)) (i : Nat) (v : Int) : Bool := belowS a b i || evenS a b i && (decide (v < lastS (b.getD i [])) || (b.getD i []).contains v && restS a b (i + 1))
def rgtS (a b : List (List Int)) (i : Nat) (v : Int) : Bool := belowS a b i || evenS a b i && (decide (v > headS (a.getD i [])) || (a.getD i []).contains v && restS a b (i + 1))
theorem even_cons (x y : List Int) (a b : List (List Int)) : ∀ i, evenS (x :: a) (y :: b) (i + 1) = (meetS x y && evenS a b i)
  | 0 => by simp [evenS]
  | i + 1 => by
    rw [evenS, even_cons x y a b i]
    simp only [List.getD_cons_succ, evenS, Bool.and_assoc]
theorem below_cons (x y : List Int) (a b : List (List Int)) : ∀ i, belowS (x :: a) (y :: b) (i + 1) = (decide (headS x < lastS y) || meetS x y && belowS a b i)
  | 0 => by simp [belowS, evenS]
  | i + 1 => by
    rw [belowS, below_cons x y a b i, even_cons]
    simp only [List.getD_cons_succ, belowS]
    cases decide (headS x < lastS y) <;> cases meetS x y <;> simp
theorem lft_cons (x y : List Int) (a b : List (List Int)) (i : Nat) (v : Int) : lftS (x :: a) (y :: b) (i + 1) v = (decide (headS x < lastS y) || meetS x y && lftS a b i v) := by
  unfold lftS
  rw [below_cons, even_cons]
  simp only [List.getD_cons_succ, restS, List.drop_succ_cons]
  cases decide (headS x < lastS y) <;> cases meetS x y <;> simp
theorem rgt_cons (x y : List Int) (a b : List (List Int)) (i : Nat) (v : Int) : rgtS (x :: a) (y :: b) (i + 1) v = (decide (headS x < lastS y) || meetS x y && rgtS a b i v) := by
  unfold rgtS
  rw [below_cons, even_cons]
  simp only [List.getD_cons_succ, restS, List.drop_succ_cons]
  cases decide (headS x < lastS y) <;> cases meetS x y <;> simp
theorem lft_can : ∀ {a b : List (List Int)} (i : Nat) (v : Int), i < a.length → i < b.length → lftS a b i v = canS (a.set i [v]) b
  | x :: a, y :: b, 0, v, _, _ => by
    simp [lftS, belowS, evenS, canS, restS, headS, meetS]
  | x :: a, y :: b, i + 1, v, h1, h2 => by
    rw [lft_cons, lft_can i v (by simpa using h1) (by simpa using h2)]
    simp [canS]
  | [], _, _, _, h, _ => by simp at h
  | _ :: _, [], _, _, _, h => by simp at h
theorem rgt_can : ∀ {a b : List (List Int)} (i : Nat) (v : Int), i < a.length → i < b.length → rgtS a b i v = canS a (b.set i [v])
  | x :: a, y :: b, 0, v, _, _ => by
    have e : (x.any fun u => decide (u = v)) = decide (v ∈ x) := by rw [Bool.eq_iff_iff]; simp
    simp [rgtS, belowS, evenS, canS, restS, lastS, meetS, e]
  | x :: a, y :: b, i + 1, v, h1, h2 => by
    rw [rgt_cons, rgt_can i v (by simpa using h1) (by simpa using h2)]
    simp [canS]
  | [], _, _, _, h, _ => by simp at h
  | _ :: _, [], _, _, _, h => by simp at h

/-- Of both rows, one behind the other, the first n long: what may be at a place. -/
def lexP (ds : List (List Int)) (n : Nat) (i : Nat) (v : Int) : Bool := canS ((ds.set i [v]).take n) ((ds.set i [v]).drop n)
theorem lexP_left {a b : List (List Int)} {i : Nat} {v : Int} (hl : a.length = b.length) (hi : i < a.length) : lexP (a ++ b) a.length i v = lftS a b i v := by
  rw [lft_can i v hi (by omega), lexP, List.set_append_left i _ hi, List.take_left' (by simp), List.drop_left' (by simp)]
theorem lexP_right {a b : List (List Int)} {i : Nat} {v : Int} (hl : a.length = b.length) (hi : i < b.length) : lexP (a ++ b) a.length (a.length + i) v = rgtS a b i v := by
  rw [rgt_can i v (by omega) hi, lexP, List.set_append_right _ _ (by omega), List.take_left' rfl, List.drop_left' rfl, Nat.add_sub_cancel_left]
theorem full_take {ds : List (List Int)} (h : Full ds) (n : Nat) : Full (ds.take n) := fun d hd => h d (List.mem_of_mem_take hd)
theorem full_drop {ds : List (List Int)} (h : Full ds) (n : Nat) : Full (ds.drop n) := fun d hd => h d (List.mem_of_mem_drop hd)
def lexH (n : Nat) (r : List Int) : Prop := compareS (r.take n) (r.drop n) ≤ 0
theorem lexP_exact {ds : List (List Int)} {n : Nat} (hf : Full ds) (hn : ds.length = 2 * n) : ExactP ds (lexH n) (lexP ds n) := by
  intro i hi v hv
  have hs := hf.set i v
  have hl : (ds.set i [v]).length = 2 * n := by simpa using hn
  rw [lexP, canS_iff (by simp; omega) (full_take hs n) (full_drop hs n)]
  constructor
  · rintro ⟨u, w, h1, h2, h3⟩
    have hu := inD_len h1
    have hin : inD (u ++ w) ((ds.set i [v]).take n ++ (ds.set i [v]).drop n) := (inD_app hu).2 ⟨h1, h2⟩
    rw [List.take_append_drop] at hin
    obtain ⟨q1, q2⟩ := (inD_set hi hv).1 hin
    have hun : u.length = n := by rw [hu]; simp; omega
    refine ⟨u ++ w, q1, ?_, q2⟩
    unfold lexH
    rw [List.take_left' hun, List.drop_left' hun]
    exact h3
  · rintro ⟨r, h1, h2, h3⟩
    have hin := (inD_set hi hv).2 ⟨h1, h3⟩
    have hr := inD_len h1
    have := inD_app (x := r.take n) (y := r.drop n) (a := (ds.set i [v]).take n) (b := (ds.set i [v]).drop n) (by simp; omega)
    rw [List.take_append_drop, List.take_append_drop] at this
    obtain ⟨q1, q2⟩ := this.1 hin
    exact ⟨_, _, q1, q2, h2⟩

end Go.Pi

/- Solutions among domains, in plain lists. -/
namespace Go.Pi
open Go
set_option linter.unusedVariables false
set_option linter.unusedSimpArgs false

theorem valuesS_first {r : List Int} {n : Nat} (h : n ≤ r.length) : valuesS r ((List.range n).map fun (i : Nat) => (i : Int)) = r.take n := by
  apply List.ext_getElem
  · simp [valuesS]; omega
  · intro i h1 h2
    have h3 : i < r.length := by simp at h2; omega
    simp [valuesS, List.getD_eq_getElem?_getD, h3]
theorem valuesS_second {r : List Int} {n m : Nat} (h : n + m = r.length) : valuesS r ((List.range m).map fun (i : Nat) => (n : Int) + (i : Int)) = r.drop n := by
  apply List.ext_getElem
  · simp [valuesS]; omega
  · intro i h1 h2
    have h3 : n + i < r.length := by simp at h2; omega
    have h4 : ((n : Int) + (i : Int)).toNat = n + i := by omega
    simp [valuesS, List.getD_eq_getElem?_getD, h4, h3]
/-- Which rows are solutions of a constraint: the first n values are the first row's. -/
def solB (c : Con) (r : List Int) : Bool := holdsXS c (r.take c.A.length) (r.drop c.A.length)
def solsS (c : Con) (ds : List (List Int)) : List (List Int) := (rowsS ds).filter (solB c)
theorem mem_solsS {c : Con} {ds : List (List Int)} (h : ∀ d ∈ ds, d ≠ []) {r : List Int} : r ∈ solsS c ds ↔ inD r ds ∧ solB c r = true := by
  rw [solsS, List.mem_filter, mem_rowsS h]
/-- Of each domain the values that are in a row. -/
def inB (rows : List (List Int)) (i : Nat) (v : Int) : Bool := rows.any fun r => r.getD i 0 == v
theorem inB_iff {rows : List (List Int)} {i : Nat} {v : Int} : inB rows i v = true ↔ ∃ r ∈ rows, r.getD i 0 = v := by simp [inB]
theorem inB_exact {c : Con} {ds : List (List Int)} (h : ∀ d ∈ ds, d ≠ []) : ExactP ds (fun r => solB c r = true) (inB (solsS c ds)) := by
  intro i hi v hv
  rw [inB_iff]
  constructor
  · rintro ⟨r, h1, h2⟩
    obtain ⟨h3, h4⟩ := (mem_solsS h).1 h1
    exact ⟨r, h3, h4, h2⟩
  · rintro ⟨r, h3, h4, h2⟩
    exact ⟨r, (mem_solsS h).2 ⟨h3, h4⟩, h2⟩
/-- Two that are exact are the same. -/
theorem ExactP.unique {ds : List (List Int)} {H : List Int → Prop} {p q : Nat → Int → Bool} (hp : ExactP ds H p) (hq : ExactP ds H q) : leftL ds p = leftL ds q :=
  leftL_congr fun i hi v hv => by rw [Bool.eq_iff_iff, hp i hi v hv, hq i hi v hv]
theorem ExactP.congr {ds : List (List Int)} {H H' : List Int → Prop} {p : Nat → Int → Bool} (hp : ExactP ds H p) (h : ∀ r, inD r ds → (H r ↔ H' r)) : ExactP ds H' p := fun i hi v hv => by
  rw [hp i hi v hv]
  constructor
  · rintro ⟨r, h1, h2, h3⟩; exact ⟨r, h1, (h r h1).1 h2, h3⟩
  · rintro ⟨r, h1, h2, h3⟩; exact ⟨r, h1, (h r h1).2 h2, h3⟩

end Go.Pi

/- What is made of small numbers may be: two rows in order. -/
namespace Go.Pi
open Go
set_option linter.unusedVariables false
set_option linter.unusedSimpArgs false

theorem RightOK.more {c : Con} {a b : Int} (R : RightOK c a) (h : a ≤ b) : RightOK c b :=
  ⟨R.kind, R.counted, R.alike, R.K, fun v hv => ⟨(R.varsA v hv).1, by have := (R.varsA v hv).2; omega⟩, fun v hv => ⟨(R.varsB v hv).1, by have := (R.varsB v hv).2; omega⟩, R.numbers, R.counts⟩
/-- Of kind 22. -/
theorem make_22 {z : Small} {vars : Int} (hk : 1 + z.kind.tmod 23 = 22) : makeS z vars = ⟨22, placesS z.A (nS0 z) vars, placesS z.B (nS0 z) vars, [], [], [], 0, []⟩ := by
  have e1 : nS z (shapeS 22) = nS0 z := by unfold nS; rw [if_neg (by decide)]
  unfold makeS
  simp only [hk, e1]
  rw [if_pos (by decide), if_neg (by decide), if_neg (by decide), if_neg (by decide), if_neg (by decide), if_neg (by decide), if_neg (by decide), if_neg (by decide), if_neg (by decide), if_neg (by decide)]
theorem right_22 {z : Small} {vars : Int} (hk : 1 + z.kind.tmod 23 = 22) (hv : 0 < vars) (hA : ∀ v ∈ z.A, 0 ≤ v) (hB : ∀ v ∈ z.B, 0 ≤ v) : RightOK (makeS z vars) vars := by
  rw [make_22 hk]
  have hn := nS0_in z
  generalize nS0 z = n at hn
  have hn : n = 1 ∨ n = 2 ∨ n = 3 ∨ n = 4 := by omega
  refine ⟨by simp only; omega, ?_, ?_, fun h => absurd rfl h, places_in hA hv, places_in hB hv, by simp [numbersS, boundedS, leastK], by simp [countsS]⟩
  · simp only [places_len, List.length_nil]
    rcases hn with rfl | rfl | rfl | rfl <;> decide
  · simp only [alikeS, places_len]
    rcases hn with rfl | rfl | rfl | rfl <;> decide
theorem kind_is {z : Small} {kn : Int} (hk : 1 ≤ kn ∧ kn ≤ 23) : 1 + ({ z with kind := kn - 1 } : Small).kind.tmod 23 = kn := by
  show 1 + (kn - 1).tmod 23 = kn
  rw [Int.tmod_eq_of_lt (by omega) (by omega)]; omega
/-- A solution of two rows in order. -/
theorem sol_22 {c : Con} (hk : c.kind = 22) (r : List Int) : solB c r = true ↔ lexH c.A.length r := by
  unfold solB lexH holdsXS
  simp [hk]

end Go.Pi
