/- A verified evaluator of Go's code over plain values, part 4. No condition. -/
import Derived.Test.YtlgoiaembdlemaaGreatPic
import Derived.Deep.Slices
import Derived.Below
set_option linter.unusedSimpArgs false
set_option linter.unusedVariables false

/- Package ground's laws, in plain lists: what is made may be; turned about, a constraint holds of the same. -/
namespace Go.Pi
open Go

/-! ### Sums turned about -/
theorem sumN_congr {f g : Nat → Int} : ∀ n : Nat, (∀ i, i < n → f i = g i) → sumN f n = sumN g n
  | 0, _ => rfl
  | n + 1, h => by
    simp only [sumN]
    rw [sumN_congr n fun i hi => h i (by omega), h n (by omega)]
theorem sumN_head (f : Nat → Int) : ∀ n : Nat, sumN f (n + 1) = f 0 + sumN (fun i => f (i + 1)) n
  | 0 => by simp [sumN]
  | n + 1 => by
    rw [sumN, sumN_head f n]
    simp only [sumN]
    omega
theorem sumN_back (f : Nat → Int) : ∀ n : Nat, sumN (fun i => f (n - 1 - i)) n = sumN f n
  | 0 => rfl
  | n + 1 => by
    rw [sumN_head]
    have e : sumN (fun i => f (n + 1 - 1 - (i + 1))) n = sumN (fun i => f (n - 1 - i)) n := sumN_congr n fun i hi => by
      rw [show n + 1 - 1 - (i + 1) = n - 1 - i from by omega]
    rw [e, sumN_back f n]
    simp only [sumN]
    rw [show n + 1 - 1 - 0 = n from by omega]
    omega
theorem getD_reverse {l : List Int} {i : Nat} (h : i < l.length) : l.reverse.getD i 0 = l.getD (l.length - 1 - i) 0 := by
  simp only [List.getD_eq_getElem?_getD]
  rw [List.getElem?_reverse h]

theorem values_reverse (a l : List Int) : valuesS a l.reverse = (valuesS a l).reverse := by simp [valuesS]

theorem dot_reverse {c x : List Int} (h : c.length = x.length) : dotS c.reverse x.reverse = dotS c x := by
  unfold dotS
  rw [List.length_reverse, ← sumN_back (fun i => c.getD i 0 * x.getD i 0)]
  exact sumN_congr _ fun i hi => by rw [getD_reverse hi, getD_reverse (by omega), h]
theorem count_reverse (x : List Int) (v : Int) : countS x.reverse v x.length = countS x v x.length := by
  unfold countS
  rw [← sumN_back (fun i => if x.getD i 0 = v then 1 else 0)]
  exact sumN_congr _ fun i hi => by rw [getD_reverse hi]
theorem load_reverse {x c d : List Int} (hc : c.length = x.length) (hd : d.length = x.length) (t : Int) : loadS x.reverse c.reverse d.reverse t x.length = loadS x c d t x.length := by
  unfold loadS
  rw [← sumN_back (fun i => if x.getD i 0 ≤ t ∧ t < x.getD i 0 + c.getD i 0 then d.getD i 0 else 0)]
  exact sumN_congr _ fun i hi => by rw [getD_reverse hi, getD_reverse (by omega), getD_reverse (by omega), hc, hd]
theorem fits_reverse {x c d : List Int} (hc : c.length = x.length) (hd : d.length = x.length) (K : Int) : fitsS x.reverse c.reverse d.reverse K = fitsS x c d K := by
  unfold fitsS
  rw [List.length_reverse, List.all_reverse]
  congr 1
  funext t
  rw [load_reverse hc hd]
theorem counted_reverse (x c d e : List Int) : countedS x.reverse c d e = countedS x c d e := by
  unfold countedS
  congr 1
  funext i
  rw [List.length_reverse, count_reverse]

theorem sort_perm (l : List Int) : (sortS l).Perm l := List.mergeSort_perm l _
theorem sort_sorted (l : List Int) : (sortS l).Pairwise (· ≤ ·) := by
  have := List.pairwise_mergeSort (le := fun x y : Int => decide (x ≤ y)) (fun a b c h1 h2 => by simp at *; omega) (fun a b => by simp; omega) l
  exact this.imp fun h => by simpa using h
theorem sorted_perm_eq : ∀ {a b : List Int}, a.Pairwise (· ≤ ·) → b.Pairwise (· ≤ ·) → a.Perm b → a = b
  | [], b, _, _, h => (List.nil_perm.1 h).symm ▸ rfl
  | x :: r, [], _, _, h => absurd (List.perm_nil.1 h) (by simp)
  | x :: r, y :: l, ha, hb, h => by
    have e : x = y := by
      have h1 : x ∈ y :: l := h.subset (by simp)
      have h2 : y ∈ x :: r := h.symm.subset (by simp)
      rw [List.pairwise_cons] at ha hb
      rcases List.mem_cons.1 h1 with h1 | h1
      · exact h1
      · rcases List.mem_cons.1 h2 with h2 | h2
        · exact h2.symm
        · have := hb.1 x h1
          have := ha.1 y h2
          omega
    subst e
    rw [sorted_perm_eq (List.pairwise_cons.1 ha).2 (List.pairwise_cons.1 hb).2 (List.perm_cons x |>.1 h)]
theorem sort_of_perm {a b : List Int} (h : a.Perm b) : sortS a = sortS b :=
  sorted_perm_eq (sort_sorted a) (sort_sorted b) ((sort_perm a).trans (h.trans (sort_perm b).symm))
theorem apart_perm {a b : List Int} (h : a.Perm b) : apartS a = apartS b := by
  unfold apartS
  rw [sort_of_perm h, h.length_eq]

/-! ### Turned about -/
theorem bounded_reverse (l : List Int) (k : Int) : boundedS l.reverse k = boundedS l k := by simp [boundedS]
theorem any_reverse {α : Type} (l : List α) (p : α → Bool) : l.reverse.any p = l.any p := by simp

/-- What isn't its variables' order makes a constraint right. -/
theorem right_turn {c d : Con} {n : Int} (hk : d.kind = c.kind) (hA : d.A.length = c.A.length) (hB : d.B.length = c.B.length) (hC : d.C.length = c.C.length) (hD : d.D.length = c.D.length) (hE : d.E.length = c.E.length) (hR : d.R.length = c.R.length)
    (hK : d.K = c.K) (hal : alikeS d = alikeS c) (hv : (d.A ++ d.B).any (fun v => decide (v < 0) || decide (v ≥ n)) = (c.A ++ c.B).any (fun v => decide (v < 0) || decide (v ≥ n))) (hn : numbersS d = numbersS c) (hc : countsS d = countsS c) : rightS d n = rightS c n := by
  unfold rightS
  rw [hk, hA, hB, hC, hD, hE, hR, hK, hal, hv, hn, hc]


/-! ### What holds, by right and by values -/
theorem holds_of {c : Con} {a : List Int} (R : RightOK c a.length) (hf : a.any farS = false) : holdsS c a = holdsXS c (valuesS a c.A) (valuesS a c.B) := by
  rw [holdsS, if_neg (by rw [rightS_ok.2 R, hf]; simp)]
theorem holds_right {c : Con} {a : List Int} (h : holdsS c a = true) : RightOK c a.length ∧ a.any farS = false ∧ holdsXS c (valuesS a c.A) (valuesS a c.B) = true := by
  unfold holdsS at h
  split at h
  · cases h
  · rename_i hn
    simp only [Bool.or_eq_true, bne_iff_ne, ne_eq, not_or, Decidable.not_not, Bool.not_eq_true] at hn
    exact ⟨rightS_ok.1 hn.1, hn.2, h⟩
theorem holds_turn {c d : Con} {a : List Int} (hr : rightS d a.length = rightS c a.length)
    (hx : RightOK c a.length → a.any farS = false → holdsXS d (valuesS a d.A) (valuesS a d.B) = holdsXS c (valuesS a c.A) (valuesS a c.B)) : holdsS d a = holdsS c a := by
  by_cases h : (rightS c a.length != 0 || a.any farS) = true
  · rw [holdsS, holdsS, hr, if_pos h, if_pos h]
  · have h2 := h
    simp only [Bool.or_eq_true, bne_iff_ne, ne_eq, not_or, Decidable.not_not, Bool.not_eq_true] at h2
    rw [holdsS, holdsS, hr, if_neg h, if_neg h]
    exact hx (rightS_ok.1 h2.1) h2.2

/-! ### Values near 0 -/
def nearS (a : List Int) (n : Nat) : List Int := (List.range n).map fun i => if i < a.length then (a.getD i 0).tmod 7 else (i : Int)
theorem nearS_len (a : List Int) (n : Nat) : (nearS a n).length = n := by simp [nearS]
theorem tmod_in (a : Int) {b : Int} (hb : 0 < b) : -b < a.tmod b ∧ a.tmod b < b := by
  have h1 := Int.tmod_lt_of_pos a hb
  have h2 := Int.tmod_lt_of_pos (-a) hb
  rw [Int.neg_tmod] at h2
  omega
theorem nearS_far (a : List Int) (n : Nat) (hn : n ≤ 100) : (nearS a n).any farS = false := by
  rw [List.any_eq_false]
  intro v hv
  simp only [nearS, List.mem_map, List.mem_range] at hv
  obtain ⟨i, hi, rfl⟩ := hv
  simp only [farS, Bool.or_eq_true, decide_eq_true_eq, not_or]
  split
  · have := tmod_in (a.getD i 0) (b := 7) (by decide); omega
  · omega

/-! ### What is made may be -/
theorem places_in {l : List Int} {n : Nat} {vars : Int} (h : ∀ v ∈ l, 0 ≤ v) (hv : 0 < vars) : ∀ v ∈ placesS l n vars, 0 ≤ v ∧ v < vars := by
  intro v hv'
  simp only [placesS, List.mem_map, List.mem_range] at hv'
  obtain ⟨i, hi, rfl⟩ := hv'
  refine ⟨Int.tmod_nonneg _ ?_, Int.tmod_lt_of_pos _ hv⟩
  split
  · rename_i h2; exact h _ (getD_mem 0 h2)
  · omega
theorem places_len (l : List Int) (n : Nat) (vars : Int) : (placesS l n vars).length = n := by simp [placesS]
theorem nums_len (l : List Int) (f n : Nat) (least wide : Int) : (numsS l f n least wide).length = n := by simp [numsS]
theorem nums_in {l : List Int} {f n : Nat} {least wide : Int} (hw : 0 < wide) : ∀ v ∈ numsS l f n least wide, -wide < v ∧ v < wide := by
  intro v hv
  simp only [numsS, List.mem_map, List.mem_range] at hv
  obtain ⟨i, hi, rfl⟩ := hv
  unfold numS
  have := tmod_in (if f + i < l.length then l.getD (f + i) 0 else 1) hw
  simp only
  generalize (if f + i < l.length then l.getD (f + i) 0 else 1).tmod wide = t at this
  split <;> omega
theorem bounded_of {l : List Int} {k : Int} (h : ∀ v ∈ l, k ≤ v ∧ v ≤ 1000000) : boundedS l k = true := by
  unfold boundedS
  simp only [Bool.not_eq_true', List.any_eq_false, Bool.or_eq_true, decide_eq_true_eq, not_or]
  intro v hv
  have := h v hv
  omega
theorem nS0_in (z : Small) : 1 ≤ nS0 z ∧ nS0 z ≤ 4 := by
  unfold nS0
  split
  · omega
  · split <;> omega
theorem make_lin {z : Small} {vars : Int} {k : Int} (hk : 1 + z.kind.tmod 23 = k) (h3 : k = 1 ∨ k = 2 ∨ k = 3) :
    makeS z vars = { kind := k, A := placesS z.A (nS0 z) vars, B := [], C := numsS z.C 0 (nS0 z) (-1) 5, D := [], E := [], K := z.K.tmod 12, R := [] } := by
  rcases h3 with rfl | rfl | rfl
  all_goals simp [makeS, nS, hk, show shapeS 1 = [99, 86, 107] from rfl, show shapeS 2 = [99, 86, 107] from rfl, show shapeS 3 = [99, 86, 107] from rfl, show hasS [99, 86, 107] 118 = 0 from by decide, show hasS [99, 86, 107] 119 = 0 from by decide, show hasS [99, 86, 107] 87 = 0 from by decide, show hasS [99, 86, 107] 99 = 1 from by decide, show hasS [99, 86, 107] 107 = 1 from by decide]
theorem lin_right {z : Small} {vars : Int} (hA : ∀ v ∈ z.A, 0 ≤ v) (hv : 0 < vars) {k : Int} (h3 : k = 1 ∨ k = 2 ∨ k = 3) :
    RightOK { kind := k, A := placesS z.A (nS0 z) vars, B := [], C := numsS z.C 0 (nS0 z) (-1) 5, D := [], E := [], K := z.K.tmod 12, R := [] } vars := by
  have hn := nS0_in z
  have hs : shapeS k = [99, 86, 107] := by rcases h3 with rfl | rfl | rfl <;> rfl
  refine ⟨by simp only; omega, ?_, ?_, fun _ => ?_, places_in hA hv, fun v h => absurd h (by simp), ?_, ?_⟩
  · simp only [places_len, nums_len, hs, List.length_nil]
    unfold mcountedS
    rw [if_neg (by omega)]
    simp only [namedS, show hasB (bs [99, 86, 107]) 114 = false from rfl, show hasB (bs [99, 86, 107]) 86 = true from rfl, show hasB (bs [99, 86, 107]) 87 = false from rfl, show hasB (bs [99, 86, 107]) 99 = true from rfl, show hasB (bs [99, 86, 107]) 100 = false from rfl, show hasB (bs [99, 86, 107]) 101 = false from rfl,
      show countB (bs [99, 86, 107]) 119 = 0 from rfl, show countB (bs [99, 86, 107]) 45 = 0 from rfl, withinS]
    simp; omega
  · unfold alikeS
    rw [if_pos (by simp only; omega)]
    simp [places_len, nums_len]
  · simp only [hs]; rfl
  · have hkb := tmod_in z.K (b := 12) (by decide)
    unfold numbersS
    simp only [List.all_nil, Bool.true_and, Bool.and_eq_true, decide_eq_true_eq]
    have hl : lowS k = -1000000 := by rw [lowS, if_neg (by omega)]
    have hk2 : leastK k = -9999999999 := by rw [leastK, if_neg (by omega)]
    refine ⟨⟨⟨⟨bounded_of fun v hv => ?_, bounded_of (by simp)⟩, bounded_of (by simp)⟩, ?_⟩, ?_⟩
    · have := nums_in (wide := 5) (by decide) v hv
      rw [hl]; omega
    · rw [hk2]; omega
    · omega
  · unfold countsS
    rw [if_neg (by simp only; omega)]

/-! ### GroundTurns -/
theorem turn_lin {c : Con} {z : Small} {a : List Int} (hc : c = makeS z 5) (hA : ∀ v ∈ z.A, 0 ≤ v) (hk : c.kind = 1 ∨ c.kind = 3) :
    holdsS { c with kind := 1 } (nearS a 5) = !holdsS { c with kind := 3 } (nearS a 5) ∧ (holdsS { c with kind := 1 } (nearS a 5) = true → holdsS { c with kind := 2 } (nearS a 5) = true) := by
  have hm := make_lin (z := z) (vars := 5) (k := 1 + z.kind.tmod 23) rfl (by have : c.kind = 1 + z.kind.tmod 23 := by rw [hc]; rfl
                                                                             omega)
  rw [← hc] at hm
  subst hm
  have hf := nearS_far a 5 (by decide)
  have hl := nearS_len a 5
  have H : ∀ k : Int, k = 1 ∨ k = 2 ∨ k = 3 → holdsS { kind := k, A := placesS z.A (nS0 z) 5, B := [], C := numsS z.C 0 (nS0 z) (-1) 5, D := [], E := [], K := z.K.tmod 12, R := [] } (nearS a 5) = holdsXS { kind := k, A := placesS z.A (nS0 z) 5, B := [], C := numsS z.C 0 (nS0 z) (-1) 5, D := [], E := [], K := z.K.tmod 12, R := [] } (valuesS (nearS a 5) (placesS z.A (nS0 z) 5)) (valuesS (nearS a 5) []) := fun k hk => by
    exact holds_of (by rw [hl]; exact lin_right hA (by decide) hk) hf
  simp only
  rw [H 1 (by omega), H 2 (by omega), H 3 (by omega)]
  constructor
  · simp [holdsXS, bne]
  · simp only [holdsXS]
    simp
    omega

theorem right_reif {c : Con} {n : Int} (R : RightOK c n) {k : Int} (hk : c.kind = 13 ∧ k = 15 ∨ c.kind = 14 ∧ k = 16) : RightOK { c with kind := k } n := by
  have hs : shapeS k = shapeS c.kind := by rcases hk with ⟨h, rfl⟩ | ⟨h, rfl⟩ <;> rw [h] <;> rfl
  have h1 := R.counted
  have h2 := R.numbers
  refine ⟨by simp only; omega, ?_, ?_, ?_, R.varsA, R.varsB, ?_, ?_⟩
  · simp only [hs]
    unfold mcountedS at h1 ⊢
    rw [if_neg (by omega)] at h1 ⊢
    exact h1
  · unfold alikeS
    rw [if_neg (by simp only; omega), if_neg (by simp only; omega), if_neg (by simp only; omega), if_neg (by simp only; omega), if_neg (by simp only; omega)]
  · simp only [hs]; exact R.K
  · unfold numbersS at h2 ⊢
    have e1 : lowS k = lowS c.kind := by rw [lowS, lowS, if_neg (by omega), if_neg (by omega)]
    have e2 : secondS k = secondS c.kind := by rw [secondS, secondS, if_neg (by omega), if_neg (by omega)]
    have e3 : leastK k = leastK c.kind := by rw [leastK, leastK, if_neg (by omega), if_neg (by omega)]
    simp only [e1, e2, e3]
    exact h2
  · unfold countsS
    rw [if_neg (by simp only; omega)]
theorem turn_reif {c : Con} {a : List Int} {k : Int} (hk : c.kind = 13 ∧ k = 15 ∨ c.kind = 14 ∧ k = 16) (h : holdsS c a = true) :
    holdsS { c with kind := k } a = true ∧ c.B.length = 1 ∧ (∀ b, b = c.B.getD 0 0 → 0 ≤ b ∧ b < a.length ∧ (a.getD b.toNat 0 = 0 ∨ a.getD b.toNat 0 = 1)) := by
  obtain ⟨R, hf, hx⟩ := holds_right h
  have n2 := named_is (R.named (by omega)).2.1 (by rcases hk with ⟨h, _⟩ | ⟨h, _⟩ <;> rw [h] <;> rfl)
  have n2' : c.B.length = 1 := by rw [n2]; rcases hk with ⟨h, _⟩ | ⟨h, _⟩ <;> rw [h] <;> rfl
  have tr : ∃ so, truthS ((valuesS a c.B).getD 0 0) so = true ∧ holdsXS { c with kind := k } (valuesS a c.A) (valuesS a c.B) = impliedS ((valuesS a c.B).getD 0 0) so := by
    rcases hk with ⟨h, rfl⟩ | ⟨h, rfl⟩
    · refine ⟨(valuesS a c.A).getD 0 0 == c.K, ?_, ?_⟩
      · simpa [holdsXS, logicS, h] using hx
      · simp [holdsXS, logicS]
    · refine ⟨decide ((valuesS a c.A).getD 0 0 ≤ c.K), ?_, ?_⟩
      · simpa [holdsXS, logicS, h] using hx
      · simp [holdsXS, logicS]
  obtain ⟨so, h1, h2⟩ := tr
  refine ⟨?_, n2', fun b hb => ?_⟩
  · rw [holds_of (right_reif R hk) hf, h2]
    unfold truthS at h1
    unfold impliedS
    cases so <;> simp_all
  · have hm := R.varsB b (hb ▸ getD_mem 0 (by omega))
    rw [values_get a c.B (by omega), ← hb] at h1
    refine ⟨hm.1, hm.2, ?_⟩
    unfold truthS at h1
    cases so <;> simp_all

/-! ### A circuit goes through all places -/
theorem perm_of_sub : ∀ {l x : List Int}, l.Nodup → (∀ v ∈ l, v ∈ x) → l.length = x.length → l.Perm x
  | [], x, _, _, h => by
    have : x = [] := List.eq_nil_of_length_eq_zero h.symm
    subst this; exact .refl _
  | a :: r, x, hn, hs, h => by
    rw [List.nodup_cons] at hn
    have ha := hs a (by simp)
    have h1 := List.perm_cons_erase ha
    have hl : (x.erase a).length = x.length - 1 := List.length_erase_of_mem ha
    have := perm_of_sub (l := r) (x := x.erase a) hn.2 (fun v hv => (List.mem_erase_of_ne (fun e => hn.1 (by rw [← e]; exact hv))).2 (hs v (by simp [hv]))) (by rw [hl, ← h]; simp)
    exact (this.cons a).trans h1.symm
theorem round_same {x : List Int} : ∀ {k k' : Nat} {v : Int} {n n' : Nat}, roundS x k v n = true → roundS x k' v n' = true → n = n'
  | 0, _, _, _, _, h, _ => by simp [roundS] at h
  | _ + 1, 0, _, _, _, _, h => by simp [roundS] at h
  | k + 1, k' + 1, v, n, n', h, h' => by
    simp only [roundS] at h h'
    split at h
    · cases h
    · rename_i h1
      rw [if_neg h1] at h'
      split at h
      · rename_i h2
        rw [if_pos h2] at h'
        rw [beq_iff_eq] at h h'
        omega
      · rename_i h2
        rw [if_neg h2] at h'
        have := round_same h h'
        omega
/-- The places that are come to. -/
def comes (x : List Int) : Nat → Int → List Int
  | 0, _ => []
  | k + 1, at' => let v := x.getD (at' - 1).toNat 0; if v = 1 then [v] else v :: comes x k v
theorem comes_spec {x : List Int} : ∀ {k : Nat} {at' : Int} {n : Nat}, 1 ≤ at' → at' ≤ x.length → roundS x k at' n = true →
    (comes x k at').length + n = x.length + 1 ∧ (∀ v ∈ comes x k at', v ∈ x ∧ (v = 1 ∨ ∃ k' n', n < n' ∧ roundS x k' v n' = true)) ∧ (comes x k at').Nodup
  | 0, _, _, _, _, h => by simp [roundS] at h
  | k + 1, at', n, h1, h2, h => by
    simp only [roundS] at h
    have hm : x.getD (at' - 1).toNat 0 ∈ x := getD_mem 0 (by omega)
    simp only [comes]
    generalize hv : x.getD (at' - 1).toNat 0 = v at h hm
    split at h
    · cases h
    · rename_i h3
      split at h
      · rename_i h4
        rw [if_pos h4]
        rw [beq_iff_eq] at h
        refine ⟨by simp; omega, fun u hu => ?_, by simp⟩
        simp only [List.mem_singleton] at hu
        subst hu
        exact ⟨hm, .inl h4⟩
      · rename_i h4
        rw [if_neg h4]
        obtain ⟨i1, i2, i3⟩ := comes_spec (x := x) (k := k) (at' := v) (n := n + 1) (by omega) (by omega) h
        refine ⟨by simp; omega, fun u hu => ?_, ?_⟩
        · rcases List.mem_cons.1 hu with rfl | hu
          · exact ⟨hm, .inr ⟨k, n + 1, by omega, h⟩⟩
          · obtain ⟨j1, j2⟩ := i2 u hu
            exact ⟨j1, j2.imp id fun ⟨k', n', q1, q2⟩ => ⟨k', n', by omega, q2⟩⟩
        · rw [List.nodup_cons]
          refine ⟨fun hin => ?_, i3⟩
          rcases (i2 v hin).2 with q | ⟨k', n', q1, q2⟩
          · exact h4 q
          · have := round_same h q2
            omega
theorem round_nodup {x : List Int} (h : roundS x x.length 1 1 = true) : x.Nodup := by
  have hl : 1 ≤ x.length := by
    cases hx : x.length with
    | zero => rw [hx] at h; simp [roundS] at h
    | succ n => omega
  obtain ⟨h1, h2, h3⟩ := comes_spec (x := x) (k := x.length) (at' := 1) (n := 1) (by omega) (by omega) h
  exact (perm_of_sub h3 (fun v hv => (h2 v hv).1) (by omega)).nodup_iff.1 h3

theorem compact_nodup {l : List Int} (h : l.Nodup) : Lib.compact l = l := by
  refine Lib.compact_all l fun j hj => ?_
  rcases Nat.eq_zero_or_pos j with rfl | hp
  · exact Lib.keeps_lt_one _ 0 (by omega)
  · refine Lib.keeps_pos fun e => ?_
    have e1 : l.toArray[j]! = l[j] := by simp [hj]
    have e2 : l.toArray[j - 1]! = l[j - 1] := by simp [show j - 1 < l.length from by omega]
    rw [e1, e2] at e
    have := (List.nodup_iff_pairwise_ne.1 h)
    rw [List.pairwise_iff_getElem] at this
    exact this (j - 1) j (by omega) hj (by omega) e.symm
theorem sort_nodup {l : List Int} (h : l.Nodup) : (sortS l).Nodup := (sort_perm l).nodup_iff.2 h
theorem apart_nodup {l : List Int} (h : l.Nodup) : apartS l = true := by
  unfold apartS
  rw [compact_nodup (sort_nodup h), sortS_len]; simp
theorem nodup_of_map {f : Int → Int} : ∀ {l : List Int}, (l.map f).Nodup → l.Nodup
  | [], _ => .nil
  | a :: r, h => by
    rw [List.map_cons, List.nodup_cons] at h
    rw [List.nodup_cons]
    exact ⟨fun hin => h.1 (List.mem_map_of_mem hin), nodup_of_map h.2⟩
theorem all_right {c : Con} {n : Int} (R : RightOK c n) (hk : c.kind = 20) {A : List Int} (hp : A.Perm c.A) : RightOK { kind := 17, A := A, B := [], C := [], D := [], E := [], K := 0, R := [] } n := by
  have nA := (R.named (by omega)).1
  have hl := hp.length_eq
  rw [show shapeS c.kind = [86] from by rw [hk]; rfl] at nA
  refine ⟨by simp only; omega, ?_, ?_, fun h => absurd rfl h, fun v hv => R.varsA v (hp.subset hv), fun v h => absurd h (by simp), ?_, ?_⟩
  · simp only [hl]
    unfold mcountedS
    rw [if_neg (by omega), show shapeS 17 = [86] from rfl, nA]
    rfl
  · simp [alikeS]
  · simp [numbersS, boundedS, leastK]
  · simp [countsS]
theorem turn_circuit {c : Con} {a : List Int} (hk : c.kind = 20) (h : holdsS c a = true) : holdsS { kind := 17, A := Lib.compact (sortS c.A), B := [], C := [], D := [], E := [], K := 0, R := [] } a = true := by
  obtain ⟨R, hf, hx⟩ := holds_right h
  have hx : roundS (valuesS a c.A) (valuesS a c.A).length 1 1 = true := by simpa [holdsXS, hk] using hx
  have nd := round_nodup hx
  have nA : c.A.Nodup := nodup_of_map nd
  rw [compact_nodup (sort_nodup nA)]
  have hp := sort_perm c.A
  rw [holds_of (all_right R hk hp) hf]
  have : (valuesS a (sortS c.A)).Nodup := ((hp.map _).nodup_iff).2 nd
  simp [holdsXS, apart_nodup this]

/-! ### An inverse is one from both sides -/
theorem inverse_iff {x z : List Int} : inverseS x z = true ↔ ∀ i, i < x.length → 1 ≤ x.getD i 0 ∧ x.getD i 0 ≤ z.length ∧ z.getD (x.getD i 0 - 1).toNat 0 = i + 1 := by
  unfold inverseS
  simp only [List.all_eq_true, List.mem_range, Bool.and_eq_true, decide_eq_true_eq, beq_iff_eq]
  exact ⟨fun h i hi => ⟨(h i hi).1.1, (h i hi).1.2, (h i hi).2⟩, fun h i hi => ⟨⟨(h i hi).1, (h i hi).2.1⟩, (h i hi).2.2⟩⟩
theorem inverse_back {x z : List Int} (hl : x.length = z.length) (h : inverseS x z = true) : inverseS z x = true := by
  rw [inverse_iff] at h ⊢
  have nd : x.Nodup := by
    rw [List.nodup_iff_pairwise_ne, List.pairwise_iff_getElem]
    intro i j hi hj hij e
    have h1 := (h i hi).2.2
    have h2 := (h j hj).2.2
    have e1 : x.getD i 0 = x[i] := by simp [List.getD_eq_getElem?_getD, hi]
    have e2 : x.getD j 0 = x[j] := by simp [List.getD_eq_getElem?_getD, hj]
    rw [e1, e] at h1
    rw [e2] at h2
    omega
  have pm : x.Perm ((List.range x.length).map fun i => ((i : Nat) : Int) + 1) := perm_of_sub nd (fun v hv => by
    obtain ⟨i, hi, rfl⟩ := List.mem_iff_getElem.1 hv
    have := h i hi
    have e1 : x.getD i 0 = x[i] := by simp [List.getD_eq_getElem?_getD, hi]
    rw [e1] at this
    simp only [List.mem_map, List.mem_range]
    exact ⟨(x[i] - 1).toNat, by omega, by omega⟩) (by simp)
  intro j hj
  have hm : ((j : Nat) : Int) + 1 ∈ x := pm.mem_iff.2 (by simp only [List.mem_map, List.mem_range]; exact ⟨j, by omega, rfl⟩)
  obtain ⟨i, hi, hij⟩ := List.mem_iff_getElem.1 hm
  have e1 : x.getD i 0 = ((j : Nat) : Int) + 1 := by simp [List.getD_eq_getElem?_getD, hi, hij]
  have h1 := (h i hi).2.2
  rw [e1, show (((j : Nat) : Int) + 1 - 1).toNat = j from by omega] at h1
  rw [h1]
  refine ⟨by omega, by omega, ?_⟩
  rw [show (((i : Nat) : Int) + 1 - 1).toNat = i from by omega, e1]
theorem inverse_turn {x z : List Int} (hl : x.length = z.length) : inverseS z x = inverseS x z := by
  rw [Bool.eq_iff_iff]
  exact ⟨inverse_back hl.symm, inverse_back hl⟩
theorem turn_inverse {c : Con} {a : List Int} (hk : c.kind = 23) : holdsS { c with A := c.B, B := c.A } a = holdsS c a := by
  have hs : shapeS c.kind = [86, 87] := by rw [hk]; rfl
  refine holds_turn ?_ fun R _ => ?_
  · unfold rightS
    have hal : alikeS { c with A := c.B, B := c.A } = alikeS c := by
      rw [Bool.eq_iff_iff]
      simp [alikeS, hk]
      omega
    have h12 : ¬ c.kind = 12 := by omega
    have hm : mcountedS c.kind c.B.length c.A.length c.C.length c.D.length c.E.length c.R.length (bs (shapeS c.kind)) = mcountedS c.kind c.A.length c.B.length c.C.length c.D.length c.E.length c.R.length (bs (shapeS c.kind)) := by
      unfold mcountedS
      simp only [if_neg h12, hs]
      simp only [namedS, show hasB (bs [86, 87]) 86 = true from rfl, show hasB (bs [86, 87]) 87 = true from rfl, if_true]
      cases withinS c.A.length 1 64 <;> cases withinS c.B.length 1 64 <;> simp
    have hv : (c.B ++ c.A).any (fun v => decide (v < 0) || decide (v ≥ (a.length : Int))) = (c.A ++ c.B).any (fun v => decide (v < 0) || decide (v ≥ (a.length : Int))) := by
      rw [List.any_append, List.any_append, Bool.or_comm]
    simp only [hal, hm, hv]
    rfl
  · have := alike_pair R.alike (.inr hk)
    simp only [holdsXS, hk]
    simp
    exact inverse_turn (by rw [values_len, values_len]; omega)

/-! ### GroundOrder -/
theorem any_rev_app (A B A' B' : List Int) (p : Int → Bool) (hA : A'.any p = A.any p) (hB : B'.any p = B.any p) : (A' ++ B').any p = (A ++ B).any p := by
  rw [List.any_append, List.any_append, hA, hB]
theorem order_lin {c : Con} {a : List Int} (hk : 1 ≤ c.kind ∧ c.kind ≤ 4) : holdsS { c with A := c.A.reverse, C := c.C.reverse } a = holdsS c a := by
  refine holds_turn ?_ fun R hf => ?_
  · refine right_turn rfl (by simp) rfl (by simp) rfl rfl rfl rfl ?_ (any_rev_app _ _ _ _ _ (by simp) rfl) ?_ ?_
    · unfold alikeS; simp [hk]
    · unfold numbersS; simp [boundedS]
    · unfold countsS; rw [if_neg (by simp only; omega), if_neg (by omega)]
  · have hl := alike_lin R.alike hk
    have e := dot_reverse (c := c.C) (x := valuesS a c.A) (by rw [values_len]; exact hl)
    have e2 : dotS c.C.reverse (valuesS a c.A.reverse) = dotS c.C (valuesS a c.A) := by rw [values_reverse, e]
    obtain h | h | h | h : c.kind = 1 ∨ c.kind = 2 ∨ c.kind = 3 ∨ c.kind = 4 := by omega
    · simp [holdsXS, h, e2]
    · simp [holdsXS, h, e2]
    · simp [holdsXS, h, e2]
    · have e3 : sumN (fun i => c.C.reverse.getD i 0 * (valuesS a c.A.reverse).getD i 0) c.C.reverse.length = sumN (fun i => c.C.getD i 0 * (valuesS a c.A).getD i 0) c.C.length := e2
      have e4 : logicS 4 c.K c.C.reverse (valuesS a c.A.reverse) (valuesS a c.B) = logicS 4 c.K c.C (valuesS a c.A) (valuesS a c.B) := by
        unfold logicS
        rw [if_pos rfl, if_pos rfl, e3]
      simp [holdsXS, h, e4]
theorem order_all {c : Con} {a : List Int} (hk : c.kind = 17) : holdsS { c with A := c.A.reverse } a = holdsS c a := by
  refine holds_turn ?_ fun R hf => ?_
  · refine right_turn rfl (by simp) rfl rfl rfl rfl rfl rfl ?_ (any_rev_app _ _ _ _ _ (by simp) rfl) rfl rfl
    unfold alikeS; simp [hk]
  · simp only [holdsXS, hk, values_reverse]
    simp
    exact apart_perm (List.reverse_perm _)
theorem order_gcc {c : Con} {a : List Int} (hk : c.kind = 21) : holdsS { c with A := c.A.reverse } a = holdsS c a := by
  refine holds_turn ?_ fun R hf => ?_
  · refine right_turn rfl (by simp) rfl rfl rfl rfl rfl rfl ?_ (any_rev_app _ _ _ _ _ (by simp) rfl) rfl rfl
    unfold alikeS; simp [hk]
  · simp only [holdsXS, hk, values_reverse]
    simp
    exact counted_reverse _ _ _ _
theorem order_clause {c : Con} {a : List Int} (hk : c.kind = 12) : holdsS { c with A := c.A.reverse, B := c.B.reverse } a = holdsS c a := by
  refine holds_turn ?_ fun R hf => ?_
  · refine right_turn rfl (by simp) (by simp) rfl rfl rfl rfl rfl ?_ (any_rev_app _ _ _ _ _ (by simp) (by simp)) rfl rfl
    unfold alikeS; simp [hk]
  · simp only [holdsXS, hk, values_reverse, logicS]
    simp
theorem order_cumul {c : Con} {a : List Int} (hk : c.kind = 19) : holdsS { c with A := c.A.reverse, C := c.C.reverse, D := c.D.reverse } a = holdsS c a := by
  refine holds_turn ?_ fun R hf => ?_
  · refine right_turn rfl (by simp) rfl (by simp) (by simp) rfl rfl rfl ?_ (any_rev_app _ _ _ _ _ (by simp) rfl) ?_ ?_
    · unfold alikeS; simp [hk]
    · unfold numbersS; simp [boundedS]
    · unfold countsS; rw [if_neg (by simp only; omega), if_neg (by omega)]
  · obtain ⟨h1, h2⟩ := alike_cumul R.alike hk
    simp only [holdsXS, hk, values_reverse]
    simp
    exact fits_reverse (by rw [values_len]; exact h1) (by rw [values_len]; exact h2) _
theorem order_table {c : Con} {a : List Int} (hk : c.kind = 18) : holdsS { c with R := c.R.reverse } a = holdsS c a := by
  refine holds_turn ?_ fun R hf => ?_
  · refine right_turn rfl rfl rfl rfl rfl rfl (by simp) rfl ?_ rfl ?_ rfl
    · unfold alikeS; simp [hk]
    · unfold numbersS; simp
  · simp [holdsXS, hk]

/-! ### How long what is made is -/
theorem shape_len' (k : Int) : (shapeS k).length ≤ 4 := by
  by_cases h : 1 ≤ k ∧ k ≤ 23
  · exact shape_len h
  · rw [shapeS, if_neg h]; simp
theorem nS_le (z : Small) (k : Int) : nS z (shapeS k) ≤ 4 := by
  unfold nS
  split
  · exact Nat.le_trans List.count_le_length (shape_len' k)
  · exact (nS0_in z).2
theorem make_lens (z : Small) (vars : Int) : (makeS z vars).A.length ≤ 4 ∧ (makeS z vars).B.length ≤ 4 ∧ (makeS z vars).C.length ≤ 5 ∧ (makeS z vars).D.length ≤ 5 ∧ (makeS z vars).E.length ≤ 5 ∧ (makeS z vars).R.length ≤ 6 := by
  have hn := nS_le z (1 + z.kind.tmod 23)
  simp only [makeS]
  refine ⟨by rw [places_len]; exact hn, ?_, ?_, ?_, ?_, ?_⟩
  · split
    · rw [places_len]; exact hn
    · split
      · rw [places_len]; omega
      · simp
  · split
    · simp; omega
    · split
      · rw [nums_len]; omega
      · split
        · rw [nums_len]; omega
        · split
          · rw [nums_len]; omega
          · simp
  · split
    · rw [nums_len]; omega
    · split
      · rw [nums_len]; omega
      · simp
  · split
    · simp; omega
    · simp
  · split
    · simp; omega
    · simp
end Go.Pi

/- The document's answer, in plain lists: what the reference computes is what rightS, holdsXS say. -/
namespace Go.Pi
open Go

theorem getD_lt {α : Type} (d : α) {l : List α} {i : Nat} (h : i < l.length) : l.getD i d = l[i] := by simp [List.getD_eq_getElem?_getD, h]

/-! ### All unlike -/
theorem compact_len_le (d : Array Int) (m : Nat) : (Lib.compactUpTo d m).length ≤ m := by
  induction m with
  | zero => simp [Lib.compactUpTo]
  | succ m ih =>
    rw [Lib.compactUpTo_succ, List.length_append]
    split <;> simp <;> omega
theorem compact_all_of (d : Array Int) (m : Nat) (h : (Lib.compactUpTo d m).length = m) : ∀ j, j < m → Lib.keeps d j = true := by
  induction m with
  | zero => intro j hj; omega
  | succ m ih =>
    rw [Lib.compactUpTo_succ, List.length_append] at h
    have hl := compact_len_le d m
    intro j hj
    by_cases hk : Lib.keeps d m = true
    · rw [if_pos hk] at h
      simp at h
      rcases Nat.lt_or_ge j m with h1 | h1
      · exact ih h j h1
      · have : j = m := by omega
        rw [this]; exact hk
    · rw [if_neg hk] at h
      simp at h; omega
theorem sorted_lt {l : List Int} (hs : l.Pairwise (· ≤ ·)) (h : ∀ i, 0 < i → i < l.length → l.getD i 0 ≠ l.getD (i - 1) 0) : l.Nodup := by
  have step : ∀ i j, i < j → j < l.length → l.getD i 0 < l.getD j 0 := by
    intro i j hij hj
    induction j with
    | zero => omega
    | succ j ih =>
      have h1 := h (j + 1) (by omega) hj
      rw [List.pairwise_iff_getElem] at hs
      have h2 := hs j (j + 1) (by omega) hj (by omega)
      rw [← getD_lt 0, ← getD_lt 0 hj] at h2
      rw [Nat.add_sub_cancel] at h1
      rcases Nat.lt_or_ge i j with h3 | h3
      · have := ih h3 (by omega); omega
      · have : i = j := by omega
        subst this; omega
  rw [List.nodup_iff_pairwise_ne, List.pairwise_iff_getElem]
  intro i j hi hj hij e
  have := step i j hij hj
  rw [getD_lt 0 hi, getD_lt 0 hj, e] at this
  omega
theorem nodup_of_apart {l : List Int} (h : apartS l = true) : l.Nodup := by
  unfold apartS at h
  rw [beq_iff_eq] at h
  rw [← sortS_len l] at h
  have hk := compact_all_of (sortS l).toArray (sortS l).length h
  refine (sort_perm l).nodup_iff.1 (sorted_lt (sort_sorted l) fun i h0 hi e => ?_)
  have := hk i hi
  rw [Lib.keeps_neg h0 ?_] at this
  · cases this
  · rw [getD_lt 0 hi, getD_lt 0 (show i - 1 < (sortS l).length by omega)] at e
    simpa [hi, show i - 1 < (sortS l).length by omega] using e
theorem nodup_iff {l : List Int} : l.Nodup ↔ ∀ i, i < l.length → ∀ k, k < i → l.getD i 0 ≠ l.getD k 0 := by
  rw [List.nodup_iff_pairwise_ne, List.pairwise_iff_getElem]
  constructor
  · intro h i hi k hk e
    rw [getD_lt 0 hi, getD_lt 0 (by omega)] at e
    exact h k i (by omega) hi hk e.symm
  · intro h i j hi hj hij e
    refine h j hj i hij ?_
    rw [getD_lt 0 hi, getD_lt 0 hj, e]
theorem apart_yes {l : List Int} (h : ∀ i, i < l.length → ∀ k, k < i → l.getD i 0 ≠ l.getD k 0) : apartS l = true := apart_nodup (nodup_iff.2 h)
theorem apart_no {l : List Int} {i k : Nat} (hi : i < l.length) (hk : k < i) (e : l.getD i 0 = l.getD k 0) : apartS l = false := by
  cases h : apartS l
  · rfl
  · exact absurd e (nodup_iff.1 (nodup_of_apart h) i hi k hk)

/-! ### A Gcc's numbers -/
theorem nodup_counts {l : List Int} (h : l.Nodup) {i : Nat} (h0 : 0 < i) (hi : i < l.length) : (sortS l).getD i 0 ≠ (sortS l).getD (i - 1) 0 :=
  nodup_iff.1 (sort_nodup h) i (by rw [sortS_len]; exact hi) (i - 1) (by omega)
theorem counts_nodup {l : List Int} (h : ∀ i, 0 < i → i < l.length → (sortS l).getD i 0 ≠ (sortS l).getD (i - 1) 0) : l.Nodup :=
  (sort_perm l).nodup_iff.1 (sorted_lt (sort_sorted l) fun i h0 hi => h i h0 (by rw [sortS_len] at hi; exact hi))
theorem countsS_iff {c : Con} (hk : c.kind = 21) : countsS c = true ↔ ∀ i, i < c.C.length → c.D.getD i 0 ≤ c.E.getD i 0 ∧ ∀ j, j < i → c.C.getD i 0 ≠ c.C.getD j 0 := by
  unfold countsS
  rw [if_pos hk, List.all_eq_true]
  simp only [List.mem_range, Bool.not_eq_true', Bool.or_eq_false_iff, Bool.and_eq_false_iff, decide_eq_false_iff_not, beq_eq_false_iff_ne, Int.not_lt]
  constructor
  · intro h
    have nd := nodup_iff.1 (counts_nodup fun i h0 hi => (h i hi).2.resolve_left (by omega))
    exact fun i hi => ⟨by have := (h i hi).1; omega, nd i hi⟩
  · intro h i hi
    refine ⟨by have := (h i hi).1; omega, ?_⟩
    rcases Nat.eq_zero_or_pos i with h0 | h0
    · exact .inl (by omega)
    · exact .inr (nodup_counts (nodup_iff.2 fun i hi => (h i hi).2) h0 hi)

/-! ### A circuit, marking what is met -/
def circS (x : List Int) : Nat → Nat → List Bool → Bool
  | 0, at', _ => at' == 0
  | k + 1, at', met => let v := x.getD at' 0; if v < 1 ∨ v > x.length ∨ met.getD (v - 1).toNat false = true then false else circS x k (v - 1).toNat (met.set (v - 1).toNat true)
theorem bget_set (met : List Bool) (i j : Nat) (h : i < met.length) : (met.set i true).getD j false = if i = j then true else met.getD j false := by
  simp only [List.getD_eq_getElem?_getD, List.getElem?_set]
  by_cases e : i = j
  · rw [if_pos e, if_pos e, if_pos h]; rfl
  · rw [if_neg e, if_neg e]
/-- Place by place. -/
def goS (x : List Int) : Nat → Int
  | 0 => 1
  | k + 1 => x.getD (goS x k - 1).toNat 0
/-- From step j on: all is met once. -/
theorem circ_iff {x : List Int} : ∀ (k j : Nat) (met : List Bool), met.length = x.length → 1 ≤ goS x j → goS x j ≤ x.length →
    (∀ i : Nat, i < x.length → (met.getD i false = true ↔ ∃ s, 1 ≤ s ∧ s ≤ j ∧ goS x s = i + 1)) →
    (circS x k (goS x j - 1).toNat met = true ↔ (∀ s, j < s → s ≤ j + k → (1 ≤ goS x s ∧ goS x s ≤ x.length) ∧ ∀ t, 1 ≤ t → t < s → goS x t ≠ goS x s) ∧ goS x (j + k) = 1)
  | 0, j, met, _, h1, h2, _ => by
    simp only [circS, beq_iff_eq, Nat.add_zero]
    constructor
    · intro h
      exact ⟨fun s h3 h4 => by omega, by omega⟩
    · intro h; rw [h.2]; rfl
  | k + 1, j, met, hm, h1, h2, h3 => by
    have e : x.getD (goS x j - 1).toNat 0 = goS x (j + 1) := rfl
    simp only [circS, e]
    split
    · rename_i hb
      refine ⟨fun h => (by cases h), fun ⟨h, _⟩ => ?_⟩
      have := h (j + 1) (by omega) (by omega)
      rcases hb with hb | hb | hb
      · omega
      · omega
      · obtain ⟨s, s1, s2, s3⟩ := (h3 (goS x (j + 1) - 1).toNat (by omega)).1 hb
        exact absurd (show goS x s = goS x (j + 1) by omega) (this.2 s s1 (by omega))
    · rename_i hb
      simp only [not_or, Int.not_lt] at hb
      obtain ⟨b1, b2, b3⟩ := hb
      rw [circ_iff k (j + 1) (met.set (goS x (j + 1) - 1).toNat true) (by simpa using hm) (by omega) (by omega) fun i hi => ?_]
      · rw [show j + 1 + k = j + (k + 1) by omega]
        constructor
        · rintro ⟨h, hz⟩
          refine ⟨fun s s1 s2 => ?_, hz⟩
          rcases Nat.lt_or_ge (j + 1) s with h4 | h4
          · exact h s h4 s2
          · have : s = j + 1 := by omega
            subst this
            refine ⟨by omega, fun t t1 t2 et => b3 ((h3 _ (by omega)).2 ⟨t, t1, by omega, by omega⟩)⟩
        · rintro ⟨h, hz⟩
          exact ⟨fun s s1 s2 => h s (by omega) s2, hz⟩
      · rw [bget_set _ _ _ (by omega)]
        by_cases ei : (goS x (j + 1) - 1).toNat = i
        · rw [if_pos ei]
          exact ⟨fun _ => ⟨j + 1, by omega, by omega, by omega⟩, fun _ => rfl⟩
        · rw [if_neg ei, h3 i hi]
          constructor
          · rintro ⟨s, s1, s2, s3⟩; exact ⟨s, s1, by omega, s3⟩
          · rintro ⟨s, s1, s2, s3⟩
            refine ⟨s, s1, ?_, s3⟩
            rcases Nat.lt_or_ge j s with h4 | h4
            · have : s = j + 1 := by omega
              subst this; omega
            · exact h4
theorem round_iff {x : List Int} : ∀ (k j : Nat), 
    (roundS x k (goS x j) (j + 1) = true ↔ ∃ s, j < s ∧ s ≤ j + k ∧ (∀ t, j < t → t ≤ s → 1 ≤ goS x t ∧ goS x t ≤ x.length) ∧ (∀ t, j < t → t < s → goS x t ≠ 1) ∧ goS x s = 1 ∧ s = x.length)
  | 0, j => by
    simp only [roundS]
    exact ⟨fun h => (by cases h), fun ⟨s, h1, h2, _⟩ => by omega⟩
  | k + 1, j => by
    have e : x.getD (goS x j - 1).toNat 0 = goS x (j + 1) := rfl
    simp only [roundS, e]
    split
    · rename_i hb
      refine ⟨fun h => (by cases h), fun ⟨s, h1, h2, h3, _⟩ => ?_⟩
      have := h3 (j + 1) (by omega) (by omega)
      omega
    · rename_i hb
      split
      · rename_i h1
        rw [beq_iff_eq]
        constructor
        · intro h
          refine ⟨j + 1, by omega, by omega, fun t t1 t2 => ?_, fun t t1 t2 => by omega, h1, h⟩
          have : t = j + 1 := by omega
          subst this; omega
        · rintro ⟨s, s1, s2, s3, s4, s5, s6⟩
          rcases Nat.lt_or_ge (j + 1) s with h4 | h4
          · exact absurd h1 (s4 (j + 1) (by omega) h4)
          · omega
      · rename_i h1
        rw [round_iff k (j + 1)]
        constructor
        · rintro ⟨s, s1, s2, s3, s4, s5, s6⟩
          refine ⟨s, by omega, by omega, fun t t1 t2 => ?_, fun t t1 t2 => ?_, s5, s6⟩
          · rcases Nat.lt_or_ge (j + 1) t with h4 | h4
            · exact s3 t h4 t2
            · have : t = j + 1 := by omega
              subst this; omega
          · rcases Nat.lt_or_ge (j + 1) t with h4 | h4
            · exact s4 t h4 t2
            · have : t = j + 1 := by omega
              subst this; exact h1
        · rintro ⟨s, s1, s2, s3, s4, s5, s6⟩
          rcases Nat.lt_or_ge (j + 1) s with h4 | h4
          · exact ⟨s, h4, by omega, fun t t1 t2 => s3 t (by omega) t2, fun t t1 t2 => s4 t (by omega) t2, s5, s6⟩
          · have : s = j + 1 := by omega
            subst this; exact absurd s5 h1
theorem go_add {x : List Int} {i j : Nat} (h : goS x i = goS x j) : ∀ k, goS x (i + k) = goS x (j + k)
  | 0 => h
  | k + 1 => by
    show x.getD (goS x (i + k) - 1).toNat 0 = x.getD (goS x (j + k) - 1).toNat 0
    rw [go_add h k]
theorem circ_round {x : List Int} (hl : 1 ≤ x.length) : circS x x.length 0 (List.replicate x.length false) = roundS x x.length 1 1 := by
  rw [Bool.eq_iff_iff]
  have h1 := circ_iff (x := x) x.length 0 (List.replicate x.length false) (by simp) (by show (1 : Int) ≤ 1; omega) (by show (1 : Int) ≤ _; omega) (fun i hi => by
    simp [List.getD_eq_getElem?_getD, hi]
    intro s s1 s2; omega)
  have h2 := round_iff (x := x) x.length 0
  rw [show circS x x.length 0 (List.replicate x.length false) = circS x x.length (goS x 0 - 1).toNat (List.replicate x.length false) from rfl, h1, show roundS x x.length 1 1 = roundS x x.length (goS x 0) (0 + 1) from rfl, h2]
  rw [Nat.zero_add]
  constructor
  · rintro ⟨h, hz⟩
    exact ⟨x.length, by omega, Nat.le_refl _, fun t t1 t2 => (h t t1 t2).1, fun t t1 t2 e => (h x.length (by omega) (Nat.le_refl _)).2 t t1 t2 (e.trans hz.symm), hz, rfl⟩
  · rintro ⟨s, s1, s2, s3, s4, s5, rfl⟩
    refine ⟨fun t t1 t2 => ⟨s3 t t1 t2, fun u u1 u2 e => ?_⟩, s5⟩
    have := go_add e (x.length - t)
    rw [show t + (x.length - t) = x.length by omega, s5] at this
    exact s4 _ (by omega) (by omega) this

/-! ### Pairs -/
theorem inverse_all {x z : List Int} (hl : x.length = z.length) : inverseS x z = true ↔ ∀ i, i < x.length → ∀ k, k < x.length →
    (1 ≤ x.getD i 0 ∧ x.getD i 0 ≤ x.length ∧ 1 ≤ z.getD k 0 ∧ z.getD k 0 ≤ x.length ∧ (x.getD i 0 = k + 1 ↔ z.getD k 0 = i + 1)) := by
  constructor
  · intro h
    have h1 := inverse_iff.1 h
    have h2 := inverse_iff.1 (inverse_back hl h)
    intro i hi k hk
    have a := h1 i hi
    have b := h2 k (by omega)
    refine ⟨a.1, by omega, b.1, by omega, fun e => ?_, fun e => ?_⟩
    · have := a.2.2
      rw [e, show ((k : Int) + 1 - 1).toNat = k by omega] at this
      exact this
    · have := b.2.2
      rw [e, show ((i : Int) + 1 - 1).toNat = i by omega] at this
      exact this
  · intro h
    rw [inverse_iff]
    intro i hi
    have a := h i hi 0 (by omega)
    refine ⟨a.1, by omega, ?_⟩
    have b := h i hi (x.getD i 0 - 1).toNat (by omega)
    exact b.2.2.2.2.1 (by omega)
theorem compare_at {x z : List Int} (hl : x.length = z.length) {j : Nat} (hj : j < x.length) (hp : ∀ i, i < j → x.getD i 0 = z.getD i 0) (hne : x.getD j 0 ≠ z.getD j 0) : decide (compareS x z ≤ 0) = decide (x.getD j 0 < z.getD j 0) := by
  induction x generalizing z j with
  | nil => simp at hj
  | cons a l ih =>
    cases z with
    | nil => simp at hl
    | cons b m =>
      cases j with
      | zero =>
        simp only [List.getD_cons_zero] at hne ⊢
        by_cases h : a < b
        · have e : compareS (a :: l) (b :: m) = -1 := by simp [compareS, h]
          rw [e]; simp [h]
        · have e : compareS (a :: l) (b :: m) = 1 := by simp [compareS, h, show a > b by omega]
          rw [e]; simp [h]
      | succ j =>
        have h0 := hp 0 (by omega)
        simp only [List.getD_cons_zero] at h0
        subst h0
        simp only [List.getD_cons_succ] at hne ⊢
        simp only [compareS, Int.lt_irrefl, gt_iff_lt, if_false]
        exact ih (by simpa using hl) (by simpa using hj) (fun i hi => by simpa using hp (i + 1) (by omega)) hne
theorem compare_same {x z : List Int} (hl : x.length = z.length) (hp : ∀ i, i < x.length → x.getD i 0 = z.getD i 0) : decide (compareS x z ≤ 0) = true := by
  rw [(eq_all hl).1 hp]
  have : ∀ l : List Int, compareS l l = 0 := by
    intro l
    induction l with
    | nil => rfl
    | cons a l ih => simp [compareS, ih]
  rw [this]; rfl

/-! ### How long lists are -/
def listS (n one all : Int) : Bool := if all > 0 then decide (1 ≤ n) && decide (n ≤ 64) else n == one
theorem has_pos {s : List UInt8} {c : UInt8} : ((hasS s c : Int) > 0) ↔ hasB (bs s) c = true := by
  unfold hasS hasB
  show ((s.count c : Nat) : Int) > 0 ↔ s.contains c = true
  rw [List.contains_iff_mem, ← List.count_pos_iff]
  omega
theorem list_named (n : Int) (s : List UInt8) (one all : UInt8) : listS n (hasS s one) (hasS s all) = namedS n (bs s) one all := by
  unfold listS namedS
  by_cases h : hasB (bs s) all = true
  · rw [if_pos (has_pos.2 h), if_pos h]; rfl
  · rw [if_neg (fun e => h (has_pos.1 e)), if_neg h]; rfl
theorem no_dash {k : Int} (h : 1 ≤ k ∧ k ≤ 23) : hasS (shapeS k) 45 = 0 := by
  rcases kinds23 h with rfl | rfl | rfl | rfl | rfl | rfl | rfl | rfl | rfl | rfl | rfl | rfl | rfl | rfl | rfl | rfl | rfl | rfl | rfl | rfl | rfl | rfl | rfl <;> decide
theorem list_dash (n : Int) {k : Int} (h : 1 ≤ k ∧ k ≤ 23) (all : UInt8) : listS n 0 (hasS (shapeS k) all) = namedS n (bs (shapeS k)) 45 all := by
  rw [← list_named, no_dash h]; rfl

/-! ### What the reference calls right -/
def inS (l : List Int) (low high : Int) : Bool := l.all fun v => !(decide (v < low) || decide (v > high))
theorem in_yes {l : List Int} {low high : Int} (h : ∀ i, i < l.length → low ≤ l.getD i 0 ∧ l.getD i 0 ≤ high) : inS l low high = true := by
  unfold inS
  rw [List.all_eq_true]
  intro v hv
  obtain ⟨i, hi, rfl⟩ := List.mem_iff_getElem.1 hv
  have := h i hi
  rw [getD_lt 0 hi] at this
  simp; omega
theorem in_no {l : List Int} {low high : Int} {i : Nat} (hi : i < l.length) (h : l.getD i 0 < low ∨ l.getD i 0 > high) : inS l low high = false := by
  unfold inS
  rw [List.all_eq_false]
  refine ⟨_, getD_mem 0 hi, ?_⟩
  generalize l.getD i 0 = v at h
  simp; omega
theorem in_bounded (l : List Int) (low : Int) : inS l low 1000000 = boundedS l low := by
  unfold inS boundedS
  rw [Bool.eq_iff_iff]
  simp
def arityS (c : Con) : Bool := mcountedS c.kind c.A.length c.B.length c.C.length c.D.length c.E.length c.R.length (bs (shapeS c.kind)) && alikeS c && (c.K == 0 || (shapeS c.kind).contains 107)
def coefsS (c : Con) : Bool := numbersS c && countsS c
theorem right_eq (c : Con) (vars : Int) : rightS c vars = if c.kind < 1 ∨ c.kind > 23 then 9 else if arityS c = false then 10 else if inS c.A 0 (vars - 1) = false ∨ inS c.B 0 (vars - 1) = false then 7 else if coefsS c = false then 11 else 0 := by
  unfold rightS
  by_cases h1 : c.kind < 1 ∨ c.kind > 23
  · rw [if_pos h1, if_pos]
    cases h : shapeS c.kind with
    | nil => rfl
    | cons a l => exact absurd (shapeS_ne.1 (by rw [h]; simp)) (by omega)
  · rw [if_neg h1, if_neg (shapeS_ne.2 (by omega))]
    have e1 : (!mcountedS c.kind c.A.length c.B.length c.C.length c.D.length c.E.length c.R.length (bs (shapeS c.kind)) || !alikeS c || (c.K != 0 && !(shapeS c.kind).contains 107)) = !arityS c := by
      unfold arityS
      simp only [Bool.not_and, Bool.not_or, bne]
    rw [e1]
    have e2 : ((c.A ++ c.B).any fun v => decide (v < 0) || decide (v ≥ vars)) = !(inS c.A 0 (vars - 1) && inS c.B 0 (vars - 1)) := by
      unfold inS
      rw [List.any_append, Bool.not_and, List.not_all_eq_any_not, List.not_all_eq_any_not]
      have : (fun v : Int => decide (v < 0) || decide (v ≥ vars)) = fun x => !!(decide (x < 0) || decide (x > vars - 1)) := by
        funext v
        rw [Bool.not_not]
        congr 1
        rw [decide_eq_decide]; omega
      rw [this]
    rw [e2]
    have e3 : (!numbersS c || !countsS c) = !coefsS c := by simp [coefsS]
    rw [e3]
    cases arityS c <;> cases inS c.A 0 (vars - 1) <;> cases inS c.B 0 (vars - 1) <;> cases coefsS c <;> simp

/-! ### Reading values by their places -/
structure Reads (a A x : List Int) : Prop where
  len : x.length = A.length
  lo : ∀ i, i < A.length → 0 ≤ A.getD i 0
  hi : ∀ i, i < A.length → A.getD i 0 < a.length
  get : ∀ i, i < A.length → a.getD (A.getD i 0).toNat 0 = x.getD i 0
theorem reads_of {a A : List Int} (h : ∀ v ∈ A, 0 ≤ v ∧ v < a.length) : Reads a A (valuesS a A) :=
  ⟨values_len a A, fun i hi => (h _ (getD_mem 0 hi)).1, fun i hi => (h _ (getD_mem 0 hi)).2, fun i hi => (values_get a A hi).symm⟩
end Go.Pi

/- Quotients. -/
namespace Go.Pi
open Go

/-! ### Quotients -/
theorem wrap_u64 {x : Int} (h1 : 0 ≤ x) (h2 : x < 18446744073709551616) : IntKind.u64.wrap x = x := by
  simp only [IntKind.wrap, IntKind.bits, IntKind.signed]
  have : (2 : Int) ^ 64 = 18446744073709551616 := by decide
  first
    | (simp only [this]; split <;> omega)
    | (simp; omega)
theorem tdiv_abs (a b : Int) : a.tdiv b = if (a < 0) ↔ (b < 0) then ((a.natAbs / b.natAbs : Nat) : Int) else -((a.natAbs / b.natAbs : Nat) : Int) := by
  have core : (a.natAbs : Int).tdiv b.natAbs = ((a.natAbs / b.natAbs : Nat) : Int) := rfl
  rcases Int.lt_or_le a 0 with ha | ha <;> rcases Int.lt_or_le b 0 with hb | hb
  · rw [if_pos (by omega)]
    have ea : a = -(a.natAbs : Int) := by omega
    have eb : b = -(b.natAbs : Int) := by omega
    conv => lhs; rw [ea, eb, Int.tdiv_neg, Int.neg_tdiv, Int.neg_neg, core]
  · rw [if_neg (by omega)]
    have ea : a = -(a.natAbs : Int) := by omega
    have eb : b = (b.natAbs : Int) := by omega
    conv => lhs; rw [ea, eb, Int.neg_tdiv, core]
  · rw [if_neg (by omega)]
    have ea : a = (a.natAbs : Int) := by omega
    have eb : b = -(b.natAbs : Int) := by omega
    conv => lhs; rw [ea, eb, Int.tdiv_neg, core]
  · rw [if_pos (by omega)]
    have ea : a = (a.natAbs : Int) := by omega
    have eb : b = (b.natAbs : Int) := by omega
    conv => lhs; rw [ea, eb, core]
theorem neg_wrap {a b : Int} (ha : -9223372036854775808 ≤ a ∧ a ≤ 9223372036854775807) (hb : b ≠ 0) (hs : ¬ ((a < 0) ↔ (b < 0))) :
    IntKind.i64.wrap (0 - IntKind.i64.wrap ((a.natAbs / b.natAbs : Nat) : Int)) = a.tdiv b := by
  rw [tdiv_abs, if_neg hs]
  have h1 : a.natAbs / b.natAbs ≤ a.natAbs := Nat.div_le_self _ _
  generalize a.natAbs / b.natAbs = n at h1
  rcases Nat.lt_or_ge n 9223372036854775808 with h | h
  · rw [wrap_i64 (x := (n : Int)) (by omega) (by omega), wrap_i64 (by omega) (by omega)]; omega
  · have : n = 9223372036854775808 := by omega
    subst this; decide
theorem pos_wrap {a b : Int} (ha : -9223372036854775808 ≤ a ∧ a ≤ 9223372036854775807) (hb : b ≠ 0) (hx : ¬ (b = -1 ∧ a = -9223372036854775808)) (hs : (a < 0) ↔ (b < 0)) :
    IntKind.i64.wrap ((a.natAbs / b.natAbs : Nat) : Int) = a.tdiv b := by
  rw [tdiv_abs, if_pos hs]
  have h1 : a.natAbs / b.natAbs ≤ a.natAbs := Nat.div_le_self _ _
  have h2 : 2 ≤ b.natAbs → a.natAbs / b.natAbs ≤ a.natAbs / 2 := fun h2 => Nat.div_le_div_left h2 (by decide)
  have h3 : a.natAbs / b.natAbs ≤ 9223372036854775807 := by
    generalize a.natAbs / b.natAbs = n at h1 h2
    by_cases h : b = -1
    · omega
    · by_cases ha0 : a < 0
      · have := h2 (by omega)
        omega
      · omega
  generalize a.natAbs / b.natAbs = n at h3
  rw [wrap_i64 (by omega) (by omega)]
end Go.Pi

/- What comes in, as a row reads it, shows structural values of its type. -/
namespace Go.Pi
open Go Go.Deep

/-- What a cell of a type shows. -/
inductive Sh where
  | int (k : IntKind)
  | bool
  | str
  | slice (row : List Sh)
inductive Typed : Sh → PV → Prop
  | int (k : IntKind) (n : Int) (h : (Lit.int k n).wf = true) : Typed (.int k) (.v (.int k n))
  | bool (b : Bool) : Typed .bool (.v (.bool b))
  | str (s : ByteArray) (h : s.size ≤ maxLen) : Typed .str (.v (.string s))
  | slice (row : List Sh) (xs : List (List PV)) (hl : xs.length ≤ maxLen) (hr : ∀ r ∈ xs, r.length = row.length)
      (h : ∀ r ∈ xs, ∀ (i : Nat) sh p, row[i]? = some sh → r[i]? = some p → Typed sh p) : Typed (.slice row) (.list row.length xs)
inductive ShOf (P : Program) : TypeId → List Sh → Prop
  | int {t : TypeId} (k : IntKind) (h : P.underlying t = some (.int k)) : ShOf P t [.int k]
  | bool {t : TypeId} (h : P.underlying t = some .bool) : ShOf P t [.bool]
  | str {t : TypeId} (h : P.underlying t = some .string) : ShOf P t [.str]
  | slice {t : TypeId} (e : TypeId) (row : List Sh) (h : P.underlying t = some (.slice e)) (hc : P.cellsOf e = row.length) (hp : 0 < row.length) (he : ShOf P e row) : ShOf P t [.slice row]
  | struct {t : TypeId} (fs : Array Field) (parts : List (List Sh)) (h : P.underlying t = some (.struct fs)) (hl : parts.length = fs.size) (hc : P.cellsOf t = parts.flatten.length)
      (hp : ∀ (i : Nat) f sh, fs[i]? = some f → parts[i]? = some sh → P.cellsOf f.type = sh.length ∧ f.offset = (parts.take i).flatten.length)
      (hs : ∀ (i : Nat) f sh, fs[i]? = some f → parts[i]? = some sh → ShOf P f.type sh) : ShOf P t parts.flatten

/-- Cells, what they show, and that it is of their type. -/
inductive CellsAre (w : World) : List Value → List Sh → List PV → Prop
  | nil : CellsAre w [] [] []
  | cons {v : Value} {sh : Sh} {p : PV} {cs : List Value} {shs : List Sh} {ps : List PV} (h1 : v.oneCell' = true) (h2 : RepS (fun b => b < w.heap.size) w v p) (h3 : Typed sh p) (r : CellsAre w cs shs ps) : CellsAre w (v :: cs) (sh :: shs) (p :: ps)
theorem CellsAre.append {w : World} {a b : List Value} {sa sb : List Sh} {pa pb : List PV} (h : CellsAre w a sa pa) (k : CellsAre w b sb pb) : CellsAre w (a ++ b) (sa ++ sb) (pa ++ pb) := by
  induction h with
  | nil => exact k
  | cons h1 h2 h3 _ ih => exact .cons h1 h2 h3 ih
theorem CellsAre.lens {w : World} {a : List Value} {sa : List Sh} {pa : List PV} (h : CellsAre w a sa pa) : a.length = sa.length ∧ pa.length = sa.length := by
  induction h with
  | nil => exact ⟨rfl, rfl⟩
  | cons _ _ _ _ ih => exact ⟨by simp [ih.1], by simp [ih.2]⟩
theorem CellsAre.at {w : World} {a : List Value} {sa : List Sh} {pa : List PV} (h : CellsAre w a sa pa) : ∀ (i : Nat) p, pa[i]? = some p → ∃ v sh, a[i]? = some v ∧ sa[i]? = some sh ∧ v.oneCell' = true ∧ RepS (fun b => b < w.heap.size) w v p ∧ Typed sh p := by
  induction h with
  | nil => intro i p hi; simp at hi
  | @cons v sh p _ _ _ h1 h2 h3 _ ih =>
    intro i q hi
    cases i with
    | zero => simp at hi; subst hi; exact ⟨v, sh, rfl, rfl, h1, h2, h3⟩
    | succ i => simpa using ih i q (by simpa using hi)

section
variable {H : Type} {enc : TypeId × Value → H} {P : Program} {w : World} {base : Nat} {spare : Nat → Bool} {held : Bool}

theorem read_cells {t : TypeId} {shs : List Sh} (h : ShOf P t shs) : ∀ (fuel : Nat) (cs : List Value) (x : DataW H × List MemPlace), DataW.trod enc P w base spare held fuel t cs = some x → ∃ ps, CellsAre w cs shs ps := by
  induction h with
  | int k h =>
    intro fuel cs x hx
    obtain ⟨n, rfl, _, wf⟩ := DataW.trod_int h hx
    exact ⟨[.v (.int k n)], .cons rfl (.v _) (.int k n wf) .nil⟩
  | bool h =>
    intro fuel cs x hx
    obtain ⟨b, rfl, _⟩ := DataW.trod_bool h hx
    exact ⟨[.v (.bool b)], .cons rfl (.v _) (.bool b) .nil⟩
  | str h =>
    intro fuel cs x hx
    obtain ⟨s, rfl, _, hs⟩ := DataW.trod_string h hx
    exact ⟨[.v (.string s)], .cons rfl (.v _) (.str s hs) .nil⟩
  | @slice t e row h hc hp he ih =>
    intro fuel cs x hx
    rcases open_slice h hx with ⟨rfl, _⟩ | ⟨a, len, cap, m, n, D, Pl, rfl, hb, hl, hm, hmm, _, hall⟩
    · exact ⟨[.list row.length []], .cons rfl (.empty _ _ _) (.slice row [] (Nat.zero_le _) (by simp) (by simp)) .nil⟩
    · have hlm : len ≤ m := by rw [hmm]; split <;> omega
      obtain ⟨F, hF⟩ := choose_lt (α := List Value × List PV) (n := len) (p := fun i q => w.cells? base (a.add (i * P.cellsOf e)) (P.cellsOf e) = some q.1 ∧ CellsAre w q.1 row q.2) (fun i hi => by
        obtain ⟨cs', h1, h2⟩ := hall i (by omega)
        obtain ⟨ps, h3⟩ := ih n cs' _ h2
        exact ⟨(cs', ps), h1, h3⟩)
      rw [hc] at hF
      have hrows : ∀ r ∈ (List.range len).map fun i => (F i).2, ∃ i, i < len ∧ r = (F i).2 := fun r hr => by
        simp only [List.mem_map, List.mem_range] at hr
        obtain ⟨i, hi, rfl⟩ := hr
        exact ⟨i, hi, rfl⟩
      have hty : Typed (.slice row) (.list row.length ((List.range len).map fun i => (F i).2)) := .slice row _ (by simp; omega) (fun r hr => by
        obtain ⟨i, hi, rfl⟩ := hrows r hr
        exact (hF i hi).2.lens.2) (fun r hr j sh p hj hp => by
        obtain ⟨i, hi, rfl⟩ := hrows r hr
        obtain ⟨v, sh', _, h2, _, _, h5⟩ := (hF i hi).2.at j p hp
        rw [hj] at h2; cases h2; exact h5)
      refine ⟨[.list row.length ((List.range len).map fun i => (F i).2)], .cons rfl ?_ hty .nil⟩
      rcases Nat.eq_zero_or_pos len with rfl | hpos
      · exact .empty _ _ _
      · obtain ⟨b, off, spot⟩ := a
        have hspot : spot = none := by
          obtain ⟨_, _, h3⟩ := World.cells?_some (hF 0 hpos).1
          have h0 := h3 0 hp
          have hlen := (hF 0 hpos).2.lens.1
          rw [List.getElem?_eq_getElem (by omega)] at h0
          simpa [Addr.add] using World.cell?_spot h0
        subst hspot
        have cell : ∀ i, i < len → ∀ j, j < row.length → w.cell? ⟨b, off + (i * row.length + j), none⟩ = (F i).1[j]? := fun i hi j hj => by
          obtain ⟨_, _, h3⟩ := World.cells?_some (hF i hi).1
          have := h3 j hj
          rw [addr_add, addr_add, Nat.add_assoc] at this
          exact this
        have := RepS.list (ok := fun b => b < w.heap.size) (w := w) b off cap row.length ((List.range len).map fun i => (F i).2) (fun i j => ((F i).1.getD j undef)) (by
            have h0 := cell 0 hpos 0 hp
            have hlen := (hF 0 hpos).2.lens.1
            rw [List.getElem?_eq_getElem (by omega)] at h0
            exact lt_of_cell h0) (by simpa using hl) (fun r hr => by
            obtain ⟨i, hi, rfl⟩ := hrows r hr
            exact (hF i hi).2.lens.2) (fun i r hi j c hj => by
            have hilt : i < len := by have := (List.getElem?_eq_some_iff.1 hi).1; simpa using this
            have hr : r = (F i).2 := by simp [hilt] at hi; exact hi.symm
            subst hr
            obtain ⟨v, sh, q1, _, q3, _, _⟩ := (hF i hilt).2.at j c hj
            have hjl : j < row.length := by have := (List.getElem?_eq_some_iff.1 hj).1; rw [(hF i hilt).2.lens.2] at this; exact this
            rw [cell i hilt j hjl, q1, List.getD_eq_getElem?_getD, q1]
            exact ⟨rfl, q3⟩) (fun i r hi j c hj => by
            have hilt : i < len := by have := (List.getElem?_eq_some_iff.1 hi).1; simpa using this
            have hr : r = (F i).2 := by simp [hilt] at hi; exact hi.symm
            subst hr
            obtain ⟨v, sh, q1, _, _, q4, _⟩ := (hF i hilt).2.at j c hj
            rw [List.getD_eq_getElem?_getD, q1]
            exact q4)
        simpa using this
  | @struct t fs parts h hl hc hp hs ih =>
    intro fuel cs x hx
    obtain ⟨xs, n, _, _, hlen, hxl, hf⟩ := DataW.trod_struct h hx
    have step : ∀ k, k ≤ parts.length → ∃ ps, CellsAre w (cs.take (parts.take k).flatten.length) (parts.take k).flatten ps := by
      intro k
      induction k with
      | zero => intro _; exact ⟨[], by simpa using CellsAre.nil⟩
      | succ k ihk =>
        intro hk
        obtain ⟨ps, hps⟩ := ihk (by omega)
        have hfk : fs[k]? = some fs[k] := Array.getElem?_eq_getElem (by omega)
        have hpk : parts[k]? = some parts[k] := List.getElem?_eq_getElem (by omega)
        obtain ⟨h1, h2⟩ := hp k _ _ hfk hpk
        have h3 := hf k _ hfk
        have hxk : xs[k]? = some xs[k] := List.getElem?_eq_getElem (by omega)
        rw [hxk, h1, h2] at h3
        obtain ⟨qs, hqs⟩ := ih k _ _ hfk hpk n _ _ h3
        have e1 : parts.take (k + 1) = parts.take k ++ [parts[k]] := by rw [List.take_succ_eq_append_getElem (by omega)]
        refine ⟨ps ++ qs, ?_⟩
        rw [e1, List.flatten_append, List.length_append]
        have e2 : [parts[k]].flatten = parts[k] := by simp
        rw [e2, List.take_add]
        exact hps.append hqs
    obtain ⟨ps, hps⟩ := step parts.length (Nat.le_refl _)
    rw [List.take_length] at hps
    rw [List.take_of_length_le (by omega)] at hps
    exact ⟨ps, hps⟩

/-- An argument of one cell. -/
theorem read_one {t : TypeId} {sh : Sh} (h : ShOf P t [sh]) {v : Value} (hv : v.cells.toList = [v]) {d : DataW H} {ps : List MemPlace} (hd : DataW.Trod enc P w base spare held t v d ps) : ∃ p, RepS (fun b => b < w.heap.size) w v p ∧ Typed sh p := by
  obtain ⟨fuel, hf⟩ := hd
  obtain ⟨qs, hq⟩ := read_cells h _ _ _ hf
  rw [hv] at hq
  cases hq with
  | cons h1 h2 h3 r => exact ⟨_, h2, h3⟩
/-- A struct. -/
theorem read_agg {t : TypeId} {shs : List Sh} (h : ShOf P t shs) {vs : Array Value} {d : DataW H} {ps : List MemPlace} (hd : DataW.Trod enc P w base spare held t (.agg vs) d ps) :
    ∃ qs, RepS (fun b => b < w.heap.size) w (.agg vs) (.agg qs) ∧ qs.length = shs.length ∧ ∀ (i : Nat) p sh, qs[i]? = some p → shs[i]? = some sh → Typed sh p := by
  obtain ⟨fuel, hf⟩ := hd
  obtain ⟨qs, hq⟩ := read_cells h _ _ _ hf
  have hcells : (Value.agg vs).cells.toList = vs.toList := rfl
  rw [hcells] at hq
  refine ⟨qs, .agg vs qs (by have := hq.lens; rw [Array.length_toList] at this; omega) (fun i c hi => ?_), hq.lens.2, fun i p sh hi hsh => ?_⟩
  · obtain ⟨v, _, q1, _, _, q4, _⟩ := hq.at i c hi
    rw [Array.getElem?_toList] at q1
    rw [Array.getD_eq_getD_getElem?, q1]
    exact q4
  · obtain ⟨v, sh', q1, q2, _, _, q5⟩ := hq.at i p hi
    rw [hsh] at q2; cases q2; exact q5
end

/-! ### Plain numbers out of typed ones -/
theorem typed_list {k : IntKind} {p : PV} (h : Typed (.slice [.int k]) p) : ∃ l : List Int, p = .list 1 (l.map fun x => [.v (.int k x)]) ∧ l.length ≤ maxLen ∧ ∀ x ∈ l, (Lit.int k x).wf = true := by
  cases h with
  | slice row xs hl hr ht =>
    have each : ∀ r ∈ xs, ∃ x, r = [PV.v (.int k x)] ∧ (Lit.int k x).wf = true := fun r hr' => by
      have h1 := hr r hr'
      match r, h1 with
      | [q], _ =>
        have := ht _ hr' 0 _ q rfl rfl
        cases this with
        | int _ n hn => exact ⟨n, rfl, hn⟩
    have go : ∀ ys : List (List PV), (∀ r ∈ ys, ∃ x, r = [PV.v (.int k x)] ∧ (Lit.int k x).wf = true) → ∃ l : List Int, ys = l.map (fun x => [.v (.int k x)]) ∧ ∀ x ∈ l, (Lit.int k x).wf = true := by
      intro ys
      induction ys with
      | nil => intro _; exact ⟨[], rfl, by simp⟩
      | cons y r ih =>
        intro h
        obtain ⟨x, rfl, hx⟩ := h y (by simp)
        obtain ⟨l, hl, hw⟩ := ih fun r hr => h r (by simp [hr])
        refine ⟨x :: l, by simp [hl], fun u hu => ?_⟩
        rcases List.mem_cons.1 hu with rfl | hu
        · exact hx
        · exact hw u hu
    obtain ⟨l, rfl, hw⟩ := go xs each
    exact ⟨l, rfl, by simpa using hl, hw⟩
theorem typed_int {k : IntKind} {p : PV} (h : Typed (.int k) p) : ∃ n, p = .v (.int k n) ∧ (Lit.int k n).wf = true := by
  cases h with
  | int _ n hn => exact ⟨n, rfl, hn⟩
theorem wf_u8 {n : Int} (h : (Lit.int .u8 n).wf = true) : 0 ≤ n ∧ n ≤ 255 := by
  simp [Lit.wf, IntKind.min, IntKind.max, IntKind.bits, IntKind.signed] at h; omega
theorem wf_i8 {n : Int} (h : (Lit.int .i8 n).wf = true) : -128 ≤ n ∧ n ≤ 127 := by
  simp [Lit.wf, IntKind.min, IntKind.max, IntKind.bits, IntKind.signed] at h; omega
theorem wf_i16 {n : Int} (h : (Lit.int .i16 n).wf = true) : -32768 ≤ n ∧ n ≤ 32767 := by
  simp [Lit.wf, IntKind.min, IntKind.max, IntKind.bits, IntKind.signed] at h; omega
theorem wf_i64 {n : Int} (h : (Lit.int .i64 n).wf = true) : -9223372036854775808 ≤ n ∧ n ≤ 9223372036854775807 := by
  simp [Lit.wf, IntKind.min, IntKind.max, IntKind.bits, IntKind.signed] at h; omega

/-- The kinds of a Small's cells. -/
def smallSh : List Sh := [.int .u8, .slice [.int .u8], .slice [.int .u8], .slice [.int .i8], .int .i16, .int .u8]
theorem typed_small {qs : List PV} (hl : qs.length = smallSh.length) (h : ∀ (i : Nat) p sh, qs[i]? = some p → smallSh[i]? = some sh → Typed sh p) :
    ∃ (z : Small) (zk zK zc : Int) (zA zB zC : List (List PV)), SmallR z zk zA zB zC zK zc ∧ qs = [U8 zk, .list 1 zA, .list 1 zB, .list 1 zC, I16 zK, U8 zc] := by
  match qs, hl with
  | [q0, q1, q2, q3, q4, q5], _ =>
    obtain ⟨n0, rfl, w0⟩ := typed_int (h 0 _ _ rfl rfl)
    obtain ⟨l1, rfl, b1, w1⟩ := typed_list (h 1 _ _ rfl rfl)
    obtain ⟨l2, rfl, b2, w2⟩ := typed_list (h 2 _ _ rfl rfl)
    obtain ⟨l3, rfl, b3, w3⟩ := typed_list (h 3 _ _ rfl rfl)
    obtain ⟨n4, rfl, w4⟩ := typed_int (h 4 _ _ rfl rfl)
    obtain ⟨n5, rfl, w5⟩ := typed_int (h 5 _ _ rfl rfl)
    have e9 : (9223372036854775807 : Nat) = maxLen := rfl
    exact ⟨⟨n0, l1, l2, l3, n4, n5⟩, n0, n4, n5, _, _, _, ⟨rfl, rfl, rfl, rfl, rfl, rfl, wf_u8 w0, fun v hv => wf_u8 (w1 v hv), fun v hv => wf_u8 (w2 v hv), fun v hv => wf_i8 (w3 v hv), wf_i16 w4, wf_u8 w5, by rw [e9]; exact b1, by rw [e9]; exact b2, by rw [e9]; exact b3⟩, rfl⟩

theorem below_of {w w' : World} (h : Ext (fun _ => False) w w') : RowKit.Below w.heap.size w w' := ⟨h.os, h.tape, h.output, h.size, fun k hk => h.block k hk (fun e => e)⟩
end Go.Pi
