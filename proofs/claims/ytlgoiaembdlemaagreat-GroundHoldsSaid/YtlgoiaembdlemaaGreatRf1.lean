/- Package jigsawref06's lists. -/
import Derived.Test.YtlgoiaembdlemaaGreatEnv
import Derived.Test.YtlgoiaembdlemaaGreatPic
set_option linter.unusedSimpArgs false
set_option linter.unusedVariables false
namespace Go.Pi
open Go
set_option linter.unusedVariables false

theorem sat_bs {l : List UInt8} {j : Nat} (h : j < l.length) : Real .sat (bs l) (Int.ofNat j) = ((l.getD j 0).toNat : Int) := by
  show (match (bs l)[(Int.ofNat j).toNat]? with | some b => (b.toNat : Int) | none => 0) = _
  have e : (bs l)[(Int.ofNat j).toNat]? = some (l.getD j 0) := by
    show (bs l)[j]? = _
    have hj : j < (bs l).size := h
    rw [getElem?_pos (bs l) j hj]
    congr 1
    have e2 : l.getD j 0 = l[j] := by rw [List.getD_eq_getElem?_getD, List.getElem?_eq_getElem h]; rfl
    rw [e2]
    rfl
  rw [e]
theorem slen_bs (l : List UInt8) : Real .slen (bs l) = l.length := rfl
theorem count_succ {l : List UInt8} {j : Nat} (c : UInt8) (h : j < l.length) : (l.take (j + 1)).count c = (l.take j).count c + if l.getD j 0 = c then 1 else 0 := by
  rw [take_succ_getD 0 h, List.count_append]
  simp [List.count_cons]

theorem c_has (l : List UInt8) (w : ByteArray) (hw : w = bs l) (ch : UInt8) (cc : Int) (hc : cc = (ch.toNat : Int)) (h64 : l.length ≤ 1000000) (y : Int) (hy : y = (hasS l ch : Int)) : Call .plain 11 [Str w, U8 cc] (I y) := by
  refine call_of Proofs.Tryz.func11 Proofs.Tryz.call11 rfl rfl fun M C hM hC => ?_
  have sz : w.size = l.length := by rw [hw]; rfl
  cbv
  refine Loop.over (Nat × Int) (fun q => [(.t 6, I q.1), (.t 5, I q.2)]) 0 (fun q => l.length - q.1) (fun q => q.1 ≤ l.length ∧ q.2 = ((l.take q.1).count ch : Int)) (0, 0) ⟨Nat.zero_le _, by simp⟩ (by (cbv; repeat' (first | exact True.intro | exact rfl | apply And.intro))) ?_
  rintro ⟨j, n⟩ ⟨hj, hn⟩
  simp only at hj hn
  cbv
  split <;> rename_i h <;> (try simp only [h]) <;> (try cbv) <;> (try simp only [ncast] at *)
  · have hlt : j < l.length := by
      subst hM
      have h := of_decide_eq_true h
      rw [hw] at h
      exact Int.ofNat_lt.1 h
    refine .mk ⟨Int.natCast_nonneg j, by show (j : Int) < (w.size : Int); omega⟩ ?_
    have es : M .sat w (Int.ofNat j) = ((l.getD j 0).toNat : Int) := by subst hM; rw [hw]; exact sat_bs hlt
    have ec := count_succ ch hlt
    have el : (l.take j).count ch ≤ j := Nat.le_trans List.count_le_length (by simp; omega)
    cbv
    split <;> rename_i h <;> (try simp only [h]) <;> (try cbv) <;> (try simp only [ncast] at *)
    · have h1 : l.getD j 0 = ch := by
        subst hM
        rw [real_eql, es, hc] at h
        have h2 : (l.getD j 0).toNat = ch.toNat := by
          have h := eq_of_beq h
          omega
        exact UInt8.toNat_inj.1 h2
      rw [if_pos h1] at ec
      refine ⟨⟨j + 1, _⟩, ⟨hlt, ?_⟩, ?_, by (cbv; repeat' (first | exact True.intro | exact rfl | apply And.intro)) <;> (subst hM; rw [succ_i64 (by omega)])⟩
      · subst hM
        simp only [real_add]
        rw [wrap_i64 (by omega) (by omega), ec, hn]; simp
      · simp only; omega
    · have h1 : ¬ l.getD j 0 = ch := by
        intro e
        subst hM
        rw [real_eql, es, hc, e] at h
        simp at h
      rw [if_neg h1] at ec
      refine ⟨⟨j + 1, _⟩, ⟨hlt, ?_⟩, ?_, by (cbv; repeat' (first | exact True.intro | exact rfl | apply And.intro)) <;> (subst hM; rw [succ_i64 (by omega)])⟩
      · rw [ec, hn]; simp
      · simp only; omega
  · have hj2 : j = l.length := by
      subst hM
      have h := of_decide_eq_false h
      rw [hw] at h
      have h : ¬ (j : Int) < (l.length : Int) := h
      omega
    subst hj2
    rw [List.take_length] at hn
    rw [hy, hn]; rfl

def shapesPV : List (List PV) := shapeTab.map fun l => [Str (bs l)]
theorem c_shapes (r : List (List PV)) (hr : r = shapesPV) : Call .plain 10 [] (.list 1 r) := by
  refine call_of Proofs.Tryz.func10 Proofs.Tryz.call10 rfl rfl fun M C hM hC => ?_
  cbv
  exact ⟨hr.symm, trivial⟩

theorem tmod_le (a : Int) {b : Int} (hb : 0 < b) : -b < a.tmod b ∧ a.tmod b < b := by
  have h1 := Int.tmod_lt_of_pos a hb
  have h2 := Int.tmod_lt_of_pos (-a) hb
  rw [Int.neg_tmod] at h2
  omega

def placeS (l : List Int) (vars : Int) (i : Nat) : Int := (if i < l.length then l.getD i 0 else (i : Int)).tmod vars
theorem places_eq (l : List Int) (n : Nat) (vars : Int) : placesS l n vars = (List.range n).map (placeS l vars) := rfl
theorem range_map_succ {α : Type} (f : Nat → α) (n : Nat) : (List.range (n + 1)).map f = (List.range n).map f ++ [f n] := by rw [List.range_succ, List.map_append]; rfl

theorem c_places (rl : List (List PV)) (l : List Int) (n vars : Int) (hl : rl = u8s l) (hb : ∀ v ∈ l, 0 ≤ v ∧ v ≤ 255) (hll : l.length ≤ 9223372036854775807) (hn : n ≤ 1000000) (hv : vars ≠ 0)
    (r : List (List PV)) (hr : r = ints (placesS l n.toNat vars)) : Call .plain 12 [.list 1 rl, I n, I vars] (.list 1 r) := by
  refine call_of Proofs.Tryz.func12 Proofs.Tryz.call12 rfl rfl fun M C hM hC => ?_
  cbv
  refine Loop.over (Nat × List (List PV)) (fun q => [(.t 8, I q.1), (.t 7, .own 0 0), (.a 0, .arr 0 3 1 q.2), (.i 0, .inf true 0)]) 1 (fun q => n.toNat - q.1) (fun q => q.1 ≤ n.toNat ∧ q.2 = ints (placesS l q.1 vars)) (0, []) ⟨Nat.zero_le _, rfl⟩ (by (cbv; repeat' (first | exact True.intro | exact rfl | apply And.intro))) ?_
  rintro ⟨j, q⟩ ⟨hj, hq⟩
  simp only at hj hq
  cbv
  split <;> rename_i h <;> (try simp only [h]) <;> (try cbv) <;> (try simp only [ncast] at *)
  · have hlt : j < n.toNat := by subst hM; simp at h; omega
    have step : ∀ x : Int, x = placeS l vars j → M .app q [[I x]] = ints (placesS l (j + 1) vars) := fun x hx => by
      subst hM
      rw [real_app, hq, hx, places_eq, places_eq, range_map_succ, ← ints_app]; rfl
    have few : ∀ x : PV, (M .app q [[x]]).length ≤ 2147483648 := fun x => by
      subst hM
      simp [hq, placesS]; omega
    split <;> rename_i h <;> (try simp only [h]) <;> (try cbv) <;> (try simp only [ncast] at *)
    · have h1 : j < l.length := by subst hM; simpa [hl] using h
      refine nidx_u8s hl h1 fun v hv => ?_
      have hbv := hb v (hv ▸ getD_mem 0 h1)
      have e1 : M .conv .i64 v = v := by subst hM; exact wrap_i64 (by omega) (by omega)
      cbv
      refine .mk (by omega) ?_
      cbv
      refine .mk (few _) ?_
      cbv
      refine ⟨⟨j + 1, _⟩, ⟨hlt, step _ ?_⟩, ?_, by (cbv; repeat' (first | exact True.intro | exact rfl | apply And.intro)) <;> (subst hM; rw [succ_i64 (by omega)])⟩
      · rw [e1, placeS, if_pos h1, ← hv]; subst hM; rfl
      · simp only; omega
    · have h1 : ¬ j < l.length := by subst hM; simp [hl] at h; omega
      refine .mk (by omega) ?_
      cbv
      refine .mk (few _) ?_
      cbv
      refine ⟨⟨j + 1, _⟩, ⟨hlt, step _ ?_⟩, ?_, by (cbv; repeat' (first | exact True.intro | exact rfl | apply And.intro)) <;> (subst hM; rw [succ_i64 (by omega)])⟩
      · rw [placeS, if_neg h1]; subst hM; rfl
      · simp only; omega
  · have hj2 : j = n.toNat := by subst hM; simp at h; omega
    subst hj2
    exact ⟨hq.trans hr.symm, trivial⟩

theorem nums_eq (l : List Int) (f n : Nat) (least wide : Int) : numsS l f n least wide = (List.range n).map fun i => numS l least wide (f + i) := rfl
theorem c_nums (rl : List (List PV)) (l : List Int) (f n least wide : Int) (hl : rl = i8s l) (hb : ∀ v ∈ l, -128 ≤ v ∧ v ≤ 127) (hll : l.length ≤ 9223372036854775807) (hf : 0 ≤ f ∧ f ≤ 1000000) (hn : n ≤ 1000000) (hv : 1 ≤ wide ∧ wide ≤ 100)
    (r : List (List PV)) (hr : r = ints (numsS l f.toNat n.toNat least wide)) : Call .plain 13 [.list 1 rl, I f, I n, I least, I wide] (.list 1 r) := by
  refine call_of Proofs.Tryz.func13 Proofs.Tryz.call13 rfl rfl fun M C hM hC => ?_
  cbv
  refine Loop.over (Nat × List (List PV)) (fun q => [(.t 12, I q.1), (.t 11, .own 0 0), (.a 0, .arr 0 3 1 q.2), (.i 0, .inf true 0)]) 1 (fun q => n.toNat - q.1) (fun q => q.1 ≤ n.toNat ∧ q.2 = ints (numsS l f.toNat q.1 least wide)) (0, []) ⟨Nat.zero_le _, rfl⟩ (by (cbv; repeat' (first | exact True.intro | exact rfl | apply And.intro))) ?_
  rintro ⟨j, q⟩ ⟨hj, hq⟩
  simp only at hj hq
  cbv
  split <;> rename_i h <;> (try simp only [h]) <;> (try cbv) <;> (try simp only [ncast] at *)
  · have hlt : j < n.toNat := by subst hM; simp at h; omega
    have e0 : M .arith .add .i64 f (Int.ofNat j) = Int.ofNat (f.toNat + j) := by
      subst hM
      show IntKind.i64.wrap (f + (j : Int)) = ((f.toNat + j : Nat) : Int)
      rw [wrap_i64 (by omega) (by omega)]; omega
    have step : ∀ x : Int, x = numS l least wide (f.toNat + j) → M .app q [[I x]] = ints (numsS l f.toNat (j + 1) least wide) := fun x hx => by
      subst hM
      rw [real_app, hq, hx, nums_eq, nums_eq, range_map_succ, ← ints_app]; rfl
    have few : ∀ x : PV, (M .app q [[x]]).length ≤ 2147483648 := fun x => by
      subst hM
      simp [hq, numsS]; omega
    have fin : ∀ v x : Int, v = (if f.toNat + j < l.length then l.getD (f.toNat + j) 0 else 1) → x = (if v.tmod wide < 0 ∧ least ≥ 0 then -(v.tmod wide) else v.tmod wide) → x = numS l least wide (f.toNat + j) := fun v x h1 h2 => by
      rw [h2, h1]; rfl
    have tw : ∀ v : Int, -100 < v.tmod wide ∧ v.tmod wide < 100 := fun v => by
      have := tmod_le v (b := wide) (by omega)
      omega
    split <;> rename_i h <;> (try simp only [h]) <;> (try cbv) <;> (try simp only [ncast] at *)
    · have h1 : f.toNat + j < l.length := by
        subst hM
        rw [real_lss, show Real .arith .add .i64 f _ = _ from e0] at h
        simp [hl] at h; omega
      rw [show M .arith .add .i64 f _ = _ from e0]
      refine nidx_i8s hl h1 fun v hv => ?_
      have hbv := hb v (hv ▸ getD_mem 0 h1)
      have e1 : M .conv .i64 v = v := by subst hM; exact wrap_i64 (by omega) (by omega)
      have fin := fun x => fin v x (by rw [if_pos h1]; exact hv)
      clear e0 h hv
      cbv
      generalize hu : M .conv .i64 v = u at e1
      subst e1
      clear hu
      have tw := tw u
      have e2 : M .arith .rem .i64 u wide = Int.tmod u wide := by subst hM; rfl
      refine .mk (by omega) ?_
      cbv
      split <;> rename_i h <;> (try simp only [h]) <;> (try cbv) <;> (try simp only [ncast] at *)
      · have h2 : Int.tmod u wide < 0 := by subst hM; simpa using h
        split <;> rename_i h <;> (try simp only [h]) <;> (try cbv) <;> (try simp only [ncast] at *)
        · have h3 : least ≥ 0 := by subst hM; simpa using h
          refine .mk (few _) ?_
          cbv
          refine ⟨⟨j + 1, _⟩, ⟨hlt, step _ (fin _ ?_)⟩, ?_, by (cbv; repeat' (first | exact True.intro | exact rfl | apply And.intro)) <;> (subst hM; rw [succ_i64 (by omega)])⟩
          · rw [if_pos ⟨h2, h3⟩, show M .arith .rem .i64 u wide = _ from e2]
            subst hM
            show IntKind.i64.wrap (0 - Int.tmod u wide) = _
            rw [wrap_i64 (by omega) (by omega)]; omega
          · simp only; omega
        · have h3 : ¬ least ≥ 0 := by subst hM; simp at h; omega
          refine .mk (few _) ?_
          cbv
          refine ⟨⟨j + 1, _⟩, ⟨hlt, step _ (fin _ ?_)⟩, ?_, by (cbv; repeat' (first | exact True.intro | exact rfl | apply And.intro)) <;> (subst hM; rw [succ_i64 (by omega)])⟩
          · rw [if_neg (fun h => h3 h.2)]; exact e2
          · simp only; omega
      · have h2 : ¬ Int.tmod u wide < 0 := by subst hM; simpa using h
        refine .mk (few _) ?_
        cbv
        refine ⟨⟨j + 1, _⟩, ⟨hlt, step _ (fin _ ?_)⟩, ?_, by (cbv; repeat' (first | exact True.intro | exact rfl | apply And.intro)) <;> (subst hM; rw [succ_i64 (by omega)])⟩
        · rw [if_neg (fun h => h2 h.1)]; exact e2
        · simp only; omega
    · have h1 : ¬ f.toNat + j < l.length := by
        subst hM
        rw [real_lss, show Real .arith .add .i64 f _ = _ from e0] at h
        simp [hl] at h; omega
      have fin := fun x => fin 1 x (by rw [if_neg h1])
      clear e0 h
      have tw := tw 1
      have e2 : M .arith .rem .i64 1 wide = Int.tmod 1 wide := by subst hM; rfl
      cbv
      refine .mk (by omega) ?_
      cbv
      split <;> rename_i h <;> (try simp only [h]) <;> (try cbv) <;> (try simp only [ncast] at *)
      · have h2 : Int.tmod 1 wide < 0 := by subst hM; simpa using h
        split <;> rename_i h <;> (try simp only [h]) <;> (try cbv) <;> (try simp only [ncast] at *)
        · have h3 : least ≥ 0 := by subst hM; simpa using h
          refine .mk (few _) ?_
          cbv
          refine ⟨⟨j + 1, _⟩, ⟨hlt, step _ (fin _ ?_)⟩, ?_, by (cbv; repeat' (first | exact True.intro | exact rfl | apply And.intro)) <;> (subst hM; rw [succ_i64 (by omega)])⟩
          · rw [if_pos ⟨h2, h3⟩, show M .arith .rem .i64 1 wide = _ from e2]
            subst hM
            show IntKind.i64.wrap (0 - Int.tmod 1 wide) = _
            rw [wrap_i64 (by omega) (by omega)]; omega
          · simp only; omega
        · have h3 : ¬ least ≥ 0 := by subst hM; simp at h; omega
          refine .mk (few _) ?_
          cbv
          refine ⟨⟨j + 1, _⟩, ⟨hlt, step _ (fin _ ?_)⟩, ?_, by (cbv; repeat' (first | exact True.intro | exact rfl | apply And.intro)) <;> (subst hM; rw [succ_i64 (by omega)])⟩
          · rw [if_neg (fun h => h3 h.2)]; exact e2
          · simp only; omega
      · have h2 : ¬ Int.tmod 1 wide < 0 := by subst hM; simpa using h
        refine .mk (few _) ?_
        cbv
        refine ⟨⟨j + 1, _⟩, ⟨hlt, step _ (fin _ ?_)⟩, ?_, by (cbv; repeat' (first | exact True.intro | exact rfl | apply And.intro)) <;> (subst hM; rw [succ_i64 (by omega)])⟩
        · rw [if_neg (fun h => h2 h.1)]; exact e2
        · simp only; omega
  · have hj2 : j = n.toNat := by subst hM; simp at h; omega
    subst hj2
    exact ⟨hq.trans hr.symm, trivial⟩

theorem shapes_get {k : Int} (h : 1 ≤ k ∧ k ≤ 23) : shapesPV[k.toNat]? = some [Str (bs (shapeS k))] := by
  have hl : k.toNat < shapeTab.length := by have : shapeTab.length = 24 := rfl; omega
  unfold shapesPV shapeS
  rw [if_pos h, List.getElem?_map, List.getD_eq_getElem?_getD, List.getElem?_eq_getElem hl]
  rfl
