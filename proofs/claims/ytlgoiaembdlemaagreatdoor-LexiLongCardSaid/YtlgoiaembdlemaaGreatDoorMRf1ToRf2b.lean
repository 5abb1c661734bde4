/- Package jigsawref06's lists. -/
import Derived.Test.YtlgoiaembdlemaaGreatDoorEnv
import Derived.Test.YtlgoiaembdlemaaGreatDoorPic
set_option linter.unusedSimpArgs false
set_option linter.unusedVariables false

/- Package jigsawref06's lists. -/
namespace Go.Pi
open Go
set_option linter.unusedVariables false

theorem sat_bs {l : List UInt8} {j : Nat} (h : j < l.length) : Real .sat (bs l) (Int.ofNat j) = ((l.getD j 0).toNat : Int) := by
  show (match (bs l)[(Int.ofNat j).toNat]? with | some b => (b.toNat : Int) | none => 0) = _
  have e : (bs l)[(Int.ofNat j).toNat]? = some (l.getD j 0) := by
    show (bs l)[j]? = _
    have hj : j < (bs l).size := h
    rw [getElem?_pos (bs l) j hj]
    congr 1
    have e2 : l.getD j 0 = l[j] := by rw [List.getD_eq_getElem?_getD, List.getElem?_eq_getElem h]; rfl
    rw [e2]
    rfl
  rw [e]
theorem slen_bs (l : List UInt8) : Real .slen (bs l) = l.length := rfl
theorem count_succ {l : List UInt8} {j : Nat} (c : UInt8) (h : j < l.length) : (l.take (j + 1)).count c = (l.take j).count c + if l.getD j 0 = c then 1 else 0 := by
  rw [take_succ_getD 0 h, List.count_append]
  simp [List.count_cons]

theorem c_has (l : List UInt8) (w : ByteArray) (hw : w = bs l) (ch : UInt8) (cc : Int) (hc : cc = (ch.toNat : Int)) (h64 : l.length ≤ 1000000) (y : Int) (hy : y = (hasS l ch : Int)) : Call .plain 90 [Str w, U8 cc] (I y) := by
  refine call_of Proofs.Tryz.func90 Proofs.Tryz.call90 rfl rfl fun M C hM hC => ?_
  have sz : w.size = l.length := by rw [hw]; rfl
  cbv
  refine Loop.over (Nat × Int) (fun q => [(.t 6, I q.1), (.t 5, I q.2)]) 0 (fun q => l.length - q.1) (fun q => q.1 ≤ l.length ∧ q.2 = ((l.take q.1).count ch : Int)) (0, 0) ⟨Nat.zero_le _, by simp⟩ (by (cbv; repeat' (first | exact True.intro | exact rfl | apply And.intro))) ?_
  rintro ⟨j, n⟩ ⟨hj, hn⟩
  simp only at hj hn
  cbv
  split <;> rename_i h <;> (try simp only [h]) <;> (try cbv) <;> (try simp only [ncast] at *)
  · have hlt : j < l.length := by
      subst hM
      have h := of_decide_eq_true h
      rw [hw] at h
      exact Int.ofNat_lt.1 h
    refine .mk ⟨Int.natCast_nonneg j, by show (j : Int) < (w.size : Int); omega⟩ ?_
    have es : M .sat w (Int.ofNat j) = ((l.getD j 0).toNat : Int) := by subst hM; rw [hw]; exact sat_bs hlt
    have ec := count_succ ch hlt
    have el : (l.take j).count ch ≤ j := Nat.le_trans List.count_le_length (by simp; omega)
    cbv
    split <;> rename_i h <;> (try simp only [h]) <;> (try cbv) <;> (try simp only [ncast] at *)
    · have h1 : l.getD j 0 = ch := by
        subst hM
        rw [real_eql, es, hc] at h
        have h2 : (l.getD j 0).toNat = ch.toNat := by
          have h := eq_of_beq h
          omega
        exact UInt8.toNat_inj.1 h2
      rw [if_pos h1] at ec
      refine ⟨⟨j + 1, _⟩, ⟨hlt, ?_⟩, ?_, by (cbv; repeat' (first | exact True.intro | exact rfl | apply And.intro)) <;> (subst hM; rw [succ_i64 (by omega)])⟩
      · subst hM
        simp only [real_add]
        rw [wrap_i64 (by omega) (by omega), ec, hn]; simp
      · simp only; omega
    · have h1 : ¬ l.getD j 0 = ch := by
        intro e
        subst hM
        rw [real_eql, es, hc, e] at h
        simp at h
      rw [if_neg h1] at ec
      refine ⟨⟨j + 1, _⟩, ⟨hlt, ?_⟩, ?_, by (cbv; repeat' (first | exact True.intro | exact rfl | apply And.intro)) <;> (subst hM; rw [succ_i64 (by omega)])⟩
      · rw [ec, hn]; simp
      · simp only; omega
  · have hj2 : j = l.length := by
      subst hM
      have h := of_decide_eq_false h
      rw [hw] at h
      have h : ¬ (j : Int) < (l.length : Int) := h
      omega
    subst hj2
    rw [List.take_length] at hn
    rw [hy, hn]; rfl

def shapesPV : List (List PV) := shapeTab.map fun l => [Str (bs l)]
theorem c_shapes (r : List (List PV)) (hr : r = shapesPV) : Call .plain 89 [] (.list 1 r) := by
  refine call_of Proofs.Tryz.func89 Proofs.Tryz.call89 rfl rfl fun M C hM hC => ?_
  cbv
  exact ⟨hr.symm, trivial⟩

theorem tmod_le (a : Int) {b : Int} (hb : 0 < b) : -b < a.tmod b ∧ a.tmod b < b := by
  have h1 := Int.tmod_lt_of_pos a hb
  have h2 := Int.tmod_lt_of_pos (-a) hb
  rw [Int.neg_tmod] at h2
  omega

def placeS (l : List Int) (vars : Int) (i : Nat) : Int := (if i < l.length then l.getD i 0 else (i : Int)).tmod vars
theorem places_eq (l : List Int) (n : Nat) (vars : Int) : placesS l n vars = (List.range n).map (placeS l vars) := rfl
theorem range_map_succ {α : Type} (f : Nat → α) (n : Nat) : (List.range (n + 1)).map f = (List.range n).map f ++ [f n] := by rw [List.range_succ, List.map_append]; rfl

theorem c_places (rl : List (List PV)) (l : List Int) (n vars : Int) (hl : rl = u8s l) (hb : ∀ v ∈ l, 0 ≤ v ∧ v ≤ 255) (hll : l.length ≤ 9223372036854775807) (hn : n ≤ 1000000) (hv : vars ≠ 0)
    (r : List (List PV)) (hr : r = ints (placesS l n.toNat vars)) : Call .plain 91 [.list 1 rl, I n, I vars] (.list 1 r) := by
  refine call_of Proofs.Tryz.func91 Proofs.Tryz.call91 rfl rfl fun M C hM hC => ?_
  cbv
  refine Loop.over (Nat × List (List PV)) (fun q => [(.t 8, I q.1), (.t 7, .own 0 0), (.a 0, .arr 0 3 1 q.2), (.i 0, .inf true 0)]) 1 (fun q => n.toNat - q.1) (fun q => q.1 ≤ n.toNat ∧ q.2 = ints (placesS l q.1 vars)) (0, []) ⟨Nat.zero_le _, rfl⟩ (by (cbv; repeat' (first | exact True.intro | exact rfl | apply And.intro))) ?_
  rintro ⟨j, q⟩ ⟨hj, hq⟩
  simp only at hj hq
  cbv
  split <;> rename_i h <;> (try simp only [h]) <;> (try cbv) <;> (try simp only [ncast] at *)
  · have hlt : j < n.toNat := by subst hM; simp at h; omega
    have step : ∀ x : Int, x = placeS l vars j → M .app q [[I x]] = ints (placesS l (j + 1) vars) := fun x hx => by
      subst hM
      rw [real_app, hq, hx, places_eq, places_eq, range_map_succ, ← ints_app]; rfl
    have few : ∀ x : PV, (M .app q [[x]]).length ≤ 2147483648 := fun x => by
      subst hM
      simp [hq, placesS]; omega
    split <;> rename_i h <;> (try simp only [h]) <;> (try cbv) <;> (try simp only [ncast] at *)
    · have h1 : j < l.length := by subst hM; simpa [hl] using h
      refine nidx_u8s hl h1 fun v hv => ?_
      have hbv := hb v (hv ▸ getD_mem 0 h1)
      have e1 : M .conv .i64 v = v := by subst hM; exact wrap_i64 (by omega) (by omega)
      cbv
      refine .mk (by omega) ?_
      cbv
      refine .mk (few _) ?_
      cbv
      refine ⟨⟨j + 1, _⟩, ⟨hlt, step _ ?_⟩, ?_, by (cbv; repeat' (first | exact True.intro | exact rfl | apply And.intro)) <;> (subst hM; rw [succ_i64 (by omega)])⟩
      · rw [e1, placeS, if_pos h1, ← hv]; subst hM; rfl
      · simp only; omega
    · have h1 : ¬ j < l.length := by subst hM; simp [hl] at h; omega
      refine .mk (by omega) ?_
      cbv
      refine .mk (few _) ?_
      cbv
      refine ⟨⟨j + 1, _⟩, ⟨hlt, step _ ?_⟩, ?_, by (cbv; repeat' (first | exact True.intro | exact rfl | apply And.intro)) <;> (subst hM; rw [succ_i64 (by omega)])⟩
      · rw [placeS, if_neg h1]; subst hM; rfl
      · simp only; omega
  · have hj2 : j = n.toNat := by subst hM; simp at h; omega
    subst hj2
    exact ⟨hq.trans hr.symm, trivial⟩

theorem nums_eq (l : List Int) (f n : Nat) (least wide : Int) : numsS l f n least wide = (List.range n).map fun i => numS l least wide (f + i) := rfl
theorem c_nums (rl : List (List PV)) (l : List Int) (f n least wide : Int) (hl : rl = i8s l) (hb : ∀ v ∈ l, -128 ≤ v ∧ v ≤ 127) (hll : l.length ≤ 9223372036854775807) (hf : 0 ≤ f ∧ f ≤ 1000000) (hn : n ≤ 1000000) (hv : 1 ≤ wide ∧ wide ≤ 100)
    (r : List (List PV)) (hr : r = ints (numsS l f.toNat n.toNat least wide)) : Call .plain 92 [.list 1 rl, I f, I n, I least, I wide] (.list 1 r) := by
  refine call_of Proofs.Tryz.func92 Proofs.Tryz.call92 rfl rfl fun M C hM hC => ?_
  cbv
  refine Loop.over (Nat × List (List PV)) (fun q => [(.t 12, I q.1), (.t 11, .own 0 0), (.a 0, .arr 0 3 1 q.2), (.i 0, .inf true 0)]) 1 (fun q => n.toNat - q.1) (fun q => q.1 ≤ n.toNat ∧ q.2 = ints (numsS l f.toNat q.1 least wide)) (0, []) ⟨Nat.zero_le _, rfl⟩ (by (cbv; repeat' (first | exact True.intro | exact rfl | apply And.intro))) ?_
  rintro ⟨j, q⟩ ⟨hj, hq⟩
  simp only at hj hq
  cbv
  split <;> rename_i h <;> (try simp only [h]) <;> (try cbv) <;> (try simp only [ncast] at *)
  · have hlt : j < n.toNat := by subst hM; simp at h; omega
    have e0 : M .arith .add .i64 f (Int.ofNat j) = Int.ofNat (f.toNat + j) := by
      subst hM
      show IntKind.i64.wrap (f + (j : Int)) = ((f.toNat + j : Nat) : Int)
      rw [wrap_i64 (by omega) (by omega)]; omega
    have step : ∀ x : Int, x = numS l least wide (f.toNat + j) → M .app q [[I x]] = ints (numsS l f.toNat (j + 1) least wide) := fun x hx => by
      subst hM
      rw [real_app, hq, hx, nums_eq, nums_eq, range_map_succ, ← ints_app]; rfl
    have few : ∀ x : PV, (M .app q [[x]]).length ≤ 2147483648 := fun x => by
      subst hM
      simp [hq, numsS]; omega
    have fin : ∀ v x : Int, v = (if f.toNat + j < l.length then l.getD (f.toNat + j) 0 else 1) → x = (if v.tmod wide < 0 ∧ least ≥ 0 then -(v.tmod wide) else v.tmod wide) → x = numS l least wide (f.toNat + j) := fun v x h1 h2 => by
      rw [h2, h1]; rfl
    have tw : ∀ v : Int, -100 < v.tmod wide ∧ v.tmod wide < 100 := fun v => by
      have := tmod_le v (b := wide) (by omega)
      omega
    split <;> rename_i h <;> (try simp only [h]) <;> (try cbv) <;> (try simp only [ncast] at *)
    · have h1 : f.toNat + j < l.length := by
        subst hM
        rw [real_lss, show Real .arith .add .i64 f _ = _ from e0] at h
        simp [hl] at h; omega
      rw [show M .arith .add .i64 f _ = _ from e0]
      refine nidx_i8s hl h1 fun v hv => ?_
      have hbv := hb v (hv ▸ getD_mem 0 h1)
      have e1 : M .conv .i64 v = v := by subst hM; exact wrap_i64 (by omega) (by omega)
      have fin := fun x => fin v x (by rw [if_pos h1]; exact hv)
      clear e0 h hv
      cbv
      generalize hu : M .conv .i64 v = u at e1
      subst e1
      clear hu
      have tw := tw u
      have e2 : M .arith .rem .i64 u wide = Int.tmod u wide := by subst hM; rfl
      refine .mk (by omega) ?_
      cbv
      split <;> rename_i h <;> (try simp only [h]) <;> (try cbv) <;> (try simp only [ncast] at *)
      · have h2 : Int.tmod u wide < 0 := by subst hM; simpa using h
        split <;> rename_i h <;> (try simp only [h]) <;> (try cbv) <;> (try simp only [ncast] at *)
        · have h3 : least ≥ 0 := by subst hM; simpa using h
          refine .mk (few _) ?_
          cbv
          refine ⟨⟨j + 1, _⟩, ⟨hlt, step _ (fin _ ?_)⟩, ?_, by (cbv; repeat' (first | exact True.intro | exact rfl | apply And.intro)) <;> (subst hM; rw [succ_i64 (by omega)])⟩
          · rw [if_pos ⟨h2, h3⟩, show M .arith .rem .i64 u wide = _ from e2]
            subst hM
            show IntKind.i64.wrap (0 - Int.tmod u wide) = _
            rw [wrap_i64 (by omega) (by omega)]; omega
          · simp only; omega
        · have h3 : ¬ least ≥ 0 := by subst hM; simp at h; omega
          refine .mk (few _) ?_
          cbv
          refine ⟨⟨j + 1, _⟩, ⟨hlt, step _ (fin _ ?_)⟩, ?_, by (cbv; repeat' (first | exact True.intro | exact rfl | apply And.intro)) <;> (subst hM; rw [succ_i64 (by omega)])⟩
          · rw [if_neg (fun h => h3 h.2)]; exact e2
          · simp only; omega
      · have h2 : ¬ Int.tmod u wide < 0 := by subst hM; simpa using h
        refine .mk (few _) ?_
        cbv
        refine ⟨⟨j + 1, _⟩, ⟨hlt, step _ (fin _ ?_)⟩, ?_, by (cbv; repeat' (first | exact True.intro | exact rfl | apply And.intro)) <;> (subst hM; rw [succ_i64 (by omega)])⟩
        · rw [if_neg (fun h => h2 h.1)]; exact e2
        · simp only; omega
    · have h1 : ¬ f.toNat + j < l.length := by
        subst hM
        rw [real_lss, show Real .arith .add .i64 f _ = _ from e0] at h
        simp [hl] at h; omega
      have fin := fun x => fin 1 x (by rw [if_neg h1])
      clear e0 h
      have tw := tw 1
      have e2 : M .arith .rem .i64 1 wide = Int.tmod 1 wide := by subst hM; rfl
      cbv
      refine .mk (by omega) ?_
      cbv
      split <;> rename_i h <;> (try simp only [h]) <;> (try cbv) <;> (try simp only [ncast] at *)
      · have h2 : Int.tmod 1 wide < 0 := by subst hM; simpa using h
        split <;> rename_i h <;> (try simp only [h]) <;> (try cbv) <;> (try simp only [ncast] at *)
        · have h3 : least ≥ 0 := by subst hM; simpa using h
          refine .mk (few _) ?_
          cbv
          refine ⟨⟨j + 1, _⟩, ⟨hlt, step _ (fin _ ?_)⟩, ?_, by (cbv; repeat' (first | exact True.intro | exact rfl | apply And.intro)) <;> (subst hM; rw [succ_i64 (by omega)])⟩
          · rw [if_pos ⟨h2, h3⟩, show M .arith .rem .i64 1 wide = _ from e2]
            subst hM
            show IntKind.i64.wrap (0 - Int.tmod 1 wide) = _
            rw [wrap_i64 (by omega) (by omega)]; omega
          · simp only; omega
        · have h3 : ¬ least ≥ 0 := by subst hM; simp at h; omega
          refine .mk (few _) ?_
          cbv
          refine ⟨⟨j + 1, _⟩, ⟨hlt, step _ (fin _ ?_)⟩, ?_, by (cbv; repeat' (first | exact True.intro | exact rfl | apply And.intro)) <;> (subst hM; rw [succ_i64 (by omega)])⟩
          · rw [if_neg (fun h => h3 h.2)]; exact e2
          · simp only; omega
      · have h2 : ¬ Int.tmod 1 wide < 0 := by subst hM; simpa using h
        refine .mk (few _) ?_
        cbv
        refine ⟨⟨j + 1, _⟩, ⟨hlt, step _ (fin _ ?_)⟩, ?_, by (cbv; repeat' (first | exact True.intro | exact rfl | apply And.intro)) <;> (subst hM; rw [succ_i64 (by omega)])⟩
        · rw [if_neg (fun h => h2 h.1)]; exact e2
        · simp only; omega
  · have hj2 : j = n.toNat := by subst hM; simp at h; omega
    subst hj2
    exact ⟨hq.trans hr.symm, trivial⟩

theorem shapes_get {k : Int} (h : 1 ≤ k ∧ k ≤ 23) : shapesPV[k.toNat]? = some [Str (bs (shapeS k))] := by
  have hl : k.toNat < shapeTab.length := by have : shapeTab.length = 24 := rfl; omega
  unfold shapesPV shapeS
  rw [if_pos h, List.getElem?_map, List.getD_eq_getElem?_getD, List.getElem?_eq_getElem hl]
  rfl
end Go.Pi

/- jigsawref06.Make. -/
namespace Go.Pi
open Go
set_option linter.unusedVariables false
set_option linter.unusedSimpArgs false

set_option maxHeartbeats 4000000 in
set_option maxRecDepth 100000 in
theorem c_make1 (z : Small) (zk zK zc : Int) (zA zB zC : List (List PV)) (R : SmallR z zk zA zB zC zK zc) (vars : Int) (hv : 1 ≤ vars ∧ vars ≤ 1000000) (kind K : Int) (rA rB rC rD rE rR : List (List PV)) (H : ConR (makeS z vars) kind rA rB rC rD rE K rR)
    (hk : 1 + z.kind.tmod 23 = 1 ∨ 1 + z.kind.tmod 23 = 2 ∨ 1 + z.kind.tmod 23 = 3) :
    Call .plain 35 [.agg [U8 zk, .list 1 zA, .list 1 zB, .list 1 zC, I16 zK, U8 zc], I vars] (.agg [I kind, .list 1 rA, .list 1 rB, .list 1 rC, .list 1 rD, .list 1 rE, I K, .list 1 rR]) := by
  have hsh : shapeS (1 + z.kind.tmod 23) = [99, 86, 107] := by rcases hk with hk | hk | hk <;> rw [hk] <;> rfl
  have kb := tmod_le z.kind (b := 23) (by decide)
  have kn : 0 ≤ z.kind.tmod 23 := Int.tmod_nonneg _ R.bk.1
  have q11 : ¬ 1 + z.kind.tmod 23 = 11 := by omega
  have q19 : ¬ 1 + z.kind.tmod 23 = 19 := by omega
  have q21 : ¬ 1 + z.kind.tmod 23 = 21 := by omega
  have q18 : ¬ 1 + z.kind.tmod 23 = 18 := by omega
  have h118 : hasS [99, 86, 107] 118 = 0 := by decide
  have h119 : hasS [99, 86, 107] 119 = 0 := by decide
  have h87 : hasS [99, 86, 107] 87 = 0 := by decide
  have h99 : hasS [99, 86, 107] 99 = 1 := by decide
  have h107 : hasS [99, 86, 107] 107 = 1 := by decide
  have mk : makeS z vars = { kind := 1 + z.kind.tmod 23, A := placesS z.A (nS0 z) vars, B := [], C := numsS z.C 0 (nS0 z) (-1) 5, D := [], E := [], K := z.K.tmod 12, R := [] } := by
    have hshk : shapeS 1 = [99, 86, 107] := rfl
    simp [makeS, hsh, hshk, nS, q11, q19, q21, q18, h118, h119, h87, h99, h107]
  clear h118 h119 h87 h99 h107 q11 q19 q21 q18
  rw [mk] at H
  clear mk
  have keq : ∀ M : Mach, M = Real → M .arith .rem .i64 (M .conv .i64 zK) 12 = z.K.tmod 12 := fun M hM => by
    subst hM
    have := R.bK
    show (IntKind.i64.wrap zK).tmod 12 = _
    rw [R.K, wrap_i64 (x := z.K) (by omega) (by omega)]
  refine call_of Proofs.Tryz.func35 Proofs.Tryz.call35 rfl rfl fun M C hM hC => ?_
  have G0 : M .cmp .gtr 0 0 = false := by subst hM; rfl
  have G1 : M .cmp .gtr 1 0 = true := by subst hM; rfl
  have G2 : M .cmp .gtr 2 0 = true := by subst hM; rfl
  have G3 : M .cmp .gtr 3 0 = true := by subst hM; rfl
  have ek : M .arith .add .i64 1 (M .arith .rem .i64 (M .conv .i64 zk) 23) = 1 + z.kind.tmod 23 := by
    subst hM
    have := R.bk
    show IntKind.i64.wrap (1 + (IntKind.i64.wrap zk).tmod 23) = _
    rw [R.kind, wrap_i64 (x := z.kind) (by omega) (by omega), wrap_i64 (by omega) (by omega)]
  cbv
  generalize hkd : M .arith .add .i64 1 (M .arith .rem .i64 (M .conv .i64 zk) 23) = kd at ek
  clear hkd
  have E11 : M .cmp .eql kd 11 = false := by subst hM; rw [real_eql]; simp; omega
  have E19 : M .cmp .eql kd 19 = false := by subst hM; rw [real_eql]; simp; omega
  have E21 : M .cmp .eql kd 21 = false := by subst hM; rw [real_eql]; simp; omega
  have E18 : M .cmp .eql kd 18 = false := by subst hM; rw [real_eql]; simp; omega
  refine .mk (by decide) (callL hC (c_shapes _ rfl) fun sh hsh2 => ?_)
  cbv
  obtain ⟨w, hw⟩ : ∃ w, w = bs (shapeS kd) := ⟨_, rfl⟩
  refine .mk [Str w] (by omega) (by rw [hsh2, hw]; exact shapes_get (by omega)) ?_
  have hw : w = bs [99, 86, 107] := by rw [hw, ek, hsh]
  have lenA : (Int.ofNat (M .len zA)) = (z.A.length : Int) := by subst hM; rw [R.A]; show ((u8s z.A).length : Int) = _; simp
  have lenC : (Int.ofNat (M .len zC)) = (z.C.length : Int) := by subst hM; rw [R.C]; show ((i8s z.C).length : Int) = _; simp
  have ch : ∀ (ch : UInt8) (cc y : Int), cc = (ch.toNat : Int) → y = (hasS [99, 86, 107] ch : Int) → C .plain 90 [Str w, U8 cc] (I y) := fun ch cc y h1 h2 => use_call hC (c_has _ w hw ch cc h1 (by decide) y h2)
  have cp : ∀ (n : Int) (rl : List (List PV)) (l : List Int), rl = u8s l → (∀ v ∈ l, 0 ≤ v ∧ v ≤ 255) → l.length ≤ 9223372036854775807 → n ≤ 1000000 → CallIn prog Amb .plain 91 [.list 1 rl, I n, I vars] (.list 1 (ints (placesS l n.toNat vars))) := fun n rl l h1 h2 h3 h4 => c_places rl l n vars h1 h2 h3 h4 (by omega) _ rfl
  have cn : ∀ (f n least wide : Int), 0 ≤ f ∧ f ≤ 1000000 → n ≤ 1000000 → 1 ≤ wide ∧ wide ≤ 100 → CallIn prog Amb .plain 92 [.list 1 zC, I f, I n, I least, I wide] (.list 1 (ints (numsS z.C f.toNat n.toNat least wide))) := fun f n least wide h1 h2 h3 => c_nums zC z.C f n least wide R.C R.bC R.lC h1 h2 h3 _ rfl
  have n3 : (M .cmp .lss (Int.ofNat (M .len zA)) 1 = true ∧ M .cmp .gtr 1 4 = false ∧ Int.toNat 1 = nS0 z ∧ (0 : Int) ≤ 1 ∧ (1 : Int) ≤ 4) ∨ (M .cmp .lss (Int.ofNat (M .len zA)) 1 = false ∧ M .cmp .gtr (Int.ofNat (M .len zA)) 4 = true ∧ Int.toNat 4 = nS0 z ∧ (0 : Int) ≤ 4 ∧ (4 : Int) ≤ 4) ∨ (M .cmp .lss (Int.ofNat (M .len zA)) 1 = false ∧ M .cmp .gtr (Int.ofNat (M .len zA)) 4 = false ∧ (Int.ofNat (M .len zA)).toNat = nS0 z ∧ 0 ≤ Int.ofNat (M .len zA) ∧ Int.ofNat (M .len zA) ≤ 4) := by
    rw [lenA]
    rcases Nat.lt_or_ge z.A.length 1 with h1 | h1
    · exact .inl ⟨by subst hM; rw [real_lss]; simp; omega, by subst hM; rfl, by rw [nS0, if_pos h1]; rfl, by decide, by decide⟩
    · rcases Nat.lt_or_ge 4 z.A.length with h2 | h2
      · exact .inr (.inl ⟨by subst hM; rw [real_lss]; simp; omega, by subst hM; rw [real_gtr]; simp; omega, by rw [nS0, if_neg (by omega), if_pos h2]; rfl, by decide, by decide⟩)
      · exact .inr (.inr ⟨by subst hM; rw [real_lss]; simp; omega, by subst hM; rw [real_gtr]; simp; omega, by rw [nS0, if_neg (by omega), if_neg (by omega)]; simp, by omega, by omega⟩)
  clear hw hsh2 hsh kb kn lenA
  cbv
  rcases n3 with ⟨N1, N2, hn0, hn1, hn4⟩ | ⟨N1, N2, hn0, hn1, hn4⟩ | ⟨N1, N2, hn0, hn1, hn4⟩
  all_goals (
    simp only [N1]
    cbv
    simp only [N2]
    cbv
    refine .mk (I 0) (ch 118 118 0 (by decide) (by decide)) ?_
    cbv
    simp only [G0]
    cbv
    refine callL hC (cp _ _ _ R.A R.bA R.lA (by omega)) fun rA1 hA1 => ?_
    cbv
    refine .mk (I 0) (ch 119 119 0 (by decide) (by decide)) ?_
    cbv
    simp only [G0]
    cbv
    refine .mk (I 0) (ch 87 87 0 (by decide) (by decide)) ?_
    cbv
    simp only [G0]
    cbv
    refine .mk (I 1) (ch 99 99 1 (by decide) (by decide)) ?_
    cbv
    simp only [G1]
    cbv
    refine callL hC (cn _ _ _ _ (by omega) (by omega) (by omega)) fun rC1 hC1 => ?_
    cbv
    simp only [E11]
    cbv
    refine .mk (I 1) (ch 107 107 1 (by decide) (by decide)) ?_
    cbv
    simp only [G1]
    cbv
    refine .mk (by decide) ?_
    cbv
    simp only [E19]
    cbv
    simp only [E21]
    cbv
    simp only [E18]
    cbv
    have HA := H.A
    have HB := H.B
    have HC := H.C
    have HD := H.D
    have HE := H.E
    have HR := H.R
    simp only [← hn0] at HA HB HC
    exact ⟨congrArg _ (congrArg _ (ek.trans H.kind.symm)), ⟨hA1.trans HA.symm, trivial⟩, HB, ⟨hC1.trans HC.symm, trivial⟩, HD, HE, congrArg _ (congrArg _ ((keq M hM).trans H.K.symm)), HR, trivial⟩)

set_option maxHeartbeats 4000000 in
set_option maxRecDepth 100000 in
theorem c_make4 (z : Small) (zk zK zc : Int) (zA zB zC : List (List PV)) (R : SmallR z zk zA zB zC zK zc) (vars : Int) (hv : 1 ≤ vars ∧ vars ≤ 1000000) (kind K : Int) (rA rB rC rD rE rR : List (List PV)) (H : ConR (makeS z vars) kind rA rB rC rD rE K rR)
    (hk : 1 + z.kind.tmod 23 = 4) :
    Call .plain 35 [.agg [U8 zk, .list 1 zA, .list 1 zB, .list 1 zC, I16 zK, U8 zc], I vars] (.agg [I kind, .list 1 rA, .list 1 rB, .list 1 rC, .list 1 rD, .list 1 rE, I K, .list 1 rR]) := by
  have hsh : shapeS (1 + z.kind.tmod 23) = [99, 86, 107, 119] := by rcases hk with hk <;> rw [hk] <;> rfl
  have kb := tmod_le z.kind (b := 23) (by decide)
  have kn : 0 ≤ z.kind.tmod 23 := Int.tmod_nonneg _ R.bk.1
  have q11 : ¬ 1 + z.kind.tmod 23 = 11 := by omega
  have q19 : ¬ 1 + z.kind.tmod 23 = 19 := by omega
  have q21 : ¬ 1 + z.kind.tmod 23 = 21 := by omega
  have q18 : ¬ 1 + z.kind.tmod 23 = 18 := by omega
  have h118 : hasS [99, 86, 107, 119] 118 = 0 := by decide
  have h119 : hasS [99, 86, 107, 119] 119 = 1 := by decide
  have h87 : hasS [99, 86, 107, 119] 87 = 0 := by decide
  have h99 : hasS [99, 86, 107, 119] 99 = 1 := by decide
  have h107 : hasS [99, 86, 107, 119] 107 = 1 := by decide
  have mk : makeS z vars = { kind := 1 + z.kind.tmod 23, A := placesS z.A (nS0 z) vars, B := placesS z.B 1 vars, C := numsS z.C 0 (nS0 z) (-1) 5, D := [], E := [], K := z.K.tmod 12, R := [] } := by
    have hshk : shapeS 4 = [99, 86, 107, 119] := rfl
    simp [makeS, hsh, hshk, nS, q11, q19, q21, q18, h118, h119, h87, h99, h107]
  clear h118 h119 h87 h99 h107 q11 q19 q21 q18
  rw [mk] at H
  clear mk
  have keq : ∀ M : Mach, M = Real → M .arith .rem .i64 (M .conv .i64 zK) 12 = z.K.tmod 12 := fun M hM => by
    subst hM
    have := R.bK
    show (IntKind.i64.wrap zK).tmod 12 = _
    rw [R.K, wrap_i64 (x := z.K) (by omega) (by omega)]
  refine call_of Proofs.Tryz.func35 Proofs.Tryz.call35 rfl rfl fun M C hM hC => ?_
  have G0 : M .cmp .gtr 0 0 = false := by subst hM; rfl
  have G1 : M .cmp .gtr 1 0 = true := by subst hM; rfl
  have G2 : M .cmp .gtr 2 0 = true := by subst hM; rfl
  have G3 : M .cmp .gtr 3 0 = true := by subst hM; rfl
  have ek : M .arith .add .i64 1 (M .arith .rem .i64 (M .conv .i64 zk) 23) = 1 + z.kind.tmod 23 := by
    subst hM
    have := R.bk
    show IntKind.i64.wrap (1 + (IntKind.i64.wrap zk).tmod 23) = _
    rw [R.kind, wrap_i64 (x := z.kind) (by omega) (by omega), wrap_i64 (by omega) (by omega)]
  cbv
  generalize hkd : M .arith .add .i64 1 (M .arith .rem .i64 (M .conv .i64 zk) 23) = kd at ek
  clear hkd
  have E11 : M .cmp .eql kd 11 = false := by subst hM; rw [real_eql]; simp; omega
  have E19 : M .cmp .eql kd 19 = false := by subst hM; rw [real_eql]; simp; omega
  have E21 : M .cmp .eql kd 21 = false := by subst hM; rw [real_eql]; simp; omega
  have E18 : M .cmp .eql kd 18 = false := by subst hM; rw [real_eql]; simp; omega
  refine .mk (by decide) (callL hC (c_shapes _ rfl) fun sh hsh2 => ?_)
  cbv
  obtain ⟨w, hw⟩ : ∃ w, w = bs (shapeS kd) := ⟨_, rfl⟩
  refine .mk [Str w] (by omega) (by rw [hsh2, hw]; exact shapes_get (by omega)) ?_
  have hw : w = bs [99, 86, 107, 119] := by rw [hw, ek, hsh]
  have lenA : (Int.ofNat (M .len zA)) = (z.A.length : Int) := by subst hM; rw [R.A]; show ((u8s z.A).length : Int) = _; simp
  have lenC : (Int.ofNat (M .len zC)) = (z.C.length : Int) := by subst hM; rw [R.C]; show ((i8s z.C).length : Int) = _; simp
  have ch : ∀ (ch : UInt8) (cc y : Int), cc = (ch.toNat : Int) → y = (hasS [99, 86, 107, 119] ch : Int) → C .plain 90 [Str w, U8 cc] (I y) := fun ch cc y h1 h2 => use_call hC (c_has _ w hw ch cc h1 (by decide) y h2)
  have cp : ∀ (n : Int) (rl : List (List PV)) (l : List Int), rl = u8s l → (∀ v ∈ l, 0 ≤ v ∧ v ≤ 255) → l.length ≤ 9223372036854775807 → n ≤ 1000000 → CallIn prog Amb .plain 91 [.list 1 rl, I n, I vars] (.list 1 (ints (placesS l n.toNat vars))) := fun n rl l h1 h2 h3 h4 => c_places rl l n vars h1 h2 h3 h4 (by omega) _ rfl
  have cn : ∀ (f n least wide : Int), 0 ≤ f ∧ f ≤ 1000000 → n ≤ 1000000 → 1 ≤ wide ∧ wide ≤ 100 → CallIn prog Amb .plain 92 [.list 1 zC, I f, I n, I least, I wide] (.list 1 (ints (numsS z.C f.toNat n.toNat least wide))) := fun f n least wide h1 h2 h3 => c_nums zC z.C f n least wide R.C R.bC R.lC h1 h2 h3 _ rfl
  have n3 : (M .cmp .lss (Int.ofNat (M .len zA)) 1 = true ∧ M .cmp .gtr 1 4 = false ∧ Int.toNat 1 = nS0 z ∧ (0 : Int) ≤ 1 ∧ (1 : Int) ≤ 4) ∨ (M .cmp .lss (Int.ofNat (M .len zA)) 1 = false ∧ M .cmp .gtr (Int.ofNat (M .len zA)) 4 = true ∧ Int.toNat 4 = nS0 z ∧ (0 : Int) ≤ 4 ∧ (4 : Int) ≤ 4) ∨ (M .cmp .lss (Int.ofNat (M .len zA)) 1 = false ∧ M .cmp .gtr (Int.ofNat (M .len zA)) 4 = false ∧ (Int.ofNat (M .len zA)).toNat = nS0 z ∧ 0 ≤ Int.ofNat (M .len zA) ∧ Int.ofNat (M .len zA) ≤ 4) := by
    rw [lenA]
    rcases Nat.lt_or_ge z.A.length 1 with h1 | h1
    · exact .inl ⟨by subst hM; rw [real_lss]; simp; omega, by subst hM; rfl, by rw [nS0, if_pos h1]; rfl, by decide, by decide⟩
    · rcases Nat.lt_or_ge 4 z.A.length with h2 | h2
      · exact .inr (.inl ⟨by subst hM; rw [real_lss]; simp; omega, by subst hM; rw [real_gtr]; simp; omega, by rw [nS0, if_neg (by omega), if_pos h2]; rfl, by decide, by decide⟩)
      · exact .inr (.inr ⟨by subst hM; rw [real_lss]; simp; omega, by subst hM; rw [real_gtr]; simp; omega, by rw [nS0, if_neg (by omega), if_neg (by omega)]; simp, by omega, by omega⟩)
  clear hw hsh2 hsh kb kn lenA
  cbv
  rcases n3 with ⟨N1, N2, hn0, hn1, hn4⟩ | ⟨N1, N2, hn0, hn1, hn4⟩ | ⟨N1, N2, hn0, hn1, hn4⟩
  all_goals (
    simp only [N1]
    cbv
    simp only [N2]
    cbv
    refine .mk (I 0) (ch 118 118 0 (by decide) (by decide)) ?_
    cbv
    simp only [G0]
    cbv
    refine callL hC (cp _ _ _ R.A R.bA R.lA (by omega)) fun rA1 hA1 => ?_
    cbv
    refine .mk (I 1) (ch 119 119 1 (by decide) (by decide)) ?_
    cbv
    simp only [G1]
    cbv
    refine callL hC (cp _ _ _ R.B R.bB R.lB (by omega)) fun rB1 hB1 => ?_
    cbv
    refine .mk (I 0) (ch 87 87 0 (by decide) (by decide)) ?_
    cbv
    simp only [G0]
    cbv
    refine .mk (I 1) (ch 99 99 1 (by decide) (by decide)) ?_
    cbv
    simp only [G1]
    cbv
    refine callL hC (cn _ _ _ _ (by omega) (by omega) (by omega)) fun rC1 hC1 => ?_
    cbv
    simp only [E11]
    cbv
    refine .mk (I 1) (ch 107 107 1 (by decide) (by decide)) ?_
    cbv
    simp only [G1]
    cbv
    refine .mk (by decide) ?_
    cbv
    simp only [E19]
    cbv
    simp only [E21]
    cbv
    simp only [E18]
    cbv
    have HA := H.A
    have HB := H.B
    have HC := H.C
    have HD := H.D
    have HE := H.E
    have HR := H.R
    simp only [← hn0] at HA HB HC
    exact ⟨congrArg _ (congrArg _ (ek.trans H.kind.symm)), ⟨hA1.trans HA.symm, trivial⟩, ⟨hB1.trans HB.symm, trivial⟩, ⟨hC1.trans HC.symm, trivial⟩, HD, HE, congrArg _ (congrArg _ ((keq M hM).trans H.K.symm)), HR, trivial⟩)

set_option maxHeartbeats 4000000 in
set_option maxRecDepth 100000 in
theorem c_make5 (z : Small) (zk zK zc : Int) (zA zB zC : List (List PV)) (R : SmallR z zk zA zB zC zK zc) (vars : Int) (hv : 1 ≤ vars ∧ vars ≤ 1000000) (kind K : Int) (rA rB rC rD rE rR : List (List PV)) (H : ConR (makeS z vars) kind rA rB rC rD rE K rR)
    (hk : 1 + z.kind.tmod 23 = 5 ∨ 1 + z.kind.tmod 23 = 6 ∨ 1 + z.kind.tmod 23 = 7 ∨ 1 + z.kind.tmod 23 = 9 ∨ 1 + z.kind.tmod 23 = 10) :
    Call .plain 35 [.agg [U8 zk, .list 1 zA, .list 1 zB, .list 1 zC, I16 zK, U8 zc], I vars] (.agg [I kind, .list 1 rA, .list 1 rB, .list 1 rC, .list 1 rD, .list 1 rE, I K, .list 1 rR]) := by
  have hsh : shapeS (1 + z.kind.tmod 23) = [118, 118, 118] := by rcases hk with hk | hk | hk | hk | hk <;> rw [hk] <;> rfl
  have kb := tmod_le z.kind (b := 23) (by decide)
  have kn : 0 ≤ z.kind.tmod 23 := Int.tmod_nonneg _ R.bk.1
  have q11 : ¬ 1 + z.kind.tmod 23 = 11 := by omega
  have q19 : ¬ 1 + z.kind.tmod 23 = 19 := by omega
  have q21 : ¬ 1 + z.kind.tmod 23 = 21 := by omega
  have q18 : ¬ 1 + z.kind.tmod 23 = 18 := by omega
  have h118 : hasS [118, 118, 118] 118 = 3 := by decide
  have h119 : hasS [118, 118, 118] 119 = 0 := by decide
  have h87 : hasS [118, 118, 118] 87 = 0 := by decide
  have h99 : hasS [118, 118, 118] 99 = 0 := by decide
  have h107 : hasS [118, 118, 118] 107 = 0 := by decide
  have mk : makeS z vars = { kind := 1 + z.kind.tmod 23, A := placesS z.A (3) vars, B := [], C := [], D := [], E := [], K := 0, R := [] } := by
    have hshk : shapeS 5 = [118, 118, 118] := rfl
    simp [makeS, hsh, hshk, nS, q11, q19, q21, q18, h118, h119, h87, h99, h107]
  clear h118 h119 h87 h99 h107 q11 q19 q21 q18
  rw [mk] at H
  clear mk
  have keq : ∀ M : Mach, M = Real → M .arith .rem .i64 (M .conv .i64 zK) 12 = z.K.tmod 12 := fun M hM => by
    subst hM
    have := R.bK
    show (IntKind.i64.wrap zK).tmod 12 = _
    rw [R.K, wrap_i64 (x := z.K) (by omega) (by omega)]
  refine call_of Proofs.Tryz.func35 Proofs.Tryz.call35 rfl rfl fun M C hM hC => ?_
  have G0 : M .cmp .gtr 0 0 = false := by subst hM; rfl
  have G1 : M .cmp .gtr 1 0 = true := by subst hM; rfl
  have G2 : M .cmp .gtr 2 0 = true := by subst hM; rfl
  have G3 : M .cmp .gtr 3 0 = true := by subst hM; rfl
  have ek : M .arith .add .i64 1 (M .arith .rem .i64 (M .conv .i64 zk) 23) = 1 + z.kind.tmod 23 := by
    subst hM
    have := R.bk
    show IntKind.i64.wrap (1 + (IntKind.i64.wrap zk).tmod 23) = _
    rw [R.kind, wrap_i64 (x := z.kind) (by omega) (by omega), wrap_i64 (by omega) (by omega)]
  cbv
  generalize hkd : M .arith .add .i64 1 (M .arith .rem .i64 (M .conv .i64 zk) 23) = kd at ek
  clear hkd
  have E11 : M .cmp .eql kd 11 = false := by subst hM; rw [real_eql]; simp; omega
  have E19 : M .cmp .eql kd 19 = false := by subst hM; rw [real_eql]; simp; omega
  have E21 : M .cmp .eql kd 21 = false := by subst hM; rw [real_eql]; simp; omega
  have E18 : M .cmp .eql kd 18 = false := by subst hM; rw [real_eql]; simp; omega
  refine .mk (by decide) (callL hC (c_shapes _ rfl) fun sh hsh2 => ?_)
  cbv
  obtain ⟨w, hw⟩ : ∃ w, w = bs (shapeS kd) := ⟨_, rfl⟩
  refine .mk [Str w] (by omega) (by rw [hsh2, hw]; exact shapes_get (by omega)) ?_
  have hw : w = bs [118, 118, 118] := by rw [hw, ek, hsh]
  have lenA : (Int.ofNat (M .len zA)) = (z.A.length : Int) := by subst hM; rw [R.A]; show ((u8s z.A).length : Int) = _; simp
  have lenC : (Int.ofNat (M .len zC)) = (z.C.length : Int) := by subst hM; rw [R.C]; show ((i8s z.C).length : Int) = _; simp
  have ch : ∀ (ch : UInt8) (cc y : Int), cc = (ch.toNat : Int) → y = (hasS [118, 118, 118] ch : Int) → C .plain 90 [Str w, U8 cc] (I y) := fun ch cc y h1 h2 => use_call hC (c_has _ w hw ch cc h1 (by decide) y h2)
  have cp : ∀ (n : Int) (rl : List (List PV)) (l : List Int), rl = u8s l → (∀ v ∈ l, 0 ≤ v ∧ v ≤ 255) → l.length ≤ 9223372036854775807 → n ≤ 1000000 → CallIn prog Amb .plain 91 [.list 1 rl, I n, I vars] (.list 1 (ints (placesS l n.toNat vars))) := fun n rl l h1 h2 h3 h4 => c_places rl l n vars h1 h2 h3 h4 (by omega) _ rfl
  have cn : ∀ (f n least wide : Int), 0 ≤ f ∧ f ≤ 1000000 → n ≤ 1000000 → 1 ≤ wide ∧ wide ≤ 100 → CallIn prog Amb .plain 92 [.list 1 zC, I f, I n, I least, I wide] (.list 1 (ints (numsS z.C f.toNat n.toNat least wide))) := fun f n least wide h1 h2 h3 => c_nums zC z.C f n least wide R.C R.bC R.lC h1 h2 h3 _ rfl
  have n3 : (M .cmp .lss (Int.ofNat (M .len zA)) 1 = true ∧ M .cmp .gtr 1 4 = false ∧ Int.toNat 1 = nS0 z ∧ (0 : Int) ≤ 1 ∧ (1 : Int) ≤ 4) ∨ (M .cmp .lss (Int.ofNat (M .len zA)) 1 = false ∧ M .cmp .gtr (Int.ofNat (M .len zA)) 4 = true ∧ Int.toNat 4 = nS0 z ∧ (0 : Int) ≤ 4 ∧ (4 : Int) ≤ 4) ∨ (M .cmp .lss (Int.ofNat (M .len zA)) 1 = false ∧ M .cmp .gtr (Int.ofNat (M .len zA)) 4 = false ∧ (Int.ofNat (M .len zA)).toNat = nS0 z ∧ 0 ≤ Int.ofNat (M .len zA) ∧ Int.ofNat (M .len zA) ≤ 4) := by
    rw [lenA]
    rcases Nat.lt_or_ge z.A.length 1 with h1 | h1
    · exact .inl ⟨by subst hM; rw [real_lss]; simp; omega, by subst hM; rfl, by rw [nS0, if_pos h1]; rfl, by decide, by decide⟩
    · rcases Nat.lt_or_ge 4 z.A.length with h2 | h2
      · exact .inr (.inl ⟨by subst hM; rw [real_lss]; simp; omega, by subst hM; rw [real_gtr]; simp; omega, by rw [nS0, if_neg (by omega), if_pos h2]; rfl, by decide, by decide⟩)
      · exact .inr (.inr ⟨by subst hM; rw [real_lss]; simp; omega, by subst hM; rw [real_gtr]; simp; omega, by rw [nS0, if_neg (by omega), if_neg (by omega)]; simp, by omega, by omega⟩)
  clear hw hsh2 hsh kb kn lenA
  cbv
  rcases n3 with ⟨N1, N2, hn0, hn1, hn4⟩ | ⟨N1, N2, hn0, hn1, hn4⟩ | ⟨N1, N2, hn0, hn1, hn4⟩
  all_goals (
    simp only [N1]
    cbv
    simp only [N2]
    cbv
    refine .mk (I 3) (ch 118 118 3 (by decide) (by decide)) ?_
    cbv
    simp only [G3]
    cbv
    refine .mk (I 3) (ch 118 118 3 (by decide) (by decide)) ?_
    cbv
    refine callL hC (cp _ _ _ R.A R.bA R.lA (by omega)) fun rA1 hA1 => ?_
    cbv
    refine .mk (I 0) (ch 119 119 0 (by decide) (by decide)) ?_
    cbv
    simp only [G0]
    cbv
    refine .mk (I 0) (ch 87 87 0 (by decide) (by decide)) ?_
    cbv
    simp only [G0]
    cbv
    refine .mk (I 0) (ch 99 99 0 (by decide) (by decide)) ?_
    cbv
    simp only [G0]
    cbv
    simp only [E11]
    cbv
    refine .mk (I 0) (ch 107 107 0 (by decide) (by decide)) ?_
    cbv
    simp only [G0]
    cbv
    simp only [E19]
    cbv
    simp only [E21]
    cbv
    simp only [E18]
    cbv
    have HA := H.A
    have HB := H.B
    have HC := H.C
    have HD := H.D
    have HE := H.E
    have HR := H.R
    exact ⟨congrArg _ (congrArg _ (ek.trans H.kind.symm)), ⟨hA1.trans HA.symm, trivial⟩, HB, HC, HD, HE, congrArg _ (congrArg _ H.K.symm), HR, trivial⟩)
end Go.Pi

/- jigsawref06.Make. -/
namespace Go.Pi
open Go
set_option linter.unusedVariables false
set_option linter.unusedSimpArgs false

set_option maxHeartbeats 4000000 in
set_option maxRecDepth 100000 in
theorem c_make8 (z : Small) (zk zK zc : Int) (zA zB zC : List (List PV)) (R : SmallR z zk zA zB zC zK zc) (vars : Int) (hv : 1 ≤ vars ∧ vars ≤ 1000000) (kind K : Int) (rA rB rC rD rE rR : List (List PV)) (H : ConR (makeS z vars) kind rA rB rC rD rE K rR)
    (hk : 1 + z.kind.tmod 23 = 8) :
    Call .plain 35 [.agg [U8 zk, .list 1 zA, .list 1 zB, .list 1 zC, I16 zK, U8 zc], I vars] (.agg [I kind, .list 1 rA, .list 1 rB, .list 1 rC, .list 1 rD, .list 1 rE, I K, .list 1 rR]) := by
  have hsh : shapeS (1 + z.kind.tmod 23) = [118, 118] := by rcases hk with hk <;> rw [hk] <;> rfl
  have kb := tmod_le z.kind (b := 23) (by decide)
  have kn : 0 ≤ z.kind.tmod 23 := Int.tmod_nonneg _ R.bk.1
  have q11 : ¬ 1 + z.kind.tmod 23 = 11 := by omega
  have q19 : ¬ 1 + z.kind.tmod 23 = 19 := by omega
  have q21 : ¬ 1 + z.kind.tmod 23 = 21 := by omega
  have q18 : ¬ 1 + z.kind.tmod 23 = 18 := by omega
  have h118 : hasS [118, 118] 118 = 2 := by decide
  have h119 : hasS [118, 118] 119 = 0 := by decide
  have h87 : hasS [118, 118] 87 = 0 := by decide
  have h99 : hasS [118, 118] 99 = 0 := by decide
  have h107 : hasS [118, 118] 107 = 0 := by decide
  have mk : makeS z vars = { kind := 1 + z.kind.tmod 23, A := placesS z.A (2) vars, B := [], C := [], D := [], E := [], K := 0, R := [] } := by
    have hshk : shapeS 8 = [118, 118] := rfl
    simp [makeS, hsh, hshk, nS, q11, q19, q21, q18, h118, h119, h87, h99, h107]
  clear h118 h119 h87 h99 h107 q11 q19 q21 q18
  rw [mk] at H
  clear mk
  have keq : ∀ M : Mach, M = Real → M .arith .rem .i64 (M .conv .i64 zK) 12 = z.K.tmod 12 := fun M hM => by
    subst hM
    have := R.bK
    show (IntKind.i64.wrap zK).tmod 12 = _
    rw [R.K, wrap_i64 (x := z.K) (by omega) (by omega)]
  refine call_of Proofs.Tryz.func35 Proofs.Tryz.call35 rfl rfl fun M C hM hC => ?_
  have G0 : M .cmp .gtr 0 0 = false := by subst hM; rfl
  have G1 : M .cmp .gtr 1 0 = true := by subst hM; rfl
  have G2 : M .cmp .gtr 2 0 = true := by subst hM; rfl
  have G3 : M .cmp .gtr 3 0 = true := by subst hM; rfl
  have ek : M .arith .add .i64 1 (M .arith .rem .i64 (M .conv .i64 zk) 23) = 1 + z.kind.tmod 23 := by
    subst hM
    have := R.bk
    show IntKind.i64.wrap (1 + (IntKind.i64.wrap zk).tmod 23) = _
    rw [R.kind, wrap_i64 (x := z.kind) (by omega) (by omega), wrap_i64 (by omega) (by omega)]
  cbv
  generalize hkd : M .arith .add .i64 1 (M .arith .rem .i64 (M .conv .i64 zk) 23) = kd at ek
  clear hkd
  have E11 : M .cmp .eql kd 11 = false := by subst hM; rw [real_eql]; simp; omega
  have E19 : M .cmp .eql kd 19 = false := by subst hM; rw [real_eql]; simp; omega
  have E21 : M .cmp .eql kd 21 = false := by subst hM; rw [real_eql]; simp; omega
  have E18 : M .cmp .eql kd 18 = false := by subst hM; rw [real_eql]; simp; omega
  refine .mk (by decide) (callL hC (c_shapes _ rfl) fun sh hsh2 => ?_)
  cbv
  obtain ⟨w, hw⟩ : ∃ w, w = bs (shapeS kd) := ⟨_, rfl⟩
  refine .mk [Str w] (by omega) (by rw [hsh2, hw]; exact shapes_get (by omega)) ?_
  have hw : w = bs [118, 118] := by rw [hw, ek, hsh]
  have lenA : (Int.ofNat (M .len zA)) = (z.A.length : Int) := by subst hM; rw [R.A]; show ((u8s z.A).length : Int) = _; simp
  have lenC : (Int.ofNat (M .len zC)) = (z.C.length : Int) := by subst hM; rw [R.C]; show ((i8s z.C).length : Int) = _; simp
  have ch : ∀ (ch : UInt8) (cc y : Int), cc = (ch.toNat : Int) → y = (hasS [118, 118] ch : Int) → C .plain 90 [Str w, U8 cc] (I y) := fun ch cc y h1 h2 => use_call hC (c_has _ w hw ch cc h1 (by decide) y h2)
  have cp : ∀ (n : Int) (rl : List (List PV)) (l : List Int), rl = u8s l → (∀ v ∈ l, 0 ≤ v ∧ v ≤ 255) → l.length ≤ 9223372036854775807 → n ≤ 1000000 → CallIn prog Amb .plain 91 [.list 1 rl, I n, I vars] (.list 1 (ints (placesS l n.toNat vars))) := fun n rl l h1 h2 h3 h4 => c_places rl l n vars h1 h2 h3 h4 (by omega) _ rfl
  have cn : ∀ (f n least wide : Int), 0 ≤ f ∧ f ≤ 1000000 → n ≤ 1000000 → 1 ≤ wide ∧ wide ≤ 100 → CallIn prog Amb .plain 92 [.list 1 zC, I f, I n, I least, I wide] (.list 1 (ints (numsS z.C f.toNat n.toNat least wide))) := fun f n least wide h1 h2 h3 => c_nums zC z.C f n least wide R.C R.bC R.lC h1 h2 h3 _ rfl
  have n3 : (M .cmp .lss (Int.ofNat (M .len zA)) 1 = true ∧ M .cmp .gtr 1 4 = false ∧ Int.toNat 1 = nS0 z ∧ (0 : Int) ≤ 1 ∧ (1 : Int) ≤ 4) ∨ (M .cmp .lss (Int.ofNat (M .len zA)) 1 = false ∧ M .cmp .gtr (Int.ofNat (M .len zA)) 4 = true ∧ Int.toNat 4 = nS0 z ∧ (0 : Int) ≤ 4 ∧ (4 : Int) ≤ 4) ∨ (M .cmp .lss (Int.ofNat (M .len zA)) 1 = false ∧ M .cmp .gtr (Int.ofNat (M .len zA)) 4 = false ∧ (Int.ofNat (M .len zA)).toNat = nS0 z ∧ 0 ≤ Int.ofNat (M .len zA) ∧ Int.ofNat (M .len zA) ≤ 4) := by
    rw [lenA]
    rcases Nat.lt_or_ge z.A.length 1 with h1 | h1
    · exact .inl ⟨by subst hM; rw [real_lss]; simp; omega, by subst hM; rfl, by rw [nS0, if_pos h1]; rfl, by decide, by decide⟩
    · rcases Nat.lt_or_ge 4 z.A.length with h2 | h2
      · exact .inr (.inl ⟨by subst hM; rw [real_lss]; simp; omega, by subst hM; rw [real_gtr]; simp; omega, by rw [nS0, if_neg (by omega), if_pos h2]; rfl, by decide, by decide⟩)
      · exact .inr (.inr ⟨by subst hM; rw [real_lss]; simp; omega, by subst hM; rw [real_gtr]; simp; omega, by rw [nS0, if_neg (by omega), if_neg (by omega)]; simp, by omega, by omega⟩)
  clear hw hsh2 hsh kb kn lenA
  cbv
  rcases n3 with ⟨N1, N2, hn0, hn1, hn4⟩ | ⟨N1, N2, hn0, hn1, hn4⟩ | ⟨N1, N2, hn0, hn1, hn4⟩
  all_goals (
    simp only [N1]
    cbv
    simp only [N2]
    cbv
    refine .mk (I 2) (ch 118 118 2 (by decide) (by decide)) ?_
    cbv
    simp only [G2]
    cbv
    refine .mk (I 2) (ch 118 118 2 (by decide) (by decide)) ?_
    cbv
    refine callL hC (cp _ _ _ R.A R.bA R.lA (by omega)) fun rA1 hA1 => ?_
    cbv
    refine .mk (I 0) (ch 119 119 0 (by decide) (by decide)) ?_
    cbv
    simp only [G0]
    cbv
    refine .mk (I 0) (ch 87 87 0 (by decide) (by decide)) ?_
    cbv
    simp only [G0]
    cbv
    refine .mk (I 0) (ch 99 99 0 (by decide) (by decide)) ?_
    cbv
    simp only [G0]
    cbv
    simp only [E11]
    cbv
    refine .mk (I 0) (ch 107 107 0 (by decide) (by decide)) ?_
    cbv
    simp only [G0]
    cbv
    simp only [E19]
    cbv
    simp only [E21]
    cbv
    simp only [E18]
    cbv
    have HA := H.A
    have HB := H.B
    have HC := H.C
    have HD := H.D
    have HE := H.E
    have HR := H.R
    exact ⟨congrArg _ (congrArg _ (ek.trans H.kind.symm)), ⟨hA1.trans HA.symm, trivial⟩, HB, HC, HD, HE, congrArg _ (congrArg _ H.K.symm), HR, trivial⟩)

set_option maxHeartbeats 4000000 in
set_option maxRecDepth 100000 in
theorem c_make11 (z : Small) (zk zK zc : Int) (zA zB zC : List (List PV)) (R : SmallR z zk zA zB zC zK zc) (vars : Int) (hv : 1 ≤ vars ∧ vars ≤ 1000000) (kind K : Int) (rA rB rC rD rE rR : List (List PV)) (H : ConR (makeS z vars) kind rA rB rC rD rE K rR)
    (hk : 1 + z.kind.tmod 23 = 11) :
    Call .plain 35 [.agg [U8 zk, .list 1 zA, .list 1 zB, .list 1 zC, I16 zK, U8 zc], I vars] (.agg [I kind, .list 1 rA, .list 1 rB, .list 1 rC, .list 1 rD, .list 1 rE, I K, .list 1 rR]) := by
  have hsh : shapeS (1 + z.kind.tmod 23) = [118, 99, 118] := by rcases hk with hk <;> rw [hk] <;> rfl
  have kb := tmod_le z.kind (b := 23) (by decide)
  have kn : 0 ≤ z.kind.tmod 23 := Int.tmod_nonneg _ R.bk.1
  have q11 : 1 + z.kind.tmod 23 = 11 := by omega
  have q19 : ¬ 1 + z.kind.tmod 23 = 19 := by omega
  have q21 : ¬ 1 + z.kind.tmod 23 = 21 := by omega
  have q18 : ¬ 1 + z.kind.tmod 23 = 18 := by omega
  have h118 : hasS [118, 99, 118] 118 = 2 := by decide
  have h119 : hasS [118, 99, 118] 119 = 0 := by decide
  have h87 : hasS [118, 99, 118] 87 = 0 := by decide
  have h99 : hasS [118, 99, 118] 99 = 1 := by decide
  have h107 : hasS [118, 99, 118] 107 = 0 := by decide
  have mk : makeS z vars = { kind := 1 + z.kind.tmod 23, A := placesS z.A (2) vars, B := [], C := numsS z.C 0 (1 + z.C.length % 5) (-1) 5, D := [], E := [], K := 0, R := [] } := by
    have hshk : shapeS 11 = [118, 99, 118] := rfl
    simp [makeS, hsh, hshk, nS, q11, q19, q21, q18, h118, h119, h87, h99, h107]
  clear h118 h119 h87 h99 h107 q11 q19 q21 q18
  rw [mk] at H
  clear mk
  have keq : ∀ M : Mach, M = Real → M .arith .rem .i64 (M .conv .i64 zK) 12 = z.K.tmod 12 := fun M hM => by
    subst hM
    have := R.bK
    show (IntKind.i64.wrap zK).tmod 12 = _
    rw [R.K, wrap_i64 (x := z.K) (by omega) (by omega)]
  refine call_of Proofs.Tryz.func35 Proofs.Tryz.call35 rfl rfl fun M C hM hC => ?_
  have G0 : M .cmp .gtr 0 0 = false := by subst hM; rfl
  have G1 : M .cmp .gtr 1 0 = true := by subst hM; rfl
  have G2 : M .cmp .gtr 2 0 = true := by subst hM; rfl
  have G3 : M .cmp .gtr 3 0 = true := by subst hM; rfl
  have ek : M .arith .add .i64 1 (M .arith .rem .i64 (M .conv .i64 zk) 23) = 1 + z.kind.tmod 23 := by
    subst hM
    have := R.bk
    show IntKind.i64.wrap (1 + (IntKind.i64.wrap zk).tmod 23) = _
    rw [R.kind, wrap_i64 (x := z.kind) (by omega) (by omega), wrap_i64 (by omega) (by omega)]
  cbv
  generalize hkd : M .arith .add .i64 1 (M .arith .rem .i64 (M .conv .i64 zk) 23) = kd at ek
  clear hkd
  have E11 : M .cmp .eql kd 11 = true := by subst hM; rw [real_eql]; simp; omega
  have E19 : M .cmp .eql kd 19 = false := by subst hM; rw [real_eql]; simp; omega
  have E21 : M .cmp .eql kd 21 = false := by subst hM; rw [real_eql]; simp; omega
  have E18 : M .cmp .eql kd 18 = false := by subst hM; rw [real_eql]; simp; omega
  refine .mk (by decide) (callL hC (c_shapes _ rfl) fun sh hsh2 => ?_)
  cbv
  obtain ⟨w, hw⟩ : ∃ w, w = bs (shapeS kd) := ⟨_, rfl⟩
  refine .mk [Str w] (by omega) (by rw [hsh2, hw]; exact shapes_get (by omega)) ?_
  have hw : w = bs [118, 99, 118] := by rw [hw, ek, hsh]
  have lenA : (Int.ofNat (M .len zA)) = (z.A.length : Int) := by subst hM; rw [R.A]; show ((u8s z.A).length : Int) = _; simp
  have lenC : (Int.ofNat (M .len zC)) = (z.C.length : Int) := by subst hM; rw [R.C]; show ((i8s z.C).length : Int) = _; simp
  have ch : ∀ (ch : UInt8) (cc y : Int), cc = (ch.toNat : Int) → y = (hasS [118, 99, 118] ch : Int) → C .plain 90 [Str w, U8 cc] (I y) := fun ch cc y h1 h2 => use_call hC (c_has _ w hw ch cc h1 (by decide) y h2)
  have cp : ∀ (n : Int) (rl : List (List PV)) (l : List Int), rl = u8s l → (∀ v ∈ l, 0 ≤ v ∧ v ≤ 255) → l.length ≤ 9223372036854775807 → n ≤ 1000000 → CallIn prog Amb .plain 91 [.list 1 rl, I n, I vars] (.list 1 (ints (placesS l n.toNat vars))) := fun n rl l h1 h2 h3 h4 => c_places rl l n vars h1 h2 h3 h4 (by omega) _ rfl
  have cn : ∀ (f n least wide : Int), 0 ≤ f ∧ f ≤ 1000000 → n ≤ 1000000 → 1 ≤ wide ∧ wide ≤ 100 → CallIn prog Amb .plain 92 [.list 1 zC, I f, I n, I least, I wide] (.list 1 (ints (numsS z.C f.toNat n.toNat least wide))) := fun f n least wide h1 h2 h3 => c_nums zC z.C f n least wide R.C R.bC R.lC h1 h2 h3 _ rfl
  have n3 : (M .cmp .lss (Int.ofNat (M .len zA)) 1 = true ∧ M .cmp .gtr 1 4 = false ∧ Int.toNat 1 = nS0 z ∧ (0 : Int) ≤ 1 ∧ (1 : Int) ≤ 4) ∨ (M .cmp .lss (Int.ofNat (M .len zA)) 1 = false ∧ M .cmp .gtr (Int.ofNat (M .len zA)) 4 = true ∧ Int.toNat 4 = nS0 z ∧ (0 : Int) ≤ 4 ∧ (4 : Int) ≤ 4) ∨ (M .cmp .lss (Int.ofNat (M .len zA)) 1 = false ∧ M .cmp .gtr (Int.ofNat (M .len zA)) 4 = false ∧ (Int.ofNat (M .len zA)).toNat = nS0 z ∧ 0 ≤ Int.ofNat (M .len zA) ∧ Int.ofNat (M .len zA) ≤ 4) := by
    rw [lenA]
    rcases Nat.lt_or_ge z.A.length 1 with h1 | h1
    · exact .inl ⟨by subst hM; rw [real_lss]; simp; omega, by subst hM; rfl, by rw [nS0, if_pos h1]; rfl, by decide, by decide⟩
    · rcases Nat.lt_or_ge 4 z.A.length with h2 | h2
      · exact .inr (.inl ⟨by subst hM; rw [real_lss]; simp; omega, by subst hM; rw [real_gtr]; simp; omega, by rw [nS0, if_neg (by omega), if_pos h2]; rfl, by decide, by decide⟩)
      · exact .inr (.inr ⟨by subst hM; rw [real_lss]; simp; omega, by subst hM; rw [real_gtr]; simp; omega, by rw [nS0, if_neg (by omega), if_neg (by omega)]; simp, by omega, by omega⟩)
  clear hw hsh2 hsh kb kn lenA
  cbv
  rcases n3 with ⟨N1, N2, hn0, hn1, hn4⟩ | ⟨N1, N2, hn0, hn1, hn4⟩ | ⟨N1, N2, hn0, hn1, hn4⟩
  all_goals (
    simp only [N1]
    cbv
    simp only [N2]
    cbv
    refine .mk (I 2) (ch 118 118 2 (by decide) (by decide)) ?_
    cbv
    simp only [G2]
    cbv
    refine .mk (I 2) (ch 118 118 2 (by decide) (by decide)) ?_
    cbv
    refine callL hC (cp _ _ _ R.A R.bA R.lA (by omega)) fun rA1 hA1 => ?_
    cbv
    refine .mk (I 0) (ch 119 119 0 (by decide) (by decide)) ?_
    cbv
    simp only [G0]
    cbv
    refine .mk (I 0) (ch 87 87 0 (by decide) (by decide)) ?_
    cbv
    simp only [G0]
    cbv
    refine .mk (I 1) (ch 99 99 1 (by decide) (by decide)) ?_
    cbv
    simp only [G1]
    cbv
    refine callL hC (cn _ _ _ _ (by omega) (by omega) (by omega)) fun rC1 hC1 => ?_
    cbv
    simp only [E11]
    cbv
    have hm5 : M .arith .add .i64 1 (M .arith .rem .i64 (Int.ofNat (M .len zC)) 5) = ((1 + z.C.length % 5 : Nat) : Int) := by
      rw [lenC]; subst hM
      show IntKind.i64.wrap (1 + (z.C.length : Int).tmod 5) = _
      rw [show (z.C.length : Int).tmod 5 = ((z.C.length % 5 : Nat) : Int) from rfl, wrap_i64 (by omega) (by omega)]; omega
    obtain ⟨m, hm⟩ : ∃ m, m = 1 + z.C.length % 5 := ⟨_, rfl⟩
    have hm7 : m ≤ 5 := by omega
    rw [← hm] at hm5
    refine .mk (by decide) ?_
    cbv
    (try simp only [ncast] at *)
    refine callL hC (cn _ _ _ _ (by omega) (by rw [show M .arith .add .i64 1 _ = _ from hm5]; omega) (by omega)) fun rC2 hC2 => ?_
    have hC2 : rC2 = ints (numsS z.C 0 m (-1) 5) := by rw [hC2, show M .arith .add .i64 1 _ = _ from hm5]; rfl
    rw [hm] at hC2
    cbv
    refine .mk (I 0) (ch 107 107 0 (by decide) (by decide)) ?_
    cbv
    simp only [G0]
    cbv
    simp only [E19]
    cbv
    simp only [E21]
    cbv
    simp only [E18]
    cbv
    have HA := H.A
    have HB := H.B
    have HC := H.C
    have HD := H.D
    have HE := H.E
    have HR := H.R
    exact ⟨congrArg _ (congrArg _ (ek.trans H.kind.symm)), ⟨hA1.trans HA.symm, trivial⟩, HB, ⟨hC2.trans HC.symm, trivial⟩, HD, HE, congrArg _ (congrArg _ H.K.symm), HR, trivial⟩)

set_option maxHeartbeats 4000000 in
set_option maxRecDepth 100000 in
theorem c_make12 (z : Small) (zk zK zc : Int) (zA zB zC : List (List PV)) (R : SmallR z zk zA zB zC zK zc) (vars : Int) (hv : 1 ≤ vars ∧ vars ≤ 1000000) (kind K : Int) (rA rB rC rD rE rR : List (List PV)) (H : ConR (makeS z vars) kind rA rB rC rD rE K rR)
    (hk : 1 + z.kind.tmod 23 = 12 ∨ 1 + z.kind.tmod 23 = 22 ∨ 1 + z.kind.tmod 23 = 23) :
    Call .plain 35 [.agg [U8 zk, .list 1 zA, .list 1 zB, .list 1 zC, I16 zK, U8 zc], I vars] (.agg [I kind, .list 1 rA, .list 1 rB, .list 1 rC, .list 1 rD, .list 1 rE, I K, .list 1 rR]) := by
  have hsh : shapeS (1 + z.kind.tmod 23) = [86, 87] := by rcases hk with hk | hk | hk <;> rw [hk] <;> rfl
  have kb := tmod_le z.kind (b := 23) (by decide)
  have kn : 0 ≤ z.kind.tmod 23 := Int.tmod_nonneg _ R.bk.1
  have q11 : ¬ 1 + z.kind.tmod 23 = 11 := by omega
  have q19 : ¬ 1 + z.kind.tmod 23 = 19 := by omega
  have q21 : ¬ 1 + z.kind.tmod 23 = 21 := by omega
  have q18 : ¬ 1 + z.kind.tmod 23 = 18 := by omega
  have h118 : hasS [86, 87] 118 = 0 := by decide
  have h119 : hasS [86, 87] 119 = 0 := by decide
  have h87 : hasS [86, 87] 87 = 1 := by decide
  have h99 : hasS [86, 87] 99 = 0 := by decide
  have h107 : hasS [86, 87] 107 = 0 := by decide
  have mk : makeS z vars = { kind := 1 + z.kind.tmod 23, A := placesS z.A (nS0 z) vars, B := placesS z.B (nS0 z) vars, C := [], D := [], E := [], K := 0, R := [] } := by
    have hshk : shapeS 12 = [86, 87] := rfl
    simp [makeS, hsh, hshk, nS, q11, q19, q21, q18, h118, h119, h87, h99, h107]
  clear h118 h119 h87 h99 h107 q11 q19 q21 q18
  rw [mk] at H
  clear mk
  have keq : ∀ M : Mach, M = Real → M .arith .rem .i64 (M .conv .i64 zK) 12 = z.K.tmod 12 := fun M hM => by
    subst hM
    have := R.bK
    show (IntKind.i64.wrap zK).tmod 12 = _
    rw [R.K, wrap_i64 (x := z.K) (by omega) (by omega)]
  refine call_of Proofs.Tryz.func35 Proofs.Tryz.call35 rfl rfl fun M C hM hC => ?_
  have G0 : M .cmp .gtr 0 0 = false := by subst hM; rfl
  have G1 : M .cmp .gtr 1 0 = true := by subst hM; rfl
  have G2 : M .cmp .gtr 2 0 = true := by subst hM; rfl
  have G3 : M .cmp .gtr 3 0 = true := by subst hM; rfl
  have ek : M .arith .add .i64 1 (M .arith .rem .i64 (M .conv .i64 zk) 23) = 1 + z.kind.tmod 23 := by
    subst hM
    have := R.bk
    show IntKind.i64.wrap (1 + (IntKind.i64.wrap zk).tmod 23) = _
    rw [R.kind, wrap_i64 (x := z.kind) (by omega) (by omega), wrap_i64 (by omega) (by omega)]
  cbv
  generalize hkd : M .arith .add .i64 1 (M .arith .rem .i64 (M .conv .i64 zk) 23) = kd at ek
  clear hkd
  have E11 : M .cmp .eql kd 11 = false := by subst hM; rw [real_eql]; simp; omega
  have E19 : M .cmp .eql kd 19 = false := by subst hM; rw [real_eql]; simp; omega
  have E21 : M .cmp .eql kd 21 = false := by subst hM; rw [real_eql]; simp; omega
  have E18 : M .cmp .eql kd 18 = false := by subst hM; rw [real_eql]; simp; omega
  refine .mk (by decide) (callL hC (c_shapes _ rfl) fun sh hsh2 => ?_)
  cbv
  obtain ⟨w, hw⟩ : ∃ w, w = bs (shapeS kd) := ⟨_, rfl⟩
  refine .mk [Str w] (by omega) (by rw [hsh2, hw]; exact shapes_get (by omega)) ?_
  have hw : w = bs [86, 87] := by rw [hw, ek, hsh]
  have lenA : (Int.ofNat (M .len zA)) = (z.A.length : Int) := by subst hM; rw [R.A]; show ((u8s z.A).length : Int) = _; simp
  have lenC : (Int.ofNat (M .len zC)) = (z.C.length : Int) := by subst hM; rw [R.C]; show ((i8s z.C).length : Int) = _; simp
  have ch : ∀ (ch : UInt8) (cc y : Int), cc = (ch.toNat : Int) → y = (hasS [86, 87] ch : Int) → C .plain 90 [Str w, U8 cc] (I y) := fun ch cc y h1 h2 => use_call hC (c_has _ w hw ch cc h1 (by decide) y h2)
  have cp : ∀ (n : Int) (rl : List (List PV)) (l : List Int), rl = u8s l → (∀ v ∈ l, 0 ≤ v ∧ v ≤ 255) → l.length ≤ 9223372036854775807 → n ≤ 1000000 → CallIn prog Amb .plain 91 [.list 1 rl, I n, I vars] (.list 1 (ints (placesS l n.toNat vars))) := fun n rl l h1 h2 h3 h4 => c_places rl l n vars h1 h2 h3 h4 (by omega) _ rfl
  have cn : ∀ (f n least wide : Int), 0 ≤ f ∧ f ≤ 1000000 → n ≤ 1000000 → 1 ≤ wide ∧ wide ≤ 100 → CallIn prog Amb .plain 92 [.list 1 zC, I f, I n, I least, I wide] (.list 1 (ints (numsS z.C f.toNat n.toNat least wide))) := fun f n least wide h1 h2 h3 => c_nums zC z.C f n least wide R.C R.bC R.lC h1 h2 h3 _ rfl
  have n3 : (M .cmp .lss (Int.ofNat (M .len zA)) 1 = true ∧ M .cmp .gtr 1 4 = false ∧ Int.toNat 1 = nS0 z ∧ (0 : Int) ≤ 1 ∧ (1 : Int) ≤ 4) ∨ (M .cmp .lss (Int.ofNat (M .len zA)) 1 = false ∧ M .cmp .gtr (Int.ofNat (M .len zA)) 4 = true ∧ Int.toNat 4 = nS0 z ∧ (0 : Int) ≤ 4 ∧ (4 : Int) ≤ 4) ∨ (M .cmp .lss (Int.ofNat (M .len zA)) 1 = false ∧ M .cmp .gtr (Int.ofNat (M .len zA)) 4 = false ∧ (Int.ofNat (M .len zA)).toNat = nS0 z ∧ 0 ≤ Int.ofNat (M .len zA) ∧ Int.ofNat (M .len zA) ≤ 4) := by
    rw [lenA]
    rcases Nat.lt_or_ge z.A.length 1 with h1 | h1
    · exact .inl ⟨by subst hM; rw [real_lss]; simp; omega, by subst hM; rfl, by rw [nS0, if_pos h1]; rfl, by decide, by decide⟩
    · rcases Nat.lt_or_ge 4 z.A.length with h2 | h2
      · exact .inr (.inl ⟨by subst hM; rw [real_lss]; simp; omega, by subst hM; rw [real_gtr]; simp; omega, by rw [nS0, if_neg (by omega), if_pos h2]; rfl, by decide, by decide⟩)
      · exact .inr (.inr ⟨by subst hM; rw [real_lss]; simp; omega, by subst hM; rw [real_gtr]; simp; omega, by rw [nS0, if_neg (by omega), if_neg (by omega)]; simp, by omega, by omega⟩)
  clear hw hsh2 hsh kb kn lenA
  cbv
  rcases n3 with ⟨N1, N2, hn0, hn1, hn4⟩ | ⟨N1, N2, hn0, hn1, hn4⟩ | ⟨N1, N2, hn0, hn1, hn4⟩
  all_goals (
    simp only [N1]
    cbv
    simp only [N2]
    cbv
    refine .mk (I 0) (ch 118 118 0 (by decide) (by decide)) ?_
    cbv
    simp only [G0]
    cbv
    refine callL hC (cp _ _ _ R.A R.bA R.lA (by omega)) fun rA1 hA1 => ?_
    cbv
    refine .mk (I 0) (ch 119 119 0 (by decide) (by decide)) ?_
    cbv
    simp only [G0]
    cbv
    refine .mk (I 1) (ch 87 87 1 (by decide) (by decide)) ?_
    cbv
    simp only [G1]
    cbv
    refine callL hC (cp _ _ _ R.B R.bB R.lB (by omega)) fun rB1 hB1 => ?_
    cbv
    refine .mk (I 0) (ch 99 99 0 (by decide) (by decide)) ?_
    cbv
    simp only [G0]
    cbv
    simp only [E11]
    cbv
    refine .mk (I 0) (ch 107 107 0 (by decide) (by decide)) ?_
    cbv
    simp only [G0]
    cbv
    simp only [E19]
    cbv
    simp only [E21]
    cbv
    simp only [E18]
    cbv
    have HA := H.A
    have HB := H.B
    have HC := H.C
    have HD := H.D
    have HE := H.E
    have HR := H.R
    simp only [← hn0] at HA HB HC
    exact ⟨congrArg _ (congrArg _ (ek.trans H.kind.symm)), ⟨hA1.trans HA.symm, trivial⟩, ⟨hB1.trans HB.symm, trivial⟩, HC, HD, HE, congrArg _ (congrArg _ H.K.symm), HR, trivial⟩)
end Go.Pi
