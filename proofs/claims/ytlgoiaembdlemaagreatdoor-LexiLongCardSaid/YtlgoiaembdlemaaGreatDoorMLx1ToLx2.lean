/- Package lexi: what is known of two rows. -/
import Derived.Test.YtlgoiaembdlemaaGreatDoorMDo11ToDo12
import Derived.Test.YtlgoiaembdlemaaGreatDoorMDo7ToDo6
set_option linter.unusedSimpArgs false
set_option linter.unusedVariables false

/- Package lexi: what is known of two rows. -/
namespace Go.Pi
open Go
set_option linter.unusedVariables false
set_option linter.unusedSimpArgs false

theorem c_meet (off mn mx sz : Int) (ws : List (List PV)) (l : List Int) (D : DomR off ws mn mx sz l) (eoff emn emx esz : Int) (ews : List (List PV)) (e : List Int) (E : DomR eoff ews emn emx esz e) (y : Bool) (hy : y = meetS l e) :
    Call .plain 179 [.agg [I off, .list 1 ws, I mn, I mx, I sz], .agg [I eoff, .list 1 ews, I emn, I emx, I esz]] (B y) := by
  obtain ⟨off', ws', mn', mx', sz', D', ca⟩ := c_domAnd off mn mx sz ws l D eoff emn emx esz ews e E
  have hs := D'.sz
  have hm : y = decide (sz' > 0) := by
    rw [hy, hs, Bool.eq_iff_iff, meetS_iff, decide_eq_true_iff]
    constructor
    · rintro ⟨v, v1, v2⟩
      have : v ∈ l.filter (fun v => e.contains v) := List.mem_filter.2 ⟨v1, by simpa using v2⟩
      have := List.length_pos_of_mem this
      omega
    · intro h
      have : l.filter (fun v => e.contains v) ≠ [] := fun e => by rw [e] at h; simp at h
      have := List.mem_filter.1 (headS_mem this)
      exact ⟨_, this.1, by simpa using this.2⟩
  clear hs hy D'
  generalize changeS l _ = ch at ca
  refine call_of Proofs.Tryz.func179 Proofs.Tryz.call179 rfl rfl fun M C hM hC => ?_
  cbv
  refine .mk _ (use_call hC ca) ?_
  cbv
  refine .mk _ (use_call hC (c_domSize off' mn' mx' sz' ws')) ?_
  cbv
  subst hM
  rw [hm]
  rfl

def bl (f : Nat → Bool) (n : Nat) : List (List PV) := (List.range n).map fun i => [B (f i)]
theorem bl_get (f : Nat → Bool) {n i : Nat} (h : i < n) : (bl f n)[i]? = some [B (f i)] := by simp [bl, h]
theorem bl_ext {p : List (List PV)} {f : Nat → Bool} {n : Nat} (hl : p.length = n) (h : ∀ i, i < n → p[i]? = some [B (f i)]) : p = bl f n := by
  apply List.ext_getElem?
  intro i
  by_cases hi : i < n
  · rw [h i hi, bl_get f hi]
  · rw [List.getElem?_eq_none (by omega), List.getElem?_eq_none (by simp [bl]; omega)]

/-- The row of a domain at a place. -/
theorem DomsR.at {R : List (List PV)} {A : List (List Int)} (h : DomsR R A) {j : Nat} (hj : j < A.length) : ∃ off ws mn mx sz, R[j]? = some [I off, .list 1 ws, I mn, I mx, I sz] ∧ DomR off ws mn mx sz (A.getD j []) := by
  obtain ⟨off, ws, mn, mx, sz, e, D⟩ := h.get j hj
  have hlt : j < R.length := by rw [h.len]; exact hj
  refine ⟨off, ws, mn, mx, sz, ?_, D⟩
  rw [List.getElem?_eq_getElem hlt, ← e]
  simp [List.getD_eq_getElem?_getD, hlt]

theorem restS_end {a b : List (List Int)} {n : Nat} (ha : a.length = n) (hb : b.length = n) : restS a b n = true := by
  rw [restS, List.drop_of_length_le (by omega), List.drop_of_length_le (by omega)]; rfl
theorem restS_step {a b : List (List Int)} {i : Nat} (ha : i < a.length) (hb : i < b.length) : restS a b i = (decide (headS (a.getD i []) < lastS (b.getD i [])) || (meetS (a.getD i []) (b.getD i []) && restS a b (i + 1))) := by
  rw [restS, List.drop_eq_getElem_cons ha, List.drop_eq_getElem_cons hb]
  simp [canS, restS, List.getD_eq_getElem?_getD, ha, hb]

set_option maxHeartbeats 2000000 in
theorem c_known (ra rb : List (List PV)) (a b : List (List Int)) (Da : DomsR ra a) (Db : DomsR rb b) (n : Nat) (ha : a.length = n) (hb : b.length = n) (hn : n ≤ 1000000) (re rbe rr : List (List PV)) (hre : re = bl (evenS a b) (n + 1)) (hrb : rbe = bl (belowS a b) (n + 1)) (hrr : rr = bl (restS a b) (n + 1)) :
    Call .plain 115 [.list 5 ra, .list 5 rb] (.agg [.list 5 ra, .list 5 rb, .list 1 re, .list 1 rbe, .list 1 rr]) := by
  have lra : (ra.length : Int) = n := by rw [Da.len, ha]
  refine call_of Proofs.Tryz.func115 Proofs.Tryz.call115 rfl rfl fun M C hM hC => ?_
  have elen : (Int.ofNat (M .len ra) : Int) = n := by subst hM; exact lra
  have e1 : M .arith .add .i64 (Int.ofNat (M .len ra)) 1 = ((n + 1 : Nat) : Int) := by
    rw [elen]; subst hM
    show IntKind.i64.wrap ((n : Int) + 1) = _
    rw [wrap_i64 (by omega) (by omega)]; omega
  have rep : M .rep ((n + 1 : Nat) : Int) [B false] = List.replicate (n + 1) [B false] := by
    subst hM
    show List.replicate (((n + 1 : Nat) : Int)).toNat _ = _
    rw [Int.toNat_natCast]
  obtain ⟨z, hz⟩ : ∃ z, z = List.replicate (n + 1) [B false] := ⟨_, rfl⟩
  have zl : z.length = n + 1 := by rw [hz]; simp
  have zg : ∀ i, i < n + 1 → z[i]? = some [B false] := fun i hi => by rw [hz]; simp [hi]
  rw [← hz] at rep
  clear hz
  have n0 : (0 : Int) ≤ ((n + 1 : Nat) : Int) := Int.natCast_nonneg _
  have n1 : ((n + 1 : Nat) : Int) ≤ 2147483648 := by omega
  obtain ⟨n', hn'⟩ : ∃ n' : Int, n' = ((n + 1 : Nat) : Int) := ⟨_, rfl⟩
  rw [← hn'] at e1 rep n0 n1
  have s0 : M .set z 0 [B true] = z.set 0 [B true] := by subst hM; rfl
  have s1 : M .set z (Int.ofNat (M .len ra)) [B true] = z.set n [B true] := by rw [elen]; subst hM; rfl
  obtain ⟨z0, hz0⟩ : ∃ z0, z0 = z.set 0 [B true] := ⟨_, rfl⟩
  obtain ⟨zn, hzn⟩ : ∃ zn, zn = z.set n [B true] := ⟨_, rfl⟩
  rw [← hz0] at s0
  rw [← hzn] at s1
  have g0 : z[(0 : Int).toNat]? = some [B false] := zg 0 (by omega)
  have gn : z[(Int.ofNat (M .len ra)).toNat]? = some [B false] := by rw [elen]; exact zg n (by omega)
  have z0l : z0.length = n + 1 := by rw [hz0]; simp [zl]
  have z0g : z0[0]? = some [B true] := by rw [hz0, List.getElem?_set_self (by omega)]
  have z0r : ∀ i, i < n + 1 → ∃ x : Bool, z0[i]? = some [B x] := fun i hi => by
    by_cases e : i = 0
    · subst e; exact ⟨true, z0g⟩
    · exact ⟨false, by rw [hz0, List.getElem?_set_ne (by omega)]; exact zg i hi⟩
  have znl : zn.length = n + 1 := by rw [hzn]; simp [zl]
  have zng : zn[n]? = some [B true] := by rw [hzn, List.getElem?_set_self (by omega)]
  have znr : ∀ i, i < n + 1 → ∃ x : Bool, zn[i]? = some [B x] := fun i hi => by
    by_cases e : i = n
    · subst e; exact ⟨true, zng⟩
    · exact ⟨false, by rw [hzn, List.getElem?_set_ne (by omega)]; exact zg i hi⟩
  clear hz0 hzn
  have rest_end := restS_end ha hb
  have hst : ∀ (p : List (List PV)) (k : Nat) (x : Bool), M .set p (Int.ofNat k) [B x] = p.set k [B x] := fun p k x => by subst hM; rfl
  cbv
  rw [show M .arith .add .i64 _ 1 = _ from e1]
  refine .mk (Int.le_refl _) (.mk (Int.le_refl _) (.mk n0 (.mk n1 ?_)))
  cbv
  refine .mk (Int.le_refl _) (.mk (Int.le_refl _) (.mk n0 (.mk n1 ?_)))
  cbv
  refine .mk (Int.le_refl _) (.mk (Int.le_refl _) (.mk n0 (.mk n1 ?_)))
  generalize hzz : M .rep n' _ = zz
  have hzz : zz = z := hzz.symm.trans rep
  subst hzz
  cbv
  refine .mk _ (Int.le_refl _) g0 ?_
  cbv
  refine .mk _ (Int.le_refl _) g0 ?_
  cbv
  refine .mk _ (Int.natCast_nonneg _) gn ?_
  cbv
  refine .mk _ (Int.natCast_nonneg _) gn ?_
  subst z0 zn
  have iE : ∀ i, i ≤ 0 → (M .set zz 0 [B true])[i]? = some [B (evenS a b i)] := fun i hi => by
    obtain rfl : i = 0 := by omega
    exact z0g
  have iL : ∀ i, i ≤ 0 → zz[i]? = some [B (belowS a b i)] := fun i hi => by
    obtain rfl : i = 0 := by omega
    exact zg 0 (by omega)
  have iR : ∀ i, i < n + 1 → ∃ x : Bool, zz[i]? = some [B x] := fun i hi => ⟨false, zg i hi⟩
  clear g0 gn rep e1 n0 n1
  cbv
  refine Loop.over (Nat × List (List PV) × List (List PV)) (fun q => [(.t 31, I q.1), (.a 1, .arr 0 4 1 q.2.1), (.a 2, .arr 0 4 1 q.2.2), (.t 28, .junk), (.t 29, .junk)]) 5 (fun q => n - q.1) (fun q => q.1 ≤ n ∧ (q.2.1.length = n + 1 ∧ (∀ i, i ≤ q.1 → q.2.1[i]? = some [B (evenS a b i)]) ∧ ∀ i, i < n + 1 → ∃ x : Bool, q.2.1[i]? = some [B x]) ∧ (q.2.2.length = n + 1 ∧ (∀ i, i ≤ q.1 → q.2.2[i]? = some [B (belowS a b i)]) ∧ ∀ i, i < n + 1 → ∃ x : Bool, q.2.2[i]? = some [B x])) (0, M .set zz 0 [B true], zz) ⟨Nat.zero_le _, ⟨z0l, iE, z0r⟩, zl, iL, iR⟩ (by (cbv; repeat' (first | exact True.intro | exact rfl | apply And.intro))) ?_
  clear iE iL iR
  clear z0l z0g z0r zl zg
  rintro ⟨j, E, L⟩ ⟨hj, ⟨el, eg, er⟩, ll, lg, lr⟩
  simp only at hj el eg er ll lg lr
  cbv
  split <;> rename_i h <;> (try simp only [h]) <;> (try cbv) <;> (try simp only [ncast] at *)
  · have hlt : j < n := by subst hM; have h := of_decide_eq_true h; have h : (j : Int) < (ra.length : Int) := h; omega
    clear h
    have ej := eg j (Nat.le_refl _)
    have lj := lg j (Nat.le_refl _)
    obtain ⟨xe, ex⟩ := er (j + 1) (by omega)
    obtain ⟨xl, lx⟩ := lr (j + 1) (by omega)
    have e1 : M .arith .add .i64 (Int.ofNat j) 1 = Int.ofNat (j + 1) := by subst hM; exact succ_i64 (by omega)
    have ej' : E[(Int.ofNat j).toNat]? = some [B (evenS a b j)] := ej
    have lj' : L[(Int.ofNat j).toNat]? = some [B (belowS a b j)] := lj
    have ex' : E[(Int.ofNat (j + 1)).toNat]? = some [B xe] := ex
    have lx' : L[(Int.ofNat (j + 1)).toNat]? = some [B xl] := lx
    have stepE : evenS a b (j + 1) = (evenS a b j && meetS (a.getD j []) (b.getD j [])) := rfl
    have stepL : belowS a b (j + 1) = (belowS a b j || evenS a b j && decide (headS (a.getD j []) < lastS (b.getD j []))) := rfl
    have nextE : ∀ x, x = evenS a b (j + 1) → (M .set E (Int.ofNat (j + 1)) [B x]).length = n + 1 ∧ (∀ i, i ≤ j + 1 → (M .set E (Int.ofNat (j + 1)) [B x])[i]? = some [B (evenS a b i)]) ∧ ∀ i, i < n + 1 → ∃ x' : Bool, (M .set E (Int.ofNat (j + 1)) [B x])[i]? = some [B x'] := fun x hx => by
      rw [hst]
      refine ⟨by simp [el], fun i hi => ?_, fun i hi => ?_⟩
      · by_cases e : i = j + 1
        · subst e; rw [List.getElem?_set_self (by omega), hx]
        · rw [List.getElem?_set_ne (by omega)]; exact eg i (by omega)
      · by_cases e : i = j + 1
        · subst e; exact ⟨x, List.getElem?_set_self (by omega)⟩
        · rw [List.getElem?_set_ne (by omega)]; exact er i hi
    have nextL : ∀ x, x = belowS a b (j + 1) → (M .set L (Int.ofNat (j + 1)) [B x]).length = n + 1 ∧ (∀ i, i ≤ j + 1 → (M .set L (Int.ofNat (j + 1)) [B x])[i]? = some [B (belowS a b i)]) ∧ ∀ i, i < n + 1 → ∃ x' : Bool, (M .set L (Int.ofNat (j + 1)) [B x])[i]? = some [B x'] := fun x hx => by
      rw [hst]
      refine ⟨by simp [ll], fun i hi => ?_, fun i hi => ?_⟩
      · by_cases e : i = j + 1
        · subst e; rw [List.getElem?_set_self (by omega), hx]
        · rw [List.getElem?_set_ne (by omega)]; exact lg i (by omega)
      · by_cases e : i = j + 1
        · subst e; exact ⟨x, List.getElem?_set_self (by omega)⟩
        · rw [List.getElem?_set_ne (by omega)]; exact lr i hi
    -- the store keeps what was there
    have keep : ∀ x : Bool, (M .set E (Int.ofNat (j + 1)) [B x])[(Int.ofNat j).toNat]? = some [B (evenS a b j)] := fun x => by
      rw [hst]
      show (E.set (j + 1) _)[j]? = _
      rw [List.getElem?_set_ne (by omega)]; exact ej
    obtain ⟨ao, aw, an, ax, az, ga, DA⟩ := Da.at (j := j) (by omega)
    obtain ⟨bo, bw, bn, bx, bz, gb, DB⟩ := Db.at (j := j) (by omega)
    have ga' : ra[(Int.ofNat j).toNat]? = some [I ao, .list 1 aw, I an, I ax, I az] := ga
    have gb' : rb[(Int.ofNat j).toNat]? = some [I bo, .list 1 bw, I bn, I bx, I bz] := gb
    have cmeet := c_meet _ _ _ _ _ _ DA _ _ _ _ _ _ DB _ rfl
    rw [← DA.mn, ← DB.mx] at stepL
    generalize meetS (a.getD j []) (b.getD j []) = me at cmeet stepE
    generalize evenS a b j = evj at ej' stepE stepL keep
    generalize belowS a b j = blj at lj' stepL
    generalize evenS a b (j + 1) = evn at stepE nextE
    generalize belowS a b (j + 1) = bln at stepL nextL
    clear ej lj ex lx eg er lg lr ga gb DA DB hst
    refine .mk _ (Int.natCast_nonneg _) ej' ?_
    cbv
    refine .mk _ (Int.natCast_nonneg _) ej' ?_
    cbv
    cases evj
    · have hE := nextE false (by rw [stepE]; rfl)
      have hk := keep false
      cbv
      rw [show M .arith .add .i64 (Int.ofNat j) 1 = _ from e1]
      refine .mk _ (Int.natCast_nonneg _) ex' ?_
      cbv
      refine .mk _ (Int.natCast_nonneg _) ex' ?_
      cbv
      refine .mk _ (Int.natCast_nonneg _) lj' ?_
      cbv
      refine .mk _ (Int.natCast_nonneg _) lj' ?_
      cbv
      cases blj
      · have hL := nextL false (by rw [stepL]; rfl)
        cbv
        refine .mk _ (Int.natCast_nonneg _) hk ?_
        cbv
        refine .mk _ (Int.natCast_nonneg _) hk ?_
        cbv
        rw [show M .arith .add .i64 (Int.ofNat j) 1 = _ from e1]
        refine .mk _ (Int.natCast_nonneg _) lx' ?_
        cbv
        refine .mk _ (Int.natCast_nonneg _) lx' ?_
        cbv
        refine ⟨⟨j + 1, _, _⟩, ⟨hlt, hE, hL⟩, ?_, by (cbv; repeat' (first | exact True.intro | exact rfl | apply And.intro)) <;> (subst hM; rw [succ_i64 (by omega)])⟩
        simp only; omega
      · have hL := nextL true (by rw [stepL]; rfl)
        cbv
        rw [show M .arith .add .i64 (Int.ofNat j) 1 = _ from e1]
        refine .mk _ (Int.natCast_nonneg _) lx' ?_
        cbv
        refine .mk _ (Int.natCast_nonneg _) lx' ?_
        cbv
        refine ⟨⟨j + 1, _, _⟩, ⟨hlt, hE, hL⟩, ?_, by (cbv; repeat' (first | exact True.intro | exact rfl | apply And.intro)) <;> (subst hM; rw [succ_i64 (by omega)])⟩
        simp only; omega
    · have hE := nextE me (by rw [stepE]; rfl)
      have hk := keep me
      cbv
      refine .mk _ (Int.natCast_nonneg _) ga' ?_
      cbv
      refine .mk _ (Int.natCast_nonneg _) gb' ?_
      cbv
      refine .mk _ (use_call hC cmeet) ?_
      cbv
      rw [show M .arith .add .i64 (Int.ofNat j) 1 = _ from e1]
      refine .mk _ (Int.natCast_nonneg _) ex' ?_
      cbv
      refine .mk _ (Int.natCast_nonneg _) ex' ?_
      cbv
      refine .mk _ (Int.natCast_nonneg _) lj' ?_
      cbv
      refine .mk _ (Int.natCast_nonneg _) lj' ?_
      cbv
      cases blj
      · have hL := nextL (M .cmp .lss an bx) (by rw [stepL]; subst hM; rfl)
        cbv
        refine .mk _ (Int.natCast_nonneg _) hk ?_
        cbv
        refine .mk _ (Int.natCast_nonneg _) hk ?_
        cbv
        refine .mk _ (Int.natCast_nonneg _) ga' ?_
        cbv
        refine .mk _ (use_call hC (c_domMin ao an ax az aw)) ?_
        cbv
        refine .mk _ (Int.natCast_nonneg _) gb' ?_
        cbv
        refine .mk _ (use_call hC (c_domMax bo bn bx bz bw)) ?_
        cbv
        rw [show M .arith .add .i64 (Int.ofNat j) 1 = _ from e1]
        refine .mk _ (Int.natCast_nonneg _) lx' ?_
        cbv
        refine .mk _ (Int.natCast_nonneg _) lx' ?_
        cbv
        refine ⟨⟨j + 1, _, _⟩, ⟨hlt, hE, hL⟩, ?_, by (cbv; repeat' (first | exact True.intro | exact rfl | apply And.intro)) <;> (subst hM; rw [succ_i64 (by omega)])⟩
        simp only; omega
      · have hL := nextL true (by rw [stepL]; rfl)
        cbv
        rw [show M .arith .add .i64 (Int.ofNat j) 1 = _ from e1]
        refine .mk _ (Int.natCast_nonneg _) lx' ?_
        cbv
        refine .mk _ (Int.natCast_nonneg _) lx' ?_
        cbv
        refine ⟨⟨j + 1, _, _⟩, ⟨hlt, hE, hL⟩, ?_, by (cbv; repeat' (first | exact True.intro | exact rfl | apply And.intro)) <;> (subst hM; rw [succ_i64 (by omega)])⟩
        simp only; omega
  · have hj2 : j = n := by subst hM; have h := of_decide_eq_false h; have h : ¬ (j : Int) < (ra.length : Int) := h; omega
    subst hj2
    clear h
    have hE : E = re := by rw [hre]; exact bl_ext el fun i hi => eg i (by omega)
    have hL : L = rbe := by rw [hrb]; exact bl_ext ll fun i hi => lg i (by omega)
    subst hE hL
    clear el eg er ll lg lr hre hrb
    have e1 : M .arith .sub .i64 (Int.ofNat (M .len ra)) 1 = (j : Int) - 1 := by
      rw [elen]; subst hM
      exact wrap_i64 (by omega) (by omega)
    refine Loop.over (Nat × Int × List (List PV)) (fun q => [(.t 8, I q.2.1), (.a 3, .arr 0 4 1 q.2.2), (.t 28, .junk), (.t 29, .junk)]) 5 (fun q => q.1) (fun q => q.1 ≤ j ∧ q.2.1 = (q.1 : Int) - 1 ∧ q.2.2.length = j + 1 ∧ (∀ i, q.1 ≤ i → i < j + 1 → q.2.2[i]? = some [B (restS a b i)]) ∧ ∀ i, i < j + 1 → ∃ x : Bool, q.2.2[i]? = some [B x]) (j, M .arith .sub .i64 (Int.ofNat (M .len ra)) 1, M .set zz (Int.ofNat (M .len ra)) [B true]) ⟨Nat.le_refl _, e1, znl, fun i h1 h2 => by
      obtain rfl : i = j := by simp only at h1; omega
      rw [rest_end]; exact zng, fun i hi => znr i hi⟩ (by (cbv; repeat' (first | exact True.intro | exact rfl | apply And.intro))) ?_
    clear e1 znl zng znr rest_end
    rintro ⟨m, iv, T⟩ ⟨hm, hiv, tl, tg, tr⟩
    simp only at hm hiv tl tg tr
    cbv
    split <;> rename_i h <;> (try simp only [h]) <;> (try cbv) <;> (try simp only [ncast] at *)
    · obtain ⟨i, rfl⟩ : ∃ i, m = i + 1 := ⟨m - 1, by subst hM; have h := of_decide_eq_true h; have h : iv ≥ 0 := h; omega⟩
      clear h
      have hivn : iv = (i : Int) := by omega
      have iv0 : 0 ≤ iv := by omega
      have hi : i < j := by omega
      have hstep := restS_step (a := a) (b := b) (i := i) (by omega) (by omega)
      have e3 : M .arith .sub .i64 iv 1 = (i : Int) - 1 := by subst hM; rw [hivn]; exact wrap_i64 (by omega) (by omega)
      have e4 : M .arith .add .i64 iv 1 = ((i + 1 : Nat) : Int) := by subst hM; rw [hivn]; show IntKind.i64.wrap ((i : Int) + 1) = _; rw [wrap_i64 (by omega) (by omega)]; omega
      have tn := tg (i + 1) (Nat.le_refl _) (by omega)
      have tn' : T[(((i + 1 : Nat) : Int)).toNat]? = some [B (restS a b (i + 1))] := tn
      have tn0 : (0 : Int) ≤ ((i + 1 : Nat) : Int) := Int.natCast_nonneg _
      obtain ⟨xi, ti⟩ := tr i (by omega)
      have ti' : T[iv.toNat]? = some [B xi] := by rw [hivn]; exact ti
      obtain ⟨ao, aw, an, ax, az, ga, DA⟩ := Da.at (j := i) (by omega)
      obtain ⟨bo, bw, bn, bx, bz, gb, DB⟩ := Db.at (j := i) (by omega)
      have ga' : ra[iv.toNat]? = some [I ao, .list 1 aw, I an, I ax, I az] := by rw [hivn]; exact ga
      have gb' : rb[iv.toNat]? = some [I bo, .list 1 bw, I bn, I bx, I bz] := by rw [hivn]; exact gb
      have cmeet := c_meet _ _ _ _ _ _ DA _ _ _ _ _ _ DB _ rfl
      rw [← DA.mn, ← DB.mx] at hstep
      have next : ∀ x, x = restS a b i → (M .set T iv [B x]).length = j + 1 ∧ (∀ k, i ≤ k → k < j + 1 → (M .set T iv [B x])[k]? = some [B (restS a b k)]) ∧ ∀ k, k < j + 1 → ∃ x' : Bool, (M .set T iv [B x])[k]? = some [B x'] := fun x hx => by
        rw [hivn, show M .set T (i : Int) [B x] = T.set i [B x] from hst T i x]
        refine ⟨by simp [tl], fun k h1 h2 => ?_, fun k hk => ?_⟩
        · by_cases e : k = i
          · subst e; rw [List.getElem?_set_self (by omega), hx]
          · rw [List.getElem?_set_ne (by omega)]; exact tg k (by omega) h2
        · by_cases e : k = i
          · subst e; exact ⟨x, List.getElem?_set_self (by omega)⟩
          · rw [List.getElem?_set_ne (by omega)]; exact tr k hk
      generalize meetS (a.getD i []) (b.getD i []) = me at cmeet hstep
      generalize restS a b (i + 1) = rn at tn' hstep
      generalize restS a b i = ri at hstep next
      clear ti tn tg tr ga gb DA DB hst
      have hlss : M .cmp .lss an bx = decide (an < bx) := by subst hM; rfl
      rw [← hlss] at hstep
      refine .mk _ iv0 ga' ?_
      cbv
      refine .mk _ (use_call hC (c_domMin ao an ax az aw)) ?_
      cbv
      refine .mk _ iv0 gb' ?_
      cbv
      refine .mk _ (use_call hC (c_domMax bo bn bx bz bw)) ?_
      cbv
      generalize M .cmp .lss an bx = lt at hstep hlss
      cases lt
      · cbv
        refine .mk _ iv0 ga' ?_
        cbv
        refine .mk _ iv0 gb' ?_
        cbv
        refine .mk _ (use_call hC cmeet) ?_
        cbv
        cases me
        · have hN := next false (by rw [hstep]; rfl)
          cbv
          refine .mk _ iv0 ti' ?_
          cbv
          refine .mk _ iv0 ti' ?_
          cbv
          refine ⟨⟨i, _, _⟩, ⟨by omega, e3, hN⟩, ?_, by (cbv; repeat' (first | exact True.intro | exact rfl | apply And.intro))⟩
          simp only; omega
        · have hN := next rn (by rw [hstep]; rfl)
          cbv
          rw [show M .arith .add .i64 iv 1 = _ from e4]
          refine .mk _ tn0 tn' ?_
          cbv
          refine .mk _ tn0 tn' ?_
          cbv
          refine .mk _ iv0 ti' ?_
          cbv
          refine .mk _ iv0 ti' ?_
          cbv
          refine ⟨⟨i, _, _⟩, ⟨by omega, e3, hN⟩, ?_, by (cbv; repeat' (first | exact True.intro | exact rfl | apply And.intro))⟩
          simp only; omega
      · have hN := next true (by rw [hstep]; rfl)
        cbv
        refine .mk _ iv0 ti' ?_
        cbv
        refine .mk _ iv0 ti' ?_
        cbv
        refine ⟨⟨i, _, _⟩, ⟨by omega, e3, hN⟩, ?_, by (cbv; repeat' (first | exact True.intro | exact rfl | apply And.intro))⟩
        simp only; omega
    · have hm0 : m = 0 := by subst hM; have h := of_decide_eq_false h; have h : ¬ iv ≥ 0 := h; omega
      subst hm0
      have hT : T = rr := by rw [hrr]; exact bl_ext tl fun i hi => tg i (Nat.zero_le _) hi
      subst hT
      cbv
end Go.Pi

/- Package lexi: what may be at a place; two rows' domains filtered. -/
namespace Go.Pi
open Go
set_option linter.unusedVariables false
set_option linter.unusedSimpArgs false

theorem c_left (ra rb re rbe rr : List (List PV)) (i : Nat) (v : Int) (ev be rn : Bool) (hi : i ≤ 1000000) (ge : re[i]? = some [B ev]) (gl : rbe[i]? = some [B be]) (gr : rr[i + 1]? = some [B rn]) (off mn mx sz : Int) (ws : List (List PV)) (l : List Int) (gb : rb[i]? = some [I off, .list 1 ws, I mn, I mx, I sz]) (D : DomR off ws mn mx sz l) (y : Bool) (hy : y = (be || ev && (decide (v < mx) || l.contains v && rn))) (ii : Int) (hii : ii = i) :
    Call .plain 117 [.agg [.list 5 ra, .list 5 rb, .list 1 re, .list 1 rbe, .list 1 rr], I ii, I v] (B y) := by
  have ch := c_domHas off mn mx sz ws l D v _ rfl
  generalize l.contains v = hv at ch hy
  have n0 : 0 ≤ ii := by omega
  have ge' : re[ii.toNat]? = some [B ev] := by rw [hii]; exact ge
  have gl' : rbe[ii.toNat]? = some [B be] := by rw [hii]; exact gl
  have gb' : rb[ii.toNat]? = some [I off, .list 1 ws, I mn, I mx, I sz] := by rw [hii]; exact gb
  have gr' : rr[(((i + 1 : Nat) : Int)).toNat]? = some [B rn] := gr
  have nr : (0 : Int) ≤ ((i + 1 : Nat) : Int) := Int.natCast_nonneg _
  refine call_of Proofs.Tryz.func117 Proofs.Tryz.call117 rfl rfl fun M C hM hC => ?_
  have e1 : M .arith .add .i64 ii 1 = ((i + 1 : Nat) : Int) := by subst hM; rw [hii]; show IntKind.i64.wrap ((i : Int) + 1) = _; rw [wrap_i64 (by omega) (by omega)]; omega
  have e2 : M .cmp .lss v mx = decide (v < mx) := by subst hM; rfl
  generalize decide (v < mx) = lt at e2 hy
  clear D ge gl gb gr hii
  cbv
  refine .mk _ n0 gl' ?_
  cbv
  cases be
  · cbv
    refine .mk _ n0 ge' ?_
    cbv
    cases ev
    · cbv
      rw [hy]; rfl
    · cbv
      refine .mk _ n0 gb' ?_
      cbv
      refine .mk _ (use_call hC (c_domMax off mn mx sz ws)) ?_
      cbv
      simp only [e2]
      cases lt
      · cbv
        refine .mk _ n0 gb' ?_
        cbv
        refine .mk _ (use_call hC ch) ?_
        cbv
        cases hv
        · cbv
          rw [hy]; rfl
        · cbv
          rw [show M .arith .add .i64 ii 1 = _ from e1]
          refine .mk _ nr gr' ?_
          cbv
          rw [hy]; rfl
      · cbv
        rw [hy]; rfl
  · cbv
    rw [hy]; rfl
theorem c_rightL (ra rb re rbe rr : List (List PV)) (i : Nat) (v : Int) (ev be rn : Bool) (hi : i ≤ 1000000) (ge : re[i]? = some [B ev]) (gl : rbe[i]? = some [B be]) (gr : rr[i + 1]? = some [B rn]) (off mn mx sz : Int) (ws : List (List PV)) (l : List Int) (gb : ra[i]? = some [I off, .list 1 ws, I mn, I mx, I sz]) (D : DomR off ws mn mx sz l) (y : Bool) (hy : y = (be || ev && (decide (v > mn) || l.contains v && rn))) (ii : Int) (hii : ii = i) :
    Call .plain 118 [.agg [.list 5 ra, .list 5 rb, .list 1 re, .list 1 rbe, .list 1 rr], I ii, I v] (B y) := by
  have ch := c_domHas off mn mx sz ws l D v _ rfl
  generalize l.contains v = hv at ch hy
  have n0 : 0 ≤ ii := by omega
  have ge' : re[ii.toNat]? = some [B ev] := by rw [hii]; exact ge
  have gl' : rbe[ii.toNat]? = some [B be] := by rw [hii]; exact gl
  have gb' : ra[ii.toNat]? = some [I off, .list 1 ws, I mn, I mx, I sz] := by rw [hii]; exact gb
  have gr' : rr[(((i + 1 : Nat) : Int)).toNat]? = some [B rn] := gr
  have nr : (0 : Int) ≤ ((i + 1 : Nat) : Int) := Int.natCast_nonneg _
  refine call_of Proofs.Tryz.func118 Proofs.Tryz.call118 rfl rfl fun M C hM hC => ?_
  have e1 : M .arith .add .i64 ii 1 = ((i + 1 : Nat) : Int) := by subst hM; rw [hii]; show IntKind.i64.wrap ((i : Int) + 1) = _; rw [wrap_i64 (by omega) (by omega)]; omega
  have e2 : M .cmp .gtr v mn = decide (v > mn) := by subst hM; rfl
  generalize decide (v > mn) = lt at e2 hy
  clear D ge gl gb gr hii
  cbv
  refine .mk _ n0 gl' ?_
  cbv
  cases be
  · cbv
    refine .mk _ n0 ge' ?_
    cbv
    cases ev
    · cbv
      rw [hy]; rfl
    · cbv
      refine .mk _ n0 gb' ?_
      cbv
      refine .mk _ (use_call hC (c_domMin off mn mx sz ws)) ?_
      cbv
      simp only [e2]
      cases lt
      · cbv
        refine .mk _ n0 gb' ?_
        cbv
        refine .mk _ (use_call hC ch) ?_
        cbv
        cases hv
        · cbv
          rw [hy]; rfl
        · cbv
          rw [show M .arith .add .i64 ii 1 = _ from e1]
          refine .mk _ nr gr' ?_
          cbv
          rw [hy]; rfl
      · cbv
        rw [hy]; rfl
  · cbv
    rw [hy]; rfl

theorem c_kept (off mn mx sz : Int) (ws : List (List PV)) (l : List Int) (D : DomR off ws mn mx sz l) (h64 : l.length ≤ 1000000) (i : Int) (g : FuncId) (ra rb re rbe rr : List (List PV)) (p : Int → Bool) (hg : ∀ v ∈ l, Call .plain g [.agg [.list 5 ra, .list 5 rb, .list 1 re, .list 1 rbe, .list 1 rr], I i, I v] (B (p v))) (r : List (List PV)) (hr : r = ints (l.filter p)) :
    Call .plain 116 [.agg [I off, .list 1 ws, I mn, I mx, I sz], I i, .clo (.func g) [.agg [.list 5 ra, .list 5 rb, .list 1 re, .list 1 rbe, .list 1 rr]] []] (.list 1 r) := by
  obtain ⟨rl, hrl⟩ : ∃ rl, rl = ints l := ⟨_, rfl⟩
  have cl := c_domList off mn mx sz ws l D rl hrl
  clear D
  refine call_of Proofs.Tryz.func116 Proofs.Tryz.call116 rfl rfl fun M C hM hC => ?_
  cbv
  refine .mk _ (use_call hC cl) ?_
  cbv
  refine Loop.over (Nat × List (List PV)) (fun q => [(.t 13, I q.1), (.t 7, .own 1 0), (.a 1, .arr 0 3 1 q.2), (.i 1, .inf true 0)]) 2 (fun q => l.length - q.1) (fun q => q.1 ≤ l.length ∧ q.2 = ints ((l.take q.1).filter p)) (0, []) ⟨Nat.zero_le _, rfl⟩ (by (cbv; repeat' (first | exact True.intro | exact rfl | apply And.intro))) ?_
  rintro ⟨j, q⟩ ⟨hj, hq⟩
  simp only at hj hq
  cbv
  split <;> rename_i h <;> (try simp only [h]) <;> (try cbv) <;> (try simp only [ncast] at *)
  · have hlt : j < l.length := by subst hM; simpa [hrl] using h
    clear h
    refine nidx_ints hrl hlt fun v hv => ?_
    have cg := hg v (by rw [hv]; exact getD_mem 0 hlt)
    have hql : q.length ≤ j := by
      rw [hq, ints_len]
      refine Nat.le_trans (List.length_filter_le _ _) (by rw [List.length_take]; omega)
    have few : (M .app q [[I v]]).length ≤ 2147483648 := by subst hM; rw [real_app, List.length_append]; simp; omega
    have step : ∀ b : Bool, b = p v → (b = true → M .app q [[I v]] = ints ((l.take (j + 1)).filter p)) ∧ (b = false → q = ints ((l.take (j + 1)).filter p)) := fun b hb => by
      rw [take_succ_getD 0 hlt, List.filter_append, ← hv]
      constructor
      · intro h
        subst hM
        rw [hb] at h
        rw [real_app, hq]
        simp [h, ints]
      · intro h
        rw [hb] at h
        rw [hq]
        simp [h]
    obtain ⟨pv, hpv⟩ : ∃ pv, pv = p v := ⟨_, rfl⟩
    rw [← hpv] at cg
    obtain ⟨s1, s2⟩ := step pv hpv
    clear step hq hpv hv
    cbv
    refine .mk _ (use_call hC cg) ?_
    cbv
    cases pv
    · have s2 := s2 rfl
      cbv
      refine ⟨⟨j + 1, q⟩, ⟨hlt, s2⟩, ?_, by (cbv; repeat' (first | exact True.intro | exact rfl | apply And.intro)) <;> (subst hM; rw [succ_i64 (by omega)])⟩
      simp only; omega
    · have s1 := s1 rfl
      cbv
      refine .mk few ?_
      cbv
      refine ⟨⟨j + 1, _⟩, ⟨hlt, s1⟩, ?_, by (cbv; repeat' (first | exact True.intro | exact rfl | apply And.intro)) <;> (subst hM; rw [succ_i64 (by omega)])⟩
      simp only; omega
  · have hj2 : j = l.length := by subst hM; simp [hrl] at h; omega
    subst hj2
    rw [List.take_length] at hq
    exact ⟨hq.trans hr.symm, trivial⟩

theorem domL_len {l : List Int} (h : DomL l) : l.length ≤ 65536 := by
  have key : ∀ (l : List Int) (a b : Int), Rising l → (∀ v ∈ l, a ≤ v ∧ v < b) → (l.length : Int) ≤ max 0 (b - a) := by
    intro l
    induction l with
    | nil => intro a b _ _; simp; omega
    | cons x r ih =>
      intro a b hr h
      have h' := List.pairwise_cons.1 hr
      have hx := h x (by simp)
      have := ih (x + 1) b h'.2 fun v hv => ⟨by have := h'.1 v hv; omega, (h v (by simp [hv])).2⟩
      simp only [List.length_cons]
      omega
  by_cases e : l = []
  · rw [e]; simp
  · have := key l (headS l) (headS l + 65536) h.rising fun v hv => ⟨headS_le h.rising v hv, by have := h.wide v hv _ (headS_mem e); omega⟩
    omega

set_option maxHeartbeats 1000000 in
theorem c_lexFilter (c : Con) (kind K : Int) (rA rB rC rD rE rR : List (List PV)) (H : ConR c kind rA rB rC rD rE K rR) (la : lim rA) (lb : lim rB) (lc : lim rC) (ld : lim rD) (le : lim rE) (lr : lim rR) (rows : List (List PV)) (ds : List (List Int)) (D : DomsR rows ds) (h64 : ds.length ≤ 1000000) (hd : ∀ d ∈ ds, DomL d) (y : Bool) (hy : y = (fitsD c ds 22 22 && someL (leftL ds (lexP ds c.A.length)))) :
    ∃ rows', (y = true → DomsR rows' (leftL ds (lexP ds c.A.length))) ∧ (y = false → rows' = []) ∧ Call .plain 49 [.agg [I kind, .list 1 rA, .list 1 rB, .list 1 rC, .list 1 rD, .list 1 rE, I K, .list 1 rR], .list 5 rows] (.tup [.list 5 rows', B y]) := by
  have cf := c_propFits c kind K rA rB rC rD rE rR H la lb lc ld le lr rows ds D h64 22 22 _ rfl
  have lA : (rA.length : Int) = c.A.length := by rw [H.A]; simp
  cases hf : fitsD c ds 22 22 with
  | false =>
    rw [hf] at cf hy
    have hy : y = false := hy
    refine ⟨[], fun h => (by rw [hy] at h; cases h), fun _ => rfl, ?_⟩
    clear H la lb lc ld le lr D hd hf
    refine call_of Proofs.Tryz.func49 Proofs.Tryz.call49 rfl rfl fun M C hM hC => ?_
    have nf : M .not false = true := by subst hM; rfl
    cbv
    refine .mk _ (use_call hC cf) ?_
    cbv
    simp only [nf]
    cbv
    rw [hy]
    (cbv; repeat' (first | exact True.intro | exact rfl | apply And.intro))
  | true =>
    rw [hf] at cf hy
    simp only [fitsD, Bool.and_eq_true, decide_eq_true_eq] at hf
    obtain ⟨f1, f2, f3, f4, f5⟩ := hf
    have hk : c.kind = 22 := by omega
    have R := rightS_ok.1 f3
    have ln := R.lens.A
    have hBA : c.B.length = c.A.length := by
      have := R.alike
      unfold alikeS at this
      rw [if_neg (by omega), if_neg (by omega), if_neg (by omega), if_pos (.inl hk)] at this
      simpa using this
    obtain ⟨n, hn⟩ : ∃ n, n = c.A.length := ⟨_, rfl⟩
    rw [← hn] at lA ln hBA f4
    rw [← hn] at hy ⊢
    obtain ⟨a, ha⟩ : ∃ a, a = ds.take n := ⟨_, rfl⟩
    obtain ⟨b, hb⟩ : ∃ b, b = ds.drop n := ⟨_, rfl⟩
    have hal : a.length = n := by rw [ha, List.length_take]; omega
    have hbl : b.length = n := by rw [hb, List.length_drop]; omega
    have hab : ds = a ++ b := by rw [ha, hb, List.take_append_drop]
    obtain ⟨ra, hra⟩ : ∃ ra, ra = rows.take n := ⟨_, rfl⟩
    obtain ⟨rb, hrb⟩ : ∃ rb, rb = rows.drop n := ⟨_, rfl⟩
    have rl : rows.length = ds.length := D.len
    have Da : DomsR ra a := by
      have := D.sub 0 n
      simpa [← hra, ← ha] using this
    have Db : DomsR rb b := by
      have := D.sub n n
      rw [List.take_of_length_le (by rw [List.length_drop]; omega), List.take_of_length_le (by rw [List.length_drop]; omega)] at this
      rw [hrb, hb]; exact this
    obtain ⟨re, hre⟩ : ∃ re, re = bl (evenS a b) (n + 1) := ⟨_, rfl⟩
    obtain ⟨rbe, hrbe⟩ : ∃ re, re = bl (belowS a b) (n + 1) := ⟨_, rfl⟩
    obtain ⟨rr, hrr⟩ : ∃ re, re = bl (restS a b) (n + 1) := ⟨_, rfl⟩
    have ck := c_known ra rb a b Da Db n hal hbl (by omega) re rbe rr hre hrbe hrr
    have had : ∀ i, i < n → DomL (a.getD i []) := fun i hi => hd _ (by rw [hab]; exact List.mem_append_left _ (getD_mem [] (by omega)))
    have hbd : ∀ i, i < n → DomL (b.getD i []) := fun i hi => hd _ (by rw [hab]; exact List.mem_append_right _ (getD_mem [] (by omega)))
    -- what is kept at a place
    have kl : ∀ i, i < n → ∃ off ws mn mx sz, ra[i]? = some [I off, .list 1 ws, I mn, I mx, I sz] ∧ ∀ (ii : Int), ii = i → ∀ r, r = ints ((a.getD i []).filter (lftS a b i)) → Call .plain 116 [.agg [I off, .list 1 ws, I mn, I mx, I sz], I ii, .clo (.func 117) [.agg [.list 5 ra, .list 5 rb, .list 1 re, .list 1 rbe, .list 1 rr]] []] (.list 1 r) := fun i hi => by
      obtain ⟨off, ws, mn, mx, sz, g1, D1⟩ := Da.at (j := i) (by omega)
      obtain ⟨eo, ew, en, ex, ez, g2, D2⟩ := Db.at (j := i) (by omega)
      refine ⟨off, ws, mn, mx, sz, g1, fun ii hii r hr => c_kept off mn mx sz ws _ D1 (by have := domL_len (had i hi); omega) ii _ ra rb re rbe rr (lftS a b i) (fun v _ => ?_) r hr⟩
      refine c_left ra rb re rbe rr i v _ _ _ (by omega) (by rw [hre]; exact bl_get _ (by omega)) (by rw [hrbe]; exact bl_get _ (by omega)) (by rw [hrr]; exact bl_get _ (by omega)) eo en ex ez ew _ g2 D2 _ ?_ ii hii
      rw [D2.mx]; rfl
    have kr : ∀ i, i < n → ∃ off ws mn mx sz, rb[i]? = some [I off, .list 1 ws, I mn, I mx, I sz] ∧ ∀ (ii : Int), ii = i → ∀ r, r = ints ((b.getD i []).filter (rgtS a b i)) → Call .plain 116 [.agg [I off, .list 1 ws, I mn, I mx, I sz], I ii, .clo (.func 118) [.agg [.list 5 ra, .list 5 rb, .list 1 re, .list 1 rbe, .list 1 rr]] []] (.list 1 r) := fun i hi => by
      obtain ⟨off, ws, mn, mx, sz, g1, D1⟩ := Db.at (j := i) (by omega)
      obtain ⟨eo, ew, en, ex, ez, g2, D2⟩ := Da.at (j := i) (by omega)
      refine ⟨off, ws, mn, mx, sz, g1, fun ii hii r hr => c_kept off mn mx sz ws _ D1 (by have := domL_len (hbd i hi); omega) ii _ ra rb re rbe rr (rgtS a b i) (fun v _ => ?_) r hr⟩
      refine c_rightL ra rb re rbe rr i v _ _ _ (by omega) (by rw [hre]; exact bl_get _ (by omega)) (by rw [hrbe]; exact bl_get _ (by omega)) (by rw [hrr]; exact bl_get _ (by omega)) eo en ex ez ew _ g2 D2 _ ?_ ii hii
      rw [D2.mn]; rfl
    obtain ⟨F, hF⟩ : ∃ F : Nat → List Int, F = fun i => (ds.getD i []).filter (lexP ds n i) := ⟨_, rfl⟩
    have Fl : ∀ i, i < n → F i = (a.getD i []).filter (lftS a b i) := fun i hi => by
      rw [hF]
      simp only
      rw [hab, show (a ++ b).getD i [] = a.getD i [] by simp [List.getD_eq_getElem?_getD, List.getElem?_append_left, show i < a.length by omega]]
      refine List.filter_congr fun v _ => ?_
      have := lexP_left (a := a) (b := b) (i := i) (v := v) (by omega) (by omega)
      rw [hal] at this; exact this
    have Fr : ∀ i, i < n → F (n + i) = (b.getD i []).filter (rgtS a b i) := fun i hi => by
      rw [hF]
      simp only
      rw [hab, show (a ++ b).getD (n + i) [] = b.getD i [] by simp [List.getD_eq_getElem?_getD, List.getElem?_append_right, show a.length ≤ n + i by omega, hal]]
      refine List.filter_congr fun v _ => ?_
      have := lexP_right (a := a) (b := b) (i := i) (v := v) (by omega) (by omega)
      rw [hal] at this; exact this
    have hout : leftL ds (lexP ds n) = (List.range (n + n)).map F := by
      rw [leftL, show ds.length = n + n by omega, hF]
    obtain ⟨O, hO⟩ : ∃ O, O = leftL ds (lexP ds n) := ⟨_, rfl⟩
    have hOd : ∀ l ∈ O, DomL l := by
      intro l hl
      rw [hO, leftL] at hl
      obtain ⟨i, hi, rfl⟩ := List.mem_map.1 hl
      exact (hd _ (getD_mem [] (List.mem_range.1 hi))).filter _
    obtain ⟨rO, hrO⟩ : ∃ r, r = rowsOf O := ⟨_, rfl⟩
    have hOl : O.length = n + n := by rw [hO, hout]; simp
    rw [← hO] at hy ⊢
    rw [← hO] at hout
    have hy : y = someL O := hy
    obtain ⟨rows', m1, m2, cm⟩ := c_propMade rO O hrO (by omega) hOd y hy
    refine ⟨rows', m1, m2, ?_⟩
    have hra2 : (ra.length : Int) = n := by rw [Da.len, hal]
    have hrb2 : (rb.length : Int) = n := by rw [Db.len, hbl]
    have hrl2 : (rows.length : Int) = n + n := by omega
    clear m1 m2 hOd hO hF hd f5 f4 f3 R Da Db hre hrbe hrr had hbd ha hb hab hal hbl D H la lb lc ld le lr hy hn hBA
    refine call_of Proofs.Tryz.func49 Proofs.Tryz.call49 rfl rfl fun M C hM hC => ?_
    have nt : M .not true = false := by subst hM; rfl
    have elen : (Int.ofNat (M .len rA) : Int) = (n : Int) := by subst hM; exact lA
    have l1 : (0 : Int) ≤ Int.ofNat (M .len rA) := Int.natCast_nonneg _
    have l2 : (Int.ofNat (M .len rA) : Int) ≤ Int.ofNat (M .len rows) := by rw [elen]; subst hM; show (n : Int) ≤ (rows.length : Int); omega
    have s1 : M .sub rows 0 (Int.ofNat (M .len rA)) = ra := by
      rw [elen]; subst hM
      show ((rows.drop 0).take ((n : Int) - 0).toNat) = ra
      rw [hra]; simp
    have s2 : M .sub rows (Int.ofNat (M .len rA)) (Int.ofNat (M .len rows)) = rb := by
      rw [elen]; subst hM
      show ((rows.drop ((n : Int)).toNat).take ((rows.length : Int) - (n : Int)).toNat) = rb
      rw [hrb, Int.toNat_natCast, List.take_of_length_le (by rw [List.length_drop]; omega)]
    cbv
    refine .mk _ (use_call hC cf) ?_
    cbv
    simp only [nt]
    cbv
    refine .mk l1 (.mk l2 ?_)
    cbv
    refine .mk l1 (.mk l2 ?_)
    rw [show M .sub rows 0 _ = _ from s1, show M .sub rows _ _ = _ from s2]
    cbv
    refine .mk _ (use_call hC ck) ?_
    cbv
    have stepF : ∀ (q : List (List PV)) (k : Nat) (r : List (List PV)), q = rowsOf ((List.range k).map F) → r = ints (F k) → k ≤ 1000 → M .app q [[.list 1 r]] = rowsOf ((List.range (k + 1)).map F) ∧ (M .app q [[.list 1 r]]).length ≤ 2147483648 := fun q k r hq hr hk => by
      subst hM
      rw [real_app]
      refine ⟨?_, ?_⟩
      · rw [hq, hr, range_map_succ]; simp [rowsOf]
      · rw [hq, List.length_append]; simp; omega
    refine Loop.over (Nat × List (List PV)) (fun q => [(.t 30, I q.1), (.t 8, .own 2 0), (.a 2, .arr 0 25 1 q.2), (.i 2, .inf true 0)]) 3 (fun q => n - q.1) (fun q => q.1 ≤ n ∧ q.2 = rowsOf ((List.range q.1).map F)) (0, []) ⟨Nat.zero_le _, rfl⟩ (by (cbv; repeat' (first | exact True.intro | exact rfl | apply And.intro))) ?_
    rintro ⟨j, q⟩ ⟨hj, hq⟩
    simp only at hj hq
    cbv
    split <;> rename_i h <;> (try simp only [h]) <;> (try cbv) <;> (try simp only [ncast] at *)
    · have hlt : j < n := by subst hM; have h := of_decide_eq_true h; have h : (j : Int) < (ra.length : Int) := h; omega
      clear h
      obtain ⟨off, ws, mn, mx, sz, g1, ckp⟩ := kl j hlt
      have g1' : ra[(Int.ofNat j).toNat]? = some [I off, .list 1 ws, I mn, I mx, I sz] := g1
      obtain ⟨r, hr⟩ : ∃ r, r = ints (F j) := ⟨_, rfl⟩
      have ckp := ckp (Int.ofNat j) rfl r (by rw [hr, Fl j hlt])
      obtain ⟨st, few⟩ := stepF q j r hq hr (by omega)
      clear hq hr g1 kl kr Fl Fr stepF s1 s2
      refine .mk _ (Int.natCast_nonneg _) g1' ?_
      cbv
      refine .mk _ (use_call hC ckp) ?_
      cbv
      refine .mk few ?_
      cbv
      refine ⟨⟨j + 1, _⟩, ⟨hlt, st⟩, ?_, by (cbv; repeat' (first | exact True.intro | exact rfl | apply And.intro)) <;> (subst hM; rw [succ_i64 (by omega)])⟩
      simp only; omega
    · have hj2 : j = n := by subst hM; have h := of_decide_eq_false h; have h : ¬ (j : Int) < (ra.length : Int) := h; omega
      subst hj2
      clear h
      refine Loop.over (Nat × List (List PV)) (fun q => [(.t 47, I q.1), (.t 8, .own 2 0), (.a 2, .arr 0 25 1 q.2)]) 3 (fun q => j - q.1) (fun q => q.1 ≤ j ∧ q.2 = rowsOf ((List.range (j + q.1)).map F)) (0, q) ⟨Nat.zero_le _, hq⟩ (by (cbv; repeat' (first | exact True.intro | exact rfl | apply And.intro))) ?_
      clear hq
      rintro ⟨k, q⟩ ⟨hk, hq⟩
      simp only at hk hq
      cbv
      split <;> rename_i h <;> (try simp only [h]) <;> (try cbv) <;> (try simp only [ncast] at *)
      · have hlt : k < j := by subst hM; have h := of_decide_eq_true h; have h : (k : Int) < (rb.length : Int) := h; omega
        clear h
        obtain ⟨off, ws, mn, mx, sz, g1, ckp⟩ := kr k hlt
        have g1' : rb[(Int.ofNat k).toNat]? = some [I off, .list 1 ws, I mn, I mx, I sz] := g1
        obtain ⟨r, hr⟩ : ∃ r, r = ints (F (j + k)) := ⟨_, rfl⟩
        have ckp := ckp (Int.ofNat k) rfl r (by rw [hr, Fr k hlt])
        obtain ⟨st, few⟩ := stepF q (j + k) r hq hr (by omega)
        clear hq hr g1 kl kr Fl Fr stepF s1 s2
        refine .mk _ (Int.natCast_nonneg _) g1' ?_
        cbv
        refine .mk _ (use_call hC ckp) ?_
        cbv
        refine .mk few ?_
        cbv
        refine ⟨⟨k + 1, _⟩, ⟨hlt, st⟩, ?_, by (cbv; repeat' (first | exact True.intro | exact rfl | apply And.intro)) <;> (subst hM; rw [succ_i64 (by omega)])⟩
        simp only; omega
      · have hk2 : k = j := by subst hM; have h := of_decide_eq_false h; have h : ¬ (k : Int) < (rb.length : Int) := h; omega
        subst hk2
        have hq2 : q = rO := by rw [hq, hrO, hout]
        subst hq2
        refine .inl (.mk _ (use_call hC cm) ?_)
        cbv
end Go.Pi
