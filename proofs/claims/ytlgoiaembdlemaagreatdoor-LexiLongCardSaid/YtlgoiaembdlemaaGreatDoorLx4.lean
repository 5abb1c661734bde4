/- Package jigsawlaw21: its small functions; LexiFilters. -/
import Derived.Test.YtlgoiaembdlemaaGreatDoorMLx1ToLx2
import Derived.Test.YtlgoiaembdlemaaGreatDoorLx3
import Derived.Test.YtlgoiaembdlemaaGreatDoorPie
set_option linter.unusedSimpArgs false
set_option linter.unusedVariables false
namespace Go.Pi
open Go
set_option linter.unusedVariables false
set_option linter.unusedSimpArgs false

theorem c_kind21 (n : Int) : Call .plain 48 [U8 n] (I 22) := by
  refine call_of Proofs.Tryz.func48 Proofs.Tryz.call48 rfl rfl fun M C hM hC => ?_
  cbv
  subst hM
  rw [real_mul, Int.zero_mul, real_add, show IntKind.i64.wrap 0 = 0 from rfl, Int.add_zero]
  rfl

def wakeA : Con := ⟨22, [0, 1], [2, 3], [], [], [], 0, []⟩
def wakeB : Con := ⟨22, [0], [1], [], [], [], 0, []⟩
theorem lim_nil : lim [] := by unfold lim; simp
theorem lim_le {l : List (List PV)} (h : l.length ≤ 1000000) : lim l := by unfold lim; omega
theorem wakeA_is : (fitsD wakeA [rangeL 2 3, ofL [5], rangeL 1 2, rangeL 1 9] 22 22 && someL (leftL [rangeL 2 3, ofL [5], rangeL 1 2, rangeL 1 9] (lexP [rangeL 2 3, ofL [5], rangeL 1 2, rangeL 1 9] 2))) = true := by decide +kernel
theorem wakeA_left : leftL [rangeL 2 3, ofL [5], rangeL 1 2, rangeL 1 9] (lexP [rangeL 2 3, ofL [5], rangeL 1 2, rangeL 1 9] 2) = [[2], [5], [2], [5, 6, 7, 8, 9]] := by decide +kernel
theorem wakeB_is : (fitsD wakeB [ofL [5], rangeL 1 2] 22 22 && someL (leftL [ofL [5], rangeL 1 2] (lexP [ofL [5], rangeL 1 2] 1))) = false := by decide +kernel
theorem range_dom {low high : Int} (h1 : -1000000 ≤ low) (h2 : high ≤ 1000000) (h3 : high - low < 65536) : DomL (rangeL low high) :=
  ⟨rangeL_rising _ _, fun v hv => by have := mem_rangeL.1 hv; omega, fun u hu v hv => by have := mem_rangeL.1 hu; have := mem_rangeL.1 hv; omega⟩

theorem c_wakes21 : Call .plain 52 [] (B true) := by
  obtain ⟨xo, xw, xn, xx, xz, DX, cX⟩ := c_range 2 3 (by decide) (by decide) (by decide) (by decide)
  obtain ⟨yo, yw, yn, yx, yz, DY, cY⟩ := c_of (ints [5]) [5] rfl (by decide)
  obtain ⟨po, pw, pn, px, pz, DP, cP⟩ := c_range 1 2 (by decide) (by decide) (by decide) (by decide)
  obtain ⟨qo, qw, qn, qx, qz, DQ, cQ⟩ := c_range 1 9 (by decide) (by decide) (by decide) (by decide)
  have dx : DomL (rangeL 2 3) := range_dom (by decide) (by decide) (by decide)
  have dp : DomL (rangeL 1 2) := range_dom (by decide) (by decide) (by decide)
  have dq : DomL (rangeL 1 9) := range_dom (by decide) (by decide) (by decide)
  have DA : DomsR [[I xo, .list 1 xw, I xn, I xx, I xz], [I yo, .list 1 yw, I yn, I yx, I yz], [I po, .list 1 pw, I pn, I px, I pz], [I qo, .list 1 qw, I qn, I qx, I qz]] [rangeL 2 3, ofL [5], rangeL 1 2, rangeL 1 9] :=
    DomsR.app (a := [_]) (x := [_]) (.one ⟨_, _, _, _, _, rfl, DX⟩) (DomsR.app (a := [_]) (x := [_]) (.one ⟨_, _, _, _, _, rfl, DY⟩) (DomsR.app (a := [_]) (x := [_]) (.one ⟨_, _, _, _, _, rfl, DP⟩) (.one ⟨_, _, _, _, _, rfl, DQ⟩)))
  have DB : DomsR [[I yo, .list 1 yw, I yn, I yx, I yz], [I po, .list 1 pw, I pn, I px, I pz]] [ofL [5], rangeL 1 2] :=
    DomsR.app (a := [_]) (x := [_]) (.one ⟨_, _, _, _, _, rfl, DY⟩) (.one ⟨_, _, _, _, _, rfl, DP⟩)
  have HA : ConR wakeA 22 [[I 0], [I 1]] [[I 2], [I 3]] [] [] [] 0 [] := ⟨rfl, rfl, rfl, rfl, rfl, rfl, rfl, rfl⟩
  have HB : ConR wakeB 22 [[I 0]] [[I 1]] [] [] [] 0 [] := ⟨rfl, rfl, rfl, rfl, rfl, rfl, rfl, rfl⟩
  have two : ∀ x y : PV, lim [[x], [y]] := fun _ _ => lim_le (by simp)
  have one : ∀ x : PV, lim [[x]] := fun _ => lim_le (by simp)
  obtain ⟨ra, a1, -, fa⟩ := c_lexFilter wakeA 22 0 _ _ _ _ _ _ HA (two _ _) (two _ _) lim_nil lim_nil lim_nil lim_nil _ _ DA (by simp) (by simp only [List.mem_cons, List.not_mem_nil, or_false]; rintro d (rfl | rfl | rfl | rfl) <;> first | assumption | exact ofL_dom _) true wakeA_is.symm
  obtain ⟨rb, -, -, fb⟩ := c_lexFilter wakeB 22 0 _ _ _ _ _ _ HB (one _) (one _) lim_nil lim_nil lim_nil lim_nil _ _ DB (by simp) (by simp only [List.mem_cons, List.not_mem_nil, or_false]; rintro d (rfl | rfl) <;> first | assumption | exact ofL_dom _) false wakeB_is.symm
  have a1 := a1 rfl
  rw [show wakeA.A.length = 2 from rfl, wakeA_left] at a1
  have al : (ra.length : Int) = 4 := by rw [a1.len]; rfl
  obtain ⟨o0, w0, n0, x0, z0, g0, D0⟩ := a1.at (j := 0) (by decide)
  obtain ⟨o3, w3, n3, x3, z3, g3, D3⟩ := a1.at (j := 3) (by decide)
  have hn3 : n3 = 5 := D3.mn
  have cl := c_domList o0 n0 x0 z0 w0 _ D0 (ints [2]) rfl
  have ce := c_equal (ints [2]) [[I 2]] [2] [2] rfl rfl (by decide) true rfl
  have e5 : ofE [5] = 0 := by decide
  rw [e5] at cY
  generalize hr2 : ints [2] = r2 at cl ce
  have hy5 : ints [5] = [[I 5]] := rfl
  rw [hy5] at cY
  clear DX DY DP DQ dx dp dq DA DB HA HB two one D0 D3 a1 hr2 hy5
  refine call_of Proofs.Tryz.func52 Proofs.Tryz.call52 rfl rfl fun M C hM hC => ?_
  have q1 : M .cmp .eql (Int.ofNat (M .len ra)) 4 = true := by
    subst hM
    show ((ra.length : Int) == 4) = true
    rw [al]; rfl
  have q2 : M .cmp .eql n3 5 = true := by subst hM; rw [hn3]; rfl
  have q3 : M .not false = true := by subst hM; rfl
  have g0' : ra[(0 : Int).toNat]? = some [I o0, .list 1 w0, I n0, I x0, I z0] := g0
  have g3' : ra[(3 : Int).toNat]? = some [I o3, .list 1 w3, I n3, I x3, I z3] := g3
  clear g0 g3 al hn3
  cbv
  refine .mk _ (use_call hC cX) ?_
  cbv
  refine .inl (.mk _ (use_call hC cY) ?_)
  cbv
  refine .mk _ (use_call hC cP) ?_
  cbv
  refine .mk _ (use_call hC cQ) ?_
  cbv
  refine .inl (.as _ _ ?_ (use_call hC fa) ?_)
  · (cbv; repeat' (first | exact True.intro | exact rfl | apply And.intro))
  cbv
  refine .inl (.as _ _ ?_ (use_call hC fb) ?_)
  · (cbv; repeat' (first | exact True.intro | exact rfl | apply And.intro))
  cbv
  rw [show M .cmp .eql _ 4 = _ from q1]
  cbv
  refine .mk _ (Int.le_refl _) g0' ?_
  cbv
  refine .mk _ (use_call hC cl) ?_
  cbv
  refine .inl (.mk _ (use_call hC ce) ?_)
  cbv
  refine .mk _ (by decide) g3' ?_
  cbv
  refine .mk _ (use_call hC (c_domMin o3 n3 x3 z3 w3)) ?_
  cbv
  simp only [q2]
  cbv
  simp only [q3]

/-! ### A case of two rows -/
/-- What is known of a case that is made. -/
structure LexCase (c : Con) (ls : List (List Int)) : Prop where
  kind : c.kind = 22
  right : RightOK c 256
  B : c.B.length = c.A.length
  A : c.A.length ≤ 4
  one : 1 ≤ c.A.length
  len : ls.length = c.A.length + c.B.length
  full : Full ls
  dom : ∀ d ∈ ls, DomL d
  few : ∀ d ∈ ls, d.length ≤ 6
theorem lex_case {z : Small} (hA : ∀ v ∈ z.A, 0 ≤ v) (hB : ∀ v ∈ z.B, 0 ≤ v) (ds : List (List Int)) {c : Con} (hc : c = makeS { z with kind := 22 - 1 } 5) : LexCase c (domsS ds 6 (c.A.length + c.B.length)) := by
  have hk : 1 + ({ z with kind := 22 - 1 } : Small).kind.tmod 23 = 22 := kind_is (z := z) (by decide)
  have R := right_22 (vars := 5) hk (by decide) hA hB
  have hm := make_22 (vars := 5) hk
  have hn := nS0_in { z with kind := 22 - 1 }
  rw [← hc] at R hm
  have hAl : c.A.length = nS0 { z with kind := 22 - 1 } := by rw [hm]; simp [places_len]
  have hBl : c.B.length = nS0 { z with kind := 22 - 1 } := by rw [hm]; simp [places_len]
  have hd : ∀ d ∈ domsS ds 6 (c.A.length + c.B.length), ∃ i, d = domS ds 6 i := fun d hd => by
    obtain ⟨i, _, rfl⟩ := List.mem_map.1 hd
    exact ⟨i, rfl⟩
  refine ⟨by rw [hm], R.more (by decide), by omega, by omega, by omega, domsS_len _ _ _, fun d h => ?_, fun d h => ?_, fun d h => ?_⟩
  · obtain ⟨i, rfl⟩ := hd d h
    obtain ⟨h1, h2, _, _⟩ := domS_in ds (width := 6) (by decide) (by decide) i
    exact ⟨h1.rising, h2⟩
  · obtain ⟨i, rfl⟩ := hd d h
    exact (domS_in ds (width := 6) (by decide) (by decide) i).1
  · obtain ⟨i, rfl⟩ := hd d h
    exact (domS_in ds (width := 6) (by decide) (by decide) i).2.2.1
theorem LexCase.fits {c : Con} {ls : List (List Int)} (L : LexCase c ls) : fitsD c ls 22 22 = true := by
  unfold fitsD
  have h1 := L.kind
  have h2 := rightS_ok.2 L.right
  have h3 := L.len
  have h4 := someL_iff.2 L.full.ne
  simp [h1, h2, h3, h4]
theorem LexCase.exact {c : Con} {ls : List (List Int)} (L : LexCase c ls) : ExactP ls (fun r => solB c r = true) (lexP ls c.A.length) :=
  (lexP_exact L.full (by have := L.len; have := L.B; omega)).congr fun r _ => (sol_22 L.kind r).symm
theorem map_ofL {ls : List (List Int)} (h : ∀ d ∈ ls, DomL d) : ls.map ofL = ls := by
  refine (List.map_congr_left fun d hd => ?_).trans (List.map_id _)
  by_cases e : d = []
  · rw [e]; rfl
  · exact ((h d hd).of e).2
theorem sols_ne {c : Con} {ls : List (List Int)} (h : ∀ d ∈ ls, d ≠ []) : solsS c ls ≠ [] ↔ ∃ r, inD r ls ∧ solB c r = true := by
  constructor
  · intro hne
    obtain ⟨r, l, e⟩ := List.exists_cons_of_ne_nil hne
    exact ⟨r, (mem_solsS h).1 (by rw [e]; simp)⟩
  · rintro ⟨r, h1, h2⟩ e
    have := (mem_solsS (c := c) h).2 ⟨h1, h2⟩
    rw [e] at this; simp at this

set_option maxHeartbeats 1000000 in
theorem c_lexiFilters (z : Small) (zk zK zc : Int) (zA zB zC : List (List PV)) (R : SmallR z zk zA zB zC zK zc) (rd : List (List PV)) (ds : List (List Int)) (hrd : rd = rowsOf ds) (h64 : ds.length ≤ 9223372036854775807) (h65 : ∀ l ∈ ds, l.length ≤ 9223372036854775807) (n : Int) (hn8 : 0 ≤ n ∧ n ≤ 255) :
    Call .plain 10 [.agg [U8 zk, .list 1 zA, .list 1 zB, .list 1 zC, I16 zK, U8 zc, .list 1 rd], U8 n] (B true) := by
  obtain ⟨c, hc⟩ : ∃ c, c = makeS { z with kind := 22 - 1 } 5 := ⟨_, rfl⟩
  obtain ⟨ls, hls⟩ : ∃ ls, ls = domsS ds 6 (c.A.length + c.B.length) := ⟨_, rfl⟩
  have L : LexCase c ls := by rw [hls]; exact lex_case (fun v hv => (R.bA v hv).1) (fun v hv => (R.bB v hv).1) ds hc
  obtain ⟨kind, rA, rB, rC, rD, rE, K, rR, H⟩ : ∃ kind rA rB rC rD rE K rR, ConR c kind rA rB rC rD rE K rR := ⟨_, _, _, _, _, _, _, _, ⟨rfl, rfl, rfl, rfl, rfl, rfl, rfl, rfl⟩⟩
  obtain ⟨rl, hrl⟩ : ∃ rl, rl = rowsOf ls := ⟨_, rfl⟩
  have cm := c_make10 z zk zK zc zA zB zC R rd ds hrd h64 h65 22 (by decide) 6 (by decide) (by decide) c hc kind K rA rB rC rD rE rR H rl (by rw [hrl, hls])
  have ml := make_lens { z with kind := 22 - 1 } 5
  rw [← hc] at ml
  obtain ⟨m1, m2, m3, m4, m5, m6⟩ := ml
  have la : lim rA := lim_le (by rw [H.A]; simp; omega)
  have lb : lim rB := lim_le (by rw [H.B]; simp; omega)
  have lc : lim rC := lim_le (by rw [H.C]; simp; omega)
  have ld : lim rD := lim_le (by rw [H.D]; simp; omega)
  have le : lim rE := lim_le (by rw [H.E]; simp; omega)
  have lr : lim rR := lim_le (by rw [H.R]; simp; omega)
  have lsl : ls.length ≤ 8 := by have := L.len; omega
  have six : ∀ d ∈ ls, d.length ≤ 1000000 := fun d hd => by have := L.few d hd; omega
  have far : ∀ d ∈ ls, ∀ v ∈ d, -1000000 ≤ v ∧ v ≤ 1000000 := fun d hd => (L.dom d hd).far
  obtain ⟨rows, D, cd⟩ := c_doms_jigsawlaw21 rl ls hrl (by omega) six
  rw [map_ofL L.dom] at D
  obtain ⟨out, hout⟩ : ∃ out, out = leftL ls (lexP ls c.A.length) := ⟨_, rfl⟩
  have ex := L.exact
  obtain ⟨y, hy⟩ : ∃ y, y = someL out := ⟨_, rfl⟩
  have hy' : y = (fitsD c ls 22 22 && someL (leftL ls (lexP ls c.A.length))) := by rw [L.fits, ← hout, hy]; rfl
  obtain ⟨rows', f1, f2, cf⟩ := c_lexFilter c kind K rA rB rC rD rE rR H la lb lc ld le lr rows ls D (by omega) L.dom y hy'
  rw [← hout] at f1
  -- what is left, listed
  obtain ⟨e, he⟩ : ∃ e : List (List Int), e = if y = true then out else [] := ⟨_, rfl⟩
  have De : DomsR rows' e := by
    rw [he]
    cases y with
    | true => exact f1 rfl
    | false => rw [f2 rfl]; exact .nil
  have el : e.length ≤ 8 := by
    rw [he]; split
    · rw [hout, leftL_len]; omega
    · simp
  have e6 : ∀ l ∈ e, l.length ≤ 1000000 := fun l hl => by
    rw [he] at hl
    split at hl
    · rw [hout, leftL] at hl
      obtain ⟨i, hi, rfl⟩ := List.mem_map.1 hl
      have h1 := List.length_filter_le (lexP ls c.A.length i) (ls.getD i [])
      have h2 := six _ (getD_mem [] (List.mem_range.1 hi))
      omega
    · simp at hl
  obtain ⟨re, hre⟩ : ∃ re, re = rowsOf e := ⟨_, rfl⟩
  have clist := c_lists_jigsawlaw21 rows' e De (by omega) re hre
  have cref := c_filter21 c kind K rA rB rC rD rE rR H la lb lc ld le lr rl ls hrl (by omega) (fun d hd => (L.dom d hd).rising) six y hy' re (fun h => by rw [hre, he, if_pos h, hout]) (fun h => by rw [hre, he, if_neg (by rw [h]; decide)]; rfl)
  have csame := c_same10 re re e e hre hre (by omega) e6 true (sameL_self e).symm
  have hpl : ls.length = c.A.length + c.B.length := L.len
  obtain ⟨fw, hfw⟩ : ∃ fw, fw = decide ((prodL ls : Int) ≤ 4000) := ⟨_, rfl⟩
  obtain ⟨rs, hrs⟩ : ∃ rs : List (List PV), rs = if fw = true then rowsOf (solsS c ls) else [] := ⟨_, rfl⟩
  have csol := c_solutions c L.right kind K rA rB rC rD rE rR H rl ls hrl L.full.ne far hpl six 4000 (by decide) fw hfw rs (fun h => by rw [hrs, if_pos h]) (fun h => by rw [hrs, if_neg (by rw [h]; decide)])
  have cex : fw = true → Call .plain 54 [.agg [I kind, .list 1 rA, .list 1 rB, .list 1 rC, .list 1 rD, .list 1 rE, I K, .list 1 rR], .list 1 rl, I 4000] (.tup [.list 1 re, B y]) := fun h => by
    have hp : (prodL ls : Int) ≤ 4000 := by rw [h] at hfw; exact of_decide_eq_true hfw.symm
    have hyd : y = decide (solsS c ls ≠ []) := by
      rw [hy, hout, Bool.eq_iff_iff, decide_eq_true_iff, sols_ne L.full.ne]
      exact ex.some (by have := L.one; omega)
    refine c_exact c L.right kind K rA rB rC rD rE rR H rl ls hrl L.full.ne far hpl six 4000 (by decide) hp y hyd re (fun h => ?_) (fun h => ?_)
    · rw [hre, he, if_pos h, hout, (ex.unique (inB_exact L.full.ne))]
    · rw [hre, he, if_neg (by rw [h]; decide)]; rfl
  have cw := c_wakes21
  have ck := c_kind21 n
  clear L D f1 f2 De hy hy' hout he hre hrl hls hc H R la lb lc ld le lr far six ex hfw hrs e6 hpl
  refine call_of Proofs.Tryz.func10 Proofs.Tryz.call10 rfl rfl fun M C hM hC => ?_
  have nt : M .not true = false := by subst hM; rfl
  have nf : M .not false = true := by subst hM; rfl
  have bne : M .beq .neq y y = false := by subst hM; cases y <;> rfl
  have beq : M .beq .eql y y = true := by subst hM; cases y <;> rfl
  cbv
  refine .mk _ (use_call hC ck) ?_
  cbv
  refine .mk _ (use_call hC cm) ?_
  cbv
  refine .mk _ (use_call hC cd) ?_
  cbv
  refine .mk _ (use_call hC cf) ?_
  cbv
  refine .mk _ (use_call hC cref) ?_
  cbv
  refine .mk _ (use_call hC cw) ?_
  cbv
  simp only [nt]
  cbv
  simp only [bne]
  cbv
  refine .mk _ (use_call hC clist) ?_
  cbv
  refine .mk _ (use_call hC csame) ?_
  cbv
  simp only [nt]
  cbv
  refine .mk _ (use_call hC csol) ?_
  cbv
  cases fw
  · simp only [nf]
    cbv
  · simp only [nt]
    cbv
    refine .mk _ (use_call hC (cex rfl)) ?_
    cbv
    simp only [beq]
    cbv
    refine .mk _ (use_call hC csame) ?_
    cbv
