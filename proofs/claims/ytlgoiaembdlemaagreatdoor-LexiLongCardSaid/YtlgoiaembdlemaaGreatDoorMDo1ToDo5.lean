/- Package math/bits' functions; package dom's small ones; a domain made of words. -/
import Derived.Test.YtlgoiaembdlemaaGreatDoorEnv
import Derived.Test.YtlgoiaembdlemaaGreatDoorLay
import Derived.Shelf.Small.Bits
import Derived.Test.YtlgoiaembdlemaaGreatDoorPid
import Derived.Test.YtlgoiaembdlemaaGreatDoorMSl1ToSt1
set_option linter.unusedSimpArgs false
set_option linter.unusedVariables false

/- Package math/bits' functions; package dom's small ones; a domain made of words. -/
namespace Go.Pi
open Go
set_option linter.unusedVariables false
set_option linter.unusedSimpArgs false

theorem callIn_same {f : FuncId} {x r : Value} (hc : ∀ vs w, (callFunc f vs).run prog w = .ok (.enter f vs) w) (h : ∀ w, Amb w → Calls prog f #[x] w fun e w' => e = .returned r ∧ w' = w) : Call .plain f [.v x] (.v r) := by
  refine ⟨hc, fun ok w vs hA hok hargs => ?_⟩
  obtain ⟨v0, rfl⟩ : ∃ v0, vs = #[v0] := Array.size_eq_one_iff.1 (by simpa using hargs.1)
  have h0 := hargs.2 0 _ rfl
  simp only [Array.getD_eq_getD_getElem?] at h0
  cases h0
  exact (h w hA).mono fun e w' ⟨he, hw⟩ => ⟨r, he, by rw [hw]; exact .refl _ _, .v r⟩
theorem c_tz (w : Int) (hw : word w) (y : Int) (hy : y = Lib.ctz 64 w.toNat) : Call .plain 102 [U64 w] (I y) := by
  subst hy
  refine callIn_same Proofs.Tryz.call102 fun wd hA => ?_
  have := Proofs.Any7.bits_TrailingZeros64 Proofs.Tryz.lays29 w.toNat (word_lt hw) wd fun _ => hA
  rw [word_cast hw] at this
  exact this
theorem c_lz (w : Int) (hw : word w) (y : Int) (hy : y = 64 - (Lib.bitLen w.toNat : Int)) : Call .plain 219 [U64 w] (I y) := by
  subst hy
  exact callIn_same Proofs.Tryz.call219 fun wd hA => Proofs.Any.bits_LeadingZeros64 Proofs.Tryz.lays134 w wd hw.1 (by have := hw.2; omega)

theorem shrN (n : Nat) (h : n < 2 ^ 64) (k : Nat) (hk : k < 64) : Real .shift .shr .u64 (n : Int) (k : Int) = ((n / 2 ^ k : Nat) : Int) := by
  rw [real_shr (word_nat h) (by omega) (by omega), Nat.shiftRight_eq_div_pow]; rfl
theorem andN (a b : Nat) (ha : a < 2 ^ 64) (hb : b < 2 ^ 64) : Real .arith .and .u64 (a : Int) (b : Int) = ((a &&& b : Nat) : Int) := real_and (word_nat ha) (word_nat hb)
theorem addN (a b : Nat) (h : a + b < 2 ^ 64) : Real .arith .add .u64 (a : Int) (b : Int) = ((a + b : Nat) : Int) := by
  show IntKind.u64.wrap ((a : Int) + (b : Int)) = _
  rw [← Int.natCast_add]
  exact wrap_w64 (word_nat h)
theorem c_ones (w : Int) (hw : word w) (y : Int) (hy : y = (cnt 64 w.toNat : Int)) : Call .plain 220 [U64 w] (I y) := by
  refine call_of Proofs.Tryz.func220 Proofs.Tryz.call220 rfl rfl fun M C hM hC => ?_
  have hx := word_lt hw
  have hcw := word_cast hw
  generalize w.toNat = x at hx hcw hy
  subst hcw
  have P := pop_spec x hx _ _ _ _ _ _ rfl rfl rfl rfl rfl rfl
  obtain ⟨y1, h1⟩ : ∃ y1, y1 = (x / 2 &&& 6148914691236517205) + (x &&& 6148914691236517205) := ⟨_, rfl⟩
  obtain ⟨y2, h2⟩ : ∃ y2, y2 = (y1 / 4 &&& 3689348814741910323) + (y1 &&& 3689348814741910323) := ⟨_, rfl⟩
  obtain ⟨y3, h3⟩ : ∃ y3, y3 = (y2 / 16 + y2) &&& 1085102592571150095 := ⟨_, rfl⟩
  obtain ⟨x1, f1⟩ : ∃ x1, x1 = y3 + y3 / 256 := ⟨_, rfl⟩
  obtain ⟨x2, f2⟩ : ∃ x2, x2 = x1 + x1 / 65536 := ⟨_, rfl⟩
  obtain ⟨x3, f3⟩ : ∃ x3, x3 = x2 + x2 / 4294967296 := ⟨_, rfl⟩
  rw [← h1, ← h2, ← h3, ← f1, ← f2, ← f3] at P
  obtain ⟨p1, p2, p3, p4, p5, p6, p7⟩ := P
  cbv
  subst hM
  have e1 : Real .arith .add .u64 (Real .arith .and .u64 (Real .shift .shr .u64 (x : Int) 1) 6148914691236517205) (Real .arith .and .u64 (x : Int) 6148914691236517205) = (y1 : Int) := by
    have s1 : Real .shift .shr .u64 (x : Int) 1 = ((x / 2 : Nat) : Int) := shrN x hx 1 (by decide)
    have s2 : Real .arith .and .u64 ((x / 2 : Nat) : Int) 6148914691236517205 = ((x / 2 &&& 6148914691236517205 : Nat) : Int) := andN _ 6148914691236517205 (by omega) (by decide)
    have s3 : Real .arith .and .u64 (x : Int) 6148914691236517205 = ((x &&& 6148914691236517205 : Nat) : Int) := andN _ 6148914691236517205 hx (by decide)
    rw [s1, s2, s3, addN _ _ (by omega), ← h1]
  have e2 : Real .arith .add .u64 (Real .arith .and .u64 (Real .shift .shr .u64 (y1 : Int) 2) 3689348814741910323) (Real .arith .and .u64 (y1 : Int) 3689348814741910323) = (y2 : Int) := by
    have s1 : Real .shift .shr .u64 (y1 : Int) 2 = ((y1 / 4 : Nat) : Int) := shrN y1 (by omega) 2 (by decide)
    have s2 : Real .arith .and .u64 ((y1 / 4 : Nat) : Int) 3689348814741910323 = ((y1 / 4 &&& 3689348814741910323 : Nat) : Int) := andN _ 3689348814741910323 (by omega) (by decide)
    have s3 : Real .arith .and .u64 (y1 : Int) 3689348814741910323 = ((y1 &&& 3689348814741910323 : Nat) : Int) := andN _ 3689348814741910323 (by omega) (by decide)
    rw [s1, s2, s3, addN _ _ (by omega), ← h2]
  have e3 : Real .arith .and .u64 (Real .arith .add .u64 (Real .shift .shr .u64 (y2 : Int) 4) (y2 : Int)) 1085102592571150095 = (y3 : Int) := by
    have s1 : Real .shift .shr .u64 (y2 : Int) 4 = ((y2 / 16 : Nat) : Int) := shrN y2 (by omega) 4 (by decide)
    rw [s1, addN _ _ (by omega)]
    have s2 : Real .arith .and .u64 ((y2 / 16 + y2 : Nat) : Int) 1085102592571150095 = (((y2 / 16 + y2) &&& 1085102592571150095 : Nat) : Int) := andN _ 1085102592571150095 (by omega) (by decide)
    rw [s2, ← h3]
  have e4 : Real .arith .add .u64 (y3 : Int) (Real .shift .shr .u64 (y3 : Int) 8) = (x1 : Int) := by
    have s1 : Real .shift .shr .u64 (y3 : Int) 8 = ((y3 / 256 : Nat) : Int) := shrN y3 (by omega) 8 (by decide)
    rw [s1, addN _ _ (by omega), ← f1]
  have e5 : Real .arith .add .u64 (x1 : Int) (Real .shift .shr .u64 (x1 : Int) 16) = (x2 : Int) := by
    have s1 : Real .shift .shr .u64 (x1 : Int) 16 = ((x1 / 65536 : Nat) : Int) := shrN x1 (by omega) 16 (by decide)
    rw [s1, addN _ _ (by omega), ← f2]
  have e6 : Real .arith .add .u64 (x2 : Int) (Real .shift .shr .u64 (x2 : Int) 32) = (x3 : Int) := by
    have s1 : Real .shift .shr .u64 (x2 : Int) 32 = ((x2 / 4294967296 : Nat) : Int) := shrN x2 (by omega) 32 (by decide)
    rw [s1, addN _ _ (by omega), ← f3]
  have e7 : Real .arith .and .i64 (Real .conv .i64 (x3 : Int)) 127 = y := by
    have s1 : Real .conv .i64 (x3 : Int) = (x3 : Int) := wrap_i64 (by omega) (by omega)
    rw [s1]
    show IntKind.i64.wrap ((BitVec.ofInt 64 (x3 : Int) &&& BitVec.ofInt 64 127).toNat : Int) = _
    rw [BitVec.ofInt_natCast, show BitVec.ofInt 64 127 = 127#64 from by decide, BitVec.toNat_and, BitVec.toNat_ofNat, Nat.mod_eq_of_lt (by omega), show (127#64).toNat = 2 ^ 7 - 1 from rfl, Nat.and_two_pow_sub_one_eq_mod, show (2 : Nat) ^ 7 = 128 from rfl, p1]
    rw [hy]
    exact wrap_i64 (by omega) (by omega)
  refine .mk (by decide) (.mk (by decide) (.mk (by decide) (.mk (by decide) (.mk (by decide) (.mk (by decide) ?_)))))
  have : ∀ z : Int, z = y → PV.v (.int .i64 z) = I y := fun z h => by rw [h]
  refine this _ ?_
  rw [← e7, ← e6, ← e5, ← e4, ← e3, ← e2, ← e1]
  rfl

theorem c_place (v : Int) (h : i64 v) (y : Int) (hy : y = plcS v) : Call .plain 106 [I v] (I y) := by
  refine call_of Proofs.Tryz.func106 Proofs.Tryz.call106 rfl rfl fun M C hM hC => ?_
  cbv
  subst hM
  rw [hy, ← real_place h]
theorem c_domIn (v : Int) (y : Bool) (hy : y = !farS v) : Call .plain 104 [I v] (B y) := by
  refine call_of Proofs.Tryz.func104 Proofs.Tryz.call104 rfl rfl fun M C hM hC => ?_
  have e : y = (decide (v ≥ -1000000) && decide (v ≤ 1000000)) := by
    rw [hy, farS, Bool.eq_iff_iff]
    simp
  clear hy
  cbv
  split <;> rename_i h <;> (try simp only [h]) <;> (try cbv)
  · have h1 : decide (v ≥ -1000000) = true := by subst hM; exact h
    rw [e, h1]; subst hM; rfl
  · have h1 : decide (v ≥ -1000000) = false := by subst hM; exact h
    rw [e, h1]; rfl
theorem c_of1 (v : Int) (y : Bool) (hy : y = farS v) : Call .plain 159 [I v] (B y) := by
  refine call_of Proofs.Tryz.func159 Proofs.Tryz.call159 rfl rfl fun M C hM hC => ?_
  cbv
  refine callB hC (c_domIn v _ rfl) fun z hz => ?_
  cbv
  subst hM
  rw [hy, hz]; simp

theorem u64s_rep (n : Nat) : List.replicate n [U64 0] = u64s (List.replicate n 0) := by simp [u64s]
theorem c_room (low high : Int) (h1 : -2000000 ≤ low) (h2 : low ≤ high) (h3 : high ≤ 2000000) (xs : List (List PV)) (hx : xs = u64s (List.replicate ((plcS high - plcS low) / 64 + 1).toNat 0)) (p : Int) (hp : p = plcS low) :
    Call .part 162 [I low, I high] (.tup [.tup [I p], .arr 0 128 1 xs, .tup [I 0, I 0, I 0]]) := by
  have p1 := plcS_le low
  have p2 := plcS_le high
  have p3 := plcS_al low
  have p4 := plcS_al high
  have q1 := c_place low ⟨by omega, by omega⟩ _ rfl
  have q2 := c_place high ⟨by omega, by omega⟩ _ rfl
  generalize plcS high = ph at *
  rw [← hp] at q1 p1 p3 hx
  clear hp
  have hle : p ≤ ph := by omega
  refine part_of Proofs.Tryz.func162 Proofs.Tryz.call162 rfl rfl fun M C hM hC => ?_
  have e : M .arith .add .i64 (M .arith .quo .i64 (M .arith .sub .i64 ph p) 64) 1 = (ph - p) / 64 + 1 := by
    subst hM
    rw [real_sub, wrap_i64 (by omega) (by omega), real_quo, Int.tdiv_eq_ediv_of_nonneg (by omega), wrap_i64 (by omega) (by omega), real_add, wrap_i64 (by omega) (by omega)]
  have e2 : M .rep ((ph - p) / 64 + 1) [U64 0] = xs := by
    subst hM
    rw [hx, real_rep, u64s_rep]
  cbv
  refine .mk _ (use_call hC q1) ?_
  cbv
  refine .mk _ (use_call hC q2) ?_
  cbv
  refine .mk _ (use_call hC q1) ?_
  cbv
  refine .mk (by decide) ?_
  rw [show M .arith .add .i64 _ 1 = _ from e]
  refine .mk (Int.le_refl _) (.mk (Int.le_refl _) (.mk (by omega) (.mk (by omega) ?_)))
  exact ⟨rfl, rfl, e2⟩
end Go.Pi

/- Package dom: a domain made of words; its list; slices' greatest and least. -/
namespace Go.Pi
open Go
set_option linter.unusedVariables false
set_option linter.unusedSimpArgs false

theorem nidx_u64s {R : List (List PV)} {A : List Int} {j : Nat} {K : List PV → Prop} (hR : R = u64s A) (h1 : j < A.length) (k : ∀ v, v = A.getD j 0 → K [U64 v]) : Idx R (Int.ofNat j) K := by
  subst hR
  refine .mk [U64 (A.getD j 0)] (Int.natCast_nonneg j) ?_ (k _ rfl)
  rw [show (Int.ofNat j).toNat = j from rfl, u64s_get]
  simp [List.getD_eq_getElem?_getD, h1]
theorem idx_u64s {R : List (List PV)} {A : List Int} {i : Int} {K : List PV → Prop} (hR : R = u64s A) (h0 : 0 ≤ i) (h1 : i < A.length) (k : ∀ v, v = A.getD i.toNat 0 → K [U64 v]) : Idx R i K := by
  subst hR
  refine .mk [U64 (A.getD i.toNat 0)] h0 ?_ (k _ rfl)
  have : i.toNat < A.length := by omega
  rw [u64s_get]
  simp [List.getD_eq_getElem?_getD, this]
theorem headS_app (a b : List Int) : headS (a ++ b) = if a = [] then headS b else headS a := by cases a <;> simp [headS]
theorem lastS_app {a b : List Int} (h : b ≠ []) : lastS (a ++ b) = lastS b := by
  unfold lastS
  rw [List.getLastD_eq_getLast?, List.getLastD_eq_getLast?, List.getLast?_append]
  cases b with
  | nil => exact absurd rfl h
  | cons x r => simp [List.getLast?_cons]

theorem c_made (off : Int) (rw' : List (List PV)) (w : List Int) (hrw : rw' = u64s w) (hw : ∀ x ∈ w, word x) (h1 : -3000000 ≤ off) (h2 : off ≤ 3000000) (hl : w.length ≤ 2000000) (mn mx sz : Int) (hmn : mn = headS (listW off w)) (hmx : mx = lastS (listW off w)) (hsz : sz = (listW off w).length) :
    Call .plain 163 [I off, .list 1 rw'] (.agg [I off, .list 1 rw', I mn, I mx, I sz]) := by
  refine call_of Proofs.Tryz.func163 Proofs.Tryz.call163 rfl rfl fun M C hM hC => ?_
  cbv
  refine Loop.over (Nat × Int × Int × Int) (fun q => [(.t 13, I q.1), (.c 1 2, I q.2.1), (.c 1 3, I q.2.2.1), (.c 1 4, I q.2.2.2)]) 2 (fun q => w.length - q.1) (fun q => q.1 ≤ w.length ∧ q.2.1 = headS (listW off (w.take q.1)) ∧ q.2.2.1 = lastS (listW off (w.take q.1)) ∧ q.2.2.2 = (listW off (w.take q.1)).length) (0, 0, 0, 0) ⟨Nat.zero_le _, rfl, rfl, rfl⟩ (by (cbv; repeat' (first | exact True.intro | exact rfl | apply And.intro))) ?_
  rintro ⟨i, a, b, c⟩ ⟨hi, ha, hb, hc⟩
  simp only at hi ha hb hc
  cbv
  split <;> rename_i h <;> (try simp only [h]) <;> (try cbv) <;> (try simp only [ncast] at *)
  · have hlt : i < w.length := by subst hM; simpa [hrw] using h
    clear h
    have hstep := listW_take (off := off) hlt
    have hll := listW_len off (w.take i)
    rw [List.length_take, Nat.min_eq_left (by omega)] at hll
    refine nidx_u64s hrw hlt fun x hx => ?_
    have hxw : word x := by rw [hx]; exact getD_word hw i
    rw [← hx] at hstep
    generalize hL : listW off (w.take i) = L at ha hb hc hstep hll
    cbv
    split <;> rename_i h <;> (try simp only [h]) <;> (try cbv) <;> (try simp only [ncast] at *)
    · have h0 : x = 0 := by subst hM; simpa using h
      rw [h0, bitsW_zero, List.append_nil] at hstep
      refine ⟨⟨i + 1, a, b, c⟩, ⟨hlt, ?_, ?_, ?_⟩, ?_, by (cbv; repeat' (first | exact True.intro | exact rfl | apply And.intro)) <;> (subst hM; rw [succ_i64 (by omega)])⟩
      · rw [hstep]; exact ha
      · rw [hstep]; exact hb
      · rw [hstep]; exact hc
      · simp only; omega
    · have h0 : x ≠ 0 := by subst hM; simpa using h
      clear h
      have k1 := bitsW_low (b := off + 64 * (i : Int)) hxw h0
      have k2 := bitsW_last (b := off + 64 * (i : Int)) hxw h0 0
      have k3 := bitsW_size (off + 64 * (i : Int)) x
      have k4 := bitsW_len (off + 64 * (i : Int)) x
      have t1 := (ctz_spec (x := x.toNat) (by have := hxw.1; omega) (word_lt hxw)).2.1
      have t2 := Lib.bitLen_le x.toNat 64 (by decide) (word_lt hxw)
      generalize hbw : bitsW (off + 64 * (i : Int)) x = bw at hstep k1 k2 k3 k4
      have hne : bw ≠ [] := by rw [k1]; simp
      have khead : headS bw = off + 64 * (i : Int) + Lib.ctz 64 x.toNat := by rw [k1]; rfl
      have e1 : M .arith .add .i64 off (M .arith .mul .i64 64 (Int.ofNat i)) = off + 64 * (i : Int) := by
        subst hM
        show IntKind.i64.wrap (off + IntKind.i64.wrap (64 * (i : Int))) = _
        rw [wrap_i64 (x := 64 * (i : Int)) (by omega) (by omega), wrap_i64 (by omega) (by omega)]
      have hend : ∀ z : Int, z = 64 - (Lib.bitLen x.toNat : Int) → M .arith .sub .i64 (M .arith .sub .i64 (M .arith .add .i64 (M .arith .add .i64 off (M .arith .mul .i64 64 (Int.ofNat i))) 64) 1) z = lastS (L ++ bw) := fun z hz => by
        rw [lastS_app hne]
        have : lastS bw = off + 64 * (i : Int) + 63 - z := by rw [hz]; exact k2
        rw [this, e1]
        subst hM
        show IntKind.i64.wrap (IntKind.i64.wrap (IntKind.i64.wrap (off + 64 * (i : Int) + 64) - 1) - z) = _
        rw [wrap_i64 (x := off + 64 * (i : Int) + 64) (by omega) (by omega), wrap_i64 (x := off + 64 * (i : Int) + 64 - 1) (by omega) (by omega), wrap_i64 (by omega) (by omega)]
        omega
      have hsum : ∀ z : Int, z = (cnt 64 x.toNat : Int) → M .arith .add .i64 c z = ((L ++ bw).length : Int) := fun z hz => by
        have k3' : (bw.length : Int) = z := by rw [hz]; exact k3
        rw [List.length_append, Int.natCast_add, ← hc, k3']
        subst hM
        exact wrap_i64 (by omega) (by omega)
      split <;> rename_i h <;> (try simp only [h]) <;> (try cbv) <;> (try simp only [ncast] at *)
      · have hc0 : c = 0 := by subst hM; simpa using h
        have hL0 : L = [] := List.eq_nil_of_length_eq_zero (by omega)
        refine callI hC (c_tz x hxw _ rfl) fun tz htz => ?_
        have etz : M .arith .add .i64 (M .arith .add .i64 off (M .arith .mul .i64 64 (Int.ofNat i))) tz = headS (L ++ bw) := by
          rw [headS_app, if_pos hL0, khead, ← htz, e1]
          subst hM
          exact wrap_i64 (by omega) (by omega)
        clear e1
        cbv
        refine callI hC (c_lz x hxw _ rfl) fun lz hlz => ?_
        have hend := hend lz hlz
        cbv
        refine callI hC (c_ones x hxw _ rfl) fun pc hpc => ?_
        have hsum := hsum pc hpc
        cbv
        refine ⟨⟨i + 1, _, _, _⟩, ⟨hlt, ?_, ?_, ?_⟩, ?_, by (cbv; repeat' (first | exact True.intro | exact rfl | apply And.intro)) <;> (subst hM; rw [succ_i64 (by omega)])⟩
        · rw [hstep]; exact etz
        · rw [hstep]; exact hend
        · rw [hstep]; exact hsum
        · simp only; omega
      · have hc0 : c ≠ 0 := by subst hM; simpa using h
        have hL0 : L ≠ [] := fun e => hc0 (by rw [hc, e]; rfl)
        clear e1
        refine callI hC (c_lz x hxw _ rfl) fun lz hlz => ?_
        have hend := hend lz hlz
        cbv
        refine callI hC (c_ones x hxw _ rfl) fun pc hpc => ?_
        have hsum := hsum pc hpc
        cbv
        refine ⟨⟨i + 1, _, _, _⟩, ⟨hlt, ?_, ?_, ?_⟩, ?_, by (cbv; repeat' (first | exact True.intro | exact rfl | apply And.intro)) <;> (subst hM; rw [succ_i64 (by omega)])⟩
        · rw [hstep, headS_app, if_neg hL0]; exact ha
        · rw [hstep]; exact hend
        · rw [hstep]; exact hsum
        · simp only; omega
  · have hj2 : i = w.length := by subst hM; simp [hrw] at h; omega
    subst hj2
    rw [List.take_length] at ha hb hc
    have e1 : a = mn := ha.trans hmn.symm
    have e2 : b = mx := hb.trans hmx.symm
    have e3 : c = sz := hc.trans hsz.symm
    subst e1 e2 e3
    first | rfl | exact ⟨rfl, trivial⟩ | (cbv; repeat' (first | exact True.intro | exact rfl | apply And.intro))
end Go.Pi

/- Package dom: what a domain has; its list. -/
namespace Go.Pi
open Go
set_option linter.unusedVariables false
set_option linter.unusedSimpArgs false

theorem c_domMin (off mn mx sz : Int) (ws : List (List PV)) : Call .plain 122 [.agg [I off, .list 1 ws, I mn, I mx, I sz]] (I mn) := by
  refine call_of Proofs.Tryz.func122 Proofs.Tryz.call122 rfl rfl fun M C hM hC => ?_
  cbv
theorem c_domMax (off mn mx sz : Int) (ws : List (List PV)) : Call .plain 131 [.agg [I off, .list 1 ws, I mn, I mx, I sz]] (I mx) := by
  refine call_of Proofs.Tryz.func131 Proofs.Tryz.call131 rfl rfl fun M C hM hC => ?_
  cbv
theorem c_domSize (off mn mx sz : Int) (ws : List (List PV)) : Call .plain 157 [.agg [I off, .list 1 ws, I mn, I mx, I sz]] (I sz) := by
  refine call_of Proofs.Tryz.func157 Proofs.Tryz.call157 rfl rfl fun M C hM hC => ?_
  cbv

theorem c_word64 (off mn mx sz : Int) (rw' : List (List PV)) (w : List Int) (hrw : rw' = u64s w) (h1 : -3000000 ≤ off) (h2 : off ≤ 3000000) (hl : w.length ≤ 2000000) (a : Int) (h3 : -1000000000000 ≤ a) (h4 : a ≤ 1000000000000) (y : Int) (hy : y = wrdS off w a) :
    Call .plain 105 [.agg [I off, .list 1 rw', I mn, I mx, I sz], I a] (U64 y) := by
  refine call_of Proofs.Tryz.func105 Proofs.Tryz.call105 rfl rfl fun M C hM hC => ?_
  have e1 : M .arith .sub .i64 a off = a - off := by subst hM; exact wrap_i64 (by omega) (by omega)
  have e2 : a ≥ off → M .arith .quo .i64 (M .arith .sub .i64 a off) 64 = (a - off) / 64 := fun h => by
    rw [e1]; subst hM
    show IntKind.i64.wrap ((a - off).tdiv 64) = _
    rw [Int.tdiv_eq_ediv_of_nonneg (by omega), wrap_i64 (by omega) (by omega)]
  clear e1
  cbv
  refine .mk (by decide) ?_
  cbv
  split <;> rename_i h <;> (try simp only [h]) <;> (try cbv) <;> (try simp only [ncast] at *)
  · have hlt : a < off := by subst hM; exact of_decide_eq_true h
    rw [hy, wrdS, if_pos (.inl hlt)]
  · have hge : a ≥ off := by subst hM; have := of_decide_eq_false h; omega
    have e2 := e2 hge
    split <;> rename_i h <;> (try simp only [h]) <;> (try cbv) <;> (try simp only [ncast] at *)
    · rename_i h7
      have hge2 : (a - off) / 64 ≥ w.length := by
        rw [show M .arith .quo .i64 _ 64 = _ from e2] at h
        subst hM
        have := of_decide_eq_true h
        rw [hrw] at this
        simpa using this
      rw [hy, wrdS, if_pos (.inr hge2)]
    · have hlt : (a - off) / 64 < w.length := by
        rw [show M .arith .quo .i64 _ 64 = _ from e2] at h
        subst hM
        have := of_decide_eq_false h
        rw [hrw] at this
        have this : ¬ (a - off) / 64 ≥ ((u64s w).length : Int) := this
        rw [u64s_len] at this
        (try simp only [ncast] at *)
        omega
      rw [show M .arith .quo .i64 _ 64 = _ from e2]
      refine idx_u64s hrw (by omega) hlt fun v hv => ?_
      cbv
      rw [hy, hv, wrdS, if_neg (by rintro (h | h) <;> (try simp only [ncast] at *) <;> omega)]

theorem c_domHas (off mn mx sz : Int) (rw' : List (List PV)) (l : List Int) (D : DomR off rw' mn mx sz l) (v : Int) (y : Bool) (hy : y = l.contains v) :
    Call .plain 41 [.agg [I off, .list 1 rw', I mn, I mx, I sz], I v] (B y) := by
  obtain ⟨w, hrw, hw, hl, hlen⟩ := D.words
  have o1 := D.lo
  have o2 := D.hi
  have o3 := D.al
  have hfar := D.far
  clear D
  refine call_of Proofs.Tryz.func41 Proofs.Tryz.call41 rfl rfl fun M C hM hC => ?_
  cbv
  refine callB hC (c_domIn v _ rfl) fun z hz => ?_
  cbv
  cases z
  · have hf : farS v = true := by simpa using hz
    have : l.contains v = false := by
      cases hc : l.contains v with
      | false => rfl
      | true =>
        have := hfar v (by simpa using hc)
        simp [farS] at hf
        omega
    cbv
    rw [hy, this]
  · have hf : farS v = false := by simpa using hz
    have hv : -1000000 ≤ v ∧ v ≤ 1000000 := by simp [farS] at hf; omega
    have p1 := plcS_le v
    have p2 := plcS_al v
    cbv
    refine callI hC (c_place v ⟨by omega, by omega⟩ _ rfl) fun p hp => ?_
    cbv
    refine callU64 hC (c_word64 off mn mx sz rw' w hrw (by omega) (by omega) hlen p (by omega) (by omega) _ rfl) fun x hx => ?_
    cbv
    refine callI hC (c_place v ⟨by omega, by omega⟩ _ rfl) fun p' hp' => ?_
    have e0 : p' = p := by rw [hp, hp']
    subst e0
    have hb := wrdS_bit (ws := w) o3 p2 p1.1 p1.2
    have hxw : word x := by rw [hx]; exact wrdS_word hw _
    rw [← hp'] at hb p1 p2
    rw [← hx] at hb
    have e1 : M .arith .sub .i64 v p' = v - p' := by subst hM; exact wrap_i64 (by omega) (by omega)
    have fin : M .cmp .eql (M .arith .and .u64 (M .shift .shr .u64 x (M .arith .sub .i64 v p')) 1) 1 = y := by
      rw [e1]; subst hM
      rw [real_shr hxw (by omega) (by omega), real_and (shr_word hxw _) ⟨by decide, by decide⟩]
      show (andW _ 1 == 1) = y
      rw [bit_one, hb, hy, hl, Bool.eq_iff_iff, ← mem_listW]
      simp
    cbv
    refine .mk (by rw [show M .arith .sub .i64 v p' = _ from e1]; omega) ?_
    cbv
    rw [show M .cmp .eql _ 1 = _ from fin]

theorem c_domList (off mn mx sz : Int) (rw' : List (List PV)) (l : List Int) (D : DomR off rw' mn mx sz l) (r : List (List PV)) (hr : r = ints l) :
    Call .plain 39 [.agg [I off, .list 1 rw', I mn, I mx, I sz]] (.list 1 r) := by
  obtain ⟨w, hrw, hw, hl, hlen⟩ := D.words
  have o1 := D.lo
  have o2 := D.hi
  clear D
  refine call_of Proofs.Tryz.func39 Proofs.Tryz.call39 rfl rfl fun M C hM hC => ?_
  cbv
  refine Loop.over (Nat × List (List PV)) (fun q => [(.t 9, I q.1), (.t 3, .own 1 0), (.a 1, .arr 0 3 1 q.2), (.i 1, .inf true 0)]) 2 (fun q => w.length - q.1) (fun q => q.1 ≤ w.length ∧ q.2 = ints (listW off (w.take q.1))) (0, []) ⟨Nat.zero_le _, rfl⟩ (by (cbv; repeat' (first | exact True.intro | exact rfl | apply And.intro))) ?_
  rintro ⟨i, q⟩ ⟨hi, hq⟩
  simp only at hi hq
  cbv
  split <;> rename_i h <;> (try simp only [h]) <;> (try cbv) <;> (try simp only [ncast] at *)
  · have hlt : i < w.length := by subst hM; simpa [hrw] using h
    clear h
    have hstep := listW_take (off := off) hlt
    have hll := listW_len off (w.take i)
    rw [List.length_take, Nat.min_eq_left (by omega)] at hll
    refine nidx_u64s hrw hlt fun x hx => ?_
    have hxw : word x := by rw [hx]; exact getD_word hw i
    rw [← hx] at hstep
    generalize hL : listW off (w.take i) = L at hq hstep hll
    have e1 : M .arith .add .i64 off (M .arith .mul .i64 64 (Int.ofNat i)) = off + 64 * (i : Int) := by
      subst hM
      show IntKind.i64.wrap (off + IntKind.i64.wrap (64 * (i : Int))) = _
      rw [wrap_i64 (x := 64 * (i : Int)) (by omega) (by omega), wrap_i64 (by omega) (by omega)]
    obtain ⟨b, hb⟩ : ∃ b, b = off + 64 * (i : Int) := ⟨_, rfl⟩
    rw [← hb] at e1 hstep
    obtain ⟨T, hT⟩ : ∃ T, T = listW off (w.take (i + 1)) := ⟨_, rfl⟩
    have hTl : T.length ≤ 64 * (i + 1) := by
      have := listW_len off (w.take (i + 1))
      rw [List.length_take] at this
      rw [hT]; omega
    rw [← hT] at hstep
    cbv
    refine Loop.over (Int × List (List PV)) (fun q => [(.t 5, U64 q.1), (.t 3, .own 1 0), (.a 1, .arr 0 3 1 q.2), (.i 1, .inf true 0)]) 2 (fun q => q.1.toNat) (fun q => word q.1 ∧ ∃ P, q.2 = ints P ∧ T = P ++ bitsW b q.1) (x, q) ⟨hxw, L, hq, hstep⟩ (by (cbv; repeat' (first | exact True.intro | exact rfl | apply And.intro))) ?_
    clear hq hstep hxw hx
    rintro ⟨x, q⟩ ⟨hxw, P, hq, hP⟩
    simp only at hxw hq hP
    cbv
    split <;> rename_i h <;> (try simp only [h]) <;> (try cbv) <;> (try simp only [ncast] at *)
    · have h0 : x ≠ 0 := by subst hM; simpa using h
      clear h
      have k1 := bitsW_low (b := b) hxw h0
      have t1 := (ctz_spec (x := x.toNat) (by have := hxw.1; omega) (word_lt hxw)).2.1
      refine callI hC (c_tz x hxw _ rfl) fun tz htz => ?_
      have ev : M .arith .add .i64 (M .arith .add .i64 off (M .arith .mul .i64 64 (Int.ofNat i))) tz = b + tz := by
        rw [e1]; subst hM
        exact wrap_i64 (by omega) (by omega)
      have ex : M .arith .and .u64 x (M .arith .sub .u64 x 1) = ((x.toNat &&& (x.toNat - 1) : Nat) : Int) := by
        have hx1 : word (x - 1) := ⟨by have := hxw.1; omega, by have := hxw.2; omega⟩
        have : M .arith .sub .u64 x 1 = x - 1 := by subst hM; exact wrap_w64 hx1
        rw [this]; subst hM
        rw [real_and hxw hx1]
        unfold andW
        rw [show (x - 1).toNat = x.toNat - 1 by omega]
      rw [← htz] at k1
      have hxl : x.toNat &&& (x.toNat - 1) < x.toNat := Nat.lt_of_le_of_lt Nat.and_le_right (by have := hxw.1; omega)
      have hPl : P.length ≤ 64 * (i + 1) := by rw [hP] at hTl; simp at hTl; omega
      cbv
      refine .mk (by subst hM; simp [hq]; omega) ?_
      cbv
      refine ⟨⟨_, _⟩, ⟨?_, P ++ [b + tz], ?_, ?_⟩, ?_, by (cbv; repeat' (first | exact True.intro | exact rfl | apply And.intro))⟩
      · rw [show M .arith .and .u64 x _ = _ from ex]
        exact word_nat (Nat.lt_trans hxl (word_lt hxw))
      · rw [show M .arith .add .i64 _ tz = _ from ev]
        subst hM
        rw [real_app, hq, ← ints_app]; rfl
      · rw [show M .arith .and .u64 x _ = _ from ex, hP, k1]; simp
      · simp only
        rw [show M .arith .and .u64 x _ = _ from ex]
        exact hxl
    · have h0 : x = 0 := by subst hM; simpa using h
      rw [h0, bitsW_zero, List.append_nil] at hP
      refine ⟨⟨i + 1, _⟩, ⟨hlt, ?_⟩, ?_, by (cbv; repeat' (first | exact True.intro | exact rfl | apply And.intro)) <;> (subst hM; rw [succ_i64 (by omega)])⟩
      · rw [← hT, hP]; exact hq
      · simp only; omega
  · have hj2 : i = w.length := by subst hM; simp [hrw] at h; omega
    subst hj2
    rw [List.take_length, ← hl] at hq
    exact ⟨hq.trans hr.symm, trivial⟩
end Go.Pi

/- Slices' greatest and least; package dom: a domain of some numbers. -/
namespace Go.Pi
open Go
set_option linter.unusedVariables false
set_option linter.unusedSimpArgs false

theorem c_max (rl : List (List PV)) (l : List Int) (hl : rl = ints l) (h0 : l ≠ []) (h64 : l.length ≤ 1000000) (y : Int) (hy : y = maxS l) : Call .plain 160 [.list 1 rl] (I y) := by
  have hpos : 0 < l.length := List.length_pos_iff.2 h0
  refine call_of Proofs.Tryz.func160 Proofs.Tryz.call160 rfl rfl fun M C hM hC => ?_
  cbv
  split <;> rename_i h <;> (try simp only [h]) <;> (try cbv) <;> (try simp only [ncast] at *)
  · have : (l.length : Int) < 1 := by subst hM; have h := of_decide_eq_true h; rw [hl] at h; have h : ((ints l).length : Int) < 1 := h; rwa [ints_len] at h
    omega
  · refine idx_ints hl (by decide) (by omega) fun v0 hv0 => ?_
    cbv
    refine Loop.over (Nat × Int) (fun q => [(.t 4, I q.1), (.t 3, I q.2)]) 0 (fun q => l.length - q.1) (fun q => 0 < q.1 ∧ q.1 ≤ l.length ∧ q.2 = maxS (l.take q.1)) (1, v0) ⟨Nat.zero_lt_one, hpos, by rw [take_one hpos, hv0]; rfl⟩ (by (cbv; repeat' (first | exact True.intro | exact rfl | apply And.intro))) ?_
    clear h hv0
    rintro ⟨j, m⟩ ⟨hj0, hj, hm⟩
    simp only at hj0 hj hm
    cbv
    split <;> rename_i h <;> (try simp only [h]) <;> (try cbv) <;> (try simp only [ncast] at *)
    · have hlt : j < l.length := by subst hM; simpa [hl] using h
      clear h
      refine nidx_ints hl hlt fun v hv => ?_
      cbv
      refine ⟨⟨j + 1, _⟩, ⟨by omega, hlt, ?_⟩, ?_, by (cbv; repeat' (first | exact True.intro | exact rfl | apply And.intro)) <;> (subst hM; rw [succ_i64 (by omega)])⟩
      · rw [take_succ_getD 0 hlt, maxS_snoc (take_ne hj0 hj), ← hm, ← hv]
        subst hM; rfl
      · simp only; omega
    · have hj2 : j = l.length := by subst hM; simp [hl] at h; omega
      subst hj2
      rw [List.take_length] at hm
      rw [hy, hm]
theorem c_min (rl : List (List PV)) (l : List Int) (hl : rl = ints l) (h0 : l ≠ []) (h64 : l.length ≤ 1000000) (y : Int) (hy : y = minS l) : Call .plain 161 [.list 1 rl] (I y) := by
  have hpos : 0 < l.length := List.length_pos_iff.2 h0
  refine call_of Proofs.Tryz.func161 Proofs.Tryz.call161 rfl rfl fun M C hM hC => ?_
  cbv
  split <;> rename_i h <;> (try simp only [h]) <;> (try cbv) <;> (try simp only [ncast] at *)
  · have : (l.length : Int) < 1 := by subst hM; have h := of_decide_eq_true h; rw [hl] at h; have h : ((ints l).length : Int) < 1 := h; rwa [ints_len] at h
    omega
  · refine idx_ints hl (by decide) (by omega) fun v0 hv0 => ?_
    cbv
    refine Loop.over (Nat × Int) (fun q => [(.t 4, I q.1), (.t 3, I q.2)]) 0 (fun q => l.length - q.1) (fun q => 0 < q.1 ∧ q.1 ≤ l.length ∧ q.2 = minS (l.take q.1)) (1, v0) ⟨Nat.zero_lt_one, hpos, by rw [take_one hpos, hv0]; rfl⟩ (by (cbv; repeat' (first | exact True.intro | exact rfl | apply And.intro))) ?_
    clear h hv0
    rintro ⟨j, m⟩ ⟨hj0, hj, hm⟩
    simp only at hj0 hj hm
    cbv
    split <;> rename_i h <;> (try simp only [h]) <;> (try cbv) <;> (try simp only [ncast] at *)
    · have hlt : j < l.length := by subst hM; simpa [hl] using h
      clear h
      refine nidx_ints hl hlt fun v hv => ?_
      cbv
      refine ⟨⟨j + 1, _⟩, ⟨by omega, hlt, ?_⟩, ?_, by (cbv; repeat' (first | exact True.intro | exact rfl | apply And.intro)) <;> (subst hM; rw [succ_i64 (by omega)])⟩
      · rw [take_succ_getD 0 hlt, minS_snoc (take_ne hj0 hj), ← hm, ← hv]
        subst hM; rfl
      · simp only; omega
    · have hj2 : j = l.length := by subst hM; simp [hl] at h; omega
      subst hj2
      rw [List.take_length] at hm
      rw [hy, hm]

theorem DomR.none : DomR 0 [] 0 0 0 [] := ⟨⟨[], rfl, by simp, rfl, by simp⟩, rfl, by decide, by decide, rfl, rfl, rfl, by simp⟩

/-- Set in its word. -/
theorem set_step {M : Mach} (hM : M = Real) {off v : Int} {w : List Int} {xs : List (List PV)} (hxs : xs = u64s w) (hw : ∀ x ∈ w, word x) (h1 : off ≤ v) (h2 : v < off + 64 * w.length) (h3 : -3000000 ≤ off) (h4 : v ≤ 3000000) :
    ∃ qi x : Int, M .arith .quo .i64 (M .arith .sub .i64 v off) 64 = qi ∧ 0 ≤ qi ∧ (0 ≤ M .arith .rem .i64 (M .arith .sub .i64 v off) 64) ∧ xs[qi.toNat]? = some [U64 x] ∧
    M .set xs qi [U64 (M .arith .or .u64 x (M .shift .shl .u64 1 (M .arith .rem .i64 (M .arith .sub .i64 v off) 64)))] = u64s (setW off w v) := by
  have e1 : M .arith .sub .i64 v off = v - off := by subst hM; exact wrap_i64 (by omega) (by omega)
  have e2 : M .arith .quo .i64 (v - off) 64 = (v - off) / 64 := by
    subst hM
    show IntKind.i64.wrap ((v - off).tdiv 64) = _
    rw [Int.tdiv_eq_ediv_of_nonneg (by omega), wrap_i64 (by omega) (by omega)]
  have e3 : M .arith .rem .i64 (v - off) 64 = (v - off) % 64 := by
    subst hM
    show (v - off).tmod 64 = _
    rw [Int.tmod_eq_emod_of_nonneg (by omega)]
  rw [e1, e2, e3]
  refine ⟨_, w.getD ((v - off) / 64).toNat 0, rfl, by omega, by omega, ?_, ?_⟩
  · have : ((v - off) / 64).toNat < w.length := by omega
    rw [hxs, u64s_get]
    simp [List.getD_eq_getElem?_getD, this]
  · subst hM
    rw [real_shl1 (by omega) (by omega), real_or (getD_word hw _) (oneW_word (by omega)), hxs, u64s_setW]
    rfl

set_option maxHeartbeats 1000000 in
theorem c_of (rl : List (List PV)) (l : List Int) (hl : rl = ints l) (h64 : l.length ≤ 1000000) : ∃ off ws mn mx sz, DomR off ws mn mx sz (ofL l) ∧ Call .plain 86 [.list 1 rl] (.tup [.agg [I off, .list 1 ws, I mn, I mx, I sz], I (ofE l)]) := by
  have cf : ∀ y, y = l.any farS → Call .plain 142 [.list 1 rl, .clo (.func 159) [] []] (B y) := fun y hy => c_containsFunc0 rl l 159 farS hl h64 (fun v _ => c_of1 v _ rfl) y hy
  by_cases he : ofE l = 0
  · obtain ⟨h0, hf, hw⟩ := ofE_zero.1 he
    obtain ⟨mx, hmx⟩ : ∃ mx, mx = maxS l := ⟨_, rfl⟩
    obtain ⟨mn, hmn⟩ : ∃ mn, mn = minS l := ⟨_, rfl⟩
    have cmax := c_max rl l hl h0 h64 mx hmx
    have cmin := c_min rl l hl h0 h64 mn hmn
    obtain ⟨m1, m2⟩ := maxS_spec h0
    obtain ⟨m3, m4⟩ := minS_spec h0
    rw [← hmx] at m1 m2 hw
    rw [← hmn] at m3 m4 hw
    have b1 := hf mx m1
    have b2 := hf mn m3
    have hle : mn ≤ mx := m4 mx m1
    have p1 := plcS_le mn
    have p2 := plcS_le mx
    have p3 := plcS_al mn
    have p4 := plcS_al mx
    obtain ⟨n, hn⟩ : ∃ n, n = ((plcS mx - plcS mn) / 64 + 1).toNat := ⟨_, rfl⟩
    obtain ⟨zs, hzs⟩ : ∃ zs, zs = u64s (List.replicate n 0) := ⟨_, rfl⟩
    obtain ⟨off, hoff⟩ : ∃ off, off = plcS mn := ⟨_, rfl⟩
    have croom := c_room mn mx (by omega) hle (by omega) zs (by rw [hzs, hn]) off hoff
    rw [← hoff] at p1 p3 hn
    have hin : ∀ v ∈ l, off ≤ v ∧ v < off + 64 * n := fun v hv => by
      have := m2 v hv
      have := m4 v hv
      omega
    have hn2 : n ≤ 2000000 := by omega
    have hup : ∀ v ∈ l, v ≤ 1000000 := fun v hv => by have := m2 v hv; omega
    obtain ⟨W, hW⟩ : ∃ W, W = fillW off (List.replicate n 0) l := ⟨_, rfl⟩
    have hWw : ∀ x ∈ W, word x := by rw [hW]; exact fillW_words (zeros_words n)
    have hWl : W.length = n := by rw [hW, fillW_len]; simp
    have hWL : listW off W = setS l := by rw [hW]; exact fill_list hin (setS_rising l) fun u => mem_setS
    have heo : ofL l = setS l := by rw [ofL, if_pos he]
    refine ⟨off, u64s W, headS (setS l), lastS (setS l), (setS l).length, ⟨⟨W, rfl, hWw, by rw [hWL, heo], by omega⟩, p3, by omega, by omega, by rw [heo], by rw [heo], by rw [heo], (ofL_dom l).far⟩, ?_⟩
    obtain ⟨yw, hyw⟩ : ∃ yw, yw = u64s W := ⟨_, rfl⟩
    obtain ⟨ya, hya⟩ : ∃ y, y = headS (setS l) := ⟨_, rfl⟩
    obtain ⟨yb, hyb⟩ : ∃ y, y = lastS (setS l) := ⟨_, rfl⟩
    obtain ⟨yc, hyc⟩ : ∃ y : Int, y = (setS l).length := ⟨_, rfl⟩
    have cmade := c_made off yw W hyw hWw (by omega) (by omega) (by omega) ya yb yc (by rw [hWL, hya]) (by rw [hWL, hyb]) (by rw [hWL, hyc])
    rw [← hyw, ← hya, ← hyb, ← hyc, he]
    have hfar : l.any farS = false := by
      cases hh : l.any farS with
      | false => rfl
      | true =>
        obtain ⟨v, hv, hv2⟩ := List.any_eq_true.1 hh
        have := hf v hv
        simp [farS] at hv2; omega
    have cf := cf false hfar.symm
    have hlen0 : l.length ≠ 0 := fun e => h0 (List.eq_nil_of_length_eq_zero e)
    clear hya hyb hyc hWL heo he hf hfar m1 m2 m3 m4 hmx hmn hWw p2 p4 hn
    refine call_of Proofs.Tryz.func86 Proofs.Tryz.call86 rfl rfl fun M C hM hC => ?_
    have c0 : M .cmp .eql (Int.ofNat (M .len rl)) 0 = false := by
      subst hM
      show ((rl.length : Int) == 0) = false
      rw [hl, ints_len, beq_eq_false_iff_ne]; omega
    have c1 : M .cmp .geq (M .arith .sub .i64 mx mn) 65536 = false := by
      subst hM
      show decide (IntKind.i64.wrap (mx - mn) ≥ 65536) = false
      rw [wrap_i64 (by omega) (by omega), decide_eq_false_iff_not]; omega
    cbv
    rw [show M .cmp .eql _ 0 = _ from c0]
    cbv
    refine .mk _ (use_call hC cf) ?_
    cbv
    refine .mk _ (use_call hC cmax) ?_
    cbv
    refine .mk _ (use_call hC cmin) ?_
    cbv
    rw [show M .cmp .geq _ 65536 = _ from c1]
    cbv
    refine .mk _ (use_call hC cmin) ?_
    cbv
    refine .mk _ (use_call hC cmax) ?_
    cbv
    refine .part _ _ _ _ _ (use_call hC croom) ?_
    cbv
    refine Loop.over (Nat × List (List PV)) (fun q => [(.t 31, I q.1), (.a 1, .arr 0 128 1 q.2)]) 3 (fun q => l.length - q.1) (fun q => q.1 ≤ l.length ∧ q.2 = u64s (fillW off (List.replicate n 0) (l.take q.1))) (0, zs) ⟨Nat.zero_le _, hzs⟩ (by (cbv; repeat' (first | exact True.intro | exact rfl | apply And.intro))) ?_
    clear hzs
    rintro ⟨j, q⟩ ⟨hj, hq⟩
    simp only at hj hq
    cbv
    split <;> rename_i h <;> (try simp only [h]) <;> (try cbv) <;> (try simp only [ncast] at *)
    · have hlt : j < l.length := by subst hM; simpa [hl] using h
      clear h
      refine nidx_ints hl hlt fun v hv => ?_
      have hvl : v ∈ l := by rw [hv]; exact getD_mem 0 hlt
      have hvin := hin v hvl
      have hvup := hup v hvl
      obtain ⟨w, hw'⟩ : ∃ w, w = fillW off (List.replicate n 0) (l.take j) := ⟨_, rfl⟩
      have hwl : w.length = n := by rw [hw', fillW_len]; simp
      have hww : ∀ x ∈ w, word x := by rw [hw']; exact fillW_words (zeros_words n)
      have hnext : setW off w v = fillW off (List.replicate n 0) (l.take (j + 1)) := by
        rw [take_succ_getD 0 hlt, fillW_snoc, ← hv, hw']
      rw [← hw'] at hq
      obtain ⟨qi, x, s1, s2, s3, s4, s5⟩ := set_step hM hq hww hvin.1 (by rw [hwl]; exact hvin.2) (by omega) (by omega)
      rw [hnext] at s5
      clear hw' hww hnext hq hv
      cbv
      refine .mk (by decide) ?_
      rw [show M .arith .quo .i64 _ 64 = _ from s1]
      refine .mk _ s2 s4 ?_
      cbv
      refine .mk _ s2 s4 ?_
      cbv
      refine .mk (by decide) ?_
      cbv
      refine .mk s3 ?_
      cbv
      refine .mk _ s2 s4 ?_
      cbv
      refine .mk _ s2 s4 ?_
      cbv
      refine ⟨⟨j + 1, _⟩, ⟨hlt, ?_⟩, ?_, by (cbv; repeat' (first | exact True.intro | exact rfl | apply And.intro)) <;> (subst hM; rw [succ_i64 (by omega)])⟩
      · exact s5
      · simp only; omega
    · have hj2 : j = l.length := by subst hM; simp [hl] at h; omega
      subst hj2
      rw [List.take_length, ← hW, ← hyw] at hq
      subst hq
      refine .inl (.mk _ (use_call hC cmade) ?_)
      cbv
  · have heo : ofL l = [] := by rw [ofL, if_neg he]
    refine ⟨0, [], 0, 0, 0, by rw [heo]; exact DomR.none, ?_⟩
    obtain ⟨e, hee⟩ : ∃ e, e = ofE l := ⟨_, rfl⟩
    rw [← hee]
    have he0 := he
    unfold ofE at hee he0
    clear he heo
    refine call_of Proofs.Tryz.func86 Proofs.Tryz.call86 rfl rfl fun M C hM hC => ?_
    have c0 : M .cmp .eql (Int.ofNat (M .len rl)) 0 = decide (l = []) := by
      subst hM
      show ((rl.length : Int) == 0) = _
      rw [hl, ints_len, Bool.eq_iff_iff]
      cases l <;> simp
      omega
    by_cases h0 : l = []
    · rw [if_pos h0] at hee
      have c0 : M .cmp .eql (Int.ofNat (M .len rl)) 0 = true := by rw [c0]; simp [h0]
      clear h0 cf
      cbv
      rw [show M .cmp .eql _ 0 = _ from c0]
      cbv
      rw [hee]
      (cbv; repeat' (first | exact True.intro | exact rfl | apply And.intro))
    · rw [if_neg h0] at hee
      have c0 : M .cmp .eql (Int.ofNat (M .len rl)) 0 = false := by rw [c0]; simp [h0]
      obtain ⟨fz, hfz⟩ : ∃ z, z = l.any farS := ⟨_, rfl⟩
      have cf := cf fz hfz
      rw [← hfz] at hee
      cbv
      rw [show M .cmp .eql _ 0 = _ from c0]
      cbv
      refine .mk _ (use_call hC cf) ?_
      clear c0 cf
      cases fz
      · rw [if_neg (by decide)] at hee
        have hb : ∀ v ∈ l, -1000000 ≤ v ∧ v ≤ 1000000 := fun v hv => by
          have : farS v = false := by
            cases hf : farS v with
            | false => rfl
            | true => have := List.any_eq_true.2 ⟨v, hv, hf⟩; rw [← hfz] at this; cases this
          simp [farS] at this; omega
        obtain ⟨mx, hmx⟩ : ∃ mx, mx = maxS l := ⟨_, rfl⟩
        obtain ⟨mn, hmn⟩ : ∃ mn, mn = minS l := ⟨_, rfl⟩
        have cmax := c_max rl l hl h0 h64 mx hmx
        have cmin := c_min rl l hl h0 h64 mn hmn
        have b1 := hb mx (by rw [hmx]; exact (maxS_spec h0).1)
        have b2 := hb mn (by rw [hmn]; exact (minS_spec h0).1)
        rw [← hmx, ← hmn] at hee
        have c1 : mx - mn ≥ 65536 → M .cmp .geq (M .arith .sub .i64 mx mn) 65536 = true := fun h => by
          subst hM
          show decide (IntKind.i64.wrap (mx - mn) ≥ 65536) = true
          rw [wrap_i64 (by omega) (by omega), decide_eq_true_iff]; exact h
        have c2 : mx - mn ≥ 65536 := by
          by_cases h : mx - mn ≥ 65536
          · exact h
          · exfalso
            refine he0 ?_
            rw [if_neg h0, ← hfz, if_neg (by decide), ← hmx, ← hmn, if_neg h]
        have c1 := c1 c2
        rw [if_pos c2] at hee
        clear hb hmx hmn c2 he0 hfz
        cbv
        refine .mk _ (use_call hC cmax) ?_
        cbv
        refine .mk _ (use_call hC cmin) ?_
        cbv
        rw [show M .cmp .geq _ 65536 = _ from c1]
        cbv
        rw [hee]
        (cbv; repeat' (first | exact True.intro | exact rfl | apply And.intro))
      · rw [if_pos rfl] at hee
        clear he0
        cbv
        rw [hee]
        (cbv; repeat' (first | exact True.intro | exact rfl | apply And.intro))
end Go.Pi

/- Package dom: a range of numbers; what is left of a domain. -/
namespace Go.Pi
open Go
set_option linter.unusedVariables false
set_option linter.unusedSimpArgs false


theorem c_range (low high : Int) (h1 : -1000000 ≤ low) (h2 : low ≤ high) (h3 : high ≤ 1000000) (h4 : high - low < 65536) : ∃ off ws mn mx sz, DomR off ws mn mx sz (rangeL low high) ∧ Call .plain 88 [I low, I high] (.tup [.agg [I off, .list 1 ws, I mn, I mx, I sz], I 0]) := by
  have p1 := plcS_le low
  have p2 := plcS_le high
  have p3 := plcS_al low
  have p4 := plcS_al high
  have ci := c_domIn low true (by simp [farS]; omega)
  have ci2 := c_domIn high true (by simp [farS]; omega)
  obtain ⟨n, hn⟩ : ∃ n, n = ((plcS high - plcS low) / 64 + 1).toNat := ⟨_, rfl⟩
  obtain ⟨zs, hzs⟩ : ∃ zs, zs = u64s (List.replicate n 0) := ⟨_, rfl⟩
  obtain ⟨off, hoff⟩ : ∃ off, off = plcS low := ⟨_, rfl⟩
  have croom := c_room low high (by omega) h2 (by omega) zs (by rw [hzs, hn]) off hoff
  rw [← hoff] at p1 p3 hn
  have hin : ∀ v ∈ rangeL low high, off ≤ v ∧ v < off + 64 * n := fun v hv => by
    have := mem_rangeL.1 hv
    omega
  have hn2 : n ≤ 2000000 := by omega
  obtain ⟨W, hW⟩ : ∃ W, W = fillW off (List.replicate n 0) (rangeL low high) := ⟨_, rfl⟩
  have hWw : ∀ x ∈ W, word x := by rw [hW]; exact fillW_words (zeros_words n)
  have hWl : W.length = n := by rw [hW, fillW_len]; simp
  have hWL : listW off W = rangeL low high := by rw [hW]; exact fill_list hin (rangeL_rising _ _) fun u => Iff.rfl
  refine ⟨off, u64s W, headS (rangeL low high), lastS (rangeL low high), (rangeL low high).length, ⟨⟨W, rfl, hWw, by rw [hWL], by omega⟩, p3, by omega, by omega, rfl, rfl, rfl, fun v hv => by have := mem_rangeL.1 hv; omega⟩, ?_⟩
  obtain ⟨yw, hyw⟩ : ∃ yw, yw = u64s W := ⟨_, rfl⟩
  obtain ⟨ya, hya⟩ : ∃ y, y = headS (rangeL low high) := ⟨_, rfl⟩
  obtain ⟨yb, hyb⟩ : ∃ y, y = lastS (rangeL low high) := ⟨_, rfl⟩
  obtain ⟨yc, hyc⟩ : ∃ y : Int, y = (rangeL low high).length := ⟨_, rfl⟩
  have cmade := c_made off yw W hyw hWw (by omega) (by omega) (by omega) ya yb yc (by rw [hWL, hya]) (by rw [hWL, hyb]) (by rw [hWL, hyc])
  rw [← hyw, ← hya, ← hyb, ← hyc]
  obtain ⟨L, hL⟩ : ∃ L, L = rangeL low high := ⟨_, rfl⟩
  have hLl : L.length = (high - low + 1).toNat := by rw [hL]; simp [rangeL]
  have hLg : ∀ j : Nat, j < L.length → L.getD j 0 = low + j := fun j hj => by
    rw [hLl] at hj
    rw [hL]
    simp [rangeL, List.getD_eq_getElem?_getD, hj]
  rw [← hL] at hin hW
  clear hya hyb hyc hWL hWw p2 p4 hn hL
  refine call_of Proofs.Tryz.func88 Proofs.Tryz.call88 rfl rfl fun M C hM hC => ?_
  have c0 : M .cmp .gtr low high = false := by
    subst hM
    show decide (low > high) = false
    rw [decide_eq_false_iff_not]; omega
  have c1 : M .cmp .geq (M .arith .sub .i64 high low) 65536 = false := by
    subst hM
    show decide (IntKind.i64.wrap (high - low) ≥ 65536) = false
    rw [wrap_i64 (by omega) (by omega), decide_eq_false_iff_not]; omega
  have nt : M .not true = false := by subst hM; rfl
  cbv
  refine .mk _ (use_call hC ci) ?_
  cbv
  simp only [nt]
  cbv
  refine .mk _ (use_call hC ci2) ?_
  cbv
  simp only [nt]
  cbv
  simp only [c0]
  cbv
  rw [show M .cmp .geq _ 65536 = _ from c1]
  cbv
  refine .part _ _ _ _ _ (use_call hC croom) ?_
  cbv
  refine Loop.over (Nat × Int × List (List PV)) (fun q => [(.t 7, I q.2.1), (.a 1, .arr 0 128 1 q.2.2)]) 3 (fun q => L.length - q.1) (fun q => q.1 ≤ L.length ∧ q.2.1 = low + q.1 ∧ q.2.2 = u64s (fillW off (List.replicate n 0) (L.take q.1))) (0, low, zs) ⟨Nat.zero_le _, by simp, hzs⟩ (by (cbv; repeat' (first | exact True.intro | exact rfl | apply And.intro))) ?_
  clear hzs
  rintro ⟨j, v, q⟩ ⟨hj, hv, hq⟩
  simp only at hj hv hq
  cbv
  split <;> rename_i h <;> (try simp only [h]) <;> (try cbv) <;> (try simp only [ncast] at *)
  · have hlt : j < L.length := by
      rw [hLl]
      subst hM
      have h := of_decide_eq_true h
      have h : v ≤ high := h
      omega
    clear h
    have hvl : v = L.getD j 0 := by rw [hLg j hlt, hv]
    have hvin := hin v (by rw [hvl]; exact getD_mem 0 hlt)
    obtain ⟨w, hw'⟩ : ∃ w, w = fillW off (List.replicate n 0) (L.take j) := ⟨_, rfl⟩
    have hwl : w.length = n := by rw [hw', fillW_len]; simp
    have hww : ∀ x ∈ w, word x := by rw [hw']; exact fillW_words (zeros_words n)
    have hnext : setW off w v = fillW off (List.replicate n 0) (L.take (j + 1)) := by
      rw [take_succ_getD 0 hlt, fillW_snoc, ← hvl, hw']
    rw [← hw'] at hq
    obtain ⟨qi, x, s1, s2, s3, s4, s5⟩ := set_step hM hq hww hvin.1 (by rw [hwl]; exact hvin.2) (by omega) (by omega)
    rw [hnext] at s5
    have e9 : M .arith .add .i64 v 1 = low + (j + 1 : Nat) := by
      subst hM
      show IntKind.i64.wrap (v + 1) = _
      rw [wrap_i64 (by omega) (by omega)]; omega
    clear hw' hww hnext hq hvl
    cbv
    refine .mk (by decide) ?_
    rw [show M .arith .quo .i64 _ 64 = _ from s1]
    refine .mk _ s2 s4 ?_
    cbv
    refine .mk _ s2 s4 ?_
    cbv
    refine .mk (by decide) ?_
    cbv
    refine .mk s3 ?_
    cbv
    refine .mk _ s2 s4 ?_
    cbv
    refine .mk _ s2 s4 ?_
    cbv
    refine ⟨⟨j + 1, _, _⟩, ⟨hlt, e9, s5⟩, ?_, by (cbv; repeat' (first | exact True.intro | exact rfl | apply And.intro))⟩
    simp only; omega
  · have hj2 : j = L.length := by
      rw [hLl] at hj ⊢
      subst hM
      have h := of_decide_eq_false h
      have h : ¬ v ≤ high := h
      omega
    subst hj2
    rw [List.take_length, ← hW, ← hyw] at hq
    subst hq
    refine .inl (.mk _ (use_call hC cmade) ?_)
    cbv


theorem c_cloneU (xs : List (List PV)) (h64 : xs.length ≤ 2147483648) : Call .fresh 252 [.list 1 xs] (.arr 0 128 1 xs) := by
  refine fresh_of Proofs.Tryz.func252 Proofs.Tryz.call252 rfl rfl fun M C hM hC => ?_
  cbv
  refine .mk fun b hb => ?_
  cases b
  · cbv
    refine .mk (by subst hM; exact h64) ?_
    cbv
    subst hM; rfl
  · have hx : xs = [] := by
      cases xs with
      | nil => rfl
      | cons x r => exact absurd (hb (by simp)) (by simp)
    cbv
    exact hx

set_option maxHeartbeats 1000000 in
/-- What is left: of each word the bits that are kept. -/
theorem c_less (off mn mx sz : Int) (rw' : List (List PV)) (l : List Int) (D : DomR off rw' mn mx sz l) (g : FuncId) (cs : List PV) (k : Int → Int) (p : Int → Bool)
    (hg : ∀ a x, a % 64 = 0 → -2000000 ≤ a → a ≤ 200000000 → word x → Call .plain g [I a, U64 x, .ref cs] (U64 (k a))) (hkw : ∀ a, a % 64 = 0 → -2000000 ≤ a → a ≤ 200000000 → word (k a))
    (hk : ∀ a v, a % 64 = 0 → -2000000 ≤ a → a ≤ 200000000 → a ≤ v → v < a + 64 → (k a).toNat.testBit (v - a).toNat = p v) :
    ∃ off' ws' mn' mx' sz', DomR off' ws' mn' mx' sz' (l.filter p) ∧ Call .plain 232 [.agg [I off, .list 1 rw', I mn, I mx, I sz], .clo (.func g) [] [.ref cs]] (.tup [.agg [I off', .list 1 ws', I mn', I mx', I sz'], I (changeS l (l.filter p))]) := by
  obtain ⟨w, hrw, hw, hl, hlen⟩ := D.words
  have o1 := D.lo
  have o2 := D.hi
  have o3 := D.al
  have d1 := D.mn
  have d2 := D.mx
  have d3 := D.sz
  obtain ⟨W, hW⟩ : ∃ W, W = keepW off w k := ⟨_, rfl⟩
  have hWw : ∀ x ∈ W, word x := by rw [hW]; exact keepW_words hw
  have hWl : W.length = w.length := by rw [hW, keepW_len]
  have hWL : listW off W = l.filter p := by
    rw [hW, hl]
    exact keepW_list o3 fun a v h1 h2 h3 h4 h5 => hk a v h1 (by omega) (by omega) h4 h5
  obtain ⟨l', hl'⟩ : ∃ l', l' = l.filter p := ⟨_, rfl⟩
  have hfar' : ∀ v ∈ l', -1000000 ≤ v ∧ v ≤ 1000000 := fun v hv => D.far v (List.mem_filter.1 (hl' ▸ hv)).1
  have hlen' : l'.length ≤ l.length := by rw [hl']; exact List.length_filter_le _ _
  have hsame : l'.length = l.length → l' = l := fun h => by
    rw [hl'] at h ⊢
    exact List.filter_eq_self.2 (List.length_filter_eq_length_iff.1 h)
  rw [← hl'] at hWL ⊢
  obtain ⟨yw, hyw⟩ : ∃ yw, yw = u64s W := ⟨_, rfl⟩
  obtain ⟨ya, hya⟩ : ∃ y, y = headS l' := ⟨_, rfl⟩
  obtain ⟨yb, hyb⟩ : ∃ y, y = lastS l' := ⟨_, rfl⟩
  obtain ⟨yc, hyc⟩ : ∃ y : Int, y = l'.length := ⟨_, rfl⟩
  have cmade := c_made off yw W hyw hWw (by omega) (by omega) (by omega) ya yb yc (by rw [hWL, hya]) (by rw [hWL, hyb]) (by rw [hWL, hyc])
  have D' : DomR off yw ya yb yc l' := ⟨⟨W, hyw, hWw, hWL.symm, by omega⟩, o3, o1, o2, hya, hyb, hyc, hfar'⟩
  have hrl : rw'.length = w.length := by rw [hrw]; simp
  have ccl := c_cloneU rw' (by rw [hrw]; simp; omega)
  -- the walk, whatever comes out
  have walk : ∀ off' ws' mn' mx' sz' ch, (yc = sz → (off = off' ∧ rw' = ws' ∧ mn = mn' ∧ mx = mx' ∧ sz = sz') ∧ ch = 0) → (yc ≠ sz → yc = 0 → (0 = off' ∧ [] = ws' ∧ 0 = mn' ∧ 0 = mx' ∧ 0 = sz') ∧ ch = 4) →
      (yc ≠ sz → yc ≠ 0 → (off = off' ∧ yw = ws' ∧ ya = mn' ∧ yb = mx' ∧ yc = sz') ∧ ch = if yc = 1 then 3 else if ya ≠ mn ∨ yb ≠ mx then 2 else 1) →
      Call .plain 232 [.agg [I off, .list 1 rw', I mn, I mx, I sz], .clo (.func g) [] [.ref cs]] (.tup [.agg [I off', .list 1 ws', I mn', I mx', I sz'], I ch]) := by
    intro off' ws' mn' mx' sz' ch r1 r2 r3
    clear D D' hsame hlen' hfar' d1 d2 d3 hya hyb hyc hl hl' hWL hk
    refine call_of Proofs.Tryz.func232 Proofs.Tryz.call232 rfl rfl fun M C hM hC => ?_
    cbv
    refine .new _ _ _ (use_call hC ccl) ?_
    cbv
    refine Loop.over (Nat × List (List PV)) (fun q => [(.t 15, I q.1), (.a 2, .arr 0 128 1 q.2)]) 3 (fun q => w.length - q.1) (fun q => q.1 ≤ w.length ∧ q.2.length = w.length ∧ ∀ i, i < w.length → q.2[i]? = some [U64 (if i < q.1 then W.getD i 0 else w.getD i 0)]) (0, rw') ⟨Nat.zero_le _, by rw [hrw]; simp, fun i hi => by rw [hrw, u64s_get]; simp [List.getD_eq_getElem?_getD, hi]⟩ (by (cbv; repeat' (first | exact True.intro | exact rfl | apply And.intro))) ?_
    rintro ⟨j, q⟩ ⟨hj, hql, hq⟩
    simp only at hj hql hq
    cbv
    split <;> rename_i h <;> (try simp only [h]) <;> (try cbv) <;> (try simp only [ncast] at *)
    · have hlt : j < w.length := by subst hM; have h := of_decide_eq_true h; rw [← hrl]; exact Int.ofNat_lt.1 h
      clear h
      obtain ⟨x, hx⟩ : ∃ x, x = w.getD j 0 := ⟨_, rfl⟩
      have hxw : word x := by rw [hx]; exact getD_word hw j
      have gi : q[(Int.ofNat j).toNat]? = some [U64 x] := by
        have := hq j hlt
        rw [if_neg (by omega), ← hx] at this
        exact this
      obtain ⟨a, ha⟩ : ∃ a, a = off + 64 * (j : Int) := ⟨_, rfl⟩
      have e1 : M .arith .add .i64 off (M .arith .mul .i64 64 (Int.ofNat j)) = a := by
        subst hM
        show IntKind.i64.wrap (off + IntKind.i64.wrap (64 * (j : Int))) = _
        rw [wrap_i64 (x := 64 * (j : Int)) (by omega) (by omega), wrap_i64 (by omega) (by omega), ha]
      have cg := hg a x (by omega) (by omega) (by omega) hxw
      have kw := hkw a (by omega) (by omega) (by omega)
      obtain ⟨ka, hka⟩ : ∃ ka, ka = k a := ⟨_, rfl⟩
      rw [← hka] at cg kw
      have fin : M .arith .and .u64 x ka = W.getD j 0 := by
        subst hM
        rw [real_and hxw kw, hW, hka, ha, hx]
        simp [keepW, List.getD_eq_getElem?_getD, hlt]
      have hnext : ∀ i, i < w.length → (M .set q (Int.ofNat j) [U64 (M .arith .and .u64 x ka)])[i]? = some [U64 (if i < j + 1 then W.getD i 0 else w.getD i 0)] := fun i hi => by
        rw [fin]
        subst hM
        show (q.set j [U64 (W.getD j 0)])[i]? = _
        by_cases e : i = j
        · subst e
          rw [List.getElem?_set_self (by omega), if_pos (by omega)]
        · rw [List.getElem?_set_ne (by omega), hq i hi]
          by_cases h2 : i < j
          · rw [if_pos h2, if_pos (by omega)]
          · rw [if_neg h2, if_neg (by omega)]
      have hnl : (M .set q (Int.ofNat j) [U64 (M .arith .and .u64 x ka)]).length = w.length := by
        subst hM
        show (q.set j _).length = _
        rw [List.length_set, hql]
      clear fin hka ha kw hx hW
      refine .mk _ (Int.natCast_nonneg _) gi ?_
      cbv
      refine .mk _ (Int.natCast_nonneg _) gi ?_
      cbv
      rw [show M .arith .add .i64 off _ = _ from e1]
      refine .mk _ (use_call hC cg) ?_
      cbv
      refine .mk _ (Int.natCast_nonneg _) gi ?_
      cbv
      refine .mk _ (Int.natCast_nonneg _) gi ?_
      cbv
      refine ⟨⟨j + 1, _⟩, ⟨hlt, hnl, hnext⟩, ?_, by (cbv; repeat' (first | exact True.intro | exact rfl | apply And.intro)) <;> (subst hM; rw [succ_i64 (by omega)])⟩
      simp only; omega
    · have hj2 : j = w.length := by subst hM; have h := of_decide_eq_false h; have h : ¬ (j : Int) < (rw'.length : Int) := h; omega
      subst hj2
      have hq2 : q = yw := by
        apply List.ext_getElem?
        intro i
        rw [hyw, u64s_get]
        by_cases hi : i < w.length
        · rw [hq i hi, if_pos hi]
          have : i < W.length := by omega
          simp [List.getD_eq_getElem?_getD, this]
        · rw [List.getElem?_eq_none (by omega), List.getElem?_eq_none (by omega)]; rfl
      subst hq2
      clear h hq hql hyw hW
      refine .inl (.mk _ (use_call hC cmade) ?_)
      have q1 : M .cmp .eql yc sz = decide (yc = sz) := by subst hM; show (yc == sz) = _; rw [Bool.eq_iff_iff]; simp
      have q2 : M .cmp .eql yc 0 = decide (yc = 0) := by subst hM; show (yc == 0) = _; rw [Bool.eq_iff_iff]; simp
      have q3 : M .cmp .eql yc 1 = decide (yc = 1) := by subst hM; show (yc == 1) = _; rw [Bool.eq_iff_iff]; simp
      have q4 : M .cmp .neq ya mn = decide (ya ≠ mn) := by subst hM; show (ya != mn) = _; rw [Bool.eq_iff_iff]; simp
      have q5 : M .cmp .neq yb mx = decide (yb ≠ mx) := by subst hM; show (yb != mx) = _; rw [Bool.eq_iff_iff]; simp
      by_cases g1 : yc = sz
      · obtain ⟨⟨rfl, rfl, rfl, rfl, rfl⟩, rfl⟩ := r1 g1
        have q1 : M .cmp .eql yc sz = true := by rw [q1]; simpa using g1
        clear q2 q3 q4 q5 r1 r2 r3 g1
        cbv
        rw [show M .cmp .eql yc sz = _ from q1]
        cbv
      · have q1 : M .cmp .eql yc sz = false := by rw [q1]; simpa using g1
        by_cases g2 : yc = 0
        · obtain ⟨⟨rfl, rfl, rfl, rfl, rfl⟩, rfl⟩ := r2 g1 g2
          have q2 : M .cmp .eql yc 0 = true := by rw [q2]; simpa using g2
          clear q3 q4 q5 r1 r2 r3 g1 g2
          cbv
          rw [show M .cmp .eql yc sz = _ from q1]
          cbv
          rw [show M .cmp .eql yc 0 = _ from q2]
          cbv
        · obtain ⟨⟨rfl, rfl, rfl, rfl, rfl⟩, hch⟩ := r3 g1 g2
          have q2 : M .cmp .eql yc 0 = false := by rw [q2]; simpa using g2
          by_cases g3 : yc = 1
          · have q3 : M .cmp .eql yc 1 = true := by rw [q3]; simpa using g3
            rw [if_pos g3] at hch
            clear q4 q5 r1 r2 r3 g1 g2 g3
            subst hch
            cbv
            rw [show M .cmp .eql yc sz = _ from q1]
            cbv
            rw [show M .cmp .eql yc 0 = _ from q2]
            cbv
            rw [show M .cmp .eql yc 1 = _ from q3]
            cbv
          · have q3 : M .cmp .eql yc 1 = false := by rw [q3]; simpa using g3
            rw [if_neg g3] at hch
            by_cases g4 : ya ≠ mn
            · have q4 : M .cmp .neq ya mn = true := by rw [q4]; simpa using g4
              rw [if_pos (.inl g4)] at hch
              clear q5 r1 r2 r3 g1 g2 g3 g4
              subst hch
              cbv
              rw [show M .cmp .eql yc sz = _ from q1]
              cbv
              rw [show M .cmp .eql yc 0 = _ from q2]
              cbv
              rw [show M .cmp .eql yc 1 = _ from q3]
              cbv
              rw [show M .cmp .neq ya mn = _ from q4]
              cbv
            · have q4 : M .cmp .neq ya mn = false := by rw [q4]; simpa using g4
              by_cases g5 : yb ≠ mx
              · have q5 : M .cmp .neq yb mx = true := by rw [q5]; simpa using g5
                rw [if_pos (.inr g5)] at hch
                clear r1 r2 r3 g1 g2 g3 g4 g5
                subst hch
                cbv
                rw [show M .cmp .eql yc sz = _ from q1]
                cbv
                rw [show M .cmp .eql yc 0 = _ from q2]
                cbv
                rw [show M .cmp .eql yc 1 = _ from q3]
                cbv
                rw [show M .cmp .neq ya mn = _ from q4]
                cbv
                rw [show M .cmp .neq yb mx = _ from q5]
                cbv
              · have q5 : M .cmp .neq yb mx = false := by rw [q5]; simpa using g5
                rw [if_neg (fun h => h.elim g4 g5)] at hch
                clear r1 r2 r3 g1 g2 g3 g4 g5
                subst hch
                cbv
                rw [show M .cmp .eql yc sz = _ from q1]
                cbv
                rw [show M .cmp .eql yc 0 = _ from q2]
                cbv
                rw [show M .cmp .eql yc 1 = _ from q3]
                cbv
                rw [show M .cmp .neq ya mn = _ from q4]
                cbv
                rw [show M .cmp .neq yb mx = _ from q5]
                cbv
  by_cases g1 : l'.length = l.length
  · have e : l' = l := hsame g1
    refine ⟨off, rw', mn, mx, sz, by rw [e]; exact D, walk _ _ _ _ _ _ (fun _ => ⟨⟨rfl, rfl, rfl, rfl, rfl⟩, ?_⟩) (fun h => ?_) (fun h => ?_)⟩
    · rw [changeS, if_pos g1]
    · exact absurd (by rw [hyc, d3, g1]) h
    · exact absurd (by rw [hyc, d3, g1]) h
  · have n1 : yc ≠ sz := by rw [hyc, d3]; omega
    by_cases g2 : l'.length = 0
    · have e : l' = [] := List.eq_nil_of_length_eq_zero g2
      refine ⟨0, [], 0, 0, 0, by rw [e]; exact DomR.none, walk _ _ _ _ _ _ (fun h => absurd h n1) (fun _ _ => ⟨⟨rfl, rfl, rfl, rfl, rfl⟩, ?_⟩) (fun _ h => absurd (by rw [hyc, g2]; rfl) h)⟩
      rw [changeS, if_neg g1, if_pos g2]
    · refine ⟨off, yw, ya, yb, yc, D', walk _ _ _ _ _ _ (fun h => absurd h n1) (fun _ h => absurd (by omega) g2) (fun _ _ => ⟨⟨rfl, rfl, rfl, rfl, rfl⟩, ?_⟩)⟩
      rw [changeS, if_neg g1, if_neg g2, hya, hyb, d1, d2]
      have : (l'.length = 1) ↔ yc = 1 := by omega
      simp only [this]
end Go.Pi
