/- Package slices' readers, with closures; Concat. -/
import Derived.Test.YtlgoiaembdlemaaGreatSl1
set_option linter.unusedSimpArgs false
set_option linter.unusedVariables false
namespace Go.Pi
open Go
set_option linter.unusedVariables false

theorem c_indexFunc1 (rl : List (List PV)) (l : List Int) (g : FuncId) (cs : List PV) (p : Int → Bool) (hl : rl = ints l) (h64 : l.length ≤ 1000000) (hg : ∀ v ∈ l, Call .plain g [I v, .ref cs] (B (p v))) (y : Int) (hy : y = idxS p l) :
    Call .plain 40 [.list 1 rl, .clo (.func g) [] [.ref cs]] (I y) := by
  refine call_of Proofs.Tryz.func40 Proofs.Tryz.call40 rfl rfl fun M C hM hC => ?_
  cbv
  refine Loop.over Nat (fun q => [(.t 8, I q)]) 0 (fun q => l.length - q) (fun q => q ≤ l.length ∧ ∀ i, i < q → p (l.getD i 0) = false) 0 ⟨Nat.zero_le _, by omega⟩ (by (cbv; repeat' (first | exact True.intro | exact rfl | apply And.intro))) ?_
  rintro j ⟨hj, hn⟩
  cbv
  split <;> rename_i h <;> (try simp only [h]) <;> (try cbv)
  · have hlt : j < l.length := by subst hM; simpa [hl] using h
    refine nidx_ints hl hlt fun u hu => ?_
    cbv
    obtain ⟨b, hb, hc⟩ : ∃ b, b = p u ∧ C .plain g [I u, .ref cs] (B b) := ⟨_, rfl, use_call hC (hg u (hu ▸ getD_mem 0 hlt))⟩
    refine .mk _ hc ?_
    cbv
    cases b
    · cbv
      refine ⟨j + 1, ⟨hlt, fun i hi => ?_⟩, ?_, by (cbv; repeat' (first | exact True.intro | exact rfl | apply And.intro)) <;> (subst hM; rw [succ_i64 (by omega)])⟩
      · rcases Nat.lt_or_ge i j with h3 | h3
        · exact hn i h3
        · have : i = j := by omega
          subst this; rw [← hu]; exact hb.symm
      · omega
    · cbv
      rw [hy, idxS_hit 0 hlt (by rw [← hu]; exact hb.symm) hn]
      rfl
  · have hj2 : j = l.length := by subst hM; simp [hl] at h; omega
    subst hj2
    rw [hy, idxS_no 0 hn]
theorem c_containsFunc1 (rl : List (List PV)) (l : List Int) (g : FuncId) (cs : List PV) (p : Int → Bool) (hl : rl = ints l) (h64 : l.length ≤ 1000000) (hg : ∀ v ∈ l, Call .plain g [I v, .ref cs] (B (p v))) (y : Bool) (hy : y = l.any p) :
    Call .plain 15 [.list 1 rl, .clo (.func g) [] [.ref cs]] (B y) := by
  refine call_of Proofs.Tryz.func15 Proofs.Tryz.call15 rfl rfl fun M C hM hC => ?_
  cbv
  refine callI hC (c_indexFunc1 rl l g cs p hl h64 hg _ rfl) fun i hi => ?_
  cbv
  subst hM
  rw [hy, real_geq, hi, idxS_nonneg]

theorem c_indexFuncR (rl : List (List PV)) (l : List (List Int)) (g : FuncId) (cs : List PV) (p : List Int → Bool) (hl : rl = rowsOf l) (h64 : l.length ≤ 1000000) (hg : ∀ v ∈ l, ∀ r, r = ints v → Call .plain g [.list 1 r, .ref cs] (B (p v))) (y : Int) (hy : y = idxS p l) :
    Call .plain 47 [.list 1 rl, .clo (.func g) [] [.ref cs]] (I y) := by
  refine call_of Proofs.Tryz.func47 Proofs.Tryz.call47 rfl rfl fun M C hM hC => ?_
  cbv
  refine Loop.over Nat (fun q => [(.t 8, I q)]) 0 (fun q => l.length - q) (fun q => q ≤ l.length ∧ ∀ i, i < q → p (l.getD i []) = false) 0 ⟨Nat.zero_le _, by omega⟩ (by (cbv; repeat' (first | exact True.intro | exact rfl | apply And.intro))) ?_
  rintro j ⟨hj, hn⟩
  cbv
  split <;> rename_i h <;> (try simp only [h]) <;> (try cbv)
  · have hlt : j < l.length := by subst hM; simpa [hl] using h
    refine nidx_rows hl hlt fun u hu => ?_
    cbv
    obtain ⟨b, hb, hc⟩ : ∃ b, b = p (l.getD j []) ∧ C .plain g [.list 1 u, .ref cs] (B b) := ⟨_, rfl, use_call hC (hg _ (getD_mem [] hlt) u hu)⟩
    refine .mk _ hc ?_
    cbv
    cases b
    · cbv
      refine ⟨j + 1, ⟨hlt, fun i hi => ?_⟩, ?_, by (cbv; repeat' (first | exact True.intro | exact rfl | apply And.intro)) <;> (subst hM; rw [succ_i64 (by omega)])⟩
      · rcases Nat.lt_or_ge i j with h3 | h3
        · exact hn i h3
        · have : i = j := by omega
          subst this; exact hb.symm
      · omega
    · cbv
      rw [hy, idxS_hit [] hlt hb.symm hn]
      rfl
  · have hj2 : j = l.length := by subst hM; simp [hl] at h; omega
    subst hj2
    rw [hy, idxS_no [] hn]
theorem c_containsFuncR (rl : List (List PV)) (l : List (List Int)) (g : FuncId) (cs : List PV) (p : List Int → Bool) (hl : rl = rowsOf l) (h64 : l.length ≤ 1000000) (hg : ∀ v ∈ l, ∀ r, r = ints v → Call .plain g [.list 1 r, .ref cs] (B (p v))) (y : Bool) (hy : y = l.any p) :
    Call .plain 21 [.list 1 rl, .clo (.func g) [] [.ref cs]] (B y) := by
  refine call_of Proofs.Tryz.func21 Proofs.Tryz.call21 rfl rfl fun M C hM hC => ?_
  cbv
  refine callI hC (c_indexFuncR rl l g cs p hl h64 hg _ rfl) fun i hi => ?_
  cbv
  subst hM
  rw [hy, real_geq, hi, idxS_nonneg]

theorem c_grow (n : Int) (h0 : 0 ≤ n) (h1 : n ≤ 2147483648) : Call .fresh 79 [.nil, I n] (.arr 0 3 1 []) := by
  refine fresh_of Proofs.Tryz.func79 Proofs.Tryz.call79 rfl rfl fun M C hM hC => ?_
  cbv
  split <;> rename_i h <;> (try simp only [h]) <;> (try cbv)
  · subst hM; simp at h; omega
  · have e1 : M .arith .sub .i64 n (M .arith .sub .i64 0 (Int.ofNat (M .len []))) = n := by
      subst hM
      show IntKind.i64.wrap (n - IntKind.i64.wrap (0 - 0)) = n
      rw [wrap_i64 (x := 0 - 0) (by omega) (by omega), wrap_i64 (by omega) (by omega)]; omega
    split <;> rename_i h <;> (try simp only [h]) <;> (try cbv)
    · refine .mk (by decide) (.mk (by decide) ?_)
      cbv
      refine .mk (by rw [show M .arith .sub .i64 n _ = n from e1]; exact h0) (.mk (by rw [show M .arith .sub .i64 n _ = n from e1]; exact h1) ?_)
      cbv
      refine .cut (.mk (by subst hM; decide) (.mk (by subst hM; exact Int.natCast_nonneg _) ?_))
      cbv
      subst hM
      simp

def rowsRaw (L : List (List (List PV))) : List (List PV) := L.map fun r => [.list 1 r]
@[simp] theorem rowsRaw_len (L : List (List (List PV))) : (rowsRaw L).length = L.length := by simp [rowsRaw]
theorem idx_raw {R : List (List PV)} {L : List (List (List PV))} {j : Nat} {K : List PV → Prop} (hR : R = rowsRaw L) (h1 : j < L.length) (k : ∀ r, r = L.getD j [] → K [.list 1 r]) : Idx R (Int.ofNat j) K := by
  subst hR
  refine .mk [.list 1 (L.getD j [])] (Int.natCast_nonneg j) ?_ (k _ rfl)
  simp [rowsRaw, List.getD_eq_getElem?_getD, h1]
def lenL (L : List (List (List PV))) (q : Nat) : Nat := (L.take q).flatten.length
theorem lenL_succ {L : List (List (List PV))} {q : Nat} (h : q < L.length) : lenL L (q + 1) = lenL L q + (L.getD q []).length := by
  unfold lenL
  rw [take_succ_getD [] h]
  simp
theorem lenL_le {L : List (List (List PV))} (h : ∀ r ∈ L, r.length ≤ 1000000) : ∀ q, q ≤ L.length → lenL L q ≤ q * 1000000
  | 0, _ => by simp [lenL]
  | q + 1, hq => by
    rw [lenL_succ hq]
    have := lenL_le h q (by omega)
    have := h _ (getD_mem [] hq)
    rw [Nat.add_mul]; omega
theorem c_concat (rl : List (List PV)) (L : List (List (List PV))) (hl : rl = rowsRaw L) (hr : ∀ r ∈ L, r.length ≤ 1000000) (h64 : L.length ≤ 1000) (r : List (List PV)) (hy : r = L.flatten) : Call .plain 66 [.list 1 rl] (.list 1 r) := by
  refine call_of Proofs.Tryz.func66 Proofs.Tryz.call66 rfl rfl fun M C hM hC => ?_
  cbv
  refine Loop.over (Nat × Int) (fun q => [(.t 11, I q.1), (.t 3, I q.2)]) 0 (fun q => L.length - q.1) (fun q => q.1 ≤ L.length ∧ q.2 = lenL L q.1) (0, 0) ⟨Nat.zero_le _, by simp [lenL]⟩ (by (cbv; repeat' (first | exact True.intro | exact rfl | apply And.intro))) ?_
  rintro ⟨j, n⟩ ⟨hj, hn⟩
  simp only at hj hn
  have hle := lenL_le hr j hj
  cbv
  split <;> rename_i h <;> (try simp only [h]) <;> (try cbv) <;> (try simp only [ncast] at *)
  · have hlt : j < L.length := by subst hM; simpa [hl] using h
    refine idx_raw hl hlt fun u hu => ?_
    cbv
    have hm := hr _ (getD_mem [] hlt)
    rw [← hu] at hm
    have hs := lenL_succ hlt
    rw [← hu] at hs
    (try simp only [ncast] at *)
    have e1 : M .arith .add .i64 n (Int.ofNat (M .len u)) = lenL L (j + 1) := by
      subst hM
      show IntKind.i64.wrap (n + (u.length : Int)) = _
      rw [wrap_i64 (by omega) (by omega), hs, hn]; simp
    split <;> rename_i h <;> (try simp only [h]) <;> (try cbv) <;> (try simp only [ncast] at *)
    · have h2 : M .arith .add .i64 n (Int.ofNat (M .len u)) < 0 := by subst hM; simpa using h
      rw [e1] at h2
      omega
    · refine ⟨⟨j + 1, _⟩, ⟨hlt, e1⟩, ?_, by (cbv; repeat' (first | exact True.intro | exact rfl | apply And.intro)) <;> (subst hM; rw [succ_i64 (by omega)])⟩
      simp only; omega
  · have hj2 : j = L.length := by subst hM; simp [hl] at h; omega
    subst hj2
    refine callF hC (c_grow n (by omega) (by omega)) fun z hz => ?_
    cbv
    have hz : z = (L.take 0).flatten := by simpa using hz
    refine Loop.over (Nat × List (List PV)) (fun q => [(.t 27, I q.1), (.t 24, .junk), (.t 6, .own 0 0), (.a 0, .arr 0 3 1 q.2), (.i 0, .inf true 0)]) 1 (fun q => L.length - q.1) (fun q => q.1 ≤ L.length ∧ q.2 = (L.take q.1).flatten) (0, z) ⟨Nat.zero_le _, hz⟩ (by (cbv; repeat' (first | exact True.intro | exact rfl | apply And.intro))) ?_
    rintro ⟨j, q⟩ ⟨hj, hq⟩
    simp only at hj hq
    cbv
    split <;> rename_i h <;> (try simp only [h]) <;> (try cbv)
    · have hlt : j < L.length := by subst hM; simpa [hl] using h
      refine idx_raw hl hlt fun u hu => ?_
      cbv
      have hm := hr _ (getD_mem [] hlt)
      rw [← hu] at hm
      have h1 := lenL_le hr j hj
      unfold lenL at h1
      have e1 : M .app q u = (L.take (j + 1)).flatten := by
        subst hM
        rw [take_succ_getD [] hlt, ← hu, hq]; simp
      refine .mk (by subst hM; simp [hq] at h1 ⊢; omega) ?_
      cbv
      refine ⟨⟨j + 1, _⟩, ⟨hlt, e1⟩, ?_, by (cbv; repeat' (first | exact True.intro | exact rfl | apply And.intro)) <;> (subst hM; rw [succ_i64 (by omega)])⟩
      simp only; omega
    · have hj2 : j = L.length := by subst hM; simp [hl] at h; omega
      subst hj2
      rw [List.take_length] at hq
      exact ⟨hq.trans hy.symm, trivial⟩
