/- A verified evaluator of Go's code over plain values, part 2. No condition. -/
import Derived.Test.YtlgoiaembdlemaaGreatDoorPia
set_option linter.unusedSimpArgs false
set_option linter.unusedVariables false

/- Calls of Go functions; len, min, max; parts of slices and strings; structs' literals. -/
namespace Go.Pi
open Go
section ops
variable {P : Program} {Γ : Ctx} {E : Env} {o : Oper} {m : Mem} {n : Nat} {K : Kont} {A : World → Prop}

theorem flat_rep {ok ok' : Nat → Prop} {w : World} {x : Value} {y : PV} {ι : Nat → Option Home} (h : RepS ok w x y) (hf : flat y = true) : RepT ι ok' w x y := by
  cases h with
  | v x => exact .str _ _ (.v x)
  | tup vs cs hs hr =>
    refine .str _ _ (.tup vs cs hs fun i c hi => ?_)
    have key : ∀ (l : List PV), flat.flats l = true → ∀ c ∈ l, ∃ z, c = .v z := by
      intro l
      induction l with
      | nil => intro _ c hc; cases hc
      | cons q r ih =>
        intro h c hc
        cases q <;> simp only [flat.flats] at h <;> first
          | (cases h; done)
          | (rcases List.mem_cons.1 hc with rfl | hc
             · exact ⟨_, rfl⟩
             · exact ih h c hc)
    obtain ⟨z, rfl⟩ := key cs hf c (List.mem_of_getElem? hi)
    have := hr i _ hi
    generalize vs.getD i undef = q at this
    cases this
    exact .v _
  | _ => simp [flat] at hf

theorem opnd_sub {S' : Sta} (h1 : ∀ k ∈ opnds o.op.operands.toList, S' k = toS m k) : ∀ (l : List Operand), (∀ x ∈ l, x ∈ o.op.operands.toList) → ∀ k ∈ opnds l, S' k = toS m k := by
  intro l hl
  induction l with
  | nil => intro k hk; simp [opnds] at hk
  | cons x r ih =>
    intro k hk
    rw [opnds_cons] at hk
    rcases hk with hk | hk
    · exact h1 k (opnd1 (hl x (by simp)) k hk)
    · exact ih (fun y hy => hl y (by simp [hy])) k hk

theorem tell_list {ι S' a w} (hs : SR Γ ι S' a w) {ps : List PV} {B : Tolds} (hB : tells (tell m depth) ps = some B) (hrd : ∀ k ∈ B.rd, S' k = toS m k) {vs : List Value} (hl : vs.length = ps.length)
    (hv : ∀ (i : Nat) p, ps[i]? = some p → RepT ι (okS Γ ι S' w) w (vs.getD i undef) p) : vs.length = B.ps.length ∧ ∀ (i : Nat) q, B.ps[i]? = some q → RepS (okI Γ ι S' w B.ids) w (vs.getD i undef) q := by
  refine ⟨by rw [(tells_live (tell_live m depth) _ _ hB).1]; exact hl, fun i q hq => ?_⟩
  obtain ⟨p, hp, hr⟩ := tells_rep hs (fun x p T h1 h2 h3 => tell_rep hs depth x p T h1 h2 h3) _ _ hB hrd i q hq
  exact hr _ (hv i p hp)

theorem list_append_rep {ok : Nat → Prop} {w : World} {va vb : List Value} {a b : List PV} (ha : va.length = a.length ∧ ∀ (i : Nat) q, a[i]? = some q → RepS ok w (va.getD i undef) q)
    (hb : vb.length = b.length ∧ ∀ (i : Nat) q, b[i]? = some q → RepS ok w (vb.getD i undef) q) : (va ++ vb).length = (a ++ b).length ∧ ∀ (i : Nat) q, (a ++ b)[i]? = some q → RepS ok w ((va ++ vb).getD i undef) q := by
  refine ⟨by simp [ha.1, hb.1], fun i q hq => ?_⟩
  simp only [List.getD_eq_getElem?_getD]
  by_cases h : i < a.length
  · rw [List.getElem?_append_left h] at hq
    rw [List.getElem?_append_left (by rw [ha.1]; exact h)]
    simpa [List.getD_eq_getElem?_getD] using ha.2 i q hq
  · rw [List.getElem?_append_right (by omega)] at hq
    rw [List.getElem?_append_right (by rw [ha.1]; omega), ha.1]
    simpa [List.getD_eq_getElem?_getD] using hb.2 _ q hq

theorem like_rep {ok : Nat → Prop} {w : World} : ∀ (n : Nat) {x : Value} {p q : PV}, like n p q → RepS ok w x p → RepS ok w x q
  | 0, x, p, q, h, hx => by simp only [like] at h; subst h; exact hx
  | n + 1, x, p, q, h, hx => by
    have ih : ∀ (a b : List PV), like.likes (like n) a b → a.length = b.length ∧ ∀ (i : Nat) c, b[i]? = some c → ∃ c', a[i]? = some c' ∧ like n c' c := by
      intro a
      induction a with
      | nil => intro b hb; cases b with | nil => simp | cons y l => exact hb.elim
      | cons x r ih =>
        intro b hb
        cases b with
        | nil => exact hb.elim
        | cons y l =>
          obtain ⟨h1, h2⟩ := hb
          obtain ⟨h3, h4⟩ := ih l h2
          refine ⟨by simp [h3], fun i c hc => ?_⟩
          cases i with
          | zero => simp at hc; subst hc; exact ⟨x, rfl, h1⟩
          | succ i => simpa using h4 i c (by simpa using hc)
    simp only [like] at h
    split at h
    · obtain ⟨rfl, h⟩ := h
      rcases h with rfl | rfl
      · exact hx
      · cases hx with
        | empty => exact .empty _ _ _
        | list b off cap es xs f hb hcap hes hc hr => exact .empty _ _ _
    · subst h
      cases hx with
      | nil => exact .empty _ _ _
    · obtain ⟨h1, h2⟩ := ih _ _ h
      cases hx with
      | agg vs cs hs hr => exact .agg vs _ (by omega) fun i c hc => let ⟨c', q1, q2⟩ := h2 i c hc; like_rep n q2 (hr i c' q1)
    · obtain ⟨h1, h2⟩ := ih _ _ h
      cases hx with
      | tup vs cs hs hr => exact .tup vs _ (by omega) fun i c hc => let ⟨c', q1, q2⟩ := h2 i c hc; like_rep n q2 (hr i c' q1)
    · obtain ⟨h1, h2⟩ := ih _ _ h
      cases hx with
      | ref b off cs f hb hc hr => exact .ref b off _ f hb (fun i c hi => let ⟨c', q1, _⟩ := h2 i c hi; hc i c' q1) fun i c hi => let ⟨c', q1, q2⟩ := h2 i c hi; like_rep n q2 (hr i c' q1)
    · obtain ⟨rfl, ha, hb⟩ := h
      obtain ⟨a1, a2⟩ := ih _ _ ha
      obtain ⟨b1, b2⟩ := ih _ _ hb
      cases hx with
      | clo fn vf vc first caps h1 h2 h3 h4 => exact .clo _ vf vc _ _ (by omega) (by omega) (fun i c hi => let ⟨c', q1, q2⟩ := a2 i c hi; like_rep n q2 (h3 i c' q1)) fun i c hi => let ⟨c', q1, q2⟩ := b2 i c hi; like_rep n q2 (h4 i c' q1)
    · subst h; exact hx

theorem likes_spec {f : PV → PV → Prop} : ∀ (a b : List PV), like.likes f a b → a.length = b.length ∧ ∀ (i : Nat) c, b[i]? = some c → ∃ c', a[i]? = some c' ∧ f c' c
  | [], [], _ => by simp
  | [], _ :: _, h => h.elim
  | _ :: _, [], h => h.elim
  | x :: r, y :: l, ⟨h1, h2⟩ => by
    obtain ⟨h3, h4⟩ := likes_spec r l h2
    refine ⟨by simp [h3], fun i c hc => ?_⟩
    cases i with
    | zero => simp at hc; subst hc; exact ⟨x, rfl, h1⟩
    | succ i => simpa using h4 i c (by simpa using hc)

theorem RepSL.like {ok : Nat → Prop} {w : World} {vs : Array Value} {a b : List PV} (h : RepSL ok w vs a) (hl : likeL a b) : RepSL ok w vs b := by
  obtain ⟨h1, h2⟩ := likes_spec a b hl
  exact ⟨by rw [← h1]; exact h.1, fun i p hp => let ⟨c', q1, q2⟩ := h2 i p hp; like_rep 4 q2 (h.2 i c' q1)⟩

/-! ### Slices -/
theorem elems_rep {ι S' a w} (hs : SR Γ ι S' a w) {p : PV} {e : Elems} (h : elems m p = some e) (hrd : ∀ k ∈ e.rd, S' k = toS m k) {x : Value} (hx : RepT ι (okS Γ ι S' w) w x p) :
    RepS (okI Γ ι S' w e.ids) w x (.list e.es e.xs) := by
  unfold elems at h
  split at h
  · simp only [Option.some.injEq] at h; subst h
    rw [rep_nil hx]; exact .empty _ _ _
  · simp only [Option.some.injEq] at h; subst h
    exact (rep_list hx).mono (fun b hb => .inl hb) fun _ _ _ _ e => e
  · split at h
    · rename_i g' el es xs ha
      split at h
      · rename_i hg
        simp only [Option.some.injEq] at h
        subst h
        have hg' := beq_iff.1 hg
        subst hg'
        exact own_rep hs (by rw [hrd _ (by simp)]; exact ha) hx
      · cases h
    · cases h
  · cases h
theorem elems_live {p : PV} {e : Elems} (h : elems m p = some e) : ∀ id ∈ e.ids, Key.i id ∈ e.rd := by
  unfold elems at h
  split at h
  · simp only [Option.some.injEq] at h; subst h; simp
  · simp only [Option.some.injEq] at h; subst h; simp
  · split at h
    · split at h
      · simp only [Option.some.injEq] at h; subst h; simp
      · cases h
    · cases h
  · cases h
theorem list_slice {ok : Nat → Prop} {w : World} {x : Value} {es : Nat} {xs : List (List PV)} (h : RepS ok w x (.list es xs)) : ∃ a cap, x = .slice a xs.length cap ∧ xs.length ≤ cap := by
  cases h with
  | empty a cap es => exact ⟨a, cap, rfl, Nat.zero_le _⟩
  | list b off cap es xs f hb hcap => exact ⟨_, cap, rfl, hcap⟩

theorem sound_len {c : Call} (hE : EnvOK P A E) (ho : o.op = .call c) (hc : c.callee = .builtin .len) (h : callV Real E c m n K) : Sound P Γ o m K := by
  simp only [callV, hc] at h
  unfold lenV at h
  split at h
  · rename_i x t hax hat
    have hop : o.op.operands.toList = [x] := by rw [ho]; simp [Op.operands, Call.operands, hc, hax]
    have hargs : c.args = #[x] := by rw [← Array.toList_inj]; exact hax
    have hats : c.argTypes = #[t] := by rw [← Array.toList_inj]; exact hat
    obtain ⟨ti, ht, h⟩ := optP_some h
    have hT := hE.ty _ _ ht
    split at h
    · rename_i hst
      split at h
      · rename_i s hx
        refine sound_val h fun S' h1 _ ι a w hs => ⟨_, ?_, .str _ _ (.v _)⟩
        have ha := rep_v (hx ▸ ev_of hs h1 (x := x) (by simp [hop]))
        have f1 := hT.str hst w
        simp [execOp, ho, resolve, hc, invoke, builtin, Builtin.len_, hargs, hats, ha, f1, goInt, Real]
      · exact h.elim
    · split at h
      · exact h.elim
      · rename_i e he
        obtain ⟨el, hel, hK⟩ := optE_some h
        refine sound_val hK fun S' h1 h2 ι a w hs => ⟨_, ?_, .str _ _ (.v _)⟩
        obtain ⟨ad, cap, hax', _⟩ := list_slice (elems_rep hs hel h2 (ev_of hs h1 (x := x) (by simp [hop])))
        have f1 := hT.elem (by omega) w
        simp [execOp, ho, resolve, hc, invoke, builtin, Builtin.len_, hargs, hats, hax', f1, goInt, Real]
  · exact h.elim

theorem sound_cap {c : Call} (hE : EnvOK P A E) (ho : o.op = .call c) (hc : c.callee = .builtin .cap) (h : callV Real E c m n K) : Sound P Γ o m K := by
  simp only [callV, hc] at h
  unfold capV at h
  split at h
  · rename_i x t hax hat
    have hop : o.op.operands.toList = [x] := by rw [ho]; simp [Op.operands, Call.operands, hc, hax]
    have hargs : c.args = #[x] := by rw [← Array.toList_inj]; exact hax
    have hats : c.argTypes = #[t] := by rw [← Array.toList_inj]; exact hat
    obtain ⟨ti, ht, h⟩ := optP_some h
    have hT := hE.ty _ _ ht
    split at h
    · exact h.elim
    · rename_i e he
      split at h
      · rename_i hx
        refine sound_val h fun S' h1 _ ι a w hs => ⟨_, ?_, .str _ _ (.v _)⟩
        have ha := rep_nil (hx ▸ ev_of hs h1 (x := x) (by simp [hop]))
        have f1 := hT.elem (by omega) w
        simp [execOp, ho, resolve, hc, invoke, builtin, Builtin.cap_, hargs, hats, ha, f1, goInt]
      · exact h.elim
  · exact h.elim

theorem fold_mm {k : IntKind} (f : Int → Int → Int) (g : Value → Value → Sem Value) (hg : ∀ a b (w : World), (g (.int k a) (.int k b)).run P w = .ok (.int k (f a b)) w) :
    ∀ (l : List Operand) (a0 : Int) (v : Int), foldMM f k m l a0 = some v → ∀ (ac : Act) (w : World), (∀ x ∈ l, ∀ y, ev m x = .v y → ac.eval x = y) →
      ((l.map ac.eval).foldlM g (.int k a0)).run P w = .ok (.int k v) w
  | [], a0, v, h, ac, w, _ => by simp only [foldMM, Option.some.injEq] at h; subst h; rfl
  | x :: r, a0, v, h, ac, w, hx => by
    simp only [foldMM] at h
    split at h
    · rename_i k' b hb
      split at h
      · rename_i hk
        rw [kindEq_iff] at hk; subst hk
        have := hx x (by simp) _ hb
        simp only [List.map_cons, List.foldlM_cons, Sem.run_bind, this, hg, Result.andThen_ok]
        exact fold_mm f g hg r _ v h ac w fun y hy => hx y (by simp [hy])
      · cases h
    · cases h

theorem sound_mm {c : Call} {b : Builtin} (f : Int → Int → Int) (g : Value → Value → Sem Value) (hg : ∀ k a b (w : World), (g (.int k a) (.int k b)).run P w = .ok (.int k (f a b)) w)
    (hb : ∀ (tys : Array TypeId) t cs (x : Value) (l : List Value) (w : World) (v : Value), (l.foldlM g x).run P w = .ok v w → (builtin b tys t cs (x :: l).toArray).run P w = .ok (.value v) w)
    (ho : o.op = .call c) (hc : c.callee = .builtin b) (h : mmV f m n K c.args.toList) : Sound P Γ o m K := by
  unfold mmV at h
  split at h
  · rename_i x r hax
    split at h
    · rename_i k a0 hx
      obtain ⟨v, hv, hK⟩ := optP_some h
      have hop : o.op.operands.toList = x :: r := by rw [ho]; simp [Op.operands, Call.operands, hc, hax]
      refine sound_val hK fun S' h1 _ ι a w hs => ⟨_, ?_, .str _ _ (.v _)⟩
      have ha : ∀ y ∈ x :: r, ∀ z, ev m y = .v z → a.eval y = z := fun y hy z hz => rep_v (hz ▸ ev_of hs h1 (x := y) (by rw [hop]; exact hy))
      have hx' := ha x (by simp) _ hx
      have := fold_mm (P := P) (m := m) (k := k) f g (hg k) r a0 v hv a w (fun y hy => ha y (by simp [hy]))
      have e : c.args.map a.eval = (a.eval x :: r.map a.eval).toArray := by
        rw [← Array.toList_inj]; simp [hax]
      have := hb c.argTypes o.type (c.args.map fun | .const _ => true | _ => false) (.int k a0) (r.map a.eval) w _ this
      simp only [execOp, ho, resolve, hc, invoke, Sem.run_bind, Sem.run_pure, Result.andThen_ok, e, hx']
      exact this
    · exact h.elim
  · exact h.elim

theorem sound_min {c : Call} (ho : o.op = .call c) (hc : c.callee = .builtin .min) (h : callV Real E c m n K) : Sound P Γ o m K := by
  simp only [callV, hc] at h
  exact sound_mm (Real .mn) Builtin.min2 (fun _ _ _ _ => rfl) (fun tys t cs x l w v hv => by simp [builtin, Builtin.min_, hv]) ho hc h
theorem sound_max {c : Call} (ho : o.op = .call c) (hc : c.callee = .builtin .max) (h : callV Real E c m n K) : Sound P Γ o m K := by
  simp only [callV, hc] at h
  exact sound_mm (Real .mx) Builtin.max2 (fun _ _ _ _ => rfl) (fun tys t cs x l w v hv => by simp [builtin, Builtin.max_, hv]) ho hc h

theorem sub_rep {ok : Nat → Prop} {w : World} {b off cap es : Nat} {xs : List (List PV)} {f : Nat → Nat → Value} (hb : ok b) (hes : ∀ r ∈ xs, r.length = es)
    (hc : ∀ i r, xs[i]? = some r → ∀ j c, r[j]? = some c → w.cell? ⟨b, off + (i * es + j), none⟩ = some (f i j) ∧ (f i j).oneCell' = true)
    (hr : ∀ i r, xs[i]? = some r → ∀ j c, r[j]? = some c → RepS ok w (f i j) c) (l h : Nat) (hl : l ≤ h) (hh : h ≤ xs.length) (hcap : xs.length ≤ cap) :
    RepS ok w (.slice (some ⟨b, off + l * es, none⟩) (h - l) (cap - l)) (.list es ((xs.drop l).take (h - l))) := by
  have hlen : ((xs.drop l).take (h - l)).length = h - l := by simp; omega
  have get : ∀ (i : Nat) r, ((xs.drop l).take (h - l))[i]? = some r → xs[l + i]? = some r := fun i r hi => by
    rw [List.getElem?_take] at hi
    split at hi
    · rwa [List.getElem?_drop] at hi
    · cases hi
  have := RepS.list (ok := ok) (w := w) b (off + l * es) (cap - l) es ((xs.drop l).take (h - l)) (fun i j => f (l + i) j) hb (by omega)
    (fun r hr' => hes r (List.mem_of_mem_drop (List.mem_of_mem_take hr')))
    (fun i r hi j c hj => by
      have := hc _ _ (get i r hi) j c hj
      refine ⟨?_, this.2⟩
      rw [← this.1]; congr 2; rw [Nat.add_mul]; omega)
    (fun i r hi j c hj => hr _ _ (get i r hi) j c hj)
  rw [hlen] at this
  exact this

/-- A part of a slice that nobody writes. -/
theorem slice_rep {t e : Nat} {te : TI} (hT : ∀ w, (underlying t).run P w = .ok (.slice e) w) (hE' : TyOK P e te) {ok : Nat → Prop} {w : World} {x : Value} {es : Nat} {xs : List (List PV)}
    (hx : RepS ok w x (.list es xs)) (hes : esOK es te.size xs = true) {lo hi : Option Value} {l h : Nat} (hlo : match lo with | none => l = 0 | some v => ∃ k, v = .int k l)
    (hhi : match hi with | none => h = xs.length | some v => ∃ k, v = .int k h) (h1 : l ≤ h) (h2 : h ≤ xs.length) :
    ∃ y, (Instr.sliceAt t x lo hi none).run P w = .ok y w ∧ RepS ok w y (.list es ((xs.drop l).take (h - l))) := by
  obtain ⟨ad, cap, rfl, hcap⟩ := list_slice hx
  have hb : (Instr.sliceBounds true xs.length cap lo hi none).run P w = .ok (l, h, cap) w := by
    have b1 : ∀ k (y : Nat) code, h ≤ y → (Instr.sliceBound (.int k (h : Int)) y code).run P w = .ok h w := fun k y code hy => by
      have : (0 : Int) ≤ h ∧ (h : Int) ≤ y := by omega
      simp [Instr.sliceBound, asIntOf, this]
    have b2 : ∀ k (y : Nat) code, l ≤ y → (Instr.sliceBound (.int k (l : Int)) y code).run P w = .ok l w := fun k y code hy => by
      have : (0 : Int) ≤ l ∧ (l : Int) ≤ y := by omega
      simp [Instr.sliceBound, asIntOf, this]
    cases lo <;> cases hi <;> simp only at hlo hhi
    · subst hlo; subst hhi; simp [Instr.sliceBounds]
    · obtain ⟨k, rfl⟩ := hhi; subst hlo; simp [Instr.sliceBounds, b1 _ _ _ (Nat.le_trans h2 hcap)]
    · obtain ⟨k, rfl⟩ := hlo; subst hhi; simp [Instr.sliceBounds, b2 _ _ _ h1]
    · obtain ⟨k, rfl⟩ := hlo; obtain ⟨k', rfl⟩ := hhi; simp [Instr.sliceBounds, b1 _ _ _ (Nat.le_trans h2 hcap), b2 _ _ _ h1]
  have run : (Instr.sliceAt t (.slice ad xs.length cap) lo hi none).run P w = .ok (.slice (if cap = l then ad else ad.map (·.add (l * te.size))) (h - l) (cap - l)) w := by
    simp [Instr.sliceAt, hT w, Instr.slice, hb, hE'.size w]
  refine ⟨_, run, ?_⟩
  by_cases hz : h = l
  · subst hz
    simp only [Nat.sub_self, List.take_zero]
    exact .empty _ _ _
  · generalize hp : PV.list es xs = p at hx
    generalize hv : Value.slice ad xs.length cap = v at hx
    cases hx with
    | empty a' cap' es' => cases hp; cases hv; simp at h2; omega
    | list b off cap' es' xs' f hb' hcap' hrows hc hr =>
      cases hp
      cases hv
      have hes' : es = te.size := by
        unfold esOK at hes
        split at hes
        · rename_i e; exact beq_iff.1 e
        · split at hes
          · simp at h2; omega
          · cases hes
      rw [if_neg (by omega)]
      simp only [Option.map_some, addr_add]
      rw [← hes']
      exact sub_rep hb' hrows hc hr l h h1 h2 hcap
    | _ => cases hp

theorem sound_slice {t : TypeId} {x : Operand} {lo hi : Option Operand} (hE : EnvOK P A E) (ho : o.op = .slice t x lo hi none) (h : opV Real E o.op m n K) : Sound P Γ o m K := by
  have hop : o.op.operands.toList = x :: (lo.toList ++ hi.toList) := by rw [ho]; cases lo <;> cases hi <;> simp [Op.operands]
  rw [ho] at h
  simp only [opV] at h
  obtain ⟨ti, ht, h⟩ := optP_some h
  have hT := hE.ty _ _ ht
  split at h
  · rename_i hst
    split at h
    · rename_i s hx
      -- a part of a string
      have go : ∀ (l u : Nat), l ≤ u → u ≤ s.size → (∀ (a : Act), (∀ y ∈ lo.toList ++ hi.toList, ∀ z, ev m y = .v z → a.eval y = z) → (match lo.map a.eval with | none => l = 0 | some v => ∃ k, v = .int k l) ∧ (match hi.map a.eval with | none => u = s.size | some v => ∃ k, v = .int k u)) →
          K (.v (.string (s.extract l u))) [] [] n → Sound P Γ o m K := by
        intro l u h1 h2 hb hK
        refine sound_val hK fun S' h1' _ ι a w hs => ⟨_, ?_, .str _ _ (.v _)⟩
        have ha := rep_v (hx ▸ ev_of hs h1' (x := x) (by simp [hop]))
        obtain ⟨e1, e2⟩ := hb a fun y hy z hz => rep_v (hz ▸ ev_of hs h1' (x := y) (by rw [hop]; simp at hy ⊢; exact .inr hy))
        have f1 := hT.str hst w
        have b1 : ∀ k (y : Nat) code, u ≤ y → (Instr.sliceBound (.int k (u : Int)) y code).run P w = .ok u w := fun k y code hy => by
          have : (0 : Int) ≤ u ∧ (u : Int) ≤ y := by omega
          simp [Instr.sliceBound, asIntOf, this]
        have b2 : ∀ k (y : Nat) code, l ≤ y → (Instr.sliceBound (.int k (l : Int)) y code).run P w = .ok l w := fun k y code hy => by
          have : (0 : Int) ≤ l ∧ (l : Int) ≤ y := by omega
          simp [Instr.sliceBound, asIntOf, this]
        cases lo <;> cases hi <;> simp only [Option.map_none, Option.map_some] at e1 e2
        · subst e1; subst e2; simp [execOp, ho, ha, Instr.sliceAt, f1, Instr.slice, Instr.sliceBounds]
        · obtain ⟨k, e2⟩ := e2; subst e1; simp [execOp, ho, ha, Instr.sliceAt, f1, Instr.slice, Instr.sliceBounds, e2, b1 _ _ _ h2]
        · obtain ⟨k, e1⟩ := e1; subst e2; simp [execOp, ho, ha, Instr.sliceAt, f1, Instr.slice, Instr.sliceBounds, e1, b2 _ _ _ h1]
        · obtain ⟨k, e1⟩ := e1; obtain ⟨k', e2⟩ := e2; simp [execOp, ho, ha, Instr.sliceAt, f1, Instr.slice, Instr.sliceBounds, e1, e2, b1 _ _ _ h2, b2 _ _ _ h1]
      unfold sextV at h
      split at h
      · rename_i hl hh
        have e1 : lo = none := by cases lo <;> simp [evo] at hl ⊢
        have e2 : hi = none := by cases hi <;> simp [evo] at hh ⊢
        refine go 0 s.size (Nat.zero_le _) (Nat.le_refl _) (fun a _ => by subst e1; subst e2; simp) ?_
        have : s.extract 0 s.size = s := by simp
        rw [this]; exact h
      · rename_i k u hl hh
        have e1 : lo = none := by cases lo <;> simp [evo] at hl ⊢
        obtain ⟨⟨h0, hu⟩, hK⟩ : (0 ≤ u ∧ u ≤ (s.size : Int)) ∧ K (.v (.string (Real .sext s 0 u))) [] [] n := by
          obtain ⟨q1, q2, q3⟩ := h; exact ⟨⟨q1, q2⟩, q3⟩
        obtain ⟨u', rfl⟩ := Int.eq_ofNat_of_zero_le h0
        cases hi with
        | none => simp [evo] at hh
        | some y =>
          simp only [evo, Option.some.injEq] at hh
          refine go 0 u' (Nat.zero_le _) (by omega) (fun a ha => ?_) (by simpa [Real] using hK)
          subst e1
          exact ⟨rfl, k, ha y (by simp) _ hh⟩
      · rename_i k l hl hh
        have e2 : hi = none := by cases hi <;> simp [evo] at hh ⊢
        obtain ⟨⟨h0, hu⟩, hK⟩ : (0 ≤ l ∧ l ≤ (s.size : Int)) ∧ K (.v (.string (Real .sext s l (Int.ofNat (Real .slen s))))) [] [] n := by
          obtain ⟨q1, q2, q3⟩ := h; exact ⟨⟨q1, q2⟩, q3⟩
        obtain ⟨l', rfl⟩ := Int.eq_ofNat_of_zero_le h0
        cases lo with
        | none => simp [evo] at hl
        | some y =>
          simp only [evo, Option.some.injEq] at hl
          refine go l' s.size (by omega) (Nat.le_refl _) (fun a ha => ?_) (by simpa [Real] using hK)
          subst e2
          exact ⟨⟨k, ha y (by simp) _ hl⟩, rfl⟩
      · rename_i k l k' u hl hh
        obtain ⟨⟨h0, hlu, hu⟩, hK⟩ : (0 ≤ l ∧ l ≤ u ∧ u ≤ (s.size : Int)) ∧ K (.v (.string (Real .sext s l u))) [] [] n := by
          obtain ⟨q1, q2, q3, q4⟩ := h; exact ⟨⟨q1, q2, q3⟩, q4⟩
        obtain ⟨l', rfl⟩ := Int.eq_ofNat_of_zero_le h0
        obtain ⟨u', rfl⟩ := Int.eq_ofNat_of_zero_le (Int.le_trans h0 hlu)
        cases lo with
        | none => simp [evo] at hl
        | some y =>
          cases hi with
          | none => simp [evo] at hh
          | some y' =>
            simp only [evo, Option.some.injEq] at hl hh
            refine go l' u' (by omega) (by omega) (fun a ha => ?_) (by simpa [Real] using hK)
            exact ⟨⟨k, ha y (by simp) _ hl⟩, k', ha y' (by simp) _ hh⟩
      · exact h.elim
    · exact h.elim
  · split at h
    · exact h.elim
    · rename_i e he
      obtain ⟨te, hte, h⟩ := optP_some h
      have hE' := hE.ty _ _ hte
      have old : (optE (elems m (ev m x)) fun bes bxs bids brd => isT (esOK bes te.size bxs) (sliceV Real bes bxs (evo m lo) (evo m hi) fun v => K v brd (ice m bids) n)) → Sound P Γ o m K := by
        intro h
        obtain ⟨b, hb, h⟩ := optE_some h
        obtain ⟨hes, h⟩ := isT_true h
        have go : ∀ (l u : Nat), l ≤ u → u ≤ b.xs.length → (∀ (a : Act), (∀ y ∈ lo.toList ++ hi.toList, ∀ z, ev m y = .v z → a.eval y = z) → (match lo.map a.eval with | none => l = 0 | some v => ∃ k, v = .int k l) ∧ (match hi.map a.eval with | none => u = b.xs.length | some v => ∃ k, v = .int k u)) →
            K (.list b.es ((b.xs.drop l).take (u - l))) b.rd (ice m b.ids) n → Sound P Γ o m K := by
          intro l u h1 h2 hbd hK
          refine ⟨_, _, _, _, hK, fun S' h1' h2' ι a w hs => ?_⟩
          have hx := elems_rep hs hb h2' (ev_of hs h1' (x := x) (by simp [hop]))
          obtain ⟨e1, e2⟩ := hbd a fun y hy z hz => rep_v (hz ▸ ev_of hs h1' (x := y) (by rw [hop]; simp at hy ⊢; exact .inr hy))
          obtain ⟨y, hrun, hrep⟩ := slice_rep (P := P) (t := t) (fun w => by have := hT.elem (by omega) w; rw [he] at this; exact this) hE' hx hes e1 e2 h1 h2
          have hids : ∀ id ∈ b.ids, S' (.i id) = lk m (.i id) := fun id hid => h2' _ (elems_live hb id hid)
          unfold Runs
          have : (execOp a.eval o).run P w = .ok (.value y) w := by
            simp only [execOp, ho, Sem.run_bind, Option.map_none, hrun, Result.andThen_ok, Sem.run_pure]
          rw [this]
          exact ⟨ι, hs.ice _ hids, .str _ _ (hrep.mono (fun q hq => ok_ice hs hids q hq) fun _ _ _ _ e => e)⟩
        unfold sliceV at h
        split at h
        · rename_i hl hh
          have e1 : lo = none := by cases lo <;> simp [evo] at hl ⊢
          have e2 : hi = none := by cases hi <;> simp [evo] at hh ⊢
          refine go 0 b.xs.length (Nat.zero_le _) (Nat.le_refl _) (fun a _ => by subst e1; subst e2; simp) ?_
          simpa using h
        · rename_i k u hl hh
          have e1 : lo = none := by cases lo <;> simp [evo] at hl ⊢
          obtain ⟨⟨h0, hu⟩, hK⟩ : (0 ≤ u ∧ u ≤ (b.xs.length : Int)) ∧ K (.list b.es (Real .sub b.xs 0 u)) b.rd (ice m b.ids) n := by
            obtain ⟨q1, q2, q3⟩ := h; exact ⟨⟨q1, q2⟩, q3⟩
          obtain ⟨u', rfl⟩ := Int.eq_ofNat_of_zero_le h0
          cases hi with
          | none => simp [evo] at hh
          | some y =>
            simp only [evo, Option.some.injEq] at hh
            refine go 0 u' (Nat.zero_le _) (by omega) (fun a ha => ?_) (by simpa [Real] using hK)
            subst e1
            exact ⟨rfl, k, ha y (by simp) _ hh⟩
        · rename_i k l hl hh
          have e2 : hi = none := by cases hi <;> simp [evo] at hh ⊢
          obtain ⟨⟨h0, hu⟩, hK⟩ : (0 ≤ l ∧ l ≤ (b.xs.length : Int)) ∧ K (.list b.es (Real .sub b.xs l (Int.ofNat (Real .len b.xs)))) b.rd (ice m b.ids) n := by
            obtain ⟨q1, q2, q3⟩ := h; exact ⟨⟨q1, q2⟩, q3⟩
          obtain ⟨l', rfl⟩ := Int.eq_ofNat_of_zero_le h0
          cases lo with
          | none => simp [evo] at hl
          | some y =>
            simp only [evo, Option.some.injEq] at hl
            refine go l' b.xs.length (by omega) (Nat.le_refl _) (fun a ha => ?_) ?_
            · subst e2
              exact ⟨⟨k, ha y (by simp) _ hl⟩, rfl⟩
            · have e : ((b.xs.length : Int) - (l' : Int)).toNat = b.xs.length - l' := by omega
              simpa [Real, e] using hK
        · rename_i k l k' u hl hh
          obtain ⟨⟨h0, hlu, hu⟩, hK⟩ : (0 ≤ l ∧ l ≤ u ∧ u ≤ (b.xs.length : Int)) ∧ K (.list b.es (Real .sub b.xs l u)) b.rd (ice m b.ids) n := by
            obtain ⟨q1, q2, q3, q4⟩ := h; exact ⟨⟨q1, q2, q3⟩, q4⟩
          obtain ⟨l', rfl⟩ := Int.eq_ofNat_of_zero_le h0
          obtain ⟨u', rfl⟩ := Int.eq_ofNat_of_zero_le (Int.le_trans h0 hlu)
          cases lo with
          | none => simp [evo] at hl
          | some y =>
            cases hi with
            | none => simp [evo] at hh
            | some y' =>
              simp only [evo, Option.some.injEq] at hl hh
              refine go l' u' (by omega) (by omega) (fun a ha => ?_) ?_
              · exact ⟨⟨k, ha y (by simp) _ hl⟩, k', ha y' (by simp) _ hh⟩
              · have e : ((u' : Int) - (l' : Int)).toNat = u' - l' := by omega
                simpa [Real, e] using hK
        · exact h.elim
      unfold partV at h
      split at h
      · rename_i k u hx hlo hhi
        obtain ⟨h0, h⟩ := h
        obtain ⟨h1, hK⟩ := h
        have hu : u = 0 := by omega
        subst hu
        have e1 : lo = none := by cases lo <;> simp [evo] at hlo ⊢
        subst e1
        cases hi with
        | none => simp [evo] at hhi
        | some y =>
          simp only [evo, Option.some.injEq] at hhi
          refine sound_val hK fun S' h1' _ ι a w hs => ⟨.slice none 0 0, ?_, .str _ _ .nil⟩
          have ha := rep_nil (hx ▸ ev_of hs h1' (x := x) (by simp [hop]))
          have hb := rep_v (hhi ▸ ev_of hs h1' (x := y) (by simp [hop]))
          have f1 : (underlying t).run P w = .ok (.slice (e + 1)) w := by have := hT.elem (by omega) w; rw [he] at this; exact this
          simp [execOp, ho, ha, hb, Instr.sliceAt, f1, Instr.slice, Instr.sliceBounds, Instr.sliceBound, asIntOf, hE'.size w]
      · rename_i id g k u hx hlo hhi
        have hlo' : evo m lo = none := hlo
        have hhi' : evo m hi = some (.v (.int k u)) := hhi
        cases h with
        | read h => exact old (by rw [hx, hlo', hhi']; exact h)
        | cut h =>
          split at h
          · rename_i g' el es xs nn ha hi'
            obtain ⟨hg, h⟩ := isT_true h
            obtain ⟨hes, h⟩ := isT_true h
            obtain ⟨h0, h⟩ := h
            obtain ⟨h1, hK⟩ := h
            rw [beq_iff] at hg hes
            subst hg
            have e1 : lo = none := by cases lo <;> simp [evo] at hlo' ⊢
            subst e1
            cases hi with
            | none => simp [evo] at hhi'
            | some y =>
              simp only [evo, Option.some.injEq] at hhi'
              obtain ⟨c, rfl⟩ := Int.eq_ofNat_of_zero_le h0
              have hc : c ≤ xs.length := by simpa [Real] using h1
              refine ⟨_, _, _, _, hK, fun S' h1' h2 ι a w hs => ?_⟩
              have ha' : S' (.a id) = .arr g el es xs := by rw [h2 _ (by simp)]; exact ha
              have hi2 : S' (.i id) = .inf true nn := by rw [h2 _ (by simp)]; exact hi'
              obtain ⟨hm, e1, e2, hA⟩ := hs.arrs id _ _ _ _ ha'
              obtain ⟨hm', f1, f2, f3⟩ := rep_own (hx ▸ ev_of hs h1' (x := x) (by simp [hop]))
              rw [e1] at f1; cases f1
              have hsv := f3 e2.2.symm
              have hyv := rep_v (hhi' ▸ ev_of hs h1' (x := y) (by simp [hop]))
              have hu : (underlying t).run P w = .ok (.slice (e + 1)) w := by have := hT.elem (by omega) w; rw [he] at this; exact this
              have hcut : (Instr.sliceAt t (hm.slice 0 hm.len) none (some (.int k (c : Int))) none).run P w = .ok (({ hm with len := c, g := hm.g + 1 } : Home).slice 0 c) w := by
                have hl := hA.len
                have hcp := hA.cap
                have b1 : ∀ (y : Nat) code, c ≤ y → (Instr.sliceBound (.int k (c : Int)) y code).run P w = .ok c w := fun y code hy => by
                  have : (0 : Int) ≤ c ∧ (c : Int) ≤ y := by omega
                  simp [Instr.sliceBound, asIntOf, this]
                unfold Home.slice
                cases hb : hm.base with
                | none =>
                  have hz : c = 0 := by
                    rcases hA.row with ⟨_, q2⟩ | ⟨_, _, q1, _⟩
                    · omega
                    · rw [hb] at q1; cases q1
                  subst hz
                  simp [Instr.sliceAt, hu, Instr.slice, Instr.sliceBounds, Instr.sliceBound, asIntOf, hE'.size w]
                | some ad =>
                  simp [Instr.sliceAt, hu, Instr.slice, Instr.sliceBounds, b1 _ _ (show c ≤ hm.cap by omega), hE'.size w, addr_add]
              have hrun : (execOp a.eval o).run P w = .ok (.value (({ hm with len := c, g := hm.g + 1 } : Home).slice 0 c)) w := by
                simp only [execOp, ho, Sem.run_bind, Option.map_none, Option.map_some, hsv, hyv, Int.ofNat_eq_natCast, hcut, Result.andThen_ok, Sem.run_pure]
              unfold Runs
              rw [hrun]
              generalize hS : upd [(Key.a id, PV.arr (g + 1) el es (Real .sub xs 0 (Int.ofNat c)))] S' = S2
              have s_t : ∀ k, S2 (.t k) = S' (.t k) := fun k => by rw [← hS]; simp [upd_cons, upd_nil]
              have s_p : S2 .p = S' .p := by rw [← hS]; simp [upd_cons, upd_nil]
              have s_c : ∀ i off, S2 (.c i off) = S' (.c i off) := fun i off => by rw [← hS]; simp [upd_cons, upd_nil]
              have s_a : ∀ i, i ≠ id → S2 (.a i) = S' (.a i) := fun i hne => by rw [← hS]; simp [upd_cons, upd_nil, hne]
              have s_i : ∀ i, S2 (.i i) = S' (.i i) := fun i => by rw [← hS]; simp [upd_cons, upd_nil]
              have s_r : S2 (.a id) = .arr (g + 1) el es (xs.take c) := by rw [← hS]; simp [upd_cons, Real]
              have T : Turn Γ ι S' a w id { hm with len := c, g := hm.g + 1 } S2 w := {
                sr := hs
                later := fun hm' hi => by rw [e1] at hi; cases hi; exact .inr ⟨e2.1, by simp⟩
                os := rfl, tape := rfl, output := rfl, size := Nat.le_refl _
                same := fun _ _ _ => rfl
                home := fun ad had => by
                  obtain ⟨q1, q2, q3, q4⟩ := hs.own id hm ad e1 had
                  exact ⟨q1, q2, q4, .inr ⟨hm, ad, e1, had, rfl, fun q _ => ⟨nn, hi2⟩⟩⟩
                tmps := s_t
                pin := s_p
                cels := fun i off _ => s_c i off
                arr := s_a
                inf := fun i _ => s_i i
                live := ⟨true, nn, by rw [s_i]; exact hi2⟩ }
              have getx : ∀ (i : Nat) r, (xs.take c)[i]? = some r → xs[i]? = some r := fun i r hi => by
                rw [List.getElem?_take] at hi
                split at hi
                · exact hi
                · cases hi
              refine ⟨setH ι id { hm with len := c, g := hm.g + 1 }, T.done
                (fun off hne => by
                  rw [s_c] at hne
                  obtain ⟨hh, _, _, _, q1, q2, _⟩ := hs.cells id off hne
                  rw [e1] at q1; cases q1
                  rw [e2.1] at q2; cases q2)
                (fun g' el' es' xs' e => by
                  rw [s_r] at e; cases e
                  refine ⟨⟨e2.1, by simp [e2.2]⟩, ⟨hA.hes, by simp; omega, by have := hA.cap; simp; omega, hA.most, fun r hr => hA.rows r (List.mem_of_mem_take hr), ?_⟩⟩
                  rcases hA.row with q1 | ⟨b, cur, q1, q2, q3, q4⟩
                  · exact .inl q1
                  · exact .inr ⟨b, cur, q1, q2, q3, fun i r hi j c hj => let ⟨z, z1, z2, z3⟩ := q4 i r (getx i r hi) j c hj; ⟨z, z1, z2, T.repS z3⟩⟩)
                (fun q e => by rw [s_r] at e; cases e),
                .own _ _ _ { hm with len := c, g := hm.g + 1 } ?_ (by simp [setH]) (by simp; omega) fun _ => rfl⟩
              unfold Home.slice; split <;> exact ⟨_, _, _, rfl⟩
          · exact h.elim
      · exact old h

end ops
end Go.Pi

/- What makes memory: boxes, variables, literals, make, append; what writes it. -/
namespace Go.Pi
open Go
section ops
variable {P : Program} {Γ : Ctx} {E : Env} {o : Oper} {m : Mem} {n : Nat} {K : Kont} {A : World → Prop}

theorem vcells_eq (l : List Value) : vcells l = l.map constPV := by induction l with | nil => rfl | cons x r ih => simp [vcells, ih]

/-- A value's cells, as its picture tells them. -/
theorem cellsOf_rep {ι : Nat → Option Home} {ok : Nat → Prop} {w : World} {x : Value} {p : PV} {ps : List PV} (hx : RepT ι ok w x p) (h : cellsOf p = some ps) :
    x.cells.size = ps.length ∧ ∀ (i : Nat) c, ps[i]? = some c → RepT ι ok w (x.cells.getD i undef) c := by
  have one : ∀ (q : PV), ps = [q] → p = q → (∀ vs, x ≠ .agg vs) → x.cells.size = ps.length ∧ ∀ (i : Nat) c, ps[i]? = some c → RepT ι ok w (x.cells.getD i undef) c := by
    intro q hq hp hne
    subst hq; subst hp
    have : x.cells = #[x] := by cases x <;> first | rfl | exact absurd rfl (hne _)
    rw [this]
    refine ⟨rfl, fun i c hc => ?_⟩
    cases i with
    | zero => simp at hc; subst hc; simpa using hx
    | succ i => simp at hc
  unfold cellsOf at h
  split at h <;> (try (cases h; done)) <;> (try (simp only [Option.some.injEq] at h))
  · obtain ⟨vs, rfl, h2, h3⟩ := rep_agg hx
    subst h
    exact ⟨h2, h3⟩
  · rename_i vs
    have := rep_v hx
    subst this; subst h
    rw [vcells_eq]
    refine ⟨by simp [Value.cells], fun i c hc => ?_⟩
    rw [List.getElem?_map] at hc
    cases hv : vs.toList[i]? with
    | none => rw [hv] at hc; simp at hc
    | some y =>
      rw [hv] at hc
      simp only [Option.map_some, Option.some.injEq] at hc
      subst hc
      have : vs.getD i undef = y := by
        simp only [Array.getD_eq_getD_getElem?]
        rw [show vs[i]? = some y from by simpa using hv]; rfl
      simp only [Value.cells, this]
      exact const_rep y
  · rename_i y hne _
    have := rep_v hx
    subst this
    exact one _ h.symm rfl fun vs e => by subst e; exact hne _ rfl
  · exact one _ h.symm rfl fun vs e => by rw [rep_nil hx] at e; cases e
  · exact one _ h.symm rfl fun vs e => by obtain ⟨_, _, h2, _⟩ := list_slice (rep_list hx); rw [h2] at e; cases e
  · exact one _ h.symm rfl fun vs e => by have := rep_ref hx; rw [e] at this; cases this
  · exact one _ h.symm rfl fun vs e => by obtain ⟨_, _, h2, _⟩ := rep_clo hx; rw [h2] at e; cases e
  · exact one _ h.symm rfl fun vs e => by cases hx with | str _ _ h => cases h | own _ _ _ _ hv => obtain ⟨_, _, _, h2⟩ := hv; rw [h2] at e; cases e
  · exact one _ h.symm rfl fun vs e => by cases hx with | str _ _ h => cases h | sub _ _ _ _ _ _ hv => obtain ⟨_, _, _, h2⟩ := hv; rw [h2] at e; cases e
  · exact one _ h.symm rfl fun vs e => by obtain ⟨_, _, _, _, _, _, h2⟩ := rep_ptr hx; rw [h2] at e; cases e
  · exact one _ h.symm rfl fun vs e => by cases hx with | str _ _ h => cases h | eptr _ _ _ _ _ _ hv => obtain ⟨_, h2⟩ := hv; rw [h2] at e; cases e
  · exact one _ h.symm rfl fun vs e => by cases hx with | str _ _ h => cases h | mref _ _ _ _ _ h => obtain ⟨_, _, h2⟩ := h; rw [h2] at e; cases e


theorem cel_one {ι : Nat → Option Home} {ok : Nat → Prop} {w : World} {x : Value} {p : PV} (hx : RepT ι ok w x p) (h : cel p = true) : x.oneCell' = true := by
  cases p <;> simp only [cel] at h <;> (try (cases h; done))
  · have := rep_v hx
    subst this
    cases x <;> simp at h <;> rfl
  · rw [rep_nil hx]; rfl
  · obtain ⟨_, _, h2, _⟩ := list_slice (rep_list hx); rw [h2]; rfl
  · have := rep_ref hx; cases this; rfl
  · obtain ⟨_, _, h2, _⟩ := rep_clo hx; rw [h2]; rfl
  · cases hx with | str _ _ h => cases h | own _ _ _ _ hv => obtain ⟨_, _, _, h2⟩ := hv; rw [h2]; rfl
  · cases hx with | str _ _ h => cases h | sub _ _ _ _ _ _ hv => obtain ⟨_, _, _, h2⟩ := hv; rw [h2]; rfl
  · obtain ⟨_, _, _, _, _, _, h2⟩ := rep_ptr hx; rw [h2]; rfl
  · cases hx with | str _ _ h => cases h | eptr _ _ _ _ _ _ hv => obtain ⟨_, h2⟩ := hv; rw [h2]; rfl
  · cases hx with | str _ _ h => cases h | mref _ _ _ _ _ h => obtain ⟨_, _, h2⟩ := h; rw [h2]; rfl
theorem cels_mem : ∀ {l : List PV}, cels l = true → ∀ c ∈ l, cel c = true
  | [], _, c, hc => by cases hc
  | x :: r, h, c, hc => by
    simp only [cels] at h
    split at h
    · rename_i hx
      rcases List.mem_cons.1 hc with rfl | hc
      · exact hx
      · exact cels_mem h c hc
    · cases h

/-- A box is made. -/
theorem SR.newBox {ι S' a w} (hs : SR Γ ι S' a w) {id : Nat} (hd : S' (.i id) = .junk) {vals : Array Value} {el : TypeId} {ps : List PV} (hsz : vals.size = ps.length) (hc : cels ps = true)
    (hv : ∀ (i : Nat) c, ps[i]? = some c → RepT ι (okS Γ ι S' w) w (vals.getD i undef) c) :
    ∃ ι', SR Γ ι' (upd ((.i id, .inf true (plen ps)) :: celW id 0 ps) S') a { w with heap := w.heap.push (.cells vals el) } ∧
      RepT ι' (okS Γ ι' (upd ((.i id, .inf true (plen ps)) :: celW id 0 ps) S') { w with heap := w.heap.push (.cells vals el) }) { w with heap := w.heap.push (.cells vals el) } (.pointer (some ⟨w.heap.size, 0, none⟩)) (.ptr id 0) := by
  have dead := hs.dead hd
  have jc : ∀ off, S' (.c id off) = .junk := fun off => Classical.byContradiction fun hne => by
    obtain ⟨hh, _, _, _, h1, _⟩ := hs.cells id off hne
    rw [dead] at h1; cases h1
  have ja : ∀ g el es xs, S' (.a id) ≠ .arr g el es xs := fun g el es xs e => by
    obtain ⟨hh, h1, _⟩ := hs.arrs id g el es xs e
    rw [dead] at h1; cases h1
  have jo : ∀ q, S' (.a id) ≠ .obj q := fun q e => by
    obtain ⟨hh, _, h1, _⟩ := hs.objs id q e
    rw [dead] at h1; cases h1
  generalize hS : upd ((.i id, .inf true (plen ps)) :: celW id 0 ps) S' = S2
  have s_t : ∀ k, S2 (.t k) = S' (.t k) := fun k => by rw [← hS, upd_cons, celW_spec, if_neg (by simp)]
  have s_p : S2 .p = S' .p := by rw [← hS, upd_cons, celW_spec, if_neg (by simp)]
  have s_c : ∀ i off, i ≠ id → S2 (.c i off) = S' (.c i off) := fun i off hne => by rw [← hS, upd_cons, celW_spec, if_neg (by simp)]; simp [hne]
  have s_d : ∀ off, S2 (.c id off) = if off < ps.length then ps.getD off .junk else .junk := fun off => by
    rw [← hS, upd_cons, celW_spec, if_neg (by simp)]
    simp only [true_and, Nat.zero_le, Nat.zero_add, Nat.sub_zero, jc]
  have s_a : ∀ i, S2 (.a i) = S' (.a i) := fun i => by rw [← hS, upd_cons, celW_spec, if_neg (by simp)]
  have s_i : ∀ i, i ≠ id → S2 (.i i) = S' (.i i) := fun i hne => by rw [← hS, upd_cons, celW_spec, if_neg (by simpa using hne)]
  have s_l : S2 (.i id) = .inf true (plen ps) := by rw [← hS, upd_cons, if_pos rfl]
  let h : Home := ⟨false, some ⟨w.heap.size, 0, none⟩, 0, 0, 0, 0⟩
  have T : Turn Γ ι S' a w id h S2 { w with heap := w.heap.push (.cells vals el) } := {
    sr := hs
    later := fun hm hi => by rw [dead] at hi; cases hi
    os := rfl
    tape := rfl
    output := rfl
    size := by simp
    same := fun k hk _ => push_get w _ k hk
    home := fun ad had => by
      cases had
      exact ⟨rfl, by simp, fun k => by simp [World.frozen?], .inl (Nat.le_refl _)⟩
    tmps := s_t
    pin := s_p
    cels := s_c
    arr := fun i _ => s_a i
    inf := s_i
    live := ⟨true, _, s_l⟩ }
  refine ⟨setH ι id h, T.done (fun off hne => ?_) (fun g el es xs e => ?_) fun q e => ?_, .ptr _ _ _ h (by simp [setH]) rfl ⟨w.heap.size, 0, rfl, rfl⟩⟩
  · rw [s_d] at hne ⊢
    by_cases ho : off < ps.length
    · rw [if_pos ho] at hne ⊢
      have e : ps[off]? = some (ps.getD off .junk) := by simp [ho]
      have hr := hv off _ e
      refine ⟨rfl, w.heap.size, 0, vals.getD off undef, rfl, ?_, cel_one hr (cels_mem hc _ (List.mem_of_getElem? e)), T.repT hr⟩
      simp only [World.cell?, Array.getElem?_push_size]
      simp [Array.getD_eq_getD_getElem?, show off < vals.size from by omega]
    · rw [if_neg ho] at hne
      exact absurd rfl hne
  · rw [s_a] at e; exact absurd e (ja g el es xs)
  · rw [s_a] at e; exact absurd e (jo q)

theorem sound_box {t : TypeId} {x : Operand} (ho : o.op = .box t x) (h : opV Real E o.op m n K) : Sound P Γ o m K := by
  have hop : o.op.operands.toList = [x] := by rw [ho]; rfl
  rw [ho] at h
  simp only [opV] at h
  split at h
  · rename_i hd
    obtain ⟨cs, hcs, h⟩ := optP_some h
    obtain ⟨hc, hK⟩ := isT_true h
    refine ⟨_, _, _, _, hK, fun S' h1 h2 ι a w hs => ?_⟩
    obtain ⟨e1, e2⟩ := cellsOf_rep (ev_of hs h1 (x := x) (by simp [hop])) hcs
    have hrun : (execOp a.eval o).run P w = .ok (.value (.pointer (some ⟨w.heap.size, 0, none⟩))) { w with heap := w.heap.push (.cells (a.eval x).cells t) } := by
      simp [execOp, ho, Instr.box, newVar, newRow]
    unfold Runs
    rw [hrun]
    exact hs.newBox (by rw [h2 _ (by simp)]; exact hd) e1 hc e2
  · exact h.elim

theorem zrow_rep {ι : Nat → Option Home} {ok : Nat → Prop} {w : World} (ti : TI) : ti.zero.cells.size = (zrow ti).length ∧ ∀ (i : Nat) c, (zrow ti)[i]? = some c → RepT ι ok w (ti.zero.cells.getD i undef) c := by
  unfold zrow
  rw [vcells_eq]
  refine ⟨by simp, fun i c hc => ?_⟩
  rw [List.getElem?_map] at hc
  cases hv : ti.zero.cells.toList[i]? with
  | none => rw [hv] at hc; simp at hc
  | some y =>
    rw [hv] at hc
    simp only [Option.map_some, Option.some.injEq] at hc
    subst hc
    have : ti.zero.cells.getD i undef = y := by
      simp only [Array.getD_eq_getD_getElem?]
      rw [show ti.zero.cells[i]? = some y from by simpa using hv]; rfl
    rw [this]
    exact const_rep y

theorem sound_alloc {t : TypeId} (hE : EnvOK P A E) (ho : o.op = .alloc t) (h : opV Real E o.op m n K) : Sound P Γ o m K := by
  rw [ho] at h
  simp only [opV] at h
  split at h
  · rename_i hd
    obtain ⟨ti, ht, h⟩ := optP_some h
    obtain ⟨hc, hK⟩ := isT_true h
    have hT := hE.ty _ _ ht
    refine ⟨_, _, _, _, hK, fun S' h1 h2 ι a w hs => ?_⟩
    have hz := hT.zero w
    have hrun : (execOp a.eval o).run P w = .ok (.value (.pointer (some ⟨w.heap.size, 0, none⟩))) { w with heap := w.heap.push (.cells ti.zero.cells t) } := by
      simp [execOp, ho, Instr.alloc, newVar, newRow, hz]
    unfold Runs
    rw [hrun]
    obtain ⟨z1, z2⟩ := zrow_rep (ι := ι) (ok := okS Γ ι S' w) (w := w) ti
    exact hs.newBox (by rw [h2 _ (by simp)]; exact hd) z1 hc z2
  · exact h.elim


/-! ### A struct's literal -/
theorem pover_len : ∀ (l : List PV) (off : Nat) (ws : List PV), (pover l off ws).length = l.length
  | l, _, [] => by cases l <;> simp [pover]
  | [], _, _ :: _ => by simp [pover]
  | _ :: r, 0, w :: ws => by simp [pover, pover_len r 0 ws]
  | x :: r, n + 1, w :: ws => by simp [pover, pover_len r n (w :: ws)]
theorem pover_get : ∀ (l : List PV) (off : Nat) (ws : List PV) (i : Nat), off + ws.length ≤ l.length → (pover l off ws)[i]? = if off ≤ i ∧ i < off + ws.length then ws[i - off]? else l[i]?
  | l, off, [], i, _ => by
    rw [if_neg (by intro hh; simp at hh; omega)]
    cases l <;> simp [pover]
  | [], off, _ :: _, i, h => by simp at h
  | x :: r, 0, w :: ws, i, h => by
    simp only [pover]
    cases i with
    | zero => simp
    | succ i =>
      simp only [List.length_cons, Nat.zero_add] at h
      rw [List.getElem?_cons_succ, pover_get r 0 ws i (by omega)]
      simp
  | x :: r, n + 1, w :: ws, i, h => by
    simp only [pover]
    cases i with
    | zero => simp
    | succ i =>
      simp only [List.length_cons] at h
      rw [List.getElem?_cons_succ, pover_get r n (w :: ws) i (by simp; omega)]
      simp only [List.length_cons]
      by_cases c : n ≤ i ∧ i < n + (ws.length + 1)
      · rw [if_pos c, if_pos (by omega), show i + 1 - (n + 1) = i - n from by omega]
      · rw [if_neg c, if_neg (by omega)]; simp

theorem zip_fold_get (off : Nat) : ∀ (l : List Value) (k : Nat) (cs : Array Value) (i : Nat), off + k + l.length ≤ cs.size →
    (((l.zipIdx k).foldl (fun cs (c, j) => cs.setIfInBounds (off + j) c) cs).size = cs.size) ∧
    ((l.zipIdx k).foldl (fun cs (c, j) => cs.setIfInBounds (off + j) c) cs)[i]? = if off + k ≤ i ∧ i < off + k + l.length then l[i - (off + k)]? else cs[i]?
  | [], k, cs, i, _ => by simp; intro h1 h2; omega
  | v :: r, k, cs, i, h => by
    simp only [List.length_cons] at h
    simp only [List.zipIdx_cons, List.foldl_cons]
    obtain ⟨h1, h2⟩ := zip_fold_get off r (k + 1) (cs.setIfInBounds (off + k) v) i (by simp; omega)
    refine ⟨by rw [h1]; simp, ?_⟩
    rw [h2]
    by_cases c : i = off + k
    · subst c
      have : off + k < cs.size := by omega
      simp [this]
      intro hh; omega
    · rw [Array.getElem?_setIfInBounds_ne (by omega)]
      by_cases c2 : off + (k + 1) ≤ i ∧ i < off + (k + 1) + r.length
      · rw [if_pos c2, if_pos (by simp; omega), show i - (off + k) = (i - (off + (k + 1))) + 1 from by omega]
        simp
      · rw [if_neg c2, if_neg (by simp; omega)]

/-- Cells of the machine and their picture. -/
def CellsRep (ι : Nat → Option Home) (ok : Nat → Prop) (w : World) (cells : Array Value) (cs : List PV) : Prop :=
  cells.size = cs.length ∧ ∀ (i : Nat) c, cs[i]? = some c → RepT ι ok w (cells.getD i undef) c

theorem over_rep {ι : Nat → Option Home} {ok : Nat → Prop} {w : World} {cells vs : Array Value} {cs ws : List PV} {off : Nat} (h1 : CellsRep ι ok w cells cs) (h2 : CellsRep ι ok w vs ws) (hl : off + ws.length ≤ cs.length) :
    CellsRep ι ok w (vs.zipIdx.foldl (fun cs (c, j) => cs.setIfInBounds (off + j) c) cells) (pover cs off ws) := by
  have e : vs.zipIdx.foldl (fun (cs : Array Value) (c, j) => cs.setIfInBounds (off + j) c) cells = (vs.toList.zipIdx 0).foldl (fun cs (c, j) => cs.setIfInBounds (off + j) c) cells := by
    rw [← Array.foldl_toList]; simp
  have hz := fun i => zip_fold_get off vs.toList 0 cells i (by simp; rw [h2.1, h1.1]; exact hl)
  refine ⟨by rw [e, (hz 0).1, h1.1, pover_len], fun i c hi => ?_⟩
  rw [pover_get _ _ _ _ hl] at hi
  have hv := (hz i).2
  simp only [Nat.add_zero, Array.length_toList, h2.1] at hv
  rw [e]
  simp only [Array.getD_eq_getD_getElem?, hv]
  by_cases c1 : off ≤ i ∧ i < off + ws.length
  · rw [if_pos c1] at hi ⊢
    have := h2.2 _ c hi
    simpa [Array.getD_eq_getD_getElem?] using this
  · rw [if_neg c1] at hi ⊢
    have := h1.2 _ c hi
    simpa [Array.getD_eq_getD_getElem?] using this

theorem sizes_run (fs : List Field) (h : ∀ f ∈ fs, (P.info? f.type).isSome = true) (w : World) :
    (fs.mapM fun f => do pure (f.offset, ← sizeOf f.type) : Sem (List (Nat × Nat))).run P w = .ok (fs.map fun f => (f.offset, ((P.info? f.type).map (·.size)).getD 0)) w := by
  induction fs with
  | nil => rfl
  | cons f r ih =>
    have hf := h f (by simp)
    cases hi : P.info? f.type with
    | none => rw [hi] at hf; cases hf
    | some i =>
      have h1 : (sizeOf f.type).run P w = .ok i.size w := by simp [sizeOf, typeInfo, hi]
      simp only [List.mapM_cons, Sem.run_bind, h1, Result.andThen_ok, Sem.run_pure, ih fun g hg => h g (by simp [hg]), List.map_cons, hi, Option.map_some, Option.getD_some]

theorem fill_rep {ι S' a w} (hE : EnvOK P A E) (hs : SR Γ ι S' a w) {fs : List Field} {flds : List (Nat × Nat)} (hfs : fs.map (fun f => (f.type, f.offset)) = flds) :
    ∀ (parts : List (Nat × Operand)) (cs cs' : List PV) (cells : Array Value), fillS E m flds parts cs = some cs' → (∀ x ∈ parts, RepT ι (okS Γ ι S' w) w (a.eval x.2) (ev m x.2)) →
      CellsRep ι (okS Γ ι S' w) w cells cs → ∃ cells', Instr.fill (fun i => ((fs.map fun f => (f.offset, ((P.info? f.type).map (·.size)).getD 0)).toArray)[i]?) cells (parts.map fun x => (x.1, a.eval x.2)) = some cells' ∧ CellsRep ι (okS Γ ι S' w) w cells' cs'
  | [], cs, cs', cells, h, _, hc => by simp only [fillS, Option.some.injEq] at h; subst h; exact ⟨cells, rfl, hc⟩
  | (f, x) :: r, cs, cs', cells, h, hx, hc => by
    simp only [fillS] at h
    split at h
    · rename_i ty off hf
      split at h
      · rename_i ti ht
        split at h
        · rename_i ws hws
          split at h
          · rename_i h1
            split at h
            · rename_i h2
              rw [beq_iff, plen_eq] at h1
              rw [ble_iff, plen_eq, plen_eq] at h2
              have hT := hE.ty _ _ ht
              obtain ⟨i, hi, his, _⟩ := hT.info
              have hw := cellsOf_rep (hx (f, x) (by simp)) hws
              obtain ⟨cells', q1, q2⟩ := fill_rep hE hs hfs r _ cs' _ h (fun y hy => hx y (by simp [hy])) (over_rep hc hw h2)
              refine ⟨cells', ?_, q2⟩
              have hplace : ((fs.map fun f => (f.offset, ((P.info? f.type).map (·.size)).getD 0)).toArray)[f]? = some (off, ti.size) := by
                rw [fldAt_eq, ← hfs, List.getElem?_map] at hf
                cases hg : fs[f]? with
                | none => rw [hg] at hf; cases hf
                | some fd =>
                  rw [hg] at hf
                  simp only [Option.map_some, Option.some.injEq, Prod.mk.injEq] at hf
                  simp [hg, hf.1, hf.2, hi, his]
              simp only [List.map_cons, Instr.fill, hplace]
              rw [if_neg (by
                have e1 : (a.eval x).cells.size = ws.length := hw.1
                have e2 := hc.1
                simp
                omega)]
              exact q1
            · cases h
          · cases h
        · cases h
      · cases h
    · cases h

theorem sound_build {t : TypeId} {parts : Array (Nat × Operand)} (hE : EnvOK P A E) (ho : o.op = .build t parts) (h : opV Real E o.op m n K) : Sound P Γ o m K := by
  have hop : o.op.operands.toList = parts.toList.map (·.2) := by rw [ho]; simp [Op.operands]
  rw [ho] at h
  simp only [opV] at h
  obtain ⟨ti, ht, h⟩ := optP_some h
  have hT := hE.ty _ _ ht
  split at h
  · exact h.elim
  · rename_i hne
    obtain ⟨cs, hcs, hK⟩ := optP_some h
    refine sound_val hK fun S' h1 _ ι a w hs => ?_
    obtain ⟨fs, f1, f2, f3⟩ := hT.fields fun e => hne e
    obtain ⟨cells', q1, q2⟩ := fill_rep hE hs f2 parts.toList _ cs _ hcs (fun x hx => ev_of hs h1 (x := x.2) (by rw [hop]; exact List.mem_map.2 ⟨x, hx, rfl⟩)) (zrow_rep ti)
    refine ⟨.agg cells', ?_, .agg _ _ q2.1 q2.2⟩
    have hz := hT.zero w
    have hm : (fs.mapM fun f => do pure (f.offset, ← sizeOf f.type) : Sem (Array (Nat × Nat))).run P w = .ok (fs.toList.map fun f => (f.offset, ((P.info? f.type).map (·.size)).getD 0)).toArray w := by
      have := sizes_run fs.toList f3 w
      rw [← Array.toList_mapM] at this
      simp only [Sem.run_map] at this
      generalize (fs.mapM fun f => do pure (f.offset, ← sizeOf f.type) : Sem (Array (Nat × Nat))).run P w = r at this
      cases r with
      | ok x w' =>
        simp only [Result.andThen_ok, Result.ok.injEq] at this
        rw [← this.1, this.2]
      | halt x w' => simp at this
    simp only [execOp, ho, Instr.build, Sem.run_bind, hz, f1 w, hm, Result.andThen_ok]
    have e : (parts.map fun x => (x.1, a.eval x.2)).toList = parts.toList.map fun x => (x.1, a.eval x.2) := by simp
    rw [e, q1]
    simp
end ops
end Go.Pi

/- Arrays of the call's own: made, appended to, written. -/
namespace Go.Pi
open Go
section ops
variable {P : Program} {Γ : Ctx} {E : Env} {o : Oper} {m : Mem} {n : Nat} {K : Kont} {A : World → Prop}

/-- An array's cells, as the picture tells them (in memory w). -/
def RowsRep (ok : Nat → Prop) (w : World) (cur : Array Value) (es : Nat) (xs : List (List PV)) : Prop :=
  ∀ i r, xs[i]? = some r → ∀ j c, r[j]? = some c → ∃ x, cur[i * es + j]? = some x ∧ x.oneCell' = true ∧ RepS ok w x c

theorem SR.arrTurn {ι S a w id h' S2 w' g el es xs} (T : Turn Γ ι S a w id h' S2 w') (ha : h'.arr = true) (hS : S2 (.a id) = .arr g el es xs) (hg : h'.g = g)
    (hc : ∀ off, S2 (.c id off) = S (.c id off)) (hA : ArrOK (okS Γ (setH ι id h') S2 w') w' h' el es xs) : SR Γ (setH ι id h') S2 a w' :=
  T.done
    (fun off hne => by
      rw [hc] at hne
      obtain ⟨hh, _, _, _, h1, h2, _⟩ := T.sr.cells id off hne
      have := (T.later hh h1).box h2
      rw [this] at ha; rw [ha] at h2; cases h2)
    (fun g' el' es' xs' e => by rw [hS] at e; cases e; exact ⟨⟨ha, hg⟩, hA⟩)
    (fun q e => by rw [hS] at e; cases e)

/-- An array is made: in a new block, or nil. -/
theorem SR.newArr {ι S a w} (hs : SR Γ ι S a w) {id : Nat} (hd : S (.i id) = .junk) {w' : World} (hos : w'.os = w.os) (htape : w'.tape = w.tape) (hout : w'.output = w.output) (hsz : w.heap.size ≤ w'.heap.size)
    (hold : ∀ k, k < w.heap.size → w'.heap[k]? = w.heap[k]?) {el es cap : Nat} {xs : List (List PV)} {base : Option Addr} (hlen : xs.length ≤ cap) (hcap : cap ≤ maxLen) (hrows : ∀ r ∈ xs, r.length = es)
    (hb : (base = none ∧ cap = 0) ∨ ∃ cur, base = some ⟨w.heap.size, 0, none⟩ ∧ w'.heap[w.heap.size]? = some (.cells cur el (0, 0)) ∧ cur.size = cap * es ∧ RowsRep (okS Γ ι S w) w cur es xs) :
    ∃ ι', SR Γ ι' (upd [(.i id, .inf true 0), (.a id, .arr 0 el es xs)] S) a w' ∧
      RepT ι' (okS Γ ι' (upd [(.i id, .inf true 0), (.a id, .arr 0 el es xs)] S) w') w' ((⟨true, base, cap, xs.length, es, 0⟩ : Home).slice 0 xs.length) (.own id 0) := by
  have dead := hs.dead hd
  generalize hS : upd [(.i id, .inf true 0), (.a id, .arr 0 el es xs)] S = S2
  have s_t : ∀ k, S2 (.t k) = S (.t k) := fun k => by rw [← hS]; simp [upd_cons, upd_nil]
  have s_p : S2 .p = S .p := by rw [← hS]; simp [upd_cons, upd_nil]
  have s_c : ∀ i off, S2 (.c i off) = S (.c i off) := fun i off => by rw [← hS]; simp [upd_cons, upd_nil]
  have s_a : ∀ i, i ≠ id → S2 (.a i) = S (.a i) := fun i hne => by rw [← hS]; simp [upd_cons, upd_nil, hne]
  have s_i : ∀ i, i ≠ id → S2 (.i i) = S (.i i) := fun i hne => by rw [← hS]; simp [upd_cons, upd_nil, hne]
  have s_l : S2 (.i id) = .inf true 0 := by rw [← hS]; simp [upd_cons]
  have s_r : S2 (.a id) = .arr 0 el es xs := by rw [← hS]; simp [upd_cons]
  have T : Turn Γ ι S a w id ⟨true, base, cap, xs.length, es, 0⟩ S2 w' := {
    sr := hs
    later := fun hm hi => by rw [dead] at hi; cases hi
    os := hos
    tape := htape
    output := hout
    size := hsz
    same := fun k hk _ => hold k hk
    home := fun ad had => by
      rcases hb with ⟨h1, _⟩ | ⟨cur, h1, h2, _⟩
      · simp only at had; rw [h1] at had; cases had
      · simp only at had; rw [h1] at had; cases had
        refine ⟨rfl, (Array.getElem?_eq_some_iff.1 h2).1, fun k => by simp [World.frozen?, h2], .inl (Nat.le_refl _)⟩
    tmps := s_t
    pin := s_p
    cels := fun i off _ => s_c i off
    arr := s_a
    inf := s_i
    live := ⟨true, _, s_l⟩ }
  refine ⟨setH ι id ⟨true, base, cap, xs.length, es, 0⟩, SR.arrTurn T rfl s_r rfl (fun off => s_c id off) ⟨rfl, rfl, hlen, hcap, hrows, ?_⟩, .own _ _ _ ⟨true, base, cap, xs.length, es, 0⟩ ?_ (by simp [setH]) (Nat.le_refl _) fun _ => ?_⟩
  · rcases hb with ⟨h1, h2⟩ | ⟨cur, h1, h2, h3, h4⟩
    · exact .inl ⟨h1, h2⟩
    · exact .inr ⟨_, cur, h1, h2, h3, fun i r hi j c hj => let ⟨x, e1, e2, e3⟩ := h4 i r hi j c hj; ⟨x, e1, e2, T.repS e3⟩⟩
  · cases base <;> exact ⟨_, _, _, rfl⟩
  · rfl

/-! ### What a slice's elements hold -/
def newsOf (f : Nat → Nat → Value) (len es : Nat) : List Value := (List.range (len * es)).map fun k => f (k / es) (k % es)
theorem newsOf_len (f : Nat → Nat → Value) (len es : Nat) : (newsOf f len es).length = len * es := by simp [newsOf]
theorem newsOf_get (f : Nat → Nat → Value) {len es i j : Nat} (hi : i < len) (hj : j < es) : (newsOf f len es)[i * es + j]? = some (f i j) := by
  have h1 : i * es + j < len * es := by
    have : (i + 1) * es ≤ len * es := Nat.mul_le_mul_right _ hi
    rw [Nat.add_mul] at this; omega
  have h2 : (i * es + j) / es = i := by rw [Nat.mul_comm, Nat.mul_add_div (by omega), Nat.div_eq_of_lt hj]; omega
  have h3 : (i * es + j) % es = j := by rw [Nat.mul_comm, Nat.mul_add_mod, Nat.mod_eq_of_lt hj]
  simp [newsOf, h1, h2, h3]

theorem divmod {k len es : Nat} (hk : k < len * es) : k / es < len ∧ k % es < es ∧ k / es * es + k % es = k := by
  have hes : 0 < es := Nat.pos_of_ne_zero fun e => by subst e; simp at hk
  refine ⟨(Nat.div_lt_iff_lt_mul hes).2 hk, Nat.mod_lt _ hes, ?_⟩
  have := Nat.div_add_mod k es
  rw [Nat.mul_comm] at this; exact this

/-- The source of an append: nothing, or cells that the memory shows. -/
def Src (ok : Nat → Prop) (w : World) (x : Value) (size : Nat) (ys : List (List PV)) : Prop :=
    (ys = [] ∧ ∃ a c, x = .slice a 0 c) ∨ ∃ (ad : Addr) (c : Nat) (news : List Value), x = .slice (some ad) ys.length c ∧ 0 < ys.length ∧ (∀ r ∈ ys, r.length = size) ∧ news.length = ys.length * size ∧ (∀ (j : Nat) u, news[j]? = some u → w.cell? (ad.add j) = some u) ∧
      (∀ u ∈ news, u.oneCell' = true) ∧ ∀ i r, ys[i]? = some r → ∀ j c, r[j]? = some c → ∃ u, news[i * size + j]? = some u ∧ u.oneCell' = true ∧ RepS ok w u c
theorem src_rep {ok : Nat → Prop} {w : World} {x : Value} {bes size : Nat} {ys : List (List PV)} (hx : RepS ok w x (.list bes ys)) (hes : esOK bes size ys = true) : Src ok w x size ys := by
  cases hx with
  | empty a cap _ => exact .inl ⟨rfl, a, cap, rfl⟩
  | list b off cap _ _ f hb hcap hrow hc hr =>
    by_cases h0 : ys = []
    · subst h0; exact .inl ⟨rfl, _, _, rfl⟩
    · have hbe : bes = size := by
        unfold esOK at hes
        split at hes
        · rename_i e; exact beq_iff.1 e
        · split at hes
          · exact absurd rfl h0
          · cases hes
      subst hbe
      have hpos : 0 < ys.length := List.length_pos_iff.2 h0
      have cell : ∀ k, k < ys.length * bes → w.cell? ⟨b, off + k, none⟩ = some (f (k / bes) (k % bes)) ∧ (f (k / bes) (k % bes)).oneCell' = true := by
        intro k hk
        obtain ⟨d1, d2, d3⟩ := divmod hk
        have hrr : ys[k / bes]? = some ys[k / bes] := List.getElem?_eq_getElem d1
        have hl := hrow _ (List.getElem_mem d1)
        have hcc : (ys[k / bes])[k % bes]? = some (ys[k / bes])[k % bes] := List.getElem?_eq_getElem (by omega)
        have := hc _ _ hrr _ _ hcc
        rw [d3] at this
        exact this
      refine .inr ⟨⟨b, off, none⟩, cap, newsOf f ys.length bes, rfl, hpos, hrow, newsOf_len _ _ _, fun j u hj => ?_, fun u hu => ?_, fun i r hi j c hj => ?_⟩
      · rw [addr_add]
        have hk : j < ys.length * bes := by have := (List.getElem?_eq_some_iff.1 hj).1; rwa [newsOf_len] at this
        rw [(cell j hk).1]
        simp only [newsOf, List.getElem?_map, List.getElem?_range hk, Option.map_some] at hj
        exact hj
      · simp only [newsOf, List.mem_map, List.mem_range] at hu
        obtain ⟨k, hk, rfl⟩ := hu
        exact (cell k hk).2
      · have hi' : i < ys.length := (List.getElem?_eq_some_iff.1 hi).1
        have hj' : j < bes := by have := (List.getElem?_eq_some_iff.1 hj).1; rw [hrow r (List.mem_of_getElem? hi)] at this; exact this
        exact ⟨f i j, newsOf_get f hi' hj', (hc i r hi j c hj).2, hr i r hi j c hj⟩

theorem append_nothing (w : World) {t ty e : TypeId} {i : TypeInfo} (ht : P.underlying t = some (.slice e)) (hi : P.info? e = some i) (base : Option Addr) (sLen sCap : Nat) (hle : sLen ≤ sCap) (a : Option Addr) (c : Nat) :
    (Builtin.append_ #[t, t] ty #[.slice base sLen sCap, .slice a 0 c]).run P w = .ok (.slice base sLen sCap) w := by
  cases base <;> cases a <;> simp [Builtin.append_, run_underlying ht, sizeOf, typeInfo, hi, Builtin.lenOf, Builtin.firstCells, loadCells, loadCellsFrom, hle, storeCells]

theorem rowsRep_app {ok : Nat → Prop} {w : World} {es : Nat} {xs ys : List (List PV)} {cur news : List Value} {z : Array Value} (h1 : RowsRep ok w cur.toArray es xs) (h2 : RowsRep ok w news.toArray es ys)
    (hr1 : ∀ r ∈ xs, r.length = es) (hr2 : ∀ r ∈ ys, r.length = es) (hl : cur.length = xs.length * es) (hl2 : news.length = ys.length * es) : RowsRep ok w (cur.toArray ++ news.toArray ++ z) es (xs ++ ys) := by
  intro i r hi j c hj
  by_cases h : i < xs.length
  · rw [List.getElem?_append_left h] at hi
    obtain ⟨x, e1, e2⟩ := h1 i r hi j c hj
    refine ⟨x, ?_, e2⟩
    have hj' : j < es := by have := (List.getElem?_eq_some_iff.1 hj).1; rw [hr1 r (List.mem_of_getElem? hi)] at this; exact this
    have hlt : i * es + j < xs.length * es := by
      have : (i + 1) * es ≤ xs.length * es := Nat.mul_le_mul_right _ h
      rw [Nat.add_mul] at this; omega
    rw [Array.getElem?_append_left (by simp; omega), Array.getElem?_append_left (by simp; omega)]
    exact e1
  · rw [List.getElem?_append_right (by omega)] at hi
    obtain ⟨x, e1, e2⟩ := h2 _ r hi j c hj
    refine ⟨x, ?_, e2⟩
    have hi2 : i - xs.length < ys.length := (List.getElem?_eq_some_iff.1 hi).1
    have hj' : j < es := by have := (List.getElem?_eq_some_iff.1 hj).1; rw [hr2 r (List.mem_of_getElem? hi)] at this; exact this
    have e3 : i * es + j = xs.length * es + ((i - xs.length) * es + j) := by
      have : i = xs.length + (i - xs.length) := by omega
      conv => lhs; rw [this, Nat.add_mul]
      omega
    have hlt : (i - xs.length) * es + j < ys.length * es := by
      have : (i - xs.length + 1) * es ≤ ys.length * es := Nat.mul_le_mul_right _ hi2
      rw [Nat.add_mul] at this; omega
    rw [Array.getElem?_append_left (by simp; omega), Array.getElem?_append_right (by simp; omega)]
    simp only [List.size_toArray]
    rw [show i * es + j - cur.length = (i - xs.length) * es + j from by omega]
    exact e1


/-- The array after an append: where it lies, and what it holds, in terms of the memory before. -/
structure Grown (ok : Nat → Prop) (w w' : World) (h h' : Home) (el es : Nat) (zs : List (List PV)) : Prop where
  os : w'.os = w.os
  tape : w'.tape = w.tape
  output : w'.output = w.output
  size : w.heap.size ≤ w'.heap.size
  same : ∀ k, k < w.heap.size → (∀ g, h.base = some ⟨g, 0, none⟩ → k ≠ g) → w'.heap[k]? = w.heap[k]?
  arr : h'.arr = true
  g : h'.g = h.g + 1
  hes : h'.es = es
  len : zs.length = h'.len
  cap : zs.length ≤ h'.cap
  most : h'.cap ≤ maxLen
  row : (h'.base = none ∧ h'.cap = 0) ∨ ∃ g cur, h'.base = some ⟨g, 0, none⟩ ∧ w'.heap[g]? = some (.cells cur el (0, 0)) ∧ cur.size = h'.cap * es ∧ (g = w.heap.size ∨ h.base = some ⟨g, 0, none⟩) ∧ RowsRep ok w cur es zs

theorem append_run {ok : Nat → Prop} {w : World} {t ty : TypeId} {ti te : TI} {el : Nat} (hT : TyOK P t ti) (hel : ti.elem = el) (hne : el ≠ 0) (hE' : TyOK P el te) (hby : te.bytes ≤ 4096)
    {h : Home} {xs ys : List (List PV)} (harr : h.arr = true) (hA : ArrOK ok w h el te.size xs) {x : Value} (hx : Src ok w x te.size ys)
    (hfew : xs.length + ys.length ≤ 2147483648) :
    ∃ h' w', (Builtin.append_ #[t, t] ty #[h.slice 0 h.len, x]).run P w = .ok (h'.slice 0 h'.len) w' ∧ Grown ok w w' h h' el te.size (xs ++ ys) := by
  have ht : P.underlying t = some (.slice el) := by rw [← hel]; exact hT.und (by omega)
  obtain ⟨i, hi, his, hib, hiz⟩ := hE'.info
  have hpos := hE'.pos
  have hzs := hE'.zsize
  have e9 : (9223372036854775807 : Nat) = maxLen := rfl
  have hmax : xs.length + ys.length ≤ maxLen := by rw [← e9]; omega
  have hb1 : ∀ q, q ≤ 2147483648 → q * i.bytes ≤ 140737488355328 := fun q hq => by
    have := Nat.mul_le_mul hq (show i.bytes ≤ 4096 by omega); omega
  -- a new block that holds both
  have grown : ∀ (cur : List Value) (old : Nat), cur.length = xs.length * te.size → RowsRep ok w cur.toArray te.size xs → ∀ (news : List Value), news.length = ys.length * te.size → RowsRep ok w news.toArray te.size ys → (∀ r ∈ ys, r.length = te.size) →
      Grown ok w (w.drew.alloc (.cells (cur.toArray ++ news.toArray ++ Builtin.zeroCells te.zero.cells (grownCap w (xs.length + ys.length) old el - (xs.length + ys.length))) el)) h
        ⟨true, some ⟨w.heap.size, 0, none⟩, grownCap w (xs.length + ys.length) old el, xs.length + ys.length, te.size, h.g + 1⟩ el te.size (xs ++ ys) := by
    intro cur old hc1 hc2 news hn1 hn2 hrow
    have hge := grownCap_ge w (xs.length + ys.length) old el
    exact {
      os := rfl, tape := rfl, output := rfl, size := by simp
      same := fun k hk _ => heap_alloc_old w.drew _ k hk
      arr := rfl, g := rfl, hes := rfl, len := by simp, cap := by simpa using hge
      most := grownCap_le_maxLen w _ old el hmax
      row := .inr ⟨w.heap.size, _, rfl, heap_alloc_new w.drew _, by
        simp only [Array.size_append, List.size_toArray, size_zeroCells, hc1, hn1, hzs, ← Nat.add_mul]
        congr 1; omega, .inl rfl, rowsRep_app hc2 hn2 hA.rows hrow hc1 hn1⟩ }
  rcases hx with ⟨rfl, ad, c, rfl⟩ | ⟨ad, c, news, rfl, hyp, hrow, hn1, hn2, hn3, hn4⟩
  · -- nothing is appended
    refine ⟨{ h with g := h.g + 1 }, w, ?_, ?_⟩
    · cases hb : h.base with
      | none =>
        simp only [Home.slice, hb]
        exact append_nothing w ht hi _ _ _ (Nat.le_refl _) _ _
      | some b =>
        simp only [Home.slice, hb]
        exact append_nothing w ht hi _ _ _ (by have := hA.cap; rw [hA.len] at this; omega) _ _
    · exact {
        os := rfl, tape := rfl, output := rfl, size := Nat.le_refl _, same := fun _ _ _ => rfl, arr := harr, g := rfl, hes := hA.hes
        len := by simpa using hA.len, cap := by simpa using hA.cap, most := hA.most
        row := hA.row.imp id fun ⟨g, cur, h1, h2, h3, h4⟩ => ⟨g, cur, h1, h2, h3, .inr h1, by simpa [RowsRep] using h4⟩ }
  · have hn2' : RowsRep ok w news.toArray te.size ys := fun i r hi j c hj => by
      obtain ⟨u, e1, e2⟩ := hn4 i r hi j c hj
      exact ⟨u, by simpa using e1, e2⟩
    rcases hA.row with ⟨hn, hz⟩ | ⟨g, cur, hb, hcur, hsz, hrep⟩
    · -- nil
      have hx0 : xs = [] := List.eq_nil_of_length_eq_zero (by have := hA.cap; omega)
      subst hx0
      simp only [List.length_nil, Nat.zero_add] at *
      have hr := run_append_nil (P := P) w t ty el i te.zero ht hi hiz ad ys.length c news (by rw [his]; exact hn1) hn2 hyp (by rw [← e9] at hmax; omega) (by have := hb1 ys.length (by simpa using hfew); omega)
      have hg := grown [] 0 (by simp) (fun i r hi => by simp at hi) news hn1 hn2' hrow
      simp only [List.nil_append] at hg ⊢
      refine ⟨_, _, ?_, hg⟩
      simp only [Home.slice, hn]
      rw [hr]
      simp
    · simp only [Home.slice, hb, Nat.zero_mul, Nat.add_zero, Nat.sub_zero]
      have hl := hA.len
      by_cases hroom : h.len + ys.length ≤ h.cap
      · -- in place
        have hr := run_append_room (P := P) w t ty el i ht hi g h.len h.cap cur hcur ad ys.length c news (by rw [his]; exact hn1) hn2 hn3 hroom (by
          rw [his, hn1, hsz, ← Nat.add_mul]; exact Nat.mul_le_mul_right _ hroom)
        rw [hr]
        refine ⟨{ h with len := h.len + ys.length, g := h.g + 1 }, w.setRow g (cur.toList.take (h.len * i.size) ++ news ++ cur.toList.drop (h.len * i.size + news.length)).toArray, by simp [hb], ?_⟩
        have hcl : h.len * te.size ≤ cur.size := by rw [hsz]; exact Nat.mul_le_mul_right _ (by omega)
        exact {
          os := rfl, tape := rfl, output := rfl, size := by simp [World.setRow]
          same := fun k hk hne => setRow_other w g k _ (hne g hb)
          arr := harr, g := rfl, hes := hA.hes, len := by simp [hl], cap := by simp [hl]; exact hroom, most := hA.most
          row := .inr ⟨g, _, hb, setRow_heap w g cur _ el _ hcur, by
            simp only [List.size_toArray, List.length_append, List.length_take, List.length_drop, Array.length_toList, his, hn1]
            have : (h.len + ys.length) * te.size ≤ h.cap * te.size := Nat.mul_le_mul_right _ hroom
            rw [Nat.add_mul] at this
            omega, .inr hb, by
            have := rowsRep_app (cur := cur.toList.take (h.len * te.size)) (news := news) (z := (cur.toList.drop (h.len * te.size + news.length)).toArray) (fun i r hi j c hj => by
                obtain ⟨x, e1, e2⟩ := hrep i r hi j c hj
                refine ⟨x, ?_, e2⟩
                have hi' : i < xs.length := (List.getElem?_eq_some_iff.1 hi).1
                have hj' : j < te.size := by have := (List.getElem?_eq_some_iff.1 hj).1; rw [hA.rows r (List.mem_of_getElem? hi)] at this; exact this
                have hlt : i * te.size + j < h.len * te.size := by
                  have : (i + 1) * te.size ≤ h.len * te.size := Nat.mul_le_mul_right _ (by omega)
                  rw [Nat.add_mul] at this; omega
                rw [List.getElem?_toArray, List.getElem?_take, if_pos hlt]
                simpa using e1) hn2' hA.rows hrow (by simp; rw [hl]; omega) hn1
            rw [his]
            simpa using this⟩ }
      · -- a new block
        have hcl : h.len * te.size ≤ cur.size := by
          rw [hsz]; exact Nat.mul_le_mul_right _ (by have := hA.cap; omega)
        have holdl : (cur.toList.take (h.len * te.size)).length = h.len * te.size := by simp; omega
        have hr := run_append_grow (P := P) w t ty el i te.zero ht hi hiz ⟨g, 0, none⟩ h.len h.cap (cur.toList.take (h.len * te.size)) (by rw [his]; exact holdl) (fun j v hj => by
            rw [addr_add]
            rw [List.getElem?_take] at hj
            split at hj
            · simp only [World.cell?, hcur]; simpa using hj
            · cases hj) ad ys.length c news (by rw [his]; exact hn1) hn2 (by omega) (by rw [← e9] at hmax; omega) (growslice_fits (by omega) (hb1 _ (by omega)))
        have hg := grown (cur.toList.take (h.len * te.size)) h.cap (by rw [hl]; exact holdl) (fun i r hi j c hj => by
            obtain ⟨x, e1, e2⟩ := hrep i r hi j c hj
            refine ⟨x, ?_, e2⟩
            have hi' : i < xs.length := (List.getElem?_eq_some_iff.1 hi).1
            have hj' : j < te.size := by have := (List.getElem?_eq_some_iff.1 hj).1; rw [hA.rows r (List.mem_of_getElem? hi)] at this; exact this
            have hlt : i * te.size + j < h.len * te.size := by
              have : (i + 1) * te.size ≤ h.len * te.size := Nat.mul_le_mul_right _ (by omega)
              rw [Nat.add_mul] at this; omega
            rw [List.getElem?_toArray, List.getElem?_take, if_pos hlt]
            simpa using e1) news hn1 hn2' hrow
        rw [hl] at hg
        rw [hr]
        exact ⟨_, _, by simp, hg⟩


/-- The elements of a slice, each structural. -/
theorem elems_src {ι S' a w} (hs : SR Γ ι S' a w) {p : PV} {e : Elems} (h : elems m p = some e) (hrd : ∀ k ∈ e.rd, S' k = toS m k) {x : Value} (hx : RepT ι (okS Γ ι S' w) w x p) {size : Nat} (hes : esOK e.es size e.xs = true) :
    Src (okS Γ ι S' w) w x size e.xs := by
  unfold elems at h
  split at h
  · simp only [Option.some.injEq] at h; subst h
    exact .inl ⟨rfl, none, 0, rep_nil hx⟩
  · simp only [Option.some.injEq] at h; subst h
    exact src_rep (rep_list hx) hes
  · rename_i id g
    split at h
    · rename_i g' el es xs ha
      split at h
      · rename_i hg
        simp only [Option.some.injEq] at h
        subst h
        have hg' := beq_iff.1 hg
        subst hg'
        obtain ⟨hm, e1, e2, hA⟩ := hs.arrs id _ _ _ _ (by rw [hrd _ (by simp)]; exact ha)
        obtain ⟨hm', f1, f2, f3⟩ := rep_own hx
        rw [e1] at f1; cases f1
        have hx' := f3 e2.2.symm
        by_cases h0 : xs = []
        · subst h0
          have hl := hA.len
          simp only [List.length_nil] at hl
          unfold Home.slice at hx'
          split at hx'
          · exact .inl ⟨rfl, _, _, by rw [hx', ← hl]⟩
          · exact .inl ⟨rfl, _, _, hx'⟩
        · rcases hA.row with ⟨_, hz⟩ | ⟨gb, cur, hb, hcur, hsz, hrep⟩
          · exfalso
            have := hA.cap
            exact h0 (List.eq_nil_of_length_eq_zero (by omega))
          · have hsame : es = size := by
              unfold esOK at hes
              split at hes
              · rename_i e; exact beq_iff.1 e
              · split at hes
                · rename_i e0; exact absurd e0 h0
                · cases hes
            subst hsame
            simp only [Home.slice, hb, Nat.zero_mul, Nat.add_zero, Nat.sub_zero] at hx'
            have hcl : xs.length * es ≤ cur.size := by rw [hsz]; exact Nat.mul_le_mul_right _ hA.cap
            have lt : ∀ (i : Nat) r j c, xs[i]? = some r → r[j]? = some c → i * es + j < xs.length * es := fun i r j c hi hj => by
              have hi' : i < xs.length := (List.getElem?_eq_some_iff.1 hi).1
              have hj' : j < es := by have := (List.getElem?_eq_some_iff.1 hj).1; rw [hA.rows r (List.mem_of_getElem? hi)] at this; exact this
              have : (i + 1) * es ≤ xs.length * es := Nat.mul_le_mul_right _ hi'
              rw [Nat.add_mul] at this; omega
            refine .inr ⟨⟨gb, 0, none⟩, hm.cap, cur.toList.take (xs.length * es), by rw [hx', hA.len], List.length_pos_iff.2 h0, hA.rows, by simp; omega, fun j u hj => ?_, fun u hu => ?_, fun i r hi j c hj => ?_⟩
            · rw [addr_add]
              rw [List.getElem?_take] at hj
              split at hj
              · simp only [World.cell?, hcur]; simpa using hj
              · cases hj
            · obtain ⟨k, hk⟩ := List.getElem?_of_mem hu
              rw [List.getElem?_take] at hk
              split at hk
              · rename_i hk'
                obtain ⟨d1, d2, d3⟩ := divmod hk'
                have hrr : xs[k / es]? = some xs[k / es] := List.getElem?_eq_getElem d1
                have hl := hA.rows _ (List.getElem_mem d1)
                have hcc : (xs[k / es])[k % es]? = some (xs[k / es])[k % es] := List.getElem?_eq_getElem (by omega)
                obtain ⟨y, q1, q2, _⟩ := hrep _ _ hrr _ _ hcc
                rw [d3] at q1
                have : cur[k]? = some u := by simpa using hk
                rw [q1] at this; cases this; exact q2
              · cases hk
            · obtain ⟨y, q1, q2, q3⟩ := hrep i r hi j c hj
              exact ⟨y, by rw [List.getElem?_take, if_pos (lt i r j c hi hj)]; simpa using q1, q2, q3⟩
      · cases h
    · cases h
  · cases h

theorem plain_struct {ι : Nat → Option Home} {ok : Nat → Prop} {w : World} {x : Value} {p : PV} (hx : RepS ok w x p) (h : plain p = true) : x.oneCell' = true := by
  have : cel p = true := by
    cases p <;> simp only [plain] at h <;> (try (cases h; done)) <;> (try rfl)
    rename_i y
    cases y <;> simp at h <;> rfl
  exact cel_one (ι := ι) (.str _ _ hx) this
theorem plains_mem : ∀ {l : List PV}, plains l = true → ∀ c ∈ l, plain c = true
  | [], _, c, hc => by cases hc
  | x :: r, h, c, hc => by
    simp only [plains] at h
    split at h
    · rename_i hx
      rcases List.mem_cons.1 hc with rfl | hc
      · exact hx
      · exact plains_mem h c hc
    · cases h

/-! ### make -/
theorem zrow_str {ok : Nat → Prop} {w : World} (ti : TI) (hp : plains (zrow ti) = true) : ti.zero.cells.size = (zrow ti).length ∧ ∀ (i : Nat) c, (zrow ti)[i]? = some c → (ti.zero.cells.getD i undef).oneCell' = true ∧ RepS ok w (ti.zero.cells.getD i undef) c := by
  obtain ⟨h1, h2⟩ := zrow_rep (ι := fun _ => none) (ok := ok) (w := w) ti
  refine ⟨h1, fun i c hc => ?_⟩
  have hr : RepS ok w (ti.zero.cells.getD i undef) c := by
    have := h2 i c hc
    have hpl := plains_mem hp c (List.mem_of_getElem? hc)
    generalize ti.zero.cells.getD i undef = q at this
    cases this with
    | str _ _ h => exact h
    | _ => simp [plain] at hpl
  exact ⟨plain_struct (ι := fun _ => none) hr (plains_mem hp c (List.mem_of_getElem? hc)), hr⟩

theorem madeCells_get (z : Array Value) (k i : Nat) (hi : i < k) (hz : 0 < z.size) : (madeCells z k)[i]? = some (z.getD (i % z.size) undef) := by
  unfold madeCells
  have hm := Nat.mod_lt i hz
  simp [hi, hm]

theorem zeroCells_made (z : Array Value) (k : Nat) : Builtin.zeroCells z k = madeCells z (k * z.size) := rfl
/-- So many zeros appended to nil. -/
theorem run_append_zeros (w : World) (t u ty e : TypeId) (i : TypeInfo) (z : Value) (k : IntKind) (ht : P.underlying t = some (.slice e)) (hu : ∀ w, (underlying u).run P w = .ok (.int k) w) (hi : P.info? e = some i) (hz : i.zero = some z) (hsz : 0 < i.size) (k' : IntKind)
    (c : Nat) (hby : i.bytes ≤ 4096) (hc : c ≤ 2147483648) : ∃ (base : Option Addr) (cap : Nat) (w' : World), (Builtin.append_ #[t, u] ty #[.slice none 0 0, .int k' (c : Int)]).run P w = .ok (.slice base c cap) w' ∧
      w'.os = w.os ∧ w'.tape = w.tape ∧ w'.output = w.output ∧ w.heap.size ≤ w'.heap.size ∧ (∀ j, j < w.heap.size → w'.heap[j]? = w.heap[j]?) ∧ c ≤ cap ∧ cap ≤ maxLen ∧
      ((base = none ∧ cap = 0) ∨ ∃ cur, base = some ⟨w.heap.size, 0, none⟩ ∧ w'.heap[w.heap.size]? = some (.cells cur e (0, 0)) ∧ cur.size = cap * z.cells.size ∧ ∀ j, j < c * z.cells.size → cur[j]? = (madeCells z.cells (c * z.cells.size))[j]?) := by
  have hw : IntKind.i64.wrap (c : Int) = c := by
    simp only [IntKind.wrap, IntKind.bits, IntKind.signed]
    have : (2 : Int) ^ 64 = 18446744073709551616 := by decide
    first
      | (simp only [this]; split <;> omega)
      | (simp; omega)
  have hb : ¬ (c : Int) * (i.bytes : Int) > 281474976710656 := by
    have := Nat.mul_le_mul hc hby
    have e : ((c * i.bytes : Nat) : Int) = (c : Int) * (i.bytes : Int) := by simp
    rw [← e]; omega
  have hn : ¬ (c : Int) < 0 := by omega
  by_cases h0 : c = 0
  · subst h0
    have hw0 : IntKind.i64.wrap 0 = 0 := by simpa using hw
    refine ⟨none, 0, w, ?_, rfl, rfl, rfl, Nat.le_refl _, fun _ _ => rfl, Nat.le_refl _, Nat.zero_le _, .inl ⟨rfl, rfl⟩⟩
    simp [Builtin.append_, run_underlying ht, hu, sizeOf, typeInfo, hi, asInt, asIntOf, hw0]
  · refine ⟨some ⟨w.heap.size, 0, none⟩, grownCap w c 0 e, w.drew.alloc (.cells (Builtin.zeroCells z.cells c ++ Builtin.zeroCells z.cells (grownCap w c 0 e - c)) e), ?_, rfl, rfl, rfl, by simp, fun j hj => heap_alloc_old w.drew _ j hj, grownCap_ge w c 0 e, grownCap_le_maxLen w c 0 e (by have e9 : (9223372036854775807 : Nat) = maxLen := rfl; omega), .inr ⟨_, rfl, heap_alloc_new w.drew _, ?_, fun j hj => ?_⟩⟩
    · have h63' : ¬ (9223372036854775807 < (c : Int)) := by omega
      have h48' : ¬ (281474976710656 < Builtin.nextslicecap c 0 * i.bytes) := by rw [nextslicecap_zero (by omega)]; have := Nat.mul_le_mul hc hby; omega
      have hs : i.size ≠ 0 := by omega
      have hb' : ¬ 281474976710656 < (c : Int) * (i.bytes : Int) := by omega
      have hn' : ¬ (c : Int) < 0 := by omega
      have hcs : ¬ (c * i.size = 0) := fun h => by rcases Nat.mul_eq_zero.1 h with h | h <;> contradiction
      simp [Builtin.append_, run_underlying ht, hu, sizeOf, typeInfo, zeroValue, hi, hz, asInt, asIntOf, hw, hb', hn', hcs, h0, h63', h48', hs, Question.forced, run_firstCells_none, newRow, grownCap]
    · have := grownCap_ge w c 0 e
      simp only [Array.size_append, size_zeroCells, ← Nat.add_mul]
      congr 1; omega
    · rw [Array.getElem?_append_left (by rw [size_zeroCells]; exact hj), zeroCells_made]
theorem sound_appZ {s x : Operand} {ts tx : TypeId} (hE : EnvOK P A E) (hop : o.op.operands.toList = [s, x])
    (runs : ∀ (a : Act), execOp a.eval o = (do let v ← Builtin.append_ #[ts, tx] o.type #[a.eval s, a.eval x]; pure (.value v))) (h : appZ Real E m n K s x ts tx) : Sound P Γ o m K := by
  unfold appZ at h
  split at h
  case h_2 => exact h.elim
  rename_i hd
  obtain ⟨ti, ht, h⟩ := optP_some h
  obtain ⟨tu, htu, h⟩ := optP_some h
  have hT := hE.ty _ _ ht
  have hU := hE.ty _ _ htu
  split at h
  · exact h.elim
  rename_i e he
  obtain ⟨te, hte, h⟩ := optP_some h
  have hE' := hE.ty _ _ hte
  obtain ⟨hby, h⟩ := isT_true h
  obtain ⟨hpl, h⟩ := isT_true h
  rw [ble_iff] at hby
  split at h
  case h_2 => exact h.elim
  rename_i c hs0 hx hk
  obtain ⟨h1, h2, hK⟩ := h
  obtain ⟨k, rfl⟩ := Int.eq_ofNat_of_zero_le h1
  refine ⟨_, _, _, _, hK, fun S' hh1 hh2 ι a w hs => ?_⟩
  have e1 := rep_nil (hs0 ▸ ev_of hs hh1 (x := s) (by simp [hop]))
  have e2 := rep_v (hx ▸ ev_of hs hh1 (x := x) (by simp [hop]))
  have htu' : P.underlying ts = some (.slice (e + 1)) := by have := hT.und (by omega); rw [he] at this; exact this
  obtain ⟨i, hi, his, hib, hiz⟩ := hE'.info
  obtain ⟨base, cap, w', r0, r1, r2, r3, r4, r5, r6, r7, r8⟩ := run_append_zeros (P := P) w ts tx o.type (e + 1) i te.zero .i64 htu' (hU.int _ hk) hi hiz (by rw [his]; exact hE'.pos) .i64 k (by omega) (by omega)
  have hrun : (execOp a.eval o).run P w = .ok (.value (.slice base k cap)) w' := by
    rw [runs, Sem.run_bind, e1, e2, r0]
    rfl
  unfold Runs
  rw [hrun]
  have hd' : S' (.i n) = .junk := by rw [hh2 _ (by simp)]; exact hd
  have hreal : Real .rep (k : Int) (zrow te) = List.replicate k (zrow te) := by simp [Real]
  have hzl : (zrow te).length = te.size := by rw [← (zrow_rep (ι := fun _ => none) (ok := fun _ => True) (w := w) te).1]; exact hE'.zsize
  have hz := hE'.zsize
  obtain ⟨ι', q1, q2⟩ := hs.newArr (w' := w') hd' r1 r2 r3 r4 r5 (el := e + 1) (es := te.size) (cap := cap) (xs := List.replicate k (zrow te)) (base := base) (by simpa using r6)
    r7 (fun r hr => by rw [List.eq_of_mem_replicate hr]; exact hzl)
    (r8.imp id fun ⟨cur, z1, z2, z3, z4⟩ => ⟨cur, z1, z2, by rw [← hz]; exact z3, fun i r hi j c hj => by
      have hik : i < k := by have := (List.getElem?_eq_some_iff.1 hi).1; simpa using this
      have hr : r = zrow te := List.eq_of_mem_replicate (List.mem_of_getElem? hi)
      subst hr
      have hj' : j < te.size := by have := (List.getElem?_eq_some_iff.1 hj).1; omega
      have hlt : i * te.size + j < k * te.size := by
        have : (i + 1) * te.size ≤ k * te.size := Nat.mul_le_mul_right _ hik
        rw [Nat.add_mul] at this; omega
      obtain ⟨z5, z6⟩ := zrow_str (ok := okS Γ ι S' w) (w := w) te hpl
      refine ⟨_, by rw [z4 _ (by rw [hz]; exact hlt)]; exact madeCells_get _ _ _ (by rw [hz]; exact hlt) (by have := hE'.pos; omega), ?_⟩
      have hm : (i * te.size + j) % te.zero.cells.size = j := by
        rw [hz, Nat.mul_comm, Nat.mul_add_mod, Nat.mod_eq_of_lt hj']
      rw [hm]
      exact z6 j c hj⟩)
  rw [hreal]
  refine ⟨ι', q1, ?_⟩
  have e3 : (⟨true, base, cap, (List.replicate k (zrow te)).length, te.size, 0⟩ : Home).slice 0 (List.replicate k (zrow te)).length = .slice base k cap := by
    rcases r8 with ⟨z1, z2⟩ | ⟨cur, z1, _⟩
    · subst z1; subst z2
      have : k = 0 := by omega
      subst this
      simp [Home.slice]
    · subst z1; simp [Home.slice]
  rw [← e3]
  exact q2
theorem sound_append {c : Call} (hE : EnvOK P A E) (ho : o.op = .call c) (hc : c.callee = .builtin .append) (h : callV Real E c m n K) : Sound P Γ o m K := by
  simp only [callV, hc] at h
  unfold appV at h
  split at h
  · rename_i s x ts tx hax hat
    have hop : o.op.operands.toList = [s, x] := by rw [ho]; simp [Op.operands, Call.operands, hc, hax]
    have hargs : c.args = #[s, x] := by rw [← Array.toList_inj]; exact hax
    have hats : c.argTypes = #[ts, tx] := by rw [← Array.toList_inj]; exact hat
    split at h
    · exact sound_appZ hE hop (fun a => by simp [execOp, ho, resolve, hc, invoke, builtin, hargs, hats]) h
    rename_i htt
    rw [beq_iff] at htt
    subst htt
    obtain ⟨ti, ht, h⟩ := optP_some h
    have hT := hE.ty _ _ ht
    split at h
    · exact h.elim
    · rename_i e he
      obtain ⟨te, hte, h⟩ := optP_some h
      obtain ⟨hby, h⟩ := isT_true h
      rw [ble_iff] at hby
      obtain ⟨b, hb, h⟩ := optE_some h
      have hE' := hE.ty _ _ hte
      have runs : ∀ (a : Act) (w w' : World) (v : Value), (Builtin.append_ #[ts, ts] o.type #[a.eval s, a.eval x]).run P w = .ok v w' → (execOp a.eval o).run P w = .ok (.value v) w' := by
        intro a w w' v hr
        simp [execOp, ho, resolve, hc, invoke, builtin, hargs, hats, hr]
      split at h
      · rename_i hsn
        split at h
        · rename_i hd
          obtain ⟨hes, h⟩ := isT_true h
          obtain ⟨hfew, hK⟩ := h
          refine ⟨_, _, _, _, hK, fun S' h1 h2 ι a w hs => ?_⟩
          have hx := elems_src hs hb (fun k hk => h2 k (by simp [hk])) (ev_of hs h1 (x := x) (by simp [hop])) hes
          have hsv := rep_nil (hsn ▸ ev_of hs h1 (x := s) (by simp [hop]))
          have hA0 : ArrOK (okS Γ ι S' w) w ⟨true, none, 0, 0, te.size, 0⟩ (e + 1) te.size [] := ⟨rfl, rfl, Nat.zero_le _, by simp [maxLen], by simp, .inl ⟨rfl, rfl⟩⟩
          obtain ⟨h', w', hr, G⟩ := append_run (P := P) (ty := o.type) hT he (by omega) hE' hby (h := ⟨true, none, 0, 0, te.size, 0⟩) rfl hA0 hx (by simpa using hfew)
          simp only [List.nil_append] at hr G
          have hrun := runs a w w' _ (by rw [hsv]; exact hr)
          unfold Runs
          rw [hrun]
          have hold : ∀ k, k < w.heap.size → w'.heap[k]? = w.heap[k]? := fun k hk => G.same k hk fun g hg => by cases hg
          have hd' : S' (.i n) = .junk := by rw [h2 _ (by simp)]; exact hd
          obtain ⟨ι', q1, q2⟩ := hs.newArr hd' G.os G.tape G.output G.size hold (el := e + 1) (es := te.size) (cap := h'.cap) (xs := b.xs) (base := h'.base) G.cap G.most
            (by
              rcases hx with ⟨h0, _⟩ | ⟨_, _, _, _, _, hrow, _⟩
              · rw [h0]; simp
              · exact hrow)
            (by
              rcases G.row with ⟨g1, g2⟩ | ⟨g, cur, g1, g2, g3, g4, g5⟩
              · exact .inl ⟨g1, g2⟩
              · rcases g4 with g4 | g4
                · subst g4; exact .inr ⟨cur, g1, g2, g3, g5⟩
                · cases g4)
          refine ⟨ι', q1, ?_⟩
          have e : h'.slice 0 h'.len = (⟨true, h'.base, h'.cap, b.xs.length, te.size, 0⟩ : Home).slice 0 b.xs.length := by
            unfold Home.slice; rw [G.hes, ← G.len]
          rw [e]
          exact q2
        · exact h.elim
      · rename_i id g hso
        split at h
        · rename_i g' el es xs nn ha hi
          obtain ⟨hg, h⟩ := isT_true h
          obtain ⟨hel, h⟩ := isT_true h
          obtain ⟨hes0, h⟩ := isT_true h
          obtain ⟨hes, h⟩ := isT_true h
          obtain ⟨hfew, hK⟩ := h
          rw [beq_iff] at hg hel hes0
          subst hel; subst hes0; subst hg
          refine ⟨_, _, _, _, hK, fun S' h1 h2 ι a w hs => ?_⟩
          have hx := elems_src hs hb (fun k hk => h2 k (by simp [hk])) (ev_of hs h1 (x := x) (by simp [hop])) hes
          have ha' : S' (.a id) = .arr g (e + 1) te.size xs := by rw [h2 _ (by simp)]; exact ha
          have hi' : S' (.i id) = .inf true nn := by rw [h2 _ (by simp)]; exact hi
          obtain ⟨hm, e1, e2, hA⟩ := hs.arrs id _ _ _ _ ha'
          obtain ⟨hm', f1, f2, f3⟩ := rep_own (hso ▸ ev_of hs h1 (x := s) (by simp [hop]))
          rw [e1] at f1; cases f1
          have hsv := f3 e2.2.symm
          obtain ⟨h', w', hr, G⟩ := append_run (P := P) (ty := o.type) hT he (by omega) hE' hby e2.1 hA hx (by simpa [Real] using hfew)
          have hrun := runs a w w' _ (by rw [hsv]; exact hr)
          unfold Runs
          rw [hrun]
          generalize hS : upd [(Key.a id, PV.arr (g + 1) (e + 1) te.size (Real .app xs b.xs))] S' = S2
          have s_t : ∀ k, S2 (.t k) = S' (.t k) := fun k => by rw [← hS]; simp [upd_cons, upd_nil]
          have s_p : S2 .p = S' .p := by rw [← hS]; simp [upd_cons, upd_nil]
          have s_c : ∀ i off, S2 (.c i off) = S' (.c i off) := fun i off => by rw [← hS]; simp [upd_cons, upd_nil]
          have s_a : ∀ i, i ≠ id → S2 (.a i) = S' (.a i) := fun i hne => by rw [← hS]; simp [upd_cons, upd_nil, hne]
          have s_i : ∀ i, S2 (.i i) = S' (.i i) := fun i => by rw [← hS]; simp [upd_cons, upd_nil]
          have s_r : S2 (.a id) = .arr (g + 1) (e + 1) te.size (xs ++ b.xs) := by rw [← hS]; simp [upd_cons, Real]
          have T : Turn Γ ι S' a w id h' S2 w' := {
            sr := hs
            later := fun hm' hi => by rw [e1] at hi; cases hi; exact .inr ⟨e2.1, by rw [G.g]; omega⟩
            os := G.os, tape := G.tape, output := G.output, size := G.size
            same := fun k hk hne => G.same k hk fun g' hg' => hne hm _ nn e1 hg' hi'
            home := fun ad had => by
              rcases G.row with ⟨g1, _⟩ | ⟨g', cur, g1, g2, g3, g4, g5⟩
              · rw [g1] at had; cases had
              · rw [g1] at had; cases had
                refine ⟨rfl, (Array.getElem?_eq_some_iff.1 g2).1, fun k => by simp [World.frozen?, g2], ?_⟩
                rcases g4 with g4 | g4
                · exact .inl (by simp [g4])
                · exact .inr ⟨hm, _, e1, g4, rfl, fun q _ => ⟨nn, hi'⟩⟩
            tmps := s_t
            pin := s_p
            cels := fun i off _ => s_c i off
            arr := s_a
            inf := fun i _ => s_i i
            live := ⟨true, nn, by rw [s_i]; exact hi'⟩ }
          refine ⟨setH ι id h', SR.arrTurn T G.arr s_r (by rw [G.g, e2.2]) (fun off => s_c id off) ⟨G.hes, G.len, G.cap, G.most, ?_, ?_⟩, .own _ _ _ h' ?_ (by simp [setH]) (by rw [G.g]; omega) fun _ => rfl⟩
          · intro r hr'
            rcases List.mem_append.1 hr' with hr' | hr'
            · exact hA.rows r hr'
            · rcases hx with ⟨h0, _⟩ | ⟨_, _, _, _, _, hrow, _⟩
              · rw [h0] at hr'; cases hr'
              · exact hrow r hr'
          · rcases G.row with ⟨g1, g2⟩ | ⟨g', cur, g1, g2, g3, g4, g5⟩
            · exact .inl ⟨g1, g2⟩
            · exact .inr ⟨g', cur, g1, g2, g3, fun i r hi j c hj => let ⟨y, q1, q2, q3⟩ := g5 i r hi j c hj; ⟨y, q1, q2, T.repS q3⟩⟩
          · unfold Home.slice; split <;> exact ⟨_, _, _, rfl⟩
        · exact h.elim
      · exact h.elim
  · exact h.elim

end ops
end Go.Pi

/- Slices' literals, make, stores. -/
namespace Go.Pi
open Go
section ops
variable {P : Program} {Γ : Ctx} {E : Env} {o : Oper} {m : Mem} {n : Nat} {K : Kont} {A : World → Prop}

theorem sound_makeSlice {t : TypeId} {l c : Operand} (hE : EnvOK P A E) (ho : o.op = .makeSlice t l c) (h : opV Real E o.op m n K) : Sound P Γ o m K := by
  have hop : o.op.operands.toList = [l, c] := by rw [ho]; rfl
  rw [ho] at h
  simp only [opV] at h
  split at h
  · rename_i hd
    obtain ⟨ti, ht, h⟩ := optP_some h
    have hT := hE.ty _ _ ht
    split at h
    · exact h.elim
    · rename_i e he
      obtain ⟨te, hte, h⟩ := optP_some h
      have hE' := hE.ty _ _ hte
      obtain ⟨hby, h⟩ := isT_true h
      obtain ⟨hpl, h⟩ := isT_true h
      rw [ble_iff] at hby
      split at h
      · rename_i lv cv hl hc
        obtain ⟨h1, h2, h3, h4, hK⟩ := h
        have hlc : lv = cv := by omega
        subst hlc
        obtain ⟨k, rfl⟩ := Int.eq_ofNat_of_zero_le h3
        refine ⟨_, _, _, _, hK, fun S' hh1 hh2 ι a w hs => ?_⟩
        have e1 := rep_v (hl ▸ ev_of hs hh1 (x := l) (by simp [hop]))
        have e2 := rep_v (hc ▸ ev_of hs hh1 (x := c) (by simp [hop]))
        have htu : P.underlying t = some (.slice (e + 1)) := by have := hT.und (by omega); rw [he] at this; exact this
        obtain ⟨i, hi, his, hib, hiz⟩ := hE'.info
        have hb : (i.bytes : Int) * (k : Int) ≤ 281474976710656 := by
          have hk : k ≤ 2147483648 := by omega
          have := Nat.mul_le_mul (show i.bytes ≤ 4096 by omega) hk
          have e : ((i.bytes * k : Nat) : Int) = (i.bytes : Int) * (k : Int) := by simp
          rw [← e]; omega
        have hrun : (execOp a.eval o).run P w = .ok (.value (.slice (some ⟨w.heap.size, 0, none⟩) k k)) (w.alloc (.cells (madeCells te.zero.cells (k * te.size)) (e + 1))) := by
          have := run_make (P := P) w t (e + 1) i te.zero htu hi hiz .i64 .i64 (k : Int) (k : Int) (by omega) (by omega) hb (by omega)
          simp only [Int.toNat_natCast, his] at this
          simp [execOp, ho, e1, e2, this]
        unfold Runs
        rw [hrun]
        have hd' : S' (.i n) = .junk := by rw [hh2 _ (by simp)]; exact hd
        have e9 : (9223372036854775807 : Nat) = maxLen := rfl
        have hreal : Real .rep (k : Int) (zrow te) = List.replicate k (zrow te) := by simp [Real]
        have hzl : (zrow te).length = te.size := by rw [← (zrow_rep (ι := fun _ => none) (ok := fun _ => True) (w := w) te).1]; exact hE'.zsize
        obtain ⟨ι', q1, q2⟩ := hs.newArr (w' := w.alloc (.cells (madeCells te.zero.cells (k * te.size)) (e + 1))) hd' rfl rfl rfl (by simp) (fun j hj => heap_alloc_old w _ j hj) (el := e + 1) (es := te.size) (cap := k) (xs := List.replicate k (zrow te)) (base := some ⟨w.heap.size, 0, none⟩) (by simp)
          (by rw [← e9]; omega) (fun r hr => by rw [List.eq_of_mem_replicate hr]; exact hzl)
          (.inr ⟨_, rfl, heap_alloc_new w _, size_madeCells _ _, fun i r hi j c hj => by
            have hik : i < k := by have := (List.getElem?_eq_some_iff.1 hi).1; simpa using this
            have hr : r = zrow te := List.eq_of_mem_replicate (List.mem_of_getElem? hi)
            subst hr
            have hj' : j < te.size := by have := (List.getElem?_eq_some_iff.1 hj).1; omega
            have hlt : i * te.size + j < k * te.size := by
              have : (i + 1) * te.size ≤ k * te.size := Nat.mul_le_mul_right _ hik
              rw [Nat.add_mul] at this; omega
            have hz := hE'.zsize
            obtain ⟨z1, z2⟩ := zrow_str (ok := okS Γ ι S' w) (w := w) te hpl
            refine ⟨_, madeCells_get _ _ _ hlt (by have := hE'.pos; omega), ?_⟩
            have hm : (i * te.size + j) % te.zero.cells.size = j := by
              rw [hz, Nat.mul_comm, Nat.mul_add_mod, Nat.mod_eq_of_lt hj']
            rw [hm]
            exact z2 j c hj⟩)
        rw [hreal]
        refine ⟨ι', q1, ?_⟩
        simpa [Home.slice] using q2
      · exact h.elim
  · exact h.elim


/-! ### A slice's literal -/
theorem setRow_get : ∀ (l : List (List PV)) (i : Nat) (x : List PV) (j : Nat), i < l.length → (setRow l i x)[j]? = if j = i then some x else l[j]?
  | [], i, x, j, h => by simp at h
  | y :: r, 0, x, j, _ => by cases j <;> simp [setRow]
  | y :: r, i + 1, x, j, h => by
    cases j with
    | zero => simp [setRow]
    | succ j =>
      simp only [setRow, List.getElem?_cons_succ]
      rw [setRow_get r i x j (by simpa using h)]
      simp
theorem setRow_len : ∀ (l : List (List PV)) (i : Nat) (x : List PV), (setRow l i x).length = l.length
  | [], _, _ => rfl
  | _ :: _, 0, _ => rfl
  | _ :: r, i + 1, x => by simp [setRow, setRow_len r i x]
theorem zrows_eq (z : List PV) : ∀ n, zrows z n = List.replicate n z
  | 0 => rfl
  | n + 1 => by simp [zrows, zrows_eq z n, List.replicate_succ]

theorem fillR_live {size len : Nat} : ∀ (parts : List (Nat × Operand)) (R R' : Rows), fillR m size len parts R = some R' → (∀ id ∈ R.ids, Key.i id ∈ R.rd) → (∀ id ∈ R'.ids, Key.i id ∈ R'.rd) ∧ (∀ k ∈ R.rd, k ∈ R'.rd)
  | [], R, R', h, hl => by simp only [fillR, Option.some.injEq] at h; subst h; exact ⟨hl, fun _ h => h⟩
  | (i, x) :: r, R, R', h, hl => by
    simp only [fillR] at h
    split at h
    · split at h
      · split at h
        · split at h
          · rename_i B hB
            split at h
            · obtain ⟨h1, h2⟩ := fillR_live r _ R' h (fun id hid => by
                simp only [napp_eq, kapp_eq, List.mem_append] at hid ⊢
                exact hid.imp ((tells_live (tell_live m depth) _ _ hB).2 id) (hl id))
              exact ⟨h1, fun k hk => h2 k (by simp [kapp_eq, hk])⟩
            · cases h
          · cases h
        · cases h
      · cases h
    · cases h

theorem fillR_rd {size len : Nat} : ∀ (parts : List (Nat × Operand)) (R R' : Rows), fillR m size len parts R = some R' → ∀ k ∈ R.rd, k ∈ R'.rd
  | [], R, R', h => by simp only [fillR, Option.some.injEq] at h; subst h; exact fun _ h => h
  | (i, x) :: r, R, R', h => by
    simp only [fillR] at h
    split at h
    · split at h
      · split at h
        · split at h
          · split at h
            · exact fun k hk => fillR_rd r _ R' h k (by simp [kapp_eq, hk])
            · cases h
          · cases h
        · cases h
      · cases h
    · cases h

theorem fillR_rep {ι S' a w} (hs : SR Γ ι S' a w) {size len : Nat} : ∀ (parts : List (Nat × Operand)) (R R' : Rows) (cells : Array Value), fillR m size len parts R = some R' →
    (∀ x ∈ parts, RepT ι (okS Γ ι S' w) w (a.eval x.2) (ev m x.2)) → (∀ k ∈ R'.rd, S' k = toS m k) →
    cells.size = len * size → R.rows.length = len → (∀ r ∈ R.rows, r.length = size) → RowsRep (okI Γ ι S' w R.ids) w cells size R.rows →
    ∃ cells', Instr.fill (fun i => some (i * size, size)) cells (parts.map fun x => (x.1, a.eval x.2)) = some cells' ∧ cells'.size = len * size ∧ R'.rows.length = len ∧ (∀ r ∈ R'.rows, r.length = size) ∧ RowsRep (okI Γ ι S' w R'.ids) w cells' size R'.rows
  | [], R, R', cells, h, _, _, h1, h2, h3, h4 => by
    simp only [fillR, Option.some.injEq] at h; subst h
    exact ⟨cells, rfl, h1, h2, h3, h4⟩
  | (i, x) :: r, R, R', cells, h, hx, hrd, h1, h2, h3, h4 => by
    simp only [fillR] at h
    split at h
    · rename_i hi
      split at h
      · rename_i ws hws
        split at h
        · rename_i hw
          split at h
          · rename_i B hB
            split at h
            · rename_i hpl
              rw [ble_iff] at hi
              rw [beq_iff, plen_eq] at hw
              have hsub := fillR_rd r _ R' h
              have hwr := cellsOf_rep (hx (i, x) (by simp)) hws
              have hBl := (tells_live (tell_live m depth) _ _ hB).1
              have hBr := tells_rep hs (fun x p T q1 q2 q3 => tell_rep hs depth x p T q1 q2 q3) _ _ hB fun k hk => hrd k (hsub k (by simp [kapp_eq, hk]))
              have hcs : (a.eval x).cells.size = size := by have := hwr.1; simp only at this; omega
              have hle : i * size + size ≤ cells.size := by
                rw [h1]
                have := Nat.mul_le_mul_right size hi
                rw [Nat.add_mul] at this; omega
              have hz := fun k => zip_fold_get (i * size) (a.eval x).cells.toList 0 cells k (by simp; omega)
              obtain ⟨cells', q1, q2⟩ := fillR_rep hs r _ R' ((a.eval x).cells.zipIdx.foldl (fun cs (c, j) => cs.setIfInBounds (i * size + j) c) cells) h (fun y hy => hx y (by simp [hy])) hrd (by
                  rw [← Array.foldl_toList]; simp only [Array.toList_zipIdx]; rw [(hz 0).1]; exact h1) (by simp [setRow_len, h2]) (fun r' hr' => by
                  obtain ⟨k, hk⟩ := List.getElem?_of_mem hr'
                  rw [setRow_get _ _ _ _ (by omega)] at hk
                  split at hk
                  · simp only [Option.some.injEq] at hk; rw [← hk, hBl]; exact hw
                  · exact h3 r' (List.mem_of_getElem? hk)) (by
                  intro k r' hk j c hj
                  rw [setRow_get _ _ _ _ (by omega)] at hk
                  have hv := (hz (k * size + j)).2
                  simp only [Nat.add_zero, Array.length_toList, hcs] at hv
                  have ecells : ((a.eval x).cells.zipIdx.foldl (fun (cs : Array Value) (c, j) => cs.setIfInBounds (i * size + j) c) cells)[k * size + j]? = if i * size ≤ k * size + j ∧ k * size + j < i * size + size then (a.eval x).cells.toList[k * size + j - i * size]? else cells[k * size + j]? := by
                    rw [← Array.foldl_toList]; simp only [Array.toList_zipIdx]; exact hv
                  rw [ecells]
                  by_cases hki : k = i
                  · subst hki
                    simp only [if_pos, Option.some.injEq] at hk
                    subst hk
                    have hj' : j < size := by have := (List.getElem?_eq_some_iff.1 hj).1; omega
                    rw [if_pos (by omega), show k * size + j - k * size = j from by omega]
                    obtain ⟨p, hp, hr⟩ := hBr j c hj
                    have hrep := hr _ (hwr.2 j p hp)
                    have hjs : j < (a.eval x).cells.size := by omega
                    refine ⟨(a.eval x).cells.getD j undef, by simp [Array.getD_eq_getD_getElem?, hjs], plain_struct (ι := fun _ => none) hrep (plains_mem hpl c (List.mem_of_getElem? hj)), hrep.mono (okI.mono fun q hq => by simp [napp_eq, hq]) fun _ _ _ _ e => e⟩
                  · rw [if_neg hki] at hk
                    have hj' : j < size := by have := (List.getElem?_eq_some_iff.1 hj).1; rw [h3 r' (List.mem_of_getElem? hk)] at this; exact this
                    rw [if_neg (by
                      rcases Nat.lt_or_gt_of_ne hki with hlt | hgt
                      · have := Nat.mul_le_mul_right size (show k + 1 ≤ i from hlt); rw [Nat.add_mul] at this; omega
                      · have := Nat.mul_le_mul_right size (show i + 1 ≤ k from hgt); rw [Nat.add_mul] at this; omega)]
                    obtain ⟨y, e1, e2, e3⟩ := h4 k r' hk j c hj
                    exact ⟨y, e1, e2, e3.mono (okI.mono fun q hq => by simp [napp_eq, hq]) fun _ _ _ _ e => e⟩)
              refine ⟨cells', ?_, q2⟩
              simp only [List.map_cons, Instr.fill]
              rw [if_neg (by simp; omega)]
              exact q1
            · cases h
          · cases h
        · cases h
      · cases h
    · cases h

theorem sound_buildSlice {t : TypeId} {len : Nat} {parts : Array (Nat × Operand)} (hE : EnvOK P A E) (ho : o.op = .buildSlice t len parts) (h : opV Real E o.op m n K) : Sound P Γ o m K := by
  have hop : o.op.operands.toList = parts.toList.map (·.2) := by rw [ho]; simp [Op.operands]
  rw [ho] at h
  simp only [opV] at h
  split at h
  · rename_i hd
    obtain ⟨ti, ht, h⟩ := optP_some h
    have hT := hE.ty _ _ ht
    split at h
    · exact h.elim
    · rename_i e he
      obtain ⟨te, hte, h⟩ := optP_some h
      have hE' := hE.ty _ _ hte
      obtain ⟨hby, h⟩ := isT_true h
      obtain ⟨hpl, h⟩ := isT_true h
      obtain ⟨R, hR, hK⟩ := optP_some h
      rw [ble_iff] at hby
      refine ⟨_, _, _, _, hK, fun S' h1 h2 ι a w hs => ?_⟩
      have hzl : (zrow te).length = te.size := by rw [← (zrow_rep (ι := fun _ => none) (ok := fun _ => True) (w := w) te).1]; exact hE'.zsize
      have hz := hE'.zsize
      have hpos := hE'.pos
      have hlive := (fillR_live _ _ _ hR (by simp)).1
      obtain ⟨z1, z2⟩ := zrow_str (ok := okI Γ ι S' w []) (w := w) te hpl
      obtain ⟨cells, q1, q2, q3, q4, q5⟩ := fillR_rep hs parts.toList ⟨zrows (zrow te) len, [], []⟩ R (madeCells te.zero.cells (len * te.size)) hR (fun x hx => ev_of hs h1 (x := x.2) (by rw [hop]; exact List.mem_map.2 ⟨x, hx, rfl⟩))
        (fun k hk => h2 k (by simp [hk])) (size_madeCells _ _) (by simp [zrows_eq]) (fun r hr => by simp only [zrows_eq] at hr; rw [List.eq_of_mem_replicate hr]; exact hzl) (by
          intro i r hi j c hj
          simp only [zrows_eq] at hi
          have hik : i < len := by have := (List.getElem?_eq_some_iff.1 hi).1; simpa using this
          have hr : r = zrow te := List.eq_of_mem_replicate (List.mem_of_getElem? hi)
          subst hr
          have hj' : j < te.size := by have := (List.getElem?_eq_some_iff.1 hj).1; omega
          have hlt : i * te.size + j < len * te.size := by
            have : (i + 1) * te.size ≤ len * te.size := Nat.mul_le_mul_right _ hik
            rw [Nat.add_mul] at this; omega
          refine ⟨_, madeCells_get _ _ _ hlt (by omega), ?_⟩
          have hm : (i * te.size + j) % te.zero.cells.size = j := by rw [hz, Nat.mul_comm, Nat.mul_add_mod, Nat.mod_eq_of_lt hj']
          rw [hm]
          exact z2 j c hj)
      have hrun : (execOp a.eval o).run P w = .ok (.value (.slice (some ⟨w.heap.size, 0, none⟩) len len)) { w with heap := w.heap.push (.cells cells (e + 1)) } := by
        have u1 := hT.elem (by omega) w
        rw [he] at u1
        have u2 := hE'.size w
        have u3 := hE'.zero w
        have e1 : (parts.map fun x => (x.1, a.eval x.2)).toList = parts.toList.map fun x => (x.1, a.eval x.2) := by simp
        by_cases h0 : len * te.size = 0
        · have er : ∀ (f : Nat → Value), Array.map f (Array.range 0) = #[] := fun f => Array.eq_empty_of_size_eq_zero (by simp)
          unfold madeCells at q1
          rw [h0, er] at q1
          simp only [execOp, ho, Instr.buildSlice, Sem.run_bind, u1, u2, Result.andThen_ok, h0, if_true, Sem.run_pure, e1, er]
          simp only [show ¬ (2 ^ 24 < 0) from by omega, gt_iff_lt, if_false, Sem.run_pure, Result.andThen_ok]
          rw [q1]
          simp [newRow]
        · have hle : ¬ (2 ^ 24 < len * te.size) := by omega
          simp only [execOp, ho, Instr.buildSlice, Sem.run_bind, u1, u2, u3, Result.andThen_ok, h0, if_false, hle, gt_iff_lt, Sem.run_pure, e1]
          unfold madeCells at q1
          rw [q1]
          simp [newRow]
      unfold Runs
      rw [hrun]
      have hids : ∀ id ∈ R.ids, S' (.i id) = lk m (.i id) := fun id hid => h2 _ (by simp [hlive id hid])
      have hs1 := hs.ice _ hids
      have hd' : upd (ice m R.ids) S' (.i n) = .junk := by
        rw [ice_spec]
        have : S' (.i n) = .junk := by rw [h2 _ (by simp)]; exact hd
        simp only [this, hd]
        split <;> rfl
      have e9 : (9223372036854775807 : Nat) = maxLen := rfl
      obtain ⟨ι', p1, p2⟩ := hs1.newArr (w' := { w with heap := w.heap.push (.cells cells (e + 1)) }) hd' rfl rfl rfl (by simp) (fun j hj => push_get w _ j hj) (el := e + 1) (es := te.size) (cap := len) (xs := R.rows) (base := some ⟨w.heap.size, 0, none⟩) (by omega)
        (by
          have : len ≤ len * te.size := Nat.le_mul_of_pos_right _ hpos
          rw [← e9]; omega) q4
        (.inr ⟨cells, rfl, by simp, q2, fun i r hi j c hj => let ⟨y, f1, f2, f3⟩ := q5 i r hi j c hj; ⟨y, f1, f2, f3.mono (fun b hb => ok_ice hs hids b hb) fun _ _ _ _ e => e⟩⟩)
      refine ⟨ι', ?_, ?_⟩
      · rw [show (Key.i n, PV.inf true 0) :: (Key.a n, PV.arr 0 (e + 1) te.size R.rows) :: ice m R.ids = [(Key.i n, PV.inf true 0), (Key.a n, PV.arr 0 (e + 1) te.size R.rows)] ++ ice m R.ids from rfl, upd_append]
        exact p1
      · rw [show (Key.i n, PV.inf true 0) :: (Key.a n, PV.arr 0 (e + 1) te.size R.rows) :: ice m R.ids = [(Key.i n, PV.inf true 0), (Key.a n, PV.arr 0 (e + 1) te.size R.rows)] ++ ice m R.ids from rfl, upd_append]
        simpa [Home.slice, q3] using p2
  · exact h.elim

end ops
end Go.Pi

/- Stores. -/
namespace Go.Pi
open Go
section ops
variable {P : Program} {Γ : Ctx} {E : Env} {o : Oper} {m : Mem} {n : Nat} {K : Kont} {A : World → Prop}

structure Stored (w w' : World) (b o : Nat) (l : List Value) : Prop where
  os : w'.os = w.os
  tape : w'.tape = w.tape
  output : w'.output = w.output
  size : w'.heap.size = w.heap.size
  other : ∀ k, k ≠ b → w'.heap[k]? = w.heap[k]?
  free : ∀ k, w'.frozen? ⟨b, k, none⟩ = false
  cell : ∀ k, w'.cell? ⟨b, k, none⟩ = if o ≤ k ∧ k < o + l.length then l[k - o]? else w.cell? ⟨b, k, none⟩
  row : ∀ cur el, w.heap[b]? = some (.cells cur el (0, 0)) → ∃ cur', w'.heap[b]? = some (.cells cur' el (0, 0)) ∧ cur'.size = cur.size

theorem store_cells (b o : Nat) : ∀ (l : List Value) (i : Nat) (w : World), (∀ v ∈ l, v.oneCell' = true) → (∀ j, j < l.length → ∃ y, w.cell? ⟨b, o + i + j, none⟩ = some y) → (∀ k, w.frozen? ⟨b, k, none⟩ = false) →
    ∃ w', (storeCells ⟨b, o, none⟩ l i).run P w = .ok () w' ∧ Stored w w' b (o + i) l
  | [], i, w, _, _, hf => ⟨w, rfl, ⟨rfl, rfl, rfl, rfl, fun _ _ => rfl, hf, fun k => by simp; intro h1 h2; omega, fun cur el h => ⟨cur, h, rfl⟩⟩⟩
  | v :: r, i, w, h1, hc, hf => by
    obtain ⟨y, hy⟩ := hc 0 (by simp)
    simp only [Nat.add_zero] at hy
    have hs := run_store P w ⟨b, o + i, none⟩ v .plain (h1 v (by simp))
    rw [hy] at hs
    simp only [hf] at hs
    have hset : ∀ k, (w.setCell ⟨b, o + i, none⟩ v).cell? ⟨b, k, none⟩ = if k = o + i then some v else w.cell? ⟨b, k, none⟩ := fun k => by
      by_cases e : k = o + i
      · subst e; rw [if_pos rfl]; exact World.cell?_setCell_same w _ v hy
      · rw [if_neg e]
        apply World.cell?_setCell_other
        intro h; cases h; exact e rfl
    obtain ⟨w', q1, q2⟩ := store_cells b o r (i + 1) (w.setCell ⟨b, o + i, none⟩ v) (fun u hu => h1 u (by simp [hu])) (fun j hj => by
        obtain ⟨z, hz⟩ := hc (j + 1) (by simp; omega)
        rw [hset]
        split
        · exact ⟨_, rfl⟩
        · exact ⟨z, by rw [← hz]; congr 2; omega⟩) (fun k => by rw [World.frozen?_setCell]; exact hf k)
    refine ⟨w', ?_, ?_⟩
    · simp only [storeCells, addr_add, Sem.run_bind, hs]
      simpa using q1
    · exact {
        os := q2.os, tape := q2.tape, output := q2.output
        size := by rw [q2.size]; simp
        other := fun k hk => by
          rw [q2.other k hk]
          simp only [World.setCell, Array.getElem?_modify]
          rw [if_neg (by omega)]
        free := q2.free
        cell := fun k => by
          rw [q2.cell, hset]
          simp only [List.length_cons]
          by_cases e : k = o + i
          · subst e
            rw [if_neg (by omega), if_pos rfl, if_pos (by omega)]
            simp
          · by_cases h : o + (i + 1) ≤ k ∧ k < o + (i + 1) + r.length
            · rw [if_pos h, if_pos (by omega), show k - (o + i) = (k - (o + (i + 1))) + 1 from by omega]
              simp
            · rw [if_neg h, if_neg e, if_neg (by omega)]
        row := fun cur el hcur => by
          have : (w.setCell ⟨b, o + i, none⟩ v).heap[b]? = some (.cells (cur.setIfInBounds (o + i) v) el (0, 0)) := by
            simp only [World.setCell, Array.getElem?_modify, hcur]
            simp
          obtain ⟨cur', f1, f2⟩ := q2.row _ _ this
          exact ⟨cur', f1, by rw [f2]; simp⟩ }

theorem store_run {t : TypeId} {ti : TI} (hT : TyOK P t ti) {w : World} {b o : Nat} {v : Value} (hsz : v.cells.size = ti.size) (h1 : ∀ u ∈ v.cells.toList, u.oneCell' = true)
    (hc : ∀ j, j < ti.size → ∃ y, w.cell? ⟨b, o + j, none⟩ = some y) (hf : ∀ k, w.frozen? ⟨b, k, none⟩ = false) :
    ∃ w', (Instr.storeAt t (.pointer (some ⟨b, o, none⟩)) v).run P w = .ok () w' ∧ Stored w w' b o v.cells.toList := by
  obtain ⟨w', q1, q2⟩ := store_cells (P := P) b o v.cells.toList 0 w h1 (fun j hj => by
    obtain ⟨y, hy⟩ := hc j (by simp at hj; omega)
    exact ⟨y, by simpa using hy⟩) hf
  refine ⟨w', ?_, by simpa using q2⟩
  have hs := hT.size w
  simp [Instr.storeAt, Instr.sureAddr, storeVar, hs, hsz, q1]

theorem ldBox_known {id : Nat} : ∀ (k off : Nat), known (ldBox m id off k) = true → ∀ j, j < k → lk m (.c id (off + j)) ≠ .junk := fun k off h j hj =>
  known_get h _ (List.mem_of_getElem? (ldBox_get m id k off j hj))

theorem nmem_not {id : Nat} : ∀ {l : List Nat}, nmem id l = true → id ∉ l
  | [], _ => by simp
  | x :: r, h => by
    simp only [nmem] at h
    split at h
    · cases h
    · rename_i hx
      intro hm
      rcases List.mem_cons.1 hm with rfl | hm
      · simp at hx
      · exact nmem_not h hm

theorem sound_store {t : TypeId} {x y : Operand} (hE : EnvOK P A E) (ho : o.op = .store t x y) (h : opV Real E o.op m n K) : Sound P Γ o m K := by
  have hop : o.op.operands.toList = [x, y] := by rw [ho]; rfl
  rw [ho] at h
  simp only [opV] at h
  obtain ⟨ti, ht, h⟩ := optP_some h
  obtain ⟨ws, hws, h⟩ := optP_some h
  obtain ⟨hwl, h⟩ := isT_true h
  obtain ⟨hcl, h⟩ := isT_true h
  rw [beq_iff, plen_eq] at hwl
  have hT := hE.ty _ _ ht
  -- what is stored
  have hv : ∀ {S' ι a w}, SR Γ ι S' a w → (∀ k ∈ opnds o.op.operands.toList, S' k = toS m k) → (a.eval y).cells.size = ti.size ∧ (∀ u ∈ (a.eval y).cells.toList, u.oneCell' = true) ∧ ∀ (i : Nat) c, ws[i]? = some c → RepT ι (okS Γ ι S' w) w ((a.eval y).cells.getD i undef) c := by
    intro S' ι a w hs h1
    obtain ⟨e1, e2⟩ := cellsOf_rep (ev_of hs h1 (x := y) (by simp [hop])) hws
    refine ⟨by omega, fun u hu => ?_, e2⟩
    obtain ⟨i, hi⟩ := List.getElem?_of_mem hu
    have hlt : i < ws.length := by have := (List.getElem?_eq_some_iff.1 hi).1; simp at this; omega
    have := e2 i _ (List.getElem?_eq_getElem hlt)
    have hg : (a.eval y).cells.getD i undef = u := by
      simp only [Array.getD_eq_getD_getElem?]
      rw [show (a.eval y).cells[i]? = some u from by simpa using hi]; rfl
    rw [hg] at this
    exact cel_one this (cels_mem hcl _ (List.getElem_mem hlt))
  split at h
  · rename_i id off hx
    split at h
    · rename_i kk hi
      obtain ⟨hle, h⟩ := isT_true h
      obtain ⟨hkn, hK⟩ := isT_true h
      refine ⟨_, _, _, _, hK, fun S' h1 h2 ι a w hs => ?_⟩
      rw [plen_eq] at hkn h2
      obtain ⟨b, o', e1, ⟨hm, ob, e2, e3, e4, e5⟩, e6⟩ := box_cells hs (hx ▸ ev_of hs h1 (x := x) (by simp [hop])) hkn (fun j hj => h2 _ (by simp [boxKeys_mem id _ _ j hj]))
      obtain ⟨v1, v2, v3⟩ := hv hs h1
      have hpos := hT.pos
      have cellOK : ∀ j, j < ti.size → ∃ y, w.cell? ⟨b, o' + j, none⟩ = some y := fun j hj => by
        obtain ⟨y, q1, _⟩ := e6 j _ (ldBox_get m id ws.length off j (by omega))
        exact ⟨y, q1⟩
      have hfz := (hs.own id hm _ e2 e4).2.2.2
      obtain ⟨w', r1, r2⟩ := store_run (P := P) hT v1 v2 cellOK hfz
      have hrun : (execOp a.eval o).run P w = .ok .skip w' := by
        simp [execOp, ho, e1, r1]
      unfold Runs
      rw [hrun]
      have hi' : S' (.i id) = .inf true kk := by rw [h2 _ (by simp)]; exact hi
      generalize hS : upd (celW id off ws) S' = S2
      have s_t : ∀ k, S2 (.t k) = S' (.t k) := fun k => by rw [← hS, celW_spec]
      have s_p : S2 .p = S' .p := by rw [← hS, celW_spec]
      have s_c : ∀ i off', i ≠ id → S2 (.c i off') = S' (.c i off') := fun i off' hne => by rw [← hS, celW_spec]; simp [hne]
      have s_d : ∀ off', S2 (.c id off') = if off ≤ off' ∧ off' < off + ws.length then ws.getD (off' - off) .junk else S' (.c id off') := fun off' => by rw [← hS, celW_spec]; simp
      have s_a : ∀ i, S2 (.a i) = S' (.a i) := fun i => by rw [← hS, celW_spec]
      have s_i : ∀ i, S2 (.i i) = S' (.i i) := fun i => by rw [← hS, celW_spec]
      have T : Turn Γ ι S' a w id hm S2 w' := {
        sr := hs
        later := fun hm' hq => by rw [e2] at hq; cases hq; exact .refl _
        os := r2.os, tape := r2.tape, output := r2.output, size := by rw [r2.size]; exact Nat.le_refl _
        same := fun k _ hne => r2.other k (hne hm _ kk e2 e4 hi')
        home := fun ad had => by
          rw [e4] at had; cases had
          exact ⟨rfl, by rw [r2.size]; exact (hs.own id hm _ e2 e4).2.1, r2.free, .inr ⟨hm, _, e2, e4, rfl, fun q _ => ⟨kk, hi'⟩⟩⟩
        tmps := s_t
        pin := s_p
        cels := s_c
        arr := fun i _ => s_a i
        inf := fun i _ => s_i i
        live := ⟨true, kk, by rw [s_i]; exact hi'⟩ }
      refine ⟨setH ι id hm, T.done (fun off' hne => ?_) (fun g el es xs q => ?_) fun q hq => ?_, .junk _⟩
      · refine ⟨e3, b, ob, ?_⟩
        rw [s_d] at hne ⊢
        by_cases hr : off ≤ off' ∧ off' < off + ws.length
        · rw [if_pos hr] at hne ⊢
          have hlt : off' - off < ws.length := by omega
          have hw : ws[off' - off]? = some (ws.getD (off' - off) .junk) := by simp [hlt]
          have hrep := v3 _ _ hw
          refine ⟨(a.eval y).cells.getD (off' - off) undef, e4, ?_, cel_one hrep (cels_mem hcl _ (List.mem_of_getElem? hw)), T.repT hrep⟩
          rw [r2.cell, if_pos (by simp; omega)]
          have : ob + off' - o' = off' - off := by omega
          rw [this]
          have hlt' : off' - off < (a.eval y).cells.size := by omega
          simp [Array.getD_eq_getD_getElem?, hlt']
        · rw [if_neg hr] at hne ⊢
          obtain ⟨hh, b2, o2, z, f1, f2, f3, f4, f5, f6⟩ := hs.cells id off' hne
          rw [e2] at f1; cases f1
          rw [e4] at f3; cases f3
          refine ⟨z, e4, ?_, f5, T.repT f6⟩
          rw [r2.cell, if_neg (by simp; omega)]
          exact f4
      · rw [s_a] at q
        obtain ⟨hh, f1, f2, _⟩ := hs.arrs id g el es xs q
        rw [e2] at f1; cases f1
        rw [e3] at f2; cases f2.1
      · rw [s_a] at hq
        obtain ⟨hh, b2, f1, f2, f3, f4, f5⟩ := hs.objs id q hq
        rw [e2] at f1; cases f1
        rw [e4] at f3; cases f3
        exfalso
        obtain ⟨z, hz⟩ := cellOK 0 hpos
        simp only [World.cell?, f4] at hz
        cases q <;> simp at hz
        exact f5 _ _ _ rfl
    · exact h.elim
  · rename_i id g i off hx
    split at h
    · rename_i g' el es xs nn ha hi
      obtain ⟨hg, h⟩ := isT_true h
      obtain ⟨hle, h⟩ := isT_true h
      obtain ⟨B, hB, h⟩ := optP_some h
      obtain ⟨hnm, h⟩ := isT_true h
      obtain ⟨hpl, h⟩ := isT_true h
      obtain ⟨cs, h0, hcs, hK⟩ := h
      rw [beq_iff] at hg
      rw [ble_iff, plen_eq] at hle
      subst hg
      refine ⟨_, _, _, _, hK, fun S' h1 h2 ι a w hs => ?_⟩
      obtain ⟨v1, v2, v3⟩ := hv hs h1
      have hBl := (tells_live (tell_live m depth) _ _ hB).1
      have hBi := (tells_live (tell_live m depth) _ _ hB).2
      have hBr := tells_rep hs (fun x p T q1 q2 q3 => tell_rep hs depth x p T q1 q2 q3) _ _ hB fun k hk => h2 k (by simp [hk])
      have ha' : S' (.a id) = .arr g el es xs := by rw [h2 _ (by simp)]; exact ha
      have hi' : S' (.i id) = .inf true nn := by rw [h2 _ (by simp)]; exact hi
      obtain ⟨hm, e1, e2, hA⟩ := hs.arrs id _ _ _ _ ha'
      obtain ⟨hm', f1, f2, f3⟩ := rep_eptr (hx ▸ ev_of hs h1 (x := x) (by simp [hop]))
      rw [e1] at f1; cases f1
      obtain ⟨b, ob, hb, hax⟩ := f3 e2.2.symm
      rcases hA.row with ⟨hn, _⟩ | ⟨gb, cur, hb', hcur, hsz, hrep⟩
      · rw [hn] at hb; cases hb
      · rw [hb] at hb'; cases hb'
        have hil : i.toNat < xs.length := (List.getElem?_eq_some_iff.1 hcs).1
        have hcl2 : cs.length = es := hA.rows _ (List.mem_of_getElem? hcs)
        have hlt : i.toNat * es + es ≤ cur.size := by
          rw [hsz]
          have : (i.toNat + 1) * es ≤ hm.cap * es := Nat.mul_le_mul_right _ (by have := hA.cap; omega)
          rw [Nat.add_mul] at this; omega
        have hfz := (hs.own id hm _ e1 hb).2.2.2
        obtain ⟨w', r1, r2⟩ := store_run (P := P) (o := 0 + (i.toNat * hm.es + off)) hT v1 v2 (fun j hj => by
            rw [hA.hes]
            have : 0 + (i.toNat * es + off) + j < cur.size := by omega
            exact ⟨cur[0 + (i.toNat * es + off) + j], by simp only [World.cell?, hcur]; simp⟩) hfz
        have hrun : (execOp a.eval o).run P w = .ok .skip w' := by
          simp only [execOp, ho, hax, Sem.run_bind, r1, Result.andThen_ok, Sem.run_pure]
        unfold Runs
        rw [hrun]
        have hids : ∀ q ∈ B.ids, S' (.i q) = lk m (.i q) := fun q hq => h2 _ (by simp [hBi q hq])
        have hs1 := hs.ice _ hids
        generalize hS1 : upd (ice m B.ids) S' = S1 at hs1
        have s1_a : ∀ q, S1 (.a q) = S' (.a q) := fun q => by rw [← hS1, ice_spec]
        have s1_c : ∀ q off, S1 (.c q off) = S' (.c q off) := fun q off => by rw [← hS1, ice_spec]
        have s1_i : S1 (.i id) = .inf true nn := by
          rw [← hS1, ice_spec]
          simp only [if_neg (nmem_not hnm)]
          exact hi'
        have okold : ∀ q, okS Γ ι S' w q → okS Γ ι S1 w q := fun q hq => by rw [← hS1]; exact ok_ice hs hids q (.inl hq)
        rw [show (Key.a id, PV.arr g el es (Real .set xs i (pover cs off B.ps))) :: ice m B.ids = [(Key.a id, PV.arr g el es (Real .set xs i (pover cs off B.ps)))] ++ ice m B.ids from rfl, upd_append, hS1]
        generalize hS : upd [(Key.a id, PV.arr g el es (Real .set xs i (pover cs off B.ps)))] S1 = S2
        have s_t : ∀ k, S2 (.t k) = S1 (.t k) := fun k => by rw [← hS]; simp [upd_cons, upd_nil]
        have s_p : S2 .p = S1 .p := by rw [← hS]; simp [upd_cons, upd_nil]
        have s_c : ∀ i off, S2 (.c i off) = S1 (.c i off) := fun i off => by rw [← hS]; simp [upd_cons, upd_nil]
        have s_a : ∀ i, i ≠ id → S2 (.a i) = S1 (.a i) := fun i hne => by rw [← hS]; simp [upd_cons, upd_nil, hne]
        have s_i : ∀ i, S2 (.i i) = S1 (.i i) := fun i => by rw [← hS]; simp [upd_cons, upd_nil]
        have s_r : S2 (.a id) = .arr g el es (xs.set i.toNat (pover cs off B.ps)) := by rw [← hS]; simp [upd_cons, Real]
        have T : Turn Γ ι S1 a w id hm S2 w' := {
          sr := hs1
          later := fun hm' hq => by rw [e1] at hq; cases hq; exact .refl _
          os := r2.os, tape := r2.tape, output := r2.output, size := by rw [r2.size]; exact Nat.le_refl _
          same := fun k _ hne => r2.other k (hne hm _ nn e1 hb s1_i)
          home := fun ad had => by
            rw [hb] at had; cases had
            exact ⟨rfl, by rw [r2.size]; exact (hs.own id hm _ e1 hb).2.1, r2.free, .inr ⟨hm, _, e1, hb, rfl, fun q _ => ⟨nn, s1_i⟩⟩⟩
          tmps := s_t
          pin := s_p
          cels := fun i off _ => s_c i off
          arr := s_a
          inf := fun i _ => s_i i
          live := ⟨true, nn, by rw [s_i]; exact s1_i⟩ }
        obtain ⟨cur', c1, c2⟩ := r2.row cur el hcur
        have ccell : ∀ k, cur'[k]? = if i.toNat * es + off ≤ k ∧ k < i.toNat * es + off + ws.length then (a.eval y).cells.toList[k - (i.toNat * es + off)]? else cur[k]? := fun k => by
          have := r2.cell k
          simp only [World.cell?, c1, hcur, hA.hes, Nat.zero_add, Array.length_toList, v1, ← hwl] at this
          simpa using this
        have hpl' : (pover cs off B.ps).length = es := by rw [pover_len]; exact hcl2
        refine ⟨setH ι id hm, SR.arrTurn T e2.1 s_r e2.2 (fun off => s_c id off) ⟨hA.hes, by simpa using hA.len, by simpa using hA.cap, hA.most, fun r hr => ?_, .inr ⟨b, cur', hb, c1, by rw [c2]; exact hsz, fun i' r hi2 j c hj => ?_⟩⟩, .junk _⟩
        · obtain ⟨q, hq⟩ := List.getElem?_of_mem hr
          rw [List.getElem?_set] at hq
          split at hq
          · cases hq; exact hpl'
          · exact hA.rows r (List.mem_of_getElem? hq)
        · have hrl : r.length = es := by
            rw [List.getElem?_set] at hi2
            split at hi2
            · cases hi2; exact hpl'
            · exact hA.rows r (List.mem_of_getElem? hi2)
          have hj' : j < es := by have := (List.getElem?_eq_some_iff.1 hj).1; omega
          rw [ccell]
          by_cases hii : i' = i.toNat
          · subst hii
            rw [List.getElem?_set_self hil] at hi2
            cases hi2
            rw [pover_get _ _ _ _ (by omega)] at hj
            by_cases hr : off ≤ j ∧ j < off + B.ps.length
            · rw [if_pos hr] at hj
              rw [if_pos (by omega), show i.toNat * es + j - (i.toNat * es + off) = j - off from by omega]
              obtain ⟨p, hp, hr'⟩ := hBr _ c hj
              have hrep := hr' _ (v3 _ p hp)
              have hlt2 : j - off < (a.eval y).cells.size := by omega
              refine ⟨(a.eval y).cells.getD (j - off) undef, by simp [Array.getD_eq_getD_getElem?, hlt2], plain_struct (ι := fun _ => none) hrep (plains_mem hpl c (List.mem_of_getElem? hj)), T.repS (hrep.mono (fun q hq => by rw [← hS1]; exact ok_ice hs hids q hq) fun _ _ _ _ e => e)⟩
            · rw [if_neg hr] at hj
              rw [if_neg (by omega)]
              obtain ⟨z, z1, z2, z3⟩ := hrep _ _ hcs j c hj
              exact ⟨z, z1, z2, T.repS (z3.mono okold fun _ _ _ _ e => e)⟩
          · rw [List.getElem?_set_ne (by omega)] at hi2
            rw [if_neg (by
              rcases Nat.lt_or_gt_of_ne hii with hlt' | hgt
              · have := Nat.mul_le_mul_right es (show i' + 1 ≤ i.toNat from hlt'); rw [Nat.add_mul] at this; omega
              · have := Nat.mul_le_mul_right es (show i.toNat + 1 ≤ i' from hgt); rw [Nat.add_mul] at this; omega)]
            obtain ⟨z, z1, z2, z3⟩ := hrep _ _ hi2 j c hj
            exact ⟨z, z1, z2, T.repS (z3.mono okold fun _ _ _ _ e => e)⟩
    · exact h.elim
  · exact h.elim

end ops
end Go.Pi
