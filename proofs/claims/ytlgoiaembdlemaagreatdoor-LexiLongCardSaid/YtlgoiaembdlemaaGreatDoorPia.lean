/- A verified evaluator of Go's code over plain values, part 1. No condition. -/
import Derived.Orders
import Derived.Laws.Sem
import Derived.Laws.AppendOwn
import Derived.Laws.OwnMore
import Derived.Laws.MakeOwn
import Derived.Tactics
set_option linter.unusedSimpArgs false
set_option linter.unusedVariables false

/- Plain structural values for Go's data, and what it means that a value of the machine, in a memory, shows one of them. -/
namespace Go.Pi
open Go

/-- A value without addresses: what a Go value shows of itself and of the memory behind it. -/
inductive PV where
  | junk                                             -- nothing is known
  | v (x : Value)                                    -- just this value
  | nil                                              -- the nil slice
  | list (es : Nat) (xs : List (List PV))            -- a slice that nobody writes: its elements, each es cells
  | ref (cs : List PV)                               -- a pointer to cells that nobody writes
  | agg (cs : List PV)
  | tup (cs : List PV)
  | clo (fn : Fn) (first caps : List PV)
  | own (id g : Nat)                                 -- the whole of an array of this call's own
  | sub (id g off len : Nat)                         -- a part of one
  | ptr (id off : Nat)                               -- a pointer into a box of this call's own
  | eptr (id g : Nat) (i : Int) (off : Nat)          -- a pointer into an element of an array of this call's own
  | mref (id : Nat)                                  -- a map of this call's own
  | obj (o : Obj)                                    -- (what stands at a map's key, or an iterator's)
  | arr (g el es : Nat) (xs : List (List PV))        -- (what stands at an array's key: its state, its elements' type and how many cells, its elements)
  | inf (wr : Bool) (n : Nat)                        -- (what stands at an object's key: may it be written; how many cells)
  deriving Inhabited

inductive Key where
  | t (n : Nat)
  | c (id off : Nat)
  | a (id : Nat)
  | i (id : Nat)
  | p
  deriving DecidableEq

abbrev Sta := Key → PV

/-- What structural values show: `ok`: the blocks that they may lie in. -/
inductive RepS (ok : Nat → Prop) (w : World) : Value → PV → Prop
  | v (x : Value) : RepS ok w x (.v x)
  | nil : RepS ok w (.slice none 0 0) .nil
  | empty (a : Option Addr) (cap es : Nat) : RepS ok w (.slice a 0 cap) (.list es [])
  | list (b off cap es : Nat) (xs : List (List PV)) (f : Nat → Nat → Value) (hb : ok b) (hcap : xs.length ≤ cap)
      (hes : ∀ r ∈ xs, r.length = es)
      (hc : ∀ i r, xs[i]? = some r → ∀ j c, r[j]? = some c → w.cell? ⟨b, off + (i * es + j), none⟩ = some (f i j) ∧ (f i j).oneCell' = true)
      (hr : ∀ i r, xs[i]? = some r → ∀ j c, r[j]? = some c → RepS ok w (f i j) c) :
      RepS ok w (.slice (some ⟨b, off, none⟩) xs.length cap) (.list es xs)
  | ref (b off : Nat) (cs : List PV) (f : Nat → Value) (hb : ok b)
      (hc : ∀ j c, cs[j]? = some c → w.cell? ⟨b, off + j, none⟩ = some (f j) ∧ (f j).oneCell' = true)
      (hr : ∀ j c, cs[j]? = some c → RepS ok w (f j) c) : RepS ok w (.pointer (some ⟨b, off, none⟩)) (.ref cs)
  | agg (vs : Array Value) (cs : List PV) (hs : vs.size = cs.length)
      (hr : ∀ i c, cs[i]? = some c → RepS ok w (vs.getD i undef) c) : RepS ok w (.agg vs) (.agg cs)
  | tup (vs : Array Value) (cs : List PV) (hs : vs.size = cs.length)
      (hr : ∀ i c, cs[i]? = some c → RepS ok w (vs.getD i undef) c) : RepS ok w (.tuple vs) (.tup cs)
  | clo (fn : Fn) (vf vc : Array Value) (first caps : List PV) (hsf : vf.size = first.length) (hsc : vc.size = caps.length)
      (hf : ∀ i c, first[i]? = some c → RepS ok w (vf.getD i undef) c)
      (hc : ∀ i c, caps[i]? = some c → RepS ok w (vc.getD i undef) c) : RepS ok w (.func fn vf vc) (.clo fn first caps)

theorem RepS.mono {ok ok' : Nat → Prop} {w w' : World} {x : Value} {p : PV} (h : RepS ok w x p) (hok : ∀ b, ok b → ok' b)
    (hc : ∀ b o x, ok b → w.cell? ⟨b, o, none⟩ = some x → w'.cell? ⟨b, o, none⟩ = some x) : RepS ok' w' x p := by
  induction h with
  | v x => exact .v x
  | nil => exact .nil
  | empty a cap es => exact .empty a cap es
  | list b off cap es xs f hb hcap hes h1 _ ih => exact .list b off cap es xs f (hok _ hb) hcap hes (fun i r hi j c hj => ⟨hc _ _ _ hb (h1 i r hi j c hj).1, (h1 i r hi j c hj).2⟩) ih
  | ref b off cs f hb h1 _ ih => exact .ref b off cs f (hok _ hb) (fun j c hj => ⟨hc _ _ _ hb (h1 j c hj).1, (h1 j c hj).2⟩) ih
  | agg vs cs hs _ ih => exact .agg vs cs hs ih
  | tup vs cs hs _ ih => exact .tup vs cs hs ih
  | clo fn vf vc first caps hsf hsc _ _ ih1 ih2 => exact .clo fn vf vc first caps hsf hsc ih1 ih2

/-- Where an object of the call's own lies. -/
structure Home where
  arr : Bool
  base : Option Addr
  cap : Nat
  len : Nat
  es : Nat
  g : Nat

/-- The slice that begins at element off of an array, len long. -/
def Home.slice (h : Home) (off len : Nat) : Value :=
  match h.base with
  | some a => .slice (some ⟨a.block, a.off + off * h.es, none⟩) len (h.cap - off)
  | none => .slice none 0 0

inductive RepT (ι : Nat → Option Home) (ok : Nat → Prop) (w : World) : Value → PV → Prop
  | junk (x : Value) : RepT ι ok w x .junk
  | str (x : Value) (p : PV) (h : RepS ok w x p) : RepT ι ok w x p
  | own (x : Value) (id g : Nat) (h : Home) (hv : ∃ a l c, x = .slice a l c) (hi : ι id = some h) (hg : g ≤ h.g) (hx : g = h.g → x = h.slice 0 h.len) : RepT ι ok w x (.own id g)
  | sub (x : Value) (id g off len : Nat) (h : Home) (hv : ∃ a l c, x = .slice a l c) (hi : ι id = some h) (hg : g ≤ h.g) (hx : g = h.g → x = h.slice off len ∧ off + len ≤ h.len) : RepT ι ok w x (.sub id g off len)
  | mref (x : Value) (id : Nat) (h : Home) (hi : ι id = some h) (ha : h.arr = false) (hx : ∃ b, h.base = some ⟨b, 0, none⟩ ∧ x = .map (some b)) : RepT ι ok w x (.mref id)
  | ptr (x : Value) (id off : Nat) (h : Home) (hi : ι id = some h) (ha : h.arr = false) (hx : ∃ b o, h.base = some ⟨b, o, none⟩ ∧ x = .pointer (some ⟨b, o + off, none⟩)) : RepT ι ok w x (.ptr id off)
  | eptr (x : Value) (id g : Nat) (i : Int) (off : Nat) (h : Home) (hv : ∃ a, x = .pointer a) (hi : ι id = some h) (hg : g ≤ h.g)
      (hx : g = h.g → ∃ b o, h.base = some ⟨b, o, none⟩ ∧ x = .pointer (some ⟨b, o + (i.toNat * h.es + off), none⟩)) : RepT ι ok w x (.eptr id g i off)
  | agg (vs : Array Value) (cs : List PV) (hs : vs.size = cs.length)
      (hr : ∀ i c, cs[i]? = some c → RepT ι ok w (vs.getD i undef) c) : RepT ι ok w (.agg vs) (.agg cs)
  | tup (vs : Array Value) (cs : List PV) (hs : vs.size = cs.length)
      (hr : ∀ i c, cs[i]? = some c → RepT ι ok w (vs.getD i undef) c) : RepT ι ok w (.tuple vs) (.tup cs)
  | clo (fn : Fn) (vf vc : Array Value) (first caps : List PV) (hsf : vf.size = first.length) (hsc : vc.size = caps.length)
      (hf : ∀ i c, first[i]? = some c → RepT ι ok w (vf.getD i undef) c)
      (hc : ∀ i c, caps[i]? = some c → RepT ι ok w (vc.getD i undef) c) : RepT ι ok w (.func fn vf vc) (.clo fn first caps)

/-- One home behind another: the same, or (an array's) a later state's. -/
def Later (h h' : Home) : Prop := h' = h ∨ (h.arr = true ∧ h.g < h'.g)

theorem Later.refl (h : Home) : Later h h := .inl rfl
theorem Later.le {h h' : Home} (l : Later h h') : h.g ≤ h'.g := by rcases l with rfl | l <;> omega
theorem Later.eq {h h' : Home} (l : Later h h') (e : h.g = h'.g) : h' = h := by rcases l with rfl | l; rfl; omega
theorem Later.box {h h' : Home} (l : Later h h') (e : h.arr = false) : h' = h := by rcases l with rfl | l; rfl; rw [e] at l; cases l.1

theorem RepT.mono {ι ι' : Nat → Option Home} {ok ok' : Nat → Prop} {w w' : World} {x : Value} {p : PV} (h : RepT ι ok w x p)
    (hι : ∀ id h, ι id = some h → ∃ h', ι' id = some h' ∧ Later h h') (hok : ∀ b, ok b → ok' b)
    (hc : ∀ b o x, ok b → w.cell? ⟨b, o, none⟩ = some x → w'.cell? ⟨b, o, none⟩ = some x) : RepT ι' ok' w' x p := by
  induction h with
  | junk x => exact .junk x
  | str x p h => exact .str x p (h.mono hok hc)
  | own x id g h hv hi hg hx =>
    obtain ⟨h', hi', l⟩ := hι id h hi
    have := l.le
    refine .own x id g h' hv hi' (by omega) fun e => ?_
    have e2 : h' = h := l.eq (by omega)
    subst e2
    exact hx e
  | sub x id g off len h hv hi hg hx =>
    obtain ⟨h', hi', l⟩ := hι id h hi
    have := l.le
    refine .sub x id g off len h' hv hi' (by omega) fun e => ?_
    have e2 : h' = h := l.eq (by omega)
    subst e2
    exact hx e
  | mref x id h hi ha hx =>
    obtain ⟨h', hi', l⟩ := hι id h hi
    have e2 : h' = h := l.box ha
    subst e2
    exact .mref x id h' hi' ha hx
  | ptr x id off h hi ha hx =>
    obtain ⟨h', hi', l⟩ := hι id h hi
    have e2 : h' = h := l.box ha
    subst e2
    exact .ptr x id off h' hi' ha hx
  | eptr x id g i off h hv hi hg hx =>
    obtain ⟨h', hi', l⟩ := hι id h hi
    have := l.le
    refine .eptr x id g i off h' hv hi' (by omega) fun e => ?_
    have e2 : h' = h := l.eq (by omega)
    subst e2
    exact hx e
  | agg vs cs hs _ ih => exact .agg vs cs hs ih
  | tup vs cs hs _ ih => exact .tup vs cs hs ih
  | clo fn vf vc first caps hsf hsc _ _ ih1 ih2 => exact .clo fn vf vc first caps hsf hsc ih1 ih2

/-- All but the blocks of M that stood in w stand in w' as they stood. -/
structure Ext (M : Nat → Prop) (w w' : World) : Prop where
  os : w'.os = w.os
  tape : w'.tape = w.tape
  output : w'.output = w.output
  size : w.heap.size ≤ w'.heap.size
  block : ∀ k, k < w.heap.size → ¬ M k → w'.heap[k]? = w.heap[k]?

theorem Ext.refl (M : Nat → Prop) (w : World) : Ext M w w := ⟨rfl, rfl, rfl, Nat.le_refl _, fun _ _ _ => rfl⟩
theorem Ext.trans {M : Nat → Prop} {a b c : World} (h : Ext M a b) (k : Ext M b c) : Ext M a c :=
  ⟨k.os.trans h.os, k.tape.trans h.tape, k.output.trans h.output, Nat.le_trans h.size k.size,
    fun i hi hm => (k.block i (Nat.lt_of_lt_of_le hi h.size) hm).trans (h.block i hi hm)⟩
/-- A step that may write what M allows, or what came later. -/
theorem Ext.trans' {M M' : Nat → Prop} {a b c : World} (h : Ext M a b) (k : Ext M' b c) (hm : ∀ i, i < a.heap.size → M' i → M i) : Ext M a c :=
  ⟨k.os.trans h.os, k.tape.trans h.tape, k.output.trans h.output, Nat.le_trans h.size k.size,
    fun i hi hn => (k.block i (Nat.lt_of_lt_of_le hi h.size) (fun e => hn (hm i hi e))).trans (h.block i hi hn)⟩

theorem cell_of_block {w w' : World} {b o : Nat} (h : w'.heap[b]? = w.heap[b]?) : w'.cell? ⟨b, o, none⟩ = w.cell? ⟨b, o, none⟩ := by
  simp [World.cell?, h]
theorem lt_of_cell {w : World} {b o : Nat} {x : Value} (h : w.cell? ⟨b, o, none⟩ = some x) : b < w.heap.size := by
  simp only [World.cell?] at h
  rcases Nat.lt_or_ge b w.heap.size with hb | hb
  · exact hb
  · rw [Array.getElem?_eq_none hb] at h; simp at h

end Go.Pi

/- The state of a call, told by keys; a region carried out in the text's order, and in whatever order its edges allow. -/
namespace Go.Pi
open Go

/-- What a call began with: the blocks that its arguments may show, the memory, the blocks handed over to be written, how many slots; what is known of the memory throughout. -/
structure Ctx where
  ok : Nat → Prop
  w0 : World
  M : Nat → Prop
  nt : Nat
  A : World → Prop
  hA : ∀ w, Ext M w0 w → A w
  pin : Option Value

def Own (ι : Nat → Option Home) (S : Sta) (b : Nat) : Prop := ∃ id h a n, ι id = some h ∧ h.base = some a ∧ a.block = b ∧ S (.i id) = .inf true n
def okS (Γ : Ctx) (ι : Nat → Option Home) (S : Sta) (w : World) (b : Nat) : Prop := b < w.heap.size ∧ (Γ.ok b ∨ Γ.M b ∨ Γ.w0.heap.size ≤ b) ∧ ¬ Own ι S b

structure ArrOK (ok : Nat → Prop) (w : World) (h : Home) (el es : Nat) (xs : List (List PV)) : Prop where
  hes : h.es = es
  len : xs.length = h.len
  cap : xs.length ≤ h.cap
  most : h.cap ≤ maxLen
  rows : ∀ r ∈ xs, r.length = es
  row : (h.base = none ∧ h.cap = 0) ∨ ∃ g cur, h.base = some ⟨g, 0, none⟩ ∧ w.heap[g]? = some (.cells cur el (0, 0)) ∧ cur.size = h.cap * es ∧
    ∀ i r, xs[i]? = some r → ∀ j c, r[j]? = some c → ∃ x, cur[i * es + j]? = some x ∧ x.oneCell' = true ∧ RepS ok w x c

theorem ArrOK.mono {ok ok' : Nat → Prop} {w w' : World} {h : Home} {el es : Nat} {xs : List (List PV)} (A : ArrOK ok w h el es xs) (hok : ∀ b, ok b → ok' b)
    (hc : ∀ b o x, ok b → w.cell? ⟨b, o, none⟩ = some x → w'.cell? ⟨b, o, none⟩ = some x) (hb : ∀ g, h.base = some ⟨g, 0, none⟩ → w'.heap[g]? = w.heap[g]?) : ArrOK ok' w' h el es xs :=
  ⟨A.hes, A.len, A.cap, A.most, A.rows, A.row.imp id fun ⟨g, cur, h1, h2, h3, h4⟩ => ⟨g, cur, h1, by rw [hb g h1]; exact h2, h3,
    fun i r hi j c hj => let ⟨x, e1, e3, e2⟩ := h4 i r hi j c hj; ⟨x, e1, e3, e2.mono hok hc⟩⟩⟩

structure SR (Γ : Ctx) (ι : Nat → Option Home) (S : Sta) (a : Act) (w : World) : Prop where
  ext : Ext Γ.M Γ.w0 w
  tmps : ∀ n, RepT ι (okS Γ ι S w) w (a.tmps.getD n undef) (S (.t n))
  size : a.tmps.size = Γ.nt
  pin : ∀ v, Γ.pin = some v → RepT ι (okS Γ ι S w) w v (S .p)
  defers : a.defers = []
  cells : ∀ id off, S (.c id off) ≠ .junk → ∃ h b o x, ι id = some h ∧ h.arr = false ∧ h.base = some ⟨b, o, none⟩ ∧ w.cell? ⟨b, o + off, none⟩ = some x ∧ x.oneCell' = true ∧ RepT ι (okS Γ ι S w) w x (S (.c id off))
  arrs : ∀ id g el es xs, S (.a id) = .arr g el es xs → ∃ h, ι id = some h ∧ (h.arr = true ∧ h.g = g) ∧ ArrOK (okS Γ ι S w) w h el es xs
  objs : ∀ id o, S (.a id) = .obj o → ∃ h b, ι id = some h ∧ h.arr = false ∧ h.base = some ⟨b, 0, none⟩ ∧ w.heap[b]? = some o ∧ ∀ c e f, o ≠ .cells c e f
  live : ∀ id h, ι id = some h → ∃ wr n, S (.i id) = .inf wr n
  inj : ∀ id id' h h' a a', ι id = some h → ι id' = some h' → h.base = some a → h'.base = some a' → a.block = a'.block → id = id'
  own : ∀ id h a, ι id = some h → h.base = some a → a.spot = none ∧ a.block < w.heap.size ∧ (Γ.M a.block ∨ Γ.w0.heap.size ≤ a.block) ∧ ∀ o, w.frozen? ⟨a.block, o, none⟩ = false

def fnd : List (Key × PV) → Key → Option PV
  | [], _ => none
  | (k, p) :: r, k' => if k' = k then some p else fnd r k'
def upd (wr : List (Key × PV)) (S : Sta) : Sta := fun k => (fnd wr k).getD (S k)

theorem upd_nil (S : Sta) : upd [] S = S := rfl
theorem upd_append (a b : List (Key × PV)) (S : Sta) : upd (a ++ b) S = upd a (upd b S) := by
  funext k
  induction a with
  | nil => rfl
  | cons x r ih =>
    obtain ⟨k', p⟩ := x
    simp only [upd, List.cons_append, fnd] at *
    split
    · rfl
    · exact ih
def keys (wr : List (Key × PV)) : List Key := wr.map (·.1)
theorem fnd_none {wr : List (Key × PV)} {k : Key} (h : k ∉ keys wr) : fnd wr k = none := by
  induction wr with
  | nil => rfl
  | cons x r ih =>
    obtain ⟨k', p⟩ := x
    simp only [keys, List.map_cons, List.mem_cons, not_or] at h
    simp only [fnd, if_neg h.1]
    exact ih h.2
theorem fnd_some {wr : List (Key × PV)} {k : Key} (h : k ∈ keys wr) : ∃ p, fnd wr k = some p := by
  induction wr with
  | nil => simp [keys] at h
  | cons x r ih =>
    obtain ⟨k', p⟩ := x
    simp only [fnd]
    by_cases e : k = k'
    · exact ⟨p, if_pos e⟩
    · rw [if_neg e]
      simp only [keys, List.map_cons, List.mem_cons] at h
      exact ih (h.resolve_left e)
theorem upd_not {wr : List (Key × PV)} {k : Key} (S : Sta) (h : k ∉ keys wr) : upd wr S k = S k := by simp [upd, fnd_none h]
theorem upd_in {wr : List (Key × PV)} {k : Key} (S S' : Sta) (h : k ∈ keys wr) : upd wr S k = upd wr S' k := by
  obtain ⟨p, hp⟩ := fnd_some h
  simp [upd, hp]

/-- Operation i of the region, from whatever state agrees on what it reads, leaves what it writes. -/
def OpOK (P : Program) (Γ : Ctx) (ops : Array Oper) (i : Nat) (rd : List Key) (S : Sta) (wr : List (Key × PV)) : Prop :=
  ∀ S' : Sta, (∀ k ∈ rd, S' k = S k) → ∀ ι a w, SR Γ ι S' a w → ∀ (K : Act → World → Prop) (Q : Exit → Act → World → Prop),
    (∀ ι' a' w', SR Γ ι' (upd wr S') a' w' → K a' w') → wpOp P ops Q i K a w

theorem SR.drawn {Γ : Ctx} {ι S a w} (h : SR Γ ι S a w) : SR Γ ι S a { w with drawn := w.drawn + 1 } := by
  have e : ∀ (b o : Nat) (x : Value), w.cell? ⟨b, o, none⟩ = some x → ({ w with drawn := w.drawn + 1 } : World).cell? ⟨b, o, none⟩ = some x := fun _ _ _ h => h
  have m : ∀ x p, RepT ι (okS Γ ι S w) w x p → RepT ι (okS Γ ι S { w with drawn := w.drawn + 1 }) { w with drawn := w.drawn + 1 } x p :=
    fun x p hp => hp.mono (fun id h hi => ⟨h, hi, .refl h⟩) (fun b hb => hb) fun b o x _ hx => hx
  exact {
    ext := ⟨h.ext.os, h.ext.tape, h.ext.output, h.ext.size, h.ext.block⟩
    tmps := fun n => m _ _ (h.tmps n)
    size := h.size
    pin := fun v hv => m _ _ (h.pin v hv)
    defers := h.defers
    cells := fun id off hn => let ⟨hh, b, o, x, h1, h2, h3, h4, h6, h5⟩ := h.cells id off hn; ⟨hh, b, o, x, h1, h2, h3, h4, h6, m _ _ h5⟩
    arrs := fun id g el es xs hx => let ⟨hh, h1, h2, h3⟩ := h.arrs id g el es xs hx; ⟨hh, h1, h2, h3.mono (fun _ h => h) (fun _ _ _ _ h => h) fun _ _ => rfl⟩
    objs := h.objs
    live := h.live
    inj := h.inj
    own := h.own }

/-- One operation: what stands behind it. -/
def StepOK (P : Program) (Γ : Ctx) (ops : Array Oper) (i : Nat) (S : Sta) (K : Sta → Prop) : Prop :=
  ∀ ι a w, SR Γ ι S a w → ∀ (K' : Act → World → Prop) (Q : Exit → Act → World → Prop), (∀ ι' S2 a' w', K S2 → SR Γ ι' S2 a' w' → K' a' w') → wpOp P ops Q i K' a w
theorem OpOK.step {P : Program} {Γ : Ctx} {ops : Array Oper} {i : Nat} {rd : List Key} {S : Sta} {wr : List (Key × PV)} {K : Sta → Prop} (h : OpOK P Γ ops i rd S wr) (hK : K (upd wr S)) : StepOK P Γ ops i S K :=
  fun ι a w hs K' Q hk => h S (fun _ _ => rfl) ι a w hs K' Q fun ι' a' w' hs' => hk ι' _ a' w' hK hs'
/-- In the text's order. -/
def SeqOK (P : Program) (Γ : Ctx) (ops : Array Oper) (K : Sta → Prop) : List Nat → Sta → Prop
  | [], S => K S
  | i :: r, S => StepOK P Γ ops i S (SeqOK P Γ ops K r)

theorem wp_of_seq {P : Program} {Γ : Ctx} {ops : Array Oper} {K : Sta → Prop} {Q : Exit → Act → World → Prop}
    (hQ : ∀ ι S a w, K S → SR Γ ι S a w → Q .normal a w) :
    ∀ (l : List Nat) (S : Sta), SeqOK P Γ ops K l S → ∀ ι a w, SR Γ ι S a w → wpOps P ops Q l a w
  | [], S, h, ι, a, w, hs => by simpa [wpOps] using hQ ι S a w h hs
  | i :: r, S, h, ι, a, w, hs => by
    rw [wpOps_cons]
    exact h ι a w hs _ Q fun ι' S2 a' w' h2 hs' => wp_of_seq hQ r S2 h2 ι' a' w' hs'

theorem wp_text {P : Program} {Γ : Ctx} {ops : Array Oper} {K : Sta → Prop} {Q : Exit → Act → World → Prop} {id : Nat} {S : Sta}
    (hQ : ∀ ι S a w, K S → SR Γ ι S a w → Q .normal a w) (h : SeqOK P Γ ops K (List.range ops.size) S) {ι a w} (hs : SR Γ ι S a w) :
    (Code.region id ops false).wp P Q a w := wp_region (wp_of_seq hQ _ S h ι a w hs)

/-- What an operation of a drawn region reads and writes. -/
structure Rec where
  rd : List Key
  wr : List (Key × PV)

def txt (rs : List Rec) (S : Sta) : Nat → Sta
  | 0 => S
  | k + 1 => upd ((rs[k]?).map (·.wr) |>.getD []) (txt rs S k)
/-- What stands when those that are listed have been carried out. -/
def lst (rs : List Rec) (S : Sta) (listed : Array Bool) : Nat → Sta
  | 0 => S
  | k + 1 => if listed.getD k true = true then upd ((rs[k]?).map (·.wr) |>.getD []) (lst rs S listed k) else lst rs S listed k

def Apart (a b : Rec) : Prop := (∀ k ∈ keys a.wr, k ∉ b.rd ∧ k ∉ keys b.wr) ∧ ∀ k ∈ keys b.wr, k ∉ a.rd
def direct (o : Oper) : List Nat := (o.after.toList.filter fun e => Region.binds .any e).map (·.on)

theorem lst_key {rs : List Rec} {S : Sta} {listed : Array Bool} {i : Nat} {key : Key} (hi : listed.getD i true = false)
    (h : ∀ (k : Nat) r, k ≠ i → rs[k]? = some r → key ∈ keys r.wr → listed.getD k true = decide (k < i)) : ∀ m, lst rs S listed m key = txt rs S (min m i) key
  | 0 => by simp [lst, txt]
  | m + 1 => by
    have ih := lst_key (S := S) hi h m
    simp only [lst]
    rcases Nat.lt_trichotomy m i with hm | hm | hm
    · rw [show min (m + 1) i = m + 1 from by omega]
      rw [show min m i = m from by omega] at ih
      simp only [txt]
      cases hr : rs[m]? with
      | none => simp [upd_nil, ih]
      | some r =>
        simp only [Option.map_some, Option.getD_some]
        by_cases hk : key ∈ keys r.wr
        · rw [h m r (by omega) hr hk]
          simp only [hm, decide_true, if_true]
          exact upd_in _ _ hk
        · rw [upd_not _ hk]
          split
          · rw [upd_not _ hk, ih]
          · exact ih
    · subst hm
      simp only [hi]
      rw [show min (m + 1) m = m from by omega]
      rw [show min m m = m from by omega] at ih
      simpa using ih
    · rw [show min (m + 1) i = i from by omega]
      rw [show min m i = i from by omega] at ih
      cases hr : rs[m]? with
      | none => simp [upd_nil, ih]
      | some r =>
        simp only [Option.map_some, Option.getD_some]
        by_cases hk : key ∈ keys r.wr
        · rw [h m r (by omega) hr hk]
          simp only [show ¬ m < i from by omega, decide_false]
          simpa using ih
        · split
          · rw [upd_not _ hk, ih]
          · exact ih

theorem getD_set (l : Array Bool) (i k : Nat) (hi : i < l.size) : (l.setIfInBounds i true).getD k true = if k = i then true else l.getD k true := by
  by_cases e : k = i
  · subst e; simp [hi]
  · simp only [if_neg e, Array.getD_eq_getD_getElem?]
    rw [Array.getElem?_setIfInBounds_ne (by omega)]

theorem lst_add {rs : List Rec} {S : Sta} {listed : Array Bool} {i : Nat} {r : Rec} (hr : rs[i]? = some r) (hs : i < listed.size)
    (hi : listed.getD i true = false) (h : ∀ (k : Nat) q, i < k → rs[k]? = some q → listed.getD k true = true → ∀ key ∈ keys r.wr, key ∉ keys q.wr) :
    ∀ m, lst rs S (listed.setIfInBounds i true) m = if i < m then upd r.wr (lst rs S listed m) else lst rs S listed m
  | 0 => by simp [lst]
  | m + 1 => by
    have ih := lst_add (S := S) hr hs hi h m
    simp only [lst, getD_set _ _ _ hs]
    by_cases e : m = i
    · subst e
      have n1 : ¬ m < m := by omega
      have n2 : m < m + 1 := by omega
      rw [if_neg n1] at ih
      simp [hr, hi, n2, ih]
    · simp only [if_neg e]
      by_cases hm : i < m
      · rw [if_pos hm] at ih
        rw [if_pos (show i < m + 1 from by omega), ih]
        split
        · rename_i hl
          cases hq : rs[m]? with
          | none => simp [upd_nil]
          | some q =>
            have hk := h m q hm hq hl
            simp only [Option.map_some, Option.getD_some]
            funext key
            by_cases h1 : key ∈ keys r.wr
            · rw [upd_not _ (hk key h1), upd_in _ _ h1]
            · rw [upd_not (wr := r.wr) _ h1]
              by_cases h2 : key ∈ keys q.wr
              · exact upd_in _ _ h2
              · rw [upd_not _ h2, upd_not _ h2, upd_not _ h1]
        · rfl
      · rw [if_neg hm] at ih
        rw [if_neg (show ¬ i < m + 1 from by omega), ih]

theorem txt_all {rs : List Rec} {S : Sta} {listed : Array Bool} : ∀ m, (∀ k, k < m → listed.getD k true = true) → lst rs S listed m = txt rs S m
  | 0, _ => rfl
  | m + 1, h => by
    simp only [lst, txt, h m (by omega), if_true]
    rw [txt_all m fun k hk => h k (by omega)]

/-- How many are not listed. -/
def miss (listed : Array Bool) : Nat → Nat
  | 0 => 0
  | k + 1 => miss listed k + if listed.getD k true = true then 0 else 1
theorem miss_set {listed : Array Bool} {i : Nat} (hi : i < listed.size) (h : listed.getD i true = false) : ∀ m, miss listed m = miss (listed.setIfInBounds i true) m + if i < m then 1 else 0
  | 0 => by simp [miss]
  | m + 1 => by
    have ih := miss_set hi h m
    simp only [miss, getD_set _ _ _ hi]
    by_cases e : m = i
    · subst e
      have n1 : ¬ m < m := by omega
      have n2 : m < m + 1 := by omega
      simp only [n1, n2, if_true, if_false, h] at *
      simp; omega
    · simp only [if_neg e]
      by_cases hm : i < m
      · simp only [hm, show i < m + 1 from by omega, if_true] at *; omega
      · simp only [hm, show ¬ i < m + 1 from by omega, if_false] at *; omega
theorem miss_zero {listed : Array Bool} : ∀ m, miss listed m = 0 → ∀ k, k < m → listed.getD k true = true
  | 0, _, _, hk => by omega
  | m + 1, h, k, hk => by
    simp only [miss] at h
    by_cases e : k = m
    · subst e
      by_cases hl : listed.getD k true = true
      · exact hl
      · simp [hl] at h
    · exact miss_zero m (by omega) k (by omega)

theorem ready_spec {ops : Array Oper} {listed : Array Bool} {i : Nat} (h : i ∈ Region.ready .any ops listed) :
    i < ops.size ∧ listed.getD i true = false ∧ ∃ o, ops[i]? = some o ∧ ∀ d ∈ direct o, listed.getD d false = true := by
  simp only [Region.ready, List.mem_filter, List.mem_range, Bool.and_eq_true, Bool.not_eq_true'] at h
  obtain ⟨h1, h2, h3⟩ := h
  refine ⟨h1, h2, ?_⟩
  cases ho : ops[i]? with
  | none => simp [ho] at h3
  | some o =>
    refine ⟨o, rfl, fun d hd => ?_⟩
    simp only [ho, Option.map_some, Option.getD_some] at h3
    rw [← Array.all_toList, List.all_eq_true] at h3
    simp only [direct, List.mem_map, List.mem_filter] at hd
    obtain ⟨e, ⟨he, hb⟩, rfl⟩ := hd
    have := h3 e he
    simpa [hb] using this

theorem ready_of {ops : Array Oper} {listed : Array Bool} {i : Nat} {o : Oper} (h1 : i < ops.size) (h2 : listed.getD i true = false) (ho : ops[i]? = some o)
    (h3 : ∀ d ∈ direct o, listed.getD d false = true) : i ∈ Region.ready .any ops listed := by
  simp only [Region.ready, List.mem_filter, List.mem_range, Bool.and_eq_true, Bool.not_eq_true']
  refine ⟨h1, h2, ?_⟩
  simp only [ho, Option.map_some, Option.getD_some]
  rw [← Array.all_toList, List.all_eq_true]
  intro e he
  by_cases hb : Region.binds .any e = true
  · have : e.on ∈ direct o := by simp only [direct, List.mem_map, List.mem_filter]; exact ⟨e, ⟨he, hb⟩, rfl⟩
    simp [h3 _ this]
  · simp [hb]

/-- Must an operation (by its number) be carried out ahead of another one? -/
inductive Anc (ops : Array Oper) : Nat → Oper → Prop
  | one {j : Nat} {o : Oper} (h : j ∈ direct o) : Anc ops j o
  | more {j d : Nat} {o q : Oper} (h : d ∈ direct o) (hq : ops[d]? = some q) (ha : Anc ops j q) : Anc ops j o
theorem Anc.listed {ops : Array Oper} {listed : Array Bool} (hcl : ∀ i o, ops[i]? = some o → listed.getD i true = true → ∀ d ∈ direct o, listed.getD d false = true) {j : Nat} {o : Oper} (h : Anc ops j o) :
    (∀ d ∈ direct o, listed.getD d false = true) → listed.getD j false = true := by
  induction h with
  | one h => exact fun hd => hd _ h
  | @more d o q h hq _ ih =>
    intro hd
    have h1 := hd _ h
    refine ih (hcl _ _ hq ?_)
    simp only [Array.getD_eq_getD_getElem?] at h1 ⊢
    cases hg : listed[d]? with
    | none => rw [hg] at h1; cases h1
    | some b => rw [hg] at h1; simpa using h1
/-- A drawn region: all its operations in the text's order; two of them either in an order by an edge, or apart. -/
structure DrawOK (P : Program) (Γ : Ctx) (ops : Array Oper) (rs : List Rec) (S : Sta) : Prop where
  len : rs.length = ops.size
  ok : ∀ i r, rs[i]? = some r → OpOK P Γ ops i r.rd (txt rs S i) r.wr
  down : ∀ i o, ops[i]? = some o → ∀ d ∈ direct o, d < i
  comm : ∀ i j o a b, i < j → ops[j]? = some o → rs[i]? = some a → rs[j]? = some b → Anc ops i o ∨ Apart a b

theorem wpAny_of_draw {P : Program} {Γ : Ctx} {ops : Array Oper} {rs : List Rec} {S : Sta} (hD : DrawOK P Γ ops rs S) {Q : Exit → Act → World → Prop}
    (hQ : ∀ ι a w, SR Γ ι (txt rs S rs.length) a w → Q .normal a w) :
    ∀ (fuel : Nat) (listed : Array Bool), listed.size = ops.size → miss listed ops.size ≤ fuel →
      (∀ i o, ops[i]? = some o → listed.getD i true = true → ∀ d ∈ direct o, listed.getD d false = true) →
      ∀ ι a w, SR Γ ι (lst rs S listed rs.length) a w → wpAny P .any ops Q fuel listed a w := by
  have fin : ∀ (listed : Array Bool), listed.size = ops.size → Region.ready .any ops listed = [] → ∀ ι a w, SR Γ ι (lst rs S listed rs.length) a w → Q .normal a w := by
    intro listed hsz hr ι a w hs
    have hall : ∀ k, k < ops.size → listed.getD k true = true := by
      intro k
      induction k using Nat.strongRecOn with
      | _ k ih =>
        intro hk
        by_cases hl : listed.getD k true = true
        · exact hl
        · exfalso
          have hko : ops[k]? = some ops[k] := Array.getElem?_eq_getElem hk
          have : k ∈ Region.ready .any ops listed := ready_of hk (by simpa using hl) hko fun d hd => by
            have hd' := hD.down k _ hko d hd
            have := ih d hd' (by omega)
            simp only [Array.getD_eq_getD_getElem?] at this ⊢
            rw [Array.getElem?_eq_getElem (by omega)] at this ⊢
            simpa using this
          rw [hr] at this; cases this
    rw [txt_all _ (by rw [hD.len]; exact hall)] at hs
    exact hQ ι a w hs
  intro fuel
  induction fuel with
  | zero =>
    intro listed hsz hm hcl ι a w hs
    have hall := miss_zero (listed := listed) ops.size (by omega)
    have hr : Region.ready .any ops listed = [] := by
      rcases hrr : Region.ready .any ops listed with _ | ⟨x, l⟩
      · rfl
      · obtain ⟨h1, h2, _⟩ := ready_spec (show x ∈ Region.ready .any ops listed by rw [hrr]; simp)
        rw [hall x h1] at h2; cases h2
    exact ⟨hr, fin listed hsz hr ι a w hs⟩
  | succ fuel ih =>
    intro listed hsz hm hcl ι a w hs
    refine ⟨fun hr => fin listed hsz hr ι a w hs, fun i hi => ?_⟩
    obtain ⟨h1, h2, o, ho, h3⟩ := ready_spec hi
    have hir : i < rs.length := by rw [hD.len]; exact h1
    have hri : rs[i]? = some rs[i] := List.getElem?_eq_getElem hir
    generalize rs[i] = r at hri
    have hlt : ∀ k q, rs[k]? = some q → k < ops.size := fun k q hq => by
      rw [← hD.len]; exact (List.getElem?_eq_some_iff.1 hq).1
    have gd : ∀ k, k < ops.size → listed.getD k true = listed.getD k false := fun k hk => by
      simp only [Array.getD_eq_getD_getElem?]; rw [Array.getElem?_eq_getElem (by omega)]; rfl
    -- one behind i that is listed is apart from i
    have later : ∀ k q, i < k → rs[k]? = some q → listed.getD k true = true → Apart r q := by
      intro k q hk hq hl
      have hks := hlt k q hq
      have hko : ops[k]? = some ops[k] := Array.getElem?_eq_getElem hks
      rcases hD.comm i k _ r q hk hko hri hq with hd | hd
      · have := hd.listed hcl (hcl k _ hko hl)
        rw [← gd i h1, h2] at this; cases this
      · exact hd
    have sooner : ∀ k q, k < i → rs[k]? = some q → listed.getD k true = false → Apart q r := by
      intro k q hk hq hl
      rcases hD.comm k i _ q r hk ho hq hri with hd | hd
      · have := hd.listed hcl h3
        rw [← gd k (by omega), hl] at this; cases this
      · exact hd
    have agree : ∀ key ∈ r.rd, lst rs S listed rs.length key = txt rs S i key := by
      intro key hkey
      have := lst_key (S := S) (rs := rs) (key := key) h2 (fun k q hne hq hk => ?_) rs.length
      · rw [this, show min rs.length i = i from by omega]
      · rcases Nat.lt_or_gt_of_ne hne with hlt' | hgt
        · cases hl : listed.getD k true with
          | true => simp [hlt']
          | false => exact absurd hkey ((sooner k q hlt' hq hl).1 key hk).1
        · cases hl : listed.getD k true with
          | false => simp; omega
          | true => exact absurd hkey ((later k q hgt hq hl).2 key hk)
    refine hD.ok i r hri _ agree ι a w hs _ Q fun ι' a' w' hs' => ?_
    refine ih _ (by simp [hsz]) ?_ ?_ ι' a' w' ?_
    · have := miss_set (listed := listed) (i := i) (by omega) h2 ops.size
      simp only [h1, if_true] at this
      omega
    · intro k q hk hl d hd
      have hks : k < ops.size := (Array.getElem?_eq_some_iff.1 hk).1
      have hdk := hD.down k q hk d hd
      have e2 : (listed.setIfInBounds i true).getD d false = (listed.setIfInBounds i true).getD d true := by
        simp only [Array.getD_eq_getD_getElem?]; rw [Array.getElem?_eq_getElem (by simp; omega)]; rfl
      rw [e2, getD_set _ _ _ (by omega)]
      rw [getD_set _ _ _ (by omega)] at hl
      by_cases e : d = i
      · simp [e]
      · rw [if_neg e, gd d (by omega)]
        by_cases e3 : k = i
        · subst e3
          rw [ho] at hk; cases hk
          exact h3 d hd
        · rw [if_neg e3] at hl
          exact hcl k q hk hl d hd
    · rw [lst_add hri (by omega) h2 (fun k q hk hq hl key hkey => ((later k q hk hq hl).1 key hkey).2) rs.length, if_pos hir]
      exact hs'

theorem wp_draw {P : Program} {Γ : Ctx} {ops : Array Oper} {rs : List Rec} {S : Sta} {id : Nat} (hm : P.follows .mixedOrders = true) (hD : DrawOK P Γ ops rs S)
    {Q : Exit → Act → World → Prop} (hQ : ∀ ι a w, SR Γ ι (txt rs S rs.length) a w → Q .normal a w) {ι a w} (hs : SR Γ ι S a w) : (Code.region id ops true).wp P Q a w := by
  refine wp_region_any hm (wpAny_of_draw hD hQ ops.size _ (by simp) ?_ ?_ ι a _ ?_)
  · have : ∀ m, m ≤ ops.size → miss (Array.replicate ops.size false) m ≤ m := by
      intro m
      induction m with
      | zero => intro _; simp [miss]
      | succ m ih => intro h; have := ih (by omega); simp only [miss]; split <;> omega
    exact this _ (Nat.le_refl _)
  · intro i o ho hl
    have hi := (Array.getElem?_eq_some_iff.1 ho).1
    simp [Array.getD_eq_getD_getElem?, hi] at hl
  · have : lst rs S (Array.replicate ops.size false) rs.length = S := by
      have : ∀ m, m ≤ ops.size → lst rs S (Array.replicate ops.size false) m = S := by
        intro m
        induction m with
        | zero => intro _; rfl
        | succ m ih =>
          intro h
          simp only [lst]
          rw [if_neg (by simp [Array.getD_eq_getD_getElem?, show m < ops.size from by omega])]
          exact ih (by omega)
      exact this _ (by rw [hD.len]; exact Nat.le_refl _)
    rw [this]
    exact hs.drawn

end Go.Pi

/- How a state goes on: a slot is set, an object is made, a cell is written, an object is left to be read alone, a callee has run. -/
namespace Go.Pi
open Go

theorem upd_cons (k : Key) (p : PV) (r : List (Key × PV)) (S : Sta) (k' : Key) : upd ((k, p) :: r) S k' = if k' = k then p else upd r S k' := by
  simp only [upd, fnd]; split <;> rfl

/-! ### Slots -/
theorem Own.congr {ι : Nat → Option Home} {S S' : Sta} (h : ∀ id, S' (.i id) = S (.i id)) (b : Nat) : Own ι S' b ↔ Own ι S b := by
  unfold Own; simp only [h]
theorem okS.congr {Γ : Ctx} {ι : Nat → Option Home} {S S' : Sta} {w : World} (h : ∀ id, S' (.i id) = S (.i id)) : okS Γ ι S' w = okS Γ ι S w := by
  funext b; unfold okS; rw [Own.congr h]

theorem SR.put {Γ : Ctx} {ι S a w} (h : SR Γ ι S a w) {x : Value} {p : PV} {d : Nat} (hx : RepT ι (okS Γ ι S w) w x p) (hd : d < Γ.nt) :
    SR Γ ι (upd [(.t d, p)] S) (a.put (some d) x) w := by
  have e : ∀ k, (∀ n, k ≠ .t n) → upd [(.t d, p)] S k = S k := fun k hk => by rw [upd_cons, if_neg (hk d)]; rfl
  have eo : okS Γ ι (upd [(.t d, p)] S) w = okS Γ ι S w := okS.congr fun id => e _ (by simp)
  exact {
    ext := h.ext
    tmps := fun n => by
      rw [eo, upd_cons]
      by_cases hn : n = d
      · subst hn
        rw [if_pos rfl]
        simp only [Act.put]
        have : (a.tmps.setIfInBounds n x).getD n undef = x := by simp [h.size, hd]
        rw [this]; exact hx
      · rw [if_neg (by simpa using hn)]
        simp only [Act.put]
        have : (a.tmps.setIfInBounds d x).getD n undef = a.tmps.getD n undef := by
          simp only [Array.getD_eq_getD_getElem?]; rw [Array.getElem?_setIfInBounds_ne (by omega)]
        rw [this]; exact h.tmps n
    size := by simp [Act.put, h.size]
    pin := fun v hv => by rw [eo, e _ (by simp)]; exact h.pin v hv
    defers := h.defers
    cells := fun id off hn => by rw [e _ (by simp)] at hn ⊢; rw [eo]; exact h.cells id off hn
    arrs := fun id g el es xs hx => by rw [e _ (by simp)] at hx; rw [eo]; exact h.arrs id g el es xs hx
    objs := fun id o hx => by rw [e _ (by simp)] at hx; exact h.objs id o hx
    live := fun id hh hi => by rw [e _ (by simp)]; exact h.live id hh hi
    inj := h.inj
    own := h.own }

theorem SR.putNone {Γ : Ctx} {ι S a w} (h : SR Γ ι S a w) {x : Value} : SR Γ ι S (a.put none x) w := h

theorem SR.dead {Γ : Ctx} {ι S a w} (h : SR Γ ι S a w) {id : Nat} (hi : S (.i id) = .junk) : ι id = none := by
  cases e : ι id with
  | none => rfl
  | some hh => obtain ⟨wr, n, hl⟩ := h.live id hh e; rw [hi] at hl; cases hl

/-! ### A callee has run -/
theorem SR.called {Γ : Ctx} {ι S a w w'} (h : SR Γ ι S a w) (hx : Ext (fun _ => False) w w') : SR Γ ι S a w' := by
  have hb : ∀ k, k < w.heap.size → w'.heap[k]? = w.heap[k]? := fun k hk => hx.block k hk (fun e => e)
  have hc : ∀ b o x, w.cell? ⟨b, o, none⟩ = some x → w'.cell? ⟨b, o, none⟩ = some x := fun b o x e => by rw [cell_of_block (hb b (lt_of_cell e))]; exact e
  have ok : ∀ b, okS Γ ι S w b → okS Γ ι S w' b := fun b hb => ⟨Nat.lt_of_lt_of_le hb.1 hx.size, hb.2⟩
  have m : ∀ x p, RepT ι (okS Γ ι S w) w x p → RepT ι (okS Γ ι S w') w' x p := fun x p hp => hp.mono (fun id h hi => ⟨h, hi, .refl h⟩) ok fun b o x _ e => hc b o x e
  exact {
    ext := h.ext.trans' hx fun _ _ e => e.elim
    tmps := fun n => m _ _ (h.tmps n)
    size := h.size
    pin := fun v hv => m _ _ (h.pin v hv)
    defers := h.defers
    cells := fun id off hn => let ⟨hh, b, o, x, h1, h2, h3, h4, h6, h5⟩ := h.cells id off hn; ⟨hh, b, o, x, h1, h2, h3, hc _ _ _ h4, h6, m _ _ h5⟩
    arrs := fun id g el es xs hx => let ⟨hh, h1, h2, h3⟩ := h.arrs id g el es xs hx
      ⟨hh, h1, h2, h3.mono ok (fun b o x _ e => hc b o x e) fun g hg => hb g (h.own _ _ _ h1 hg).2.1⟩
    objs := fun id o hx => let ⟨hh, b, h1, h2, h3, h4, h5⟩ := h.objs id o hx
      ⟨hh, b, h1, h2, h3, by rw [hb b (h.own _ _ _ h1 h3).2.1]; exact h4, h5⟩
    live := h.live
    inj := h.inj
    own := fun id hh ad hi ha => let ⟨h1, h2, h3, h4⟩ := h.own id hh ad hi ha
      ⟨h1, Nat.lt_of_lt_of_le h2 hx.size, h3, fun o => by
        have := h4 o
        simp only [World.frozen?] at this ⊢
        rw [hb _ h2]; exact this⟩ }

/-! ### An object is left to be read alone -/
theorem SR.freeze {Γ : Ctx} {ι S a w} (h : SR Γ ι S a w) {id : Nat} {wr : Bool} {n : Nat} (hi : S (.i id) = .inf wr n) : SR Γ ι (upd [(.i id, .inf false n)] S) a w := by
  have e : ∀ k, k ≠ .i id → upd [(.i id, .inf false n)] S k = S k := fun k hk => by rw [upd_cons, if_neg hk]; rfl
  have ok : ∀ b, okS Γ ι S w b → okS Γ ι (upd [(.i id, .inf false n)] S) w b := fun b hb => ⟨hb.1, hb.2.1, fun ⟨i, hh, ad, m, h1, h2, h3, h4⟩ => hb.2.2 (by
    by_cases hid : i = id
    · subst hid; rw [upd_cons, if_pos rfl] at h4; cases h4
    · rw [e _ (by simpa using hid)] at h4; exact ⟨i, hh, ad, m, h1, h2, h3, h4⟩)⟩
  have m : ∀ x p, RepT ι (okS Γ ι S w) w x p → RepT ι (okS Γ ι (upd [(.i id, .inf false n)] S) w) w x p := fun x p hp => hp.mono (fun id h hi => ⟨h, hi, .refl h⟩) ok fun _ _ _ _ e => e
  exact {
    ext := h.ext
    tmps := fun k => by rw [e _ (by simp)]; exact m _ _ (h.tmps k)
    size := h.size
    pin := fun v hv => by rw [e _ (by simp)]; exact m _ _ (h.pin v hv)
    defers := h.defers
    cells := fun id off hn => by
      rw [e _ (by simp)] at hn ⊢
      obtain ⟨hh, b, o, x, h1, h2, h3, h4, h6, h5⟩ := h.cells id off hn
      exact ⟨hh, b, o, x, h1, h2, h3, h4, h6, m _ _ h5⟩
    arrs := fun id g el es xs hx => by
      rw [e _ (by simp)] at hx
      obtain ⟨hh, h1, h2, h3⟩ := h.arrs id g el es xs hx
      exact ⟨hh, h1, h2, h3.mono ok (fun _ _ _ _ e => e) fun _ _ => rfl⟩
    objs := fun id o hx => by rw [e _ (by simp)] at hx; exact h.objs id o hx
    live := fun i hh hl => by
      by_cases hid : i = id
      · subst hid; exact ⟨false, n, by rw [upd_cons, if_pos rfl]⟩
      · rw [e _ (by simpa using hid)]; exact h.live i hh hl
    inj := h.inj
    own := h.own }

/-! ### An object is made -/
def setH (ι : Nat → Option Home) (id : Nat) (h : Home) : Nat → Option Home := fun i => if i = id then some h else ι i

def celW (id : Nat) : Nat → List PV → List (Key × PV)
  | _, [] => []
  | off, p :: r => (.c id off, p) :: celW id (off + 1) r

theorem celW_spec (id : Nat) : ∀ (ps : List PV) (off : Nat) (S : Sta) (k : Key), upd (celW id off ps) S k = match k with
    | .c i o => if i = id ∧ off ≤ o ∧ o < off + ps.length then ps.getD (o - off) .junk else S k
    | _ => S k
  | [], off, S, k => by
    cases k <;> simp [celW, upd_nil]
    intro _ h1 h2; omega
  | p :: r, off, S, k => by
    rw [celW, upd_cons, celW_spec id r]
    cases k with
    | c i o =>
      simp only [Key.c.injEq, List.length_cons]
      by_cases hi : i = id
      · subst hi
        by_cases ho : o = off
        · subst ho; simp
        · simp only [ho, and_false, if_false, true_and]
          by_cases h2 : off + 1 ≤ o ∧ o < off + 1 + r.length
          · rw [if_pos h2, if_pos (by omega)]
            rw [show o - off = (o - (off + 1)) + 1 from by omega]
            simp
          · rw [if_neg h2, if_neg (by omega)]
      · simp [hi]
    | _ => simp

theorem push_get (w : World) (o : Obj) (k : Nat) (h : k < w.heap.size) : (w.heap.push o)[k]? = w.heap[k]? := by
  rw [Array.getElem?_push, if_neg (by omega)]

/-- One object is made, written, or moves; all else stays. -/
structure Turn (Γ : Ctx) (ι : Nat → Option Home) (S : Sta) (a : Act) (w : World) (id : Nat) (h : Home) (S' : Sta) (w' : World) : Prop where
  sr : SR Γ ι S a w
  later : ∀ hm, ι id = some hm → Later hm h
  os : w'.os = w.os
  tape : w'.tape = w.tape
  output : w'.output = w.output
  size : w.heap.size ≤ w'.heap.size
  same : ∀ k, k < w.heap.size → (∀ hm ad n, ι id = some hm → hm.base = some ad → S (.i id) = .inf true n → k ≠ ad.block) → w'.heap[k]? = w.heap[k]?
  home : ∀ ad, h.base = some ad → ad.spot = none ∧ ad.block < w'.heap.size ∧ (∀ k, w'.frozen? ⟨ad.block, k, none⟩ = false) ∧
    (w.heap.size ≤ ad.block ∨ ∃ hm ad', ι id = some hm ∧ hm.base = some ad' ∧ ad'.block = ad.block ∧ ∀ n, S' (.i id) = .inf true n → ∃ m, S (.i id) = .inf true m)
  tmps : ∀ n, S' (.t n) = S (.t n)
  pin : S' .p = S .p
  cels : ∀ i off, i ≠ id → S' (.c i off) = S (.c i off)
  arr : ∀ i, i ≠ id → S' (.a i) = S (.a i)
  inf : ∀ i, i ≠ id → S' (.i i) = S (.i i)
  live : ∃ wr n, S' (.i id) = .inf wr n

variable {Γ : Ctx} {ι : Nat → Option Home} {S : Sta} {a : Act} {w : World} {id : Nat} {h : Home} {S' : Sta} {w' : World}

theorem Turn.kept (m : Turn Γ ι S a w id h S' w') {b : Nat} (hb : okS Γ ι S w b) : w'.heap[b]? = w.heap[b]? :=
  m.same b hb.1 fun hm ad n h1 h2 h3 e => hb.2.2 ⟨id, hm, ad, n, h1, h2, e.symm, h3⟩

theorem Turn.keptOf (m : Turn Γ ι S a w id h S' w') {i : Nat} {hh : Home} {ad : Addr} (hi : ι i = some hh) (hb : hh.base = some ad) (hne : i ≠ id) : w'.heap[ad.block]? = w.heap[ad.block]? :=
  m.same _ (m.sr.own i hh ad hi hb).2.1 fun hm ad' _ h1 h2 _ e => hne (m.sr.inj i id hh hm ad ad' hi h1 hb h2 e)

theorem Turn.ok (m : Turn Γ ι S a w id h S' w') (b : Nat) (hb : okS Γ ι S w b) : okS Γ (setH ι id h) S' w' b := by
  refine ⟨Nat.lt_of_lt_of_le hb.1 m.size, hb.2.1, fun ⟨i, hh, ad, n, h1, h2, h3, h4⟩ => ?_⟩
  by_cases hid : i = id
  · subst hid
    simp only [setH, if_true] at h1
    cases h1
    obtain ⟨_, _, _, h5⟩ := m.home ad h2
    rcases h5 with h5 | ⟨hm, ad', e1, e2, e3, e4⟩
    · have := hb.1; omega
    · obtain ⟨q, hq⟩ := e4 n h4
      exact hb.2.2 ⟨i, hm, ad', q, e1, e2, by omega, hq⟩
  · simp only [setH, if_neg hid] at h1
    rw [m.inf i hid] at h4
    exact hb.2.2 ⟨i, hh, ad, n, h1, h2, h3, h4⟩

theorem Turn.repS (m : Turn Γ ι S a w id h S' w') {x : Value} {p : PV} (hp : RepS (okS Γ ι S w) w x p) : RepS (okS Γ (setH ι id h) S' w') w' x p :=
  hp.mono m.ok fun _ _ _ ho e => by rw [cell_of_block (m.kept ho)]; exact e
theorem Turn.repT (m : Turn Γ ι S a w id h S' w') {x : Value} {p : PV} (hp : RepT ι (okS Γ ι S w) w x p) : RepT (setH ι id h) (okS Γ (setH ι id h) S' w') w' x p :=
  hp.mono (fun i hh hi => by
    by_cases e : i = id
    · subst e; exact ⟨h, by simp [setH], m.later hh hi⟩
    · exact ⟨hh, by simp [setH, e, hi], .refl hh⟩) m.ok fun _ _ _ ho e => by rw [cell_of_block (m.kept ho)]; exact e

theorem Turn.done (m : Turn Γ ι S a w id h S' w')
    (hc : ∀ off, S' (.c id off) ≠ .junk → h.arr = false ∧ ∃ b o x, h.base = some ⟨b, o, none⟩ ∧ w'.cell? ⟨b, o + off, none⟩ = some x ∧ x.oneCell' = true ∧ RepT (setH ι id h) (okS Γ (setH ι id h) S' w') w' x (S' (.c id off)))
    (ha : ∀ g el es xs, S' (.a id) = .arr g el es xs → (h.arr = true ∧ h.g = g) ∧ ArrOK (okS Γ (setH ι id h) S' w') w' h el es xs)
    (ho : ∀ q, S' (.a id) = .obj q → h.arr = false ∧ ∃ b, h.base = some ⟨b, 0, none⟩ ∧ w'.heap[b]? = some q ∧ ∀ c e f, q ≠ .cells c e f) :
    SR Γ (setH ι id h) S' a w' := by
  have sr := m.sr
  have old : ∀ i hh, ι i = some hh → i ≠ id → setH ι id h i = some hh := fun i hh hi e => by simp [setH, e, hi]
  have inv : ∀ i hh, setH ι id h i = some hh → i ≠ id → ι i = some hh := fun i hh hi e => by simpa [setH, e] using hi
  have cell : ∀ i hh b o k x, ι i = some hh → hh.base = some ⟨b, o, none⟩ → i ≠ id → w.cell? ⟨b, k, none⟩ = some x → w'.cell? ⟨b, k, none⟩ = some x := fun i hh b o k x hi hb hne e => by
    have := m.keptOf hi hb hne
    rw [cell_of_block this]; exact e
  exact {
    ext := ⟨m.os.trans sr.ext.os, m.tape.trans sr.ext.tape, m.output.trans sr.ext.output, Nat.le_trans sr.ext.size m.size, fun k hk hm => by
      rw [← sr.ext.block k hk hm]
      refine m.same k (Nat.lt_of_lt_of_le hk sr.ext.size) fun hh ad n h1 h2 _ e => ?_
      rcases (sr.own id hh ad h1 h2).2.2.1 with h3 | h3
      · rw [← e] at h3; exact hm h3
      · omega⟩
    tmps := fun n => by rw [m.tmps]; exact m.repT (sr.tmps n)
    size := sr.size
    pin := fun v hv => by rw [m.pin]; exact m.repT (sr.pin v hv)
    defers := sr.defers
    cells := fun i off hn => by
      by_cases e : i = id
      · subst e
        obtain ⟨h1, b, o, x, h2, h3, h4⟩ := hc off hn
        exact ⟨h, b, o, x, by simp [setH], h1, h2, h3, h4⟩
      · rw [m.cels i off e] at hn ⊢
        obtain ⟨hh, b, o', x, h1, h2, h3, h4, h6, h5⟩ := sr.cells i off hn
        exact ⟨hh, b, o', x, old i hh h1 e, h2, h3, cell i hh b o' _ _ h1 h3 e h4, h6, m.repT h5⟩
    arrs := fun i g el es xs hx => by
      by_cases e : i = id
      · subst e
        obtain ⟨h1, h2⟩ := ha g el es xs hx
        exact ⟨h, by simp [setH], h1, h2⟩
      · rw [m.arr i e] at hx
        obtain ⟨hh, h1, h2, h3⟩ := sr.arrs i g el es xs hx
        exact ⟨hh, old i hh h1 e, h2, h3.mono m.ok (fun b o x ho ex => by rw [cell_of_block (m.kept ho)]; exact ex) fun g hg => m.keptOf h1 hg e⟩
    objs := fun i q hx => by
      by_cases e : i = id
      · subst e
        obtain ⟨h1, b, h2, h3, h4⟩ := ho q hx
        exact ⟨h, b, by simp [setH], h1, h2, h3, h4⟩
      · rw [m.arr i e] at hx
        obtain ⟨hh, b, h1, h2, h3, h4, h5⟩ := sr.objs i q hx
        exact ⟨hh, b, old i hh h1 e, h2, h3, by rw [m.keptOf h1 h3 e]; exact h4, h5⟩
    live := fun i hh hi => by
      by_cases e : i = id
      · subst e; exact m.live
      · rw [m.inf i e]; exact sr.live i hh (inv i hh hi e)
    inj := fun i i' hh hh' ad ad' hi hi' hb hb' he => by
      have key : ∀ j hj adj, setH ι id h j = some hj → hj.base = some adj → j ≠ id → ∀ adh, h.base = some adh → adj.block ≠ adh.block := by
        intro j hj adj hpj hbj hne adh hbh e
        have hji := inv j hj hpj hne
        obtain ⟨_, _, _, h5⟩ := m.home adh hbh
        rcases h5 with h5 | ⟨hm, ad2, e1, e2, e3, _⟩
        · have := (sr.own j hj adj hji hbj).2.1; omega
        · exact hne (sr.inj j id hj hm adj ad2 hji e1 hbj e2 (by omega))
      by_cases e : i = id <;> by_cases e' : i' = id
      · rw [e, e']
      · subst e
        simp only [setH, if_true] at hi; cases hi
        exact absurd he.symm (key i' hh' ad' hi' hb' e' ad hb)
      · subst e'
        simp only [setH, if_true] at hi'; cases hi'
        exact absurd he (key i hh ad hi hb e ad' hb')
      · exact sr.inj i i' hh hh' ad ad' (inv _ _ hi e) (inv _ _ hi' e') hb hb' he
    own := fun i hh ad hi hb => by
      by_cases e : i = id
      · subst e
        simp only [setH, if_true] at hi; cases hi
        obtain ⟨h1, h2, h3, h4⟩ := m.home ad hb
        refine ⟨h1, h2, ?_, h3⟩
        rcases h4 with h4 | ⟨hm, ad', e1, e2, e3, _⟩
        · exact .inr (Nat.le_trans sr.ext.size h4)
        · rw [← e3]; exact (sr.own i hm ad' e1 e2).2.2.1
      · have hi' := inv _ _ hi e
        obtain ⟨h1, h2, h3, h4⟩ := sr.own i hh ad hi' hb
        refine ⟨h1, Nat.lt_of_lt_of_le h2 m.size, h3, fun k => ?_⟩
        have := h4 k
        simp only [World.frozen?] at this ⊢
        rw [m.keptOf hi' hb e]; exact this }

end Go.Pi

/- The evaluator: what an operation does to a state that is told by keys. It is made to be run by 'cbv' under a variable M of scalar operations. -/
namespace Go.Pi
open Go

/-- What is known of a type. -/
structure TI where
  size : Nat
  agg : Bool
  bytes : Nat
  zero : Value
  elem : Nat
  fields : List (Nat × Nat)
  int : Option IntKind
  str : Bool
  bl : Bool

structure TyOK (P : Program) (t : Nat) (ti : TI) : Prop where
  size : ∀ w, (sizeOf t).run P w = .ok ti.size w
  agg : ∀ w, (isAgg t).run P w = .ok ti.agg w
  zero : ∀ w, (zeroValue t).run P w = .ok ti.zero w
  zsize : ti.zero.cells.size = ti.size
  bytes : ∀ w, ∃ i, (typeInfo t).run P w = .ok i w ∧ i.bytes = ti.bytes
  elem : ti.elem ≠ 0 → ∀ w, (underlying t).run P w = .ok (.slice ti.elem) w
  fields : ti.fields ≠ [] → ∃ fs, (∀ w, (underlying t).run P w = .ok (.struct fs) w) ∧ fs.toList.map (fun f => (f.type, f.offset)) = ti.fields ∧ ∀ f ∈ fs.toList, (P.info? f.type).isSome = true
  int : ∀ k, ti.int = some k → ∀ w, (underlying t).run P w = .ok (.int k) w
  str : ti.str = true → ∀ w, (underlying t).run P w = .ok .string w
  bl : ti.bl = true → ∀ w, (underlying t).run P w = .ok .bool w
  info : ∃ i, P.info? t = some i ∧ i.size = ti.size ∧ i.bytes = ti.bytes ∧ i.zero = some ti.zero
  und : ti.elem ≠ 0 → P.underlying t = some (.slice ti.elem)
  one : ti.agg = false → ti.size = 1
  pos : 0 < ti.size

/-- Scalar operations (and those on lists), by name. In a walk the table of them is a variable: so nothing unfolds them. -/
inductive MK where
  | arith | shift | cmp | un | conv | not | beq | mn | mx | scmp | sat | slen | sext | len | sub | app | set | rep
@[reducible] def MK.Ty : MK → Type
  | .arith => BinOp → IntKind → Int → Int → Int
  | .shift => BinOp → IntKind → Int → Int → Int
  | .cmp => BinOp → Int → Int → Bool
  | .un => UnOp → IntKind → Int → Int
  | .conv => IntKind → Int → Int
  | .not => Bool → Bool
  | .beq => BinOp → Bool → Bool → Bool
  | .mn => Int → Int → Int
  | .mx => Int → Int → Int
  | .scmp => BinOp → ByteArray → ByteArray → Bool
  | .sat => ByteArray → Int → Int
  | .slen => ByteArray → Nat
  | .sext => ByteArray → Int → Int → ByteArray
  | .len => List (List PV) → Nat
  | .sub => List (List PV) → Int → Int → List (List PV)
  | .app => List (List PV) → List (List PV) → List (List PV)
  | .set => List (List PV) → Int → List PV → List (List PV)
  | .rep => Int → List PV → List (List PV)
abbrev Mach := (k : MK) → k.Ty

def Real : Mach
  | .arith => fun op k a b => match op with
    | .add => k.wrap (a + b)
    | .sub => k.wrap (a - b)
    | .mul => k.wrap (a * b)
    | .quo => k.wrap (a.tdiv b)
    | .rem => a.tmod b
    | .and => k.wrap (BitVec.ofInt k.bits a &&& BitVec.ofInt k.bits b).toNat
    | .or => k.wrap (BitVec.ofInt k.bits a ||| BitVec.ofInt k.bits b).toNat
    | .xor => k.wrap (BitVec.ofInt k.bits a ^^^ BitVec.ofInt k.bits b).toNat
    | .andNot => k.wrap (BitVec.ofInt k.bits a &&& ~~~(BitVec.ofInt k.bits b)).toNat
    | _ => 0
  | .shift => fun op k a b => match op with
    | .shl => k.wrap (a * 2 ^ (min b.toNat k.bits))
    | .shr => a.fdiv (2 ^ (min b.toNat k.bits))
    | _ => 0
  | .cmp => fun op a b => match op with
    | .eql => a == b
    | .neq => a != b
    | .lss => decide (a < b)
    | .leq => decide (a ≤ b)
    | .gtr => decide (a > b)
    | .geq => decide (a ≥ b)
    | _ => false
  | .un => fun op k a => match op with
    | .neg => k.wrap (0 - a)
    | .xor => k.wrap (BitVec.ofInt k.bits (if k.signed then -1 else k.max) ^^^ BitVec.ofInt k.bits a).toNat
    | _ => 0
  | .conv => fun k a => k.wrap a
  | .not => fun b => !b
  | .beq => fun op a b => match op with
    | .eql => a == b
    | _ => !(a == b)
  | .mn => fun a b => if b < a then b else a
  | .mx => fun a b => if b > a then b else a
  | .scmp => fun op s t => match op with
    | .eql => s.toList == t.toList
    | .neq => !(s.toList == t.toList)
    | .lss => Op.bytesLess s.toList t.toList
    | .leq => Op.bytesLess s.toList t.toList || s.toList == t.toList
    | .gtr => !(Op.bytesLess s.toList t.toList || s.toList == t.toList)
    | .geq => !(Op.bytesLess s.toList t.toList)
    | _ => false
  | .sat => fun s i => match s[i.toNat]? with | some b => b.toNat | none => 0
  | .slen => fun s => s.size
  | .sext => fun s l h => s.extract l.toNat h.toNat
  | .len => fun xs => xs.length
  | .sub => fun xs l h => (xs.drop l.toNat).take (h - l).toNat
  | .app => fun xs ys => xs ++ ys
  | .set => fun xs i cs => xs.set i.toNat cs
  | .rep => fun n cs => List.replicate n.toNat cs

/-! ### Nodes at which the evaluation stops -/
inductive Idx (xs : List (List PV)) (i : Int) (K : List PV → Prop) : Prop
  | mk (cs : List PV) (h0 : 0 ≤ i) (h : xs[i.toNat]? = some cs) (k : K cs)
inductive SIdx (s : ByteArray) (i : Int) (q : Prop) : Prop
  | mk (h : 0 ≤ i ∧ i < s.size) (k : q)
inductive Le (a b : Int) (q : Prop) : Prop
  | mk (h : a ≤ b) (k : q)
inductive Nz (a : Int) (q : Prop) : Prop
  | mk (h : a ≠ 0) (k : q)
/-- A slice against nil: it is nil, or it isn't; one that shows elements isn't. -/
inductive NilT (xs : List (List PV)) (K : Bool → Prop) : Prop
  | mk (h : ∀ b : Bool, (xs ≠ [] → b = false) → K b)
/-- A part of an array of the call's own: read; or the array itself is cut. -/
inductive Part (R C : Prop) : Prop
  | read (h : R)
  | cut (h : C)
/-- Few enough to be held. -/
inductive Few (xs : List (List PV)) (q : Prop) : Prop
  | mk (h : xs.length ≤ 2147483648) (k : q)
/-- The same, but for what an empty list's elements would be. -/
def like : Nat → PV → PV → Prop
  | 0, p, q => p = q
  | n + 1, p, q => match p, q with
    | .list es xs, .list es' xs' => xs = xs' ∧ (es = es' ∨ xs' = [])
    | .nil, .list _ xs' => xs' = []
    | .agg cs, .agg cs' => likes (like n) cs cs'
    | .tup cs, .tup cs' => likes (like n) cs cs'
    | .ref cs, .ref cs' => likes (like n) cs cs'
    | .clo f a b, .clo f' a' b' => f = f' ∧ likes (like n) a a' ∧ likes (like n) b b'
    | p, q => p = q
where likes (f : PV → PV → Prop) : List PV → List PV → Prop
  | [], [] => True
  | x :: r, y :: l => f x y ∧ likes f r l
  | _, _ => False
def likeL (a b : List PV) : Prop := like.likes (like 4) a b
/-- What a contract speaks of: values; a new array that is handed back; an array that is handed over to be written, and handed back, or another value; a struct with one new array in it. -/
inductive Mode where | plain | fresh | back | val | part
inductive Calling (call : Mode → FuncId → List PV → PV → Prop) (f : FuncId) (args : List PV) (K : PV → Prop) (KF : Nat → Nat → List (List PV) → Prop) (KP : List PV → Nat → Nat → List (List PV) → List PV → Prop) : Prop
  | mk (y : PV) (h : call .plain f args y) (k : K y)
  | as (args' : List PV) (y : PV) (hl : likeL args args') (h : call .plain f args' y) (k : K y)
  | new (el es : Nat) (xs : List (List PV)) (h : call .fresh f args (.arr 0 el es xs)) (k : KF el es xs)
  | newAs (args' : List PV) (el es : Nat) (xs : List (List PV)) (hl : likeL args args') (h : call .fresh f args' (.arr 0 el es xs)) (k : KF el es xs)
  | part (pre : List PV) (el es : Nat) (xs : List (List PV)) (post : List PV) (h : call .part f args (.tup [.tup pre, .arr 0 el es xs, .tup post])) (k : KP pre el es xs post)
/-- The first argument is handed over to be written: it is handed back, or another value is. -/
inductive Handing (call : Mode → FuncId → List PV → PV → Prop) (f : FuncId) (el es : Nat) (xs : List (List PV)) (pre args : List PV) (KO : List (List PV) → Prop) (KY : List (List PV) → PV → Prop) : Prop
  | back (xs' : List (List PV)) (h : call .back f [.tup pre, .arr 0 el es xs, .tup args] (.arr 0 el es xs')) (k : KO xs')
  | val (xs' : List (List PV)) (y : PV) (h : call .val f [.tup pre, .arr 0 el es xs, .tup args] (.tup [.arr 0 el es xs', y])) (k : KY xs' y)
  | valAs (pre' args' : List PV) (xs' : List (List PV)) (y : PV) (hl : likeL pre pre') (hl' : likeL args args') (h : call .val f [.tup pre', .arr 0 el es xs, .tup args'] (.tup [.arr 0 el es xs', y])) (k : KY xs' y)

/-! ### The evaluator -/
abbrev Mem := List (Key × PV)

def Key.same : Key → Key → Bool
  | .t x, .t y => Nat.beq x y
  | .c x u, .c y v => match Nat.beq x y with | true => Nat.beq u v | false => false
  | .a x, .a y => Nat.beq x y
  | .i x, .i y => Nat.beq x y
  | .p, .p => true
  | _, _ => false
theorem Key.same_iff (k k' : Key) : k.same k' = true ↔ k = k' := by
  cases k <;> cases k' <;> simp [Key.same]
  rename_i x u y v
  by_cases h : x = y
  · subst h; simp
  · have : Nat.beq x y = false := by
      cases e : Nat.beq x y with
      | false => rfl
      | true => exact absurd (Nat.eq_of_beq_eq_true e) h
    simp [this, h]

def lk : Mem → Key → PV
  | [], _ => .junk
  | (k', p) :: r, k => match Key.same k k' with | true => p | false => lk r k
def toS (m : Mem) : Sta := lk m
theorem toS_cons (k : Key) (p : PV) (m : Mem) : toS ((k, p) :: m) = upd [(k, p)] (toS m) := by
  funext k'
  rw [upd_cons]
  simp only [toS, lk]
  by_cases h : k' = k
  · rw [if_pos h, (Key.same_iff k' k).2 h]
  · rw [if_neg h]
    have : Key.same k' k = false := by
      cases e : Key.same k' k with
      | false => rfl
      | true => exact absurd ((Key.same_iff k' k).1 e) h
    rw [this]; rfl
theorem toS_append (wr m : Mem) : toS (wr ++ m) = upd wr (toS m) := by
  induction wr with
  | nil => rfl
  | cons x r ih =>
    obtain ⟨k, p⟩ := x
    rw [List.cons_append, toS_cons, ih, show (k, p) :: r = [(k, p)] ++ r from rfl, upd_append]

/-- One list ahead of another. -/
def ahead : Mem → Mem → Mem
  | [], m => m
  | x :: r, m => x :: ahead r m
theorem ahead_eq (a m : Mem) : ahead a m = a ++ m := by induction a with
  | nil => rfl
  | cons x r ih => simp [ahead, ih]

def constPV : Value → PV
  | .slice none 0 0 => .nil
  | x => .v x
def ev (m : Mem) : Operand → PV
  | .tmp t => lk m (.t t)
  | .const v => constPV v
  | .global g => .v (.pointer (some ⟨g, 0, none⟩))
  | .func f => .clo (.func f) [] []
def evs (m : Mem) : List Operand → List PV
  | [] => []
  | x :: r => ev m x :: evs m r

def vcells : List Value → List PV
  | [] => []
  | x :: r => constPV x :: vcells r
def cellsOf : PV → Option (List PV)
  | .agg cs => some cs
  | .v (.agg vs) => some (vcells vs.toList)
  | .v (.tuple _) => none
  | .v x => some [.v x]
  | .nil => some [.nil]
  | .list es xs => some [.list es xs]
  | .ref cs => some [.ref cs]
  | .clo fn a b => some [.clo fn a b]
  | .own id g => some [.own id g]
  | .sub id g o l => some [.sub id g o l]
  | .ptr id o => some [.ptr id o]
  | .eptr id g i o => some [.eptr id g i o]
  | .mref id => some [.mref id]
  | _ => none
/-- May it stand in one cell? -/
def cel : PV → Bool
  | .v (.agg _) | .v (.tuple _) => false
  | .v _ | .nil | .list .. | .ref .. | .clo .. | .own .. | .sub .. | .ptr .. | .eptr .. | .mref .. => true
  | _ => false
def cels : List PV → Bool
  | [] => true
  | c :: r => match cel c with | true => cels r | false => false
/-- Does it bear an address of the call's own? -/
def plain : PV → Bool
  | .v (.agg _) | .v (.tuple _) => false
  | .v _ | .nil | .list .. | .ref .. => true
  | _ => false
def plains : List PV → Bool
  | [] => true
  | c :: r => match plain c with | true => plains r | false => false

def plen : List PV → Nat
  | [] => 0
  | _ :: r => plen r + 1
def pdrop : Nat → List PV → List PV
  | 0, l => l
  | _ + 1, [] => []
  | n + 1, _ :: r => pdrop n r
def ptake : Nat → List PV → Option (List PV)
  | 0, _ => some []
  | _ + 1, [] => none
  | n + 1, x :: r => match ptake n r with | some l => some (x :: l) | none => none
/-- ws written over l from off on. -/
def pover : List PV → Nat → List PV → List PV
  | l, _, [] => l
  | [], _, _ :: _ => []
  | _ :: r, 0, w :: ws => w :: pover r 0 ws
  | x :: r, n + 1, w :: ws => x :: pover r n (w :: ws)
def pnth : List PV → Nat → PV
  | [], _ => .junk
  | x :: _, 0 => x
  | _ :: r, n + 1 => pnth r n

/-- A value of a type out of the cells from here on. -/
def ldTy (ti : TI) (cs : List PV) : Option PV :=
  match ti.agg with
  | true => match ptake ti.size cs with | some l => some (.agg l) | none => none
  | false => match cs with | c :: _ => some c | [] => none
def ldBox (m : Mem) (id : Nat) : Nat → Nat → List PV
  | _, 0 => []
  | off, n + 1 => lk m (.c id off) :: ldBox m id (off + 1) n
def known : List PV → Bool
  | [] => true
  | .junk :: _ => false
  | _ :: r => known r
def boxKeys (id : Nat) : Nat → Nat → List Key
  | _, 0 => []
  | off, n + 1 => .c id off :: boxKeys id (off + 1) n
def kapp : List Key → List Key → List Key
  | [], b => b
  | x :: r, b => x :: kapp r b
def napp : List Nat → List Nat → List Nat
  | [], b => b
  | x :: r, b => x :: napp r b

/-- A value told without addresses; of which objects; what is read. -/
structure Told where
  p : PV
  ids : List Nat
  rd : List Key
structure Tolds where
  ps : List PV
  ids : List Nat
  rd : List Key
def tells (f : PV → Option Told) : List PV → Option Tolds
  | [] => some ⟨[], [], []⟩
  | x :: r => match f x with
    | some a => match tells f r with
      | some b => some ⟨a.p :: b.ps, napp a.ids b.ids, kapp a.rd b.rd⟩
      | none => none
    | none => none
def tell (m : Mem) : Nat → PV → Option Told
  | 0, _ => none
  | n + 1, p => match p with
    | .v x => some ⟨.v x, [], []⟩
    | .nil => some ⟨.nil, [], []⟩
    | .list es xs => some ⟨.list es xs, [], []⟩
    | .ref cs => some ⟨.ref cs, [], []⟩
    | .own id g => match lk m (.a id) with
      | .arr g' _ es xs => match Nat.beq g g' with
        | true => some ⟨.list es xs, [id], [.a id, .i id]⟩
        | false => none
      | _ => none
    | .ptr id off => match lk m (.i id) with
      | .inf _ k => match ldBox m id off (k - off) with
        | cs => match known cs with
          | true => match tells (tell m n) cs with
            | some b => some ⟨.ref b.ps, id :: b.ids, kapp (boxKeys id off (k - off)) (.i id :: b.rd)⟩
            | none => none
          | false => none
      | _ => none
    | .agg cs => match tells (tell m n) cs with
      | some b => some ⟨.agg b.ps, b.ids, b.rd⟩
      | none => none
    | .tup cs => match tells (tell m n) cs with
      | some b => some ⟨.tup b.ps, b.ids, b.rd⟩
      | none => none
    | .clo fn a b => match tells (tell m n) a with
      | some x => match tells (tell m n) b with
        | some y => some ⟨.clo fn x.ps y.ps, napp x.ids y.ids, kapp x.rd y.rd⟩
        | none => none
      | none => none
    | _ => none
def depth : Nat := 6

/-- Left to be read alone. -/
def ice (m : Mem) : List Nat → Mem
  | [] => []
  | id :: r => match lk m (.i id) with
    | .inf _ n => (.i id, .inf false n) :: ice m r
    | _ => ice m r
def nmem (id : Nat) : List Nat → Bool
  | [] => true
  | x :: r => match Nat.beq id x with | true => false | false => nmem id r
/-- Is it told without any memory? -/
def flat : PV → Bool
  | .v _ => true
  | .tup cs => flats cs
  | _ => false
where flats : List PV → Bool
  | [] => true
  | .v _ :: r => flats r
  | _ => false

structure Env where
  tab : Unit → List (Nat × TI)
  call : Mode → FuncId → List PV → PV → Prop
def tyAt : List (Nat × TI) → Nat → Option TI
  | [], _ => none
  | (k, x) :: r, n => match Nat.beq n k with | true => some x | false => tyAt r n
def Env.ty (E : Env) (t : Nat) : Option TI := tyAt (E.tab ()) t
def fldAt : List (Nat × Nat) → Nat → Option (Nat × Nat)
  | [], _ => none
  | x :: _, 0 => some x
  | _ :: r, n + 1 => fldAt r n

def kindEq : IntKind → IntKind → Bool
  | .i8, .i8 | .i16, .i16 | .i32, .i32 | .i64, .i64 | .u8, .u8 | .u16, .u16 | .u32, .u32 | .u64, .u64 => true
  | _, _ => false

/-- The elements that a slice shows: of a list, of an array of the call's own, of nil. -/
structure Elems where
  es : Nat
  xs : List (List PV)
  ids : List Nat
  rd : List Key
def optP {α : Type} (x : Option α) (K : α → Prop) : Prop := match x with | some v => K v | none => False
def optE (x : Option Elems) (K : Nat → List (List PV) → List Nat → List Key → Prop) : Prop := match x with | some ⟨a, b, c, d⟩ => K a b c d | none => False
def isT (b : Bool) (q : Prop) : Prop := match b with | true => q | false => False

/-- What goes on: the value, what was read (beside the operands), what was written, the next object's number. -/
abbrev Kont := PV → List Key → Mem → Nat → Prop

inductive BKind where | arith | cmp | shift | div | none
def bkind : BinOp → BKind
  | .add | .sub | .mul | .and | .or | .xor | .andNot => .arith
  | .quo | .rem => .div
  | .shl | .shr => .shift
  | .eql | .neq | .lss | .leq | .gtr | .geq => .cmp
def eqNeq : BinOp → Bool
  | .eql | .neq => true
  | _ => false

def binV (M : Mach) (E : Env) (op : BinOp) (t : Nat) (x y : PV) (n : Nat) (K : Kont) : Prop :=
  match x, y with
  | .v (.int k a), .v (.int k' b) => match bkind op with
    | .arith => isT (kindEq k k') (K (.v (.int k (M .arith op k a b))) [] [] n)
    | .div => isT (kindEq k k') (Nz b (K (.v (.int k (M .arith op k a b))) [] [] n))
    | .cmp => isT (kindEq k k') (K (.v (.bool (M .cmp op a b))) [] [] n)
    | .shift => Le 0 b (K (.v (.int k (M .shift op k a b))) [] [] n)
    | .none => False
  | .v (.string s), .v (.string t) => match bkind op with
    | .cmp => K (.v (.bool (M .scmp op s t))) [] [] n
    | _ => False
  | .v (.bool a), .v (.bool b) => isT (eqNeq op) (optP (E.ty t) fun ti => isT ti.bl (K (.v (.bool (M .beq op a b))) [] [] n))
  | _, _ => False

def zrow (ti : TI) : List PV := vcells ti.zero.cells.toList

/-- Parts of a struct laid into its zero's cells. -/
def fillS (E : Env) (m : Mem) (fs : List (Nat × Nat)) : List (Nat × Operand) → List PV → Option (List PV)
  | [], cs => some cs
  | (f, x) :: r, cs => match fldAt fs f with
    | some (ty, off) => match E.ty ty with
      | some ti => match cellsOf (ev m x) with
        | some ws => match Nat.beq (plen ws) ti.size with
          | true => match Nat.ble (off + plen ws) (plen cs) with
            | true => fillS E m fs r (pover cs off ws)
            | false => none
          | false => none
        | none => none
      | none => none
    | none => none
/-- A row of a slice's literal. -/
structure Rows where
  rows : List (List PV)
  ids : List Nat
  rd : List Key
def setRow : List (List PV) → Nat → List PV → List (List PV)
  | [], _, _ => []
  | _ :: r, 0, x => x :: r
  | y :: r, n + 1, x => y :: setRow r n x
def zrows (z : List PV) : Nat → List (List PV)
  | 0 => []
  | n + 1 => z :: zrows z n
def fillR (m : Mem) (size len : Nat) : List (Nat × Operand) → Rows → Option Rows
  | [], R => some R
  | (i, x) :: r, R => match Nat.ble (i + 1) len with
    | true => match cellsOf (ev m x) with
      | some ws => match Nat.beq (plen ws) size with
        | true => match tells (tell m depth) ws with
          | some b => match plains b.ps with
            | true => fillR m size len r ⟨setRow R.rows i b.ps, napp b.ids R.ids, kapp b.rd R.rd⟩
            | false => none
          | none => none
        | false => none
      | none => none
    | false => none

def elems (m : Mem) : PV → Option Elems
  | .nil => some ⟨0, [], [], []⟩
  | .list es xs => some ⟨es, xs, [], []⟩
  | .own id g => match lk m (.a id) with
    | .arr g' _ es xs => match Nat.beq g g' with
      | true => some ⟨es, xs, [id], [.a id, .i id]⟩
      | false => none
    | _ => none
  | _ => none

/-- Have the elements of a slice the size of their type? -/
def esOK (es size : Nat) (xs : List (List PV)) : Bool :=
  match Nat.beq es size with
  | true => true
  | false => match xs with | [] => true | _ :: _ => false

def sliceV (M : Mach) (es : Nat) (xs : List (List PV)) (lo hi : Option PV) (K : PV → Prop) : Prop :=
  match lo, hi with
  | none, none => K (.list es xs)
  | none, some (.v (.int _ h)) => Le 0 h (Le h (Int.ofNat (M .len xs)) (K (.list es (M .sub xs 0 h))))
  | some (.v (.int _ l)), none => Le 0 l (Le l (Int.ofNat (M .len xs)) (K (.list es (M .sub xs l (Int.ofNat (M .len xs))))))
  | some (.v (.int _ l)), some (.v (.int _ h)) => Le 0 l (Le l h (Le h (Int.ofNat (M .len xs)) (K (.list es (M .sub xs l h)))))
  | _, _ => False
def sextV (M : Mach) (s : ByteArray) (lo hi : Option PV) (K : PV → Prop) : Prop :=
  match lo, hi with
  | none, none => K (.v (.string s))
  | none, some (.v (.int _ h)) => Le 0 h (Le h (Int.ofNat (M .slen s)) (K (.v (.string (M .sext s 0 h)))))
  | some (.v (.int _ l)), none => Le 0 l (Le l (Int.ofNat (M .slen s)) (K (.v (.string (M .sext s l (Int.ofNat (M .slen s)))))))
  | some (.v (.int _ l)), some (.v (.int _ h)) => Le 0 l (Le l h (Le h (Int.ofNat (M .slen s)) (K (.v (.string (M .sext s l h))))))
  | _, _ => False
/-- A part of what a slice shows; of nil: nil; of an array of the call's own: the array cut. -/
def partV (M : Mach) (m : Mem) (n : Nat) (K : PV → List Key → Mem → Nat → Prop) (te : TI) (x : PV) (lo hi : Option PV) : Prop :=
  match x, lo, hi with
  | .nil, none, some (.v (.int _ h)) => Le 0 h (Le h 0 (K .nil [] [] n))
  | .own id g, none, some (.v (.int k h)) => Part
      (optE (elems m (.own id g)) fun bes bxs bids brd => isT (esOK bes te.size bxs) (sliceV M bes bxs none (some (.v (.int k h))) fun v => K v brd (ice m bids) n))
      (match lk m (.a id), lk m (.i id) with
        | .arr g' el es xs, .inf true _ => isT (Nat.beq g g') (isT (Nat.beq es te.size) (Le 0 h (Le h (Int.ofNat (M .len xs)) (K (.own id (g + 1)) [.i id, .a id] [(.a id, .arr (g + 1) el es (M .sub xs 0 h))] n))))
        | _, _ => False)
  | x, lo, hi => optE (elems m x) fun bes bxs bids brd => isT (esOK bes te.size bxs) (sliceV M bes bxs lo hi fun v => K v brd (ice m bids) n)
def evo (m : Mem) : Option Operand → Option PV
  | none => none
  | some x => some (ev m x)
def foldMM (f : Int → Int → Int) (k : IntKind) (m : Mem) : List Operand → Int → Option Int
  | [], a => some a
  | x :: r, a => match ev m x with
    | .v (.int k' b) => match kindEq k k' with
      | true => foldMM f k m r (f a b)
      | false => none
    | _ => none

def lenV (M : Mach) (E : Env) (m : Mem) (n : Nat) (K : Kont) : List Operand → List TypeId → Prop
  | [x], [t] => optP (E.ty t) fun ti => match ti.str with
    | true => match ev m x with
      | .v (.string s) => K (.v (.int .i64 (Int.ofNat (M .slen s)))) [] [] n
      | _ => False
    | false => match ti.elem with
      | 0 => False
      | _ + 1 => optE (elems m (ev m x)) fun _ xs _ rd => K (.v (.int .i64 (Int.ofNat (M .len xs)))) rd [] n
  | _, _ => False
def capV (E : Env) (m : Mem) (n : Nat) (K : Kont) : List Operand → List TypeId → Prop
  | [x], [t] => optP (E.ty t) fun ti => match ti.elem with
    | 0 => False
    | _ + 1 => match ev m x with
      | .nil => K (.v (.int .i64 0)) [] [] n
      | _ => False
  | _, _ => False
def mmV (f : Int → Int → Int) (m : Mem) (n : Nat) (K : Kont) : List Operand → Prop
  | x :: r => match ev m x with
    | .v (.int k a) => optP (foldMM f k m r a) fun v => K (.v (.int k v)) [] [] n
    | _ => False
  | [] => False
/-- So many zeros appended to nil. -/
def appZ (M : Mach) (E : Env) (m : Mem) (n : Nat) (K : Kont) (s x : Operand) (ts tx : TypeId) : Prop :=
  match lk m (.i n) with
  | .junk => optP (E.ty ts) fun ti => optP (E.ty tx) fun tu => match ti.elem with
    | 0 => False
    | e + 1 => optP (E.ty (e + 1)) fun te => isT (Nat.ble te.bytes 4096) (isT (plains (zrow te)) (match ev m s, ev m x, tu.int with
      | .nil, .v (.int .i64 c), some .i64 => Le 0 c (Le c 2147483648 (K (.own n 0) [.i n] [(.i n, .inf true 0), (.a n, .arr 0 (e + 1) te.size (M .rep c (zrow te)))] (n + 1)))
      | _, _, _ => False))
  | _ => False
def appV (M : Mach) (E : Env) (m : Mem) (n : Nat) (K : Kont) : List Operand → List TypeId → Prop
  | [s, x], [ts, tx] => match Nat.beq ts tx with
    | false => appZ M E m n K s x ts tx
    | true => (optP (E.ty ts) fun ti => match ti.elem with
    | 0 => False
    | e + 1 => (optP (E.ty (e + 1)) fun te => isT (Nat.ble te.bytes 4096) (optE (elems m (ev m x)) fun bes bxs _ brd => match ev m s with
      | .nil => match lk m (.i n) with
        | .junk => isT (esOK bes te.size bxs) (Few bxs (K (.own n 0) (.i n :: brd) [(.i n, .inf true 0), (.a n, .arr 0 (e + 1) te.size bxs)] (n + 1)))
        | _ => False
      | .own id g => match lk m (.a id), lk m (.i id) with
        | .arr g' el es xs, .inf true _ => isT (Nat.beq g g') (isT (Nat.beq el (e + 1)) (isT (Nat.beq es te.size) (isT (esOK bes te.size bxs)
            (Few (M .app xs bxs) (K (.own id (g + 1)) (.i id :: .a id :: brd) [(.a id, .arr (g + 1) el es (M .app xs bxs))] n)))))
        | _, _ => False
      | _ => False)))
  | _, _ => False
def plainV (E : Env) (g : FuncId) (first args caps : List PV) (m : Mem) (n : Nat) (K : Kont) : Prop :=
  optP (tells (tell m depth) first) fun a => optP (tells (tell m depth) args) fun b => optP (tells (tell m depth) caps) fun d =>
    Calling E.call g (List.append a.ps (List.append b.ps d.ps)) (fun y => match flat y with
      | true => K y (kapp a.rd (kapp b.rd d.rd)) [] n
      | false => K y (kapp a.rd (kapp b.rd d.rd)) (ice m (napp a.ids (napp b.ids d.ids))) n)
      (fun el es xs => match lk m (.i n) with
      | .junk => K (.own n 0) (.i n :: kapp a.rd (kapp b.rd d.rd)) ((.i n, .inf true 0) :: (.a n, .arr 0 el es xs) :: ice m (napp a.ids (napp b.ids d.ids))) (n + 1)
      | _ => False)
      (fun pre el es xs post => isT (flat.flats pre) (isT (flat.flats post) (match lk m (.i n) with
      | .junk => K (.agg (List.append pre (.own n 0 :: post))) (.i n :: kapp a.rd (kapp b.rd d.rd)) ((.i n, .inf true 0) :: (.a n, .arr 0 el es xs) :: ice m (napp a.ids (napp b.ids d.ids))) (n + 1)
      | _ => False)))
def handV (E : Env) (g : FuncId) (m : Mem) (n : Nat) (K : Kont) (pre : List PV) (id gn : Nat) (rest : List PV) : Prop :=
  match lk m (.a id), lk m (.i id) with
  | .arr g' el es xs, .inf true _ => isT (Nat.beq gn g') (optP (tells (tell m depth) pre) fun a => optP (tells (tell m depth) rest) fun b => isT (nmem id a.ids) (isT (nmem id b.ids) (Handing E.call g el es xs a.ps b.ps
      (fun xs' => K (.own id (gn + 1)) (.i id :: .a id :: kapp a.rd b.rd) ((.a id, .arr (gn + 1) el es xs') :: ice m (napp a.ids b.ids)) n)
      (fun xs' y => K y (.i id :: .a id :: kapp a.rd b.rd) ((.a id, .arr gn el es xs') :: ice m (napp a.ids b.ids)) n))))
  | _, _ => False
/-- The first array of the call's own among these: those ahead, it, those behind. -/
inductive OwnAt where
  | none
  | at (pre : List PV) (id g : Nat) (rest : List PV)
def ownAt : List PV → OwnAt
  | [] => .none
  | x :: r => match x with
    | .own id g => .at [] id g r
    | x => match ownAt r with
      | .none => .none
      | .at pre id g rest => .at (x :: pre) id g rest
def callV (M : Mach) (E : Env) (c : Call) (m : Mem) (n : Nat) (K : Kont) : Prop :=
  match c.callee with
  | .builtin b => match b with
    | .len => lenV M E m n K c.args.toList c.argTypes.toList
    | .cap => capV E m n K c.args.toList c.argTypes.toList
    | .min => mmV (M .mn) m n K c.args.toList
    | .max => mmV (M .mx) m n K c.args.toList
    | .append => appV M E m n K c.args.toList c.argTypes.toList
    | _ => False
  | .value f => match ev m f with
    | .clo (.func g) first caps => match ownAt (List.append first (List.append (evs m c.args.toList) caps)) with
      | .none => plainV E g first (evs m c.args.toList) caps m n K
      | .at pre id gn rest => plainV E g first (evs m c.args.toList) caps m n K ∨ handV E g m n K pre id gn rest
    | _ => False
  | _ => False

def opV (M : Mach) (E : Env) (o : Op) (m : Mem) (n : Nat) (K : Kont) : Prop :=
  match o with
  | .move x | .assign x => K (ev m x) [] [] n
  | .pick c a b => match ev m c with
    | .v (.bool t) => match t with
      | true => K (ev m a) [] [] n
      | false => K (ev m b) [] [] n
    | _ => False
  | .box _ x => match lk m (.i n) with
    | .junk => optP (cellsOf (ev m x)) fun cs => isT (cels cs) (K (.ptr n 0) [.i n] ((.i n, .inf true (plen cs)) :: celW n 0 cs) (n + 1))
    | _ => False
  | .alloc t => match lk m (.i n) with
    | .junk => optP (E.ty t) fun ti => isT (cels (zrow ti)) (K (.ptr n 0) [.i n] ((.i n, .inf true (plen (zrow ti))) :: celW n 0 (zrow ti)) (n + 1))
    | _ => False
  | .fieldAddr t x f => optP (E.ty t) fun ti => optP (fldAt ti.fields f) fun q => optP (E.ty q.1) fun tf => match tf.size with
    | 0 => False
    | _ + 1 => match ev m x with
      | .ref cs => isT (Nat.ble q.2 (plen cs)) (K (.ref (pdrop q.2 cs)) [] [] n)
      | .ptr id off => K (.ptr id (off + q.2)) [] [] n
      | .eptr id g i off => match lk m (.a id) with
        | .arr g' _ _ _ => isT (Nat.beq g g') (K (.eptr id g i (off + q.2)) [.a id] [] n)
        | _ => False
      | _ => False
  | .field t x f => optP (E.ty t) fun ti => optP (fldAt ti.fields f) fun q => optP (E.ty q.1) fun tf => match ev m x with
    | .agg cs => optP (ldTy tf (pdrop q.2 cs)) fun v => K v [] [] n
    | _ => False
  | .load t x => optP (E.ty t) fun ti => match ev m x with
    | .ref cs => optP (ldTy ti cs) fun v => K v [] [] n
    | .ptr id off => match ldBox m id off ti.size with
      | cs => isT (known cs) (optP (ldTy ti cs) fun v => K v (boxKeys id off ti.size) [] n)
    | .eptr id g i off => match lk m (.a id) with
      | .arr g' _ _ xs => isT (Nat.beq g g') (Idx xs i fun cs => optP (ldTy ti (pdrop off cs)) fun v => K v [.a id] [] n)
      | _ => False
    | _ => False
  | .store t x y => optP (E.ty t) fun ti => optP (cellsOf (ev m y)) fun ws => isT (Nat.beq (plen ws) ti.size) (isT (cels ws) (match ev m x with
    | .ptr id off => match lk m (.i id) with
      | .inf true k => isT (Nat.ble (off + plen ws) k) (isT (known (ldBox m id off (plen ws))) (K .junk (.i id :: boxKeys id off (plen ws)) (celW id off ws) n))
      | _ => False
    | .eptr id g i off => match lk m (.a id), lk m (.i id) with
      | .arr g' el es xs, .inf true _ => isT (Nat.beq g g') (isT (Nat.ble (off + plen ws) es) (optP (tells (tell m depth) ws) fun b => isT (nmem id b.ids) (isT (plains b.ps) (
          Idx xs i fun cs => K .junk (.i id :: .a id :: b.rd) ((.a id, .arr g el es (M .set xs i (pover cs off b.ps))) :: ice m b.ids) n))))
      | _, _ => False
    | _ => False))
  | .indexAddr t x i => optP (E.ty t) fun ti => match ti.elem with
    | 0 => False
    | e + 1 => optP (E.ty (e + 1)) fun te => match ev m i with
      | .v (.int _ i) => match ev m x with
        | .list es xs => isT (Nat.beq es te.size) (Idx xs i fun cs => K (.ref cs) [] [] n)
        | .own id g => match lk m (.a id) with
          | .arr g' _ es xs => isT (Nat.beq g g') (isT (Nat.beq es te.size) (Idx xs i fun _ => K (.eptr id g i 0) [.a id] [] n))
          | _ => False
        | _ => False
      | _ => False
  | .index t x i => optP (E.ty t) fun ti => isT ti.str (match ev m x, ev m i with
    | .v (.string s), .v (.int _ i) => SIdx s i (K (.v (.int .u8 (M .sat s i))) [] [] n)
    | _, _ => False)
  | .binOp op t x y _ => binV M E op t (ev m x) (ev m y) n K
  | .unOp op _ x => match op, ev m x with
    | .neg, .v (.int k a) => K (.v (.int k (M .un .neg k a))) [] [] n
    | .xor, .v (.int k a) => K (.v (.int k (M .un .xor k a))) [] [] n
    | .not, .v (.bool b) => K (.v (.bool (M .not b))) [] [] n
    | _, _ => False
  | .convert s d x => optP (E.ty s) fun ts => optP (E.ty d) fun td => match ev m x with
    | .v (.int _ a) => optP td.int fun k => optP ts.int fun _ => K (.v (.int k (M .conv k a))) [] [] n
    | .v (.string s) => isT ts.str (isT td.str (K (.v (.string s)) [] [] n))
    | _ => False
  | .makeFunc fn first caps => K (.clo fn (evs m first.toList) (evs m caps.toList)) [] [] n
  | .build t parts => optP (E.ty t) fun ti => match ti.fields with
    | [] => False
    | fs => optP (fillS E m fs parts.toList (zrow ti)) fun cs => K (.agg cs) [] [] n
  | .buildSlice t len parts => match lk m (.i n) with
    | .junk => optP (E.ty t) fun ti => match ti.elem with
      | 0 => False
      | e + 1 => optP (E.ty (e + 1)) fun te => isT (Nat.ble (len * te.size) 4096) (isT (plains (zrow te)) (optP (fillR m te.size len parts.toList ⟨zrows (zrow te) len, [], []⟩) fun R =>
          K (.own n 0) (.i n :: R.rd) ((.i n, .inf true 0) :: (.a n, .arr 0 (e + 1) te.size R.rows) :: ice m R.ids) (n + 1)))
    | _ => False
  | .makeSlice t l c => match lk m (.i n) with
    | .junk => optP (E.ty t) fun ti => match ti.elem with
      | 0 => False
      | e + 1 => optP (E.ty (e + 1)) fun te => isT (Nat.ble te.bytes 4096) (isT (plains (zrow te)) (match ev m l, ev m c with
        | .v (.int .i64 l), .v (.int .i64 c) => Le l c (Le c l (Le 0 l (Le l 2147483648 (K (.own n 0) [.i n] [(.i n, .inf true 0), (.a n, .arr 0 (e + 1) te.size (M .rep l (zrow te)))] (n + 1)))))
        | _, _ => False))
    | _ => False
  | .slice t x lo hi none => optP (E.ty t) fun ti => match ti.str with
    | true => match ev m x with
      | .v (.string s) => sextV M s (evo m lo) (evo m hi) fun v => K v [] [] n
      | _ => False
    | false => match ti.elem with
      | 0 => False
      | e + 1 => optP (E.ty (e + 1)) fun te => partV M m n K te (ev m x) (evo m lo) (evo m hi)
  | .extract x i => match ev m x with
    | .tup cs => match pnth cs i with
      | .junk => False
      | v => K v [] [] n
    | _ => False
  | .call c => callV M E c m n K
  | _ => False

end Go.Pi

/- The evaluator, on: regions, and a body's code. -/
namespace Go.Pi
open Go

structure St where
  m : Mem
  n : Nat

def dstW : Option Nat → PV → Mem → Mem
  | none, _, m => m
  | some d, v, m => (.t d, v) :: m
def dstOK (nt : Nat) : Option Nat → Bool
  | none => true
  | some d => Nat.ble (d + 1) nt

def opnds : List Operand → List Key
  | [] => []
  | .tmp t :: r => .t t :: opnds r
  | _ :: r => opnds r
def nth {α : Type} : List α → Nat → Option α
  | [], _ => none
  | x :: _, 0 => some x
  | _ :: r, n + 1 => nth r n

/-- One operation of a region, with its guard. The continuation is handed all that was read, all that was written. -/
def operV (M : Mach) (E : Env) (nt : Nat) (ops : List Oper) (o : Oper) (s : St) (K : List Key → Mem → Nat → Prop) : Prop :=
  isT (dstOK nt o.dst) (match o.guard with
  | none => opV M E o.op s.m s.n fun v rd wr n => K rd (dstW o.dst v wr) n
  | some (j, w) => match nth ops j with
    | some q => match q.dst with
      | some d => match lk s.m (.t d) with
        | .v (.bool b) => match w with
          | true => match b with
            | true => opV M E o.op s.m s.n fun v rd wr n => K (.t d :: rd) (dstW o.dst v wr) n
            | false => K [.t d] (dstW o.dst (.v (.tuple #[])) []) s.n
          | false => match b with
            | true => K [.t d] (dstW o.dst (.v (.tuple #[])) []) s.n
            | false => opV M E o.op s.m s.n fun v rd wr n => K (.t d :: rd) (dstW o.dst v wr) n
        | .v (.tuple _) => K [.t d] (dstW o.dst (.v (.tuple #[])) []) s.n
        | _ => False
      | none => False
    | none => False)

/-- Is a slice asked whether it is nil? -/
def nilAt (o : Oper) : Option (TypeId × Operand) :=
  match o.guard with
  | some _ => none
  | none => match o.op with
    | .binOp .eql t x (.const (.slice none 0 0)) _ => some (t, x)
    | _ => none
/-- In the text's order. -/
def seqV (M : Mach) (E : Env) (nt : Nat) (ops : List Oper) : List Oper → St → (St → Prop) → Prop
  | [], s, K => K s
  | o :: r, s, K => match nilAt o with
    | none => operV M E nt ops o s fun _ wr n => seqV M E nt ops r ⟨ahead wr s.m, n⟩ K
    | some (t, x) => isT (dstOK nt o.dst) (optP (E.ty t) fun ti => match ti.elem with
      | 0 => False
      | _ + 1 => match ev s.m x with
        | .nil => seqV M E nt ops r ⟨ahead (dstW o.dst (.v (.bool true)) []) s.m, s.n⟩ K
        | .list _ xs => NilT xs fun b => seqV M E nt ops r ⟨ahead (dstW o.dst (.v (.bool b)) []) s.m, s.n⟩ K
        | _ => False)

/-- In whatever order the edges allow: in the text's order, each two that no edge orders being apart. -/
structure RecV where
  rd : List Key
  wr : List Key
def wkeys : Mem → List Key
  | [] => []
  | (k, _) :: r => k :: wkeys r
def has (k : Key) : List Key → Bool
  | [] => false
  | x :: r => match Key.same k x with | true => true | false => has k r
def noneIn : List Key → List Key → Bool
  | [], _ => true
  | k :: r, l => match has k l with | true => false | false => noneIn r l
def apartB (a b : RecV) : Bool :=
  match noneIn a.wr b.rd with
  | true => match noneIn a.wr b.wr with
    | true => noneIn b.wr a.rd
    | false => false
  | false => false
def binds : Ground → Bool
  | .textOnly _ | .gcOnly _ => false
  | _ => true
def edged (i : Nat) : List Edge → Bool
  | [] => false
  | e :: r => match Nat.beq e.on i with
    | true => match binds e.ground with | true => true | false => edged i r
    | false => edged i r
def downB (i : Nat) : List Edge → Bool
  | [] => true
  | e :: r => match binds e.ground with
    | true => match Nat.ble (e.on + 1) i with | true => downB i r | false => false
    | false => downB i r
/-- All that came ahead of the next one (the last first, numbered from i down): by an edge, or apart. -/
def reachE (f : List Edge → Bool) (ops : List Oper) (i : Nat) : List Edge → Bool
  | [] => false
  | e :: r => match binds e.ground with
    | false => reachE f ops i r
    | true => match Nat.beq e.on i with
      | true => true
      | false => match Nat.ble i e.on with
        | false => reachE f ops i r
        | true => match nth ops e.on with
          | none => reachE f ops i r
          | some q => match f q.after.toList with
            | true => true
            | false => reachE f ops i r
/-- .. by edges, one behind the other -/
def reach (ops : List Oper) (i : Nat) : Nat → List Edge → Bool
  | 0, _ => false
  | n + 1, es => reachE (reach ops i n) ops i es
def commB (ops : List Oper) (o : Oper) (b : RecV) : List RecV → Nat → Bool
  | [], _ => true
  | _ :: _, 0 => false
  | a :: r, i + 1 => match edged i o.after.toList with
    | true => commB ops o b r i
    | false => match apartB a b with
      | true => commB ops o b r i
      | false => match reach ops i 6 o.after.toList with
        | true => commB ops o b r i
        | false => false
def drawV (M : Mach) (E : Env) (nt : Nat) (ops : List Oper) : List Oper → Nat → List RecV → St → (St → Prop) → Prop
  | [], _, _, s, K => K s
  | o :: r, i, rs, s, K => isT (downB i o.after.toList) (operV M E nt ops o s fun rd wr n =>
      isT (commB ops o ⟨kapp (opnds o.op.operands.toList) rd, wkeys wr⟩ rs i) (drawV M E nt ops r (i + 1) (⟨kapp (opnds o.op.operands.toList) rd, wkeys wr⟩ :: rs) ⟨ahead wr s.m, n⟩ K))

/-! ### Code -/
inductive PEx where
  | normal
  | exit (id : Nat)
  | ret

/-- Is what is known of a value kept? (fuel: for what lies within) -/
def heldL (f : PV → PV → Prop) : List PV → List PV → Prop
  | [], [] => True
  | x :: r, y :: l => f x y ∧ heldL f r l
  | _, _ => False
def held (s s' : Mem) : Nat → PV → PV → Prop
  | 0, _, _ => False
  | n + 1, p, p' => match p' with
    | .junk => True
    | .own id' g' => match p with
      | .own id g => isT (Nat.beq id id') (match lk s (.a id), lk s' (.a id) with
        | .arr h _ _ _, .arr h' _ _ _ => isT (Nat.beq g h) (isT (Nat.beq g' h') True)
        | _, _ => False)
      | .nil => match lk s (.i id'), lk s' (.a id') with
        | .junk, .arr h' _ _ _ => isT (Nat.beq g' h') True
        | _, _ => False
      | _ => False
    | .list es' xs' => match p with
      | .list es xs => xs = xs' ∧ (es = es' ∨ xs' = [])
      | .nil => xs' = []
      | .own id g => match lk s (.a id), lk s' (.i id) with
        | .arr h _ es xs, .junk => isT (Nat.beq g h) (es = es' ∧ xs = xs')
        | .arr h _ es xs, .inf false _ => isT (Nat.beq g h) (es = es' ∧ xs = xs')
        | _, _ => False
      | _ => False
    | .ptr id' off' => match p with
      | .ptr id off => isT (Nat.beq id id') (isT (Nat.beq off off') (match lk s' (.i id) with | .inf _ _ => True | _ => False))
      | _ => False
    | .mref id' => match p with
      | .mref id => isT (Nat.beq id id') (match lk s' (.i id) with | .inf _ _ => True | _ => False)
      | _ => False
    | .agg cs' => match p with
      | .agg cs => heldL (held s s' n) cs cs'
      | _ => False
    | .tup cs' => match p with
      | .tup cs => heldL (held s s' n) cs cs'
      | _ => False
    | .clo f' a' b' => match p with
      | .clo f a b => f = f' ∧ heldL (held s s' n) a a' ∧ heldL (held s s' n) b b'
      | _ => False
    | .v x' => match p with
      | .v x => x = x'
      | _ => False
    | .nil => match p with
      | .nil => True
      | _ => False
    | .ref cs' => match p with
      | .ref cs => cs = cs'
      | _ => False
    | _ => False
def heldK (s s' : Mem) : Key → PV → Prop
  | .t n, p' => held s s' depth (lk s (.t n)) p'
  | .p, p' => held s s' depth (lk s .p) p'
  | .c id off, p' => match lk s (.c id off), lk s' (.i id) with
    | .junk, _ => False
    | p, .inf _ _ => held s s' depth p p'
    | _, _ => False
  | .a id, p' => match lk s (.a id), p' with
    | .arr _ el es xs, .arr _ el' es' xs' => (match lk s' (.i id) with | .inf _ _ => True | _ => False) ∧ el = el' ∧ es = es' ∧ xs = xs'
    | .junk, .arr _ _ _ xs' => match lk s (.i id), lk s' (.i id) with
      | .junk, .inf true _ => xs' = []
      | _, _ => False
    | .obj o, .obj o' => (match lk s' (.i id) with | .inf _ _ => True | _ => False) ∧ o = o'
    | _, _ => False
  | .i id, p' => match lk s (.i id), p' with
    | .inf true n, .inf _ n' => n = n'
    | .inf false n, .inf false n' => n = n'
    | .junk, .inf true n' => match lk s' (.a id) with
      | .arr _ _ _ _ => n' = 0
      | _ => False
    | _, _ => False
def heldM (s s' : Mem) : Mem → Prop
  | [] => True
  | (k, _) :: r => heldK s s' k (lk s' k) ∧ heldM s s' r

/-- A round of a loop: what a round's head looks like, by values that stand for what turns; what holds of them; what goes down. -/
inductive Loop (P : (PEx → St → Prop) → St → Prop) (Q : PEx → St → Prop) (s : St) : Prop
  | mk (X : Type) (mk : X → St) (μ : X → Nat) (I : X → Prop) (x : X) (hI : I x) (h0 : heldM s.m (mk x).m (mk x).m)
      (h : ∀ x, I x → P (fun e s' => match e with
        | .normal => ∃ x', I x' ∧ μ x' < μ x ∧ heldM s'.m (mk x').m (mk x').m
        | e => Q e s') (mk x))

/-- What doesn't turn is as it is. -/
theorem Loop.over {P : (PEx → St → Prop) → St → Prop} {Q : PEx → St → Prop} {s : St} (X : Type) (turns : X → Mem) (n : Nat) (μ : X → Nat) (I : X → Prop) (x : X) (hI : I x)
    (h0 : heldM s.m (ahead (turns x) s.m) (ahead (turns x) s.m))
    (h : ∀ x, I x → P (fun e s' => match e with
      | .normal => ∃ x', I x' ∧ μ x' < μ x ∧ heldM s'.m (ahead (turns x') s.m) (ahead (turns x') s.m)
      | e => Q e s') ⟨ahead (turns x) s.m, n⟩) : Loop P Q s := .mk X (fun x => ⟨ahead (turns x) s.m, n⟩) μ I x hI h0 h

def vc (M : Mach) (E : Env) (nt : Nat) : Code → (PEx → St → Prop) → St → Prop
  | .skip, Q, s => Q .normal s
  | .seq a b, Q, s => vc M E nt a (fun e s => match e with | .normal => vc M E nt b Q s | e => Q e s) s
  | .region _ ops d, Q, s => match d with
    | false => seqV M E nt ops.toList ops.toList s (Q .normal)
    | true => drawV M E nt ops.toList ops.toList 0 [] s (Q .normal)
  | .cond c a b, Q, s => match ev s.m c with
    | .v (.bool t) => match t with
      | true => vc M E nt a Q s
      | false => vc M E nt b Q s
    | _ => False
  | .block id b, Q, s => vc M E nt b (fun e s => match e with
    | .exit j => match Nat.beq j id with
      | true => Q .normal s
      | false => Q (.exit j) s
    | e => Q e s) s
  | .loop b, Q, s => Loop (vc M E nt b) Q s
  | .exit n, Q, s => Q (.exit n) s
  | .ret, Q, s => Q .ret s
  | _, _, _ => False

end Go.Pi

/- What the evaluator says of an operation that leaves the memory alone holds of the machine. -/
namespace Go.Pi
open Go

def RepSL (ok : Nat → Prop) (w : World) (vs : Array Value) (ps : List PV) : Prop := vs.size = ps.length ∧ ∀ i p, ps[i]? = some p → RepS ok w (vs.getD i undef) p

/-- Called with whatever shows these, f hands back what shows y; what stood stands. -/
def PCall (P : Program) (A : World → Prop) (f : FuncId) (args : List PV) (y : PV) : Prop :=
  ∀ (ok : Nat → Prop) (w : World) (vs : Array Value), A w → (∀ b, ok b → b < w.heap.size) → RepSL ok w vs args →
    Calls P f vs w (fun e w' => ∃ v, e = .returned v ∧ Ext (fun _ => False) w w' ∧ RepS (fun b => ok b ∨ (w.heap.size ≤ b ∧ b < w'.heap.size)) w' v y)

/-- What holds of an array's home, seen by those that don't know it. -/
structure HomeOK (ok : Nat → Prop) (w : World) (h : Home) (el es : Nat) (xs : List (List PV)) : Prop where
  arr : h.arr = true
  base : ∀ a, h.base = some a → a.spot = none ∧ a.block < w.heap.size ∧ ¬ ok a.block ∧ ∀ o, w.frozen? ⟨a.block, o, none⟩ = false
  rows : ArrOK ok w h el es xs

/-- Called with whatever shows these, f hands back a new array, the whole of it. -/
def FCall (P : Program) (A : World → Prop) (f : FuncId) (args : List PV) (el es : Nat) (xs : List (List PV)) : Prop :=
  ∀ (ok : Nat → Prop) (w : World) (vs : Array Value), A w → (∀ b, ok b → b < w.heap.size) → RepSL ok w vs args →
    Calls P f vs w (fun e w' => ∃ h : Home, e = .returned (h.slice 0 h.len) ∧ Ext (fun _ => False) w w' ∧ (∀ a, h.base = some a → w.heap.size ≤ a.block) ∧
      HomeOK (fun b => (ok b ∨ (w.heap.size ≤ b ∧ b < w'.heap.size)) ∧ ∀ a, h.base = some a → b ≠ a.block) w' h el es xs)

/-- Values that are known wholly. -/
def FlatL (vs : Array Value) (ps : List PV) : Prop := vs.size = ps.length ∧ ∀ i p, ps[i]? = some p → p = PV.v (vs.getD i undef)
/-- Called with whatever shows these, f hands back a struct: known values, the whole of a new array, known values. -/
def GCall (P : Program) (A : World → Prop) (f : FuncId) (args : List PV) (pre : List PV) (el es : Nat) (xs : List (List PV)) (post : List PV) : Prop :=
  ∀ (ok : Nat → Prop) (w : World) (vs : Array Value), A w → (∀ b, ok b → b < w.heap.size) → RepSL ok w vs args →
    Calls P f vs w (fun e w' => ∃ (h : Home) (va vb : Array Value), e = .returned (.agg (va ++ #[h.slice 0 h.len] ++ vb)) ∧ FlatL va pre ∧ FlatL vb post ∧ Ext (fun _ => False) w w' ∧ (∀ a, h.base = some a → w.heap.size ≤ a.block) ∧
      HomeOK (fun b => (ok b ∨ (w.heap.size ≤ b ∧ b < w'.heap.size)) ∧ ∀ a, h.base = some a → b ≠ a.block) w' h el es xs)

def homeB (h : Home) (b : Nat) : Prop := ∃ a, h.base = some a ∧ a.block = b
/-- Called with an array that is handed over to be written (and whatever shows these): it lies where it lay (or in a new block), and holds these now; it is handed back, or another value is. -/
def leftB (ok : Nat → Prop) (w w' : World) (h h' : Home) (b : Nat) : Prop := (ok b ∨ (w.heap.size ≤ b ∧ b < w'.heap.size)) ∧ ∀ a, (h.base = some a ∨ h'.base = some a) → b ≠ a.block
def MCall (P : Program) (A : World → Prop) (f : FuncId) (el es : Nat) (xs : List (List PV)) (pre args : List PV) (xs' : List (List PV)) (y : Option PV) : Prop :=
  ∀ (ok : Nat → Prop) (w : World) (h : Home) (vp vs : Array Value), (∀ w', Ext (homeB h) w w' → A w') → (∀ b, ok b → b < w.heap.size) → HomeOK ok w h el es xs → RepSL ok w vp pre → RepSL ok w vs args →
    Calls P f (vp ++ #[h.slice 0 h.len] ++ vs) w (fun e w' => ∃ v h', e = .returned v ∧ Ext (homeB h) w w' ∧ (∀ a, h'.base = some a → homeB h a.block ∨ w.heap.size ≤ a.block) ∧
      HomeOK (leftB ok w w' h h') w' h' el es xs' ∧
      match y with
      | none => v = h'.slice 0 h'.len
      | some y => (h'.base = h.base ∧ h'.len = h.len ∧ h'.cap = h.cap) ∧ RepS (leftB ok w w' h h') w' v y)

structure EnvOK (P : Program) (A : World → Prop) (E : Env) : Prop where
  ty : ∀ t ti, E.ty t = some ti → TyOK P t ti
  enters : ∀ k f args y, E.call k f args y → ∀ vs w, (callFunc f vs).run P w = .ok (.enter f vs) w
  call : ∀ f args y, E.call .plain f args y → PCall P A f args y
  fresh : ∀ f args el es xs, E.call .fresh f args (.arr 0 el es xs) → FCall P A f args el es xs
  part : ∀ f args pre el es xs post, E.call .part f args (.tup [.tup pre, .arr 0 el es xs, .tup post]) → GCall P A f args pre el es xs post
  back : ∀ f pre args el es xs xs', E.call .back f [.tup pre, .arr 0 el es xs, .tup args] (.arr 0 el es xs') → MCall P A f el es xs pre args xs' none
  val : ∀ f pre args el es xs xs' y, E.call .val f [.tup pre, .arr 0 el es xs, .tup args] (.tup [.arr 0 el es xs', y]) → MCall P A f el es xs pre args xs' (some y)

def Runs (P : Program) (o : Oper) (a : Act) (w : World) (K : Value → World → Prop) : Prop :=
  match (execOp a.eval o).run P w with
  | .ok (.value x) w' => K x w'
  | .ok .skip w' => K undef w'
  | .ok (.enter f args) w' => Calls P f args w' (fun e w'' => ∃ x, e = .returned x ∧ K x w'')
  | _ => False

theorem wp_of_runs {P : Program} {o : Oper} {a : Act} {w : World} {K : Value → World → Prop} {next : Act → World → Prop} {Q : Exit → Act → World → Prop}
    (h : Runs P o a w K) (hk : ∀ x w', K x w' → next (a.put o.dst x) w') : o.wp P a w next Q := by
  unfold Runs at h
  unfold Oper.wp
  generalize (execOp a.eval o).run P w = r at *
  cases r with
  | ok n w' =>
    cases n <;> simp only [Oper.upon] at h ⊢
    case value x => exact hk _ _ h
    case skip => exact hk _ _ h
    case enter f args =>
      refine h.mono fun e w'' ⟨x, he, hx⟩ => ?_
      subst he
      exact hk _ _ hx
  | halt x w' => exact h.elim

def Sound (P : Program) (Γ : Ctx) (o : Oper) (m : Mem) (K : Kont) : Prop :=
  ∃ v rd wr n, K v rd wr n ∧ ∀ S', (∀ k ∈ opnds o.op.operands.toList, S' k = toS m k) → (∀ k ∈ rd, S' k = toS m k) → ∀ ι a w, SR Γ ι S' a w →
    Runs P o a w fun x w' => ∃ ι', SR Γ ι' (upd wr S') a w' ∧ RepT ι' (okS Γ ι' (upd wr S') w') w' x v

/-- It leaves a value, and the memory alone. -/
theorem sound_val {P : Program} {Γ : Ctx} {o : Oper} {m : Mem} {K : Kont} {v : PV} {rd : List Key} {n : Nat} (hK : K v rd [] n)
    (h : ∀ S', (∀ k ∈ opnds o.op.operands.toList, S' k = toS m k) → (∀ k ∈ rd, S' k = toS m k) → ∀ ι a w, SR Γ ι S' a w →
      ∃ x, (execOp a.eval o).run P w = .ok (.value x) w ∧ RepT ι (okS Γ ι S' w) w x v) : Sound P Γ o m K := by
  refine ⟨v, rd, [], n, hK, fun S' h1 h2 ι a w hs => ?_⟩
  obtain ⟨x, hr, hx⟩ := h S' h1 h2 ι a w hs
  unfold Runs
  rw [hr]
  exact ⟨ι, hs, hx⟩

theorem optP_some {α : Type} {x : Option α} {K : α → Prop} (h : optP x K) : ∃ v, x = some v ∧ K v := by
  cases x with
  | none => exact h.elim
  | some v => exact ⟨v, rfl, h⟩
theorem optE_some {x : Option Elems} {K : Nat → List (List PV) → List Nat → List Key → Prop} (h : optE x K) : ∃ v, x = some v ∧ K v.es v.xs v.ids v.rd := by
  cases x with
  | none => exact h.elim
  | some v => exact ⟨v, rfl, h⟩
theorem isT_true {b : Bool} {q : Prop} (h : isT b q) : b = true ∧ q := by
  cases b with
  | false => exact h.elim
  | true => exact ⟨rfl, h⟩

/-! ### What a value's picture tells of it -/
section inv
variable {ι : Nat → Option Home} {ok : Nat → Prop} {w : World} {x : Value}
theorem rep_v {y : Value} (h : RepT ι ok w x (.v y)) : x = y := by
  cases h with
  | str _ _ h => cases h; rfl
theorem rep_nil (h : RepT ι ok w x .nil) : x = .slice none 0 0 := by
  cases h with
  | str _ _ h => cases h; rfl
theorem rep_list {es : Nat} {xs : List (List PV)} (h : RepT ι ok w x (.list es xs)) : RepS ok w x (.list es xs) := by
  cases h with
  | str _ _ h => exact h
theorem rep_ref {cs : List PV} (h : RepT ι ok w x (.ref cs)) : RepS ok w x (.ref cs) := by
  cases h with
  | str _ _ h => exact h
theorem rep_agg {cs : List PV} (h : RepT ι ok w x (.agg cs)) : ∃ vs : Array Value, x = .agg vs ∧ vs.size = cs.length ∧ ∀ i c, cs[i]? = some c → RepT ι ok w (vs.getD i undef) c := by
  cases h with
  | str _ _ h => cases h with | agg vs _ hs hr => exact ⟨vs, rfl, hs, fun i c hc => .str _ _ (hr i c hc)⟩
  | agg vs _ hs hr => exact ⟨vs, rfl, hs, hr⟩
theorem rep_tup {cs : List PV} (h : RepT ι ok w x (.tup cs)) : ∃ vs : Array Value, x = .tuple vs ∧ vs.size = cs.length ∧ ∀ i c, cs[i]? = some c → RepT ι ok w (vs.getD i undef) c := by
  cases h with
  | str _ _ h => cases h with | tup vs _ hs hr => exact ⟨vs, rfl, hs, fun i c hc => .str _ _ (hr i c hc)⟩
  | tup vs _ hs hr => exact ⟨vs, rfl, hs, hr⟩
theorem rep_clo {fn : Fn} {a b : List PV} (h : RepT ι ok w x (.clo fn a b)) : ∃ va vb : Array Value, x = .func fn va vb ∧ (va.size = a.length ∧ ∀ i c, a[i]? = some c → RepT ι ok w (va.getD i undef) c) ∧
    vb.size = b.length ∧ ∀ i c, b[i]? = some c → RepT ι ok w (vb.getD i undef) c := by
  cases h with
  | str _ _ h => cases h with | clo _ va vb _ _ h1 h2 h3 h4 => exact ⟨va, vb, rfl, ⟨h1, fun i c hc => .str _ _ (h3 i c hc)⟩, h2, fun i c hc => .str _ _ (h4 i c hc)⟩
  | clo _ va vb _ _ h1 h2 h3 h4 => exact ⟨va, vb, rfl, ⟨h1, h3⟩, h2, h4⟩
theorem rep_own {id g : Nat} (h : RepT ι ok w x (.own id g)) : ∃ hm, ι id = some hm ∧ g ≤ hm.g ∧ (g = hm.g → x = hm.slice 0 hm.len) := by
  cases h with
  | str _ _ h => cases h
  | own _ _ _ hm _ h1 h2 h3 => exact ⟨hm, h1, h2, h3⟩
theorem rep_ptr {id off : Nat} (h : RepT ι ok w x (.ptr id off)) : ∃ hm b o, ι id = some hm ∧ hm.arr = false ∧ hm.base = some ⟨b, o, none⟩ ∧ x = .pointer (some ⟨b, o + off, none⟩) := by
  cases h with
  | str _ _ h => cases h
  | ptr _ _ _ hm h1 h2 h3 => obtain ⟨b, o, h3, h4⟩ := h3; exact ⟨hm, b, o, h1, h2, h3, h4⟩
theorem rep_eptr {id g : Nat} {i : Int} {off : Nat} (h : RepT ι ok w x (.eptr id g i off)) : ∃ hm, ι id = some hm ∧ g ≤ hm.g ∧
    (g = hm.g → ∃ b o, hm.base = some ⟨b, o, none⟩ ∧ x = .pointer (some ⟨b, o + (i.toNat * hm.es + off), none⟩)) := by
  cases h with
  | str _ _ h => cases h
  | eptr _ _ _ _ _ hm _ h1 h2 h3 => exact ⟨hm, h1, h2, h3⟩
end inv

theorem const_rep {ι : Nat → Option Home} {ok : Nat → Prop} {w : World} (v : Value) : RepT ι ok w v (constPV v) := by
  unfold constPV
  split
  · exact .str _ _ .nil
  · exact .str _ _ (.v _)

theorem ev_rep {Γ ι S a w m} (hs : SR Γ ι S a w) (x : Operand) (h : ∀ k ∈ opnds [x], S k = toS m k) : RepT ι (okS Γ ι S w) w (a.eval x) (ev m x) := by
  cases x with
  | tmp t =>
    have e : S (.t t) = lk m (.t t) := h (.t t) (by simp [opnds])
    have := hs.tmps t
    rw [e] at this
    exact this
  | const v => exact const_rep v
  | global g => exact .str _ _ (.v _)
  | func f => exact .str _ _ (.clo _ _ _ _ _ rfl rfl (by simp) (by simp))

theorem opnds_cons (x : Operand) (r : List Operand) : ∀ k, k ∈ opnds (x :: r) ↔ k ∈ opnds [x] ∨ k ∈ opnds r := by
  intro k; cases x <;> simp [opnds]

theorem evs_rep {Γ ι S a w m} (hs : SR Γ ι S a w) : ∀ (xs : List Operand), (∀ k ∈ opnds xs, S k = toS m k) →
    (xs.map a.eval).length = (evs m xs).length ∧ ∀ i p, (evs m xs)[i]? = some p → RepT ι (okS Γ ι S w) w ((xs.map a.eval).getD i undef) p
  | [], _ => by simp [evs]
  | x :: r, h => by
    have hx := ev_rep (m := m) hs x fun k hk => h k ((opnds_cons x r k).2 (.inl hk))
    obtain ⟨h1, h2⟩ := evs_rep hs r fun k hk => h k ((opnds_cons x r k).2 (.inr hk))
    refine ⟨by simp [evs] at *; exact h1, fun i p hp => ?_⟩
    cases i with
    | zero => simp [evs] at hp; subst hp; simpa using hx
    | succ i => simp [evs] at hp; simpa using h2 i p hp

theorem addr_add (b o n : Nat) : (⟨b, o, none⟩ : Addr).add n = ⟨b, o + n, none⟩ := by
  unfold Addr.add; split <;> simp_all

theorem kindEq_iff {k k' : IntKind} : kindEq k k' = true ↔ k = k' := by cases k <;> cases k' <;> simp [kindEq]
theorem beq_iff {a b : Nat} : Nat.beq a b = true ↔ a = b := ⟨Nat.eq_of_beq_eq_true, fun h => by subst h; simp⟩
theorem ble_iff {a b : Nat} : Nat.ble a b = true ↔ a ≤ b := ⟨Nat.le_of_ble_eq_true, Nat.ble_eq_true_of_le⟩

/-! ### move, pick -/
section ops
variable {P : Program} {Γ : Ctx} {E : Env} {o : Oper} {m : Mem} {n : Nat} {K : Kont}

theorem sound_move {x : Operand} (ho : o.op = .move x ∨ o.op = .assign x) (hK : K (ev m x) [] [] n) : Sound P Γ o m K := by
  refine sound_val hK fun S' h1 _ ι a w hs => ⟨a.eval x, ?_, ?_⟩
  · rcases ho with ho | ho <;> simp [execOp, ho]
  · refine ev_rep hs x fun k hk => h1 k ?_
    rcases ho with ho | ho <;> simpa [ho, Op.operands] using hk

theorem sound_pick {c x y : Operand} (ho : o.op = .pick c x y) (h : opV Real E o.op m n K) : Sound P Γ o m K := by
  rw [ho] at h
  simp only [opV] at h
  split at h
  · rename_i t ht
    have go : ∀ b, t = b → K (if b then ev m x else ev m y) [] [] n → Sound P Γ o m K := by
      intro b hb hK
      refine sound_val hK fun S' h1 _ ι a w hs => ⟨if b then a.eval x else a.eval y, ?_, ?_⟩
      · have := rep_v (ht ▸ ev_rep (m := m) hs c fun k hk => h1 k (by rw [ho]; simp only [Op.operands]; exact (opnds_cons _ _ k).2 (.inl hk)))
        subst hb
        simp [execOp, ho, this, asBool]
      · cases b
        · exact ev_rep hs y fun k hk => h1 k (by rw [ho]; simp only [Op.operands]; exact (opnds_cons _ _ k).2 (.inr ((opnds_cons _ _ k).2 (.inr hk))))
        · exact ev_rep hs x fun k hk => h1 k (by rw [ho]; simp only [Op.operands]; exact (opnds_cons _ _ k).2 (.inr ((opnds_cons _ _ k).2 (.inl hk))))
    cases t
    · exact go false rfl h
    · exact go true rfl h
  · exact h.elim


/-! ### Lists of cells -/
theorem plen_eq (l : List PV) : plen l = l.length := by induction l with | nil => rfl | cons x r ih => simp [plen, ih]
theorem pdrop_eq (n : Nat) (l : List PV) : pdrop n l = l.drop n := by
  induction n generalizing l with
  | zero => cases l <;> rfl
  | succ n ih => cases l with | nil => rfl | cons x r => simp [pdrop, ih]
theorem ptake_eq (n : Nat) (l : List PV) : ptake n l = if n ≤ l.length then some (l.take n) else none := by
  induction n generalizing l with
  | zero => cases l <;> simp [ptake]
  | succ n ih =>
    cases l with
    | nil => simp [ptake]
    | cons x r =>
      simp only [ptake, ih, List.length_cons]
      by_cases h : n ≤ r.length
      · simp [h]
      · simp [h]
theorem pnth_eq (l : List PV) (n : Nat) : pnth l n = l.getD n .junk := by
  induction l generalizing n with
  | nil => simp [pnth]
  | cons x r ih => cases n with | zero => rfl | succ n => simp [pnth, ih]
theorem fldAt_eq (l : List (Nat × Nat)) (n : Nat) : fldAt l n = l[n]? := by
  induction l generalizing n with
  | nil => rfl
  | cons x r ih => cases n with | zero => rfl | succ n => simp [fldAt, ih]

/-- A value of a type, out of cells that the memory shows from an address on. -/
theorem load_rep {t : Nat} {ti : TI} (hT : TyOK P t ti) {ι : Nat → Option Home} {ok : Nat → Prop} {w : World} {b off : Nat} {cs : List PV} {v : PV}
    (hc : ∀ j c, cs[j]? = some c → ∃ x, w.cell? ⟨b, off + j, none⟩ = some x ∧ RepT ι ok w x c) (hv : ldTy ti cs = some v) :
    ∃ x, (loadVar t ⟨b, off, none⟩).run P w = .ok x w ∧ RepT ι ok w x v := by
  unfold ldTy at hv
  cases ha : ti.agg with
  | true =>
    simp only [ha, ptake_eq] at hv
    by_cases hl : ti.size ≤ cs.length
    · simp only [if_pos hl, Option.some.injEq] at hv
      subst hv
      -- the cells, one by one
      have key : ∀ (n i : Nat) (acc : Array Value), i + n ≤ cs.length → ∃ l : List Value, (loadCellsFrom ⟨b, off, none⟩ i n acc).run P w = .ok (acc ++ l.toArray) w ∧ l.length = n ∧
          ∀ j, j < n → ∀ c, cs[i + j]? = some c → RepT ι ok w (l.getD j undef) c := by
        intro n
        induction n with
        | zero => intro i acc _; exact ⟨[], by simp [loadCellsFrom], rfl, fun j hj => by omega⟩
        | succ n ih =>
          intro i acc hi
          have hi' : i < cs.length := by omega
          obtain ⟨x, hx, hr⟩ := hc i _ (List.getElem?_eq_getElem hi')
          obtain ⟨l, h1, h2, h3⟩ := ih (i + 1) (acc.push x) (by omega)
          refine ⟨x :: l, ?_, by simp [h2], fun j hj c hcj => ?_⟩
          · simp only [loadCellsFrom, Sem.run_bind, addr_add, load]
            simp only [Sem.run, hx, Result.andThen_ok]
            rw [h1]; simp
          · cases j with
            | zero =>
              simp only [Nat.add_zero, List.getElem?_eq_getElem hi', Option.some.injEq] at hcj
              subst hcj; simpa using hr
            | succ j =>
              have := h3 j (by omega) c (by rw [← hcj]; congr 1; omega)
              simpa using this
      obtain ⟨l, h1, h2, h3⟩ := key ti.size 0 #[] (by omega)
      refine ⟨.agg l.toArray, ?_, .agg _ _ (by simp [h2]; omega) fun i c hi => ?_⟩
      · have e1 := hT.agg w
        have e2 := hT.size w
        simp only [loadVar, Sem.run_bind, e1, e2, ha, Result.andThen_ok, if_true, loadCells, h1]
        simp
      · have hi2 : i < ti.size := by
          have := (List.getElem?_eq_some_iff.1 hi).1
          simp at this; omega
        have := h3 i hi2 c (by rw [List.getElem?_take, if_pos hi2] at hi; simpa using hi)
        simpa using this
    · simp [if_neg hl] at hv
  | false =>
    simp only [ha] at hv
    cases cs with
    | nil => simp at hv
    | cons c r =>
      simp only [Option.some.injEq] at hv
      subst hv
      obtain ⟨x, hx, hr⟩ := hc 0 c rfl
      refine ⟨x, ?_, hr⟩
      have e1 := hT.agg w
      simp only [loadVar, Sem.run_bind, e1, ha, Result.andThen_ok]
      simp only [load]
      simp only [Nat.add_zero] at hx
      simp [hx, Sem.run]

theorem opnd1 {x : Operand} {l : List Operand} (h : x ∈ l) : ∀ k ∈ opnds [x], k ∈ opnds l := by
  induction l with
  | nil => cases h
  | cons y r ih =>
    intro k hk
    rw [opnds_cons]
    rcases List.mem_cons.1 h with rfl | h
    · exact .inl hk
    · exact .inr (ih h k hk)

theorem ev_of {ι S' a w} (hs : SR Γ ι S' a w) (h1 : ∀ k ∈ opnds o.op.operands.toList, S' k = toS m k) {x : Operand} (hx : x ∈ o.op.operands.toList) : RepT ι (okS Γ ι S' w) w (a.eval x) (ev m x) :=
  ev_rep hs x fun k hk => h1 k (opnd1 hx k hk)

variable {A : World → Prop}

theorem ldBox_get (m : Mem) (id : Nat) : ∀ (n off j : Nat), j < n → (ldBox m id off n)[j]? = some (lk m (.c id (off + j)))
  | 0, _, _, h => by omega
  | n + 1, off, 0, _ => by simp [ldBox]
  | n + 1, off, j + 1, h => by
    simp only [ldBox, List.getElem?_cons_succ]
    rw [ldBox_get m id n (off + 1) j (by omega), show off + 1 + j = off + (j + 1) from by omega]
theorem ldBox_len (m : Mem) (id : Nat) : ∀ (n off : Nat), (ldBox m id off n).length = n
  | 0, _ => rfl
  | n + 1, off => by simp [ldBox, ldBox_len m id n]
theorem known_get : ∀ {l : List PV}, known l = true → ∀ c ∈ l, c ≠ .junk
  | [], _, c, hc => by cases hc
  | x :: r, h, c, hc => by
    cases x <;> simp only [known] at h <;> first
      | (cases h; done)
      | (rcases List.mem_cons.1 hc with rfl | hc
         · simp
         · exact known_get h c hc)
theorem boxKeys_mem (id : Nat) : ∀ (n off j : Nat), j < n → Key.c id (off + j) ∈ boxKeys id off n
  | 0, _, _, h => by omega
  | n + 1, off, 0, _ => by simp [boxKeys]
  | n + 1, off, j + 1, h => by
    simp only [boxKeys, List.mem_cons]
    right
    have := boxKeys_mem id n (off + 1) j (by omega)
    rw [show off + 1 + j = off + (j + 1) from by omega] at this
    exact this

/-- The cells of a box, from a pointer into it on. -/
theorem box_cells {ι S' a w} (hs : SR Γ ι S' a w) {id off k : Nat} {x : Value} (hx : RepT ι (okS Γ ι S' w) w x (.ptr id off)) (hk : known (ldBox m id off k) = true)
    (h2 : ∀ j, j < k → S' (.c id (off + j)) = lk m (.c id (off + j))) : ∃ b o, x = .pointer (some ⟨b, o, none⟩) ∧
      (∃ hm o', ι id = some hm ∧ hm.arr = false ∧ hm.base = some ⟨b, o', none⟩ ∧ o = o' + off) ∧
      ∀ j c, (ldBox m id off k)[j]? = some c → ∃ y, w.cell? ⟨b, o + j, none⟩ = some y ∧ y.oneCell' = true ∧ RepT ι (okS Γ ι S' w) w y c := by
  obtain ⟨hm, b, o, hi, e2, hb, rfl⟩ := rep_ptr hx
  have hne : ∀ j, j < k → S' (.c id (off + j)) ≠ .junk := fun j hj => by
    rw [h2 j hj]
    exact known_get hk _ (List.mem_of_getElem? (ldBox_get m id k off j hj))
  refine ⟨b, o + off, rfl, ⟨hm, o, hi, e2, hb, rfl⟩, fun j c hj => ?_⟩
  have hjk : j < k := by have := (List.getElem?_eq_some_iff.1 hj).1; rwa [ldBox_len] at this
  rw [ldBox_get m id k off j hjk] at hj
  cases hj
  obtain ⟨h'', b'', o'', y, f1, f2, f3, f4, f6, f5⟩ := hs.cells id (off + j) (hne j hjk)
  rw [hi] at f1; cases f1
  rw [hb] at f3; cases f3
  refine ⟨y, by rw [Nat.add_assoc]; exact f4, f6, ?_⟩
  rw [h2 j hjk] at f5
  exact f5

theorem sound_load {t : TypeId} {x : Operand} (hE : EnvOK P A E) (ho : o.op = .load t x) (h : opV Real E o.op m n K) : Sound P Γ o m K := by
  have hop : o.op.operands.toList = [x] := by rw [ho]; rfl
  rw [ho] at h
  simp only [opV] at h
  obtain ⟨ti, ht, h⟩ := optP_some h
  have hT := hE.ty _ _ ht
  split at h
  · rename_i cs hx
    obtain ⟨v, hv, hK⟩ := optP_some h
    refine sound_val hK fun S' h1 _ ι a w hs => ?_
    have hr := rep_ref (hx ▸ ev_of hs h1 (x := x) (by simp [hop]))
    generalize hax : a.eval x = ax at hr
    cases hr with
    | ref b off _ f hb hc hr =>
      obtain ⟨y, e1, e2⟩ := load_rep hT (ι := ι) (ok := okS Γ ι S' w) (fun j c hj => ⟨f j, (hc j c hj).1, .str _ _ (hr j c hj)⟩) hv
      exact ⟨y, by simp [execOp, ho, Instr.loadAt, hax, Instr.sureAddr, e1], e2⟩
  · rename_i id off hx
    obtain ⟨hk, h⟩ := isT_true h
    obtain ⟨v, hv, hK⟩ := optP_some h
    refine sound_val hK fun S' h1 h2 ι a w hs => ?_
    obtain ⟨b, off', e1, _, e2⟩ := box_cells hs (hx ▸ ev_of hs h1 (x := x) (by simp [hop])) hk (fun j hj => h2 _ (boxKeys_mem id _ _ j hj))
    obtain ⟨y, e3, e4⟩ := load_rep hT (fun j c hj => let ⟨y, q1, _, q2⟩ := e2 j c hj; ⟨y, q1, q2⟩) hv
    exact ⟨y, by simp [execOp, ho, Instr.loadAt, e1, Instr.sureAddr, e3], e4⟩
  · rename_i id g i off hx
    split at h
    · rename_i g' el es xs ha
      obtain ⟨hg, h'⟩ := isT_true h
      rw [beq_iff] at hg
      obtain ⟨cs, h0, hcs, h''⟩ := h'
      obtain ⟨v, hv, hK⟩ := optP_some h''
      clear h h''
      subst hg
      refine sound_val hK fun S' h1 h2 ι a w hs => ?_
      have ha' : S' (.a id) = .arr g el es xs := by rw [h2 _ (by simp)]; exact ha
      obtain ⟨hm, e1, e2, hA⟩ := hs.arrs id _ _ _ _ ha'
      obtain ⟨hm', f1, f2, f3⟩ := rep_eptr (hx ▸ ev_of hs h1 (x := x) (by simp [hop]))
      rw [e1] at f1; cases f1
      obtain ⟨b, o', hb, hax⟩ := f3 e2.2.symm
      rcases hA.row with ⟨hn, _⟩ | ⟨gb, cur, hb', hcur, hsz, hrep⟩
      · rw [hn] at hb; cases hb
      · rw [hb] at hb'; cases hb'
        have hcells : ∀ j c, (pdrop off cs)[j]? = some c → ∃ x, w.cell? ⟨b, 0 + (i.toNat * hm.es + off) + j, none⟩ = some x ∧ RepT ι (okS Γ ι S' w) w x c := by
          intro j c hj
          rw [pdrop_eq, List.getElem?_drop] at hj
          obtain ⟨y, hy, _, hr⟩ := hrep _ _ hcs (off + j) c hj
          refine ⟨y, ?_, .str _ _ hr⟩
          simp only [World.cell?, hcur]
          rw [hA.hes, ← hy, show 0 + (i.toNat * es + off) + j = i.toNat * es + (off + j) from by omega]; simp
        obtain ⟨y, e3, e4⟩ := load_rep hT hcells hv
        simp only [Nat.zero_add] at e3 hax
        exact ⟨y, by simp [execOp, ho, Instr.loadAt, hax, Instr.sureAddr, e3], e4⟩
    · exact h.elim
  · exact h.elim


theorem fld_of {t f : Nat} {ti : TI} (hT : TyOK P t ti) {q : Nat × Nat} (hq : fldAt ti.fields f = some q) (w : World) :
    ∃ fs fd, (underlying t).run P w = .ok (.struct fs) w ∧ fs[f]? = some fd ∧ fd.type = q.1 ∧ fd.offset = q.2 := by
  rw [fldAt_eq] at hq
  have hne : ti.fields ≠ [] := fun e => by rw [e] at hq; simp at hq
  obtain ⟨fs, h1, h2, _⟩ := hT.fields hne
  rw [← h2, List.getElem?_map] at hq
  cases hf : fs.toList[f]? with
  | none => rw [hf] at hq; simp at hq
  | some fd =>
    rw [hf] at hq
    simp only [Option.map_some, Option.some.injEq] at hq
    exact ⟨fs, fd, h1 w, by simpa using hf, by rw [← hq], by rw [← hq]⟩

theorem sound_fieldAddr {t : TypeId} {x : Operand} {f : Nat} (hE : EnvOK P A E) (ho : o.op = .fieldAddr t x f) (h : opV Real E o.op m n K) : Sound P Γ o m K := by
  have hop : o.op.operands.toList = [x] := by rw [ho]; rfl
  rw [ho] at h
  simp only [opV] at h
  obtain ⟨ti, ht, h⟩ := optP_some h
  obtain ⟨q, hq, h⟩ := optP_some h
  obtain ⟨tf, hf, h⟩ := optP_some h
  have hT := hE.ty _ _ ht
  have hF := hE.ty _ _ hf
  have run : ∀ (a : Act) (w : World) (b off : Nat), a.eval x = .pointer (some ⟨b, off, none⟩) → (execOp a.eval o).run P w = .ok (.value (.pointer (some ⟨b, off + q.2, none⟩))) w := by
    intro a w b off hax
    obtain ⟨fs, fd, e1, e2, e3, e4⟩ := fld_of hT hq w
    have e5 := hF.size w
    have e6 := hF.pos
    simp [execOp, ho, Instr.fieldAt, hax, Instr.sureAddr, e1, e2, fieldPlace, e3, e4, e5, addr_add, show tf.size ≠ 0 from by omega]
  split at h
  · exact h.elim
  · split at h
    · rename_i cs hx
      obtain ⟨hl, hK⟩ := isT_true h
      rw [ble_iff, plen_eq] at hl
      refine sound_val hK fun S' h1 _ ι a w hs => ?_
      have hr := rep_ref (hx ▸ ev_of hs h1 (x := x) (by simp [hop]))
      generalize hax : a.eval x = ax at hr
      cases hr with
      | ref b off _ f hb hc hr =>
        refine ⟨_, run a w b off hax, .str _ _ (.ref b (off + q.2) _ (fun j => f (q.2 + j)) hb (fun j c hj => ?_) fun j c hj => ?_)⟩
        · rw [pdrop_eq, List.getElem?_drop] at hj
          rw [Nat.add_assoc]; exact hc _ c hj
        · rw [pdrop_eq, List.getElem?_drop] at hj
          exact hr _ c hj
    · rename_i id off hx
      refine ⟨_, _, _, _, h, fun S' h1 _ ι a w hs => ?_⟩
      obtain ⟨hm, b, o', hi, e2, hb, hax⟩ := rep_ptr (hx ▸ ev_of hs h1 (x := x) (by simp [hop]))
      unfold Runs
      rw [run a w b _ hax]
      exact ⟨ι, hs, .ptr _ _ _ hm hi e2 ⟨b, o', hb, by rw [Nat.add_assoc]⟩⟩
    · rename_i id g i off hx
      split at h
      · rename_i g' el es xs ha
        obtain ⟨hg, h'⟩ := isT_true h
        rw [beq_iff] at hg
        clear h
        subst hg
        refine ⟨_, _, _, _, h', fun S' h1 h2 ι a w hs => ?_⟩
        obtain ⟨hm, hi, hle, hx'⟩ := rep_eptr (hx ▸ ev_of hs h1 (x := x) (by simp [hop]))
        have ha' : S' (.a id) = .arr g el es xs := by rw [h2 _ (by simp)]; exact ha
        obtain ⟨hm', e1, e2, _⟩ := hs.arrs id _ _ _ _ ha'
        rw [hi] at e1; cases e1
        obtain ⟨b, o', hb, hax⟩ := hx' e2.2.symm
        unfold Runs
        rw [run a w b _ hax]
        exact ⟨ι, hs, .eptr _ _ _ _ _ hm ⟨_, rfl⟩ hi hle fun _ => ⟨b, o', hb, by simp; omega⟩⟩
      · exact h.elim
    · exact h.elim


/-- A part of a struct's cells. -/
theorem part_rep {t : Nat} {ti : TI} (hT : TyOK P t ti) {ι : Nat → Option Home} {ok : Nat → Prop} {w : World} {vs : Array Value} {cs : List PV} {off : Nat} {v : PV}
    (hs : vs.size = cs.length) (hr : ∀ i c, cs[i]? = some c → RepT ι ok w (vs.getD i undef) c) (hv : ldTy ti (pdrop off cs) = some v) :
    ∃ x, (part t vs off).run P w = .ok x w ∧ RepT ι ok w x v := by
  have e1 := hT.agg w
  have e2 := hT.size w
  unfold ldTy at hv
  rw [pdrop_eq] at hv
  cases ha : ti.agg with
  | true =>
    simp only [ha, ptake_eq] at hv
    by_cases hl : ti.size ≤ (cs.drop off).length
    · simp only [if_pos hl, Option.some.injEq] at hv
      subst hv
      have hl' : off + ti.size ≤ cs.length := by have := hT.pos; simp at hl; omega
      refine ⟨.agg (vs.extract off (off + ti.size)), by simp [part, e1, e2, ha], .agg _ _ (by simp; omega) fun i c hi => ?_⟩
      have hi2 : i < ti.size := by
        have := (List.getElem?_eq_some_iff.1 hi).1
        simp at this; omega
      rw [List.getElem?_take, if_pos hi2, List.getElem?_drop] at hi
      have := hr _ c hi
      have e : (vs.extract off (off + ti.size)).getD i undef = vs.getD (off + i) undef := by
        simp only [Array.getD_eq_getD_getElem?]
        rw [Array.getElem?_extract, if_pos (by omega)]
      rw [e]; exact this
    · rw [if_neg hl] at hv; cases hv
  | false =>
    simp only [ha] at hv
    cases hd : cs.drop off with
    | nil => rw [hd] at hv; simp at hv
    | cons c r =>
      rw [hd] at hv
      simp only [Option.some.injEq] at hv
      subst hv
      have hc : cs[off]? = some c := by
        have := congrArg (·[0]?) hd
        simpa [List.getElem?_drop] using this
      have hlt : off < vs.size := by rw [hs]; exact (List.getElem?_eq_some_iff.1 hc).1
      have := hr _ c hc
      refine ⟨vs[off], by simp [part, e1, ha, hlt], ?_⟩
      simpa [Array.getD_eq_getD_getElem?, hlt] using this

theorem sound_field {t : TypeId} {x : Operand} {f : Nat} (hE : EnvOK P A E) (ho : o.op = .field t x f) (h : opV Real E o.op m n K) : Sound P Γ o m K := by
  have hop : o.op.operands.toList = [x] := by rw [ho]; rfl
  rw [ho] at h
  simp only [opV] at h
  obtain ⟨ti, ht, h⟩ := optP_some h
  obtain ⟨q, hq, h⟩ := optP_some h
  obtain ⟨tf, hf, h⟩ := optP_some h
  have hT := hE.ty _ _ ht
  have hF := hE.ty _ _ hf
  split at h
  · rename_i cs hx
    obtain ⟨v, hv, hK⟩ := optP_some h
    refine sound_val hK fun S' h1 _ ι a w hs => ?_
    obtain ⟨vs, e1, e2, e3⟩ := rep_agg (hx ▸ ev_of hs h1 (x := x) (by simp [hop]))
    obtain ⟨fs, fd, f1, f2, f3, f4⟩ := fld_of hT hq w
    obtain ⟨y, e4, e5⟩ := part_rep hF e2 e3 hv
    exact ⟨y, by simp [execOp, ho, Instr.field, f1, f2, e1, asAgg, f3, f4, e4], e5⟩
  · exact h.elim

theorem sound_indexAddr {t : TypeId} {x i : Operand} (hE : EnvOK P A E) (ho : o.op = .indexAddr t x i) (h : opV Real E o.op m n K) : Sound P Γ o m K := by
  have hop : o.op.operands.toList = [x, i] := by rw [ho]; rfl
  rw [ho] at h
  simp only [opV] at h
  obtain ⟨ti, ht, h⟩ := optP_some h
  have hT := hE.ty _ _ ht
  split at h
  · exact h.elim
  · rename_i e he
    obtain ⟨te, hte, h⟩ := optP_some h
    have hE' := hE.ty _ _ hte
    split at h
    · rename_i k idx hi
      have run : ∀ (a : Act) (w : World) (b off len cap : Nat), a.eval i = .int k idx → a.eval x = .slice (some ⟨b, off, none⟩) len cap → 0 ≤ idx → idx.toNat < len →
          (execOp a.eval o).run P w = .ok (.value (.pointer (some ⟨b, off + idx.toNat * te.size, none⟩))) w := by
        intro a w b off len cap hai hax h0 hlt
        have f1 := hT.elem (by omega) w
        rw [he] at f1
        have f2 := hE'.size w
        have f3 : idx < (len : Int) := by omega
        simp [execOp, ho, Instr.indexAt, hai, hax, asIntOf, f1, f2, h0, f3, addr_add]
      split at h
      · rename_i es xs hx
        obtain ⟨hes, h⟩ := isT_true h
        rw [beq_iff] at hes
        obtain ⟨cs, h0, hcs, hK⟩ := h
        refine sound_val hK fun S' h1 _ ι a w hs => ?_
        have hai := rep_v (hi ▸ ev_of hs h1 (x := i) (by simp [hop]))
        have hr := rep_list (hx ▸ ev_of hs h1 (x := x) (by simp [hop]))
        generalize hax : a.eval x = ax at hr
        cases hr with
        | empty ad cap _ => simp at hcs
        | list b off cap _ _ f hb hcap hrow hc hr =>
          refine ⟨_, run a w b off _ cap hai hax h0 (List.getElem?_eq_some_iff.1 hcs).1, .str _ _ (.ref b _ _ (fun j => f idx.toNat j) hb (fun j c hj => ?_) fun j c hj => hr _ _ hcs j c hj)⟩
          have := hc _ _ hcs j c hj
          rw [← hes, Nat.add_assoc]; exact this
      · rename_i id g hx
        split at h
        · rename_i g' el es xs ha
          obtain ⟨hg, h'⟩ := isT_true h
          obtain ⟨hes, h''⟩ := isT_true h'
          rw [beq_iff] at hg hes
          obtain ⟨cs, h0, hcs, hK⟩ := h''
          clear h h'
          subst hg
          refine sound_val hK fun S' h1 h2 ι a w hs => ?_
          have hai := rep_v (hi ▸ ev_of hs h1 (x := i) (by simp [hop]))
          have ha' : S' (.a id) = .arr g el es xs := by rw [h2 _ (by simp)]; exact ha
          obtain ⟨hm, e1, e2, hA⟩ := hs.arrs id _ _ _ _ ha'
          obtain ⟨hm', f1, f2, f3⟩ := rep_own (hx ▸ ev_of hs h1 (x := x) (by simp [hop]))
          rw [e1] at f1; cases f1
          have hax := f3 e2.2.symm
          have hlt : idx.toNat < hm.len := by rw [← hA.len]; exact (List.getElem?_eq_some_iff.1 hcs).1
          rcases hA.row with ⟨_, hz⟩ | ⟨gb, cur, hb, _⟩
          · have := hA.cap; rw [hA.len] at this; omega
          · simp only [Home.slice, hb] at hax
            refine ⟨_, run a w gb _ _ _ hai hax h0 hlt, .eptr _ _ _ _ _ hm ⟨_, rfl⟩ e1 f2 fun _ => ⟨gb, 0, hb, ?_⟩⟩
            rw [hA.hes, ← hes]; simp
        · exact h.elim
      · exact h.elim
    · exact h.elim

theorem sound_index {t : TypeId} {x i : Operand} (hE : EnvOK P A E) (ho : o.op = .index t x i) (h : opV Real E o.op m n K) : Sound P Γ o m K := by
  have hop : o.op.operands.toList = [x, i] := by rw [ho]; rfl
  rw [ho] at h
  simp only [opV] at h
  obtain ⟨ti, ht, h⟩ := optP_some h
  have hT := hE.ty _ _ ht
  obtain ⟨hstr, h⟩ := isT_true h
  split at h
  · rename_i s k idx hx hi
    obtain ⟨⟨h0, hlt⟩, hK⟩ := h
    refine sound_val hK fun S' h1 _ ι a w hs => ?_
    have hai := rep_v (hi ▸ ev_of hs h1 (x := i) (by simp [hop]))
    have hax := rep_v (hx ▸ ev_of hs h1 (x := x) (by simp [hop]))
    have f1 := hT.str hstr w
    have hlt' : idx.toNat < s.size := by omega
    have e : s[idx.toNat]? = some s[idx.toNat] := by simp [hlt']
    have e2 : Real .sat s idx = (s[idx.toNat].toNat : Int) := by simp only [Real, e]
    refine ⟨.int .u8 (s[idx.toNat].toNat : Int), ?_, .str _ _ (by rw [e2]; exact .v _)⟩
    simp only [execOp, ho, Instr.index, hai, hax, asIntOf, Sem.run_bind, Sem.run_pure, Result.andThen_ok, f1, if_pos h0, e]
  · exact h.elim

theorem equalIn_bool {t : TypeId} (d : Nat) (p q : Bool) (w : World) (hu : (underlying t).run P w = .ok .bool w) : (Op.equalIn (d + 1) t (.bool p) (.bool q)).run P w = .ok (p == q) w := by
  simp only [Op.equalIn, Sem.run_bind, hu, Result.andThen_ok, Sem.run_pure]
theorem equal_bool {t : TypeId} (p q : Bool) (w : World) (hu : (underlying t).run P w = .ok .bool w) : (Op.equal t (.bool p) (.bool q)).run P w = .ok (p == q) w :=
  equalIn_bool 9999 p q w hu

theorem sound_bin {op : BinOp} {t u : TypeId} {x y : Operand} (hE : EnvOK P A E) (ho : o.op = .binOp op t x y u) (h : opV Real E o.op m n K) : Sound P Γ o m K := by
  have hop : o.op.operands.toList = [x, y] := by rw [ho]; rfl
  rw [ho] at h
  simp only [opV, binV] at h
  split at h
  · rename_i k p k' q hx hy
    have run : ∀ v, K (.v v) [] [] n → (∀ (a : Act) (w : World), a.eval x = Value.int k p → a.eval y = Value.int k' q → (execOp a.eval o).run P w = .ok (.value v) w) → Sound P Γ o m K := fun v hK hr => by
      refine sound_val hK fun S' h1 _ ι a w hs => ⟨v, ?_, .str _ _ (.v _)⟩
      exact hr a w (rep_v (hx ▸ ev_of hs h1 (x := x) (by simp [hop]))) (rep_v (hy ▸ ev_of hs h1 (x := y) (by simp [hop])))
    split at h
    · rename_i hb
      obtain ⟨hk, hK⟩ := isT_true h
      rw [kindEq_iff] at hk; subst hk
      refine run _ hK fun a w ha hb' => ?_
      cases op <;> simp [bkind] at hb <;> simp [execOp, ho, ha, hb', eqGuard, binOp, Op.intArith, Op.intBits, Real]
    · rename_i hb
      obtain ⟨hk, h⟩ := isT_true h
      obtain ⟨hz, hK⟩ := h
      rw [kindEq_iff] at hk; subst hk
      refine run _ hK fun a w ha hb' => ?_
      cases op <;> simp [bkind] at hb <;> simp [execOp, ho, ha, hb', eqGuard, binOp, Op.intDiv, hz, Real]
    · rename_i hb
      obtain ⟨hk, hK⟩ := isT_true h
      rw [kindEq_iff] at hk; subst hk
      refine run _ hK fun a w ha hb' => ?_
      cases op <;> simp [bkind] at hb <;> simp [execOp, ho, ha, hb', eqGuard, binOp, Op.intCmp, Real]
    · rename_i hb
      obtain ⟨hz, hK⟩ := h
      refine run _ hK fun a w ha hb' => ?_
      have : ¬ q < 0 := by omega
      cases op <;> simp [bkind] at hb <;> simp [execOp, ho, ha, hb', eqGuard, binOp, Op.shift, this, Real]
    · exact h.elim
  · rename_i s s' hx hy
    split at h
    · rename_i hb
      refine sound_val h fun S' h1 _ ι a w hs => ⟨_, ?_, .str _ _ (.v _)⟩
      have ha := rep_v (hx ▸ ev_of hs h1 (x := x) (by simp [hop]))
      have hb' := rep_v (hy ▸ ev_of hs h1 (x := y) (by simp [hop]))
      cases op <;> simp [bkind] at hb <;> simp [execOp, ho, ha, hb', eqGuard, binOp, Op.stringOp, Real]
    · exact h.elim
  · rename_i p q hx hy
    obtain ⟨hq, h⟩ := isT_true h
    obtain ⟨ti, ht, h⟩ := optP_some h
    obtain ⟨hb, hK⟩ := isT_true h
    refine sound_val hK fun S' h1 _ ι a w hs => ⟨_, ?_, .str _ _ (.v _)⟩
    have ha := rep_v (hx ▸ ev_of hs h1 (x := x) (by simp [hop]))
    have hb' := rep_v (hy ▸ ev_of hs h1 (x := y) (by simp [hop]))
    have f1 := (hE.ty _ _ ht).bl hb w
    have f2 := equal_bool (P := P) p q w f1
    cases op <;> simp [eqNeq] at hq <;> simp [execOp, ho, ha, hb', eqGuard, binOp, f2, Real]
  · exact h.elim

theorem sound_un {op : UnOp} {t : TypeId} {x : Operand} (ho : o.op = .unOp op t x) (h : opV Real E o.op m n K) : Sound P Γ o m K := by
  have hop : o.op.operands.toList = [x] := by rw [ho]; rfl
  rw [ho] at h
  simp only [opV] at h
  split at h
  · rename_i k p hx
    refine sound_val h fun S' h1 _ ι a w hs => ⟨_, ?_, .str _ _ (.v _)⟩
    have ha := rep_v (hx ▸ ev_of hs h1 (x := x) (by simp [hop]))
    simp [execOp, ho, ha, Op.unary, Op.intArith, Real]
  · rename_i k p hx
    refine sound_val h fun S' h1 _ ι a w hs => ⟨_, ?_, .str _ _ (.v _)⟩
    have ha := rep_v (hx ▸ ev_of hs h1 (x := x) (by simp [hop]))
    simp [execOp, ho, ha, Op.unary, Op.intBits, Real]
  · rename_i b hx
    refine sound_val h fun S' h1 _ ι a w hs => ⟨_, ?_, .str _ _ (.v _)⟩
    have ha := rep_v (hx ▸ ev_of hs h1 (x := x) (by simp [hop]))
    simp [execOp, ho, ha, Op.unary, Real]
  · exact h.elim

theorem sound_convert {s d : TypeId} {x : Operand} (hE : EnvOK P A E) (ho : o.op = .convert s d x) (h : opV Real E o.op m n K) : Sound P Γ o m K := by
  have hop : o.op.operands.toList = [x] := by rw [ho]; rfl
  rw [ho] at h
  simp only [opV] at h
  obtain ⟨ts, hts, h⟩ := optP_some h
  obtain ⟨td, htd, h⟩ := optP_some h
  have hS := hE.ty _ _ hts
  have hD := hE.ty _ _ htd
  split at h
  · rename_i k p hx
    obtain ⟨kd, hkd, h⟩ := optP_some h
    obtain ⟨ks, hks, hK⟩ := optP_some h
    refine sound_val hK fun S' h1 _ ι a w hs => ⟨_, ?_, .str _ _ (.v _)⟩
    have ha := rep_v (hx ▸ ev_of hs h1 (x := x) (by simp [hop]))
    have f1 := hS.int _ hks w
    have f2 := hD.int _ hkd w
    simp [execOp, ho, ha, convert, f1, f2, Conv.intToInt, Real]
  · rename_i st hx
    obtain ⟨h1, h⟩ := isT_true h
    obtain ⟨h2, hK⟩ := isT_true h
    refine sound_val hK fun S' h1' _ ι a w hs => ⟨_, ?_, .str _ _ (.v _)⟩
    have ha := rep_v (hx ▸ ev_of hs h1' (x := x) (by simp [hop]))
    have f1 := hS.str h1 w
    have f2 := hD.str h2 w
    simp [execOp, ho, ha, convert, f1, f2]
  · exact h.elim

theorem sound_makeFunc {fn : Fn} {first caps : Array Operand} (ho : o.op = .makeFunc fn first caps) (h : opV Real E o.op m n K) : Sound P Γ o m K := by
  have hop : o.op.operands.toList = first.toList ++ caps.toList := by rw [ho]; simp [Op.operands]
  rw [ho] at h
  simp only [opV] at h
  refine sound_val h fun S' h1 _ ι a w hs => ?_
  have sub : ∀ (l : List Operand), (∀ x ∈ l, x ∈ o.op.operands.toList) → ∀ k ∈ opnds l, S' k = toS m k := by
    intro l hl
    induction l with
    | nil => intro k hk; simp [opnds] at hk
    | cons x r ih =>
      intro k hk
      rw [opnds_cons] at hk
      rcases hk with hk | hk
      · exact h1 k (opnd1 (hl x (by simp)) k hk)
      · exact ih (fun y hy => hl y (by simp [hy])) k hk
  obtain ⟨f1, f2⟩ := evs_rep hs first.toList (sub _ fun x hx => by rw [hop]; simp [hx])
  obtain ⟨c1, c2⟩ := evs_rep hs caps.toList (sub _ fun x hx => by rw [hop]; simp [hx])
  refine ⟨.func fn (first.map a.eval) (caps.map a.eval), by simp [execOp, ho, Instr.makeFunc], .clo _ _ _ _ _ (by simpa using f1) (by simpa using c1) (fun i c hc => ?_) fun i c hc => ?_⟩
  · have := f2 i c hc
    simpa [Array.getD_eq_getD_getElem?, List.getD_eq_getElem?_getD] using this
  · have := c2 i c hc
    simpa [Array.getD_eq_getD_getElem?, List.getD_eq_getElem?_getD] using this

theorem sound_extract {x : Operand} {i : Nat} (ho : o.op = .extract x i) (h : opV Real E o.op m n K) : Sound P Γ o m K := by
  have hop : o.op.operands.toList = [x] := by rw [ho]; rfl
  rw [ho] at h
  simp only [opV] at h
  split at h
  · rename_i cs hx
    have go : ∀ v, pnth cs i = v → v ≠ .junk → K v [] [] n → Sound P Γ o m K := fun v hv hne hK => by
      refine sound_val hK fun S' h1 _ ι a w hs => ?_
      obtain ⟨vs, e1, e2, e3⟩ := rep_tup (hx ▸ ev_of hs h1 (x := x) (by simp [hop]))
      rw [pnth_eq] at hv
      have hi : i < cs.length := by
        rcases Nat.lt_or_ge i cs.length with hi | hi
        · exact hi
        · exfalso; apply hne; rw [← hv]; simp [hi]
      have hc : cs[i]? = some v := by rw [← hv]; simp [hi]
      have := e3 i v hc
      have hlt : i < vs.size := by omega
      refine ⟨vs[i], by simp [execOp, ho, Instr.extract, e1, hlt], ?_⟩
      simpa [Array.getD_eq_getD_getElem?, hlt] using this
    split at h
    · exact h.elim
    · rename_i hne
      exact go _ rfl (fun e => hne e) h
  · exact h.elim

end ops
end Go.Pi

/- Values told without addresses; calls; what a slice shows. -/
namespace Go.Pi
open Go

/-- The blocks of structural values, and of these objects. -/
def okI (Γ : Ctx) (ι : Nat → Option Home) (S : Sta) (w : World) (ids : List Nat) (b : Nat) : Prop :=
  okS Γ ι S w b ∨ ∃ id ∈ ids, ∃ h a, ι id = some h ∧ h.base = some a ∧ a.block = b

theorem okI.lt {Γ ι S a w ids} (hs : SR Γ ι S a w) {b : Nat} (h : okI Γ ι S w ids b) : b < w.heap.size := by
  rcases h with h | ⟨id, _, hh, ad, h1, h2, rfl⟩
  · exact h.1
  · exact (hs.own id hh ad h1 h2).2.1

theorem napp_eq (a b : List Nat) : napp a b = a ++ b := by induction a with | nil => rfl | cons x r ih => simp [napp, ih]
theorem kapp_eq (a b : List Key) : kapp a b = a ++ b := by induction a with | nil => rfl | cons x r ih => simp [kapp, ih]

theorem okI.mono {Γ ι S w} {ids ids' : List Nat} (h : ∀ i ∈ ids, i ∈ ids') (b : Nat) (hb : okI Γ ι S w ids b) : okI Γ ι S w ids' b :=
  hb.imp id fun ⟨i, hi, r⟩ => ⟨i, h i hi, r⟩

theorem own_rep {Γ ι S a w} (hs : SR Γ ι S a w) {id g el es : Nat} {xs : List (List PV)} (ha : S (.a id) = .arr g el es xs) {x : Value} (hx : RepT ι (okS Γ ι S w) w x (.own id g)) :
    RepS (okI Γ ι S w [id]) w x (.list es xs) := by
  obtain ⟨hm, e1, e2, hA⟩ := hs.arrs id _ _ _ _ ha
  obtain ⟨hm', f1, f2, f3⟩ := rep_own hx
  rw [e1] at f1; cases f1
  have hx := f3 e2.2.symm
  rcases hA.row with ⟨hn, hz⟩ | ⟨g', cur, hb, hcur, hsz, hrep⟩
  · have h0 : xs = [] := by
      have := hA.cap
      rw [hz] at this
      exact List.eq_nil_of_length_eq_zero (by omega)
    subst h0
    simp only [Home.slice, hn] at hx
    subst hx
    exact .empty _ _ _
  · simp only [Home.slice, hb] at hx
    subst hx
    have := RepS.list (ok := okI Γ ι S w [id]) (w := w) g' 0 hm.cap es xs (fun i j => cur.getD (i * es + j) undef) (.inr ⟨id, by simp, hm, _, e1, hb, rfl⟩) hA.cap hA.rows
      (fun i r hi j c hj => by
        obtain ⟨y, hy, h1, _⟩ := hrep i r hi j c hj
        simp only [World.cell?, hcur]
        simp [Array.getD_eq_getD_getElem?, hy, h1])
      (fun i r hi j c hj => by
        obtain ⟨y, hy, _, hr⟩ := hrep i r hi j c hj
        simp only [Array.getD_eq_getD_getElem?, hy, Option.getD_some]
        exact hr.mono (fun b hb => .inl hb) fun _ _ _ _ h => h)
    rw [hA.len] at this
    simpa using this

theorem tells_live {f : PV → Option Told} (hf : ∀ p T, f p = some T → ∀ id ∈ T.ids, Key.i id ∈ T.rd) :
    ∀ (ps : List PV) (B : Tolds), tells f ps = some B → B.ps.length = ps.length ∧ ∀ id ∈ B.ids, Key.i id ∈ B.rd
  | [], B, h => by simp only [tells, Option.some.injEq] at h; subst h; simp
  | p :: r, B, h => by
    simp only [tells] at h
    split at h
    · rename_i A hA
      split at h
      · rename_i B' hB
        simp only [Option.some.injEq] at h
        subst h
        obtain ⟨i1, i2⟩ := tells_live hf r B' hB
        refine ⟨by simp [i1], fun id hid => ?_⟩
        simp only [napp_eq, kapp_eq, List.mem_append] at hid ⊢
        exact hid.imp (hf p A hA id) (i2 id)
      · cases h
    · cases h

theorem tells_rep {Γ ι S' a w} {m : Mem} (hs : SR Γ ι S' a w) {f : PV → Option Told}
    (hf : ∀ x p T, f p = some T → (∀ k ∈ T.rd, S' k = toS m k) → RepT ι (okS Γ ι S' w) w x p → RepS (okI Γ ι S' w T.ids) w x T.p) :
    ∀ (ps : List PV) (B : Tolds), tells f ps = some B → (∀ k ∈ B.rd, S' k = toS m k) →
      ∀ (i : Nat) (q : PV), B.ps[i]? = some q → ∃ p, ps[i]? = some p ∧ ∀ x, RepT ι (okS Γ ι S' w) w x p → RepS (okI Γ ι S' w B.ids) w x q
  | [], B, h, _ => by simp only [tells, Option.some.injEq] at h; subst h; simp
  | p :: r, B, h, hrd => by
    simp only [tells] at h
    split at h
    · rename_i A hA
      split at h
      · rename_i B' hB
        simp only [Option.some.injEq] at h
        subst h
        simp only [kapp_eq, List.mem_append] at hrd
        have ih := tells_rep hs hf r B' hB fun k hk => hrd k (.inr hk)
        intro i q hq
        cases i with
        | zero =>
          simp only [List.getElem?_cons_zero, Option.some.injEq] at hq
          subst hq
          refine ⟨p, rfl, fun x hx => (hf x p A hA (fun k hk => hrd k (.inl hk)) hx).mono (okI.mono fun i hi => ?_) fun _ _ _ _ h => h⟩
          simp [napp_eq, hi]
        | succ i =>
          obtain ⟨q', hq', hr⟩ := ih i q (by simpa using hq)
          refine ⟨q', by simpa using hq', fun x hx => (hr x hx).mono (okI.mono fun i hi => ?_) fun _ _ _ _ h => h⟩
          simp [napp_eq, hi]
      · cases h
    · cases h

theorem tell_live (m : Mem) : ∀ (n : Nat) (p : PV) (T : Told), tell m n p = some T → ∀ id ∈ T.ids, Key.i id ∈ T.rd
  | 0, _, _, h => by simp [tell] at h
  | n + 1, p, T, h => by
    have ih := tell_live m n
    simp only [tell] at h
    split at h <;> (try (simp only [Option.some.injEq] at h; subst h; simp; done)) <;> (try (cases h; done))
    · split at h
      · split at h
        · simp only [Option.some.injEq] at h; subst h; simp
        · cases h
      · cases h
    · split at h
      · split at h
        · split at h
          · rename_i B hB
            simp only [Option.some.injEq] at h; subst h
            intro id hid
            simp only [List.mem_cons, kapp_eq, List.mem_append] at hid ⊢
            rcases hid with rfl | hid
            · simp
            · right; right; exact (tells_live ih _ _ hB).2 id hid
          · cases h
        · cases h
      · cases h
    · split at h
      · rename_i B hB
        simp only [Option.some.injEq] at h; subst h
        exact (tells_live ih _ _ hB).2
      · cases h
    · split at h
      · rename_i B hB
        simp only [Option.some.injEq] at h; subst h
        exact (tells_live ih _ _ hB).2
      · cases h
    · split at h
      · rename_i B hB
        split at h
        · rename_i B' hB'
          simp only [Option.some.injEq] at h; subst h
          intro id hid
          simp only [napp_eq, kapp_eq, List.mem_append] at hid ⊢
          exact hid.imp ((tells_live ih _ _ hB).2 id) ((tells_live ih _ _ hB').2 id)
        · cases h
      · cases h

theorem tell_rep {Γ ι S' a w} {m : Mem} (hs : SR Γ ι S' a w) : ∀ (n : Nat) (x : Value) (p : PV) (T : Told), tell m n p = some T → (∀ k ∈ T.rd, S' k = toS m k) →
    RepT ι (okS Γ ι S' w) w x p → RepS (okI Γ ι S' w T.ids) w x T.p
  | 0, _, _, _, h, _, _ => by simp [tell] at h
  | n + 1, x, p, T, h, hrd, hx => by
    have ih := tell_rep (m := m) hs n
    have up : ∀ {x p}, RepS (okS Γ ι S' w) w x p → ∀ ids, RepS (okI Γ ι S' w ids) w x p := fun h ids => h.mono (fun b hb => .inl hb) fun _ _ _ _ e => e
    simp only [tell] at h
    split at h <;> (try (cases h; done))
    · simp only [Option.some.injEq] at h; subst h
      rw [rep_v hx]; exact .v _
    · simp only [Option.some.injEq] at h; subst h
      rw [rep_nil hx]; exact .nil
    · simp only [Option.some.injEq] at h; subst h
      exact up (rep_list hx) _
    · simp only [Option.some.injEq] at h; subst h
      exact up (rep_ref hx) _
    · split at h
      · rename_i g' el es xs ha
        split at h
        · rename_i hg
          simp only [Option.some.injEq] at h
          subst h
          have hg' := beq_iff.1 hg
          subst hg'
          exact own_rep hs (by rw [hrd _ (by simp)]; exact ha) hx
        · cases h
      · cases h
    · rename_i id off
      split at h
      · rename_i wr k hinf
        split at h
        · rename_i hk
          split at h
          · rename_i B hB
            simp only [Option.some.injEq] at h
            subst h
            simp only [kapp_eq, List.mem_append] at hrd
            obtain ⟨b, o, rfl, ⟨hm, o', e1, e2, e3, rfl⟩, hc⟩ := box_cells hs hx hk fun j hj => hrd _ (.inl (boxKeys_mem id _ _ j hj))
            have hl := (tells_live (tell_live m n) _ _ hB).1
            have hr := tells_rep hs ih _ _ hB fun k hk => hrd k (.inr (by simp [hk]))
            have hcell : ∀ j c, B.ps[j]? = some c → ∃ y, w.cell? ⟨b, o' + off + j, none⟩ = some y ∧ y.oneCell' = true ∧ RepS (okI Γ ι S' w (id :: B.ids)) w y c := by
              intro j c hj
              obtain ⟨p, hp, hr'⟩ := hr j c hj
              obtain ⟨y, h1, h3, h2⟩ := hc j p hp
              exact ⟨y, h1, h3, (hr' y h2).mono (okI.mono fun i hi => by simp [hi]) fun _ _ _ _ e => e⟩
            refine .ref b (o' + off) B.ps (fun j => (w.cell? ⟨b, o' + off + j, none⟩).getD undef) (.inr ⟨id, by simp, hm, _, e1, e3, rfl⟩) (fun j c hj => ?_) fun j c hj => ?_
            · obtain ⟨y, h1, h2, _⟩ := hcell j c hj
              simp [h1, h2]
            · obtain ⟨y, h1, _, h2⟩ := hcell j c hj
              simpa [h1] using h2
          · cases h
        · cases h
      · cases h
    · split at h
      · rename_i B hB
        simp only [Option.some.injEq] at h; subst h
        obtain ⟨vs, rfl, h2, h3⟩ := rep_agg hx
        refine .agg vs B.ps (by rw [(tells_live (tell_live m n) _ _ hB).1]; exact h2) fun i c hi => ?_
        obtain ⟨p, hp, hr⟩ := tells_rep hs ih _ _ hB hrd i c hi
        exact hr _ (h3 i p hp)
      · cases h
    · split at h
      · rename_i B hB
        simp only [Option.some.injEq] at h; subst h
        obtain ⟨vs, rfl, h2, h3⟩ := rep_tup hx
        refine .tup vs B.ps (by rw [(tells_live (tell_live m n) _ _ hB).1]; exact h2) fun i c hi => ?_
        obtain ⟨p, hp, hr⟩ := tells_rep hs ih _ _ hB hrd i c hi
        exact hr _ (h3 i p hp)
      · cases h
    · split at h
      · rename_i B hB
        split at h
        · rename_i B' hB'
          simp only [Option.some.injEq] at h; subst h
          simp only [kapp_eq, List.mem_append] at hrd
          obtain ⟨va, vb, rfl, ⟨h1, h2⟩, h3, h4⟩ := rep_clo hx
          refine .clo _ va vb B.ps B'.ps (by rw [(tells_live (tell_live m n) _ _ hB).1]; exact h1) (by rw [(tells_live (tell_live m n) _ _ hB').1]; exact h3) (fun i c hi => ?_) fun i c hi => ?_
          · obtain ⟨p, hp, hr⟩ := tells_rep hs ih _ _ hB (fun k hk => hrd k (.inl hk)) i c hi
            exact (hr _ (h2 i p hp)).mono (okI.mono fun i hi => by simp [napp_eq, hi]) fun _ _ _ _ e => e
          · obtain ⟨p, hp, hr⟩ := tells_rep hs ih _ _ hB' (fun k hk => hrd k (.inr hk)) i c hi
            exact (hr _ (h4 i p hp)).mono (okI.mono fun i hi => by simp [napp_eq, hi]) fun _ _ _ _ e => e
        · cases h
      · cases h

/-! ### What is told is left to be read alone -/
theorem ice_spec (m : Mem) : ∀ (ids : List Nat) (S : Sta) (k : Key), upd (ice m ids) S k = match k with
    | .i id => if id ∈ ids then match lk m (.i id) with | .inf _ n => .inf false n | _ => S k else S k
    | _ => S k
  | [], S, k => by cases k <;> simp [ice, upd_nil]
  | id :: r, S, k => by
    simp only [ice]
    have ih := ice_spec m r S k
    cases hl : lk m (.i id) with
    | inf wr n =>
      simp only []
      rw [upd_cons, ih]
      cases k with
      | i j =>
        simp only [Key.i.injEq, List.mem_cons]
        by_cases e : j = id
        · subst e; simp [hl]
        · simp [e]
      | _ => simp
    | _ =>
      simp only []
      rw [ih]
      cases k with
      | i j =>
        simp only [List.mem_cons]
        by_cases e : j = id
        · subst e; simp [hl]
        · simp [e]
      | _ => simp

theorem SR.ice {Γ ι S' a w} {m : Mem} (hs : SR Γ ι S' a w) : ∀ (ids : List Nat), (∀ id ∈ ids, S' (.i id) = lk m (.i id)) → SR Γ ι (upd (Pi.ice m ids) S') a w
  | [], _ => hs
  | id :: r, h => by
    have ih := SR.ice (m := m) hs r fun i hi => h i (by simp [hi])
    simp only [Pi.ice]
    cases hl : lk m (.i id) with
    | inf wr n =>
      simp only []
      rw [show (Key.i id, PV.inf false n) :: Pi.ice m r = [(Key.i id, PV.inf false n)] ++ Pi.ice m r from rfl, upd_append]
      have e := ice_spec m r S' (.i id)
      simp only [hl] at e
      by_cases hm : id ∈ r
      · rw [if_pos hm] at e; exact ih.freeze e
      · rw [if_neg hm, h id (by simp), hl] at e; exact ih.freeze e
    | _ => exact ih

/-- Once they are left alone, structural values may lie in them. -/
theorem ok_ice {Γ ι S' a w} {m : Mem} (hs : SR Γ ι S' a w) {ids : List Nat} (h : ∀ id ∈ ids, S' (.i id) = lk m (.i id)) (b : Nat) (hb : okI Γ ι S' w ids b) :
    okS Γ ι (upd (Pi.ice m ids) S') w b := by
  have frozen : ∀ id ∈ ids, ∀ n, upd (Pi.ice m ids) S' (.i id) ≠ .inf true n := fun id hid n e => by
    rw [ice_spec] at e
    simp only [if_pos hid] at e
    have := h id hid
    split at e
    · cases e
    · rename_i hne
      rw [this] at e
      exact hne _ _ e
  have old : ∀ id n, upd (Pi.ice m ids) S' (.i id) = .inf true n → S' (.i id) = .inf true n := fun id n e => by
    by_cases hid : id ∈ ids
    · exact absurd e (frozen id hid n)
    · rw [ice_spec] at e; simpa only [if_neg hid] using e
  rcases hb with hb | ⟨id, hid, hh, ad, h1, h2, rfl⟩
  · exact ⟨hb.1, hb.2.1, fun ⟨i, hh, ad, n, h1, h2, h3, h4⟩ => hb.2.2 ⟨i, hh, ad, n, h1, h2, h3, old i n h4⟩⟩
  · obtain ⟨_, o2, o3, _⟩ := hs.own id hh ad h1 h2
    refine ⟨o2, .inr o3, fun ⟨i, hh', ad', n, g1, g2, g3, g4⟩ => ?_⟩
    · have := hs.inj i id hh' hh ad' ad g1 h1 g2 h2 g3
      subst this
      exact frozen i hid n g4

end Go.Pi
