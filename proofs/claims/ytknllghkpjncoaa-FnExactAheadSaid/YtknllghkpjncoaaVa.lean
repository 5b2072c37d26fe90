/- A generic walk: what a value of the machine stands for, as a tree of lists, and how that lives on while memory grows. -/
import Derived.Below
import Derived.Calls
namespace VC
open Go Go.RowKit

/-- A plain tree: a scalar, or a slice as the list of its elements, each the list of its cells. -/
inductive Tr where
  | sc (v : Value)
  | sl (xs : List (List Tr))

/-- What the walk knows of a slot. -/
inductive AV where
  | no
  | sc (v : Value)
  | sl (tk : Nat) (xs : List (List Tr))
  | arr (id off len : Nat)
  | ptr (id j : Nat)
  | pel (id i j : Nat)
  | cel (e : List Tr) (j : Nat)
  | agg (cs : List AV)
  | tup (vs : List AV)
  | clo (f : FuncId) (caps : List AV)

/-- A block of the call's own: a variable, cell by cell, or a row of elements. -/
inductive Blk where
  | box (cs : List AV)
  | row (sz : Nat) (xs : List (List Tr))

def Tr.av : Tr → AV
  | .sc v => .sc v
  | .sl xs => .sl 0 xs

/-- Cells that may change. -/
abbrev May := Nat → Nat → Prop

abbrev cellAt (w : World) (b o : Nat) : Option Value := w.cell? ⟨b, o, none⟩

inductive Tr.R (M : May) (w : World) : Tr → Value → Prop
  | sc (v : Value) (h : v.oneCell' = true) : Tr.R M w (.sc v) v
  | nil : Tr.R M w (.sl []) (.slice none 0 0)
  | emp (a : Addr) (c : Nat) : Tr.R M w (.sl []) (.slice (some a) 0 c)
  | sl (xs : List (List Tr)) (b o c sz : Nat) (u : Nat → Nat → Value) (hc : xs.length ≤ c)
      (hz : ∀ (i : Nat) (e : List Tr), xs[i]? = some e → e.length = sz)
      (hb : b < w.heap.size)
      (hu : ∀ (i : Nat) (e : List Tr) (j : Nat) (x : Tr), xs[i]? = some e → e[j]? = some x → cellAt w b (o + i * sz + j) = some (u i j) ∧ ¬ M b (o + i * sz + j))
      (hx : ∀ (i : Nat) (e : List Tr) (j : Nat) (x : Tr), xs[i]? = some e → e[j]? = some x → Tr.R M w x (u i j)) :
      Tr.R M w (.sl xs) (.slice (some ⟨b, o, none⟩) xs.length c)

/-- From w to w' what may not change has not changed, and no old cell has come to be one that may. -/
structure Keep (M : May) (w : World) (M' : May) (w' : World) : Prop where
  size : w.heap.size ≤ w'.heap.size
  cells : ∀ b o, b < w.heap.size → ¬ M b o → cellAt w' b o = cellAt w b o
  may : ∀ b o, b < w.heap.size → M' b o → M b o

theorem Keep.refl (M : May) (w : World) : Keep M w M w := ⟨Nat.le_refl _, fun _ _ _ _ => rfl, fun _ _ _ h => h⟩

theorem Keep.trans {M M' M'' : May} {w w' w'' : World} (h : Keep M w M' w') (k : Keep M' w' M'' w'') : Keep M w M'' w'' :=
  ⟨Nat.le_trans h.size k.size,
   fun b o hb hm => (k.cells b o (Nat.lt_of_lt_of_le hb h.size) (fun h' => hm (h.may b o hb h'))).trans (h.cells b o hb hm),
   fun b o hb hm => h.may b o hb (k.may b o (Nat.lt_of_lt_of_le hb h.size) hm)⟩

theorem Tr.R.one {M : May} {w : World} {x : Tr} {v : Value} (h : Tr.R M w x v) : v.oneCell' = true := by
  cases h <;> first | assumption | rfl

theorem Tr.R.keep {M M' : May} {w w' : World} (k : Keep M w M' w') {x : Tr} {v : Value} (h : Tr.R M w x v) : Tr.R M' w' x v := by
  induction h with
  | sc v h => exact .sc v h
  | nil => exact .nil
  | emp a c => exact .emp a c
  | sl xs b o c sz u hc hz hb hu hx ih =>
    refine .sl xs b o c sz u hc hz (Nat.lt_of_lt_of_le hb k.size) (fun i e j x h1 h2 => ?_) ih
    obtain ⟨g1, g2⟩ := hu i e j x h1 h2
    exact ⟨(k.cells _ _ hb g2).trans g1, fun hm => g2 (k.may _ _ hb hm)⟩

/-- The ghost: from which block on all is the call's own, what may change, where the numbered blocks and the tokens' rows lie. -/
structure Gh where
  B : Nat
  M : May
  n : Nat
  μ : Nat → Nat
  σ : Nat → Nat
  m : Nat
  G : Nat → Value × TypeId × Nat × Nat

structure Ext (g : Gh) (w : World) (g' : Gh) (w' : World) : Prop where
  B : g'.B = g.B
  below : Below g.B w w'
  keep : Keep g.M w g'.M w'
  n : g.n ≤ g'.n
  μ : ∀ i, i < g.n → g'.μ i = g.μ i ∧ g'.σ i = g.σ i
  m : g.m ≤ g'.m
  G : ∀ i, i < g.m → g'.G i = g.G i
  old : ∀ b o, b < g.B → g.M b o → g'.M b o

theorem Ext.refl (g : Gh) (w : World) : Ext g w g w :=
  ⟨rfl, Below.refl _ _, Keep.refl _ _, Nat.le_refl _, fun _ _ => ⟨rfl, rfl⟩, Nat.le_refl _, fun _ _ => rfl, fun _ _ _ h => h⟩

theorem Ext.trans {g g' g'' : Gh} {w w' w'' : World} (h : Ext g w g' w') (k : Ext g' w' g'' w'') : Ext g w g'' w'' :=
  ⟨k.B.trans h.B, h.below.trans (by have := k.below; rwa [h.B] at this), h.keep.trans k.keep, Nat.le_trans h.n k.n,
   fun i hi => by
     obtain ⟨a, b⟩ := k.μ i (Nat.lt_of_lt_of_le hi h.n); obtain ⟨c, d⟩ := h.μ i hi
     exact ⟨a.trans c, b.trans d⟩,
   Nat.le_trans h.m k.m, fun i hi => (k.G i (Nat.lt_of_lt_of_le hi h.m)).trans (h.G i hi),
   fun b o hb hm => k.old b o (by rw [h.B]; exact hb) (h.old b o hb hm)⟩

inductive AV.R (g : Gh) (w : World) : AV → Value → Prop
  | no (v : Value) : AV.R g w .no v
  | sc (v : Value) : AV.R g w (.sc v) v
  | sl (tk : Nat) (xs : List (List Tr)) (v : Value) (h : Tr.R g.M w (.sl xs) v) (h1 : tk = 1 → v = .slice none 0 0)
      (h2 : 2 ≤ tk → tk < g.m ∧ (g.G tk).1 = v ∧ (g.G tk).2.2.2 = xs.length ∧ ∀ (i : Nat) (e : List Tr), xs[i]? = some e → e.length = (g.G tk).2.2.1) :
      AV.R g w (.sl tk xs) v
  | arr (id off len c : Nat) (h : id < g.n) (hc : len ≤ c) : AV.R g w (.arr id off len) (.slice (some ⟨g.μ id, off * g.σ id, none⟩) len c)
  | ptr (id j : Nat) (h : id < g.n) : AV.R g w (.ptr id j) (.pointer (some ⟨g.μ id, j, none⟩))
  | pel (id i j : Nat) (h : id < g.n) : AV.R g w (.pel id i j) (.pointer (some ⟨g.μ id, i * g.σ id + j, none⟩))
  | cel (e : List Tr) (j b o : Nat) (u : Nat → Value) (hb : b < w.heap.size)
      (hu : ∀ (j : Nat) (x : Tr), e[j]? = some x → cellAt w b (o + j) = some (u j) ∧ ¬ g.M b (o + j))
      (hx : ∀ (j : Nat) (x : Tr), e[j]? = some x → Tr.R g.M w x (u j)) : AV.R g w (.cel e j) (.pointer (some ⟨b, o + j, none⟩))
  | agg (cs : List AV) (vs : List Value) (hl : cs.length = vs.length) (h : ∀ (j : Nat) (x : AV) (v : Value), cs[j]? = some x → vs[j]? = some v → AV.R g w x v) :
      AV.R g w (.agg cs) (.agg vs.toArray)
  | tup (cs : List AV) (vs : List Value) (hl : cs.length = vs.length) (h : ∀ (j : Nat) (x : AV) (v : Value), cs[j]? = some x → vs[j]? = some v → AV.R g w x v) :
      AV.R g w (.tup cs) (.tuple vs.toArray)
  | clo (f : FuncId) (cs : List AV) (vs : List Value) (hl : cs.length = vs.length) (h : ∀ (j : Nat) (x : AV) (v : Value), cs[j]? = some x → vs[j]? = some v → AV.R g w x v) :
      AV.R g w (.clo f cs) (.func (.func f) #[] vs.toArray)

theorem AV.R.ext {g g' : Gh} {w w' : World} (k : Ext g w g' w') {x : AV} {v : Value} (h : AV.R g w x v) : AV.R g' w' x v := by
  induction h with
  | no v => exact .no v
  | sc v => exact .sc v
  | sl tk xs v h h1 h2 =>
    refine .sl tk xs v (h.keep k.keep) h1 (fun ht => ?_)
    obtain ⟨a, b, c, d⟩ := h2 ht
    rw [k.G tk a]
    exact ⟨Nat.lt_of_lt_of_le a k.m, b, c, d⟩
  | arr id off len c h hc =>
    obtain ⟨a, b⟩ := k.μ id h
    rw [← a, ← b]
    exact .arr id off len c (Nat.lt_of_lt_of_le h k.n) hc
  | ptr id j h =>
    rw [← (k.μ id h).1]
    exact .ptr id j (Nat.lt_of_lt_of_le h k.n)
  | pel id i j h =>
    obtain ⟨a, b⟩ := k.μ id h
    rw [← a, ← b]
    exact .pel id i j (Nat.lt_of_lt_of_le h k.n)
  | cel e j b o u hb hu hx =>
    refine .cel e j b o u (Nat.lt_of_lt_of_le hb k.keep.size) (fun i x h1 => ?_) (fun i x h1 => (hx i x h1).keep k.keep)
    obtain ⟨g1, g2⟩ := hu i x h1
    exact ⟨(k.keep.cells _ _ hb g2).trans g1, fun hm => g2 (k.keep.may _ _ hb hm)⟩
  | agg cs vs hl h ih => exact .agg cs vs hl ih
  | tup cs vs hl h ih => exact .tup cs vs hl ih
  | clo f cs vs hl h ih => exact .clo f cs vs hl ih

theorem Tr.R.toAV {g : Gh} {w : World} {x : Tr} {v : Value} (h : Tr.R g.M w x v) : AV.R g w x.av v := by
  cases x with
  | sc u => cases h; exact .sc _
  | sl xs => exact .sl 0 xs v h (by intro h; omega) (by intro h; omega)

end VC
