/- What a state of the walk says of a state of the machine; and that the quiet operations yield what the walk says. -/
import Derived.Test.YtknllghkpjncoaaVb
import Derived.Laws.AppendOwn
set_option linter.unusedVariables false
namespace VC
open Go Go.RowKit

def BlkR (g : Gh) (w : World) (id : Nat) : Blk → Prop
  | .box cs => ∃ c ty, w.heap[g.μ id]? = some (.cells c ty (0, 0)) ∧ c.size = cs.length ∧
      ∀ (j : Nat) (x : AV), cs[j]? = some x → ∃ v, c[j]? = some v ∧ AV.R g w x v
  | .row sz xs => g.σ id = sz ∧ (∀ (i : Nat) (e : List Tr), xs[i]? = some e → e.length = sz) ∧
      ∃ c ty, w.heap[g.μ id]? = some (.cells c ty (0, 0)) ∧ c.size = xs.length * sz ∧
      ∀ (i : Nat) (e : List Tr) (j : Nat) (x : Tr), xs[i]? = some e → e[j]? = some x → ∃ v, c[i * sz + j]? = some v ∧ Tr.R g.M w x v

/-- What holds of a live token: its row is the call's own, ends where the token's slice ends, and nothing behind that end is said of anybody. -/
structure TokR (g : Gh) (w : World) (L : Nat → Option (TypeId × Nat)) (tk : Nat) (e : TypeId × Nat) : Prop where
  lt : 2 ≤ tk ∧ tk < g.m
  size : (g.G tk).2.2.1 = e.2
  row : ∃ xs, w.ownsRow g.B e.1 (g.G tk).2.2.1 (g.G tk).1 (g.G tk).2.2.2 xs
  may : ∀ k, (g.G tk).1.ownBlock = some k → (∀ o, (g.G tk).2.2.2 * (g.G tk).2.2.1 ≤ o → g.M k o) ∧ ∀ id, id < g.n → g.μ id ≠ k
  apart : ∀ tk' e', L tk' = some e' → tk' ≠ tk → ∀ k, (g.G tk).1.ownBlock = some k → (g.G tk').1.ownBlock ≠ some k

structure HInv (g : Gh) (H : Nat → Option Blk) (L : Nat → Option (TypeId × Nat)) (h nt : Nat) (w : World) : Prop where
  B : g.B ≤ w.heap.size
  n : g.n = h
  m : g.m = nt
  m2 : 2 ≤ nt
  dom : ∀ id b, H id = some b → id < h
  hp : ∀ id b, H id = some b → BlkR g w id b
  own : ∀ id, id < g.n → g.B ≤ g.μ id ∧ g.μ id < w.heap.size ∧ ∀ o, g.M (g.μ id) o
  inj : ∀ i j, i < g.n → j < g.n → g.μ i = g.μ j → i = j
  mlt : ∀ b o, g.M b o → b < w.heap.size
  tok : ∀ tk e, L tk = some e → TokR g w L tk e

structure Inv (N : Nat) (g : Gh) (σ : AS) (a : Act) (w : World) : Prop where
  H : HInv g σ.H σ.L σ.h σ.nt w
  sz : a.tmps.size = N
  df : a.defers = []
  tm : ∀ t, AV.R g w (σ.T t) (a.tmps.getD t undef)

theorem ofCell_R (g : Gh) (w : World) (v : Value) : AV.R g w (ofCell v) v := by
  unfold ofCell
  split
  · exact .sl 1 [] _ .nil (fun _ => rfl) (fun h => by omega)
  · exact .sc _

theorem ofConst_R (g : Gh) (w : World) (v : Value) : AV.R g w (ofConst v) v := by
  unfold ofConst
  split
  · rename_i cs
    have := AV.R.agg (g := g) (w := w) (cs.toList.map ofCell) cs.toList (by simp) (fun j x v h1 h2 => by
      simp at h1
      obtain ⟨u, hu, rfl⟩ := h1
      simp at h2
      rw [hu] at h2
      cases h2
      exact ofCell_R g w _)
    simpa using this
  · exact ofCell_R g w _

theorem Inv.ev {N : Nat} {g : Gh} {σ : AS} {a : Act} {w : World} (h : Inv N g σ a w) (x : Operand) : AV.R g w (σ.ev x) (a.eval x) := by
  cases x with
  | tmp t => exact h.tm t
  | const v => exact ofConst_R g w v
  | global n => exact .no _
  | func f => exact .clo f [] [] rfl (fun j x v h1 => by simp at h1)

/-! Inversions -/
section
variable {g : Gh} {w : World} {v : Value}
theorem R_sc {u : Value} (h : AV.R g w (.sc u) v) : v = u := by cases h; rfl
theorem R_ptr {id j : Nat} (h : AV.R g w (.ptr id j) v) : v = .pointer (some ⟨g.μ id, j, none⟩) ∧ id < g.n := by cases h; exact ⟨rfl, ‹_›⟩
theorem R_pel {id i j : Nat} (h : AV.R g w (.pel id i j) v) : v = .pointer (some ⟨g.μ id, i * g.σ id + j, none⟩) ∧ id < g.n := by cases h; exact ⟨rfl, ‹_›⟩
theorem R_arr {id off len : Nat} (h : AV.R g w (.arr id off len) v) : ∃ c, v = .slice (some ⟨g.μ id, off * g.σ id, none⟩) len c ∧ len ≤ c ∧ id < g.n := by
  cases h; exact ⟨_, rfl, ‹_›, ‹_›⟩
theorem R_cel {e : List Tr} {j : Nat} (h : AV.R g w (.cel e j) v) : ∃ (b o : Nat) (u : Nat → Value), v = .pointer (some ⟨b, o + j, none⟩) ∧ b < w.heap.size ∧
    (∀ (j : Nat) (x : Tr), e[j]? = some x → cellAt w b (o + j) = some (u j) ∧ ¬ g.M b (o + j)) ∧
    (∀ (j : Nat) (x : Tr), e[j]? = some x → Tr.R g.M w x (u j)) := by
  cases h; exact ⟨_, _, _, rfl, ‹_›, ‹_›, ‹_›⟩
theorem R_agg {cs : List AV} (h : AV.R g w (.agg cs) v) : ∃ vs : List Value, v = .agg vs.toArray ∧ cs.length = vs.length ∧
    ∀ (j : Nat) (x : AV) (u : Value), cs[j]? = some x → vs[j]? = some u → AV.R g w x u := by
  cases h; exact ⟨_, rfl, ‹_›, ‹_›⟩
theorem R_tup {cs : List AV} (h : AV.R g w (.tup cs) v) : ∃ vs : List Value, v = .tuple vs.toArray ∧ cs.length = vs.length ∧
    ∀ (j : Nat) (x : AV) (u : Value), cs[j]? = some x → vs[j]? = some u → AV.R g w x u := by
  cases h; exact ⟨_, rfl, ‹_›, ‹_›⟩
theorem R_clo {f : FuncId} {cs : List AV} (h : AV.R g w (.clo f cs) v) : ∃ vs : List Value, v = .func (.func f) #[] vs.toArray ∧ cs.length = vs.length ∧
    ∀ (j : Nat) (x : AV) (u : Value), cs[j]? = some x → vs[j]? = some u → AV.R g w x u := by
  cases h; exact ⟨_, rfl, ‹_›, ‹_›⟩
theorem R_sl {tk : Nat} {xs : List (List Tr)} (h : AV.R g w (.sl tk xs) v) : Tr.R g.M w (.sl xs) v := by cases h; assumption
theorem Tr_sl {M : May} {xs : List (List Tr)} (h : Tr.R M w (.sl xs) v) : ∃ A n c, v = .slice A n c ∧ n = xs.length ∧ n ≤ c ∧
    ((A = none ∧ xs = [] ∧ c = 0) ∨ (∃ a, A = some a ∧ xs = []) ∨ ∃ (b o sz : Nat) (u : Nat → Nat → Value), A = some ⟨b, o, none⟩ ∧ (∀ (i : Nat) (e : List Tr), xs[i]? = some e → e.length = sz) ∧ b < w.heap.size ∧
      (∀ (i : Nat) (e : List Tr) (j : Nat) (x : Tr), xs[i]? = some e → e[j]? = some x → cellAt w b (o + i * sz + j) = some (u i j) ∧ ¬ M b (o + i * sz + j)) ∧
      (∀ (i : Nat) (e : List Tr) (j : Nat) (x : Tr), xs[i]? = some e → e[j]? = some x → Tr.R M w x (u i j))) := by
  cases h with
  | nil => exact ⟨none, 0, 0, rfl, rfl, Nat.le_refl _, .inl ⟨rfl, rfl, rfl⟩⟩
  | emp a c => exact ⟨some a, 0, c, rfl, rfl, Nat.zero_le _, .inr (.inl ⟨a, rfl, rfl⟩)⟩
  | sl _ b o c sz u hc hz hb hu hx => exact ⟨_, _, c, rfl, rfl, hc, .inr (.inr ⟨b, o, sz, u, rfl, hz, hb, hu, hx⟩)⟩
end

/-! The tables -/
section
variable {P : Program}
theorem szOf_spec {t : TypeId} {n : Nat} (h : szOf P t = some n) : ∃ i, P.info? t = some i ∧ i.size = n := by
  unfold szOf at h
  cases hi : P.info? t with
  | none => simp [hi] at h
  | some i => simp [hi] at h; exact ⟨i, rfl, h⟩
theorem run_sizeOf {t : TypeId} {n : Nat} (h : szOf P t = some n) (w : World) : (Go.sizeOf t).run P w = .ok n w := by
  obtain ⟨i, hi, rfl⟩ := szOf_spec h
  simp [Go.sizeOf, typeInfo, hi]
theorem run_isAgg {t : TypeId} {b : Bool} (h : aggOf P t = some b) (w : World) : (isAgg t).run P w = .ok b w := by
  unfold aggOf at h
  cases hu : P.underlying t with
  | none => simp [hu] at h
  | some d =>
    simp [hu] at h
    subst h
    cases d <;> simp [isAgg, run_underlying hu]
theorem fldOf_spec {s f o n : Nat} {b : Bool} (h : fldOf P s f = some (o, n, b)) : ∃ fs fl, P.underlying s = some (.struct fs) ∧ fs[f]? = some fl ∧ fl.offset = o ∧ szOf P fl.type = some n ∧ aggOf P fl.type = some b := by
  unfold fldOf at h
  split at h
  · rename_i fs hu
    simp only [Option.bind_eq_some_iff, Option.map_eq_some_iff] at h
    obtain ⟨fl, h1, n', h2, b', h3, h4⟩ := h
    cases h4
    exact ⟨fs, fl, hu, h1, rfl, h2, h3⟩
  · cases h
theorem arrOf_spec {t len n : Nat} {b : Bool} (h : arrOf P t = some (len, n, b)) : ∃ e, P.underlying t = some (.array len e) ∧ szOf P e = some n ∧ aggOf P e = some b := by
  unfold arrOf at h
  split at h
  · rename_i len' e hu
    simp only [Option.bind_eq_some_iff, Option.map_eq_some_iff] at h
    obtain ⟨n', h2, b', h3, h4⟩ := h
    cases h4
    exact ⟨e, hu, h2, h3⟩
  · cases h
theorem slcOf_spec {t e n by_ : Nat} (h : slcOf P t = some (e, n, by_)) : ∃ i, P.underlying t = some (.slice e) ∧ P.info? e = some i ∧ i.size = n ∧ i.bytes = by_ := by
  unfold slcOf at h
  split at h
  · rename_i e' hu
    simp only [Option.map_eq_some_iff] at h
    obtain ⟨i, h1, h2⟩ := h
    cases h2
    exact ⟨i, hu, h1, rfl, rfl⟩
  · cases h
theorem isInt_spec {t : TypeId} {k : IntKind} (h : isInt P t = some k) : P.underlying t = some (.int k) := by
  unfold isInt at h
  split at h
  · cases h; assumption
  · cases h
theorem isBoo_spec {t : TypeId} (h : isBoo P t = true) : P.underlying t = some .bool := by
  unfold isBoo at h
  split at h
  · assumption
  · cases h
theorem isStr_spec {t : TypeId} (h : isStr P t = true) : P.underlying t = some .string := by
  unfold isStr at h
  split at h
  · assumption
  · cases h
end

/-- A few of the cells, as the machine takes them out. -/
theorem part_R {g : Gh} {w : World} {P : Program} {t off n : Nat} {b : Bool} {cs : List AV} {vs : List Value} {x : AV}
    (hn : szOf P t = some n) (hb : aggOf P t = some b) (hl : cs.length = vs.length)
    (h : ∀ (j : Nat) (x : AV) (u : Value), cs[j]? = some x → vs[j]? = some u → AV.R g w x u) (hp : partOf cs off n b = some x) :
    ∃ v, (part t vs.toArray off).run P w = .ok v w ∧ AV.R g w x v := by
  unfold partOf at hp
  cases b with
  | true =>
    simp only [if_true] at hp
    split at hp
    · rename_i hle
      cases hp
      refine ⟨.agg (vs.toArray.extract off (off + n)), by simp [part, run_isAgg hb, run_sizeOf hn], ?_⟩
      have e : vs.toArray.extract off (off + n) = ((vs.drop off).take n).toArray := by
        simp [List.take_drop]
      rw [e]
      refine .agg _ _ (by simp [hl]) (fun j y u h1 h2 => ?_)
      rw [List.getElem?_take] at h1 h2
      split at h1
      · rename_i hj
        rw [if_pos hj] at h2
        rw [List.getElem?_drop] at h1 h2
        exact h _ y u h1 h2
      · cases h1
    · cases hp
  | false =>
    simp only [Bool.false_eq_true, if_false] at hp
    have hlt : off < vs.length := by
      have := (List.getElem?_eq_some_iff.1 hp).1
      omega
    refine ⟨vs[off], by simp [part, run_isAgg hb, List.getElem?_eq_getElem hlt], ?_⟩
    exact h off x _ hp (by simp [List.getElem?_eq_getElem hlt])

theorem agg_of_list (vs : List Value) : Value.agg vs.toArray = Value.agg vs.toArray := rfl

/-- A few of the cells, as the machine reads them from memory. -/
theorem load_R {g : Gh} {w : World} {P : Program} {t b o n : Nat} {ag : Bool} {cs : List AV} {j : Nat} {x : AV} (u : Nat → Value)
    (hn : szOf P t = some n) (hb : aggOf P t = some ag)
    (h : ∀ (i : Nat) (x : AV), cs[i]? = some x → cellAt w b (o + i) = some (u i) ∧ AV.R g w x (u i)) (hp : partOf cs j n ag = some x) :
    ∃ v, (loadVar t ⟨b, o + j, none⟩).run P w = .ok v w ∧ AV.R g w x v := by
  unfold partOf at hp
  cases ag with
  | true =>
    simp only [if_true] at hp
    split at hp
    · rename_i hle
      cases hp
      have hadd : ∀ i, (⟨b, o + j, none⟩ : Addr).add i = ⟨b, o + (j + i), none⟩ := by
        intro i; unfold Addr.add; split <;> simp_all [Nat.add_assoc]
      have hc : ∀ i, i < n → w.cell? ((⟨b, o + j, none⟩ : Addr).add i) = some (u (j + i)) := by
        intro i hi
        rw [hadd]
        exact (h (j + i) _ (List.getElem?_eq_getElem (by omega))).1
      refine ⟨.agg ((List.range n).map fun i => u (j + i)).toArray, ?_, ?_⟩
      · simp [loadVar, run_isAgg hb, run_sizeOf hn, run_loadCells w _ n (fun i => u (j + i)) hc]
      · refine .agg _ _ (by simp; omega) (fun i y v h1 h2 => ?_)
        rw [List.getElem?_take] at h1
        split at h1
        · rename_i hi
          rw [List.getElem?_drop] at h1
          simp [hi] at h2
          subst h2
          exact (h (j + i) y h1).2
        · cases h1
    · cases hp
  | false =>
    simp only [Bool.false_eq_true, if_false] at hp
    obtain ⟨h1, h2⟩ := h j x hp
    refine ⟨u j, ?_, h2⟩
    have h1' : w.cell? ⟨b, o + j, none⟩ = some (u j) := h1
    simp [loadVar, run_isAgg hb, load, Sem.run, h1']
end VC
