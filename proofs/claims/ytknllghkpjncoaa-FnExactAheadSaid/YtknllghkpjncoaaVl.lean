/- What an operation asks for in the walk is enough: structs and slices that are written out, made, appended to. -/
import Derived.Test.YtknllghkpjncoaaVk
set_option linter.unusedVariables false
set_option linter.unusedSimpArgs false
namespace VC
open Go Go.RowKit

section
variable {P : Program} {N : Nat} {g g' : Gh} {w w' : World} {σ σ' : AS} {a : Act}

theorem foldl_patch (off : Nat) : ∀ (l : List Value) (k : Nat) (cells : Array Value), off + k + l.length ≤ cells.size →
    ((l.zipIdx k).foldl (fun (cs : Array Value) (p : Value × Nat) => cs.setIfInBounds (off + p.2) p.1) cells).size = cells.size ∧
    ∀ i, ((l.zipIdx k).foldl (fun (cs : Array Value) (p : Value × Nat) => cs.setIfInBounds (off + p.2) p.1) cells)[i]? =
      if off + k ≤ i ∧ i < off + k + l.length then l[i - (off + k)]? else cells[i]?
  | [], k, cells, h => ⟨rfl, fun i => by simp; omega⟩
  | v :: l, k, cells, h => by
    have hl : off + (k + 1) + l.length ≤ (cells.setIfInBounds (off + k) v).size := by simp at h ⊢; omega
    obtain ⟨h1, h2⟩ := foldl_patch off l (k + 1) (cells.setIfInBounds (off + k) v) hl
    simp only [List.zipIdx_cons, List.foldl_cons]
    refine ⟨by rw [h1]; simp, fun i => ?_⟩
    rw [h2]
    simp at h
    by_cases h3 : i = off + k
    · subst h3
      rw [if_neg (by omega), if_pos (by simp), Array.getElem?_setIfInBounds_self_of_lt (by omega)]
      simp
    · by_cases h4 : off + (k + 1) ≤ i ∧ i < off + (k + 1) + l.length
      · rw [if_pos h4, if_pos (by simp; omega)]
        have : i - (off + k) = (i - (off + (k + 1))) + 1 := by omega
        rw [this, List.getElem?_cons_succ]
      · rw [if_neg h4, if_neg (by simp; omega), Array.getElem?_setIfInBounds_ne (by omega)]

/-- Parts laid into cells, as the machine lays them. -/
theorem fill_R {place : Nat → Option (Nat × Nat)} : ∀ (ps : List (Nat × List AV)) (vs : List (Nat × Value)) (cs cs' : List AV) (cells : Array Value),
    ps.length = vs.length → (∀ (k : Nat) p q, ps[k]? = some p → vs[k]? = some q → p.1 = q.1 ∧ q.2.cells.size = p.2.length ∧ ∀ (j : Nat) (y : AV) (u : Value), p.2[j]? = some y → q.2.cells[j]? = some u → AV.R g w y u) →
    cells.size = cs.length → (∀ (j : Nat) (y : AV) (u : Value), cs[j]? = some y → cells[j]? = some u → AV.R g w y u) →
    afill place cs ps = some cs' →
    ∃ cells', Instr.fill place cells vs = some cells' ∧ cells'.size = cs'.length ∧ ∀ (j : Nat) (y : AV) (u : Value), cs'[j]? = some y → cells'[j]? = some u → AV.R g w y u
  | [], [], cs, cs', cells, _, _, hs, hR, h => by
    simp [afill] at h; subst h
    exact ⟨cells, rfl, hs, hR⟩
  | (i, p) :: ps, (i', q) :: vs, cs, cs', cells, hl, hh, hs, hR, h => by
    obtain ⟨h1, h2, h3⟩ := hh 0 (i, p) (i', q) (by simp) (by simp)
    simp only at h1 h2 h3
    subst h1
    simp only [afill] at h
    split at h
    · cases h
    · rename_i o n hp
      split at h
      · rename_i hc
        obtain ⟨hc1, hc2⟩ := hc
        obtain ⟨k1, k2⟩ := foldl_patch o q.cells.toList 0 cells (by simp; omega)
        have hz : q.cells.zipIdx.foldl (fun (cs : Array Value) (p : Value × Nat) => cs.setIfInBounds (o + p.2) p.1) cells = (q.cells.toList.zipIdx).foldl (fun (cs : Array Value) (p : Value × Nat) => cs.setIfInBounds (o + p.2) p.1) cells := by
          rw [← Array.foldl_toList]
          simp
        have hlen : (setCells cs o p).length = cs.length := by simp [setCells]; omega
        obtain ⟨cells', e1, e2, e3⟩ := fill_R ps vs (setCells cs o p) cs' (q.cells.zipIdx.foldl (fun (cs : Array Value) (p : Value × Nat) => cs.setIfInBounds (o + p.2) p.1) cells)
          (by simpa using hl) (fun k p q hp hq => hh (k + 1) p q (by simpa using hp) (by simpa using hq)) (by rw [hz, k1, hlen, hs]) (fun j y u hy hu => by
            rw [hz, k2] at hu
            unfold setCells at hy
            rw [getElem?_patch _ _ _ _ (by omega)] at hy
            simp only [Array.length_toList, Nat.add_zero, h2] at hu
            split at hy
            · rename_i hij
              rw [if_pos hij] at hu
              exact h3 _ y u hy (by simpa using hu)
            · rename_i hij
              rw [if_neg hij] at hu
              exact hR j y u hy hu) h
        refine ⟨cells', ?_, e2, e3⟩
        simp only [Instr.fill, hp]
        have : (q.cells.size ≠ n || o + q.cells.size > cells.size) = false := by simp; omega
        rw [this]
        exact e1
      · cases h
  | [], _ :: _, _, _, _, hl, _, _, _, _ => by simp at hl
  | _ :: _, [], _, _, _, hl, _, _, _, _ => by simp at hl

theorem parts_R (hI : Inv N g σ a w) {parts : Array (Nat × Operand)} (h : (parts.toList.all fun p => (σ.ev p.2).cells.all AV.one) = true) :
    ∀ (k : Nat) p q, (parts.toList.map fun p => (p.1, (σ.ev p.2).cells))[k]? = some p → ((parts.map fun (i, x) => (i, a.eval x)).toList)[k]? = some q →
      p.1 = q.1 ∧ q.2.cells.size = p.2.length ∧ ∀ (j : Nat) (y : AV) (u : Value), p.2[j]? = some y → q.2.cells[j]? = some u → AV.R g w y u := by
  intro k p q hp hq
  simp at hp hq
  obtain ⟨i, x, h1, rfl⟩ := hp
  obtain ⟨i', x', h2, rfl⟩ := hq
  rw [h1] at h2
  cases h2
  simp only [List.all_eq_true] at h
  have hm : (i, x) ∈ parts.toList := List.mem_of_getElem? (by simpa using h1)
  obtain ⟨c1, c2, c3⟩ := cells_R (hI.ev x) (fun y hy => h _ hm y hy)
  exact ⟨rfl, by simpa using c1, fun j y u hy hu => c3 j y u hy (by simpa using hu)⟩

theorem built_of {t : TypeId} {z : List Value} {cs : List AV} {ps : List (Nat × List AV)} {vs : List (Nat × Value)} (hz : zerOf P t = some z) (hl : ps.length = vs.length)
    (hh : ∀ (k : Nat) p q, ps[k]? = some p → vs[k]? = some q → p.1 = q.1 ∧ q.2.cells.size = p.2.length ∧ ∀ (j : Nat) (y : AV) (u : Value), p.2[j]? = some y → q.2.cells[j]? = some u → AV.R g w y u)
    (hf : afillT P t (z.map ofCell) ps = some cs) :
    ∃ cells', P.built t vs = some cells' ∧ cells'.size = cs.length ∧ ∀ (j : Nat) (y : AV) (u : Value), cs[j]? = some y → cells'[j]? = some u → AV.R g w y u := by
  obtain ⟨v, hr, hv, i, hi, hiz⟩ := zerOf_spec hz
  have key : ∀ place, afill place (z.map ofCell) ps = some cs → ∃ cells', Instr.fill place v.cells vs = some cells' ∧ cells'.size = cs.length ∧
      ∀ (j : Nat) (y : AV) (u : Value), cs[j]? = some y → cells'[j]? = some u → AV.R g w y u := by
    intro place hp
    refine fill_R (g := g) (w := w) ps vs _ cs v.cells hl hh (by simp [← hv]) (fun j y u hy hu' => ?_) hp
    rw [← hv] at hy
    simp at hy
    rw [hu'] at hy
    simp at hy
    subst hy
    exact ofCell_R g w u
  unfold afillT at hf
  split at hf
  · rename_i pl _ hpl
    unfold plcOf at hpl
    split at hpl
    · rename_i fs hu
      obtain ⟨cells', e1, e2, e3⟩ := key _ hf
      refine ⟨cells', ?_, e2, e3⟩
      simp only [Program.built, hi, hu, hiz, hpl]
      simpa using e1
    · cases hpl
  · rename_i _ len n b hpl har
    obtain ⟨e, hu, hs, _⟩ := arrOf_spec har
    obtain ⟨ie, hie, hsz⟩ := szOf_spec hs
    obtain ⟨cells', e1, e2, e3⟩ := key _ hf
    refine ⟨cells', ?_, e2, e3⟩
    simp only [Program.built, hi, hu, hiz, hie, hsz]
    exact e1
  · cases hf

theorem exec_build {o : Oper} {K : AS → Prop} {Kc : Act → World → Prop} {Q : Exit → Act → World → Prop} (hd : ∀ d, o.dst = some d → d < N) (hI : Inv N g σ a w) (hK : Kon N g w K Kc)
    {t : TypeId} {parts : Array (Nat × Operand)} {z : List Value} {cs : List AV} (ho : o.op = .build t parts) (hone : (parts.toList.all fun p => (σ.ev p.2).cells.all AV.one) = true)
    (hz : zerOf P t = some z) (hf : afillT P t (z.map ofCell) (parts.toList.map fun p => (p.1, (σ.ev p.2).cells)) = some cs) (hk : K (σ.put o.dst (.agg cs))) : o.wp P a w Kc Q := by
  obtain ⟨cells', e1, e2, e3⟩ := built_of (g := g) (w := w) (vs := (parts.map fun (i, x) => (i, a.eval x)).toList) hz (by simp) (parts_R hI hone) hf
  refine wp_value (v := .agg cells') (w' := w) ?_ (hK g _ _ w hk (hI.put hd ?_) (Ext.refl g w))
  · have := run_build (P := P) w t (parts.map fun (i, x) => (i, a.eval x)) cells' e1
    simp only [execOp, ho, Sem.run_bind, this, Result.andThen_ok, Sem.run_pure]
  · have := AV.R.agg (g := g) (w := w) cs cells'.toList (by simp [e2]) (fun j x v h1 h2 => e3 j x v h1 (by simpa using h2))
    simpa using this

/-- Cells that were taken out as trees, chunk by chunk. -/
theorem chunk_get {α : Type} {n : Nat} : ∀ {k : Nat} {l : List α} {i : Nat} {c : List α}, (chunk n k l)[i]? = some c → l.length = k * n → c.length = n ∧ ∀ (j : Nat) (x : α), c[j]? = some x → l[i * n + j]? = some x ∧ j < n
  | 0, _, _, _, h, _ => by simp [chunk] at h
  | k + 1, l, 0, c, h, hl => by
    simp [chunk] at h; subst h
    rw [Nat.succ_mul] at hl
    refine ⟨by simp; omega, fun j x hx => ?_⟩
    rw [List.getElem?_take] at hx
    split at hx
    · exact ⟨by simpa using hx, ‹_›⟩
    · cases hx
  | k + 1, l, i + 1, c, h, hl => by
    simp [chunk] at h
    rw [Nat.succ_mul] at hl
    obtain ⟨h1, h2⟩ := chunk_get h (by simp; omega)
    refine ⟨h1, fun j x hx => ?_⟩
    obtain ⟨h3, h4⟩ := h2 j x hx
    rw [List.getElem?_drop] at h3
    refine ⟨?_, h4⟩
    rw [← h3]; congr 1; rw [Nat.succ_mul]; omega
theorem chunk_length {α : Type} (n : Nat) : ∀ (k : Nat) (l : List α), (chunk n k l).length = k
  | 0, _ => rfl
  | k + 1, l => by simp [chunk, chunk_length n k]
theorem trss_spec {cs : List (List AV)} {ys : List (List Tr)} (h : trss cs = some ys) : ys.length = cs.length ∧ ∀ (i : Nat) (e : List Tr), ys[i]? = some e → ∃ c, cs[i]? = some c ∧ trs c = some e := by
  induction cs generalizing ys with
  | nil => simp [trss] at h; subst h; simp
  | cons x r ih =>
    simp only [trss] at h
    split at h
    · rename_i y ys' hx hr
      cases h
      obtain ⟨h1, h2⟩ := ih hr
      refine ⟨by simp [h1], fun j z hz => ?_⟩
      cases j with
      | zero => simp at hz; subst hz; exact ⟨x, by simp, hx⟩
      | succ j => simp at hz; simpa using h2 j z hz
    · cases h

theorem zeros_cells (z : List Value) (len n : Nat) (hz : z.length = n) (hn : 0 < n) : ((List.range (len * n)).map fun i => z.toArray[i % z.toArray.size]!) = (List.replicate len z).flatten := by
  subst hz
  apply List.ext_getElem?
  intro i
  induction len generalizing i with
  | zero => simp
  | succ len ih =>
    rw [List.replicate_succ, List.flatten_cons, Nat.succ_mul]
    by_cases h : i < z.length
    · rw [List.getElem?_append_left h]
      have h' : i < len * z.length + z.length := by omega
      simp [h', Nat.mod_eq_of_lt h, h]
    · rw [List.getElem?_append_right (by omega), ← ih]
      by_cases h2 : i - z.length < len * z.length
      · have h' : i < len * z.length + z.length := by omega
        have hm : i % z.length = (i - z.length) % z.length := by
          conv => lhs; rw [show i = (i - z.length) + z.length from by omega]
          exact Nat.add_mod_right _ _
        simp [h', h2, hm]
      · have h' : ¬ i < len * z.length + z.length := by omega
        simp [h', h2]

/-- A row of one's own that has just been made, with a token. -/
theorem exec_tokRow {o : Oper} {K : AS → Prop} {Kc : Act → World → Prop} {Q : Exit → Act → World → Prop} (hd : ∀ d, o.dst = some d → d < N) (hI : Inv N g σ a w) (hK : Kon N g w K Kc)
    {e : TypeId} {n len : Nat} {cells : Array Value} {xs : List (List Tr)} (hl : xs.length = len) (hc : cells.size = len * n) (hm : len ≤ maxLen) (hzn : ∀ (i : Nat) (e : List Tr), xs[i]? = some e → e.length = n)
    (hx : ∀ (i : Nat) (e : List Tr) (j : Nat) (x : Tr), xs[i]? = some e → e[j]? = some x → ∃ v, cells[i * n + j]? = some v ∧ Tr.R g.M w x v)
    (hr : (execOp a.eval o).run P w = .ok (.value (.slice (some ⟨w.heap.size, 0, none⟩) len len)) (w.alloc (.cells cells e)))
    (hk : K ((σ.newTok (e, n)).put o.dst (.sl σ.nt xs))) : o.wp P a w Kc Q := by
  have hB := hI.H.B
  have hm2 := hI.H.m2
  have hL0 : σ.L 0 = none := by
    cases h : σ.L 0 with
    | none => rfl
    | some e => have := (hI.H.tok 0 e h).lt.1; omega
  obtain ⟨g', h1, h2, h3, h4, h5⟩ := hI.H.grow (σ := σ) (tk := 0) (e := e) (sz := n) (n' := len) (v := .slice none 0 0) (v' := .slice (some ⟨w.heap.size, 0, none⟩) len len) (w' := w.alloc (.cells cells e)) (xs' := cells.toList)
    (.inl rfl) ⟨by simp [hc], .inr ⟨w.heap.size, len, cells, rfl, hB, heap_alloc_new w _, Nat.le_refl _, hm, hc, by rw [← hc, ← Array.length_toList, List.take_length]⟩⟩
    (World.grownBy_alloc w _ _) (.inr (.inr ⟨rfl, by simp⟩)) (fun k o hk => by cases hk)
  refine wp_value hr (hK g' _ _ _ hk ?_ h2)
  have hLe : (σ.newTok (e, n)).L = (fun i => if i = σ.nt then some (e, n) else if i = 0 then none else σ.L i) := by
    funext i
    simp only [AS.newTok, AS.L, tlook]
    by_cases hi : i = 0
    · subst hi; rw [if_neg (by omega), if_neg (by omega), if_pos rfl]; exact hL0
    · rw [if_neg hi]
  refine (hI.ext (σ' := σ.newTok (e, n)) h2 (by rw [hLe]; exact h1) rfl).put hd ?_
  refine .sl σ.nt xs _ ?_ (fun h => by omega) (fun _ => ⟨by omega, by rw [h4], by rw [h4]; exact hl.symm, by rw [h4]; exact hzn⟩)
  have hlt : w.heap.size < (w.alloc (.cells cells e)).heap.size := by simp
  have := Tr.R.sl (M := g'.M) (w := w.alloc (.cells cells e)) xs w.heap.size 0 len n (fun i j => cells.getD (i * n + j) undef) (by omega) hzn hlt
    (fun i e' j x he hx' => by
      obtain ⟨v, hv, hR⟩ := hx i e' j x he hx'
      have hi : i * n + j < cells.size := (Array.getElem?_eq_some_iff.1 hv).1
      refine ⟨?_, ?_⟩
      · have := cell_of_row (w.alloc (.cells cells e)) w.heap.size (0 + i * n + j) cells e (0, 0) (heap_alloc_new w _)
        simp only [cellAt, this, Nat.zero_add, Array.getD, hi]
        simp [hi]
      · intro hM
        have h6 := h5 w.heap.size _ rfl hM
        have hj : j < n := by rw [← hzn i e' he]; exact (List.getElem?_eq_some_iff.1 hx').1
        have hi' : i < len := by rw [← hl]; exact (List.getElem?_eq_some_iff.1 he).1
        have : (i + 1) * n ≤ len * n := Nat.mul_le_mul_right _ hi'
        rw [Nat.succ_mul] at this
        omega)
    (fun i e' j x he hx' => by
      obtain ⟨v, hv, hR⟩ := hx i e' j x he hx'
      have hi : i * n + j < cells.size := (Array.getElem?_eq_some_iff.1 hv).1
      have : cells.getD (i * n + j) undef = v := by simp [Array.getD, hi]; simpa [Array.getElem?_eq_getElem hi] using hv
      rw [this]
      exact hR.keep h2.keep)
  rwa [hl] at this
end
end VC
