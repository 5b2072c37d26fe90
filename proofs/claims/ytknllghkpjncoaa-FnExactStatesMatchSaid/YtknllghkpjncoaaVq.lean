/- Regions whose order is open: one walk in the text's order serves every order. -/
import Derived.Test.YtknllghkpjncoaaVo
set_option linter.unusedVariables false
set_option linter.unusedSimpArgs false
namespace VC
open Go Go.RowKit

/-! ### What a quiet operation yields -/
def qv (P : Program) (σ : AS) (op : Op) (x : AV) : Prop :=
  match op with
  | .build t parts => ∃ z cs, zerOf P t = some z ∧ allOne (σ.parts parts.toList) = true ∧ afillT P t (z.map ofCell) (σ.parts parts.toList) = some cs ∧ x = .agg cs
  | .buildSlice t len parts => ∃ e n b z xs, slcOf P t = some (e, n, b) ∧ allOne (σ.parts parts.toList) = true ∧ 0 < n ∧ len * n ≤ 16777216 ∧ zerOf P e = some z ∧ z.length = n ∧ fillTrs n len z (σ.parts parts.toList) = some xs ∧ x = .sl 0 xs
  | .call { callee := .value f, args := as, .. } => ∃ fn caps, σ.ev f = .clo fn caps ∧ isFn P fn = true ∧ Pure P fn ((σ.evs as.toList ++ caps).map AV.lend) (· = x)
  | op => aval P σ op = some x

theorem qexec_qv {P : Program} {op : Op} {d : Option Tmp} {K : AS → Prop} {σ : AS} (h : qexec P op d K σ) : ∃ x, qv P σ op x ∧ K (σ.put d x) := by
  unfold qexec at h
  split at h
  · rename_i t parts
    unfold kbuild at h
    split at h
    · rename_i z hz
      obtain ⟨h1, h⟩ := h
      obtain ⟨v, h3, h4⟩ := kput_elim h
      simp only [Option.map_eq_some_iff] at h3
      obtain ⟨cs, h3, rfl⟩ := h3
      exact ⟨_, ⟨z, cs, hz, h1, h3, rfl⟩, h4⟩
    · exact h.elim
  · rename_i t len parts
    unfold qslice at h
    split at h
    · rename_i e n b hs
      obtain ⟨h1, h2, h3, h⟩ := h
      unfold qslice2 at h
      split at h
      · rename_i z hz
        obtain ⟨h4, h⟩ := h
        obtain ⟨v, h5, h6⟩ := kput_elim h
        simp only [Option.map_eq_some_iff] at h5
        obtain ⟨xs, h5, rfl⟩ := h5
        exact ⟨_, ⟨e, n, b, z, xs, hs, h1, h2, h3, hz, h4, h5, rfl⟩, h6⟩
      · exact h.elim
    · exact h.elim
  · rename_i f as ts
    unfold qcall at h
    split at h
    · rename_i fn caps he
      obtain ⟨h1, x, h2, h3⟩ := h
      exact ⟨x, ⟨fn, caps, he, h1, h2⟩, h3⟩
    · exact h.elim
  · rename_i h1 h2 h3
    obtain ⟨v, h4, h5⟩ := kput_elim h
    refine ⟨v, ?_, h5⟩
    unfold qv
    split
    · exact absurd rfl (h1 _ _)
    · exact absurd rfl (h2 _ _ _)
    · exact absurd rfl (h3 _ _ _)
    · exact h4

theorem evs_congr {σ σ' : AS} : ∀ {l : List Operand}, (∀ y ∈ l, σ.ev y = σ'.ev y) → σ.evs l = σ'.evs l
  | [], _ => rfl
  | x :: r, h => by
    simp only [AS.evs]
    rw [h x (by simp), evs_congr (fun y hy => h y (by simp [hy]))]
theorem parts_congr {σ σ' : AS} : ∀ {l : List (Nat × Operand)}, (∀ y ∈ l.map (·.2), σ.ev y = σ'.ev y) → σ.parts l = σ'.parts l
  | [], _ => rfl
  | (i, x) :: r, h => by
    simp only [AS.parts]
    rw [h x (by simp), parts_congr (fun y hy => h y (by simp only [List.map_cons, List.mem_cons]; exact .inr hy))]

theorem aval_congr {P : Program} {σ σ' : AS} {op : Op} (h : ∀ y ∈ op.operands.toList, σ.ev y = σ'.ev y) (hb : σ.b = σ'.b) : aval P σ op = aval P σ' op := by
  have hH : ∀ i, σ.H i = σ'.H i := fun i => by simp only [AS.H, hb]
  cases op <;> simp only [Op.operands, Call.operands] at h <;> simp only [aval]
  case move x => rw [h x (by simp)]
  case assign x => rw [h x (by simp)]
  case pick c a b => rw [h c (by simp), h a (by simp), h b (by simp)]
  case load t a => rw [h a (by simp)]; simp only [hH]
  case nilCheck x => rw [h x (by simp)]
  case binOp op t x y yt => rw [h x (by simp), h y (by simp)]
  case unOp op t x => rw [h x (by simp)]
  case convert s d x => rw [h x (by simp)]
  case fieldAddr s x f => rw [h x (by simp)]
  case indexAddr t x ix => rw [h x (by simp), h ix (by simp)]; simp only [hH]
  case field t x f => rw [h x (by simp)]
  case index t x ix => rw [h x (by simp), h ix (by simp)]
  case slice t x lo hi mx =>
    rw [h x (by simp)]
    have e1 : hi.map σ.ev = hi.map σ'.ev := by cases hi with | none => rfl | some y => simp only [Option.map_some]; rw [h y (by simp)]
    have e2 : lo.map σ.ev = lo.map σ'.ev := by cases lo with | none => rfl | some y => simp only [Option.map_some]; rw [h y (by simp)]
    simp only [e1, e2]
  case extract x i => rw [h x (by simp)]
  case call c =>
    obtain ⟨callee, args, ts⟩ := c
    cases callee with
    | builtin b =>
      simp only at h
      simp only [abuiltin]
      split
      · rename_i x t hx ht
        rw [h x (by simp [hx])]
      · rename_i ts p q hx
        rw [h p (by simp [hx]), h q (by simp [hx])]
      · rename_i ts p q hx
        rw [h p (by simp [hx]), h q (by simp [hx])]
      · rfl
    | value f => rfl
    | invoke r m => rfl

theorem qv_congr {P : Program} {σ σ' : AS} {op : Op} {x : AV} (h : ∀ y ∈ op.operands.toList, σ.ev y = σ'.ev y) (hb : σ.b = σ'.b) (hq : qv P σ op x) : qv P σ' op x := by
  unfold qv at hq ⊢
  split at hq
  · rename_i t parts
    simp only [Op.operands] at h
    rw [parts_congr (σ' := σ') (by simpa using h)] at hq
    exact hq
  · rename_i t len parts
    simp only [Op.operands] at h
    rw [parts_congr (σ' := σ') (by simpa using h)] at hq
    exact hq
  · rename_i f as ts
    simp only [Op.operands, Call.operands] at h
    rw [h f (by simp), evs_congr (σ' := σ') (fun y hy => h y (by simp at hy ⊢; exact .inr hy))] at hq
    exact hq
  · rename_i h1 h2 h3
    rw [aval_congr h hb] at hq
    exact hq

section
variable {P : Program} {N : Nat} {g g' : Gh} {w w' : World} {σ σ' : AS} {a : Act}

theorem qv_sound {o : Oper} {x : AV} {Kc : Act → World → Prop} {Q : Exit → Act → World → Prop} (hd : ∀ d, o.dst = some d → d < N) (hI : Inv N g σ a w) (h : qv P σ o.op x)
    (hK : Kon N g w (· = σ.put o.dst x) Kc) : o.wp P a w Kc Q := by
  unfold qv at h
  split at h
  · rename_i t parts ho
    obtain ⟨z, cs, h1, h2, h3, rfl⟩ := h
    rw [AS.parts_map] at h2 h3
    exact exec_build hd hI hK ho (by simpa [allOne, List.all_map, Function.comp_def] using h2) h1 h3 rfl
  · rename_i t len parts ho
    obtain ⟨e, n, b, z, xs, h1, h2, h3, h4, h5, h6, h7, rfl⟩ := h
    rw [AS.parts_map] at h2 h7
    unfold fillTrs at h7
    split at h7
    · rename_i cs hc
      obtain ⟨cells, k1, k2, k3, k4, k5, k6⟩ := buildSlice_run hI ho (by simpa [allOne, List.all_map, Function.comp_def] using h2) h1 h3 h4 h5 h6 hc h7
      obtain ⟨m1, m2⟩ := hI.H.below (w' := w.alloc (.cells cells e)) ((Below.refl _ _).alloc (Nat.le_refl _) _)
      refine wp_value k6 (hK g _ _ _ rfl ((hI.ext (σ' := σ) m2 m1 rfl).put hd ?_) m2)
      refine .sl 0 xs _ ?_ (fun h => by omega) (fun h => by omega)
      have := Tr.R.sl (M := g.M) (w := w.alloc (.cells cells e)) xs w.heap.size 0 len n (fun i j => cells.getD (i * n + j) undef) (by omega) k4 (by simp)
        (fun i e' j x he hx => by
          obtain ⟨v, hv, hR⟩ := k5 i e' j x he hx
          have hi : i * n + j < cells.size := (Array.getElem?_eq_some_iff.1 hv).1
          refine ⟨?_, fun hM => ?_⟩
          · have := cell_of_row (w.alloc (.cells cells e)) w.heap.size (0 + i * n + j) cells e (0, 0) (heap_alloc_new w _)
            simp only [cellAt, this, Nat.zero_add, Array.getD, hi]
            simp [hi]
          · have := hI.H.mlt _ _ hM; omega)
        (fun i e' j x he hx => by
          obtain ⟨v, hv, hR⟩ := k5 i e' j x he hx
          have hi : i * n + j < cells.size := (Array.getElem?_eq_some_iff.1 hv).1
          have : cells.getD (i * n + j) undef = v := by simp [Array.getD, hi]; simpa [Array.getElem?_eq_getElem hi] using hv
          rw [this]
          exact hR.keep m2.keep)
      rwa [k1] at this
    · cases h7
  · rename_i f as ts ho
    obtain ⟨fn, caps, h1, h2, h3⟩ := h
    rw [AS.evs_map] at h3
    exact exec_pure hd hI hK ho rfl h1 h2 h3 (fun r hr => by rw [hr])
  · exact exec_aval hd hI hK h rfl
end

/-! ### The orders -/
def Eqv (σ σ' : AS) : Prop := (∀ t, σ.T t = σ'.T t) ∧ σ.b = σ'.b ∧ σ.l = σ'.l ∧ σ.h = σ'.h ∧ σ.nt = σ'.nt
theorem Eqv.refl (σ : AS) : Eqv σ σ := ⟨fun _ => rfl, rfl, rfl, rfl, rfl⟩
theorem Eqv.symm {σ σ' : AS} (h : Eqv σ σ') : Eqv σ' σ := ⟨fun t => (h.1 t).symm, h.2.1.symm, h.2.2.1.symm, h.2.2.2.1.symm, h.2.2.2.2.symm⟩
theorem Eqv.trans {σ σ' σ'' : AS} (h : Eqv σ σ') (k : Eqv σ' σ'') : Eqv σ σ'' := ⟨fun t => (h.1 t).trans (k.1 t), h.2.1.trans k.2.1, h.2.2.1.trans k.2.2.1, h.2.2.2.1.trans k.2.2.2.1, h.2.2.2.2.trans k.2.2.2.2⟩
theorem Eqv.put {σ σ' : AS} (h : Eqv σ σ') (d : Option Tmp) (x : AV) : Eqv (σ.put d x) (σ'.put d x) := by
  cases d with
  | none => exact h
  | some d => exact ⟨fun t => by rw [AS.T_put, AS.T_put, h.1 t], h.2⟩
theorem Eqv.ev {σ σ' : AS} (h : Eqv σ σ') (y : Operand) : σ.ev y = σ'.ev y := by
  cases y <;> simp only [AS.ev]
  exact h.1 _
theorem Inv.eqv {N : Nat} {g : Gh} {σ σ' : AS} {a : Act} {w : World} (h : Inv N g σ a w) (e : Eqv σ σ') : Inv N g σ' a w := by
  obtain ⟨e1, e2, e3, e4, e5⟩ := e
  refine ⟨?_, h.sz, h.df, fun t => by rw [← e1]; exact h.tm t⟩
  have hH : σ'.H = σ.H := by funext i; simp only [AS.H, e2]
  have hL : σ'.L = σ.L := by funext i; simp only [AS.L, e3]
  rw [hH, hL, ← e4, ← e5]
  exact h.H
theorem put_comm {σ : AS} {d e : Option Tmp} {x y : AV} (h : ∀ t, d = some t → e ≠ some t) : Eqv ((σ.put d x).put e y) ((σ.put e y).put d x) := by
  cases d with
  | none => exact Eqv.refl _
  | some d =>
    cases e with
    | none => exact Eqv.refl _
    | some e =>
      have hne : d ≠ e := fun he => h d rfl (by rw [he])
      refine ⟨fun t => ?_, rfl, rfl, rfl, rfl⟩
      simp only [AS.T_put]
      by_cases h1 : t = e <;> by_cases h2 : t = d
      · exact absurd (h2.symm.trans h1) hne
      · rw [if_pos h1, if_neg h2, if_pos h1]
      · rw [if_neg h1, if_pos h2, if_pos h2]
      · rw [if_neg h1, if_neg h2, if_neg h2, if_neg h1]

/-- Under its guard. -/
def gq (P : Program) (ds : List (Option Tmp)) (σ : AS) (o : Oper) (x : AV) : Prop :=
  match o.guard with
  | none => qv P σ o.op x
  | some (j, want) => ∃ d, ds.getD j none = some d ∧ ((∃ b, σ.T d = .sc (.bool b) ∧ (b = want → qv P σ o.op x) ∧ (b = !want → x = .tup [])) ∨ (σ.T d = .tup [] ∧ x = .tup []))

theorem qstep_gq {P : Program} {ds : List (Option Tmp)} {o : Oper} {K : AS → Prop} {σ : AS} (h : qstep P ds o.guard o.op o.dst K σ) : ∃ x σ', gq P ds σ o x ∧ K (σ'.put o.dst x) ∧ Eqv σ σ' := by
  unfold qstep at h
  unfold gq
  split at h
  · rename_i hg
    obtain ⟨x, h1, h2⟩ := qexec_qv h
    exact ⟨x, σ, by rw [hg]; exact h1, h2, Eqv.refl _⟩
  · rename_i j want hg
    unfold qguard0 at h
    split at h
    case h_2 => exact h.elim
    rename_i d hd
    unfold qguard at h
    split at h
    · rename_i b hT
      have same : ∀ c, b = c → Eqv σ (σ.put (some d) (.sc (.bool c))) := fun c hc => ⟨fun t => by
        rw [AS.T_put]
        split
        · rename_i ht; rw [ht, hT, hc]
        · rfl, rfl, rfl, rfl, rfl⟩
      by_cases hb : b = want
      · obtain ⟨x, h1, h2⟩ := qexec_qv (h.1 hb)
        have e := same want hb
        refine ⟨x, _, ?_, h2, e⟩
        rw [hg]
        exact ⟨d, hd, .inl ⟨b, hT, fun _ => qv_congr (fun y _ => (e.ev y).symm) e.2.1.symm h1, fun hb' => by rw [hb] at hb'; cases want <;> cases hb'⟩⟩
      · have hb' : b = !want := by cases b <;> cases want <;> simp_all
        refine ⟨.tup [], _, ?_, h.2 hb', same _ hb'⟩
        rw [hg]
        exact ⟨d, hd, .inl ⟨b, hT, fun h => absurd h hb, fun _ => rfl⟩⟩
    · rename_i hT
      refine ⟨.tup [], _, ?_, h, Eqv.refl _⟩
      rw [hg]
      exact ⟨d, hd, .inr ⟨hT, rfl⟩⟩
    · exact h.elim

theorem gq_congr {P : Program} {ops : Array Oper} {o : Oper} {x : AV} {σ σ' : AS} (h : ∀ t ∈ o.looksAt ops, σ.T t = σ'.T t) (hb : σ.b = σ'.b) (hq : gq P (dsts ops.toList) σ o x) : gq P (dsts ops.toList) σ' o x := by
  have hops : ∀ y ∈ o.op.operands.toList, σ.ev y = σ'.ev y := by
    intro y hy
    cases y <;> simp only [AS.ev]
    rename_i t
    refine h t ?_
    unfold Oper.looksAt
    exact List.mem_append_left _ (List.mem_filterMap.2 ⟨.tmp t, hy, rfl⟩)
  unfold gq at hq ⊢
  cases hg : o.guard with
  | none => rw [hg] at hq; exact qv_congr hops hb hq
  | some jw =>
    obtain ⟨j, want⟩ := jw
    rw [hg] at hq
    obtain ⟨d, h1, h2⟩ := hq
    have hd := dsts_getD h1
    have hT : σ.T d = σ'.T d := h d (by unfold Oper.looksAt; rw [hg]; simp [hd])
    refine ⟨d, h1, ?_⟩
    rw [← hT]
    rcases h2 with ⟨b, h2, h3, h4⟩ | h2
    · exact .inl ⟨b, h2, fun hh => qv_congr hops hb (h3 hh), h4⟩
    · exact .inr h2

/-- A block that is made amid others. -/
def ab (P : Program) (σ : AS) (op : Op) (b : Blk) : Prop :=
  match op with
  | .alloc e => ∃ z, zerOf P e = some z ∧ b = .box (z.map ofCell)
  | .box _ x => ((σ.ev x).cells.all AV.one) = true ∧ b = .box (σ.ev x).cells
  | _ => False
theorem ab_congr {P : Program} {op : Op} {b : Blk} {σ σ' : AS} (h : ∀ y ∈ op.operands.toList, σ.ev y = σ'.ev y) (hq : ab P σ op b) : ab P σ' op b := by
  unfold ab at hq ⊢
  split at hq
  · exact hq
  · rename_i t x
    rw [← h x (by simp [Op.operands])]
    exact hq
  · exact hq.elim
theorem ab_exec {P : Program} {op : Op} {b : Blk} {σ : AS} (h : ab P σ op b) (d : Option Tmp) {K : AS → Prop} (hk : K ((σ.new b).put d (.ptr σ.h 0))) : aexec P op d K σ := by
  unfold ab at h
  split at h
  · obtain ⟨z, h1, rfl⟩ := h
    simp only [aexec, kalloc, h1]
    exact hk
  · obtain ⟨h1, rfl⟩ := h
    simp only [aexec, kbox]
    exact ⟨h1, hk⟩
  · exact h.elim
/-- Amid others: a value, or a new block. -/
def ga (P : Program) (ds : List (Option Tmp)) (p : Option Blk) (σ : AS) (o : Oper) (x : AV) (p' : Option Blk) : Prop :=
  (gq P ds σ o x ∧ p' = p) ∨ (o.guard = none ∧ p = none ∧ ∃ b, ab P σ o.op b ∧ x = .ptr σ.h 0 ∧ p' = some b)
theorem qastep_ga {P : Program} {ds : List (Option Tmp)} {o : Oper} {K : Option Blk → AS → Prop} {p : Option Blk} {σ : AS} (h : qastep P ds o.guard o.op o.dst K p σ) :
    ∃ x p' σ', ga P ds p σ o x p' ∧ K p' (σ'.put o.dst x) ∧ Eqv σ σ' := by
  unfold qastep at h
  split at h
  · rename_i e h1 h2
    unfold qalloc at h
    split at h
    · rename_i z hz
      exact ⟨_, _, σ, .inr ⟨h1, rfl, _, by rw [h2]; exact ⟨z, hz, rfl⟩, rfl, rfl⟩, h, Eqv.refl _⟩
    · exact h.elim
  · rename_i t x h1 h2
    unfold qbox at h
    obtain ⟨h3, h⟩ := h
    split at h
    · exact ⟨_, _, σ, .inr ⟨h1, rfl, _, by rw [h2]; exact ⟨h3, rfl⟩, rfl, rfl⟩, h, Eqv.refl _⟩
    · exact h.elim
  · obtain ⟨x, σ', h1, h2, h3⟩ := qstep_gq h
    exact ⟨x, p, σ', .inl ⟨h1, rfl⟩, h2, h3⟩
theorem ga_congr {P : Program} {ops : Array Oper} {o : Oper} {x : AV} {p p' : Option Blk} {σ σ' : AS} (h : ∀ t ∈ o.looksAt ops, σ.T t = σ'.T t) (hb : σ.b = σ'.b) (hh : σ.h = σ'.h) (hq : ga P (dsts ops.toList) p σ o x p') :
    ga P (dsts ops.toList) p σ' o x p' := by
  rcases hq with ⟨h1, h2⟩ | ⟨h1, h2, b, h3, h4, h5⟩
  · exact .inl ⟨gq_congr h hb h1, h2⟩
  · refine .inr ⟨h1, h2, b, ab_congr (fun y hy => ?_) h3, by rw [← hh]; exact h4, h5⟩
    cases y <;> simp only [AS.ev]
    rename_i t
    refine h t ?_
    unfold Oper.looksAt
    exact List.mem_append_left _ (List.mem_filterMap.2 ⟨.tmp t, hy, rfl⟩)

section
variable {P : Program} {ops : Array Oper} {fl : List Bool}

def Jop (P : Program) (ops : Array Oper) (fl : List Bool) (i : Nat) (J : Option Blk → AS → Prop) (p : Option Blk) (σ : AS) : Prop :=
  match ops[i]? with
  | none => J p σ
  | some o => if fl.getD i false = true then ∃ σ' K0, Eqv σ σ' ∧ (∀ s, K0 s → J none s) ∧ astep P (dsts ops.toList) o.guard o.op o.dst K0 (σ'.real p) else ∃ x p', ga P (dsts ops.toList) p σ o x p' ∧ J p' (σ.put o.dst x)
def Jn (P : Program) (ops : Array Oper) (fl : List Bool) (K : AS → Prop) : Nat → Array Bool → Option Blk → AS → Prop
  | 0, listed, p, σ => Region.ready .any ops listed = [] ∧ ∃ σ', Eqv σ σ' ∧ K (σ'.real p)
  | n + 1, listed, p, σ => (Region.ready .any ops listed = [] → ∃ σ', Eqv σ σ' ∧ K (σ'.real p)) ∧
      ∀ i ∈ Region.ready .any ops listed, Jop P ops fl i (Jn P ops fl K n (listed.setIfInBounds i true)) p σ

theorem Jn_congr {K : AS → Prop} : ∀ (n : Nat) (listed : Array Bool) (p : Option Blk) (σ σ' : AS), Eqv σ σ' → Jn P ops fl K n listed p σ → Jn P ops fl K n listed p σ'
  | 0, listed, p, σ, σ', e, h => ⟨h.1, let ⟨s, h1, h2⟩ := h.2; ⟨s, e.symm.trans h1, h2⟩⟩
  | n + 1, listed, p, σ, σ', e, h => by
    refine ⟨fun hr => (let ⟨s, h1, h2⟩ := h.1 hr; ⟨s, e.symm.trans h1, h2⟩), fun i hi => ?_⟩
    have hh := h.2 i hi
    unfold Jop at hh ⊢
    split
    · rename_i ho; rw [ho] at hh; exact Jn_congr n _ _ σ σ' e hh
    · rename_i o ho
      rw [ho] at hh
      simp only at hh
      split
      · rename_i hf
        rw [if_pos hf] at hh
        obtain ⟨s, K0, h1, h2⟩ := hh
        exact ⟨s, K0, e.symm.trans h1, h2⟩
      · rename_i hf
        rw [if_neg hf] at hh
        obtain ⟨x, p', h1, h2⟩ := hh
        exact ⟨x, p', ga_congr (fun t _ => e.1 t) e.2.1 e.2.2.2.1 h1, Jn_congr n _ _ _ _ (e.put o.dst x) h2⟩

theorem Eqv.real {σ σ' : AS} (h : Eqv σ σ') (p : Option Blk) : Eqv (σ.real p) (σ'.real p) := by
  cases p with
  | none => exact h
  | some b =>
    obtain ⟨h1, h2, h3, h4, h5⟩ := h
    exact ⟨h1, by simp [AS.real, AS.new, h2, h4], h3, by simp [AS.real, AS.new, h4], h5⟩
theorem real_put {σ : AS} {p : Option Blk} {d : Option Tmp} {x : AV} : (σ.put d x).real p = (σ.real p).put d x := by cases p <;> cases d <;> rfl
/-- More blocks, the same yield. -/
theorem aval_more {P : Program} {σ σ' : AS} {op : Op} {x : AV} (hT : σ'.ev = σ.ev) (hH : ∀ id b, σ.H id = some b → σ'.H id = some b) (h : aval P σ op = some x) : aval P σ' op = some x := by
  cases op with
  | load t y =>
    simp only [aval] at h ⊢
    rw [hT]
    split at h
    · split at h
      · rename_i cs hh; rw [hH _ _ hh]; exact h
      · cases h
    · split at h
      · rename_i cs hh; rw [hH _ _ hh]; exact h
      · cases h
    · exact h
    · cases h
  | indexAddr t y i =>
    simp only [aval] at h ⊢
    rw [hT]
    split at h
    · exact h
    · split at h
      · rename_i f1 hh; rw [hH _ _ hh, f1]; exact h
      · cases h
    · exact h
    · exact h
    · exact h
    · cases h
  | call c =>
    unfold aval at h ⊢
    split at h
    all_goals first
      | (rename_i heq; cases heq; done)
      | (rename_i heq; cases heq; simp only [abuiltin] at h ⊢; rw [hT]; exact h)
      | (cases h; done)
  | _ =>
    simp only [aval] at h ⊢
    try rw [hT]
    exact h
theorem gq_real {P : Program} {ds : List (Option Tmp)} {σ : AS} {o : Oper} {x : AV} {p : Option Blk} (hH : ∀ id b, σ.H id = some b → id < σ.h) (h : gq P ds σ o x) : gq P ds (σ.real p) o x := by
  cases p with
  | none => exact h
  | some b =>
    have hT : (σ.new b).ev = σ.ev := by funext y; cases y <;> rfl
    have hTT : ∀ t, (σ.new b).T t = σ.T t := fun _ => rfl
    have hM : ∀ id c, σ.H id = some c → (σ.new b).H id = some c := fun id c hc => by
      have := hH id c hc
      simp only [AS.H, AS.new, blook] at hc ⊢
      rw [if_neg (by omega)]
      exact hc
    have hev : ∀ l, (σ.new b).evs l = σ.evs l := fun l => by rw [AS.evs_map, AS.evs_map, hT]
    have hpa : ∀ l, (σ.new b).parts l = σ.parts l := fun l => by rw [AS.parts_map, AS.parts_map, hT]
    have hq : ∀ {op x}, qv P σ op x → qv P (σ.new b) op x := by
      intro op x hx
      unfold qv at hx ⊢
      split at hx
      · rw [hpa]; exact hx
      · rw [hpa]; exact hx
      · rw [hT, hev]; exact hx
      · exact aval_more hT hM hx
    unfold gq at h ⊢
    simp only [AS.real]
    split at h
    · exact hq h
    · obtain ⟨d, h1, h2⟩ := h
      refine ⟨d, h1, ?_⟩
      rw [hTT]
      rcases h2 with ⟨c, h2, h3, h4⟩ | h2
      · exact .inl ⟨c, h2, fun hh => hq (h3 hh), h4⟩
      · exact .inr h2

theorem Jn_sound {N : Nat} {Q : Exit → Act → World → Prop} {K : AS → Prop} (hd : ∀ o ∈ ops.toList, ∀ d, o.dst = some d → d < N) : ∀ (n : Nat) (listed : Array Bool) (g : Gh) (p : Option Blk) (σ : AS) (a : Act) (w : World),
    Jn P ops fl K n listed p σ → (∀ id b, σ.H id = some b → id < σ.h) → Inv N g (σ.real p) a w → (∀ g' σ' a' w', K σ' → Inv N g' σ' a' w' → Ext g w g' w' → Q .normal a' w') → wpAny P .any ops Q n listed a w
  | 0, listed, g, p, σ, a, w, h, hH, hI, hK => ⟨h.1, let ⟨s, h1, h2⟩ := h.2; hK g _ a w h2 (hI.eqv (h1.real p)) (Ext.refl g w)⟩
  | n + 1, listed, g, p, σ, a, w, h, hH, hI, hK => by
    refine ⟨fun hr => (let ⟨s, h1, h2⟩ := h.1 hr; hK g _ a w h2 (hI.eqv (h1.real p)) (Ext.refl g w)), fun i hi => ?_⟩
    have hh := h.2 i hi
    have next : ∀ g' p' σ' a' w', Jn P ops fl K n (listed.setIfInBounds i true) p' σ' → (∀ id b, σ'.H id = some b → id < σ'.h) → Inv N g' (σ'.real p') a' w' → Ext g w g' w' → wpAny P .any ops Q n (listed.setIfInBounds i true) a' w' := fun g' p' σ' a' w' h1 h4 h2 h3 =>
      Jn_sound hd n _ g' p' σ' a' w' h1 h4 h2 (fun g'' σ'' a'' w'' k1 k2 k3 => hK g'' σ'' a'' w'' k1 k2 (h3.trans k3))
    unfold Jop at hh
    unfold wpOp
    split
    · rename_i ho; rw [ho] at hh; exact next g p σ a w hh hH hI (Ext.refl g w)
    · rename_i o ho
      rw [ho] at hh
      simp only at hh
      have hdo : ∀ d, o.dst = some d → d < N := hd o (List.mem_of_getElem? (by simpa using ho))
      split at hh
      · obtain ⟨s, K0, h1, hk0, h2⟩ := hh
        have := astep_sound (Q := Q) hdo (hI.eqv (h1.real p)) (fun g' σ' a' w' k1 k2 k3 => next g' none σ' a' w' (hk0 _ k1) k2.H.dom k2 k3) h2
        split
        · rename_i hw; rw [if_pos hw] at this; exact .inl this
        · rename_i hw; rw [if_neg hw] at this; exact this
      · obtain ⟨x, p', h1, h2⟩ := hh
        have hHp : ∀ id b, (σ.put o.dst x).H id = some b → id < (σ.put o.dst x).h := by cases o.dst <;> exact hH
        rcases h1 with ⟨h1, rfl⟩ | ⟨hg, rfl, b, h3, h4, rfl⟩
        · have h1 := gq_real (p := p') hH h1
          have next' : Kon N g w (· = (σ.real p').put o.dst x) (wpAny P .any ops Q n (listed.setIfInBounds i true)) := fun g' σ' a' w' k1 k2 k3 => by
            subst k1
            rw [← real_put] at k2
            exact next g' p' _ a' w' h2 hHp k2 k3
          unfold gq at h1
          split at h1
          · rename_i hg
            rw [if_pos (by simp [Region.wanted, hg])]
            exact .inl (qv_sound hdo hI h1 next')
          · rename_i j want hg
            obtain ⟨d, k1, hk⟩ := h1
            rcases hk with ⟨b, k2, k3, k4⟩ | ⟨k2, k3⟩
            · have hyy := yield_sound hI (dsts_getD k1) k2
              by_cases hb : b = want
              · rw [if_pos (by simp [Region.wanted, hg, hyy, hb])]
                exact .inl (qv_sound hdo hI (k3 hb) next')
              · rw [if_neg (by simp [Region.wanted, hg, hyy, hb])]
                have hb' : b = !want := by cases b <;> cases want <;> simp_all
                have := k4 hb'
                subst this
                exact next g p' _ _ w h2 hHp (by rw [real_put]; exact hI.put hdo (skip_R g w)) (Ext.refl g w)
            · rw [if_neg (by simp [Region.wanted, hg, yield_skip hI (dsts_getD k1) k2])]
              subst k3
              exact next g p' _ _ w h2 hHp (by rw [real_put]; exact hI.put hdo (skip_R g w)) (Ext.refl g w)
        · subst h4
          rw [if_pos (by simp [Region.wanted, hg])]
          refine .inl (aexec_sound hdo hI (K := (· = (σ.new b).put o.dst (.ptr σ.h 0))) (fun g' σ' a' w' k1 k2 k3 => ?_) (ab_exec h3 o.dst rfl))
          subst k1
          refine next g' (some b) _ a' w' h2 hHp ?_ k3
          rw [real_put]
          exact k2

/-! #### What comes before what -/
inductive Anc (ops : Array Oper) : Nat → Nat → Prop
  | edge {i j : Nat} {o : Oper} {e : Edge} (ho : ops[j]? = some o) (he : e ∈ o.after) (hb : Region.binds .any e = true) (hi : e.on = i) : Anc ops i j
  | step {i k j : Nat} {o : Oper} {e : Edge} (ho : ops[j]? = some o) (he : e ∈ o.after) (hb : Region.binds .any e = true) (hk : e.on = k) (h : Anc ops i k) : Anc ops i j

theorem foldl_anc (acc : List Nat) (i : Nat) : ∀ (l : List Edge) (s : Nat), (l.foldl (fun s e => if Region.binds .any e then s ||| 2 ^ e.on ||| acc.getD e.on 0 else s) s).testBit i = true →
    s.testBit i = true ∨ ∃ e ∈ l, Region.binds .any e = true ∧ (e.on = i ∨ (acc.getD e.on 0).testBit i = true)
  | [], s, h => .inl h
  | e :: l, s, h => by
    simp only [List.foldl_cons] at h
    rcases foldl_anc acc i l _ h with h1 | ⟨e', h1, h2, h3⟩
    · split at h1
      · rename_i hb
        simp only [Nat.testBit_or, Bool.or_eq_true] at h1
        rcases h1 with (h1 | h1) | h1
        · exact .inl h1
        · refine .inr ⟨e, by simp, hb, .inl ?_⟩
          rw [Nat.testBit_two_pow] at h1
          simpa using h1
        · exact .inr ⟨e, by simp, hb, .inr h1⟩
      · exact .inl h1
    · exact .inr ⟨e', by simp [h1], h2, h3⟩

theorem ancs_sound : ∀ (l : List Oper) (acc : List Nat) (k : Nat), acc.length = k → (∀ j, l[j]? = ops[k + j]?) → (∀ j i, (acc.getD j 0).testBit i = true → Anc ops i j) →
    ∀ j i, ((ancs l acc).getD j 0).testBit i = true → Anc ops i j
  | [], acc, k, _, _, h => h
  | o :: l, acc, k, hk, hl, h => by
    refine ancs_sound l _ (k + 1) (by simp [hk]) (fun j => by have := hl (j + 1); simpa [Nat.add_assoc, Nat.add_comm 1 j] using this) (fun j i hb => ?_)
    have ho : ops[k]? = some o := by simpa using (hl 0).symm
    rw [List.getD_eq_getElem?_getD] at hb
    rcases Nat.lt_trichotomy j acc.length with hj | hj | hj
    · rw [List.getElem?_append_left hj] at hb
      exact h j i (by rw [List.getD_eq_getElem?_getD]; exact hb)
    · rw [hj, List.getElem?_append_right (Nat.le_refl _)] at hb
      simp only [Nat.sub_self, List.getElem?_cons_zero, Option.getD_some] at hb
      rcases foldl_anc acc i _ 0 hb with h1 | ⟨e, h1, h2, h3⟩
      · simp at h1
      · rw [hj, hk]
        rcases h3 with h3 | h3
        · exact .edge ho (by simpa using h1) h2 h3
        · exact .step ho (by simpa using h1) h2 rfl (h _ _ h3)
    · rw [List.getElem?_append_right (by omega), List.getElem?_eq_none (by simp; omega)] at hb
      simp at hb

/-- What has been taken is closed downward. -/
def DC (ops : Array Oper) (listed : Array Bool) : Prop := ∀ j o, ops[j]? = some o → listed.getD j false = true → ∀ e ∈ o.after, Region.binds .any e = true → listed.getD e.on false = true

theorem DC.anc {listed : Array Bool} (h : DC ops listed) {i j : Nat} (ha : Anc ops i j) (hj : listed.getD j false = true) : listed.getD i false = true := by
  induction ha with
  | edge ho he hb hi => rw [← hi]; exact h _ _ ho hj _ he hb
  | step ho he hb hk _ ih => exact ih (by rw [← hk]; exact h _ _ ho hj _ he hb)
theorem DC.ready {listed : Array Bool} (h : DC ops listed) {i j : Nat} (ha : Anc ops i j) (hj : j ∈ Region.ready .any ops listed) : listed.getD i false = true := by
  obtain ⟨_, o, ho, hall⟩ := mem_ready.1 hj
  cases ha with
  | edge ho' he hb hi => rw [ho] at ho'; cases ho'; rw [← hi]; exact hall _ he hb
  | step ho' he hb hk ha => rw [ho] at ho'; cases ho'; exact h.anc ha (by rw [← hk]; exact hall _ he hb)
theorem DC.set {listed : Array Bool} (h : DC ops listed) {i : Nat} (hi : i ∈ Region.ready .any ops listed) : DC ops (listed.setIfInBounds i true) := by
  intro j o ho hj e he hb
  by_cases hij : i = j
  · subst hij
    obtain ⟨_, o', ho', hall⟩ := mem_ready.1 hi
    rw [ho] at ho'; cases ho'
    exact getD_set_true (hall e he hb)
  · rw [getD_set_ne false hij] at hj
    exact getD_set_true (h j o ho hj e he hb)

theorem getD_dir {listed : Array Bool} {i : Nat} (h : listed.getD i true = false) : listed.getD i false = false := by
  rcases Nat.lt_or_ge i listed.size with h' | h'
  · simp [h'] at h ⊢; exact h
  · simp [Array.getElem?_eq_none h']

/-- An operation that stands alone is never ready beside another one. -/
theorem sole_ready (hs : soleOk ops fl = true) {listed : Array Bool} (hD : DC ops listed) {i j : Nat} (hf : fl.getD i false = true) (hi : i ∈ Region.ready .any ops listed) (hj : j ∈ Region.ready .any ops listed) : i = j := by
  rcases Nat.decEq i j with hne | he
  · exfalso
    have hilt : i < ops.size := by obtain ⟨_, o, ho, _⟩ := mem_ready.1 hi; exact (Array.getElem?_eq_some_iff.1 ho).1
    have hjlt : j < ops.size := by obtain ⟨_, o, ho, _⟩ := mem_ready.1 hj; exact (Array.getElem?_eq_some_iff.1 ho).1
    unfold soleOk at hs
    simp only [List.all_eq_true, List.mem_range, Bool.or_eq_true, Bool.not_eq_true'] at hs
    rcases hs i hilt with h1 | h1
    · rw [hf] at h1; cases h1
    · have hanc := ancs_sound (ops := ops) ops.toList [] 0 rfl (by intro j; simp) (by intro j i h; simp at h)
      rcases h1 j hjlt with (h2 | h2) | h2
      · simp at h2; exact hne h2
      · have := hD.ready (hanc _ _ h2) hi
        rw [getD_dir (mem_ready.1 hj).1] at this; cases this
      · have := hD.ready (hanc _ _ h2) hj
        rw [getD_dir (mem_ready.1 hi).1] at this; cases this
  · exact he

/-- Two of them, one before the other: at most one makes the block. -/
theorem ga_swap {ds : List (Option Tmp)} {p p' p2 : Option Blk} {σ : AS} {oi oj : Oper} {x y : AV} (h1 : ga P ds p σ oi x p') (h2 : ga P ds p' σ oj y p2) : ∃ q, ga P ds p σ oj y q ∧ ga P ds q σ oi x p2 := by
  rcases h1 with ⟨a1, rfl⟩ | ⟨a1, rfl, b, a2, a3, rfl⟩
  · exact ⟨p2, h2, .inl ⟨a1, rfl⟩⟩
  · rcases h2 with ⟨b1, rfl⟩ | ⟨_, b2, _⟩
    · exact ⟨none, .inl ⟨b1, rfl⟩, .inr ⟨a1, rfl, b, a2, a3, rfl⟩⟩
    · cases b2
/-- A quiet operation that may come up now may be taken first. -/
theorem Jn_first (hs : soleOk ops fl = true) {K : AS → Prop} {i : Nat} {oi : Oper} {x : AV} (hi : ops[i]? = some oi) (hfi : ¬ fl.getD i false = true) :
    ∀ (n : Nat) (listed : Array Bool) (p p' : Option Blk) (σ : AS), DC ops listed →
      (∀ j oj, ops[j]? = some oj → j ≠ i → listed.getD j true = false → (∀ e ∈ oj.after, Region.binds .any e = true → e.on ≠ i) → oi.apart ops oj = true) →
      i ∈ Region.ready .any ops listed → ga P (dsts ops.toList) p σ oi x p' → Jn P ops fl K n (listed.setIfInBounds i true) p' (σ.put oi.dst x) → Jn P ops fl K (n + 1) listed p σ := by
  intro n
  induction n with
  | zero =>
    intro listed p p' σ hD _ hr hy H
    refine ⟨fun h => (by rw [h] at hr; cases hr), fun j hj => ?_⟩
    by_cases hji : j = i
    · subst hji
      unfold Jop
      rw [hi]
      simp only
      rw [if_neg hfi]
      exact ⟨x, p', hy, H⟩
    · have := ready_mono hj hji
      rw [H.1] at this
      cases this
  | succ n ih =>
    intro listed p p' σ hD hfree hr hy H
    refine ⟨fun h => (by rw [h] at hr; cases hr), fun j hj => ?_⟩
    by_cases hji : j = i
    · subst hji
      unfold Jop
      rw [hi]
      simp only
      rw [if_neg hfi]
      exact ⟨x, p', hy, H⟩
    · have h1 := H.2 j (ready_mono hj hji)
      obtain ⟨hjun, oj, hoj, hall⟩ := mem_ready.1 hj
      have hnot : ∀ e ∈ oj.after, Region.binds .any e = true → e.on ≠ i := fun e he hb heq => by
        have h1 := hall e he hb
        rw [heq, getD_dir (mem_ready.1 hr).1] at h1
        cases h1
      obtain ⟨a1, a2, a3⟩ := Oper.apart_spec (hfree j oj hoj hji hjun hnot)
      have hfj : ¬ fl.getD j false = true := fun hf => hji (sole_ready hs hD hf hj hr)
      unfold Jop at h1 ⊢
      rw [hoj] at h1 ⊢
      simp only at h1 ⊢
      rw [if_neg hfj] at h1 ⊢
      obtain ⟨y, p2, h2, h3⟩ := h1
      have hlook : ∀ t ∈ oj.looksAt ops, (σ.put oi.dst x).T t = σ.T t := by
        intro t ht
        cases hdi : oi.dst with
        | none => rfl
        | some d =>
          rw [AS.T_put, if_neg]
          intro e; subst e
          exact a1 _ hdi ht
      have hlook2 : ∀ t ∈ oi.looksAt ops, (σ.put oj.dst y).T t = σ.T t := by
        intro t ht
        cases hdj : oj.dst with
        | none => rfl
        | some d =>
          rw [AS.T_put, if_neg]
          intro e; subst e
          exact a3 _ hdj ht
      have hb1 : ∀ (σ : AS) (d : Option Tmp) (v : AV), (σ.put d v).b = σ.b := fun σ d v => by cases d <;> rfl
      have hh1 : ∀ (σ : AS) (d : Option Tmp) (v : AV), (σ.put d v).h = σ.h := fun σ d v => by cases d <;> rfl
      have h2' := ga_congr hlook (hb1 _ _ _) (hh1 _ _ _) h2
      obtain ⟨q, hy2, hy1⟩ := ga_swap hy h2'
      refine ⟨y, q, hy2, ?_⟩
      refine ih (listed.setIfInBounds j true) q p2 (σ.put oj.dst y) (hD.set hj) (fun k ok hk hki hun hno => ?_) (ready_mono hr (Ne.symm hji)) (ga_congr (fun t ht => (hlook2 t ht).symm) (hb1 _ _ _).symm (hh1 _ _ _).symm hy1) ?_
      · refine hfree k ok hk hki ?_ hno
        by_cases hjk : j = k
        · subst hjk; exact hjun
        · rw [getD_set_ne true hjk] at hun; exact hun
      · rw [Array.setIfInBounds_comm _ _ hji]
        exact Jn_congr n _ _ _ _ (put_comm a2) h3

theorem Jn_lex (hs : soleOk ops fl = true) {K : AS → Prop} : ∀ (l : List Oper) (fs : List Bool) (k : Nat) (listed : Array Bool) (p : Option Blk) (σ : AS), (∀ j, l[j]? = ops[k + j]?) → (∀ j, j < l.length → fs[j]? = some (fl.getD (k + j) false)) → DC ops listed →
    Region.lexFrom .any ops l.length k listed = true → adops P (dsts ops.toList) fs l K p σ → Jn P ops fl K l.length listed p σ
  | [], fs, _, _, p, σ, _, _, _, hB, h => ⟨by simpa [Region.lexFrom] using hB, σ, Eqv.refl _, by cases fs <;> exact h⟩
  | o :: l, fs, k, listed, p, σ, hl, hfs, hD, hB, h => by
    have h0 : ops[k]? = some o := by simpa using (hl 0).symm
    have hf0 := hfs 0 (by simp)
    simp only [List.length_cons, Region.lexFrom, Bool.and_eq_true] at hB
    obtain ⟨⟨hr, hf⟩, hB'⟩ := hB
    have hr' : k ∈ Region.ready .any ops listed := by simpa using hr
    cases fs with
    | nil => simp at hf0
    | cons f fs =>
      simp at hf0
      have hrest : ∀ p' σ', adops P (dsts ops.toList) fs l K p' σ' → Jn P ops fl K l.length (listed.setIfInBounds k true) p' σ' := fun p' σ' h' =>
        Jn_lex hs l fs (k + 1) _ p' σ' (fun j => by have := hl (j + 1); simpa [Nat.add_assoc, Nat.add_comm 1 j] using this) (fun j hj => by
          have := hfs (j + 1) (by simpa using hj)
          simpa [Nat.add_assoc, Nat.add_comm 1 j] using this) (hD.set hr') hB' h'
      cases f with
      | true =>
        have hfk : fl.getD k false = true := by rw [List.getD_eq_getElem?_getD]; exact hf0.symm
        simp only [adops] at h
        refine ⟨fun h' => (by rw [h'] at hr'; cases hr'), fun j hj => ?_⟩
        have hjk := sole_ready hs hD hfk hr' hj
        subst hjk
        unfold Jop
        rw [h0]
        simp only
        rw [if_pos hfk]
        exact ⟨σ, _, Eqv.refl _, hrest none, h⟩
      | false =>
        have hfk : ¬ fl.getD k false = true := by rw [List.getD_eq_getElem?_getD, ← hf0]; simp
        simp only [adops] at h
        obtain ⟨x, p', σ', h1, h2, h3⟩ := qastep_ga h
        refine Jn_first hs h0 hfk l.length listed p p' σ hD (Region.free_spec h0 hf) hr' h1 ?_
        exact Jn_congr _ _ _ _ _ (h3.symm.put o.dst x) (hrest _ _ h2)
end
end VC
