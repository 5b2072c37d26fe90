/- **What a piece of code asks for in the walk is enough**; a function's contract out of its body. -/
import Derived.Test.YtknllghkpjncoaaVq
set_option linter.unusedVariables false
set_option linter.unusedSimpArgs false
namespace VC
open Go Go.RowKit

section
variable {P : Program} {N : Nat}

/-- A loop, with a relation that bears a number that falls. -/
theorem wp_loop_rel {c : Code} {Q : Exit → Act → World → Prop} (I : Nat → Act → World → Prop)
    (round : ∀ n a w, I n a w → c.wp P (Exit.then (fun a' w' => ∃ n', n' < n ∧ I n' a' w') Q) a w) {n : Nat} {a : Act} {w : World} (h₀ : I n a w) : (Code.loop c).wp P Q a w := by
  intro b k cs
  have key : ∀ n a w, I n a w → ∃ e a' w', Q e a' w' ∧ Arrives P (lone (b.at a (.code c :: .inLoop c :: k)) cs w) b k cs e a' w' := by
    intro n
    induction n using Nat.strongRecOn with
    | _ n ih =>
      intro a w hI
      obtain ⟨e, a₁, w₁, hq, harr⟩ := round n a w hI b (.inLoop c :: k) cs
      cases e with
      | normal =>
        obtain ⟨n', hlt, hI₁⟩ := hq
        obtain ⟨e₂, a₂, w₂, hq₂, harr₂⟩ := ih n' hlt a₁ w₁ hI₁
        exact ⟨e₂, a₂, w₂, hq₂, .of_steps (Steps.trans harr (.one step_inLoop)) harr₂⟩
      | exit id => exact ⟨_, a₁, w₁, hq, .pass (x := .inLoop c) rfl (fun _ _ => .inl (by simp)) harr⟩
      | goto l => exact ⟨_, a₁, w₁, hq, .pass (x := .inLoop c) rfl (fun _ _ => .inl (by simp)) harr⟩
      | ret => exact ⟨_, a₁, w₁, hq, .pass (x := .inLoop c) rfl (fun _ _ => .inl (by simp)) harr⟩
      | panic ch => exact ⟨_, a₁, w₁, hq, .pass (x := .inLoop c) rfl (fun _ _ => .inl (by simp)) harr⟩
      | outgrown => exact ⟨_, a₁, w₁, hq, .pass (x := .inLoop c) rfl (fun _ _ => .inl (by simp)) harr⟩
  obtain ⟨e, a', w', hq, harr⟩ := key n a w h₀
  exact ⟨e, a', w', hq, .of_steps (.one step_loop) harr⟩

/-- What holds at an exit. -/
def At (N : Nat) (g : Gh) (w : World) (Q : Exit → AS → Prop) : Exit → Act → World → Prop :=
  fun e a' w' => ∃ g' σ', Q e σ' ∧ Inv N g' σ' a' w' ∧ Ext g w g' w'

theorem awp_sound (hmo : P.follows .mixedOrders = true) {vs : List Nat} : ∀ (c : Code) {Q : Exit → AS → Prop} {σ : AS} {g : Gh} {a : Act} {w : World}, dstOk N c = true → awp P vs c Q σ → Inv N g σ a w → c.wp P (At N g w Q) a w
  | .skip, Q, σ, g, a, w, _, h, hI => wp_skip ⟨g, σ, h, hI, Ext.refl g w⟩
  | .region id ops false, Q, σ, g, a, w, hd, h, hI => by
    refine wp_region ?_
    have hd' : ∀ o ∈ ops.toList, ∀ d, o.dst = some d → d < N := by
      intro o ho d hod
      simp only [dstOk, List.all_eq_true] at hd
      have := hd o ho
      rw [hod] at this
      simpa using this
    have := aops_sound (P := P) (N := N) (ops := ops) (Q := At N g w Q) (K := kreg vs Q) ops.toList 0 g σ a w (by intro j; simp) hd' h hI (fun g' σ' a' w' h1 h2 h3 => ⟨g', _, h1, h2.keep vs, h3⟩)
    simpa using this
  | .region id ops true, Q, σ, g, a, w, hd, h, hI => by
    obtain ⟨fl, h1, h2⟩ := h
    simp only [drawOk, Bool.and_eq_true, Region.lexB] at h1
    have hd' : ∀ o ∈ ops.toList, ∀ d, o.dst = some d → d < N := by
      intro o ho d hod
      simp only [dstOk, List.all_eq_true] at hd
      have := hd o ho
      rw [hod] at this
      simpa using this
    have key : ∀ (j : Nat), j < ops.toList.length → fl[j]? = some (fl.getD (0 + j) false) := by
      intro j hj
      have hl : fl.length = ops.size := by simpa using h1.2
      have hlt : j < fl.length := by rw [hl]; simpa using hj
      rw [Nat.zero_add, List.getD_eq_getElem?_getD, List.getElem?_eq_getElem hlt]
      rfl
    have hJ := Jn_lex (P := P) (fl := fl) h1.1.2 (K := kreg vs Q) ops.toList fl 0 (Array.replicate ops.size false) none σ (by intro j; simp) key (by
      intro j o ho hj
      rw [Array.getD_eq_getD_getElem?] at hj
      rcases Nat.lt_or_ge j ops.size with hlt | hge
      · simp [hlt] at hj
      · rw [Array.getElem?_eq_none (by simpa using hge)] at hj; cases hj) (by simpa using h1.1.1.2) h2
    obtain ⟨k1, k2⟩ := hI.H.below (w' := { w with drawn := w.drawn + 1 }) ⟨rfl, rfl, rfl, Nat.le_refl _, fun _ _ => rfl⟩
    refine wp_region_any hmo ?_
    have := Jn_sound (P := P) (ops := ops) (fl := fl) (N := N) (Q := At N g w Q) hd' ops.toList.length (Array.replicate ops.size false) g none σ a { w with drawn := w.drawn + 1 } hJ hI.H.dom (hI.ext (σ' := σ) k2 k1 rfl)
      (fun g' σ' a' w' e1 e2 e3 => ⟨g', _, e1, e2.keep vs, k2.trans e3⟩)
    simpa using this
  | .seq x y, Q, σ, g, a, w, hd, h, hI => by
    simp only [dstOk, Bool.and_eq_true] at hd
    refine wp_seq (wp_mono (awp_sound hmo x hd.1 h hI) fun e a' w' hh => ?_)
    obtain ⟨g', σ', h1, h2, h3⟩ := hh
    cases e with
    | normal =>
      refine wp_mono (awp_sound hmo y hd.2 h1 h2) fun e a'' w'' hh => ?_
      obtain ⟨g'', σ'', k1, k2, k3⟩ := hh
      exact ⟨g'', σ'', k1, k2, h3.trans k3⟩
    | exit id => exact ⟨g', σ', h1, h2, h3⟩
    | goto l => exact ⟨g', σ', h1, h2, h3⟩
    | ret => exact ⟨g', σ', h1, h2, h3⟩
    | panic ch => exact ⟨g', σ', h1, h2, h3⟩
    | outgrown => exact ⟨g', σ', h1, h2, h3⟩
  | .cond c x y, Q, σ, g, a, w, hd, h, hI => by
    simp only [dstOk, Bool.and_eq_true] at hd
    simp only [awp, kcond] at h
    have hv := hI.ev c
    split at h
    · rename_i b h1
      rw [h1] at hv
      cases b with
      | true => exact wp_cond_true (R_sc hv) (awp_sound hmo x hd.1 (h.1 rfl) hI)
      | false => exact wp_cond_false (R_sc hv) (awp_sound hmo y hd.2 (h.2 rfl) hI)
    · exact h.elim
  | .block id x, Q, σ, g, a, w, hd, h, hI => by
    refine wp_block (wp_mono (awp_sound hmo x hd h hI) fun e a' w' hh => ?_)
    obtain ⟨g', σ', h1, h2, h3⟩ := hh
    cases e with
    | exit id' =>
      simp only [Ex.block] at h1
      simp only [Exit.inBlock]
      split at h1
      · rename_i he; rw [if_pos he]; exact ⟨g', σ', h1, h2, h3⟩
      · rename_i he; rw [if_neg he]; exact ⟨g', σ', h1, h2, h3⟩
    | normal => exact ⟨g', σ', h1, h2, h3⟩
    | goto l => exact ⟨g', σ', h1, h2, h3⟩
    | ret => exact ⟨g', σ', h1, h2, h3⟩
    | panic ch => exact ⟨g', σ', h1, h2, h3⟩
    | outgrown => exact ⟨g', σ', h1, h2, h3⟩
  | .loop x, Q, σ, g, a, w, hd, h, hI => by
    obtain ⟨I, n, h0, hr⟩ := h
    refine wp_loop_rel (fun n a' w' => ∃ g' σ', I n σ' ∧ Inv N g' σ' a' w' ∧ Ext g w g' w') (fun n a' w' hh => ?_) ⟨g, σ, h0, hI, Ext.refl g w⟩
    obtain ⟨g', σ', h1, h3, h4⟩ := hh
    refine wp_mono (awp_sound hmo x hd (hr n σ' h1) h3) fun e a'' w'' hh => ?_
    obtain ⟨g'', σ'', k1, k2, k3⟩ := hh
    cases e with
    | normal =>
      obtain ⟨m, hm1, hm2⟩ := k1
      exact ⟨m, hm1, g'', σ'', hm2, k2, h4.trans k3⟩
    | exit id => exact ⟨g'', σ'', k1, k2, h4.trans k3⟩
    | goto l => exact ⟨g'', σ'', k1, k2, h4.trans k3⟩
    | ret => exact ⟨g'', σ'', k1, k2, h4.trans k3⟩
    | panic ch => exact ⟨g'', σ'', k1, k2, h4.trans k3⟩
    | outgrown => exact ⟨g'', σ'', k1, k2, h4.trans k3⟩
  | .exit id, Q, σ, g, a, w, _, h, hI => wp_exit ⟨g, σ, h, hI, Ext.refl g w⟩
  | .ret, Q, σ, g, a, w, _, h, hI => wp_ret ⟨g, σ, h, hI, Ext.refl g w⟩
  | .rangeFunc .., _, _, _, _, _, _, h, _ => h.elim
  | .scope .., _, _, _, _, _, _, h, _ => h.elim
  | .label .., _, _, _, _, _, _, h, _ => h.elim
  | .goto .., _, _, _, _, _, _, h, _ => h.elim
  | .refuse .., _, _, _, _, _, _, h, _ => h.elim

/-! A function's results. -/
def ares (P : Program) (σ : AS) : List ResultVar → Option (List AV)
  | [] => some []
  | .tmp t :: r => (ares P σ r).map (σ.T t :: ·)
  | .cell t ty :: r => match szOf P ty, aggOf P ty, σ.T t with
    | some n, some ag, .ptr id j => match σ.H id with
      | some (.box cs) => match partOf cs j n ag, ares P σ r with
        | some x, some xs => some (x :: xs)
        | _, _ => none
      | _ => none
    | _, _, _ => none
def tupOf : List AV → AV
  | [x] => x
  | l => .tup l

/-- A cell, behind the call. -/
def fin1 (σ : AS) : AV → AV
  | .sc v => .sc v
  | .sl _ xs => .sl 0 xs
  | .arr id off len => match σ.H id with
    | some (.row _ xs) => if off + len ≤ xs.length then .sl 0 ((xs.drop off).take len) else .no
    | _ => .no
  | _ => .no
def fin2 (σ : AS) : AV → AV
  | .agg cs => .agg (cs.map (fin1 σ))
  | x => fin1 σ x
def fin (σ : AS) : AV → AV
  | .tup cs => .tup (cs.map (fin2 σ))
  | x => fin2 σ x

def kres (rs : Option (List AV)) (R : AV → AS → Prop) (σ : AS) : Prop := match rs with | some rs => R (tupOf rs) σ | none => False
def SQ (P : Program) (res : List ResultVar) (R : AV → AS → Prop) : Exit → AS → Prop
  | .normal, σ => kres (ares P σ res) R σ
  | .ret, σ => kres (ares P σ res) R σ
  | _, _ => False
/-- A result is told as a tree. -/
def finR (R : AV → Prop) (r : AV) (σ : AS) : Prop := R (fin σ r)

variable {g g' : Gh} {w w' : World} {σ : AS} {a : Act}

/-- A result, as the machine reads it. -/
def resF (tmps : Array Value) : ResultVar → Sem Value
  | .tmp t => pure (tmps.getD t undef)
  | .cell a t => do loadVar t (← asAddr (tmps.getD a undef))

theorem ares_sound (hI : Inv N g σ a w) : ∀ (l : List ResultVar) {rs : List AV}, ares P σ l = some rs →
    ∃ vs, (l.mapM (resF a.tmps)).run P w = .ok vs w ∧ rs.length = vs.length ∧ ∀ (j : Nat) (x : AV) (v : Value), rs[j]? = some x → vs[j]? = some v → AV.R g w x v
  | [], rs, h => by simp [ares] at h; subst h; exact ⟨[], by simp, rfl, by simp⟩
  | .tmp t :: r, rs, h => by
    simp only [ares, Option.map_eq_some_iff] at h
    obtain ⟨xs, h1, rfl⟩ := h
    obtain ⟨vs, k1, k2, k3⟩ := ares_sound hI r h1
    have hr : (resF a.tmps (.tmp t)).run P w = .ok (a.tmps.getD t undef) w := rfl
    refine ⟨a.tmps.getD t undef :: vs, by simp only [List.mapM_cons, Sem.run_bind, hr, Result.andThen_ok, k1, Sem.run_pure], by simp [k2], fun j x v hx hv => ?_⟩
    cases j with
    | zero => simp only [List.getElem?_cons_zero, Option.some.injEq] at hx hv; subst hx; subst hv; exact hI.tm t
    | succ j => simp only [List.getElem?_cons_succ] at hx hv; exact k3 j x v hx hv
  | .cell t ty :: r, rs, h => by
    simp only [ares] at h
    split at h
    · rename_i n ag id j hn hg hT
      split at h
      · rename_i cs hH
        split at h
        · rename_i x xs hp hr
          cases h
          obtain ⟨vs, k1, k2, k3⟩ := ares_sound hI r hr
          have hv := hI.tm t
          rw [hT] at hv
          obtain ⟨hp', hid⟩ := R_ptr hv
          obtain ⟨c, ty', hc, hs, hcells⟩ := hI.H.hp id _ hH
          obtain ⟨v, hrr, hR⟩ := load_R (g := g) (w := w) (P := P) (t := ty) (b := g.μ id) (o := 0) (cs := cs) (j := j) (fun i => c.getD i undef) hn hg (fun i y hy => by
            obtain ⟨v, h1, h2⟩ := hcells i y hy
            have hi : i < c.size := (Array.getElem?_eq_some_iff.1 h1).1
            have h1' : c[i] = v := by simpa [Array.getElem?_eq_getElem hi] using h1
            refine ⟨?_, by simpa [Array.getD, hi, h1'] using h2⟩
            simp [cellAt, World.cell?, hc, Array.getD, hi]) hp
          simp only [Nat.zero_add] at hrr
          have hr' : (resF a.tmps (.cell t ty)).run P w = .ok v w := by
            simp only [resF]
            rw [hp']
            simp [asAddr, hrr]
          refine ⟨v :: vs, by simp only [List.mapM_cons, Sem.run_bind, hr', Result.andThen_ok, k1, Sem.run_pure], by simp [k2], fun j' x' v' hx hv => ?_⟩
          cases j' with
          | zero => simp only [List.getElem?_cons_zero, Option.some.injEq] at hx hv; subst hx; subst hv; exact hR
          | succ j' => simp only [List.getElem?_cons_succ] at hx hv; exact k3 j' x' v' hx hv
        · cases h
      · cases h
    · cases h

theorem tup_R {rs : List AV} {vs : List Value} (hl : rs.length = vs.length) (h : ∀ (j : Nat) (x : AV) (v : Value), rs[j]? = some x → vs[j]? = some v → AV.R g w x v) :
    AV.R g w (tupOf rs) (if h : vs.toArray.size = 1 then vs.toArray[0] else .tuple vs.toArray) := by
  unfold tupOf
  split
  · rename_i x
    have h1 : vs.length = 1 := by simpa using hl.symm
    rw [dif_pos (by simpa using h1)]
    exact h 0 x _ (by simp) (by simp [h1])
  · rename_i hne
    rw [dif_neg (by
      intro h1
      have h1' : vs.length = 1 := by simpa using h1
      have h2 : rs.length = 1 := by omega
      obtain ⟨x, rfl⟩ := List.length_eq_one_iff.1 h2
      exact hne x rfl)]
    exact .tup rs vs hl h

theorem results_sound (hI : Inv N g σ a w) {fn : Func} {rs : List AV} (h : ares P σ fn.results.toList = some rs) : ∃ v, (results fn a.tmps).run P w = .ok v w ∧ AV.R g w (tupOf rs) v := by
  obtain ⟨vs, h1, h2, h3⟩ := ares_sound hI fn.results.toList h
  refine ⟨_, ?_, tup_R h2 h3⟩
  have e : results fn a.tmps = (do let vs ← fn.results.mapM (resF a.tmps); pure (if h : vs.size = 1 then vs[0] else .tuple vs)) := rfl
  rw [e, Array.mapM_eq_mapM_toList]
  simp only [Sem.run_bind, map_eq_pure_bind, h1, Result.andThen_ok, Sem.run_pure]

/-- Arguments, by their slots. -/
def number : Nat → List AV → List (Nat × AV)
  | _, [] => []
  | k, x :: r => (k, x) :: number (k + 1) r
theorem look_number : ∀ (l : List AV) (k t : Nat), k ≤ t → look (number k l) t = l.getD (t - k) .no
  | [], k, t, _ => by simp [number, look]
  | x :: r, k, t, h => by
    simp only [number, look]
    by_cases ht : t = k
    · subst ht; simp
    · rw [if_neg ht, look_number r (k + 1) t (by omega)]
      have : t - k = (t - (k + 1)) + 1 := by omega
      rw [this, List.getD_cons_succ]

/-- A function's contract over blocks that are handed on. -/
theorem Spec.intro (hmo : P.follows .mixedOrders = true) {f : FuncId} {fn : Func} {c : Code} {args : List AV} {R : AV → AS → Prop} (hf : P.funcs[f]? = some fn) (hb : fn.body = some c) (hN : args.length ≤ fn.ntmps) (res : List ResultVar) (hres : fn.results.toList = res) (vs : List Nat) (hD : dstOk fn.ntmps c = true)
    (h : awp P vs c (SQ P res R) { σ with t := number 0 args }) : Spec P f args σ R := by
  intro g w vals hH hl hR
  refine calls_of_wp hf hb ?_
  have hI : Inv fn.ntmps g { σ with t := number 0 args } { tmps := vals.toArray ++ Array.replicate (fn.ntmps - vals.toArray.size) undef, defers := [] } w := by
    refine ⟨hH, by simp; omega, rfl, fun t => ?_⟩
    show AV.R g w (look (number 0 args) t) _
    have hnum := look_number args 0 t (by omega)
    rw [Nat.sub_zero] at hnum
    rw [hnum]
    by_cases ht : t < args.length
    · have hv : t < vals.length := by omega
      rw [List.getD_eq_getElem?_getD, List.getElem?_eq_getElem ht, Option.getD_some]
      have : (vals.toArray ++ Array.replicate (fn.ntmps - vals.toArray.size) undef).getD t undef = vals[t] := by
        simp [Array.getD_eq_getD_getElem?, Array.getElem?_append, hv]
      rw [this]
      exact hR t _ _ (List.getElem?_eq_getElem ht) (List.getElem?_eq_getElem hv)
    · rw [List.getD_eq_getElem?_getD, List.getElem?_eq_none (by omega), Option.getD_none]
      exact .no _
  refine wp_mono (awp_sound hmo c hD h hI) fun e a' w' hh => ?_
  obtain ⟨g', σ', h1, h2, h3⟩ := hh
  subst hres
  have done : kres (ares P σ' fn.results.toList) R σ' → a'.defers = [] ∧ ∃ v, (results fn a'.tmps).run P w' = .ok v w' ∧
      ∃ r v_1 σ' g', R r σ' ∧ Ending.returned v = .returned v_1 ∧ AV.R g' w' r v_1 ∧ HInv g' σ'.H σ'.L σ'.h σ'.nt w' ∧ Ext g w g' w' := by
    intro hk
    unfold kres at hk
    split at hk
    case h_2 => exact hk.elim
    rename_i rs k1
    have k2 := hk
    obtain ⟨v, k3, k4⟩ := results_sound h2 k1
    exact ⟨h2.df, v, k3, _, v, σ', g', k2, rfl, k4, h2.H, h3⟩
  cases e with
  | normal => exact done h1
  | ret => exact done h1
  | exit id => exact h1.elim
  | goto l => exact h1.elim
  | panic ch => exact h1.elim
  | outgrown => exact h1.elim

/-- What a pure function hands back stands in the caller's memory as it stood in its own. -/
theorem fin_tr (k : ∀ b o, b < g.B → g.M b o → g'.M b o) (hml : ∀ b o, g.M b o → b < g.B) {x : Tr} {v : Value} (h : Tr.R g'.M w x v) : Tr.R g.M w x v := by
  induction h with
  | sc v h => exact .sc v h
  | nil => exact .nil
  | emp a c => exact .emp a c
  | sl xs b o c sz u hc hz hb hu hx ih =>
    exact .sl xs b o c sz u hc hz hb (fun i e j x h1 h2 => ⟨(hu i e j x h1 h2).1, fun hm => (hu i e j x h1 h2).2 (k _ _ (hml _ _ hm) hm)⟩) ih

theorem fin1_R (k : ∀ b o, b < g.B → g.M b o → g'.M b o) (hml : ∀ b o, g.M b o → b < g.B) (hB : g'.B = g.B) (hI : HInv g' σ.H σ.L σ.h σ.nt w) {x : AV} {v : Value} (h : AV.R g' w x v) : AV.R g w (fin1 σ x) v := by
  cases x with
  | sc u => have := R_sc h; subst this; exact .sc _
  | sl tk xs => exact .sl 0 xs v (fin_tr k hml (R_sl h)) (fun h => by omega) (fun h => by omega)
  | arr id off len =>
    simp only [fin1]
    split
    · rename_i sz xs hH
      split
      · rename_i hle
        obtain ⟨c, rfl, hlc, hid⟩ := R_arr h
        obtain ⟨hsg, hz, cc, ty, hc, hs, hcells⟩ := hI.hp id _ hH
        obtain ⟨o1, o2, o3⟩ := hI.own id hid
        have hl : ((xs.drop off).take len).length = len := by simp; omega
        have key : ∀ (i : Nat) (e : List Tr), ((xs.drop off).take len)[i]? = some e → xs[off + i]? = some e := by
          intro i e he
          rw [List.getElem?_take] at he
          split at he
          · rwa [List.getElem?_drop] at he
          · cases he
        refine .sl 0 _ _ ?_ (fun h => by omega) (fun h => by omega)
        have := Tr.R.sl (M := g.M) (w := w) ((xs.drop off).take len) (g'.μ id) (off * g'.σ id) c sz (fun i j => cc.getD ((off + i) * sz + j) undef) (by omega) (fun i e he => hz _ e (key i e he)) o2
          (fun i e j x he hx => by
            obtain ⟨u, h1, h2⟩ := hcells _ e j x (key i e he) hx
            have hi : (off + i) * sz + j < cc.size := (Array.getElem?_eq_some_iff.1 h1).1
            refine ⟨?_, fun hm => ?_⟩
            · have e1 : off * g'.σ id + i * sz + j = (off + i) * sz + j := by rw [hsg, Nat.add_mul]
              rw [e1]
              simp [cellAt, World.cell?, hc, Array.getD, hi]
            · have := hml _ _ hm; omega)
          (fun i e j x he hx => by
            obtain ⟨u, h1, h2⟩ := hcells _ e j x (key i e he) hx
            have hi : (off + i) * sz + j < cc.size := (Array.getElem?_eq_some_iff.1 h1).1
            have : cc.getD ((off + i) * sz + j) undef = u := by simp [Array.getD, hi]; simpa [Array.getElem?_eq_getElem hi] using h1
            rw [this]
            exact fin_tr k hml h2)
        rwa [hl] at this
      · exact .no _
    · exact .no _
  | no => exact .no _
  | ptr => exact .no _
  | pel => exact .no _
  | cel => exact .no _
  | agg => exact .no _
  | tup => exact .no _
  | clo => exact .no _

theorem fin2_R (k : ∀ b o, b < g.B → g.M b o → g'.M b o) (hml : ∀ b o, g.M b o → b < g.B) (hB : g'.B = g.B) (hI : HInv g' σ.H σ.L σ.h σ.nt w) {x : AV} {v : Value} (h : AV.R g' w x v) : AV.R g w (fin2 σ x) v := by
  cases x with
  | agg cs =>
    obtain ⟨vs, rfl, hl, hh⟩ := R_agg h
    refine .agg _ vs (by simp [hl]) (fun j y u hy hu => ?_)
    simp at hy
    obtain ⟨z, hz, rfl⟩ := hy
    exact fin1_R k hml hB hI (hh j z u hz hu)
  | _ => exact fin1_R k hml hB hI h

theorem fin_R (k : ∀ b o, b < g.B → g.M b o → g'.M b o) (hml : ∀ b o, g.M b o → b < g.B) (hB : g'.B = g.B) (hI : HInv g' σ.H σ.L σ.h σ.nt w) {x : AV} {v : Value} (h : AV.R g' w x v) : AV.R g w (fin σ x) v := by
  cases x with
  | tup cs =>
    obtain ⟨vs, rfl, hl, hh⟩ := R_tup h
    refine .tup _ vs (by simp [hl]) (fun j y u hy hu => ?_)
    simp at hy
    obtain ⟨z, hz, rfl⟩ := hy
    exact fin2_R k hml hB hI (hh j z u hz hu)
  | _ => exact fin2_R k hml hB hI h

/-- The state in which a pure function begins. -/
def AS.start (args : List AV) : AS := { t := number 0 args, b := [], l := [], h := 0, nt := 2 }

/-- **A function's contract.** -/
theorem Pure.intro (hmo : P.follows .mixedOrders = true) {f : FuncId} {fn : Func} {c : Code} {args : List AV} {R : AV → Prop} (hf : P.funcs[f]? = some fn) (hb : fn.body = some c) (hN : args.length ≤ fn.ntmps) (res : List ResultVar) (hres : fn.results.toList = res) (vs : List Nat) (hD : dstOk fn.ntmps c = true)
    (h : awp P vs c (SQ P res (finR R)) (AS.start args)) : Pure P f args R := by
  intro g w vals hB hn hm hml hl hR
  have hS : Spec P f args (AS.start args) (finR R) := Spec.intro hmo hf hb hN res hres vs hD h
  have hH : HInv g (AS.start args).H (AS.start args).L (AS.start args).h (AS.start args).nt w := by
    refine ⟨by omega, hn, hm, Nat.le_refl _, fun id b h => (by cases h), fun id b h => (by cases h), fun id hid => (by omega), fun i j hi => (by omega), hml, fun tk e h => (by cases h)⟩
  refine (hS g w vals hH hl hR).mono fun e w' ⟨r, v, σ', g', h1, h2, h3, h4, h5⟩ => ⟨_, v, h1, h2, ?_, by rw [← hB]; exact h5.below⟩
  exact fin_R h5.old (fun b o hm => by rw [hB]; exact hml b o hm) h5.B h4 h3

theorem Pure.mono {f : FuncId} {args : List AV} {R R' : AV → Prop} (h : Pure P f args R) (hr : ∀ r, R r → R' r) : Pure P f args R' :=
  fun g w vals h1 h2 h3 h4 h5 h6 => (h g w vals h1 h2 h3 h4 h5 h6).mono fun e w' ⟨r, v, k1, k2⟩ => ⟨r, v, hr r k1, k2⟩
end
end VC
