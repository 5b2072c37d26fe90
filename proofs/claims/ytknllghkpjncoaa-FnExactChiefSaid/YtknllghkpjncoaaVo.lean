/- Calls; a step; operations in a row; code. -/
import Derived.Test.YtknllghkpjncoaaVn
set_option linter.unusedVariables false
set_option linter.unusedSimpArgs false
namespace VC
open Go Go.RowKit

section
variable {P : Program} {N : Nat} {g g' : Gh} {w w' : World} {σ σ' : AS} {a : Act}

theorem HInv.below {H : Nat → Option Blk} {L : Nat → Option (TypeId × Nat)} {h nt : Nat} (hI : HInv g H L h nt w) (hb : Below w.heap.size w w') : HInv g H L h nt w' ∧ Ext g w g w' := by
  have hk : Ext g w g w' := ⟨rfl, hb.mono hI.B, ⟨hb.size, fun b o hlt _ => hb.cell (p := ⟨b, o, none⟩) hlt, fun _ _ _ h => h⟩, Nat.le_refl _, fun _ _ => ⟨rfl, rfl⟩, Nat.le_refl _, fun _ _ => rfl, fun _ _ _ h => h⟩
  have hs := hb.size
  refine ⟨⟨by have := hI.B; omega, hI.n, hI.m, hI.m2, hI.dom, fun id b hH => ?_, fun id hid => ?_, hI.inj, fun b o hm => by have := hI.mlt b o hm; omega, fun tk e htk => ?_⟩, hk⟩
  · have hid : id < g.n := by have := hI.dom id b hH; have := hI.n; omega
    exact (hI.hp id b hH).ext hk hid (hb.block _ (hI.own id hid).2.1)
  · obtain ⟨h1, h2, h3⟩ := hI.own id hid
    exact ⟨h1, by omega, h3⟩
  · have ht := hI.tok tk e htk
    refine ht.ext hk (fun k hk' => ?_) (fun _ _ _ h => h) (fun k _ i h1 h2 => by omega) ht.apart
    obtain ⟨xs, hx⟩ := ht.row
    exact hb.block k (hx.lt k hk').2

/-- What a pure call is lent. -/
theorem lend_R {gf : Gh} (hM : gf.M = g.M) {x : AV} {v : Value} (h : AV.R g w x v) : AV.R gf w x.lend v := by
  cases x with
  | sc u => have := R_sc h; subst this; exact .sc _
  | sl tk xs => exact .sl 0 xs v (by rw [hM]; exact R_sl h) (fun h => by omega) (fun h => by omega)
  | agg cs =>
    obtain ⟨vs, rfl, hl, hh⟩ := R_agg h
    refine .agg _ vs (by simp [hl]) (fun j y u hy hu => ?_)
    simp at hy
    obtain ⟨z, hz, rfl⟩ := hy
    have hr := hh j z u hz hu
    cases z with
    | sc u' => have := R_sc hr; subst this; exact .sc _
    | sl tk xs => exact .sl 0 xs u (by rw [hM]; exact R_sl hr) (fun h => by omega) (fun h => by omega)
    | _ => exact .no _
  | no => exact .no _
  | arr => exact .no _
  | ptr => exact .no _
  | pel => exact .no _
  | cel => exact .no _
  | tup => exact .no _
  | clo => exact .no _

/-- What a pure call gives back stands in the caller's own world. -/
theorem give_R {gf : Gh} (hM : gf.M = g.M) (hn : gf.n = 0) (hm : gf.m = 2) {x : AV} {v : Value} (h : AV.R gf w x v) : AV.R g w x v := by
  induction h with
  | no v => exact .no v
  | sc v => exact .sc v
  | sl tk xs v h h1 h2 =>
    rw [hM] at h
    exact .sl tk xs v h h1 (fun ht => by have := (h2 ht).1; omega)
  | arr id off len c h hc => omega
  | ptr id j h => omega
  | pel id i j h => omega
  | cel e j b o u hb hu hx =>
    rw [hM] at hu hx
    exact .cel e j b o u hb hu hx
  | agg cs vs hl h ih => exact .agg cs vs hl ih
  | tup cs vs hl h ih => exact .tup cs vs hl ih
  | clo f cs vs hl h ih => exact .clo f cs vs hl ih

theorem wp_enter {o : Oper} {f : FuncId} {args : Array Value} {Kc : Act → World → Prop} {Q : Exit → Act → World → Prop} (h : (execOp a.eval o).run P w = .ok (.enter f args) w)
    (hc : Calls P f args w fun e w' => ∃ v, e = .returned v ∧ Kc (a.put o.dst v) w') : o.wp P a w Kc Q := by
  unfold Oper.wp
  rw [h]
  exact hc.mono fun e w' ⟨v, he, hK⟩ => by subst he; exact hK

theorem run_call {o : Oper} {c : Call} {f : Operand} {fn : FuncId} {caps : List Value} (ho : o.op = .call c) (hc : c.callee = .value f) (hf : a.eval f = .func (.func fn) #[] caps.toArray) (hfn : isFn P fn = true) (w : World) :
    (execOp a.eval o).run P w = .ok (.enter fn (c.args.toList.map a.eval ++ caps).toArray) w := by
  unfold isFn at hfn
  split at hfn
  · rename_i fc hfc
    simp only [Bool.and_eq_true, bne_iff_ne, ne_eq] at hfn
    obtain ⟨h1, h2⟩ := hfn
    have h3 : fc.body.isNone = false := by cases hb : fc.body <;> simp_all
    have e : (c.args.map a.eval ++ caps.toArray) = (c.args.toList.map a.eval ++ caps).toArray := by
      apply Array.ext'
      simp
    simp [execOp, ho, resolve, hc, hf, Deferred.ofValue, invoke, callFunc, hfc, h1, e]
    intro hb
    simp [hb] at h2
  · cases hfn

/-- A value of a function that is known: what it captured. -/
theorem args_R (hI : Inv N g σ a w) {f : Operand} {fn : FuncId} {caps : List AV} {as : List Operand} (he : σ.ev f = .clo fn caps) :
    ∃ cv : List Value, a.eval f = .func (.func fn) #[] cv.toArray ∧ (as.map a.eval ++ cv).length = (as.map σ.ev ++ caps).length ∧
      ∀ (j : Nat) (x : AV) (v : Value), (as.map σ.ev ++ caps)[j]? = some x → (as.map a.eval ++ cv)[j]? = some v → AV.R g w x v := by
  have h := hI.ev f
  rw [he] at h
  obtain ⟨cv, h1, h2, h3⟩ := R_clo h
  refine ⟨cv, h1, by simp [h2], fun j x v hx hv => ?_⟩
  by_cases hj : j < as.length
  · rw [List.getElem?_append_left (by simpa using hj)] at hx hv
    simp at hx hv
    obtain ⟨y, hy, rfl⟩ := hx
    obtain ⟨y', hy', rfl⟩ := hv
    rw [hy] at hy'
    cases hy'
    exact hI.ev y
  · rw [List.getElem?_append_right (by simpa using hj)] at hx hv
    simp at hx hv
    exact h3 _ x v hx hv

theorem exec_pure {o : Oper} {K : AS → Prop} {Kc : Act → World → Prop} {Q : Exit → Act → World → Prop} (hd : ∀ d, o.dst = some d → d < N) (hI : Inv N g σ a w) (hK : Kon N g w K Kc)
    {c : Call} {f : Operand} {fn : FuncId} {caps : List AV} {R : AV → Prop} (ho : o.op = .call c) (hc : c.callee = .value f) (he : σ.ev f = .clo fn caps) (hfn : isFn P fn = true)
    (hp : Pure P fn ((c.args.toList.map σ.ev ++ caps).map AV.lend) R) (hk : ∀ r, R r → K (σ.put o.dst r)) : o.wp P a w Kc Q := by
  obtain ⟨cv, h1, h2, h3⟩ := args_R hI (as := c.args.toList) he
  refine wp_enter (run_call ho hc h1 hfn w) ?_
  let gf : Gh := { g with B := w.heap.size, n := 0, m := 2 }
  refine (hp gf w _ rfl rfl rfl hI.H.mlt (by simpa using h2) (fun j x v hx hv => ?_)).mono fun e w' ⟨r, v, hr, hev, hR, hb⟩ => ⟨v, hev, ?_⟩
  · simp only [List.getElem?_map, Option.map_eq_some_iff] at hx
    obtain ⟨y, hy, rfl⟩ := hx
    exact lend_R (g := g) (gf := gf) rfl (h3 j y v hy hv)
  · obtain ⟨k1, k2⟩ := hI.H.below hb
    exact hK g _ _ w' (hk r hr) ((hI.ext (σ' := σ) k2 k1 rfl).put hd (give_R (g := g) (gf := gf) rfl rfl rfl hR)) k2

theorem exec_spec {o : Oper} {K : AS → Prop} {Kc : Act → World → Prop} {Q : Exit → Act → World → Prop} (hd : ∀ d, o.dst = some d → d < N) (hI : Inv N g σ a w) (hK : Kon N g w K Kc)
    {c : Call} {f : Operand} {fn : FuncId} {caps : List AV} {R : AV → AS → Prop} (ho : o.op = .call c) (hc : c.callee = .value f) (he : σ.ev f = .clo fn caps) (hfn : isFn P fn = true)
    (hp : Spec P fn (c.args.toList.map σ.ev ++ caps) σ R) (hk : ∀ r σ', R r σ' → K (({ σ' with t := σ.t } : AS).put o.dst r)) : o.wp P a w Kc Q := by
  obtain ⟨cv, h1, h2, h3⟩ := args_R hI (as := c.args.toList) he
  refine wp_enter (run_call ho hc h1 hfn w) ?_
  refine (hp g w _ hI.H h2 h3).mono fun e w' ⟨r, v, σ', g', hr, hev, hR, hH, hx⟩ => ⟨v, hev, ?_⟩
  exact hK g' _ _ w' (hk r σ' hr) ((hI.ext (σ' := ({ σ' with t := σ.t } : AS)) hx hH rfl).put hd hR) hx

theorem all_one {cs : List AV} (h : (cs.all AV.one) = true) : ∀ y ∈ cs, y.one = true := by simpa [List.all_eq_true] using h

/-- **An operation.** -/
theorem aexec_sound {o : Oper} {K : AS → Prop} {Kc : Act → World → Prop} {Q : Exit → Act → World → Prop} (hd : ∀ d, o.dst = some d → d < N) (hI : Inv N g σ a w) (hK : Kon N g w K Kc)
    (h : aexec P o.op o.dst K σ) : o.wp P a w Kc Q := by
  unfold aexec at h
  split at h
  · rename_i e ho
    unfold kalloc at h
    split at h
    · rename_i z hz
      exact exec_alloc hd hI hK ho hz h
    · exact h.elim
  · rename_i e x ho
    exact exec_box hd hI hK ho (all_one h.1) h.2
  · rename_i t parts ho
    unfold kbuild at h
    split at h
    · rename_i z hz
      obtain ⟨h1, h⟩ := h
      obtain ⟨v, h3, h4⟩ := kput_elim h
      simp only [Option.map_eq_some_iff] at h3
      obtain ⟨cs, h3, rfl⟩ := h3
      rw [AS.parts_map] at h1 h3
      exact exec_build hd hI hK ho (by simpa [allOne, List.all_map, Function.comp_def] using h1) hz h3 h4
    · exact h.elim
  · rename_i t len parts ho
    unfold kslice at h
    split at h
    · rename_i e n b hs
      obtain ⟨h1, h2, h3, h⟩ := h
      unfold kslice2 at h
      split at h
      · rename_i z hz
        obtain ⟨h4, h⟩ := h
        unfold kslice3 at h
        split at h
        · rename_i xs hx
          unfold fillTrs at hx
          split at hx
          · rename_i cs hc
            rw [AS.parts_map] at h1 hc
            exact exec_buildSlice hd hI hK ho (by simpa [allOne, List.all_map, Function.comp_def] using h1) hs h2 h3 hz h4 hc hx h
          · cases hx
        · exact h.elim
      · exact h.elim
    · exact h.elim
  · rename_i t l c ho
    unfold kmake at h
    split at h
    · rename_i e n b hs
      obtain ⟨h2, h⟩ := h
      unfold kmake2 at h
      split at h
      · rename_i z k i k' i' hz e1 e2
        obtain ⟨h3, h4, rfl, h8, h9, h10, h11⟩ := h
        exact exec_makeSlice hd hI hK ho hs h2 hz h3 h4 e1 e2 h8 h9 h10 h11
      · exact h.elim
    · exact h.elim
  · rename_i t ad x ho
    obtain ⟨h1, h2, h3⟩ := h
    unfold kstore1 at h3
    split at h3
    · rename_i id j cs had hH
      simp only [had, AV.blk] at hH
      exact exec_store_box hd hI hK ho (all_one h1) h2 had hH h3.1 h3.2
    · rename_i id i j n xs had hH
      simp only [had, AV.blk] at hH
      unfold kstore2 at h3
      split at h3
      · rename_i e ys h4 h5
        exact exec_store_row hd hI hK ho (all_one h1) h2 had hH h4 h5 h3.1 h3.2
      · exact h3.elim
    · exact h3.elim
  · rename_i as ts ho
    unfold kapp at h
    rw [AS.evs_map] at h
    split at h
    · rename_i s x t u has hts
      have hsx : ∃ s' x', as.toList = [s', x'] ∧ σ.ev s' = s ∧ σ.ev x' = x := by
        cases hl : as.toList with
        | nil => rw [hl] at has; cases has
        | cons s' r =>
          cases r with
          | nil => rw [hl] at has; cases has
          | cons x' r =>
            cases r with
            | nil => rw [hl] at has; simp at has; exact ⟨s', x', rfl, has.1, has.2⟩
            | cons y r => rw [hl] at has; simp at has
      obtain ⟨s', x', hl, rfl, rfl⟩ := hsx
      unfold kapp1 at h
      split at h
      · rename_i e n b hs
        obtain ⟨h2, h⟩ := h
        unfold kapp2 at h
        split at h
        · rename_i z tk xs tk' ys hz e1 e2
          obtain ⟨h6, h8, h7, h9, h10, h11, h12⟩ := h
          exact exec_append hd hI hK ho hl hts hs h2 ⟨z, hz, h6⟩ e1 h7 h9 h10 h11 (.inl ⟨h8, tk', e2⟩) h12
        · rename_i z tk xs s hz e1 e2
          obtain ⟨h6, h8, hb, hby, h7, h9, h10, h11, h12⟩ := h
          exact exec_append hd hI hK ho hl hts hs h2 ⟨z, hz, h6⟩ e1 h7 h9 h10 h11 (.inr ⟨h8, hb, hby, s, e2, rfl⟩) h12
        · exact h.elim
      · exact h.elim
    · exact h.elim
  · rename_i f as ts ho
    unfold acall at h
    rw [AS.evs_map] at h
    split at h
    · rename_i fn caps he
      obtain ⟨h2, h3⟩ := h
      rcases h3 with ⟨R, h4, h5⟩ | ⟨R, h4, h5⟩
      · exact exec_pure hd hI hK ho rfl he h2 h4 h5
      · exact exec_spec hd hI hK ho rfl he h2 h4 h5
    · exact h.elim
  · obtain ⟨v, h1, h2⟩ := kput_elim h
    exact exec_aval hd hI hK h1 h2

theorem yield_sound (hI : Inv N g σ a w) {ops : Array Oper} {j d : Nat} {b : Bool} (h : (ops[j]?).bind (·.dst) = some d) (hT : σ.T d = .sc (.bool b)) : yielded ops a.tmps j = some b := by
  have := hI.tm d
  rw [hT] at this
  have hv := R_sc this
  unfold yielded
  rw [h]
  simp only [Option.bind_some]
  have : a.tmps[d]? = some (.bool b) := by
    rw [Array.getD_eq_getD_getElem?] at hv
    cases h : a.tmps[d]? with
    | none => rw [h] at hv; simp [undef] at hv
    | some v => rw [h] at hv; simp at hv; rw [hv]
  rw [this]

theorem skip_R (g : Gh) (w : World) : AV.R g w (.tup []) undef := .tup [] [] rfl (fun j x v h => by cases h)
theorem yield_skip (hI : Inv N g σ a w) {ops : Array Oper} {j d : Nat} (h : (ops[j]?).bind (·.dst) = some d) (hT : σ.T d = .tup []) : yielded ops a.tmps j = none := by
  have := hI.tm d
  rw [hT] at this
  unfold yielded
  rw [h]
  simp only [Option.bind_some]
  split
  · rename_i b hb
    rw [Array.getD_eq_getD_getElem?, hb, Option.getD_some] at this
    cases this
  · rfl

theorem Inv.same (hI : Inv N g σ a w) {d : Nat} {x : AV} (hT : σ.T d = x) : Inv N g (σ.put (some d) x) a w :=
  ⟨hI.H, hI.sz, hI.df, fun t => by
    rw [AS.T_put]
    split
    · rename_i h; subst h; rw [← hT]; exact hI.tm t
    · exact hI.tm t⟩

theorem dsts_getD {ops : Array Oper} {j d : Nat} (h : (dsts ops.toList).getD j none = some d) : (ops[j]?).bind (·.dst) = some d := by
  unfold dsts at h
  rw [List.getD_eq_getElem?_getD, List.getElem?_map] at h
  cases ho : ops.toList[j]? with
  | none => rw [ho] at h; simp at h
  | some o =>
    rw [ho] at h
    simp at h ho
    rw [ho]
    exact h

theorem astep_sound {ops : Array Oper} {o : Oper} {K : AS → Prop} {Kc : Act → World → Prop} {Q : Exit → Act → World → Prop} (hd : ∀ d, o.dst = some d → d < N) (hI : Inv N g σ a w) (hK : Kon N g w K Kc)
    (h : astep P (dsts ops.toList) o.guard o.op o.dst K σ) : if Region.wanted o (yielded ops a.tmps) then o.wp P a w Kc Q else Kc (a.put o.dst undef) w := by
  unfold astep at h
  split at h
  · rename_i hg
    rw [if_pos (by simp [Region.wanted, hg])]
    exact aexec_sound hd hI hK h
  · rename_i j want hg
    unfold kguard0 at h
    split at h
    case h_2 => exact h.elim
    rename_i d hy1
    have hy1 := dsts_getD hy1
    unfold kguard at h
    split at h
    · rename_i b hy
      have hyy := yield_sound hI hy1 hy
      by_cases hb : b = want
      · rw [if_pos (by simp [Region.wanted, hg, hyy, hb])]
        exact aexec_sound hd (hI.same (by rw [hy, hb])) hK (h.1 hb)
      · rw [if_neg (by simp [Region.wanted, hg, hyy, hb])]
        have hb' : b = !want := by cases b <;> cases want <;> simp_all
        exact hK g _ _ w (h.2 hb') ((hI.same (by rw [hy, hb'])).put hd (skip_R g w)) (Ext.refl g w)
    · rename_i hy
      rw [if_neg (by simp [Region.wanted, hg, yield_skip hI hy1 hy])]
      exact hK g _ _ w h (hI.put hd (skip_R g w)) (Ext.refl g w)
    · exact h.elim

theorem aops_sound {ops : Array Oper} {Q : Exit → Act → World → Prop} {K : AS → Prop} : ∀ (l : List Oper) (k : Nat) (g : Gh) (σ : AS) (a : Act) (w : World), (∀ j, l[j]? = ops[k + j]?) → (∀ o ∈ l, ∀ d, o.dst = some d → d < N) →
    aops P (dsts ops.toList) l K σ → Inv N g σ a w → (∀ g' σ' a' w', K σ' → Inv N g' σ' a' w' → Ext g w g' w' → Q .normal a' w') →
    wpOps P ops Q ((List.range l.length).map (k + ·)) a w
  | [], k, g, σ, a, w, _, _, h, hI, hK => hK g σ a w h hI (Ext.refl g w)
  | o :: l, k, g, σ, a, w, hl, hd, h, hI, hK => by
    have h0 : ops[k]? = some o := by simpa using (hl 0).symm
    have hrest : (List.range (l.length + 1)).map (k + ·) = k :: (List.range l.length).map ((k + 1) + ·) := by
      rw [List.range_succ_eq_map]
      simp [Function.comp_def, Nat.add_assoc, Nat.add_comm 1]
    rw [List.length_cons, hrest]
    simp only [wpOps, h0]
    have next : ∀ g' σ' a' w', aops P (dsts ops.toList) l K σ' → Inv N g' σ' a' w' → Ext g w g' w' → wpOps P ops Q ((List.range l.length).map ((k + 1) + ·)) a' w' := fun g' σ' a' w' h1 h2 h3 =>
      aops_sound l (k + 1) g' σ' a' w' (fun j => by have := hl (j + 1); simpa [Nat.add_assoc, Nat.add_comm 1 j] using this) (fun o ho => hd o (List.mem_cons_of_mem _ ho)) h1 h2 (fun g'' σ'' a'' w'' k1 k2 k3 => hK g'' σ'' a'' w'' k1 k2 (h3.trans k3))
    have := astep_sound (Q := Q) (hd o (by simp)) hI next h
    split
    · rename_i hw; rw [if_pos hw] at this; exact .inl this
    · rename_i hw; rw [if_neg hw] at this; exact this

theorem Inv.keep (hI : Inv N g σ a w) (vs : List Nat) : Inv N g (σ.keep vs) a w := by
  refine ⟨hI.H, hI.sz, hI.df, fun t => ?_⟩
  have : (σ.keep vs).T t = .no ∨ (σ.keep vs).T t = σ.T t := by
    show look (vs.map fun t => (t, σ.T t)) t = .no ∨ look (vs.map fun t => (t, σ.T t)) t = σ.T t
    induction vs with
    | nil => exact .inl rfl
    | cons v vs ih =>
      simp only [List.map_cons, look]
      split
      · rename_i h; subst h; exact .inr rfl
      · exact ih
  rcases this with h | h <;> rw [h]
  · exact .no _
  · exact hI.tm t
end
end VC
