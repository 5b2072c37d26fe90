/- What an operation asks for in the walk is enough for the machine's own: boxes, stores, and what is built. -/
import Derived.Test.YtknllghkpjncoaaVj
set_option linter.unusedVariables false
set_option linter.unusedSimpArgs false
namespace VC
open Go Go.RowKit

section
variable {P : Program} {N : Nat} {g g' : Gh} {w w' : World} {σ σ' : AS} {a : Act}

theorem Inv.put {d : Option Tmp} {x : AV} {v : Value} (h : Inv N g σ a w) (hd : ∀ i, d = some i → i < N) (hR : AV.R g w x v) : Inv N g (σ.put d x) (a.put d v) w := by
  cases d with
  | none => exact h
  | some i =>
    have hi : i < a.tmps.size := by rw [h.sz]; exact hd i rfl
    refine ⟨h.H, by simp [Act.put, h.sz], by simp [Act.put, h.df], fun t => ?_⟩
    rw [AS.T_put]
    simp only [Act.put]
    by_cases ht : t = i
    · subst ht
      rw [if_pos rfl]
      simpa [Array.getD, hi] using hR
    · rw [if_neg ht]
      have := h.tm t
      have e : (a.tmps.setIfInBounds i v).getD t undef = a.tmps.getD t undef := by
        simp only [Array.getD_eq_getD_getElem?]
        rw [Array.getElem?_setIfInBounds_ne (by omega)]
      rw [e]; exact this

theorem Inv.ext (h : Inv N g σ a w) (k : Ext g w g' w') (hH : HInv g' σ'.H σ'.L σ'.h σ'.nt w') (hT : σ'.t = σ.t) : Inv N g' σ' a w' :=
  ⟨hH, h.sz, h.df, fun t => by simp only [AS.T, hT]; exact (h.tm t).ext k⟩

/-- The cells of a value that is known cell by cell. -/
theorem cells_R {x : AV} {v : Value} (h : AV.R g w x v) (h1 : ∀ y ∈ x.cells, y.one = true) :
    v.cells.toList.length = x.cells.length ∧ (∀ u ∈ v.cells.toList, u.oneCell' = true) ∧
    ∀ (j : Nat) (y : AV) (u : Value), x.cells[j]? = some y → v.cells.toList[j]? = some u → AV.R g w y u := by
  have single : ∀ {y : AV} {u : Value}, AV.R g w y u → y.one = true → u.oneCell' = true := by
    intro y u hy ho
    cases hy with
    | no => simp [AV.one] at ho
    | sc v => simpa [AV.one] using ho
    | sl tk xs v h _ _ => obtain ⟨A, n, c, rfl, _⟩ := Tr_sl h; rfl
    | arr => rfl
    | ptr => rfl
    | pel => rfl
    | cel => simp [AV.one] at ho
    | agg => simp [AV.one] at ho
    | tup => simp [AV.one] at ho
    | clo => rfl
  have lone : ∀ {y : AV} {u : Value}, AV.R g w y u → y.one = true → y.cells = [y] → v = u → x = y → v.cells.toList.length = x.cells.length ∧ (∀ u ∈ v.cells.toList, u.oneCell' = true) ∧
      ∀ (j : Nat) (y : AV) (u : Value), x.cells[j]? = some y → v.cells.toList[j]? = some u → AV.R g w y u := by
    intro y u hy ho hc hv hx
    subst hv; subst hx
    have hu := single hy ho
    have huc : v.cells = #[v] := by cases v <;> first | rfl | (simp [Value.oneCell'] at hu)
    rw [hc, huc]
    refine ⟨rfl, by simpa using hu, fun j y u h1 h2 => ?_⟩
    cases j with
    | zero => simp at h1 h2; subst h1; subst h2; exact hy
    | succ j => simp at h1
  cases x with
  | agg cs =>
    obtain ⟨vs, rfl, hl, hh⟩ := R_agg h
    refine ⟨by simp [Value.cells, AV.cells, hl], ?_, fun j y u h2 h3 => hh j y u h2 (by simpa [Value.cells] using h3)⟩
    intro u hu
    simp only [Value.cells] at hu
    obtain ⟨j, hj, rfl⟩ := List.mem_iff_getElem.1 hu
    have hj' : j < cs.length := by rw [hl]; exact hj
    exact single (hh j cs[j] vs[j] (List.getElem?_eq_getElem hj') (List.getElem?_eq_getElem hj)) (h1 _ (List.getElem_mem hj'))
  | no => exact lone h (h1 _ (by simp [AV.cells])) rfl rfl rfl
  | sc v => exact lone h (h1 _ (by simp [AV.cells])) rfl rfl rfl
  | sl tk xs => exact lone h (h1 _ (by simp [AV.cells])) rfl rfl rfl
  | arr => exact lone h (h1 _ (by simp [AV.cells])) rfl rfl rfl
  | ptr => exact lone h (h1 _ (by simp [AV.cells])) rfl rfl rfl
  | pel => exact lone h (h1 _ (by simp [AV.cells])) rfl rfl rfl
  | cel => exact lone h (h1 _ (by simp [AV.cells])) rfl rfl rfl
  | tup => exact lone h (h1 _ (by simp [AV.cells])) rfl rfl rfl
  | clo => exact lone h (h1 _ (by simp [AV.cells])) rfl rfl rfl

theorem zerOf_spec {t : TypeId} {z : List Value} (h : zerOf P t = some z) : ∃ v, (∀ w, (zeroValue t).run P w = .ok v w) ∧ v.cells.toList = z ∧ ∃ i, P.info? t = some i ∧ i.zero = some v := by
  unfold zerOf at h
  simp only [Option.map_eq_some_iff, Option.bind_eq_some_iff] at h
  obtain ⟨v, ⟨i, h1, h2⟩, h3⟩ := h
  exact ⟨v, fun w => by simp [zeroValue, typeInfo, h1, h2], h3, i, h1, h2⟩

/-- What is handed on behind an operation. -/
def Kon (N : Nat) (g : Gh) (w : World) (K : AS → Prop) (Kc : Act → World → Prop) : Prop :=
  ∀ g' σ' a' w', K σ' → Inv N g' σ' a' w' → Ext g w g' w' → Kc a' w'

theorem wp_value {o : Oper} {v : Value} {Kc : Act → World → Prop} {Q : Exit → Act → World → Prop} (h : (execOp a.eval o).run P w = .ok (.value v) w') (hK : Kc (a.put o.dst v) w') : o.wp P a w Kc Q := by
  unfold Oper.wp
  rw [h]
  exact hK

theorem exec_aval {o : Oper} {K : AS → Prop} {Kc : Act → World → Prop} {Q : Exit → Act → World → Prop} (hd : ∀ d, o.dst = some d → d < N) (hI : Inv N g σ a w) (hK : Kon N g w K Kc)
    {x : AV} (h : aval P σ o.op = some x) (hk : K (σ.put o.dst x)) : o.wp P a w Kc Q := by
  obtain ⟨v, hr, hR⟩ := aval_sound hI h
  exact wp_value hr (hK g _ _ w hk (hI.put hd hR) (Ext.refl g w))

theorem exec_newVar {o : Oper} {K : AS → Prop} {Kc : Act → World → Prop} {Q : Exit → Act → World → Prop} (hd : ∀ d, o.dst = some d → d < N) (hI : Inv N g σ a w) (hK : Kon N g w K Kc)
    {cs : List AV} {v : Value} {e : TypeId} (hl : v.cells.toList.length = cs.length) (hR : ∀ (j : Nat) (y : AV) (u : Value), cs[j]? = some y → v.cells.toList[j]? = some u → AV.R g w y u)
    (hr : (execOp a.eval o).run P w = .ok (.value (.pointer (some ⟨w.heap.size, 0, none⟩))) (w.alloc (.cells v.cells e)))
    (hk : K ((σ.new (.box cs)).put o.dst (.ptr σ.h 0))) : o.wp P a w Kc Q := by
  obtain ⟨g', h1, h2, h3, h4⟩ := hI.H.newBox (cs := cs) (vs := v.cells.toList) e hl.symm hR
  have e1 : v.cells.toList.toArray = v.cells := by simp
  rw [e1] at h1 h2
  refine wp_value hr (hK g' _ _ _ hk ?_ h2)
  refine (hI.ext (σ' := σ.new (.box cs)) h2 h1 rfl).put hd ?_
  rw [← h4]
  exact .ptr σ.h 0 (by omega)

theorem exec_alloc {o : Oper} {K : AS → Prop} {Kc : Act → World → Prop} {Q : Exit → Act → World → Prop} (hd : ∀ d, o.dst = some d → d < N) (hI : Inv N g σ a w) (hK : Kon N g w K Kc)
    {e : TypeId} {z : List Value} (ho : o.op = .alloc e) (hz : zerOf P e = some z) (hk : K ((σ.new (.box (z.map ofCell))).put o.dst (.ptr σ.h 0))) : o.wp P a w Kc Q := by
  obtain ⟨v, hr, hv, _⟩ := zerOf_spec hz
  refine exec_newVar (v := v) (e := e) hd hI hK (by simp [hv]) (fun j y u h1 h2 => ?_) ?_ hk
  · rw [hv] at h2
    simp [h2] at h1
    subst h1
    exact ofCell_R g w u
  · simp [execOp, ho, Instr.alloc, hr, newVar, newRow]

theorem exec_box {o : Oper} {K : AS → Prop} {Kc : Act → World → Prop} {Q : Exit → Act → World → Prop} (hd : ∀ d, o.dst = some d → d < N) (hI : Inv N g σ a w) (hK : Kon N g w K Kc)
    {e : TypeId} {x : Operand} (ho : o.op = .box e x) (h1 : ∀ y ∈ (σ.ev x).cells, y.one = true) (hk : K ((σ.new (.box (σ.ev x).cells)).put o.dst (.ptr σ.h 0))) : o.wp P a w Kc Q := by
  obtain ⟨hl, _, hR⟩ := cells_R (hI.ev x) h1
  refine exec_newVar (v := a.eval x) (e := e) hd hI hK hl hR ?_ hk
  simp [execOp, ho, Instr.box, newVar, newRow]

theorem wp_skip' {o : Oper} {Kc : Act → World → Prop} {Q : Exit → Act → World → Prop} (h : (execOp a.eval o).run P w = .ok .skip w') (hK : Kc (a.put o.dst undef) w') : o.wp P a w Kc Q := by
  unfold Oper.wp
  rw [h]
  exact hK

theorem getElem?_patch {α : Type} (l m : List α) (j i : Nat) (h : j + m.length ≤ l.length) :
    (l.take j ++ m ++ l.drop (j + m.length))[i]? = if j ≤ i ∧ i < j + m.length then m[i - j]? else l[i]? := by
  by_cases h1 : i < j
  · rw [if_neg (by omega), List.append_assoc, List.getElem?_append_left (by simp; omega), List.getElem?_take, if_pos h1]
  · by_cases h2 : i < j + m.length
    · rw [if_pos (by omega), List.getElem?_append_left (by simp; omega), List.getElem?_append_right (by simp; omega)]
      congr 1; simp; omega
    · rw [if_neg (by omega), List.getElem?_append_right (by simp; omega), List.getElem?_drop]
      congr 1; simp; omega

theorem exec_store {o : Oper} {K : AS → Prop} {Kc : Act → World → Prop} {Q : Exit → Act → World → Prop} (hd : ∀ d, o.dst = some d → d < N) (hI : Inv N g σ a w) (hK : Kon N g w K Kc)
    {t : TypeId} {ad x : Operand} (ho : o.op = .store t ad x) (h1 : ∀ y ∈ (σ.ev x).cells, y.one = true) (h2 : szOf P t = some (σ.ev x).cells.length)
    {id : Nat} {b : Nat} {blk : Blk} {c c' : Array Value} {ty : TypeId} {off : Nat} (hid : id < g.n) (hc : w.heap[g.μ id]? = some (.cells c ty (0, 0))) (had : a.eval ad = .pointer (some ⟨g.μ id, off, none⟩))
    (hfit : off + (σ.ev x).cells.length ≤ c.size) (hc' : c' = (c.toList.take off ++ (a.eval x).cells.toList ++ c.toList.drop (off + (a.eval x).cells.toList.length)).toArray)
    (hb : Ext g w g (w.setRow (g.μ id) c') → (w.setRow (g.μ id) c').heap[g.μ id]? = some (.cells c' ty (0, 0)) → BlkR g (w.setRow (g.μ id) c') id blk)
    (hk : K ((σ.blk id blk).put o.dst .no)) : o.wp P a w Kc Q := by
  obtain ⟨hl, hone, hR⟩ := cells_R (hI.ev x) h1
  obtain ⟨k1, k2⟩ := hI.H.write (σ := σ) (blk := blk) hid hc hb
  have hst := run_storeCells_at P (g.μ id) off ty (a.eval x).cells.toList 0 c w hc (by rw [hl]; omega) hone
  simp only [Nat.add_zero] at hst
  rw [← hc'] at hst
  have hsz : (a.eval x).cells.size = (σ.ev x).cells.length := by rw [← hl]; simp
  refine wp_skip' (w' := w.setRow (g.μ id) c') ?_ (hK g _ _ _ hk ((hI.ext (σ' := σ.blk id blk) k2 k1 rfl).put hd (.no _)) k2)
  simp [execOp, ho, had, Instr.storeAt, Instr.sureAddr, storeVar, run_sizeOf h2, hsz, hst]

theorem exec_store_box {o : Oper} {K : AS → Prop} {Kc : Act → World → Prop} {Q : Exit → Act → World → Prop} (hd : ∀ d, o.dst = some d → d < N) (hI : Inv N g σ a w) (hK : Kon N g w K Kc)
    {t : TypeId} {ad x : Operand} (ho : o.op = .store t ad x) (h1 : ∀ y ∈ (σ.ev x).cells, y.one = true) (h2 : szOf P t = some (σ.ev x).cells.length)
    {id j : Nat} {cs : List AV} (had : σ.ev ad = .ptr id j) (hH : σ.H id = some (.box cs)) (hfit : j + (σ.ev x).cells.length ≤ cs.length)
    (hk : K ((σ.blk id (.box (setCells cs j (σ.ev x).cells))).put o.dst .no)) : o.wp P a w Kc Q := by
  have hv := hI.ev ad
  rw [had] at hv
  obtain ⟨hp, hid⟩ := R_ptr hv
  obtain ⟨hl, hone, hR⟩ := cells_R (hI.ev x) h1
  obtain ⟨c, ty, hc, hs, hcells⟩ := hI.H.hp id _ hH
  refine exec_store (b := 0) (blk := .box (setCells cs j (σ.ev x).cells)) hd hI hK ho h1 h2 hid hc hp (by omega) rfl (fun hk' hh => ?_) hk
  refine ⟨_, ty, hh, ?_, fun i y hy => ?_⟩
  · simp [setCells]; simp at hl; omega
  · unfold setCells at hy
    rw [getElem?_patch _ _ _ _ hfit] at hy
    have hp' := getElem?_patch c.toList (a.eval x).cells.toList j i (by rw [hl]; simp; omega)
    split at hy
    · rename_i hij
      rw [hl, if_pos hij] at hp'
      have hlt : i - j < (a.eval x).cells.toList.length := by rw [hl]; omega
      refine ⟨(a.eval x).cells.toList[i - j], ?_, (hR (i - j) y _ hy (List.getElem?_eq_getElem hlt)).ext hk'⟩
      rw [List.getElem?_toArray, hl, hp', List.getElem?_eq_getElem hlt]
    · rename_i hij
      rw [hl, if_neg hij] at hp'
      obtain ⟨v, h3, h4⟩ := hcells i y hy
      refine ⟨v, ?_, h4.ext hk'⟩
      rw [List.getElem?_toArray, hl, hp']
      simpa using h3

theorem trs_spec {cs : List AV} {ys : List Tr} (h : trs cs = some ys) : ys.length = cs.length ∧ ∀ (j : Nat) (y : Tr), ys[j]? = some y → ∃ x, cs[j]? = some x ∧ x.tr = some y := by
  induction cs generalizing ys with
  | nil => simp [trs] at h; subst h; simp
  | cons x r ih =>
    simp only [trs] at h
    split at h
    · rename_i y ys' hx hr
      cases h
      obtain ⟨h1, h2⟩ := ih hr
      refine ⟨by simp [h1], fun j z hz => ?_⟩
      cases j with
      | zero => simp at hz; subst hz; exact ⟨x, by simp, hx⟩
      | succ j => simp at hz; simpa using h2 j z hz
    · cases h

theorem tr_R {x : AV} {y : Tr} {v : Value} (hx : x.tr = some y) (h : AV.R g w x v) : Tr.R g.M w y v := by
  cases x <;> simp only [AV.tr] at hx
  case sc u => split at hx <;> cases hx; cases h; exact .sc _ ‹_›
  case sl tk xs => cases hx; exact R_sl h
  all_goals cases hx

theorem exec_store_row {o : Oper} {K : AS → Prop} {Kc : Act → World → Prop} {Q : Exit → Act → World → Prop} (hd : ∀ d, o.dst = some d → d < N) (hI : Inv N g σ a w) (hK : Kon N g w K Kc)
    {t : TypeId} {ad x : Operand} (ho : o.op = .store t ad x) (h1 : ∀ y ∈ (σ.ev x).cells, y.one = true) (h2 : szOf P t = some (σ.ev x).cells.length)
    {id i j n : Nat} {xs : List (List Tr)} {e ys : List Tr} (had : σ.ev ad = .pel id i j) (hH : σ.H id = some (.row n xs)) (he : xs[i]? = some e) (hys : trs (σ.ev x).cells = some ys) (hfit : j + ys.length ≤ n)
    (hk : K ((σ.blk id (.row n (xs.set i (setTr e j ys)))).put o.dst .no)) : o.wp P a w Kc Q := by
  have hv := hI.ev ad
  rw [had] at hv
  obtain ⟨hp, hid⟩ := R_pel hv
  obtain ⟨hl, hone, hR⟩ := cells_R (hI.ev x) h1
  obtain ⟨hsg, hz, c, ty, hc, hs, hcells⟩ := hI.H.hp id _ hH
  obtain ⟨hyl, hyy⟩ := trs_spec hys
  have hel := hz i e he
  have hi : i < xs.length := (List.getElem?_eq_some_iff.1 he).1
  have hmul : i * n + n ≤ xs.length * n := by rw [← Nat.succ_mul]; exact Nat.mul_le_mul_right _ hi
  rw [hsg] at hp
  refine exec_store (b := 0) (blk := .row n (xs.set i (setTr e j ys))) hd hI hK ho h1 h2 hid hc hp (by omega) rfl (fun hk' hh => ?_) hk
  have hset : (setTr e j ys).length = n := by unfold setTr; simp; omega
  refine ⟨hsg, fun i' e' he' => ?_, _, ty, hh, ?_, fun i' e' j' y he' hy => ?_⟩
  · rw [List.getElem?_set] at he'
    split at he'
    · cases he'; exact hset
    · exact hz i' e' he'
  · simp at hl ⊢; omega
  · have hp' := getElem?_patch c.toList (a.eval x).cells.toList (i * n + j) (i' * n + j') (by rw [hl]; simp; omega)
    rw [List.getElem?_set] at he'
    split at he'
    · rename_i hii
      subst hii
      cases he'
      unfold setTr at hy
      rw [getElem?_patch _ _ _ _ (by omega)] at hy
      split at hy
      · rename_i hij
        rw [hl, if_pos (by omega)] at hp'
        obtain ⟨z, hz1, hz2⟩ := hyy _ y hy
        have hlt : j' - j < (a.eval x).cells.toList.length := by rw [hl]; exact (List.getElem?_eq_some_iff.1 hz1).1
        refine ⟨(a.eval x).cells.toList[j' - j], ?_, (tr_R hz2 (hR (j' - j) z _ hz1 (List.getElem?_eq_getElem hlt))).keep hk'.keep⟩
        rw [List.getElem?_toArray, hl, hp', ← List.getElem?_eq_getElem hlt]
        congr 1; omega
      · rename_i hij
        rw [hl, if_neg (by omega)] at hp'
        obtain ⟨v, h3, h4⟩ := hcells i e j' y he hy
        refine ⟨v, ?_, h4.keep hk'.keep⟩
        rw [List.getElem?_toArray, hl, hp']
        simpa using h3
    · rename_i hii
      have hj' : j' < n := by rw [← hz i' e' he']; exact (List.getElem?_eq_some_iff.1 hy).1
      have hne : ¬ (i * n + j ≤ i' * n + j' ∧ i' * n + j' < i * n + j + (σ.ev x).cells.length) := by
        intro hcon
        rcases Nat.lt_or_gt_of_ne hii with hlt | hgt
        · have : (i + 1) * n ≤ i' * n := Nat.mul_le_mul_right _ hlt
          rw [Nat.succ_mul] at this; omega
        · have : (i' + 1) * n ≤ i * n := Nat.mul_le_mul_right _ hgt
          rw [Nat.succ_mul] at this; omega
      rw [hl, if_neg hne] at hp'
      obtain ⟨v, h3, h4⟩ := hcells i' e' j' y he' hy
      refine ⟨v, ?_, h4.keep hk'.keep⟩
      rw [List.getElem?_toArray, hl, hp']
      simpa using h3
end
end VC
