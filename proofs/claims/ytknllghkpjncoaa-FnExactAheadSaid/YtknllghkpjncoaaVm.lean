/- What an operation asks for in the walk is enough: slices written out, made, appended to. -/
import Derived.Test.YtknllghkpjncoaaVl
set_option linter.unusedVariables false
set_option linter.unusedSimpArgs false
namespace VC
open Go Go.RowKit

section
variable {P : Program} {N : Nat} {g g' : Gh} {w w' : World} {σ σ' : AS} {a : Act}

theorem zeros_arr (z : Array Value) (len n : Nat) (hz : z.size = n) (hn : 0 < n) : ((Array.range (len * n)).map fun i => z[i % z.size]!) = ((List.replicate len z.toList).flatten).toArray := by
  have := zeros_cells z.toList len n (by simpa using hz) hn
  rw [← this]
  apply Array.ext'
  simp

theorem flat_get {α : Type} (z : List α) : ∀ (len i j : Nat), i < len → j < z.length → ((List.replicate len z).flatten)[i * z.length + j]? = z[j]?
  | 0, i, j, hi, _ => by omega
  | len + 1, 0, j, _, hj => by rw [List.replicate_succ, List.flatten_cons, Nat.zero_mul, Nat.zero_add, List.getElem?_append_left hj]
  | len + 1, i + 1, j, hi, hj => by
    rw [List.replicate_succ, List.flatten_cons, Nat.succ_mul, List.getElem?_append_right (by omega)]
    have := flat_get z len i j (by omega) hj
    rw [← this]; congr 1; omega

theorem buildSlice_run (hI : Inv N g σ a w) {o : Oper}
    {t e : TypeId} {len n b : Nat} {parts : Array (Nat × Operand)} {z : List Value} {cs : List AV} {xs : List (List Tr)} (ho : o.op = .buildSlice t len parts) (hone : (parts.toList.all fun p => (σ.ev p.2).cells.all AV.one) = true)
    (hs : slcOf P t = some (e, n, b)) (hn : 0 < n) (hlim : len * n ≤ 16777216) (hz : zerOf P e = some z) (hzn : z.length = n)
    (hf : afill (fun i => some (i * n, n)) ((List.replicate len (z.map ofCell)).flatten) (parts.toList.map fun p => (p.1, (σ.ev p.2).cells)) = some cs) (hx : trss (chunk n len cs) = some xs) :
    ∃ cells : Array Value, xs.length = len ∧ cells.size = len * n ∧ len ≤ maxLen ∧ (∀ (i : Nat) (e : List Tr), xs[i]? = some e → e.length = n) ∧
      (∀ (i : Nat) (e : List Tr) (j : Nat) (x : Tr), xs[i]? = some e → e[j]? = some x → ∃ v, cells[i * n + j]? = some v ∧ Tr.R g.M w x v) ∧
      (execOp a.eval o).run P w = .ok (.value (.slice (some ⟨w.heap.size, 0, none⟩) len len)) (w.alloc (.cells cells e)) := by
  obtain ⟨inf, hu, hinf, hsz, _⟩ := slcOf_spec hs
  obtain ⟨v, hr, hv, _⟩ := zerOf_spec hz
  have hvs : v.cells.size = n := by rw [← hzn, ← hv]; simp
  have hcells0 : ((List.replicate len z).flatten).toArray.size = ((List.replicate len (z.map ofCell)).flatten).length := by simp
  obtain ⟨cells, e1, e2, e3⟩ := fill_R (g := g) (w := w) _ ((parts.map fun (i, x) => (i, a.eval x)).toList) _ _ ((List.replicate len z).flatten).toArray (by simp) (parts_R hI hone) hcells0 (fun j y u hy hu' => by
    have : (List.replicate len (z.map ofCell)).flatten = ((List.replicate len z).flatten).map ofCell := by simp [List.map_flatten]
    rw [this] at hy
    rw [List.getElem?_toArray] at hu'
    rw [List.getElem?_map, hu'] at hy
    simp at hy
    subst hy
    exact ofCell_R g w u) hf
  have hcl : ∀ (ps : List (Nat × List AV)) (cs cs' : List AV), afill (fun i => some (i * n, n)) cs ps = some cs' → cs'.length = cs.length := by
    intro ps
    induction ps with
    | nil => intro cs cs' h; simp [afill] at h; rw [h]
    | cons p ps ih =>
      intro cs cs' h
      obtain ⟨i, p⟩ := p
      simp only [afill] at h
      split at h
      · rename_i hc
        rw [ih _ _ h]
        simp [setCells]; omega
      · cases h
  have hcs : cs.length = len * n := by rw [hcl _ _ _ hf]; simp [hzn]
  obtain ⟨t1, t2⟩ := trss_spec hx
  have hxl : xs.length = len := by rw [t1, chunk_length]
  refine ⟨cells, hxl, by rw [e2, hcs], ?_, ?_, ?_, ?_⟩
  · have : len ≤ len * n := Nat.le_mul_of_pos_right _ hn
    simp only [maxLen]; omega
  · intro i el hel
    obtain ⟨c, hc1, hc2⟩ := t2 i el hel
    rw [(trs_spec hc2).1]
    exact (chunk_get hc1 hcs).1
  · intro i el j x hel hx'
    obtain ⟨c, hc1, hc2⟩ := t2 i el hel
    obtain ⟨y, hy1, hy2⟩ := (trs_spec hc2).2 j x hx'
    have hy3 := ((chunk_get hc1 hcs).2 j y hy1).1
    have hlt : i * n + j < cells.size := by rw [e2]; exact (List.getElem?_eq_some_iff.1 hy3).1
    exact ⟨cells[i * n + j], Array.getElem?_eq_getElem hlt, tr_R hy2 (e3 _ y _ hy3 (Array.getElem?_eq_getElem hlt))⟩
  · by_cases h0 : len = 0
    · subst h0
      have : cells = #[] := by
        have : cells.size = 0 := by rw [e2, hcs]; simp
        exact Array.eq_empty_of_size_eq_zero this
      subst this
      simp only [List.replicate_zero, List.flatten_nil] at e1
      have e1' : Instr.fill (fun i => some (i * n, n)) #[] (List.map (fun x => (x.fst, a.eval x.snd)) parts.toList) = some #[] := by simpa using e1
      have hr0 : ∀ f : Nat → Value, (Array.range 0).map f = #[] := fun f => Array.eq_empty_of_size_eq_zero (by simp)
      simp [execOp, ho, Instr.buildSlice, run_underlying hu, Go.sizeOf, typeInfo, hinf, hsz, newRow, hr0, e1']
    · have hne : len * n ≠ 0 := Nat.mul_ne_zero h0 (by omega)
      have hza := zeros_arr v.cells len n hvs hn
      rw [hv] at hza
      have e1' : Instr.fill (fun i => some (i * n, n)) ((List.replicate len z).flatten).toArray (List.map (fun x => (x.fst, a.eval x.snd)) parts.toList) = some cells := by simpa using e1
      have hlim' : ¬ 16777216 < len * n := by omega
      simp [execOp, ho, Instr.buildSlice, run_underlying hu, Go.sizeOf, typeInfo, hinf, hsz, newRow, hne, hr, hza, e1', hlim']

theorem exec_buildSlice {o : Oper} {K : AS → Prop} {Kc : Act → World → Prop} {Q : Exit → Act → World → Prop} (hd : ∀ d, o.dst = some d → d < N) (hI : Inv N g σ a w) (hK : Kon N g w K Kc)
    {t e : TypeId} {len n b : Nat} {parts : Array (Nat × Operand)} {z : List Value} {cs : List AV} {xs : List (List Tr)} (ho : o.op = .buildSlice t len parts) (hone : (parts.toList.all fun p => (σ.ev p.2).cells.all AV.one) = true)
    (hs : slcOf P t = some (e, n, b)) (hn : 0 < n) (hlim : len * n ≤ 16777216) (hz : zerOf P e = some z) (hzn : z.length = n)
    (hf : afill (fun i => some (i * n, n)) ((List.replicate len (z.map ofCell)).flatten) (parts.toList.map fun p => (p.1, (σ.ev p.2).cells)) = some cs) (hx : trss (chunk n len cs) = some xs)
    (hk : K ((σ.newTok (e, n)).put o.dst (.sl σ.nt xs))) : o.wp P a w Kc Q := by
  obtain ⟨cells, h1, h2, h3, h4, h5, h6⟩ := buildSlice_run hI ho hone hs hn hlim hz hzn hf hx
  exact exec_tokRow hd hI hK h1 h2 h3 h4 h5 h6 hk

theorem trCell_R (M : May) {v : Value} (h : v.oneCell' = true) : Tr.R M w (trCell v) v := by
  unfold trCell
  split
  · exact .nil
  · exact .sc _ h

theorem exec_makeSlice {o : Oper} {K : AS → Prop} {Kc : Act → World → Prop} {Q : Exit → Act → World → Prop} (hd : ∀ d, o.dst = some d → d < N) (hI : Inv N g σ a w) (hK : Kon N g w K Kc)
    {t e : TypeId} {n b : Nat} {l c : Operand} {z : List Value} {k k' : IntKind} {i : Int} (ho : o.op = .makeSlice t l c)
    (hs : slcOf P t = some (e, n, b)) (hn : 0 < n) (hz : zerOf P e = some z) (hzn : z.length = n) (hone : (z.all Value.oneCell') = true)
    (hl : σ.ev l = .sc (.int k i)) (hc : σ.ev c = .sc (.int k' i)) (h0 : 0 ≤ i) (h1 : i ≤ 9223372036854775807) (h2 : i * b ≤ 140737488355328)
    (hk : K ((σ.new (.row n (List.replicate i.toNat (z.map trCell)))).put o.dst (.arr σ.h 0 i.toNat))) : o.wp P a w Kc Q := by
  obtain ⟨inf, hu, hinf, hsz, hby⟩ := slcOf_spec hs
  obtain ⟨v, hr, hv, _⟩ := zerOf_spec hz
  have hvs : v.cells.size = n := by rw [← hzn, ← hv]; simp
  have el := hI.ev l
  have ec := hI.ev c
  rw [hl] at el
  rw [hc] at ec
  have el := R_sc el
  have ec := R_sc ec
  obtain ⟨m, rfl⟩ := Int.eq_ofNat_of_zero_le h0
  simp only [Int.toNat_natCast] at hk ⊢
  have hw : IntKind.i64.wrap (m : Int) = m := by
    have e : (m : Int) % 2 ^ 64 = m := by omega
    simp only [IntKind.wrap, IntKind.bits, IntKind.signed, e]
    rw [if_neg (by simp; omega)]
  obtain ⟨g', k1, k2, k3, k4, k5⟩ := hI.H.newBlk (σ := σ) (blk := .row n (List.replicate m (z.map trCell))) n ((List.replicate m z).flatten).toArray e (fun g' hk' hh hsg => by
    refine ⟨hsg, fun i e he => ?_, _, _, hh, by simp [hzn], fun i el j x hel hx => ?_⟩
    · rw [List.getElem?_replicate] at he
      split at he
      · cases he; simp [hzn]
      · cases he
    · rw [List.getElem?_replicate] at hel
      split at hel
      · rename_i hi
        cases hel
        simp at hx
        obtain ⟨y, hy, rfl⟩ := hx
        have hj : j < z.length := (List.getElem?_eq_some_iff.1 hy).1
        refine ⟨y, ?_, trCell_R _ ?_⟩
        · rw [List.getElem?_toArray, ← hzn, flat_get z m i j hi hj, hy]
        · simp only [List.all_eq_true] at hone
          exact hone y (List.mem_of_getElem? hy)
      · cases hel)
  refine wp_value (v := .slice (some ⟨w.heap.size, 0, none⟩) m m) ?_ (hK g' _ _ _ hk ?_ k2)
  · have hza := zeros_arr v.cells m n hvs hn
    rw [hv] at hza
    have t1 : ¬ (inf.bytes : Int) * m > 281474976710656 := by rw [hby, Int.mul_comm]; omega
    have t2 : ¬ (m : Int) < 0 := by omega
    have hz0 : m * n = 0 → ((List.replicate m z).flatten).toArray = #[] := by
      intro h
      have : m = 0 := by rcases Nat.mul_eq_zero.1 h with h | h <;> omega
      subst this; rfl
    by_cases hmn : m * n = 0
    · have hm0 : m = 0 := by rcases Nat.mul_eq_zero.1 hmn with h | h <;> omega
      subst hm0
      have hr0 : ∀ f : Nat → Value, (Array.range 0).map f = #[] := fun f => Array.eq_empty_of_size_eq_zero (by simp)
      simp [execOp, ho, el, ec, Instr.makeSlice, run_underlying hu, asInt, asIntOf, typeInfo, hinf, hw, askRoom, roomBytes, Go.sizeOf, hsz, newRow, hr0, show IntKind.i64.wrap 0 = 0 from by decide]
    · have t3 : ¬ 140737488355328 < m * inf.bytes := by rw [hby]; omega
      simp [execOp, ho, el, ec, Instr.makeSlice, run_underlying hu, asInt, asIntOf, typeInfo, hinf, hw, askRoom, roomBytes, Go.sizeOf, hsz, newRow, hmn, hr, hza, t1, t2, t3]
  · refine (hI.ext (σ' := σ.new (.row n (List.replicate m (z.map trCell)))) k2 k1 rfl).put hd ?_
    have := AV.R.arr (g := g') (w := w.alloc (.cells ((List.replicate m z).flatten).toArray e)) σ.h 0 m m (by omega) (Nat.le_refl _)
    rw [k4, k5, Nat.zero_mul] at this
    exact this
end
end VC
