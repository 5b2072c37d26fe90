/- The quiet operations yield what the walk says: 'aval_sound'. -/
import Derived.Test.YtknllghkpjncoaaVd
import Derived.Laws.StructEq
set_option linter.unusedVariables false
set_option linter.unusedSimpArgs false
namespace VC
open Go Go.RowKit

section
variable {P : Program} (w : World)
theorem run_equalIn_int' (d : Nat) (t : TypeId) (k : IntKind) (a b : Int) (h : P.underlying t = some (.int k)) (w : World) : (Op.equalIn (d + 1) t (.int k a) (.int k b)).run P w = .ok (a == b) w := by
  simp [Op.equalIn, run_underlying h]
theorem run_equalIn_ints (d : Nat) (t e : TypeId) (n : Nat) (k : IntKind) (xs ys : List Int) (ht : P.underlying t = some (.array n e)) (he : P.underlying e = some (.int k)) (hs : szOf P e = some 1) (ha : aggOf P e = some false) (hx : xs.length = n) (hy : ys.length = n) :
    (Op.equalIn (d + 2) t (.agg (xs.map (Value.int k)).toArray) (.agg (ys.map (Value.int k)).toArray)).run P w = .ok (decide (xs = ys)) w := by
  rw [Op.equalIn]
  simp only [Sem.run_bind, run_underlying ht, Result.andThen_ok, run_sizeOf hs, Std.Legacy.Range.forIn_eq_forIn_range', Std.Legacy.Range.size, Nat.sub_zero, Nat.add_sub_cancel, Nat.div_one]
  have hp : ∀ (l : List Int) (i : Nat) (hi : i < l.length), (part e (l.map (Value.int k)).toArray (i * 1)).run P w = .ok (.int k l[i]) w := by
    intro l i hi
    simp [part, run_isAgg ha, hi]
  have key : ∀ (m s : Nat), s + m = n → (forIn (List.range' s m) (none, ()) fun (i : Nat) (__s : Option Bool × Unit) => do
            let a ← part e (List.map (Value.int k) xs).toArray (i * 1)
            let b ← part e (List.map (Value.int k) ys).toArray (i * 1)
            let r ← Op.equalIn (d + 1) e a b
            if (!r) = true then pure (ForInStep.done (some false, ())) else pure (ForInStep.yield (none, ())) : Sem (Option Bool × Unit)).run P w = .ok (if xs.drop s = ys.drop s then none else some false, ()) w := by
    intro m
    induction m with
    | zero =>
      intro s hsm
      rw [List.drop_eq_nil_of_le (by omega), List.drop_eq_nil_of_le (by omega)]
      simp
    | succ m ih =>
      intro s hsm
      have h1 : s < xs.length := by omega
      have h2 : s < ys.length := by omega
      rw [List.range'_succ, List.forIn_cons, List.drop_eq_getElem_cons h1, List.drop_eq_getElem_cons h2]
      simp only [Sem.run_bind, hp xs s h1, hp ys s h2, Result.andThen_ok, run_equalIn_int' d e k _ _ he]
      by_cases hq : xs[s] = ys[s]
      · have hb : (xs[s] == ys[s]) = true := by simp [hq]
        have := ih (s + 1) (by omega)
        simp only [hb, Bool.not_true, Bool.false_eq_true, if_false, Sem.run_pure, Result.andThen_ok, this]
        simp only [List.cons.injEq, hq, true_and]
      · have hb : (xs[s] == ys[s]) = false := by simp [hq]
        simp only [hb, Bool.not_false, if_true, Sem.run_pure, Result.andThen_ok]
        simp only [List.cons.injEq, hq, false_and, if_false]
  rw [key n 0 (by omega)]
  simp only [Result.andThen_ok, List.drop_zero]
  by_cases h : xs = ys <;> simp [h]
end
section
variable {P : Program} {w : World}
theorem vceq_len : ∀ {ks : List Kd} {vs us : List Value} {r : Bool}, vceq ks vs us = some r → vs.length = ks.length ∧ us.length = ks.length
  | [], vs, us, r, h => by
    unfold vceq at h
    split at h <;> simp_all
  | k :: ks, vs, us, r, h => by
    unfold vceq at h
    split at h
    · simp_all
    · split at h
      · simp only [Option.map_eq_some_iff] at h
        obtain ⟨x, hx, _⟩ := h
        have := vceq_len hx
        simp_all
      · cases h
    · simp only [Option.map_eq_some_iff] at h
      obtain ⟨x, hx, _⟩ := h
      have := vceq_len hx
      simp_all
    · simp only [Option.map_eq_some_iff] at h
      obtain ⟨x, hx, _⟩ := h
      have := vceq_len hx
      simp_all
    · cases h
theorem vceq_app : ∀ {k1 k2 : List Kd} {vs us : List Value} {r : Bool}, vceq (k1 ++ k2) vs us = some r →
    ∃ r1 r2, vceq k1 (vs.take k1.length) (us.take k1.length) = some r1 ∧ vceq k2 (vs.drop k1.length) (us.drop k1.length) = some r2 ∧ r = (r1 && r2)
  | [], k2, vs, us, r, h => ⟨true, r, by simp [vceq], by simpa using h, by simp⟩
  | k :: k1, k2, vs, us, r, h => by
    simp only [List.cons_append] at h
    rw [vceq.eq_def] at h
    split at h
    · simp_all
    · split at h
      · rename_i a b c d e f g h1 h2
        rename_i _ hk
        simp only [Option.map_eq_some_iff] at h
        obtain ⟨x, hx, rfl⟩ := h
        cases h1
        obtain ⟨r1, r2, e1, e2, rfl⟩ := vceq_app hx
        refine ⟨_ && r1, r2, ?_, by simpa using e2, by rw [Bool.and_assoc]⟩
        simp only [List.length_cons, List.take_succ_cons]
        rw [vceq]
        simp [e1, h2]
      · cases h
    · rename_i h1
      simp only [Option.map_eq_some_iff] at h
      obtain ⟨x, hx, rfl⟩ := h
      cases h1
      obtain ⟨r1, r2, e1, e2, rfl⟩ := vceq_app hx
      refine ⟨_ && r1, r2, ?_, by simpa using e2, by rw [Bool.and_assoc]⟩
      simp only [List.length_cons, List.take_succ_cons]
      rw [vceq]
      simp [e1]
    · rename_i h1
      simp only [Option.map_eq_some_iff] at h
      obtain ⟨x, hx, rfl⟩ := h
      cases h1
      obtain ⟨r1, r2, e1, e2, rfl⟩ := vceq_app hx
      refine ⟨_ && r1, r2, ?_, by simpa using e2, by rw [Bool.and_assoc]⟩
      simp only [List.length_cons, List.take_succ_cons]
      rw [vceq]
      simp [e1]
    · cases h

def wrapV (P : Program) (t : TypeId) (vs : List Value) : Value := if aggOf P t = some true then .agg vs.toArray else vs.headD undef
theorem part_wrap {t : TypeId} {n o : Nat} {b : Bool} {vs : List Value} (hn : szOf P t = some n) (hb : aggOf P t = some b) (h1 : b = false → n = 1) (hl : o + n ≤ vs.length) (w : World) :
    (part t vs.toArray o).run P w = .ok (wrapV P t ((vs.drop o).take n)) w := by
  cases b with
  | true =>
    have e : vs.toArray.extract o (o + n) = ((vs.drop o).take n).toArray := by simp [List.take_drop]
    simp [part, run_isAgg hb, run_sizeOf hn, wrapV, hb]
  | false =>
    have := h1 rfl
    subst this
    have hlt : o < vs.length := by omega
    have : ((vs.drop o).take 1).headD undef = vs[o] := by
      rw [List.drop_eq_getElem_cons hlt]; rfl
    rw [wrapV, if_neg (by rw [hb]; simp), this]
    simp [part, run_isAgg hb, List.getElem?_eq_getElem hlt]

theorem flatIn_agg : ∀ {d : Nat} {t : TypeId} {ks : List Kd}, flatIn P d t = some ks → ∃ b, aggOf P t = some b ∧ (b = false → ks.length = 1)
  | 0, _, _, h => by cases h
  | d + 1, t, ks, h => by
    unfold flatIn at h
    split at h
    · rename_i hu; cases h; exact ⟨false, by simp [aggOf, hu], fun _ => rfl⟩
    · rename_i hu; cases h; exact ⟨false, by simp [aggOf, hu], fun _ => rfl⟩
    · rename_i hu; cases h; exact ⟨false, by simp [aggOf, hu], fun _ => rfl⟩
    · rename_i hu; exact ⟨true, by simp [aggOf, hu], fun h => by cases h⟩
    · cases h

theorem fields_run {d : Nat} (ih : ∀ (t : TypeId) (ks : List Kd), flatIn P d t = some ks → ∀ (m : Nat) (vs us : List Value) (r : Bool), vceq ks vs us = some r → (Op.equalIn (d + m) t (wrapV P t vs) (wrapV P t us)).run P w = .ok r w) (m : Nat) (vs us : List Value) :
    ∀ (fs : List Field) (o : Nat) (ks : List Kd) (r : Bool), flatFs P (flatIn P d) fs o = some ks → vceq ks (vs.drop o) (us.drop o) = some r → o ≤ vs.length → o ≤ us.length → (Op.eqFields (d + m) vs.toArray us.toArray fs).run P w = .ok r w
  | [], o, ks, r, h, he, _, _ => by
    cases h
    have hl := vceq_len he
    have h1 : vs.drop o = [] := List.eq_nil_of_length_eq_zero hl.1
    have h2 : us.drop o = [] := List.eq_nil_of_length_eq_zero hl.2
    rw [h1, h2] at he
    cases he
    simp [Op.eqFields]
  | f :: fs, o, ks, r, h, he, o1, o2 => by
    unfold flatFs at h
    split at h
    · rename_i k1 hk
      split at h
      · rename_i hc
        simp only [Option.map_eq_some_iff] at h
        obtain ⟨k2, h2, rfl⟩ := h
        obtain ⟨r1, r2, e1, e2, rfl⟩ := vceq_app he
        rw [List.drop_drop, List.drop_drop] at e2
        obtain ⟨b, hb, hb1⟩ := flatIn_agg hk
        have hl := vceq_len he
        rw [List.length_append, List.length_drop, List.length_drop] at hl
        have q1 := part_wrap hc.2.2 hb hb1 (vs := vs) (o := o) (by omega) w
        have q2 := part_wrap hc.2.2 hb hb1 (vs := us) (o := o) (by omega) w
        have q3 := ih f.type k1 hk m _ _ r1 e1
        have q4 := fields_run ih m vs us fs (o + k1.length) k2 r2 h2 e2 (by omega) (by omega)
        rw [Op.eqFields, if_pos hc.1]
        simp only [Sem.run_bind, hc.2.1, q1, q2, Result.andThen_ok, q3]
        cases r1 <;> simp [q4]
      · cases h
    · cases h
theorem flat_run : ∀ (d : Nat) (t : TypeId) (ks : List Kd), flatIn P d t = some ks → ∀ (m : Nat) (vs us : List Value) (r : Bool), vceq ks vs us = some r → (Op.equalIn (d + m) t (wrapV P t vs) (wrapV P t us)).run P w = .ok r w
  | 0, _, _, h => by cases h
  | d + 1, t, ks, h => by
    intro m vs us r he
    have hd : d + 1 + m = (d + m) + 1 := by omega
    rw [hd]
    unfold flatIn at h
    split at h
    · rename_i k hu
      cases h
      have hl := vceq_len he
      obtain ⟨a, rfl⟩ := List.length_eq_one_iff.1 hl.1
      obtain ⟨b, rfl⟩ := List.length_eq_one_iff.1 hl.2
      have ha : aggOf P t = some false := by simp [aggOf, hu]
      simp only [wrapV, ha, Option.some.injEq, Bool.false_eq_true, if_false, List.headD_cons]
      cases a <;> cases b
      all_goals first | (simp [vceq] at he; done) | skip
      simp only [vceq, Option.map_some] at he
      split at he
      · rename_i hk
        obtain ⟨rfl, rfl⟩ := hk
        simp only [Option.some.injEq, Bool.and_true] at he
        rw [run_equalIn_int' _ _ _ _ _ hu, ← he]
        congr 1
      · cases he
    · rename_i hu
      cases h
      have hl := vceq_len he
      obtain ⟨a, rfl⟩ := List.length_eq_one_iff.1 hl.1
      obtain ⟨b, rfl⟩ := List.length_eq_one_iff.1 hl.2
      have ha : aggOf P t = some false := by simp [aggOf, hu]
      simp only [wrapV, ha, Option.some.injEq, Bool.false_eq_true, if_false, List.headD_cons]
      cases a <;> cases b
      all_goals first | (simp [vceq] at he; done) | skip
      simp only [vceq, Option.map_some, Option.some.injEq, Bool.and_true] at he
      rw [run_equalIn_bool w _ _ _ _ hu, ← he]
    · rename_i hu
      cases h
      have hl := vceq_len he
      obtain ⟨a, rfl⟩ := List.length_eq_one_iff.1 hl.1
      obtain ⟨b, rfl⟩ := List.length_eq_one_iff.1 hl.2
      have ha : aggOf P t = some false := by simp [aggOf, hu]
      simp only [wrapV, ha, Option.some.injEq, Bool.false_eq_true, if_false, List.headD_cons]
      cases a <;> cases b
      all_goals first | (simp [vceq] at he; done) | skip
      simp only [vceq, Option.map_some, Option.some.injEq, Bool.and_true] at he
      rw [run_equalIn_string w _ _ _ _ hu, str_beq, ← he]
    · rename_i fs hu
      split at h
      · rename_i hp
        have ha : aggOf P t = some true := by simp [aggOf, hu]
        have hf : P.fieldsOf t = fs := by simp [Program.fieldsOf, hu]
        simp only [wrapV, ha, if_true]
        rw [run_equalIn_struct w (d + m) t _ _ (by rw [hf]; exact hu) hp, hf]
        exact fields_run (flat_run d) m vs us fs.toList 0 ks r h (by simpa using he) (Nat.zero_le _) (Nat.zero_le _)
      · cases h
    · cases h
variable {g : Gh}
theorem scs_R : ∀ {as : List AV} {xs vs : List Value}, scs as = some xs → as.length = vs.length →
    (∀ (j : Nat) (x : AV) (v : Value), as[j]? = some x → vs[j]? = some v → AV.R g w x v) → vs = xs
  | [], xs, vs, h, hl, hh => by
    cases h
    cases vs with
    | nil => rfl
    | cons _ _ => cases hl
  | a :: as, xs, vs, h, hl, hh => by
    cases vs with
    | nil => cases hl
    | cons v vs =>
      unfold scs at h
      split at h
      · rename_i h0; cases h0
      · rename_i n r h0
        cases h0
        simp only [Option.map_eq_some_iff] at h
        obtain ⟨zs, hz, rfl⟩ := h
        have h1 := R_sc (hh 0 _ v rfl rfl)
        have h2 := scs_R hz (by simpa using hl) (fun j x u h3 h4 => hh (j + 1) x u (by simpa using h3) (by simpa using h4))
        rw [h1, h2]
      · cases h
theorem aeqs_run {op : BinOp} {t : TypeId} {as bs : List AV} {vs us : List Value} {r : AV} (h : aeqs P op t as bs = some r) (x y : Operand)
    (hl : as.length = vs.length) (hh : ∀ (j : Nat) (x : AV) (v : Value), as[j]? = some x → vs[j]? = some v → AV.R g w x v)
    (hl' : bs.length = us.length) (hh' : ∀ (j : Nat) (x : AV) (v : Value), bs[j]? = some x → us[j]? = some v → AV.R g w x v) :
    ∃ b, r = .sc (.bool b) ∧ (do eqGuard op t x y (.agg vs.toArray) (.agg us.toArray); binOp op t (.agg vs.toArray) (.agg us.toArray) : Sem Value).run P w = .ok (.bool b) w := by
  unfold aeqs at h
  split at h
  · rename_i ks hf
    unfold aeqs1 at h
    split at h
    · rename_i xs ys h1 h2
      have e1 := scs_R h1 hl hh
      have e2 := scs_R h2 hl' hh'
      subst e1; subst e2
      unfold flatOf at hf
      split at hf
      · rename_i fs hu
        split at hf
        · rename_i hg
          have ha : aggOf P t = some true := by simp [aggOf, hu]
          unfold aeqs2 at h
          split at h
          · rename_i b hv
            cases h
            have key := flat_run (w := w) 30 t ks hf 9970 vs us b hv
            simp only [wrapV, ha, if_true] at key
            refine ⟨_, rfl, ?_⟩
            simp only [Sem.run_bind, run_eqGuard_agg w _ t x y _ _ hg, Result.andThen_ok, run_eql_struct]
            rw [show (10000 : Nat) = 30 + 9970 from rfl, key]
            rfl
          · rename_i b hv
            cases h
            have key := flat_run (w := w) 30 t ks hf 9970 vs us b hv
            simp only [wrapV, ha, if_true] at key
            refine ⟨_, rfl, ?_⟩
            simp only [Sem.run_bind, run_eqGuard_agg w _ t x y _ _ hg, Result.andThen_ok, run_neq_struct]
            rw [show (10000 : Nat) = 30 + 9970 from rfl, key]
            rfl
          · cases h
        · cases hf
      · cases hf
    · cases h
  · cases h
end
section
variable {P : Program} {g : Gh} {w : World}
theorem intsOf_R {k : IntKind} : ∀ {as : List AV} {xs : List Int} {vs : List Value}, intsOf k as = some xs → as.length = vs.length →
    (∀ (j : Nat) (x : AV) (v : Value), as[j]? = some x → vs[j]? = some v → AV.R g w x v) → vs = xs.map (Value.int k)
  | [], xs, vs, h, hl, hh => by
    cases h
    cases vs with
    | nil => rfl
    | cons _ _ => cases hl
  | a :: as, xs, vs, h, hl, hh => by
    cases vs with
    | nil => cases hl
    | cons v vs =>
      unfold intsOf at h
      split at h
      · rename_i h0; cases h0
      · rename_i k' n r h0
        cases h0
        split at h
        · rename_i hk
          subst hk
          simp only [Option.map_eq_some_iff] at h
          obtain ⟨zs, hz, rfl⟩ := h
          have h1 := R_sc (hh 0 _ v rfl rfl)
          have h2 := intsOf_R hz (by simpa using hl) (fun j x u h3 h4 => hh (j + 1) x u (by simpa using h3) (by simpa using h4))
          rw [h1, h2]
          rfl
        · cases h
      · cases h
theorem aeqa_run {op : BinOp} {t : TypeId} {as bs : List AV} {vs us : List Value} {r : AV} (h : aeqa P op t as bs = some r) (x y : Operand)
    (hl : as.length = vs.length) (hh : ∀ (j : Nat) (x : AV) (v : Value), as[j]? = some x → vs[j]? = some v → AV.R g w x v)
    (hl' : bs.length = us.length) (hh' : ∀ (j : Nat) (x : AV) (v : Value), bs[j]? = some x → us[j]? = some v → AV.R g w x v) :
    ∃ b, r = .sc (.bool b) ∧ (do eqGuard op t x y (.agg vs.toArray) (.agg us.toArray); binOp op t (.agg vs.toArray) (.agg us.toArray) : Sem Value).run P w = .ok (.bool b) w := by
  unfold aeqa at h
  split at h
  · rename_i n k ha
    unfold aeqa2 at h
    split at h
    · rename_i xs ys h1 h2
      split at h
      · rename_i hc
        have e1 := intsOf_R h1 hl hh
        have e2 := intsOf_R h2 hl' hh'
        unfold arrInt at ha
        split at ha
        · rename_i n' e ht
          split at ha
          · rename_i k' he
            split at ha
            · rename_i hs
              cases ha
              subst e1; subst e2
              have key := run_equalIn_ints (P := P) w 9998 t e n k xs ys ht he hs.1 hs.2.1 hc.1 hc.2
              cases op
              all_goals first | (cases h; done) | skip
              · cases h
                refine ⟨_, rfl, ?_⟩
                simp only [Sem.run_bind, run_eqGuard_agg w _ t x y _ _ hs.2.2, Result.andThen_ok, run_eql_struct, key]
              · cases h
                refine ⟨_, rfl, ?_⟩
                simp only [Sem.run_bind, run_eqGuard_agg w _ t x y _ _ hs.2.2, Result.andThen_ok, run_neq_struct, key]
            · cases ha
          · cases ha
        · cases ha
      · cases h
    · cases h
  · exact aeqs_run h x y hl hh hl' hh'
end

section
variable {P : Program} {N : Nat} {g : Gh} {w : World} {σ : AS} {a : Act}

/-- What a quiet operation comes to. -/
def Yields (P : Program) (g : Gh) (a : Act) (w : World) (o : Oper) (x : AV) : Prop :=
  ∃ v, (execOp a.eval o).run P w = .ok (.value v) w ∧ AV.R g w x v

theorem aval_load (hI : Inv N g σ a w) {o : Oper} {t : TypeId} {ad : Operand} {x : AV} (ho : o.op = .load t ad) (h : aval P σ (.load t ad) = some x) : Yields P g a w o x := by
  have hv := hI.ev ad
  simp only [aval] at h
  split at h
  · rename_i n ag id j hn hg he
    rw [he] at hv
    obtain ⟨hp, hid⟩ := R_ptr hv
    split at h
    · rename_i cs hH
      obtain ⟨c, ty, hc, hs, hcells⟩ := hI.H.hp id _ hH
      obtain ⟨v, hr, hR⟩ := load_R (g := g) (w := w) (P := P) (t := t) (b := g.μ id) (o := 0) (cs := cs) (j := j) (fun i => c.getD i undef) hn hg (fun i y hy => by
        obtain ⟨v, h1, h2⟩ := hcells i y hy
        have hi : i < c.size := (Array.getElem?_eq_some_iff.1 h1).1
        have h1' : c[i] = v := by simpa [Array.getElem?_eq_getElem hi] using h1
        refine ⟨?_, by simpa [Array.getD, hi, h1'] using h2⟩
        simp [cellAt, World.cell?, hc, Array.getD, hi]) h
      refine ⟨v, ?_, hR⟩
      simp only [Nat.zero_add] at hr
      simp [execOp, ho, hp, Instr.loadAt, Instr.sureAddr, hr]
    · cases h
  · rename_i n ag id i j hn hg he
    rw [he] at hv
    obtain ⟨hp, hid⟩ := R_pel hv
    split at h
    · rename_i sz xs hH
      simp only [Option.bind_eq_some_iff] at h
      obtain ⟨e, hxe, h⟩ := h
      obtain ⟨hsz, hze, c, ty, hc, hs, hcells⟩ := hI.H.hp id _ hH
      obtain ⟨v, hr, hR⟩ := load_R (g := g) (w := w) (P := P) (t := t) (b := g.μ id) (o := i * g.σ id) (cs := e.map Tr.av) (j := j) (fun k => c.getD (i * g.σ id + k) undef) hn hg (fun k y hy => by
        simp at hy
        obtain ⟨z, hz, rfl⟩ := hy
        obtain ⟨v, h1, h2⟩ := hcells i e k z hxe hz
        rw [← hsz] at h1
        have hi : i * g.σ id + k < c.size := (Array.getElem?_eq_some_iff.1 h1).1
        have h1' : c[i * g.σ id + k] = v := by simpa [Array.getElem?_eq_getElem hi] using h1
        refine ⟨?_, ?_⟩
        · simp [cellAt, World.cell?, hc, Array.getD, hi]
        · have : c.getD (i * g.σ id + k) undef = v := by simp [Array.getD, hi, h1']
          rw [this]
          exact h2.toAV) h
      refine ⟨v, ?_, hR⟩
      simp [execOp, ho, hp, Instr.loadAt, Instr.sureAddr, hr]
    · cases h
  · rename_i n ag e j hn hg he
    rw [he] at hv
    obtain ⟨b, o', u, rfl', hb, hu, hx⟩ := R_cel hv
    obtain ⟨v, hr, hR⟩ := load_R (g := g) (w := w) (P := P) (t := t) (b := b) (o := o') (cs := e.map Tr.av) (j := j) u hn hg (fun k y hy => by
      simp at hy
      obtain ⟨z, hz, rfl⟩ := hy
      exact ⟨(hu k z hz).1, (hx k z hz).toAV⟩) h
    refine ⟨v, ?_, hR⟩
    simp [execOp, ho, rfl', Instr.loadAt, Instr.sureAddr, hr]
  · cases h

theorem fieldPlace_run {s f ofs n : Nat} {b : Bool} (hf : fldOf P s f = some (ofs, n, b)) (hn : n ≠ 0) (ad : Addr) (w : World) :
    (Instr.fieldAt s (.pointer (some ad)) f).run P w = .ok (.pointer (some (ad.add ofs))) w := by
  obtain ⟨fs, fl, h1, h2, h3, h4, h5⟩ := fldOf_spec hf
  simp [Instr.fieldAt, run_underlying h1, h2, Instr.sureAddr, fieldPlace, run_sizeOf h4, hn, h3]

theorem aval_fieldAddr (hI : Inv N g σ a w) {o : Oper} {s f : Nat} {x : Operand} {r : AV} (ho : o.op = .fieldAddr s x f) (h : aval P σ (.fieldAddr s x f) = some r) : Yields P g a w o r := by
  have hv := hI.ev x
  simp only [aval] at h
  split at h
  · rename_i ofs n b id j hf he
    rw [he] at hv
    obtain ⟨hp, hid⟩ := R_ptr hv
    split at h
    · cases h
    · rename_i hn
      cases h
      refine ⟨_, (by simp [execOp, ho, hp, fieldPlace_run hf hn, Addr_add]; first | done | rfl), .ptr id (j + ofs) hid⟩
  · rename_i ofs n b id i j hf he
    rw [he] at hv
    obtain ⟨hp, hid⟩ := R_pel hv
    split at h
    · cases h
    · rename_i hn
      cases h
      refine ⟨_, (by simp [execOp, ho, hp, fieldPlace_run hf hn, Addr_add]; first | done | rfl), ?_⟩
      have := AV.R.pel (g := g) (w := w) id i (j + ofs) hid
      rwa [← Nat.add_assoc] at this
  · rename_i ofs n b e j hf he
    rw [he] at hv
    obtain ⟨b', o', u, hp, hb, hu, hx⟩ := R_cel hv
    split at h
    · cases h
    · rename_i hn
      cases h
      refine ⟨_, (by simp [execOp, ho, hp, fieldPlace_run hf hn, Addr_add]; first | done | rfl), ?_⟩
      have := AV.R.cel (g := g) (w := w) e (j + ofs) b' o' u hb hu hx
      rwa [← Nat.add_assoc] at this
  · cases h

theorem indexArr_run {t len n : Nat} {b : Bool} (hf : arrOf P t = some (len, n, b)) {k : IntKind} {i : Int} (h0 : 0 ≤ i) (h1 : i < len) (ad : Addr) (w : World) :
    (Instr.indexAt t (.pointer (some ad)) (.int k i)).run P w = .ok (.pointer (some (ad.add (i.toNat * n)))) w := by
  obtain ⟨e, hu, hs, hg⟩ := arrOf_spec hf
  simp [Instr.indexAt, asIntOf, run_underlying hu, Instr.sureAddr, h0, h1, run_sizeOf hs]

theorem aval_indexAddr (hI : Inv N g σ a w) {o : Oper} {t : Nat} {x ix : Operand} {r : AV} (ho : o.op = .indexAddr t x ix) (h : aval P σ (.indexAddr t x ix) = some r) : Yields P g a w o r := by
  have hv := hI.ev x
  have hi := hI.ev ix
  simp only [aval] at h
  split at h
  · rename_i tk xs k i he hei
    rw [he] at hv
    rw [hei] at hi
    have hi := R_sc hi
    split at h
    · rename_i e' n by_ hsl
      split at h
      · rename_i hc
        obtain ⟨h0, h1, h2⟩ := hc
        cases h
        obtain ⟨inf, hu, hinf, hsz, _⟩ := slcOf_spec hsl
        obtain ⟨A, m, c, rfl', hm, hmc, hh⟩ := Tr_sl (R_sl hv)
        have hin : i.toNat < xs.length := by omega
        have hxe : xs[i.toNat]? = some (xs.getD i.toNat []) := by simp [List.getD, List.getElem?_eq_getElem hin]
        rcases hh with ⟨_, hnil, _⟩ | ⟨_, _, hnil⟩ | ⟨b, o', sz, u, hA, hz, hb, huu, hxx⟩
        · subst hnil; simp at h1; omega
        · subst hnil; simp at h1; omega
        · subst hA
          have hszn : sz = n := by rw [← hz _ _ hxe, h2]
          refine ⟨.pointer (some ⟨b, o' + i.toNat * sz + 0, none⟩), ?_, ?_⟩
          · simp [execOp, ho, rfl', hi, Instr.indexAt, asIntOf, run_underlying hu, h0, hm, h1, Go.sizeOf, typeInfo, hinf, hsz, hszn, Addr_add]
          · exact .cel _ 0 b (o' + i.toNat * sz) (u i.toNat) hb (fun j y hy => huu _ _ j y hxe hy) (fun j y hy => hxx _ _ j y hxe hy)
      · cases h
    · cases h
  · rename_i id off len k i he hei
    rw [he] at hv
    rw [hei] at hi
    have hi := R_sc hi
    obtain ⟨c, hp, hlc, hid⟩ := R_arr hv
    split at h
    · rename_i e' n by_ sz xs hsl hH
      split at h
      · rename_i hc
        obtain ⟨h0, h1, h2⟩ := hc
        cases h
        obtain ⟨inf, hu, hinf, hsz, _⟩ := slcOf_spec hsl
        have hs := (hI.H.hp id _ hH).1
        refine ⟨.pointer (some ⟨g.μ id, (off + i.toNat) * g.σ id + 0, none⟩), ?_, .pel id _ 0 hid⟩
        simp [execOp, ho, hp, hi, Instr.indexAt, asIntOf, run_underlying hu, h0, h1, Go.sizeOf, typeInfo, hinf, hsz, Addr_add, hs, h2, Nat.add_mul]
      · cases h
    · cases h
  · rename_i id j k i he hei
    rw [he] at hv
    rw [hei] at hi
    have hi := R_sc hi
    obtain ⟨hp, hid⟩ := R_ptr hv
    split at h
    · rename_i len n b hf
      split at h
      · rename_i hc
        cases h
        refine ⟨_, (by simp [execOp, ho, hp, hi, indexArr_run hf hc.1 hc.2, Addr_add]; first | done | rfl), .ptr id _ hid⟩
      · cases h
    · cases h
  · rename_i id k' j k i he hei
    rw [he] at hv
    rw [hei] at hi
    have hi := R_sc hi
    obtain ⟨hp, hid⟩ := R_pel hv
    split at h
    · rename_i len n b hf
      split at h
      · rename_i hc
        cases h
        refine ⟨_, (by simp [execOp, ho, hp, hi, indexArr_run hf hc.1 hc.2, Addr_add]; first | done | rfl), ?_⟩
        have := AV.R.pel (g := g) (w := w) id k' (j + i.toNat * n) hid
        rwa [← Nat.add_assoc] at this
      · cases h
    · cases h
  · rename_i e j k i he hei
    rw [he] at hv
    rw [hei] at hi
    have hi := R_sc hi
    obtain ⟨b', o', u, hp, hb, hu, hx⟩ := R_cel hv
    split at h
    · rename_i len n b hf
      split at h
      · rename_i hc
        cases h
        refine ⟨_, (by simp [execOp, ho, hp, hi, indexArr_run hf hc.1 hc.2, Addr_add]; first | done | rfl), ?_⟩
        have := AV.R.cel (g := g) (w := w) e (j + i.toNat * n) b' o' u hb hu hx
        rwa [← Nat.add_assoc] at this
      · cases h
    · cases h
  · cases h

theorem aval_field (hI : Inv N g σ a w) {o : Oper} {t f : Nat} {x : Operand} {r : AV} (ho : o.op = .field t x f) (h : aval P σ (.field t x f) = some r) : Yields P g a w o r := by
  have hv := hI.ev x
  simp only [aval] at h
  split at h
  · rename_i ofs n b cs hf he
    rw [he] at hv
    obtain ⟨vs, rfl', hl, hh⟩ := R_agg hv
    obtain ⟨fs, fl, h1, h2, h3, h4, h5⟩ := fldOf_spec hf
    obtain ⟨v, hr, hR⟩ := part_R (P := P) h4 h5 hl hh h
    refine ⟨v, ?_, hR⟩
    simp [execOp, ho, rfl', Instr.field, run_underlying h1, h2, asAgg, h3, hr]
  · cases h

theorem aval_index (hI : Inv N g σ a w) {o : Oper} {t : Nat} {x ix : Operand} {r : AV} (ho : o.op = .index t x ix) (h : aval P σ (.index t x ix) = some r) : Yields P g a w o r := by
  have hv := hI.ev x
  have hi := hI.ev ix
  simp only [aval] at h
  split at h
  · rename_i cs k i he hei
    rw [he] at hv
    rw [hei] at hi
    have hi := R_sc hi
    obtain ⟨vs, rfl', hl, hh⟩ := R_agg hv
    split at h
    · rename_i len n b hf
      split at h
      · rename_i hc
        obtain ⟨e, hu, hs, hg⟩ := arrOf_spec hf
        obtain ⟨v, hr, hR⟩ := part_R (P := P) hs hg hl hh h
        refine ⟨v, ?_, hR⟩
        simp [execOp, ho, rfl', hi, Instr.index, asIntOf, run_underlying hu, hc.1, hc.2, run_sizeOf hs, hr]
      · cases h
    · cases h
  · rename_i s k i he hei
    rw [he] at hv
    rw [hei] at hi
    have hi := R_sc hi
    have hv := R_sc hv
    split at h
    · rename_i hc
      obtain ⟨h1, h2, h3⟩ := hc
      cases h
      refine ⟨_, ?_, .sc _⟩
      have hlt : i.toNat < s.size := by omega
      have hgt : s[i.toNat]? = some s[i.toNat] := by simp [hlt]
      have : s[i.toNat] = s.data.getD i.toNat 0 := by
        have : i.toNat < s.data.size := hlt
        simp only [Array.getD]; rw [dif_pos this]; rfl
      simp [execOp, ho, hv, hi, Instr.index, asIntOf, run_underlying (isStr_spec h1), h2, hgt, this]
    · cases h
  · cases h
end
end VC
