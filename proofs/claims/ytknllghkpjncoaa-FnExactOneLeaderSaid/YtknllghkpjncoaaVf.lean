/- The quiet operations yield what the walk says: 'aval_sound', the rest. -/
import Derived.Test.YtknllghkpjncoaaVe
set_option linter.unusedVariables false
set_option linter.unusedSimpArgs false
namespace VC
open Go Go.RowKit

section
variable {P : Program} {N : Nat} {g : Gh} {w : World} {σ : AS} {a : Act}

theorem aval_slice (hI : Inv N g σ a w) {o : Oper} {t : Nat} {x : Operand} {lo hi mx : Option Operand} {r : AV} (ho : o.op = .slice t x lo hi mx)
    (h : aval P σ (.slice t x lo hi mx) = some r) : Yields P g a w o r := by
  have hv := hI.ev x
  simp only [aval] at h
  split at h
  · rename_i tk xs he
    rw [he] at hv
    split at h
    · rename_i e' n by_ hh ll hsl hbh hbl
      split at h
      · rename_i hc
        obtain ⟨h0, h1, h2, h3⟩ := hc
        cases h
        obtain ⟨inf, hu, hinf, hsz, _⟩ := slcOf_spec hsl
        obtain ⟨A, m, c, rfl', hm, hmc, hA⟩ := Tr_sl (R_sl hv)
        subst hm
        have hb := sliceBounds_run (P := P) (w := w) (b := true) (cap := c) hI hbh hbl h0 h1 h2 hmc
        have hrun : (execOp a.eval o).run P w = .ok (.value (.slice (if c = ll.toNat then A else A.map (·.add (ll.toNat * n))) (hh.toNat - ll.toNat) (c - ll.toNat))) w := by
          simp [execOp, ho, rfl', Instr.sliceAt, run_underlying hu, Instr.slice, hb, Go.sizeOf, typeInfo, hinf, hsz]
        refine ⟨_, hrun, ?_⟩
        have hln : ((xs.take hh.toNat).drop ll.toNat).length = hh.toNat - ll.toNat := by simp; omega
        refine .sl 0 _ _ ?_ (by intro h; omega) (by intro h; omega)
        rcases hA with ⟨rfl, rfl, rfl⟩ | ⟨a, rfl, rfl⟩ | ⟨b, o', sz, u, rfl, hz, hb', huu, hxx⟩
        · have : hh.toNat - ll.toNat = 0 := by simp at h2; omega
          rw [this]
          simp
          exact .nil
        · have : hh.toNat - ll.toNat = 0 := by simp at h2; omega
          rw [this]
          simp only [List.take_nil, List.drop_nil, Option.map_some]
          split <;> exact .emp _ _
        · by_cases hcl : c = ll.toNat
          · rw [if_pos hcl]
            have h4 : hh.toNat - ll.toNat = 0 := by omega
            have h5 : ((xs.take hh.toNat).drop ll.toNat) = [] := List.eq_nil_of_length_eq_zero (by rw [hln, h4])
            rw [h4, h5]
            exact .sl [] b o' _ 0 (fun _ _ => undef) (by simp) (by simp) hb' (by simp) (by simp)
          · rw [if_neg hcl]
            simp only [Option.map_some, Addr_add]
            by_cases hxs : xs = []
            · subst hxs
              have h4 : hh.toNat - ll.toNat = 0 := by simp at h2; omega
              rw [h4]
              simp
              exact .sl [] b _ _ 0 (fun _ _ => undef) (by simp) (by simp) hb' (by simp) (by simp)
            · obtain ⟨e, xs', rfl⟩ := List.exists_cons_of_ne_nil hxs
              have hszn : n = sz := by rw [← hz 0 e (by simp), h3 e (by simp)]
              subst hszn
              exact sub_R (n := c) hz hb' huu hxx (by omega) (by omega) (by omega)
      · cases h
    · cases h
  · rename_i s he
    rw [he] at hv
    have hv := R_sc hv
    split at h
    · rename_i hh ll hst hbh hbl
      split at h
      · rename_i hc
        obtain ⟨h0, h1, h2⟩ := hc
        cases h
        have hb := sliceBounds_run (P := P) (w := w) (b := false) (cap := s.size) hI hbh hbl h0 h1 h2 (Nat.le_refl _)
        refine ⟨_, ?_, .sc _⟩
        simp [execOp, ho, hv, Instr.sliceAt, run_underlying (isStr_spec hst), Instr.slice, hb]
      · cases h
    · cases h
  · cases h

theorem aval_builtin (hI : Inv N g σ a w) {o : Oper} {b : Builtin} {as : Array Operand} {ts : Array TypeId} {r : AV} (ho : o.op = .call { callee := .builtin b, args := as, argTypes := ts })
    (h : abuiltin P σ b as.toList ts.toList = some r) : Yields P g a w o r := by
  obtain ⟨as⟩ := as
  obtain ⟨ts⟩ := ts
  simp only at h
  unfold abuiltin at h
  split at h
  · rename_i x t
    have hv := hI.ev x
    split at h
    · rename_i tk xs he
      rw [he] at hv
      obtain ⟨A, m, c, rfl', hm, hmc, hA⟩ := Tr_sl (R_sl hv)
      split at h
      · rename_i hsl
        cases h
        obtain ⟨⟨e, n, b⟩, hsl⟩ := Option.isSome_iff_exists.1 hsl
        obtain ⟨inf, hu, _⟩ := slcOf_spec hsl
        subst hm
        exact ⟨_, by simp [execOp, ho, resolve, invoke, builtin, Builtin.len_, rfl', run_underlying hu, goInt], .sc _⟩
      · cases h
    · rename_i id off n he
      rw [he] at hv
      obtain ⟨c, hp, hlc, hid⟩ := R_arr hv
      split at h
      · rename_i hsl
        cases h
        obtain ⟨⟨e, n', b⟩, hsl⟩ := Option.isSome_iff_exists.1 hsl
        obtain ⟨inf, hu, _⟩ := slcOf_spec hsl
        exact ⟨_, by simp [execOp, ho, resolve, invoke, builtin, Builtin.len_, hp, run_underlying hu, goInt], .sc _⟩
      · cases h
    · rename_i s he
      rw [he] at hv
      have hv := R_sc hv
      split at h
      · rename_i hst
        cases h
        exact ⟨_, by simp [execOp, ho, resolve, invoke, builtin, Builtin.len_, hv, run_underlying (isStr_spec hst), goInt], .sc _⟩
      · cases h
    · cases h
  · rename_i y z
    have hy := hI.ev y
    have hz := hI.ev z
    split at h
    · rename_i k p k' q he1 he2
      rw [he1] at hy
      rw [he2] at hz
      have hy := R_sc hy
      have hz := R_sc hz
      cases h
      exact ⟨_, by simp [execOp, ho, resolve, invoke, builtin, Builtin.min_, Builtin.min2, hy, hz], .sc _⟩
    · cases h
  · rename_i y z
    have hy := hI.ev y
    have hz := hI.ev z
    split at h
    · rename_i k p k' q he1 he2
      rw [he1] at hy
      rw [he2] at hz
      have hy := R_sc hy
      have hz := R_sc hz
      cases h
      exact ⟨_, by simp [execOp, ho, resolve, invoke, builtin, Builtin.max_, Builtin.max2, hy, hz], .sc _⟩
    · cases h
  · cases h

/-- What a quiet operation yields is what the walk says. -/
theorem aval_sound (hI : Inv N g σ a w) {o : Oper} {x : AV} (h : aval P σ o.op = some x) : Yields P g a w o x := by
  obtain ⟨dst, op, ty, pos, after, guard⟩ := o
  unfold aval at h
  simp only at h
  split at h
  · cases h; exact ⟨_, by simp [execOp], hI.ev _⟩
  · cases h; exact ⟨_, by simp [execOp], hI.ev _⟩
  · rename_i c y z
    have hc := hI.ev c
    split at h
    · rename_i b he
      rw [he] at hc
      have hc := R_sc hc
      cases h
      refine ⟨if b = true then a.eval y else a.eval z, by simp [execOp, hc, asBool], ?_⟩
      split
      · exact hI.ev y
      · exact hI.ev z
    · cases h
  · rename_i t ad
    exact aval_load hI (o := ⟨dst, .load t ad, ty, pos, after, guard⟩) rfl (by simpa only [aval] using h)
  · rename_i y
    have hv := hI.ev y
    split at h
    · rename_i id j he
      cases h
      rw [he] at hv
      have := (R_ptr hv).1
      exact ⟨a.eval y, by simp [execOp, this], hv⟩
    · rename_i id i j he
      cases h
      rw [he] at hv
      have := (R_pel hv).1
      exact ⟨a.eval y, by simp [execOp, this], hv⟩
    · rename_i e j he
      cases h
      rw [he] at hv
      obtain ⟨_, _, _, this, _⟩ := R_cel hv
      exact ⟨a.eval y, by simp [execOp, this], hv⟩
    · cases h
  · rename_i op t y z yt
    have hy := hI.ev y
    have hz := hI.ev z
    split at h
    · rename_i u v he1 he2
      rw [he1] at hy
      rw [he2] at hz
      have hy := R_sc hy
      have hz := R_sc hz
      simp only [Option.map_eq_some_iff] at h
      obtain ⟨r, hr, rfl⟩ := h
      refine ⟨r, ?_, .sc _⟩
      have := abin_run hr y z w
      simp only [execOp, hy, hz, Sem.run_bind] at this ⊢
      rw [this]
      simp
    · rename_i as bs he1 he2
      rw [he1] at hy
      rw [he2] at hz
      obtain ⟨vs, hvs, hl, hh⟩ := R_agg hy
      obtain ⟨us, hus, hl', hh'⟩ := R_agg hz
      obtain ⟨b, rfl, hr⟩ := aeqa_run h y z hl hh hl' hh'
      refine ⟨_, ?_, .sc _⟩
      simp only [execOp, hvs, hus, Sem.run_bind] at hr ⊢
      rw [hr]
      simp
    · cases h
  · rename_i op t y
    have hy := hI.ev y
    split at h
    · rename_i u he1
      rw [he1] at hy
      have hy := R_sc hy
      simp only [Option.map_eq_some_iff] at h
      obtain ⟨r, hr, rfl⟩ := h
      exact ⟨r, by simp [execOp, hy, aun_run hr], .sc _⟩
    · cases h
  · rename_i s d y
    have hy := hI.ev y
    split at h
    · rename_i k0 k k' n hk0 hk he1
      rw [he1] at hy
      have hy := R_sc hy
      cases h
      exact ⟨_, by simp [execOp, hy, convert, run_underlying (isInt_spec hk), run_underlying (isInt_spec hk0), Conv.intToInt], .sc _⟩
    · cases h
  · rename_i s y f
    exact aval_fieldAddr hI (o := ⟨dst, .fieldAddr s y f, ty, pos, after, guard⟩) rfl (by simpa only [aval] using h)
  · rename_i t y ix
    exact aval_indexAddr hI (o := ⟨dst, .indexAddr t y ix, ty, pos, after, guard⟩) rfl (by simpa only [aval] using h)
  · rename_i t y f
    exact aval_field hI (o := ⟨dst, .field t y f, ty, pos, after, guard⟩) rfl (by simpa only [aval] using h)
  · rename_i t y ix
    exact aval_index hI (o := ⟨dst, .index t y ix, ty, pos, after, guard⟩) rfl (by simpa only [aval] using h)
  · rename_i t y lo hi mx
    exact aval_slice hI (o := ⟨dst, .slice t y lo hi mx, ty, pos, after, guard⟩) rfl (by simpa only [aval] using h)
  · rename_i y i
    have hy := hI.ev y
    split at h
    · rename_i vs he
      rw [he] at hy
      obtain ⟨us, hus, hl, hh⟩ := R_tup hy
      have hlt : i < us.length := by
        have := (List.getElem?_eq_some_iff.1 h).1
        omega
      refine ⟨us[i], by simp [execOp, hus, Instr.extract, List.getElem?_eq_getElem hlt], ?_⟩
      exact hh i x _ h (List.getElem?_eq_getElem hlt)
    · cases h
  · rename_i b as ts
    exact aval_builtin hI (o := ⟨dst, _, ty, pos, after, guard⟩) rfl h
  · cases h
end
end VC
