/- The quiet operations yield what the walk says: 'aval_sound'. -/
import Derived.Test.YtknllghkpjncoaaVc
import Derived.Laws.Small
import Derived.Laws.StructEq
set_option linter.unusedVariables false
namespace VC
open Go Go.RowKit

theorem Addr_add (b o n : Nat) : (⟨b, o, none⟩ : Addr).add n = ⟨b, o + n, none⟩ := by unfold Addr.add; split <;> simp_all

section
variable {P : Program} {g : Gh} {w : World}

theorem beq_dec (a b : Int) : (a == b) = decide (a = b) := by
  by_cases h : a = b <;> simp [h]

theorem aint_run {op : BinOp} {k : IntKind} {a b : Int} {v : Value} (h : aint op k a b = some v) (t : TypeId) (hop : op ≠ .shl ∧ op ≠ .shr) (w : World) :
    (binOp op t (.int k a) (.int k b)).run P w = .ok v w := by
  cases op <;> simp only [aint] at h <;> (try (split at h)) <;> simp_all [binOp, Op.intArith, Op.intDiv, Op.intBits, Op.intCmp] <;>
    (subst h; simp [bne, beq_dec, iand, ior, ixor, iandn])

theorem eqGuard_int (op : BinOp) (t : TypeId) (x y : Operand) (k k' : IntKind) (a b : Int) (w : World) : (eqGuard op t x y (.int k a) (.int k' b)).run P w = .ok () w := by
  unfold eqGuard; split <;> simp
theorem eqGuard_bool (op : BinOp) (t : TypeId) (x y : Operand) (a b : Bool) (w : World) : (eqGuard op t x y (.bool a) (.bool b)).run P w = .ok () w := by
  unfold eqGuard; split <;> simp
theorem eqGuard_str (op : BinOp) (t : TypeId) (x y : Operand) (a b : ByteArray) (w : World) : (eqGuard op t x y (.string a) (.string b)).run P w = .ok () w := by
  unfold eqGuard; split <;> simp

theorem str_beq (a b : ByteArray) : (a.toList == b.toList) = decide (a = b) := by
  have h := run_equalIn_string (P := default) (w := default) 0 0 a b
  by_cases e : a = b
  · simp [e]
  · have : ¬ a.toList = b.toList := fun h' => e (ByteArray.ext (by
      have h1 := h'
      simpa [← Array.toList_inj, ByteArray.toList_eq] using h1))
    simp [e, this]

theorem abin_run {op : BinOp} {t : TypeId} {a b v : Value} (h : abin P op t a b = some v) (x y : Operand) (w : World) :
    (do eqGuard op t x y a b; binOp op t a b : Sem Value).run P w = .ok v w := by
  unfold abin at h
  split at h
  · split at h
    · cases h
    · cases h
      simp [eqGuard_int, binOp, Op.shift, *]
  · split at h
    · cases h
    · cases h
      simp [eqGuard_int, binOp, Op.shift, *]
  · rename_i op k a k' b h1 h2
    split at h
    · subst k'
      simp only [Sem.run_bind, eqGuard_int, Result.andThen_ok]
      exact aint_run h t ⟨by rintro rfl; simp [aint] at h, by rintro rfl; simp [aint] at h⟩ w
    · cases h
  · split at h
    · rename_i hu
      cases h
      simp only [Sem.run_bind, eqGuard_bool, Result.andThen_ok]
      simp only [binOp, Sem.run_bind, run_equal_bool w t _ _ (isBoo_spec hu)]
      simp
    · cases h
  · split at h
    · rename_i hu
      cases h
      simp only [Sem.run_bind, eqGuard_bool, Result.andThen_ok]
      simp only [binOp, Sem.run_bind, run_equal_bool w t _ _ (isBoo_spec hu)]
      simp [bne]
    · cases h
  · split at h
    · rename_i hs
      cases h
      simp only [Sem.run_bind, eqGuard_str, Result.andThen_ok, binOp, Op.stringOp]
      rw [if_neg (by rw [show IntKind.i64.max = 9223372036854775807 from by decide]; omega)]
      simp
    · cases h
  · cases h
    simp [eqGuard_str, binOp, Op.stringOp, str_beq]
  · cases h
    simp [eqGuard_str, binOp, Op.stringOp, str_beq]
  · cases h

theorem aun_run {op : UnOp} {a v : Value} (h : aun op a = some v) (w : World) : (Op.unary op a).run P w = .ok v w := by
  unfold aun at h
  split at h <;> cases h <;> simp [Op.unary, Op.intArith]

theorem bnd_spec {N : Nat} {σ : AS} {a : Act} (hI : Inv N g σ a w) {x : Option Operand} {d : Nat} {n : Int} (h : bnd (x.map σ.ev) d = some n) :
    (x = none ∧ n = d) ∨ ∃ y k, x = some y ∧ a.eval y = .int k n := by
  cases x with
  | none => left; simp [bnd] at h; exact ⟨rfl, h.symm⟩
  | some y =>
    right
    have hy := hI.ev y
    simp only [bnd, Option.map_some] at h
    split at h
    · cases ‹some _ = none›
    · rename_i he
      cases h
      simp only [Option.some.injEq] at he
      rw [he] at hy
      exact ⟨y, _, rfl, R_sc hy⟩
    · cases h

theorem sliceBounds_run {N : Nat} {σ : AS} {a : Act} (hI : Inv N g σ a w) {hi lo : Option Operand} {b : Bool} {len cap : Nat} {h l : Int}
    (hh : bnd (hi.map σ.ev) len = some h) (hl : bnd (lo.map σ.ev) 0 = some l) (h0 : 0 ≤ l) (h1 : l ≤ h) (h2 : h ≤ len) (h3 : len ≤ cap) :
    (Instr.sliceBounds b len cap (lo.map a.eval) (hi.map a.eval) none).run P w = .ok (l.toNat, h.toNat, cap) w := by
  have e1 : ∀ (c : BoundsCode) (k : IntKind) (y : Nat) (i : Int), 0 ≤ i → i ≤ y → (Instr.sliceBound (.int k i) y c).run P w = .ok i.toNat w := by
    intro c k y i hi0 hi1
    simp [Instr.sliceBound, asIntOf, hi0, hi1]
  rcases bnd_spec hI hh with ⟨rfl, rfl⟩ | ⟨y, k, rfl, hy⟩ <;> rcases bnd_spec hI hl with ⟨rfl, rfl⟩ | ⟨z, k', rfl, hz⟩
  · simp [Instr.sliceBounds]
  · simp only [Instr.sliceBounds, Option.map_none, Option.map_some, hz, Sem.run_bind, Sem.run_pure, Result.andThen_ok]
    rw [e1 _ _ _ _ h0 (by omega)]
    simp
  · simp only [Instr.sliceBounds, Option.map_none, Option.map_some, hy, Sem.run_bind, Sem.run_pure, Result.andThen_ok]
    rw [e1 _ _ _ _ (by omega) (by omega)]
    simp
  · simp only [Instr.sliceBounds, Option.map_none, Option.map_some, hy, hz, Sem.run_bind, Sem.run_pure, Result.andThen_ok]
    rw [e1 _ _ _ _ (by omega) (by omega)]
    simp only [Result.andThen_ok]
    rw [e1 _ _ _ _ h0 (by omega)]
    simp

/-- A part of a slice. -/
theorem sub_R {xs : List (List Tr)} {b o n c l h sz : Nat} {u : Nat → Nat → Value}
    (hz : ∀ (i : Nat) (e : List Tr), xs[i]? = some e → e.length = sz) (hb : b < w.heap.size)
    (hu : ∀ (i : Nat) (e : List Tr) (j : Nat) (x : Tr), xs[i]? = some e → e[j]? = some x → cellAt w b (o + i * sz + j) = some (u i j) ∧ ¬ g.M b (o + i * sz + j))
    (hx : ∀ (i : Nat) (e : List Tr) (j : Nat) (x : Tr), xs[i]? = some e → e[j]? = some x → Tr.R g.M w x (u i j))
    (h1 : l ≤ h) (h2 : h ≤ xs.length) (hc : h - l ≤ c) :
    Tr.R g.M w (.sl ((xs.take h).drop l)) (.slice (some ⟨b, o + l * sz, none⟩) (h - l) c) := by
  have key : ∀ (i : Nat) (e : List Tr), ((xs.take h).drop l)[i]? = some e → xs[l + i]? = some e := by
    intro i e he
    rw [List.getElem?_drop, List.getElem?_take] at he
    split at he
    · exact he
    · cases he
  have hl : ((xs.take h).drop l).length = h - l := by simp; omega
  have ea : ∀ i j, o + l * sz + i * sz + j = o + (l + i) * sz + j := by intro i j; rw [Nat.add_mul]; omega
  have := Tr.R.sl (M := g.M) (w := w) ((xs.take h).drop l) b (o + l * sz) c sz (fun i j => u (l + i) j) (by omega)
    (fun i e he => hz _ e (key i e he)) hb
    (fun i e j x he hx' => by rw [ea]; exact hu _ e j x (key i e he) hx')
    (fun i e j x he hx' => hx _ e j x (key i e he) hx')
  rwa [hl] at this
end
end VC
