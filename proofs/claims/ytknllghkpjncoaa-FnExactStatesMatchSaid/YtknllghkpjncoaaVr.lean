/- The walk's words for simp; loops and calls. -/
import Derived.Test.YtknllghkpjncoaaVp
import Derived.KernelRfl
set_option linter.unusedVariables false
namespace VC
open Go Go.RowKit

attribute [simp]   astep aexec aval abuiltin dsts AS.ev AS.T AS.H AS.L AS.put AS.keep AS.start AS.evs AS.parts AS.new AS.newTok AS.kill AS.blk bset number VC.look blook tlook ofConst ofCell trCell   abin aint aun aeqa aeqa2 intsOf aeqs aeqs1 aeqs2 scs vceq kreg AS.real qalloc qbox qastep
  kguard0 qguard0 qstep qexec   kres finR tupOf fin fin1 fin2 ares kalloc kbox kbuild kslice kslice2 kslice3 qslice qslice2 kmake kmake2 kstore kstore1 kstore2 kapp kapp1 kapp2 kappd AV.blk AV.cells AV.one AV.tr Tr.av
  partOf bnd setCells setTr afill afillT chunk trs trss fillTrs allOne Value.oneCell'

section
variable {P : Program} {K : AS → Prop} {Q : Exit → AS → Prop} {σ : AS}
@[simp] theorem then_normal : Ex.then K Q .normal σ = K σ := rfl
@[simp] theorem then_exit {i : Nat} : Ex.then K Q (.exit i) σ = Q (.exit i) σ := rfl
@[simp] theorem then_ret : Ex.then K Q .ret σ = Q .ret σ := rfl
@[simp] theorem block_normal {n : Nat} : Ex.block n Q .normal σ = Q .normal σ := rfl
@[simp] theorem block_exit {n i : Nat} : Ex.block n Q (.exit i) σ = if i = n then Q .normal σ else Q (.exit i) σ := rfl
@[simp] theorem block_ret {n : Nat} : Ex.block n Q .ret σ = Q .ret σ := rfl
@[simp] theorem SQ_normal {res : List ResultVar} {R : AV → AS → Prop} : SQ P res R .normal σ = kres (ares P σ res) R σ := rfl
@[simp] theorem SQ_ret {res : List ResultVar} {R : AV → AS → Prop} : SQ P res R .ret σ = kres (ares P σ res) R σ := rfl
end
section
variable {P : Program} {g : Nat} {op : Op} {d : Option Tmp} {K : AS → Prop} {σ : AS} {A B : AS → Prop}
@[simp high] theorem kguard_tt : kguard P (.sc (.bool true)) g true op d K σ = aexec P op d K (σ.put (some g) (.sc (.bool true))) := by simp [kguard]
@[simp high] theorem kguard_ff : kguard P (.sc (.bool false)) g false op d K σ = aexec P op d K (σ.put (some g) (.sc (.bool false))) := by simp [kguard]
@[simp high] theorem kguard_tf : kguard P (.sc (.bool true)) g false op d K σ = K ((σ.put (some g) (.sc (.bool true))).put d (.tup [])) := by simp [kguard]
@[simp high] theorem kguard_ft : kguard P (.sc (.bool false)) g true op d K σ = K ((σ.put (some g) (.sc (.bool false))).put d (.tup [])) := by simp [kguard]
@[simp high] theorem qguard_tt : qguard P (.sc (.bool true)) g true op d K σ = qexec P op d K (σ.put (some g) (.sc (.bool true))) := by simp [qguard]
@[simp high] theorem qguard_ff : qguard P (.sc (.bool false)) g false op d K σ = qexec P op d K (σ.put (some g) (.sc (.bool false))) := by simp [qguard]
@[simp high] theorem qguard_tf : qguard P (.sc (.bool true)) g false op d K σ = K ((σ.put (some g) (.sc (.bool true))).put d (.tup [])) := by simp [qguard]
@[simp high] theorem qguard_ft : qguard P (.sc (.bool false)) g true op d K σ = K ((σ.put (some g) (.sc (.bool false))).put d (.tup [])) := by simp [qguard]
@[simp high] theorem kcond_t : kcond (.sc (.bool true)) A B σ = A σ := by simp [kcond]
@[simp high] theorem kcond_f : kcond (.sc (.bool false)) A B σ = B σ := by simp [kcond]
end
attribute [simp low] kguard.eq_1 kguard.eq_2 qguard.eq_1 qguard.eq_2 kcond.eq_1
attribute [simp] kput.eq_1 kput.eq_2 aops.eq_1 aops.eq_2 awp.eq_1 awp.eq_2 awp.eq_3 awp.eq_4 awp.eq_5 awp.eq_6 awp.eq_7 awp.eq_8 awp.eq_9 adops.eq_1 adops.eq_2 adops.eq_3

/-- At a round's end: the state is of the loop's form, and its number has fallen. -/
def Rnd {ι : Type} (S : ι → AS) (μ : ι → Nat) (i : ι) (σ : AS) : Prop := ∃ m, m < μ i ∧ ∃ j, σ = S j ∧ μ j = m
theorem Rnd.mk {ι : Type} {S : ι → AS} {μ : ι → Nat} {i : ι} {σ : AS} (j : ι) (h : σ = S j) (hm : μ j < μ i) : Rnd S μ i σ := ⟨_, hm, j, h, rfl⟩

theorem loop {ι : Type} (S : ι → AS) (μ : ι → Nat) (i₀ : ι) {B : (Exit → AS → Prop) → AS → Prop} {Q : Exit → AS → Prop} {σ : AS} (h0 : σ = S i₀) (round : ∀ i, B (Ex.then (Rnd S μ i) Q) (S i)) : aloop B Q σ := by
  refine ⟨fun n σ => ∃ i, σ = S i ∧ μ i = n, μ i₀, ⟨i₀, h0, rfl⟩, fun n σ' ⟨i, h1, h2⟩ => ?_⟩
  subst h1; subst h2
  exact round i

/-- The same, with what is known at each round's head. -/
def RndI {ι : Type} (S : ι → AS) (J : ι → Prop) (μ : ι → Nat) (i : ι) (σ : AS) : Prop := ∃ m, m < μ i ∧ ∃ j, σ = S j ∧ J j ∧ μ j = m
theorem RndI.mk {ι : Type} {S : ι → AS} {J : ι → Prop} {μ : ι → Nat} {i : ι} {σ : AS} (j : ι) (h : σ = S j) (hj : J j) (hm : μ j < μ i) : RndI S J μ i σ := ⟨_, hm, j, h, hj, rfl⟩
theorem loopI {ι : Type} (S : ι → AS) (J : ι → Prop) (μ : ι → Nat) (i₀ : ι) {B : (Exit → AS → Prop) → AS → Prop} {Q : Exit → AS → Prop} {σ : AS} (h0 : σ = S i₀) (hj : J i₀)
    (round : ∀ i, J i → B (Ex.then (RndI S J μ i) Q) (S i)) : aloop B Q σ := by
  refine ⟨fun n σ => ∃ i, σ = S i ∧ J i ∧ μ i = n, μ i₀, ⟨i₀, h0, hj, rfl⟩, fun n σ' ⟨i, h1, h3, h2⟩ => ?_⟩
  subst h1; subst h2
  exact round i h3
@[simp] theorem kput_if {c : Prop} [Decidable c] {x : Option AV} {d : Option Tmp} {K : AS → Prop} {σ : AS} : kput (if c then x else none) d K σ = (c ∧ kput x d K σ) := by
  by_cases h : c <;> simp [h, kput]

section
variable {P : Program} {d : Option Tmp} {K : AS → Prop} {σ : AS}
theorem call0 {f : FuncId} {as : List AV} {r : AV} (hf : isFn P f = true) (h : Pure P f (as.map AV.lend) (· = r)) (hk : K (σ.put d r)) : acall P (.clo f []) as d K σ :=
  ⟨hf, .inl ⟨_, by rw [List.append_nil]; exact h, fun _ hr => by rw [hr]; exact hk⟩⟩
theorem callR {f : FuncId} {as : List AV} {R : AV → Prop} (hf : isFn P f = true) (h : Pure P f (as.map AV.lend) R) (hk : ∀ r, R r → K (σ.put d r)) : acall P (.clo f []) as d K σ :=
  ⟨hf, .inl ⟨_, by rw [List.append_nil]; exact h, hk⟩⟩
theorem callS {f : FuncId} {as : List AV} {R : AV → AS → Prop} (hf : isFn P f = true) (h : Spec P f as σ R) (hk : ∀ r σ', R r σ' → K (({ σ' with t := σ.t } : AS).put d r)) : acall P (.clo f []) as d K σ :=
  ⟨hf, .inr ⟨_, by rw [List.append_nil]; exact h, hk⟩⟩
theorem qcall0 {f : FuncId} {as : List AV} {r : AV} (hf : isFn P f = true) (h : Pure P f (as.map AV.lend) (· = r)) (hk : K (σ.put d r)) : qcall P (.clo f []) as d K σ :=
  ⟨hf, _, by rw [List.append_nil]; exact h, hk⟩
end
end VC
