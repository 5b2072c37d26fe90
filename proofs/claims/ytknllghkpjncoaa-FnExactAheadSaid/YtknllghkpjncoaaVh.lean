/- How what the walk says lives on while memory grows or is written. -/
import Derived.Test.YtknllghkpjncoaaVg
import Derived.Lib.AppendStr
set_option linter.unusedVariables false
set_option linter.unusedSimpArgs false
namespace VC
open Go Go.RowKit

section
variable {g g' : Gh} {w w' : World}

theorem BlkR.ext {id : Nat} {b : Blk} (k : Ext g w g' w') (hid : id < g.n) (hh : w'.heap[g.μ id]? = w.heap[g.μ id]?) (h : BlkR g w id b) : BlkR g' w' id b := by
  obtain ⟨k1, k2⟩ := k.μ id hid
  cases b with
  | box cs =>
    obtain ⟨c, ty, h1, h2, h3⟩ := h
    refine ⟨c, ty, by rw [k1, hh]; exact h1, h2, fun j x hx => ?_⟩
    obtain ⟨v, h4, h5⟩ := h3 j x hx
    exact ⟨v, h4, h5.ext k⟩
  | row sz xs =>
    obtain ⟨h0, hz, c, ty, h1, h2, h3⟩ := h
    refine ⟨k2.trans h0, hz, c, ty, by rw [k1, hh]; exact h1, h2, fun i e j x he hx => ?_⟩
    obtain ⟨v, h4, h5⟩ := h3 i e j x he hx
    exact ⟨v, h4, h5.keep k.keep⟩

theorem TokR.ext {L L' : Nat → Option (TypeId × Nat)} {tk : Nat} {e : TypeId × Nat} (k : Ext g w g' w') (hrow : ∀ k, (g.G tk).1.ownBlock = some k → w'.heap[k]? = w.heap[k]?)
    (hM : ∀ k, (g.G tk).1.ownBlock = some k → ∀ o, g.M k o → g'.M k o)
    (hn : ∀ k, (g.G tk).1.ownBlock = some k → ∀ id, g.n ≤ id → id < g'.n → g'.μ id ≠ k)
    (hap : ∀ tk' e', L' tk' = some e' → tk' ≠ tk → ∀ k, (g.G tk).1.ownBlock = some k → (g'.G tk').1.ownBlock ≠ some k)
    (h : TokR g w L tk e) : TokR g' w' L' tk e := by
  have hG := k.G tk h.lt.2
  refine ⟨⟨h.lt.1, Nat.lt_of_lt_of_le h.lt.2 k.m⟩, by rw [hG]; exact h.size, ?_, ?_, ?_⟩
  · obtain ⟨xs, hx⟩ := h.row
    rw [hG, k.B]
    refine ⟨xs, ⟨hx.1, ?_⟩⟩
    rcases hx.2 with hn' | ⟨b, cap, cur, hv, hb, hg, rest⟩
    · exact .inl hn'
    · exact .inr ⟨b, cap, cur, hv, hb, by rw [hrow b (by rw [hv]; rfl)]; exact hg, rest⟩
  · rw [hG]
    intro b hb
    obtain ⟨h1, h2⟩ := h.may b hb
    refine ⟨fun o ho => hM b hb o (h1 o ho), fun id hid => ?_⟩
    by_cases hlt : id < g.n
    · rw [(k.μ id hlt).1]; exact h2 id hlt
    · exact hn b hb id (by omega) hid
  · rw [hG]; exact hap

/-- A block of one's own behind everything: a box. -/
theorem HInv.newBlk {σ : AS} {blk : Blk} (sz : Nat) (c : Array Value) (ty : TypeId) (h : HInv g σ.H σ.L σ.h σ.nt w)
    (hb : ∀ g', Ext g w g' (w.alloc (.cells c ty)) → (w.alloc (.cells c ty)).heap[g'.μ σ.h]? = some (.cells c ty (0, 0)) → g'.σ σ.h = sz → BlkR g' (w.alloc (.cells c ty)) σ.h blk) :
    ∃ g', HInv g' (σ.new blk).H (σ.new blk).L (σ.new blk).h (σ.new blk).nt (w.alloc (.cells c ty)) ∧
      Ext g w g' (w.alloc (.cells c ty)) ∧ g'.n = σ.h + 1 ∧ g'.μ σ.h = w.heap.size ∧ g'.σ σ.h = sz := by
  have hn := h.n
  let g' : Gh := { g with n := g.n + 1, μ := fun i => if i = g.n then w.heap.size else g.μ i, σ := fun i => if i = g.n then sz else g.σ i, M := fun b o => g.M b o ∨ b = w.heap.size }
  have hk : Ext g w g' (w.alloc (.cells c ty)) := by
    refine ⟨rfl, (Below.refl _ _).alloc h.B _, ⟨by simp, fun b o hb _ => ?_, fun b o hb hm => ?_⟩, Nat.le_succ _, fun i hi => ?_, Nat.le_refl _, fun _ _ => rfl, fun b o _ hm => .inl hm⟩
    · exact World.cell?_of_block (w := w) (heap_alloc_old w _ b hb)
    · rcases hm with hm | hm
      · exact hm
      · omega
    · simp only [g']; rw [if_neg (by omega), if_neg (by omega)]; exact ⟨rfl, rfl⟩
  refine ⟨g', ?_, hk, by show g.n + 1 = _; omega, by simp [g', hn], by simp [g', hn]⟩
  refine ⟨?_, by show g.n + 1 = _; simp [AS.new, hn], h.m, h.m2, ?_, ?_, ?_, ?_, ?_, ?_⟩
  · show g.B ≤ _; simp; have := h.B; omega
  · intro id b hb'
    simp only [AS.new, AS.H, blook] at hb' ⊢
    split at hb'
    · omega
    · have := h.dom id b hb'; omega
  · intro id b hb'
    simp only [AS.new, AS.H, blook] at hb'
    split at hb'
    · rename_i he
      cases hb'
      subst he
      refine hb g' hk ?_ (by simp [g', hn])
      simp only [g', ← hn, if_true]
      exact heap_alloc_new w _
    · have hid := h.dom id b hb'
      exact (h.hp id b hb').ext hk (by omega) (heap_alloc_old w _ _ ((h.own id (by omega)).2.1))
  · intro id hid
    have hid' : id < g.n + 1 := hid
    by_cases he : id = g.n
    · subst he
      simp only [g', if_true]
      exact ⟨h.B, by simp, fun o => by simp⟩
    · obtain ⟨h1, h2, h3⟩ := h.own id (by omega)
      simp only [g', if_neg he]
      exact ⟨h1, by simp; omega, fun o => .inl (h3 o)⟩
  · intro i j hi hj hij
    have hi' : i < g.n + 1 := hi
    have hj' : j < g.n + 1 := hj
    simp only [g'] at hij
    by_cases hi2 : i = g.n <;> by_cases hj2 : j = g.n
    · omega
    · rw [if_pos hi2, if_neg hj2] at hij
      have := (h.own j (by omega)).2.1
      omega
    · rw [if_neg hi2, if_pos hj2] at hij
      have := (h.own i (by omega)).2.1
      omega
    · rw [if_neg hi2, if_neg hj2] at hij
      exact h.inj i j (by omega) (by omega) hij
  · intro b o hm
    rcases hm with hm | hm
    · have := h.mlt b o hm; simp; omega
    · simp [hm]
  · intro tk e htk
    have ht := h.tok tk e htk
    have hlt : ∀ k, (g.G tk).1.ownBlock = some k → k < w.heap.size := fun k hk => by
      obtain ⟨xs, hx⟩ := ht.row
      exact (hx.lt k hk).2
    refine ht.ext hk (fun k hk => heap_alloc_old w _ k (hlt k hk)) (fun k hk o ho => .inl ho) (fun k hk id h1 h2 => ?_) ht.apart
    have h2' : id < g.n + 1 := h2
    have : id = g.n := by omega
    simp only [g', this, if_true]
    have := hlt k hk
    omega

theorem HInv.newBox {σ : AS} {cs : List AV} {vs : List Value} (ty : TypeId) (h : HInv g σ.H σ.L σ.h σ.nt w) (hl : cs.length = vs.length)
    (hR : ∀ (j : Nat) (x : AV) (v : Value), cs[j]? = some x → vs[j]? = some v → AV.R g w x v) :
    ∃ g', HInv g' (σ.new (.box cs)).H (σ.new (.box cs)).L (σ.new (.box cs)).h (σ.new (.box cs)).nt (w.alloc (.cells vs.toArray ty)) ∧
      Ext g w g' (w.alloc (.cells vs.toArray ty)) ∧ g'.n = σ.h + 1 ∧ g'.μ σ.h = w.heap.size := by
  obtain ⟨g', h1, h2, h3, h4, _⟩ := h.newBlk (blk := .box cs) 0 vs.toArray ty (fun g' hk hh _ => ⟨vs.toArray, ty, hh, by simp [hl], fun j x hx => by
    have hj : j < vs.length := by rw [← hl]; exact (List.getElem?_eq_some_iff.1 hx).1
    exact ⟨vs[j], by simp [hj], (hR j x _ hx (List.getElem?_eq_getElem hj)).ext hk⟩⟩)
  exact ⟨g', h1, h2, h3, h4⟩

/-- A block of one's own is written. -/
theorem HInv.write {σ : AS} {id : Nat} {blk : Blk} {c c' : Array Value} {ty : TypeId} (h : HInv g σ.H σ.L σ.h σ.nt w) (hid : id < g.n)
    (hc : w.heap[g.μ id]? = some (.cells c ty (0, 0)))
    (hb : Ext g w g (w.setRow (g.μ id) c') → (w.setRow (g.μ id) c').heap[g.μ id]? = some (.cells c' ty (0, 0)) → BlkR g (w.setRow (g.μ id) c') id blk) :
    HInv g (σ.blk id blk).H (σ.blk id blk).L (σ.blk id blk).h (σ.blk id blk).nt (w.setRow (g.μ id) c') ∧ Ext g w g (w.setRow (g.μ id) c') := by
  obtain ⟨o1, o2, o3⟩ := h.own id hid
  have hsz : (w.setRow (g.μ id) c').heap.size = w.heap.size := by simp
  have hk : Ext g w g (w.setRow (g.μ id) c') := by
    refine ⟨rfl, ⟨rfl, rfl, rfl, by omega, fun k hk => setRow_other w (g.μ id) k _ (by omega)⟩, ⟨by omega, fun b o hb' hm => ?_, fun _ _ _ h => h⟩, Nat.le_refl _, fun _ _ => ⟨rfl, rfl⟩, Nat.le_refl _, fun _ _ => rfl, fun _ _ _ h => h⟩
    have : b ≠ g.μ id := fun e => hm (e ▸ o3 o)
    exact World.cell?_of_block (w := w) (setRow_other w (g.μ id) b _ this)
  refine ⟨⟨by rw [hsz]; exact h.B, h.n, h.m, h.m2, ?_, ?_, ?_, h.inj, ?_, ?_⟩, hk⟩
  · intro i b hb'
    simp only [AS.blk, AS.H, blook_bset] at hb' ⊢
    split at hb'
    · have := h.n; omega
    · exact h.dom i b hb'
  · intro i b hb'
    simp only [AS.blk, AS.H, blook_bset] at hb'
    split at hb'
    · rename_i he
      cases hb'
      subst he
      exact hb hk (setRow_heap w _ c c' ty _ hc)
    · rename_i hne
      have hi := h.dom i b hb'
      have hi' : i < g.n := by have := h.n; omega
      exact (h.hp i b hb').ext hk hi' (setRow_other w _ _ _ (fun e => hne (h.inj i id hi' hid e)))
  · intro i hi
    rw [hsz]
    exact h.own i hi
  · intro b o hm
    rw [hsz]
    exact h.mlt b o hm
  · intro tk e htk
    have ht := h.tok tk e htk
    exact ht.ext hk (fun k hk' => setRow_other w _ _ _ (fun e => (ht.may k hk').2 id hid e.symm)) (fun _ _ _ h => h) (fun k _ i h1 h2 => by omega) ht.apart
end
end VC
