/- A slice of one's own grows: its token dies, a new one stands for the longer slice. -/
import Derived.Test.YtknllghkpjncoaaVh
set_option linter.unusedVariables false
set_option linter.unusedSimpArgs false
namespace VC
open Go Go.RowKit

section
variable {g g' : Gh} {w w' : World}

theorem HInv.grow {σ : AS} {tk : Nat} {e : TypeId} {sz n' : Nat} {v v' : Value} {xs' : List Value} (h : HInv g σ.H σ.L σ.h σ.nt w)
    (hlive : v.ownBlock = none ∨ ∃ e0, σ.L tk = some e0 ∧ (g.G tk).1 = v ∧ (g.G tk).2.2.2 * (g.G tk).2.2.1 ≤ n' * sz)
    (hown : w'.ownsRow g.B e sz v' n' xs') (hgr : w.grownBy w' v.ownBlock)
    (hcase : v'.ownBlock = none ∨ (∃ k, v'.ownBlock = some k ∧ v.ownBlock = some k) ∨ (v'.ownBlock = some w.heap.size ∧ w.heap.size < w'.heap.size))
    (hold : ∀ k o, v.ownBlock = some k → o < (g.G tk).2.2.2 * (g.G tk).2.2.1 → cellAt w' k o = cellAt w k o) :
    ∃ g', HInv g' σ.H (fun i => if i = σ.nt then some (e, sz) else if i = tk then none else σ.L i) σ.h (σ.nt + 1) w' ∧ Ext g w g' w' ∧ g'.m = σ.nt + 1 ∧ g'.G σ.nt = (v', e, sz, n') ∧
      ∀ k o, v'.ownBlock = some k → g'.M k o → n' * sz ≤ o := by
  have hm := h.m
  have hm2 := h.m2
  let g' : Gh := { g with m := g.m + 1, G := fun i => if i = g.m then (v', e, sz, n') else g.G i,
                          M := fun b o => (v'.ownBlock ≠ some b ∧ g.M b o) ∨ (v'.ownBlock = some b ∧ n' * sz ≤ o) }
  -- the old row's block
  have hv : ∀ k, v.ownBlock = some k → ∃ e0, σ.L tk = some e0 ∧ (g.G tk).1 = v ∧ (g.G tk).2.2.2 * (g.G tk).2.2.1 ≤ n' * sz ∧ g.B ≤ k ∧ k < w.heap.size ∧
      (∀ o, (g.G tk).2.2.2 * (g.G tk).2.2.1 ≤ o → g.M k o) ∧ ∀ id, id < g.n → g.μ id ≠ k := by
    intro k hk
    rcases hlive with h0 | ⟨e0, h1, h2, h3⟩
    · rw [h0] at hk; cases hk
    · have ht := h.tok tk e0 h1
      obtain ⟨xs, hx⟩ := ht.row
      rw [h2] at hx
      obtain ⟨b1, b2⟩ := hx.lt k hk
      obtain ⟨c1, c2⟩ := ht.may k (by rw [h2]; exact hk)
      exact ⟨e0, h1, h2, h3, b1, b2, c1, c2⟩
  have hv'lt : ∀ k, v'.ownBlock = some k → g.B ≤ k ∧ k < w'.heap.size := fun k hk => hown.lt k hk
  have hnew : ∀ k, v'.ownBlock = some k → k < w.heap.size → v.ownBlock = some k := by
    intro k hk hlt
    rcases hcase with h0 | ⟨k', h1, h2⟩ | ⟨h1, _⟩
    · rw [h0] at hk; cases hk
    · rw [h1] at hk; cases hk; exact h2
    · rw [h1] at hk; cases hk; omega
  have hsame : ∀ k, k < w.heap.size → v.ownBlock ≠ some k → w'.heap[k]? = w.heap[k]? := fun k hk hne => hgr.block k hk (fun e => hne e.symm)
  have hk : Ext g w g' w' := by
    refine ⟨rfl, ⟨hgr.os, hgr.tape, hgr.output, hgr.size, fun k hk => ?_⟩, ⟨hgr.size, fun b o hb hnm => ?_, fun b o hb hm' => ?_⟩, Nat.le_refl _, fun _ _ => ⟨rfl, rfl⟩, Nat.le_succ _, fun i hi => ?_, fun b o hb hm => .inl ⟨fun hk => ?_, hm⟩⟩
    · refine hsame k (by have := h.B; omega) (fun hk' => ?_)
      obtain ⟨_, _, _, _, hB, _⟩ := hv k hk'
      omega
    · by_cases hb' : v.ownBlock = some b
      · refine hold b o hb' ?_
        obtain ⟨_, _, _, _, _, _, c1, _⟩ := hv b hb'
        rcases Nat.lt_or_ge o ((g.G tk).2.2.2 * (g.G tk).2.2.1) with hlt | hge
        · exact hlt
        · exact absurd (c1 o hge) hnm
      · exact World.cell?_of_block (w := w) (hsame b hb hb')
    · rcases hm' with ⟨_, h1⟩ | ⟨h1, h2⟩
      · exact h1
      · obtain ⟨_, _, _, h3, _, _, c1, _⟩ := hv b (hnew b h1 hb)
        exact c1 o (by omega)
    · simp only [g']; rw [if_neg (by omega)]
    · have := (hv'lt b hk).1; omega
  have hid : ∀ id, id < g.n → v'.ownBlock ≠ some (g.μ id) := by
    intro id hid hk'
    have h2 := (h.own id hid).2.1
    obtain ⟨_, _, _, _, _, _, _, c2⟩ := hv _ (hnew _ hk' h2)
    exact c2 id hid rfl
  have hid0 : ∀ id, id < g.n → v.ownBlock ≠ some (g.μ id) := by
    intro id hid hk'
    obtain ⟨_, _, _, _, _, _, _, c2⟩ := hv _ hk'
    exact c2 id hid rfl
  refine ⟨g', ⟨?_, h.n, by show g.m + 1 = _; omega, by omega, h.dom, ?_, ?_, h.inj, ?_, ?_⟩, hk, by show g.m + 1 = _; omega, by simp [g', hm], fun k o hk' hM => by
    rcases hM with ⟨h1, _⟩ | ⟨_, h2⟩
    · exact absurd hk' h1
    · exact h2⟩
  · show g.B ≤ _
    have := h.B; have := hgr.size; omega
  · intro id b hb
    have hi : id < g.n := by have := h.dom id b hb; have := h.n; omega
    exact (h.hp id b hb).ext hk hi (hsame _ (h.own id hi).2.1 (hid0 id hi))
  · intro id hi
    obtain ⟨o1, o2, o3⟩ := h.own id hi
    exact ⟨o1, by have := hgr.size; show g.μ id < _; omega, fun o => .inl ⟨hid id hi, o3 o⟩⟩
  · intro b o hm'
    rcases hm' with ⟨_, h1⟩ | ⟨h1, h2⟩
    · have := h.mlt b o h1; have := hgr.size; omega
    · exact (hv'lt b h1).2
  · intro t et ht
    try simp only at ht
    split at ht
    · rename_i he
      cases ht
      subst he
      refine ⟨⟨hm2, by show σ.nt < g.m + 1; omega⟩, by simp [g', ← hm], ?_, ?_, ?_⟩
      · simp only [g', ← hm, if_true]; exact ⟨_, hown⟩
      · simp only [g', ← hm, if_true]
        intro k hk'
        exact ⟨fun o ho => .inr ⟨hk', ho⟩, fun id hi he => hid id hi (by rw [hk', ← he])⟩
      · intro t' et' ht' hne k
        simp only [g', ← hm, if_true]
        intro hk'
        rw [if_neg (by omega)]
        simp only [if_neg hne] at ht'
        split at ht'
        · cases ht'
        · rename_i hne'
          have ht0 := h.tok t' et' ht'
          intro hk2
          obtain ⟨xs, hx⟩ := ht0.row
          have hlt := (hx.lt k hk2).2
          obtain ⟨e0, hL, hG, _⟩ := hv k (hnew k hk' hlt)
          exact ht0.apart tk e0 hL (fun e => hne' e.symm) k hk2 (by rw [hG]; exact hnew k hk' hlt)
    · rename_i hne
      split at ht
      · cases ht
      · rename_i hne'
        have ht0 := h.tok t et ht
        have hlt : ∀ k, (g.G t).1.ownBlock = some k → k < w.heap.size := fun k hk' => by
          obtain ⟨xs, hx⟩ := ht0.row
          exact (hx.lt k hk').2
        have hne2 : ∀ k, (g.G t).1.ownBlock = some k → v.ownBlock ≠ some k := fun k hk' hv' => by
          obtain ⟨e0, hL, hG, _⟩ := hv k hv'
          exact ht0.apart tk e0 hL (fun e => hne' e.symm) k hk' (by rw [hG]; exact hv')
        have hne3 : ∀ k, (g.G t).1.ownBlock = some k → v'.ownBlock ≠ some k := fun k hk' hv' => hne2 k hk' (hnew k hv' (hlt k hk'))
        refine ht0.ext hk (fun k hk' => hsame k (hlt k hk') (hne2 k hk')) (fun k hk' o ho => .inl ⟨hne3 k hk', ho⟩) (fun k _ id h1 h2 => absurd h2 (Nat.not_lt.2 h1)) ?_
        intro t' et' ht' hne4 k hk'
        try simp only at ht'
        split at ht'
        · rename_i he
          subst he
          simp only [g', ← hm, if_true]
          exact hne3 k hk'
        · rename_i hne5
          split at ht'
          · cases ht'
          · simp only [g']
            have := (h.tok t' et' ht').lt.2
            rw [if_neg (by omega)]
            exact ht0.apart t' et' ht' hne4 k hk'
end
end VC
