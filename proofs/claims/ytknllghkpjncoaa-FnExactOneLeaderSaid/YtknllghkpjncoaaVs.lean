/- From a reading to trees: what an argument's reading tells of its cells, and of all that hangs on them. -/
import Derived.Test.YtknllghkpjncoaaVr
import Derived.ChangeArms
import Derived.DataReads
import GoSem.ClaimJoined
set_option linter.unusedVariables false
namespace VC
open Go Go.RowKit

def Nay : May := fun _ _ => False
/-- What a reading at a type tells. -/
def Rd {α : Type} (P : Program) (w : World) (t : TypeId) (g : α → List Tr) (Ok : α → Prop) : Prop :=
  ∀ (H : Type) (enc : TypeId × Value → H) (base fuel : Nat) (sp : Nat → Bool) (cs : List Value) (d : DataW H) (ps : List MemPlace),
    DataW.trod enc P w base sp true fuel t cs = some (d, ps) → (∀ x ∈ d.weights P t, x ≤ reachBytes) →
    ∃ a, Ok a ∧ (g a).length = cs.length ∧ ∀ (j : Nat) (tr : Tr) (v : Value), (g a)[j]? = some tr → cs[j]? = some v → Tr.R Nay w tr v
/-- The same for a struct's fields, from a cell on. -/
def RdS {α : Type} (P : Program) (w : World) (fs : List Field) (o : Nat) (g : α → List Tr) (Ok : α → Prop) : Prop :=
  ∀ (H : Type) (enc : TypeId × Value → H) (base fuel : Nat) (sp : Nat → Bool) (cs : List Value) (xs : List (DataW H × List MemPlace)), xs.length = fs.length →
    (∀ (i : Nat) (f : Field), fs[i]? = some f → DataW.trod enc P w base sp true fuel f.type ((cs.drop f.offset).take (P.cellsOf f.type)) = xs[i]?) →
    (∀ x ∈ DataW.weightsEach P (fs.map (·.type)) (xs.map (·.1)), x ≤ reachBytes) → o + (fs.map fun f => P.cellsOf f.type).sum ≤ cs.length →
    ∃ a, Ok a ∧ (g a).length = (fs.map fun f => P.cellsOf f.type).sum ∧ ∀ (j : Nat) (tr : Tr) (v : Value), (g a)[j]? = some tr → cs[o + j]? = some v → Tr.R Nay w tr v

section
variable {P : Program} {w : World} {t e : TypeId} {α β : Type}
theorem Rd.map {g : α → List Tr} {Ok : α → Prop} {g' : β → List Tr} {Ok' : β → Prop} (h : Rd P w t g Ok) (f : α → β) (hg : ∀ a, g' (f a) = g a) (ho : ∀ a, Ok a → Ok' (f a)) : Rd P w t g' Ok' := by
  intro H enc base fuel sp cs d ps h1 h2
  obtain ⟨a, k1, k2, k3⟩ := h H enc base fuel sp cs d ps h1 h2
  exact ⟨f a, ho a k1, by rw [hg]; exact k2, by rw [hg]; exact k3⟩

theorem one_R {tr : Tr} {v : Value} (h : Tr.R Nay w tr v) : ∀ (j : Nat) (tr' : Tr) (v' : Value), [tr][j]? = some tr' → [v][j]? = some v' → Tr.R Nay w tr' v' := by
  intro j tr' v' h1 h2
  cases j with
  | zero => cases h1; cases h2; exact h
  | succ j => cases h1

theorem rd_int {k : IntKind} (ht : P.underlying t = some (.int k)) : Rd P w t (fun n : Int => [.sc (.int k n)]) (fun n => (Lit.int k n).wf = true) := by
  intro H enc base fuel sp cs d ps h _
  obtain ⟨n, rfl, _, hw⟩ := DataW.trod_int ht h
  exact ⟨n, hw, rfl, one_R (.sc _ rfl)⟩
theorem rd_bool (ht : P.underlying t = some .bool) : Rd P w t (fun b : Bool => [.sc (.bool b)]) (fun _ => True) := by
  intro H enc base fuel sp cs d ps h _
  obtain ⟨n, rfl, _⟩ := DataW.trod_bool ht h
  exact ⟨n, trivial, rfl, one_R (.sc _ rfl)⟩
theorem rd_string (ht : P.underlying t = some .string) : Rd P w t (fun s : ByteArray => [.sc (.string s)]) (fun s => s.size ≤ reachBytes) := by
  intro H enc base fuel sp cs d ps h hw
  obtain ⟨s, rfl, hx, _⟩ := DataW.trod_string ht h
  cases hx
  refine ⟨s, ?_, rfl, one_R (.sc _ rfl)⟩
  have := hw s.data.toList.length (by unfold DataW.weights; simp)
  simpa using this

theorem listOf {Q : Nat → α → Prop} : ∀ (n : Nat), (∀ i, i < n → ∃ a, Q i a) → ∃ l : List α, l.length = n ∧ ∀ (i : Nat) (a : α), l[i]? = some a → Q i a
  | 0, _ => ⟨[], rfl, fun i a h => by cases h⟩
  | n + 1, h => by
    obtain ⟨l, h1, h2⟩ := listOf n (fun i hi => h i (by omega))
    obtain ⟨a, ha⟩ := h n (by omega)
    refine ⟨l ++ [a], by simp [h1], fun i b hb => ?_⟩
    by_cases hi : i < l.length
    · rw [List.getElem?_append_left hi] at hb; exact h2 i b hb
    · rw [List.getElem?_append_right (by omega)] at hb
      have h0 : i - l.length = 0 := by
        rcases Nat.eq_zero_or_pos (i - l.length) with h | h
        · exact h
        · rw [List.getElem?_eq_none (by simp; omega)] at hb; cases hb
      rw [h0] at hb
      cases hb
      have : i = n := by omega
      rw [this]; exact ha

theorem weightsAll_mem {H : Type} {d : DataW H} {x : Nat} : ∀ {l : List (DataW H)}, d ∈ l → x ∈ d.weights P e → x ∈ DataW.weightsAll P e l
  | c :: l, hd, hx => by
    unfold DataW.weightsAll
    rcases List.mem_cons.1 hd with rfl | hd
    · exact List.mem_append_left _ hx
    · exact List.mem_append_right _ (weightsAll_mem hd hx)

theorem rd_slice {g : α → List Tr} {Ok : α → Prop} (ht : P.underlying t = some (.slice e)) (hz : 0 < P.cellsOf e) (hb : 0 < P.bytesOf e) (he : Rd P w e g Ok) :
    Rd P w t (fun l : List α => [.sl (l.map g)]) (fun l => l.length ≤ reachBytes ∧ ∀ a ∈ l, Ok a) := by
  intro H enc base fuel sp cs d ps h hw
  rcases DataW.trod_slice ht h with ⟨rfl, hx⟩ | ⟨a, len, cap, elems, rest, n, rfl, rfl, hx, hb1, hlc, hcm, hel, hE, _, _⟩
  · exact ⟨[], ⟨Nat.zero_le _, fun a ha => by cases ha⟩, rfl, one_R .nil⟩
  · cases hx
    have hW : ∀ x ∈ ((elems.map (·.1)).length * P.bytesOf e + (rest.map (·.1)).length * P.bytesOf e) :: (DataW.weightsAll P e (elems.map (·.1)) ++ DataW.weightsAll P e (rest.map (·.1))), x ≤ reachBytes := by
      unfold DataW.weights at hw
      simp only [ht] at hw
      intro x hx
      refine hw x ?_
      rw [Nat.add_mul]
      exact hx
    have key : ∀ i, i < len → ∃ b, Ok b ∧ (g b).length = P.cellsOf e ∧ ∀ (j : Nat) (tr : Tr), (g b)[j]? = some tr → ∃ v, w.cell? ((a.add (i * P.cellsOf e)).add j) = some v ∧ Tr.R Nay w tr v := by
      intro i hi
      have h1 := hE i hi
      have hi' : i < elems.length := by omega
      rw [List.getElem?_eq_getElem hi'] at h1
      cases hc : w.cells? base (a.add (i * P.cellsOf e)) (P.cellsOf e) with
      | none => rw [hc] at h1; cases h1
      | some cs' =>
        rw [hc] at h1
        obtain ⟨_, c2, c3⟩ := World.cells?_some hc
        obtain ⟨b, k1, k2, k3⟩ := he H enc base n sp cs' elems[i].1 elems[i].2 h1 (fun x hx => hW x (List.mem_cons_of_mem _ (List.mem_append_left _ (weightsAll_mem (List.mem_map.2 ⟨_, List.getElem_mem hi', rfl⟩) hx))))
        refine ⟨b, k1, by rw [k2, c2], fun j tr hj => ?_⟩
        have hjl : j < cs'.length := by rw [← k2]; exact (List.getElem?_eq_some_iff.1 hj).1
        have hv := List.getElem?_eq_getElem hjl
        exact ⟨cs'[j], by rw [c3 j (by omega)]; exact hv, k3 j tr _ hj hv⟩
    obtain ⟨l, l1, l2⟩ := listOf len key
    refine ⟨l, ⟨?_, fun b hb' => ?_⟩, rfl, one_R ?_⟩
    · have := hW _ (List.mem_cons_self ..)
      rw [List.length_map, hel] at this
      rw [l1]
      have h2 : len * 1 ≤ len * P.bytesOf e := Nat.mul_le_mul_left _ hb
      omega
    · obtain ⟨i, hi, rfl⟩ := List.mem_iff_getElem.1 hb'
      exact (l2 i _ (List.getElem?_eq_getElem hi)).1
    · cases len with
      | zero =>
        have : l = [] := List.eq_nil_of_length_eq_zero l1
        subst this
        exact .emp a cap
      | succ m =>
        have h0 : 0 < l.length := by omega
        obtain ⟨_, q2, q3⟩ := l2 0 _ (List.getElem?_eq_getElem h0)
        obtain ⟨v, v1, _⟩ := q3 0 _ (List.getElem?_eq_getElem (by omega))
        have v1' : w.cell? a = some v := by simpa [Addr.add] using v1
        have hsp : a.spot = none ∧ a.block < w.heap.size := by
          unfold World.cell? at v1'
          cases hb' : w.heap[a.block]? with
          | none => rw [hb'] at v1'; cases v1'
          | some ob =>
            have hlt := (Array.getElem?_eq_some_iff.1 hb').1
            rw [hb'] at v1'
            split at v1'
            · split at v1'
              · cases v1'
              · rename_i hs
                exact ⟨by cases hs' : a.spot with
                  | none => rfl
                  | some s => rw [hs'] at hs; simp at hs, hlt⟩
            · cases v1'
        obtain ⟨b, o, sp'⟩ := a
        obtain ⟨rfl, hlt⟩ := hsp
        have hcell : ∀ (i : Nat) (x : List Tr) (j : Nat) (tr : Tr), (l.map g)[i]? = some x → x[j]? = some tr → ∃ v, cellAt w b (o + i * P.cellsOf e + j) = some v ∧ Tr.R Nay w tr v := by
          intro i x j tr h1 h2
          rw [List.getElem?_map] at h1
          cases hl : l[i]? with
          | none => rw [hl] at h1; cases h1
          | some y =>
            rw [hl] at h1
            cases h1
            obtain ⟨_, _, q⟩ := l2 i y hl
            obtain ⟨v, e1, e2⟩ := q j tr h2
            exact ⟨v, by rw [Addr_add, Addr_add] at e1; exact e1, e2⟩
        have := Tr.R.sl (M := Nay) (w := w) (l.map g) b o cap (P.cellsOf e) (fun i j => (cellAt w b (o + i * P.cellsOf e + j)).getD undef) (by simp; omega)
          (fun i x hx => by
            rw [List.getElem?_map] at hx
            cases hl : l[i]? with
            | none => rw [hl] at hx; cases hx
            | some y => rw [hl] at hx; cases hx; exact (l2 i y hl).2.1)
          hlt
          (fun i x j tr h1 h2 => by
            obtain ⟨v, e1, _⟩ := hcell i x j tr h1 h2
            exact ⟨by rw [e1]; rfl, fun hm => hm⟩)
          (fun i x j tr h1 h2 => by
            obtain ⟨v, e1, e2⟩ := hcell i x j tr h1 h2
            rw [e1]; exact e2)
        rw [List.length_map, l1] at this
        exact this

theorem rds_nil {o : Nat} : RdS P w [] o (fun _ : Unit => []) (fun _ => True) := by
  intro H enc base fuel sp cs xs _ _ _ _
  exact ⟨(), trivial, rfl, fun j tr v h => by cases h⟩
theorem rds_cons {f : Field} {fs : List Field} {o : Nat} {g1 : α → List Tr} {Ok1 : α → Prop} {g2 : β → List Tr} {Ok2 : β → Prop} (hf : f.offset = o) (h1 : Rd P w f.type g1 Ok1)
    (h2 : RdS P w fs (o + P.cellsOf f.type) g2 Ok2) : RdS P w (f :: fs) o (fun p : α × β => g1 p.1 ++ g2 p.2) (fun p => Ok1 p.1 ∧ Ok2 p.2) := by
  intro H enc base fuel sp cs xs hl ht hw hs
  cases xs with
  | nil => cases hl
  | cons x xs =>
    simp only [List.map_cons, List.sum_cons] at hs ⊢
    have hx := ht 0 f rfl
    rw [hf] at hx
    have hw' : ∀ y ∈ x.1.weights P f.type ++ DataW.weightsEach P (fs.map (·.type)) (xs.map (·.1)), y ≤ reachBytes := by
      intro y hy
      refine hw y ?_
      simp only [List.map_cons]
      unfold DataW.weightsEach
      exact hy
    obtain ⟨a, a1, a2, a3⟩ := h1 H enc base fuel sp _ x.1 x.2 hx (fun y hy => hw' y (List.mem_append_left _ hy))
    obtain ⟨b, b1, b2, b3⟩ := h2 H enc base fuel sp cs xs (by simpa using hl) (fun i f' hi => by have := ht (i + 1) f' (by simpa using hi); simpa using this) (fun y hy => hw' y (List.mem_append_right _ hy)) (by omega)
    have ha : (g1 a).length = P.cellsOf f.type := by rw [a2]; simp; omega
    refine ⟨(a, b), ⟨a1, b1⟩, by simp [ha, b2], fun j tr v hj hv => ?_⟩
    simp only at hj
    by_cases hlt : j < (g1 a).length
    · rw [List.getElem?_append_left hlt] at hj
      refine a3 j tr v hj ?_
      rw [List.getElem?_take, if_pos (by omega), List.getElem?_drop]
      exact hv
    · rw [List.getElem?_append_right (by omega)] at hj
      refine b3 _ tr v hj ?_
      rw [← hv]
      congr 1
      omega
theorem rd_struct {fs : Array Field} {g : α → List Tr} {Ok : α → Prop} (ht : P.underlying t = some (.struct fs)) (hs : (fs.toList.map fun f => P.cellsOf f.type).sum = P.cellsOf t) (h : RdS P w fs.toList 0 g Ok) : Rd P w t g Ok := by
  intro H enc base fuel sp cs d ps hd hw
  obtain ⟨xs, n, rfl, hx, hl, hxl, hf⟩ := DataW.trod_struct ht hd
  cases hx
  obtain ⟨a, a1, a2, a3⟩ := h H enc base n sp cs xs (by simpa using hxl) (fun i f hi => hf i f (by simpa using hi)) (fun x hx => hw x (by unfold DataW.weights; simp only [ht]; exact hx)) (by omega)
  exact ⟨a, a1, by omega, fun j tr v h1 h2 => a3 j tr v h1 (by rw [Nat.zero_add]; exact h2)⟩

/-- A ghost that owns nothing. -/
def gh (w : World) : Gh := { B := w.heap.size, M := Nay, n := 0, μ := fun _ => 0, σ := fun _ => 0, m := 2, G := fun _ => (undef, 0, 0, 0) }
theorem av_R {tr : Tr} {v : Value} (h : Tr.R Nay w tr v) : AV.R (gh w) w tr.av v := by
  cases tr with
  | sc u => cases h; exact .sc _
  | sl xs => exact .sl 0 xs v h (fun h => by omega) (fun h => by omega)
theorem agg_R {ts : List Tr} {cs : Array Value} (hl : ts.length = cs.size) (h : ∀ (j : Nat) (tr : Tr) (v : Value), ts[j]? = some tr → cs.toList[j]? = some v → Tr.R Nay w tr v) : AV.R (gh w) w (.agg (ts.map Tr.av)) (.agg cs) := by
  have := AV.R.agg (g := gh w) (w := w) (ts.map Tr.av) cs.toList (by simpa using hl) (fun j x v h1 h2 => by
    rw [List.getElem?_map] at h1
    cases ht : ts[j]? with
    | none => rw [ht] at h1; cases h1
    | some tr => rw [ht] at h1; cases h1; exact av_R (h j tr v ht h2))
  simpa using this

/-- A law's walk: true, and nothing old has changed. -/
theorem Pure.law {f : FuncId} {args : List AV} {vals : List Value} (h : Pure P f args (· = .sc (.bool true))) (hl : vals.length = args.length)
    (hR : ∀ (j : Nat) (x : AV) (v : Value), args[j]? = some x → vals[j]? = some v → AV.R (gh w) w x v) :
    Calls P f vals.toArray w fun e w' => e = .returned (.bool true) ∧ Below w.heap.size w w' := by
  refine (h (gh w) w vals rfl rfl rfl (fun b o h => h.elim) hl hR).mono fun e w' ⟨r, v, h1, h2, h3, h4⟩ => ?_
  subst h1
  cases h3
  exact ⟨h2, h4⟩
end
end VC
