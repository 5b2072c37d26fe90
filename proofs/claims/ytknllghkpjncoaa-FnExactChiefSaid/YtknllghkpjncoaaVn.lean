/- What an operation asks for in the walk is enough: append, and calls. -/
import Derived.Test.YtknllghkpjncoaaVm
set_option linter.unusedVariables false
set_option linter.unusedSimpArgs false
namespace VC
open Go Go.RowKit

section
variable {P : Program} {N : Nat} {g g' : Gh} {w w' : World} {σ σ' : AS} {a : Act}

/-- What the longer slice holds. -/
theorem append_R {xs ys : List (List Tr)} {v v' : Value} {e : TypeId} {n : Nat} {vals news : List Value} (hk : Keep g.M w g'.M w') (hn : 0 < n)
    (hxs : Tr.R g.M w (.sl xs) v) (hxn : ∀ y ∈ xs, y.length = n) (hown : w.ownsRow g.B e n v xs.length vals)
    (hyn : ∀ y ∈ ys, y.length = n) (hnews : ∀ (i : Nat) (e : List Tr) (j : Nat) (x : Tr), ys[i]? = some e → e[j]? = some x → ∃ u, news[i * n + j]? = some u ∧ Tr.R g.M w x u)
    (hown' : w'.ownsRow g.B e n v' (xs.length + ys.length) (vals ++ news)) (hM : ∀ k o, v'.ownBlock = some k → g'.M k o → (xs.length + ys.length) * n ≤ o) :
    Tr.R g'.M w' (.sl (xs ++ ys)) v' := by
  have hvl := hown.1
  have hold : ∀ (i : Nat) (e : List Tr) (j : Nat) (x : Tr), xs[i]? = some e → e[j]? = some x → ∃ u, vals[i * n + j]? = some u ∧ Tr.R g.M w x u := by
    intro i el j x hel hx
    have hi : i < xs.length := (List.getElem?_eq_some_iff.1 hel).1
    have hj : j < n := by rw [← hxn el (List.mem_of_getElem? hel)]; exact (List.getElem?_eq_some_iff.1 hx).1
    have hlt : i * n + j < vals.length := by
      rw [hvl]
      have : (i + 1) * n ≤ xs.length * n := Nat.mul_le_mul_right _ hi
      rw [Nat.succ_mul] at this
      omega
    obtain ⟨A, m, c, rfl, hm, hmc, hA⟩ := Tr_sl hxs
    rcases hA with ⟨_, hnil, _⟩ | ⟨_, _, hnil⟩ | ⟨b, o, sz, u, rfl, hz, hb, hu, hxx⟩
    · subst hnil; simp at hi
    · subst hnil; simp at hi
    · rcases hown.2 with ⟨hv, _⟩ | ⟨b', cap, cur, hv, _⟩
      · cases hv
      · cases hv
        have hsz : sz = n := by rw [← hz i el hel, hxn el (List.mem_of_getElem? hel)]
        subst hsz
        have h1 := (hu i el j x hel hx).1
        have h2 := hown.cells (g := b) rfl (i * sz + j) _ (List.getElem?_eq_getElem hlt)
        rw [Addr_add] at h2
        simp only [cellAt, Nat.zero_add] at h1 h2
        rw [h1] at h2
        have h3 := Option.some.inj h2
        exact ⟨u i j, by rw [List.getElem?_eq_getElem hlt, h3], hxx i el j x hel hx⟩
  have hall : ∀ (i : Nat) (e : List Tr) (j : Nat) (x : Tr), (xs ++ ys)[i]? = some e → e[j]? = some x → ∃ u, (vals ++ news)[i * n + j]? = some u ∧ Tr.R g.M w x u := by
    intro i el j x hel hx
    by_cases hi : i < xs.length
    · rw [List.getElem?_append_left hi] at hel
      obtain ⟨u, h1, h2⟩ := hold i el j x hel hx
      exact ⟨u, by rw [List.getElem?_append_left (List.getElem?_eq_some_iff.1 h1).1]; exact h1, h2⟩
    · rw [List.getElem?_append_right (by omega)] at hel
      obtain ⟨u, h1, h2⟩ := hnews _ el j x hel hx
      refine ⟨u, ?_, h2⟩
      have : i * n = (i - xs.length) * n + xs.length * n := by rw [← Nat.add_mul]; congr 1; omega
      rw [List.getElem?_append_right (by omega), ← h1]
      congr 1; omega
  have hzn : ∀ (i : Nat) (e : List Tr), (xs ++ ys)[i]? = some e → e.length = n := by
    intro i el hel
    rcases List.mem_append.1 (List.mem_of_getElem? hel) with h | h
    · exact hxn el h
    · exact hyn el h
  rcases hown'.2 with ⟨rfl, h0⟩ | ⟨b, cap, cur, rfl, hB, hg, hle, hcap, hcs, ht⟩
  · have : xs ++ ys = [] := List.eq_nil_of_length_eq_zero (by simpa using h0)
    rw [this]; exact .nil
  · have hlt : b < w'.heap.size := (Array.getElem?_eq_some_iff.1 hg).1
    have := Tr.R.sl (M := g'.M) (w := w') (xs ++ ys) b 0 cap n (fun i j => (vals ++ news).getD (i * n + j) undef) (by simpa using hle) hzn hlt
      (fun i el j x hel hx => by
        obtain ⟨u, h1, h2⟩ := hall i el j x hel hx
        have h3 := hown'.cells (g := b) rfl (i * n + j) u h1
        rw [Addr_add] at h3
        refine ⟨?_, fun hm => ?_⟩
        · simp only [Nat.zero_add] at h3 ⊢
          simp [cellAt, h3, List.getD, h1]
        · have h4 := hM b _ rfl hm
          have := (List.getElem?_eq_some_iff.1 h1).1
          rw [hown'.1] at this
          omega)
      (fun i el j x hel hx => by
        obtain ⟨u, h1, h2⟩ := hall i el j x hel hx
        have : (vals ++ news).getD (i * n + j) undef = u := by simp [List.getD, h1]
        rw [this]
        exact h2.keep hk)
    simpa using this

theorem exec_append {o : Oper} {K : AS → Prop} {Kc : Act → World → Prop} {Q : Exit → Act → World → Prop} (hd : ∀ d, o.dst = some d → d < N) (hI : Inv N g σ a w) (hK : Kon N g w K Kc)
    {s x : Operand} {t u : TypeId} {e : TypeId} {n b tk : Nat} {xs ys : List (List Tr)} {as : Array Operand} {ts : Array TypeId} (ho : o.op = .call { callee := .builtin .append, args := as, argTypes := ts })
    (has : as.toList = [s, x]) (hts : ts.toList = [t, u]) (hs : slcOf P t = some (e, n, b)) (hn : 0 < n) (hz : ∃ z, zerOf P e = some z ∧ z.length = n)
    (hev : σ.ev s = .sl tk xs) (htk : tk = 1 ∨ σ.L tk = some (e, n)) (hby : (xs.length + ys.length) * b ≤ 140737488355328) (h63 : xs.length + ys.length ≤ 9223372036854775807) (hyn : ∀ y ∈ ys, y.length = n)
    (hsrc : (u = t ∧ ∃ tk', σ.ev x = .sl tk' ys) ∨ (isStr P u = true ∧ b = 1 ∧ isByte P e = true ∧ ∃ s, σ.ev x = .sc (.string s) ∧ ys = s.data.toList.map fun c => [.sc (.int .u8 c.toNat)]))
    (hk : K (((σ.kill tk).newTok (e, n)).put o.dst (.sl σ.nt (xs ++ ys)))) : o.wp P a w Kc Q := by
  obtain ⟨as⟩ := as
  obtain ⟨ts⟩ := ts
  simp only at has hts
  subst has; subst hts
  obtain ⟨z, hz, hzn⟩ := hz
  obtain ⟨inf, hu, hinf, hsz, hbb⟩ := slcOf_spec hs
  obtain ⟨zv, hzr, hzv, i, hi, hiz⟩ := zerOf_spec hz
  rw [hinf] at hi
  cases hi
  have hzs : zv.cells.size = n := by rw [← hzn, ← hzv]; simp
  have hv := hI.ev s
  rw [hev] at hv
  have hvt := R_sl hv
  -- the row that one has
  have hown : ∃ vals, w.ownsRow g.B e n (a.eval s) xs.length vals ∧ (∀ y ∈ xs, y.length = n) ∧
      ((a.eval s).ownBlock = none ∨ ∃ e0, σ.L tk = some e0 ∧ (g.G tk).1 = a.eval s ∧ (g.G tk).2.2.2 * (g.G tk).2.2.1 = xs.length * n) := by
    cases hv with
    | sl _ _ v h h1 h2 =>
      rcases htk with rfl | hL
      · have := h1 rfl
        rw [this] at h ⊢
        cases h
        exact ⟨[], World.ownsRow_nil w g.B e n, by simp, .inl rfl⟩
      · have ht := hI.H.tok tk (e, n) hL
        obtain ⟨a1, a2, a3, a4⟩ := h2 ht.lt.1
        obtain ⟨vals, hr⟩ := ht.row
        have hs2 := ht.size
        simp only at hs2 hr
        rw [a2, a3, hs2] at hr
        rw [hs2] at a4
        refine ⟨vals, hr, fun y hy => ?_, .inr ⟨_, hL, a2, by rw [a3, hs2]⟩⟩
        obtain ⟨k, hk', rfl⟩ := List.mem_iff_getElem.1 hy
        exact a4 k _ (List.getElem?_eq_getElem hk')
  obtain ⟨vals, hown, hxn, hlive⟩ := hown
  have hB := hI.H.B
  -- the call, and what it has come to
  have hcall : ∃ (news : List Value) (v' : Value) (w' : World), (execOp a.eval o).run P w = .ok (.value v') w' ∧ w'.ownsRow g.B e n v' (xs.length + ys.length) (vals ++ news) ∧ w.grownBy w' (a.eval s).ownBlock ∧ Lies w w' (a.eval s) v' ∧
      ∀ (i : Nat) (e : List Tr) (j : Nat) (x : Tr), ys[i]? = some e → e[j]? = some x → ∃ u, news[i * n + j]? = some u ∧ Tr.R g.M w x u := by
    rcases hsrc with ⟨rfl, tk', hx⟩ | ⟨hst, hb1, hz1, str, hx, hys⟩
    · have hxv := hI.ev x
      rw [hx] at hxv
      obtain ⟨A, m, c, hxe, hm, hmc, hA⟩ := Tr_sl (R_sl hxv)
      subst hm
      rcases hA with ⟨rfl, hnil, rfl⟩ | ⟨ad, rfl, hnil⟩ | ⟨b', o', sz, uu, rfl, hz', hb', huu, hxx⟩
      · subst hnil
        obtain ⟨v', w', h1, h2, h3, h4⟩ := append_src (P := P) (w := w) u o.type inf zv hu hinf hiz hsz hzs hown hB (x := a.eval x) (m := 0) (news := []) (by simp) (by simp) (.inl ⟨by rw [hxe]; rfl, rfl⟩) (by simpa [maxLen] using h63) (by rw [hbb]; simpa using hby)
        refine ⟨[], v', w', ?_, by simpa using h2, h3, h4, by simp⟩
        simp [execOp, ho, resolve, invoke, builtin, h1]
      · subst hnil
        obtain ⟨v', w', h1, h2, h3, h4⟩ := append_src (P := P) (w := w) u o.type inf zv hu hinf hiz hsz hzs hown hB (x := a.eval x) (m := 0) (news := []) (by simp) (by simp) (.inr ⟨ad, c, hxe, fun j v hj => by cases hj⟩) (by simpa [maxLen] using h63) (by rw [hbb]; simpa using hby)
        refine ⟨[], v', w', ?_, by simpa using h2, h3, h4, by simp⟩
        simp [execOp, ho, resolve, invoke, builtin, h1]
      · let news := (List.range (ys.length * n)).map fun k => (cellAt w b' (o' + k)).getD undef
        have hsrc' : ∀ (k : Nat), k < ys.length * n → ∃ x, cellAt w b' (o' + k) = some (uu (k / n) (k % n)) ∧ Tr.R g.M w x (uu (k / n) (k % n)) := by
          intro k hk'
          have hi : k / n < ys.length := by rw [Nat.div_lt_iff_lt_mul hn]; exact hk'
          have hel := List.getElem?_eq_getElem hi
          have hjl : k % n < ys[k / n].length := by rw [hyn _ (List.getElem_mem hi)]; exact Nat.mod_lt _ hn
          have hx' := List.getElem?_eq_getElem hjl
          have hszn : sz = n := by rw [← hz' _ _ hel, hyn _ (List.getElem_mem hi)]
          have h1 := (huu _ _ _ _ hel hx').1
          have h2 := hxx _ _ _ _ hel hx'
          rw [hszn] at h1
          refine ⟨_, ?_, h2⟩
          have : o' + k / n * n + k % n = o' + k := by rw [Nat.add_assoc, Nat.div_add_mod']
          rw [← this]; exact h1
        have hnl : news.length = ys.length * n := by simp [news]
        obtain ⟨v', w', h1, h2, h3, h4⟩ := append_src (P := P) (w := w) u o.type inf zv hu hinf hiz hsz hzs hown hB (x := a.eval x) (m := ys.length) (news := news) hnl (by
            intro v hv'
            obtain ⟨k, hk', rfl⟩ := List.mem_iff_getElem.1 hv'
            have hk2 : k < ys.length * n := by rw [← hnl]; exact hk'
            obtain ⟨x', e1, e2⟩ := hsrc' k hk2
            simp only [news, List.getElem_map, List.getElem_range, e1, Option.getD_some]
            exact e2.one)
          (.inr ⟨⟨b', o', none⟩, c, hxe, fun j v hj => by
            have hj2 : j < ys.length * n := by rw [← hnl]; exact (List.getElem?_eq_some_iff.1 hj).1
            obtain ⟨x', e1, e2⟩ := hsrc' j hj2
            simp only [news] at hj
            simp [hj2, e1] at hj
            rw [Addr_add]
            rw [← hj]; exact e1⟩) (by simpa [maxLen] using h63) (by rw [hbb]; exact hby)
        refine ⟨news, v', w', by simp [execOp, ho, resolve, invoke, builtin, h1], h2, h3, h4, fun i el j y hel hy => ?_⟩
        have hi : i < ys.length := (List.getElem?_eq_some_iff.1 hel).1
        have hj : j < n := by rw [← hyn el (List.mem_of_getElem? hel)]; exact (List.getElem?_eq_some_iff.1 hy).1
        have hlt : i * n + j < ys.length * n := by
          have : (i + 1) * n ≤ ys.length * n := Nat.mul_le_mul_right _ hi
          rw [Nat.succ_mul] at this
          omega
        have hszn : sz = n := by rw [← hz' i el hel, hyn el (List.mem_of_getElem? hel)]
        have h5 := (huu i el j y hel hy).1
        rw [hszn, Nat.add_assoc] at h5
        refine ⟨uu i j, ?_, hxx i el j y hel hy⟩
        simp [news, hlt, h5]
    · have hxv := hI.ev x
      rw [hx] at hxv
      have hxe := R_sc hxv
      subst hys
      have hz2 : zv = .int .u8 0 := by
        unfold isByte at hz1
        rw [hinf, Option.bind_some, hiz] at hz1
        split at hz1
        · rename_i h; exact Option.some.inj h
        · cases hz1
      subst hz2
      have hn1 : n = 1 := by rw [← hzs]; rfl
      subst hn1
      have hlen : (str.data.toList.map fun c => [Tr.sc (.int .u8 c.toNat)]).length = str.size := by simp
      rw [hlen] at h63 hby ⊢
      obtain ⟨v', w', h1, h2, h3, h4⟩ := append_str (P := P) (w := w) t u o.type inf hu (isStr_spec hst) hinf hiz hsz (hbb.trans hb1) hown hB str (by simpa [maxLen] using h63) (by rw [hb1] at hby; omega)
      refine ⟨Lib.strCells str, v', w', by simp [execOp, ho, resolve, invoke, builtin, hxe, h1], h2, h3, h4, fun i el j y hel hy => ?_⟩
      simp at hel
      obtain ⟨c, hc, rfl⟩ := hel
      have hj : j = 0 := by
        have := (List.getElem?_eq_some_iff.1 hy).1
        simpa using this
      subst hj
      simp at hy
      subst hy
      exact ⟨.int .u8 c.toNat, by simp [Lib.strCells, hc], .sc _ rfl⟩
  obtain ⟨news, v', w', hrun, hown', hgr, hlies, hnews⟩ := hcall
  have hend : (g.G tk).2.2.2 * (g.G tk).2.2.1 = xs.length * n ∨ (a.eval s).ownBlock = none := by
    rcases hlive with h | ⟨_, _, _, h⟩
    · exact .inr h
    · exact .inl h
  obtain ⟨g', k1, k2, k3, k4, k5⟩ := hI.H.grow (σ := σ) (tk := tk) (e := e) (sz := n) (n' := xs.length + ys.length) (v := a.eval s) (v' := v') (w' := w') (xs' := vals ++ news)
    (by
      rcases hlive with h | ⟨e0, h1, h2, h3⟩
      · exact .inl h
      · exact .inr ⟨e0, h1, h2, by rw [h3]; exact Nat.mul_le_mul_right _ (by omega)⟩) hown' hgr (hlies.imp id (Or.imp id fun h => ⟨h.1, h.2.1⟩))
    (fun k o hk' ho' => by
      have hkl : k < w.heap.size := (hown.lt k hk').2
      rcases hend with h | h
      · rw [h] at ho'
        have hlt : o < vals.length := by rw [hown.1]; exact ho'
        have e1 := hown.cells (g := k) hk' o _ (List.getElem?_eq_getElem hlt)
        -- the longer row lies there too, or elsewhere
        rcases hlies with h0 | ⟨k', h1, h2⟩ | ⟨h1, h2⟩
        · have hnil : vals ++ news = [] := by
            rcases hown'.2 with ⟨_, h00⟩ | ⟨b1, _, _, hv1, _⟩
            · exact List.eq_nil_of_length_eq_zero (by rw [hown'.1, h00]; simp)
            · rw [hv1] at h0; cases h0
          have : vals = [] := (List.append_eq_nil_iff.1 hnil).1
          rw [this] at hlt
          simp at hlt
        · rw [hk'] at h2
          cases h2
          have e2 := hown'.cells (g := k) h1 o vals[o] (by rw [List.getElem?_append_left hlt]; exact List.getElem?_eq_getElem hlt)
          rw [Addr_add] at e1 e2
          simp only [cellAt, Nat.zero_add] at e1 e2 ⊢
          rw [e1, e2]
        · exact World.cell?_of_block (w := w) (h2.2 k hkl)
      · rw [h] at hk'; cases hk')
  have hwv := append_R (e := e) k2.keep hn hvt hxn hown hyn hnews hown' k5
  refine wp_value hrun (hK g' _ _ _ hk ?_ k2)
  refine (hI.ext (σ' := (σ.kill tk).newTok (e, n)) k2 k1 rfl).put hd ?_
  refine .sl σ.nt (xs ++ ys) v' hwv (fun h => by have := hI.H.m2; omega) (fun _ => ⟨by omega, by rw [k4], by rw [k4]; simp, fun i el hel => ?_⟩)
  rw [k4]
  rcases List.mem_append.1 (List.mem_of_getElem? hel) with h | h
  · exact hxn el h
  · exact hyn el h
end
end VC
