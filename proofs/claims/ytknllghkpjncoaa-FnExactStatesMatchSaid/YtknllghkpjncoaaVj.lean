/- Append to a slice of one's own: in its row, or in a new one. -/
import Derived.Test.YtknllghkpjncoaaVi
set_option linter.unusedVariables false
set_option linter.unusedSimpArgs false
namespace VC
open Go Go.RowKit

/-- Where the longer slice lies. -/
def Lies (w w' : World) (v v' : Value) : Prop :=
  v'.ownBlock = none ∨ (∃ k, v'.ownBlock = some k ∧ v.ownBlock = some k) ∨ (v'.ownBlock = some w.heap.size ∧ w.heap.size < w'.heap.size ∧ ∀ k, k < w.heap.size → w'.heap[k]? = w.heap[k]?)

section
variable {P : Program} {w : World} {B : Nat} {e : TypeId} {sz : Nat} {v : Value} {n : Nat} {xs : List Value}

/-- A new row that begins with what one had. -/
theorem own_new (hB : B ≤ w.heap.size) {all : List Value} {m cap : Nat} {rest : Array Value} (hl : all.length = m * sz) (hm : m ≤ cap) (hcap : cap ≤ maxLen) (hr : rest.size = (cap - m) * sz) (row : Option Nat) :
    (w.drew.alloc (.cells (all.toArray ++ rest) e)).ownsRow B e sz (.slice (some ⟨w.heap.size, 0, none⟩) m cap) m all ∧
    w.grownBy (w.drew.alloc (.cells (all.toArray ++ rest) e)) row ∧
    Lies w (w.drew.alloc (.cells (all.toArray ++ rest) e)) v (.slice (some ⟨w.heap.size, 0, none⟩) m cap) := by
  refine ⟨⟨hl, .inr ⟨w.heap.size, cap, _, rfl, hB, heap_alloc_new w.drew _, hm, hcap, ?_, ?_⟩⟩, ⟨rfl, rfl, rfl, by simp, fun k hk _ => heap_alloc_old w.drew _ k hk⟩, .inr (.inr ⟨rfl, by simp, fun k hk => heap_alloc_old w.drew _ k hk⟩)⟩
  · rw [Array.size_append, hr, List.size_toArray, hl, ← Nat.add_mul]
    congr 1
    omega
  · simp only [Array.toList_append]
    rw [← hl]
    exact List.take_left

/-- The row that one had, with more in it. -/
theorem own_room {b cap : Nat} {cur : Array Value} (hb : B ≤ b) (hg : w.heap[b]? = some (.cells cur e (0, 0))) (hcap : cap ≤ maxLen) (hc : cur.size = cap * sz) (ht : cur.toList.take (n * sz) = xs) (hxl : xs.length = n * sz)
    {news : List Value} {m : Nat} (hl : news.length = m * sz) (hroom : n + m ≤ cap) :
    (w.setRow b (cur.toList.take (n * sz) ++ news ++ cur.toList.drop (n * sz + news.length)).toArray).ownsRow B e sz (.slice (some ⟨b, 0, none⟩) (n + m) cap) (n + m) (xs ++ news) ∧
    w.grownBy (w.setRow b (cur.toList.take (n * sz) ++ news ++ cur.toList.drop (n * sz + news.length)).toArray) (some b) := by
  have hlen : (xs ++ news).length = (n + m) * sz := by rw [List.length_append, hxl, hl, Nat.add_mul]
  have hle : (n + m) * sz ≤ cap * sz := Nat.mul_le_mul_right _ hroom
  refine ⟨⟨hlen, .inr ⟨b, cap, _, rfl, hb, setRow_heap w b cur _ e _ hg, hroom, hcap, ?_, ?_⟩⟩, ⟨rfl, rfl, rfl, by simp, fun k _ hk => setRow_other w b k _ (fun e => hk (by rw [e]))⟩⟩
  · rw [ht]
    simp only [List.size_toArray, List.length_append, List.length_drop, Array.length_toList]
    rw [List.length_append] at hlen
    rw [hxl] at hlen ⊢
    omega
  · rw [ht, ← hlen]
    exact List.take_left

theorem append_nil_src {t ty : TypeId} {i : TypeInfo} (ht : P.underlying t = some (.slice e)) (hi : P.info? e = some i) (hown : w.ownsRow B e sz v n xs) :
    (Builtin.append_ #[t, t] ty #[v, .slice none 0 0]).run P w = .ok v w := by
  rcases hown.2 with ⟨rfl, rfl⟩ | ⟨b, cap, cur, rfl, _, _, hn, _⟩
  · simp [Builtin.append_, run_underlying ht, Go.sizeOf, typeInfo, hi, Builtin.lenOf, Builtin.firstCells]
  · simp [Builtin.append_, run_underlying ht, Go.sizeOf, typeInfo, hi, Builtin.lenOf, hn, Builtin.firstCells, storeCells]

theorem append_src (t ty : TypeId) (i : TypeInfo) (z : Value) (ht : P.underlying t = some (.slice e)) (hi : P.info? e = some i) (hz : i.zero = some z)
    (hsz : i.size = sz) (hzs : z.cells.size = sz) (hown : w.ownsRow B e sz v n xs) (hB : B ≤ w.heap.size)
    {x : Value} {m : Nat} {news : List Value} (hl : news.length = m * sz) (h1 : ∀ u ∈ news, u.oneCell' = true)
    (hx : (x = .slice none 0 0 ∧ m = 0) ∨ ∃ a c, x = .slice (some a) m c ∧ ∀ (j : Nat) u, news[j]? = some u → w.cell? (a.add j) = some u)
    (h63 : n + m ≤ maxLen) (hby : (n + m) * i.bytes ≤ 140737488355328) :
    ∃ v' w', (Builtin.append_ #[t, t] ty #[v, x]).run P w = .ok v' w' ∧ w'.ownsRow B e sz v' (n + m) (xs ++ news) ∧ w.grownBy w' v.ownBlock ∧ Lies w w' v v' := by
  subst hsz
  have hsmall : n + m ≤ 9223372036854775807 := by simp only [maxLen] at h63; omega
  have stay : m = 0 → w.ownsRow B e i.size v (n + m) (xs ++ news) ∧ w.grownBy w v.ownBlock ∧ Lies w w v v := by
    intro hm
    subst hm
    have : news = [] := List.eq_nil_of_length_eq_zero (by simpa using hl)
    subst this
    refine ⟨by simpa using hown, ⟨rfl, rfl, rfl, Nat.le_refl _, fun _ _ _ => rfl⟩, ?_⟩
    cases hv : v.ownBlock with
    | none => exact .inl hv
    | some k => exact .inr (.inl ⟨k, hv, hv⟩)
  rcases hx with ⟨rfl, hm⟩ | ⟨a, c, rfl, hnews⟩
  · exact ⟨v, w, append_nil_src ht hi hown, stay hm⟩
  · have hlen : (xs ++ news).length = (n + m) * i.size := by rw [List.length_append, hown.1, hl, Nat.add_mul]
    rcases hown.2 with ⟨rfl, rfl⟩ | ⟨b, cap, cur, rfl, hbg, hg, hnc, hcm, hcs, htake⟩
    · have hx : xs = [] := List.eq_nil_of_length_eq_zero (by simpa using hown.1)
      by_cases hm : m = 0
      · have hn : news = [] := List.eq_nil_of_length_eq_zero (by simpa [hm] using hl)
        refine ⟨.slice none 0 0, w, ?_, stay hm⟩
        subst hm
        simp [Builtin.append_, run_underlying ht, Go.sizeOf, typeInfo, hi, Builtin.lenOf, Builtin.firstCells, loadCells, loadCellsFrom]
      · have hr := run_append_nil (P := P) w t ty e i z ht hi hz a m c news hl hnews (by omega) (by omega) (by have hb := hby; simp only [Nat.zero_add] at hb; omega)
        subst hx
        have := own_new (w := w) (e := e) (v := .slice none 0 0) (rest := Builtin.zeroCells z.cells (grownCap w m 0 e - m)) hB (by simpa using hlen) (grownCap_ge w m 0 e) (grownCap_le_maxLen w m 0 e (by omega)) (by rw [size_zeroCells, hzs]) (Value.ownBlock (.slice none 0 0))
        simp only [Nat.zero_add, List.nil_append] at this ⊢
        exact ⟨_, _, hr, this⟩
    · by_cases hroom : n + m ≤ cap
      · have hfit : n * i.size + news.length ≤ cur.size := by rw [hl, hcs, ← Nat.add_mul]; exact Nat.mul_le_mul_right _ hroom
        have hr := run_append_room (P := P) w t ty e i ht hi b n cap cur hg a m c news hl hnews h1 hroom hfit
        obtain ⟨k1, k2⟩ := own_room (w := w) hbg hg hcm hcs htake hown.1 hl hroom
        exact ⟨_, _, hr, k1, k2, .inr (.inl ⟨b, rfl, rfl⟩)⟩
      · have holds : ∀ (j : Nat) u, xs[j]? = some u → w.cell? ((⟨b, 0, none⟩ : Addr).add j) = some u := hown.cells (g := b) rfl
        have hr := run_append_grow (P := P) w t ty e i z ht hi hz ⟨b, 0, none⟩ n cap xs hown.1 holds a m c news hl hnews (by omega) (by omega) (growslice_fits (by omega) hby)
        have := own_new (w := w) (e := e) (v := .slice (some ⟨b, 0, none⟩) n cap) (rest := Builtin.zeroCells z.cells (grownCap w (n + m) cap e - (n + m))) hB hlen (grownCap_ge w _ _ e) (grownCap_le_maxLen w _ cap e h63) (by rw [size_zeroCells, hzs]) (Value.ownBlock (.slice (some ⟨b, 0, none⟩) n cap))
        simp only [← List.append_toArray] at this
        exact ⟨_, _, hr, this⟩

theorem append_str (t u ty : TypeId) (i : TypeInfo) (ht : P.underlying t = some (.slice e)) (hu : P.underlying u = some .string) (hi : P.info? e = some i) (hz : i.zero = some (.int .u8 0))
    (hsz : i.size = 1) (hb1 : i.bytes = 1) (hown : w.ownsRow B e 1 v n xs) (hB : B ≤ w.heap.size) (s : ByteArray)
    (h63 : n + s.size ≤ maxLen) (hby : n + s.size ≤ 140737488355328) :
    ∃ v' w', (Builtin.append_ #[t, u] ty #[v, .string s]).run P w = .ok v' w' ∧ w'.ownsRow B e 1 v' (n + s.size) (xs ++ Lib.strCells s) ∧ w.grownBy w' v.ownBlock ∧ Lies w w' v v' := by
  have hl : (Lib.strCells s).length = s.size * 1 := by rw [Lib.strCells_length, Nat.mul_one]
  have hlen : (xs ++ Lib.strCells s).length = (n + s.size) * 1 := by rw [List.length_append, hown.1, hl, Nat.add_mul]
  have hsmall : n + s.size ≤ 9223372036854775807 := by simp only [maxLen] at h63; omega
  rcases hown.2 with ⟨rfl, rfl⟩ | ⟨b, cap, cur, rfl, hbg, hg, hnc, hcm, hcs, htake⟩
  · have hx : xs = [] := List.eq_nil_of_length_eq_zero (by simpa using hown.1)
    by_cases hm : s.size = 0
    · have hn : Lib.strCells s = [] := List.eq_nil_of_length_eq_zero (by rw [Lib.strCells_length]; exact hm)
      refine ⟨.slice none 0 0, w, ?_, by rw [hm, hn]; simpa using hown, ⟨rfl, rfl, rfl, Nat.le_refl _, fun _ _ _ => rfl⟩, .inl rfl⟩
      have hf := Lib.run_firstCells_string (P := P) w 1 s
      rw [hm] at hf
      simp [Builtin.append_, run_underlying ht, run_underlying hu, Go.sizeOf, typeInfo, hi, hsz, Builtin.lenOf, hm, hf]
    · have hr := run_append_nil_string (P := P) w t u ty e i (.int .u8 0) ht hu hi hz s (by omega) (by omega) (by rw [hb1]; omega)
      have e1 : (s.data.map fun b => Value.int .u8 b.toNat) = (Lib.strCells s).toArray := by
        apply Array.ext'
        simp [Lib.strCells]
      rw [e1] at hr
      subst hx
      have := own_new (w := w) (e := e) (sz := 1) (all := Lib.strCells s) (m := s.size) (v := .slice none 0 0) (rest := Builtin.zeroCells (Value.int .u8 0).cells (grownCap w s.size 0 e - s.size)) hB (by simpa using hlen) (grownCap_ge w s.size 0 e) (grownCap_le_maxLen w s.size 0 e (by omega)) (by simp [size_zeroCells, Value.cells]) (Value.ownBlock (.slice none 0 0))
      simp only [Nat.zero_add, List.nil_append] at this ⊢
      exact ⟨_, _, hr, this⟩
  · by_cases hroom : n + s.size ≤ cap
    · have hcs' : cur.size = cap := by simpa using hcs
      have hr := Lib.run_append_room_string (P := P) w t u ty e i ht hu hi hsz b n cap cur hg s hroom (by omega)
      obtain ⟨k1, k2⟩ := own_room (w := w) hbg hg hcm hcs htake hown.1 hl hroom
      simp only [Nat.mul_one, Lib.strCells_length] at k1 k2
      exact ⟨_, _, hr, k1, k2, .inr (.inl ⟨b, rfl, rfl⟩)⟩
    · have holds : ∀ (j : Nat) u, xs[j]? = some u → w.cell? ((⟨b, 0, none⟩ : Addr).add j) = some u := hown.cells (g := b) rfl
      have hr := Lib.run_append_grow_string (P := P) w t u ty e i (.int .u8 0) ht hu hi hz ⟨b, 0, none⟩ n cap xs (by rw [hsz]; exact hown.1) holds s (by omega) (by omega) (by rw [hb1]; exact growslice_fits (by omega) (by omega))
      have := own_new (w := w) (e := e) (sz := 1) (all := xs ++ Lib.strCells s) (m := n + s.size) (v := .slice (some ⟨b, 0, none⟩) n cap) (rest := Builtin.zeroCells (Value.int .u8 0).cells (grownCap w (n + s.size) cap e - (n + s.size))) hB hlen (grownCap_ge w _ _ e) (grownCap_le_maxLen w _ cap e h63) (by simp [size_zeroCells, Value.cells]) (Value.ownBlock (.slice (some ⟨b, 0, none⟩) n cap))
      simp only [← List.append_toArray] at this
      exact ⟨_, _, hr, this⟩
end
end VC
