/- How large a thing is that is handed in. -/
import Derived.Test.YtknllghkpjncoaaC0
set_option linter.unusedVariables false
set_option linter.unusedSimpArgs false
set_option maxRecDepth 100000
namespace Go.Proofs
open Go VC

theorem q44 (l : List Int) (left : Int) (h : l.length ≤ 140737488355328) (h' : 0 ≤ left ∧ left ≤ 1048576) : Pure Try.prog 44 [.sl 0 (l.map ic), I left] (SzR (l.length ≤ 1048576)) := by
  refine Pure.intro mo Try.func44 rfl (by show 2 ≤ 12; omega) _ rfl [0, 1, 4, 10] (by kernel_rfl) ?_
  simp [Try.f44]
  rw [wi _ (by omega)]
  exact ⟨fun e => SzR.no, fun e => SzR.yes (by omega) (by omega) (by omega)⟩
theorem q69 (l : List Int) (left : Int) (h : l.length ≤ 140737488355328) (h' : 0 ≤ left ∧ left ≤ 1048576) : Pure Try.prog 69 [.sl 0 (l.map bc), I left] (SzR (l.length ≤ 1048576)) := by
  refine Pure.intro mo Try.func69 rfl (by show 2 ≤ 12; omega) _ rfl [0, 1, 4, 10] (by kernel_rfl) ?_
  simp [Try.f69]
  rw [wi _ (by omega)]
  exact ⟨fun e => SzR.no, fun e => SzR.yes (by omega) (by omega) (by omega)⟩
theorem q22 (now next : List Int) (left : Int) (h1 : now.length ≤ 140737488355328) (h2 : next.length ≤ 140737488355328) (h' : 0 ≤ left ∧ left ≤ 1048576) : Pure Try.prog 22 [grp now next, I left] (SzR (now.length ≤ 1048576 ∧ next.length ≤ 1048576)) := by
  refine Pure.intro mo Try.func22 rfl (by show 2 ≤ 18; omega) _ rfl [0, 1, 2, 4, 10, 16] (by kernel_rfl) ?_
  simp [Try.f22]
  refine callR isFn44 (q44 now left h1 h') ?_
  rintro _ ⟨n1, rfl, a1, b1, c1⟩
  simp
  refine ⟨fun e => SzR.no, fun e1 => ?_⟩
  refine callR isFn44 (q44 next n1 h2 ⟨by omega, by omega⟩) ?_
  rintro _ ⟨n2, rfl, a2, b2, c2⟩
  simp
  exact ⟨fun e => SzR.no, fun e2 => SzR.yes (by omega) (by omega) ⟨c1 (by omega), c2 (by omega)⟩⟩
theorem q46 (x : Ent) (left : Int) (h : okEnt 140737488355328 x) (h' : 0 ≤ left ∧ left ≤ 1048576) : Pure Try.prog 46 [ent x, I left] (SzR (okEnt 1048576 x)) := by
  refine Pure.intro mo Try.func46 rfl (by show 2 ≤ 12; omega) _ rfl [0, 1, 2, 4, 10] (by kernel_rfl) ?_
  simp [Try.f46]
  refine callR isFn69 (q69 x.data left h.data h') ?_
  rintro _ ⟨n1, rfl, a1, b1, c1⟩
  simp
  refine ⟨fun e1 => SzR.no, fun e1 => ?_⟩
  replace c1 := c1 (by omega)
  exact SzR.yes (by omega) (by omega) ⟨c1⟩
theorem q25 (l : List Ent) (left : Int) (h : l.length ≤ 140737488355328) (hd : ∀ e ∈ l, okEnt 140737488355328 e) (h' : 0 ≤ left ∧ left ≤ 1048576) : Pure Try.prog 25 [.sl 0 (l.map ec), I left] (SzR (l.length ≤ 1048576 ∧ ∀ e ∈ l, okEnt 1048576 e)) := by
  refine Pure.intro mo Try.func25 rfl (by show 2 ≤ 27; omega) _ rfl [0, 1, 4, 5, 11, 15, 25] (by kernel_rfl) ?_
  simp [Try.f25]
  rw [wi _ (by omega)]
  refine ⟨fun e => SzR.no, fun h0 => ?_⟩
  refine loopI (fun ((i, m, a, b, c) : Nat × Int × AV × AV × AV) => ⟨[(0, .sl 0 (l.map ec)), (1, I m), (4, I 0), (5, I (i : Nat)), (11, a), (15, b), (25, c)], [], [], 0, 2⟩)
    (fun (i, m, _) => i ≤ l.length ∧ 0 ≤ m ∧ m ≤ 1048576 ∧ ∀ j, j < i → ∀ e, l[j]? = some e → okEnt 1048576 e) (fun (i, _) => l.length - i) (0, left - l.length, _, _, _) rfl ⟨by omega, by omega, by omega, fun j hj => by omega⟩ ?_
  rintro ⟨i, m, a, b, c⟩ ⟨j1, j2, j3, j4⟩
  by_cases hi : i < l.length
  · have hx := hd _ (List.getElem_mem hi)
    simp [hi, ec]
    refine callR isFn46 (q46 l[i] m hx ⟨j2, j3⟩) ?_
    rintro _ ⟨n, rfl, e1, e2, e3⟩
    simp
    refine ⟨fun _ => SzR.no, fun h1 => ?_⟩
    have hlow := e3 (by omega)
    rw [wn _ (by omega)]
    refine RndI.mk (i + 1, _, _, _, _) rfl ⟨hi, (by first | omega | (dsimp only; omega)), (by first | omega | (dsimp only; omega)), fun j hj e he => ?_⟩ (by show l.length - (i + 1) < l.length - i; omega)
    by_cases hji : j = i
    · subst hji; rw [List.getElem?_eq_getElem hi] at he; cases he; exact hlow
    · exact j4 j (by omega) e he
  · simp [hi]
    refine SzR.yes (by omega) (by omega) ⟨by omega, fun e he => ?_⟩
    obtain ⟨j, hj, rfl⟩ := List.mem_iff_getElem.1 he
    exact j4 j (by omega) _ (List.getElem?_eq_getElem hj)
theorem q80 (x : Kp) (left : Int) (h : okKp 140737488355328 x) (h' : 0 ≤ left ∧ left ≤ 1048576) : Pure Try.prog 80 [kp x, I left] (SzR (okKp 1048576 x)) := by
  refine Pure.intro mo Try.func80 rfl (by show 2 ≤ 24; omega) _ rfl [0, 1, 2, 4, 10, 16, 22] (by kernel_rfl) ?_
  simp [Try.f80]
  refine callR isFn22 (q22 x.now x.next left h.now h.next h') ?_
  rintro _ ⟨n1, rfl, a1, b1, c1⟩
  simp
  refine ⟨fun e1 => SzR.no, fun e1 => ?_⟩
  replace c1 := c1 (by omega)
  refine callR isFn69 (q69 x.snap n1 h.snap ⟨by omega, by omega⟩) ?_
  rintro _ ⟨n2, rfl, a2, b2, c2⟩
  simp
  refine ⟨fun e2 => SzR.no, fun e2 => ?_⟩
  replace c2 := c2 (by omega)
  refine callR isFn25 (q25 x.log n2 h.log h.logA ⟨by omega, by omega⟩) ?_
  rintro _ ⟨n3, rfl, a3, b3, c3⟩
  simp
  refine ⟨fun e3 => SzR.no, fun e3 => ?_⟩
  replace c3 := c3 (by omega)
  exact SzR.yes (by omega) (by omega) ⟨c1.1, c1.2, c2, c3.1, c3.2⟩
theorem q66 (x : Sv) (left : Int) (h : okSv 140737488355328 x) (h' : 0 ≤ left ∧ left ≤ 1048576) : Pure Try.prog 66 [sv x, I left] (SzR (okSv 1048576 x)) := by
  refine Pure.intro mo Try.func66 rfl (by show 2 ≤ 18; omega) _ rfl [0, 1, 2, 4, 10, 16] (by kernel_rfl) ?_
  simp [Try.f66]
  refine callR isFn80 (q80 x.k left h.k h') ?_
  rintro _ ⟨n1, rfl, a1, b1, c1⟩
  simp
  refine ⟨fun e1 => SzR.no, fun e1 => ?_⟩
  replace c1 := c1 (by omega)
  refine callR isFn44 (q44 x.votes n1 h.votes ⟨by omega, by omega⟩) ?_
  rintro _ ⟨n2, rfl, a2, b2, c2⟩
  simp
  refine ⟨fun e2 => SzR.no, fun e2 => ?_⟩
  replace c2 := c2 (by omega)
  exact SzR.yes (by omega) (by omega) ⟨c1, c2⟩
theorem q94 (l : List Po) (left : Int) (h : l.length ≤ 140737488355328) (h' : 0 ≤ left ∧ left ≤ 1048576) : Pure Try.prog 94 [.sl 0 (l.map poT), I left] (SzR (l.length ≤ 1048576)) := by
  refine Pure.intro mo Try.func94 rfl (by show 2 ≤ 12; omega) _ rfl [0, 1, 4, 10] (by kernel_rfl) ?_
  simp [Try.f94]
  rw [wi _ (by omega)]
  exact ⟨fun e => SzR.no, fun e => SzR.yes (by omega) (by omega) (by omega)⟩
theorem q106 (x : Bk) (left : Int) (h : okBk 140737488355328 x) (h' : 0 ≤ left ∧ left ≤ 1048576) : Pure Try.prog 106 [bkV x, I left] (SzR (okBk 1048576 x)) := by
  refine Pure.intro mo Try.func106 rfl (by show 2 ≤ 13; omega) _ rfl [0, 1, 2, 4, 11] (by kernel_rfl) ?_
  simp [Try.f106]
  have hs1 := h.owner
  rw [wi _ (by omega)]
  refine ⟨fun e1 => SzR.no, fun e1 => ?_⟩
  exact SzR.yes (by omega) (by omega) ⟨by omega⟩
theorem q95 (l : List Bk) (left : Int) (h : l.length ≤ 140737488355328) (hd : ∀ e ∈ l, okBk 140737488355328 e) (h' : 0 ≤ left ∧ left ≤ 1048576) : Pure Try.prog 95 [.sl 0 (l.map bkT), I left] (SzR (l.length ≤ 1048576 ∧ ∀ e ∈ l, okBk 1048576 e)) := by
  refine Pure.intro mo Try.func95 rfl (by show 2 ≤ 27; omega) _ rfl [0, 1, 4, 5, 11, 15, 25] (by kernel_rfl) ?_
  simp [Try.f95]
  rw [wi _ (by omega)]
  refine ⟨fun e => SzR.no, fun h0 => ?_⟩
  refine loopI (fun ((i, m, a, b, c) : Nat × Int × AV × AV × AV) => ⟨[(0, .sl 0 (l.map bkT)), (1, I m), (4, I 0), (5, I (i : Nat)), (11, a), (15, b), (25, c)], [], [], 0, 2⟩)
    (fun (i, m, _) => i ≤ l.length ∧ 0 ≤ m ∧ m ≤ 1048576 ∧ ∀ j, j < i → ∀ e, l[j]? = some e → okBk 1048576 e) (fun (i, _) => l.length - i) (0, left - l.length, _, _, _) rfl ⟨by omega, by omega, by omega, fun j hj => by omega⟩ ?_
  rintro ⟨i, m, a, b, c⟩ ⟨j1, j2, j3, j4⟩
  by_cases hi : i < l.length
  · have hx := hd _ (List.getElem_mem hi)
    simp [hi, bkT]
    refine callR isFn106 (q106 l[i] m hx ⟨j2, j3⟩) ?_
    rintro _ ⟨n, rfl, e1, e2, e3⟩
    simp
    refine ⟨fun _ => SzR.no, fun h1 => ?_⟩
    have hlow := e3 (by omega)
    rw [wn _ (by omega)]
    refine RndI.mk (i + 1, _, _, _, _) rfl ⟨hi, (by first | omega | (dsimp only; omega)), (by first | omega | (dsimp only; omega)), fun j hj e he => ?_⟩ (by show l.length - (i + 1) < l.length - i; omega)
    by_cases hji : j = i
    · subst hji; rw [List.getElem?_eq_getElem hi] at he; cases he; exact hlow
    · exact j4 j (by omega) e he
  · simp [hi]
    refine SzR.yes (by omega) (by omega) ⟨by omega, fun e he => ?_⟩
    obtain ⟨j, hj, rfl⟩ := List.mem_iff_getElem.1 he
    exact j4 j (by omega) _ (List.getElem?_eq_getElem hj)
theorem q81 (x : Pn) (left : Int) (h : okPn 140737488355328 x) (h' : 0 ≤ left ∧ left ≤ 1048576) : Pure Try.prog 81 [pnV x, I left] (SzR (okPn 1048576 x)) := by
  refine Pure.intro mo Try.func81 rfl (by show 2 ≤ 18; omega) _ rfl [0, 1, 2, 4, 10, 16] (by kernel_rfl) ?_
  simp [Try.f81]
  refine callR isFn94 (q94 x.pools left h.pools h') ?_
  rintro _ ⟨n1, rfl, a1, b1, c1⟩
  simp
  refine ⟨fun e1 => SzR.no, fun e1 => ?_⟩
  replace c1 := c1 (by omega)
  refine callR isFn95 (q95 x.blocks n1 h.blocks h.blocksA ⟨by omega, by omega⟩) ?_
  rintro _ ⟨n2, rfl, a2, b2, c2⟩
  simp
  refine ⟨fun e2 => SzR.no, fun e2 => ?_⟩
  replace c2 := c2 (by omega)
  exact SzR.yes (by omega) (by omega) ⟨c1, c2.1, c2.2⟩
theorem q107 (x : Le) (left : Int) (h : okLe 140737488355328 x) (h' : 0 ≤ left ∧ left ≤ 1048576) : Pure Try.prog 107 [leV x, I left] (SzR (okLe 1048576 x)) := by
  refine Pure.intro mo Try.func107 rfl (by show 2 ≤ 13; omega) _ rfl [0, 1, 2, 4, 11] (by kernel_rfl) ?_
  simp [Try.f107]
  have hs1 := h.owner
  rw [wi _ (by omega)]
  refine ⟨fun e1 => SzR.no, fun e1 => ?_⟩
  exact SzR.yes (by omega) (by omega) ⟨by omega⟩
theorem q96 (l : List Le) (left : Int) (h : l.length ≤ 140737488355328) (hd : ∀ e ∈ l, okLe 140737488355328 e) (h' : 0 ≤ left ∧ left ≤ 1048576) : Pure Try.prog 96 [.sl 0 (l.map leT), I left] (SzR (l.length ≤ 1048576 ∧ ∀ e ∈ l, okLe 1048576 e)) := by
  refine Pure.intro mo Try.func96 rfl (by show 2 ≤ 27; omega) _ rfl [0, 1, 4, 5, 11, 15, 25] (by kernel_rfl) ?_
  simp [Try.f96]
  rw [wi _ (by omega)]
  refine ⟨fun e => SzR.no, fun h0 => ?_⟩
  refine loopI (fun ((i, m, a, b, c) : Nat × Int × AV × AV × AV) => ⟨[(0, .sl 0 (l.map leT)), (1, I m), (4, I 0), (5, I (i : Nat)), (11, a), (15, b), (25, c)], [], [], 0, 2⟩)
    (fun (i, m, _) => i ≤ l.length ∧ 0 ≤ m ∧ m ≤ 1048576 ∧ ∀ j, j < i → ∀ e, l[j]? = some e → okLe 1048576 e) (fun (i, _) => l.length - i) (0, left - l.length, _, _, _) rfl ⟨by omega, by omega, by omega, fun j hj => by omega⟩ ?_
  rintro ⟨i, m, a, b, c⟩ ⟨j1, j2, j3, j4⟩
  by_cases hi : i < l.length
  · have hx := hd _ (List.getElem_mem hi)
    simp [hi, leT]
    refine callR isFn107 (q107 l[i] m hx ⟨j2, j3⟩) ?_
    rintro _ ⟨n, rfl, e1, e2, e3⟩
    simp
    refine ⟨fun _ => SzR.no, fun h1 => ?_⟩
    have hlow := e3 (by omega)
    rw [wn _ (by omega)]
    refine RndI.mk (i + 1, _, _, _, _) rfl ⟨hi, (by first | omega | (dsimp only; omega)), (by first | omega | (dsimp only; omega)), fun j hj e he => ?_⟩ (by show l.length - (i + 1) < l.length - i; omega)
    by_cases hji : j = i
    · subst hji; rw [List.getElem?_eq_getElem hi] at he; cases he; exact hlow
    · exact j4 j (by omega) e he
  · simp [hi]
    refine SzR.yes (by omega) (by omega) ⟨by omega, fun e he => ?_⟩
    obtain ⟨j, hj, rfl⟩ := List.mem_iff_getElem.1 he
    exact j4 j (by omega) _ (List.getElem?_eq_getElem hj)
theorem q82 (x : Bu) (left : Int) (h : okBu 140737488355328 x) (h' : 0 ≤ left ∧ left ≤ 1048576) : Pure Try.prog 82 [buV x, I left] (SzR (okBu 1048576 x)) := by
  refine Pure.intro mo Try.func82 rfl (by show 2 ≤ 12; omega) _ rfl [0, 1, 2, 4, 10] (by kernel_rfl) ?_
  simp [Try.f82]
  refine callR isFn96 (q96 x.leases left h.leases h.leasesA h') ?_
  rintro _ ⟨n1, rfl, a1, b1, c1⟩
  simp
  refine ⟨fun e1 => SzR.no, fun e1 => ?_⟩
  replace c1 := c1 (by omega)
  exact SzR.yes (by omega) (by omega) ⟨c1.1, c1.2⟩
theorem q108 (x : Se) (left : Int) (h : okSe 140737488355328 x) (h' : 0 ≤ left ∧ left ≤ 1048576) : Pure Try.prog 108 [seV x, I left] (SzR (okSe 1048576 x)) := by
  refine Pure.intro mo Try.func108 rfl (by show 2 ≤ 13; omega) _ rfl [0, 1, 2, 4, 11] (by kernel_rfl) ?_
  simp [Try.f108]
  have hs1 := h.reply
  rw [wi _ (by omega)]
  refine ⟨fun e1 => SzR.no, fun e1 => ?_⟩
  exact SzR.yes (by omega) (by omega) ⟨by omega⟩
theorem q97 (l : List Se) (left : Int) (h : l.length ≤ 140737488355328) (hd : ∀ e ∈ l, okSe 140737488355328 e) (h' : 0 ≤ left ∧ left ≤ 1048576) : Pure Try.prog 97 [.sl 0 (l.map seT), I left] (SzR (l.length ≤ 1048576 ∧ ∀ e ∈ l, okSe 1048576 e)) := by
  refine Pure.intro mo Try.func97 rfl (by show 2 ≤ 27; omega) _ rfl [0, 1, 4, 5, 11, 15, 25] (by kernel_rfl) ?_
  simp [Try.f97]
  rw [wi _ (by omega)]
  refine ⟨fun e => SzR.no, fun h0 => ?_⟩
  refine loopI (fun ((i, m, a, b, c) : Nat × Int × AV × AV × AV) => ⟨[(0, .sl 0 (l.map seT)), (1, I m), (4, I 0), (5, I (i : Nat)), (11, a), (15, b), (25, c)], [], [], 0, 2⟩)
    (fun (i, m, _) => i ≤ l.length ∧ 0 ≤ m ∧ m ≤ 1048576 ∧ ∀ j, j < i → ∀ e, l[j]? = some e → okSe 1048576 e) (fun (i, _) => l.length - i) (0, left - l.length, _, _, _) rfl ⟨by omega, by omega, by omega, fun j hj => by omega⟩ ?_
  rintro ⟨i, m, a, b, c⟩ ⟨j1, j2, j3, j4⟩
  by_cases hi : i < l.length
  · have hx := hd _ (List.getElem_mem hi)
    simp [hi, seT]
    refine callR isFn108 (q108 l[i] m hx ⟨j2, j3⟩) ?_
    rintro _ ⟨n, rfl, e1, e2, e3⟩
    simp
    refine ⟨fun _ => SzR.no, fun h1 => ?_⟩
    have hlow := e3 (by omega)
    rw [wn _ (by omega)]
    refine RndI.mk (i + 1, _, _, _, _) rfl ⟨hi, (by first | omega | (dsimp only; omega)), (by first | omega | (dsimp only; omega)), fun j hj e he => ?_⟩ (by show l.length - (i + 1) < l.length - i; omega)
    by_cases hji : j = i
    · subst hji; rw [List.getElem?_eq_getElem hi] at he; cases he; exact hlow
    · exact j4 j (by omega) e he
  · simp [hi]
    refine SzR.yes (by omega) (by omega) ⟨by omega, fun e he => ?_⟩
    obtain ⟨j, hj, rfl⟩ := List.mem_iff_getElem.1 he
    exact j4 j (by omega) _ (List.getElem?_eq_getElem hj)
theorem q83 (x : De) (left : Int) (h : okDe 140737488355328 x) (h' : 0 ≤ left ∧ left ≤ 1048576) : Pure Try.prog 83 [deV x, I left] (SzR (okDe 1048576 x)) := by
  refine Pure.intro mo Try.func83 rfl (by show 2 ≤ 12; omega) _ rfl [0, 1, 2, 4, 10] (by kernel_rfl) ?_
  simp [Try.f83]
  refine callR isFn97 (q97 x.sessions left h.sessions h.sessionsA h') ?_
  rintro _ ⟨n1, rfl, a1, b1, c1⟩
  simp
  refine ⟨fun e1 => SzR.no, fun e1 => ?_⟩
  replace c1 := c1 (by omega)
  exact SzR.yes (by omega) (by omega) ⟨c1.1, c1.2⟩
theorem q67 (x : St) (left : Int) (h : okSt 140737488355328 x) (h' : 0 ≤ left ∧ left ≤ 1048576) : Pure Try.prog 67 [stV x, I left] (SzR (okSt 1048576 x)) := by
  refine Pure.intro mo Try.func67 rfl (by show 2 ≤ 24; omega) _ rfl [0, 1, 2, 4, 10, 16, 22] (by kernel_rfl) ?_
  simp [Try.f67]
  refine callR isFn81 (q81 x.plan left h.plan h') ?_
  rintro _ ⟨n1, rfl, a1, b1, c1⟩
  simp
  refine ⟨fun e1 => SzR.no, fun e1 => ?_⟩
  replace c1 := c1 (by omega)
  refine callR isFn82 (q82 x.book n1 h.book ⟨by omega, by omega⟩) ?_
  rintro _ ⟨n2, rfl, a2, b2, c2⟩
  simp
  refine ⟨fun e2 => SzR.no, fun e2 => ?_⟩
  replace c2 := c2 (by omega)
  refine callR isFn83 (q83 x.desk n2 h.desk ⟨by omega, by omega⟩) ?_
  rintro _ ⟨n3, rfl, a3, b3, c3⟩
  simp
  refine ⟨fun e3 => SzR.no, fun e3 => ?_⟩
  replace c3 := c3 (by omega)
  exact SzR.yes (by omega) (by omega) ⟨c1, c2, c3⟩
theorem q68 (x : Fi) (left : Int) (h : okFi 140737488355328 x) (h' : 0 ≤ left ∧ left ≤ 1048576) : Pure Try.prog 68 [fiV x, I left] (SzR (okFi 1048576 x)) := by
  refine Pure.intro mo Try.func68 rfl (by show 2 ≤ 12; omega) _ rfl [0, 1, 2, 4, 10] (by kernel_rfl) ?_
  simp [Try.f68]
  refine callR isFn69 (q69 x.bytes left h.bytes h') ?_
  rintro _ ⟨n1, rfl, a1, b1, c1⟩
  simp
  refine ⟨fun e1 => SzR.no, fun e1 => ?_⟩
  replace c1 := c1 (by omega)
  exact SzR.yes (by omega) (by omega) ⟨c1⟩
theorem q43 (x : Rp) (left : Int) (h : okRp 140737488355328 x) (h' : 0 ≤ left ∧ left ≤ 1048576) : Pure Try.prog 43 [rpV x, I left] (SzR (okRp 1048576 x)) := by
  refine Pure.intro mo Try.func43 rfl (by show 2 ≤ 24; omega) _ rfl [0, 1, 2, 4, 10, 16, 22] (by kernel_rfl) ?_
  simp [Try.f43]
  refine callR isFn66 (q66 x.n left h.n h') ?_
  rintro _ ⟨n1, rfl, a1, b1, c1⟩
  simp
  refine ⟨fun e1 => SzR.no, fun e1 => ?_⟩
  replace c1 := c1 (by omega)
  refine callR isFn67 (q67 x.s n1 h.s ⟨by omega, by omega⟩) ?_
  rintro _ ⟨n2, rfl, a2, b2, c2⟩
  simp
  refine ⟨fun e2 => SzR.no, fun e2 => ?_⟩
  replace c2 := c2 (by omega)
  refine callR isFn68 (q68 x.f n2 h.f ⟨by omega, by omega⟩) ?_
  rintro _ ⟨n3, rfl, a3, b3, c3⟩
  simp
  refine ⟨fun e3 => SzR.no, fun e3 => ?_⟩
  replace c3 := c3 (by omega)
  exact SzR.yes (by omega) (by omega) ⟨c1, c2, c3⟩
theorem q21 (l : List Rp) (left : Int) (h : l.length ≤ 140737488355328) (hd : ∀ e ∈ l, okRp 140737488355328 e) (h' : 0 ≤ left ∧ left ≤ 1048576) : Pure Try.prog 21 [.sl 0 (l.map rpT), I left] (SzR (l.length ≤ 1048576 ∧ ∀ e ∈ l, okRp 1048576 e)) := by
  refine Pure.intro mo Try.func21 rfl (by show 2 ≤ 27; omega) _ rfl [0, 1, 4, 5, 11, 15, 25] (by kernel_rfl) ?_
  simp [Try.f21]
  rw [wi _ (by omega)]
  refine ⟨fun e => SzR.no, fun h0 => ?_⟩
  refine loopI (fun ((i, m, a, b, c) : Nat × Int × AV × AV × AV) => ⟨[(0, .sl 0 (l.map rpT)), (1, I m), (4, I 0), (5, I (i : Nat)), (11, a), (15, b), (25, c)], [], [], 0, 2⟩)
    (fun (i, m, _) => i ≤ l.length ∧ 0 ≤ m ∧ m ≤ 1048576 ∧ ∀ j, j < i → ∀ e, l[j]? = some e → okRp 1048576 e) (fun (i, _) => l.length - i) (0, left - l.length, _, _, _) rfl ⟨by omega, by omega, by omega, fun j hj => by omega⟩ ?_
  rintro ⟨i, m, a, b, c⟩ ⟨j1, j2, j3, j4⟩
  by_cases hi : i < l.length
  · have hx := hd _ (List.getElem_mem hi)
    simp [hi, rpT]
    refine callR isFn43 (q43 l[i] m hx ⟨j2, j3⟩) ?_
    rintro _ ⟨n, rfl, e1, e2, e3⟩
    simp
    refine ⟨fun _ => SzR.no, fun h1 => ?_⟩
    have hlow := e3 (by omega)
    rw [wn _ (by omega)]
    refine RndI.mk (i + 1, _, _, _, _) rfl ⟨hi, (by first | omega | (dsimp only; omega)), (by first | omega | (dsimp only; omega)), fun j hj e he => ?_⟩ (by show l.length - (i + 1) < l.length - i; omega)
    by_cases hji : j = i
    · subst hji; rw [List.getElem?_eq_getElem hi] at he; cases he; exact hlow
    · exact j4 j (by omega) e he
  · simp [hi]
    refine SzR.yes (by omega) (by omega) ⟨by omega, fun e he => ?_⟩
    obtain ⟨j, hj, rfl⟩ := List.mem_iff_getElem.1 he
    exact j4 j (by omega) _ (List.getElem?_eq_getElem hj)
theorem q45 (x : Mg) (left : Int) (h : okMg 140737488355328 x) (h' : 0 ≤ left ∧ left ≤ 1048576) : Pure Try.prog 45 [mg x, I left] (SzR (okMg 1048576 x)) := by
  refine Pure.intro mo Try.func45 rfl (by show 2 ≤ 24; omega) _ rfl [0, 1, 2, 4, 10, 16, 22] (by kernel_rfl) ?_
  simp [Try.f45]
  refine callR isFn25 (q25 x.entries left h.entries h.entriesA h') ?_
  rintro _ ⟨n1, rfl, a1, b1, c1⟩
  simp
  refine ⟨fun e1 => SzR.no, fun e1 => ?_⟩
  replace c1 := c1 (by omega)
  refine callR isFn69 (q69 x.data n1 h.data ⟨by omega, by omega⟩) ?_
  rintro _ ⟨n2, rfl, a2, b2, c2⟩
  simp
  refine ⟨fun e2 => SzR.no, fun e2 => ?_⟩
  replace c2 := c2 (by omega)
  refine callR isFn22 (q22 x.now x.next n2 h.now h.next ⟨by omega, by omega⟩) ?_
  rintro _ ⟨n3, rfl, a3, b3, c3⟩
  simp
  refine ⟨fun e3 => SzR.no, fun e3 => ?_⟩
  replace c3 := c3 (by omega)
  exact SzR.yes (by omega) (by omega) ⟨c1.1, c1.2, c2, c3.1, c3.2⟩
theorem q23 (l : List Mg) (left : Int) (h : l.length ≤ 140737488355328) (hd : ∀ e ∈ l, okMg 140737488355328 e) (h' : 0 ≤ left ∧ left ≤ 1048576) : Pure Try.prog 23 [.sl 0 (l.map mgT), I left] (SzR (l.length ≤ 1048576 ∧ ∀ e ∈ l, okMg 1048576 e)) := by
  refine Pure.intro mo Try.func23 rfl (by show 2 ≤ 27; omega) _ rfl [0, 1, 4, 5, 11, 15, 25] (by kernel_rfl) ?_
  simp [Try.f23]
  rw [wi _ (by omega)]
  refine ⟨fun e => SzR.no, fun h0 => ?_⟩
  refine loopI (fun ((i, m, a, b, c) : Nat × Int × AV × AV × AV) => ⟨[(0, .sl 0 (l.map mgT)), (1, I m), (4, I 0), (5, I (i : Nat)), (11, a), (15, b), (25, c)], [], [], 0, 2⟩)
    (fun (i, m, _) => i ≤ l.length ∧ 0 ≤ m ∧ m ≤ 1048576 ∧ ∀ j, j < i → ∀ e, l[j]? = some e → okMg 1048576 e) (fun (i, _) => l.length - i) (0, left - l.length, _, _, _) rfl ⟨by omega, by omega, by omega, fun j hj => by omega⟩ ?_
  rintro ⟨i, m, a, b, c⟩ ⟨j1, j2, j3, j4⟩
  by_cases hi : i < l.length
  · have hx := hd _ (List.getElem_mem hi)
    simp [hi, mgT]
    refine callR isFn45 (q45 l[i] m hx ⟨j2, j3⟩) ?_
    rintro _ ⟨n, rfl, e1, e2, e3⟩
    simp
    refine ⟨fun _ => SzR.no, fun h1 => ?_⟩
    have hlow := e3 (by omega)
    rw [wn _ (by omega)]
    refine RndI.mk (i + 1, _, _, _, _) rfl ⟨hi, (by first | omega | (dsimp only; omega)), (by first | omega | (dsimp only; omega)), fun j hj e he => ?_⟩ (by show l.length - (i + 1) < l.length - i; omega)
    by_cases hji : j = i
    · subst hji; rw [List.getElem?_eq_getElem hi] at he; cases he; exact hlow
    · exact j4 j (by omega) e he
  · simp [hi]
    refine SzR.yes (by omega) (by omega) ⟨by omega, fun e he => ?_⟩
    obtain ⟨j, hj, rfl⟩ := List.mem_iff_getElem.1 he
    exact j4 j (by omega) _ (List.getElem?_eq_getElem hj)
theorem q24 (l : List (Int × Int)) (left : Int) (h : l.length ≤ 140737488355328) (h' : 0 ≤ left ∧ left ≤ 1048576) : Pure Try.prog 24 [.sl 0 (l.map prc), I left] (SzR (l.length ≤ 1048576)) := by
  refine Pure.intro mo Try.func24 rfl (by show 2 ≤ 12; omega) _ rfl [0, 1, 4, 10] (by kernel_rfl) ?_
  simp [Try.f24]
  rw [wi _ (by omega)]
  exact ⟨fun e => SzR.no, fun e => SzR.yes (by omega) (by omega) (by omega)⟩
theorem q26 (l : List ByteArray) (left : Int) (h : l.length ≤ 140737488355328) (hd : ∀ e ∈ l, okStr 140737488355328 e) (h' : 0 ≤ left ∧ left ≤ 1048576) : Pure Try.prog 26 [.sl 0 (l.map strc), I left] (SzR (l.length ≤ 1048576 ∧ ∀ e ∈ l, okStr 1048576 e)) := by
  refine Pure.intro mo Try.func26 rfl (by show 2 ≤ 28; omega) _ rfl [0, 1, 4, 5, 11, 15, 26] (by kernel_rfl) ?_
  simp [Try.f26]
  rw [wi _ (by omega)]
  refine ⟨fun e => SzR.no, fun h0 => ?_⟩
  refine loopI (fun ((i, m, a, b, c) : Nat × Int × AV × AV × AV) => ⟨[(0, .sl 0 (l.map strc)), (1, I m), (4, I 0), (5, I (i : Nat)), (11, a), (15, b), (26, c)], [], [], 0, 2⟩)
    (fun (i, m, _) => i ≤ l.length ∧ 0 ≤ m ∧ m ≤ 1048576 ∧ ∀ j, j < i → ∀ e, l[j]? = some e → okStr 1048576 e) (fun (i, _) => l.length - i) (0, left - l.length, _, _, _) rfl ⟨by omega, by omega, by omega, fun j hj => by omega⟩ ?_
  rintro ⟨i, m, a, b, c⟩ ⟨j1, j2, j3, j4⟩
  by_cases hi : i < l.length
  · have hx := hd _ (List.getElem_mem hi)
    have hx2 : l[i].size ≤ 140737488355328 := hx
    simp [hi, strc]
    rw [wi _ (by omega)]
    refine ⟨fun _ => SzR.no, fun h1 => ?_⟩
    have hlow : okStr 1048576 l[i] := by show l[i].size ≤ 1048576; omega
    rw [wn _ (by omega)]
    refine RndI.mk (i + 1, m - (l[i].size : Int), _, _, _) rfl ⟨hi, (by first | omega | (dsimp only; omega)), (by first | omega | (dsimp only; omega)), fun j hj e he => ?_⟩ (by show l.length - (i + 1) < l.length - i; omega)
    by_cases hji : j = i
    · subst hji; rw [List.getElem?_eq_getElem hi] at he; cases he; exact hlow
    · exact j4 j (by omega) e he
  · simp [hi]
    refine SzR.yes (by omega) (by omega) ⟨by omega, fun e he => ?_⟩
    obtain ⟨j, hj, rfl⟩ := List.mem_iff_getElem.1 he
    exact j4 j (by omega) _ (List.getElem?_eq_getElem hj)
theorem q8 (x : Cl) (left : Int) (h : okCl 140737488355328 x) (h' : 0 ≤ left ∧ left ≤ 1048576) : Pure Try.prog 8 [clV x, I left] (SzR (okCl 1048576 x)) := by
  refine Pure.intro mo Try.func8 rfl (by show 2 ≤ 42; omega) _ rfl [0, 1, 2, 4, 10, 16, 22, 28, 34, 40] (by kernel_rfl) ?_
  simp [Try.f8]
  refine callR isFn21 (q21 x.r left h.r h.rA h') ?_
  rintro _ ⟨n1, rfl, a1, b1, c1⟩
  simp
  refine ⟨fun e1 => SzR.no, fun e1 => ?_⟩
  replace c1 := c1 (by omega)
  refine callR isFn22 (q22 x.now x.next n1 h.now h.next ⟨by omega, by omega⟩) ?_
  rintro _ ⟨n2, rfl, a2, b2, c2⟩
  simp
  refine ⟨fun e2 => SzR.no, fun e2 => ?_⟩
  replace c2 := c2 (by omega)
  refine callR isFn23 (q23 x.net n2 h.net h.netA ⟨by omega, by omega⟩) ?_
  rintro _ ⟨n3, rfl, a3, b3, c3⟩
  simp
  refine ⟨fun e3 => SzR.no, fun e3 => ?_⟩
  replace c3 := c3 (by omega)
  refine callR isFn24 (q24 x.led n3 h.led ⟨by omega, by omega⟩) ?_
  rintro _ ⟨n4, rfl, a4, b4, c4⟩
  simp
  refine ⟨fun e4 => SzR.no, fun e4 => ?_⟩
  replace c4 := c4 (by omega)
  refine callR isFn25 (q25 x.done n4 h.done h.doneA ⟨by omega, by omega⟩) ?_
  rintro _ ⟨n5, rfl, a5, b5, c5⟩
  simp
  refine ⟨fun e5 => SzR.no, fun e5 => ?_⟩
  replace c5 := c5 (by omega)
  refine callR isFn26 (q26 x.said n5 h.said h.saidA ⟨by omega, by omega⟩) ?_
  rintro _ ⟨n6, rfl, a6, b6, c6⟩
  simp
  refine ⟨fun e6 => SzR.no, fun e6 => ?_⟩
  replace c6 := c6 (by omega)
  exact SzR.yes (by omega) (by omega) ⟨c1.1, c1.2, c2.1, c2.2, c3.1, c3.2, c4, c5.1, c5.2, c6.1, c6.2⟩
end Go.Proofs
