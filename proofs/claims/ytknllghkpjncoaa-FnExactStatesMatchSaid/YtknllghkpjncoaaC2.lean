/- What was copied is like what was handed in. -/
import Derived.Test.YtknllghkpjncoaaC1
set_option linter.unusedVariables false
set_option linter.unusedSimpArgs false
set_option maxRecDepth 100000
namespace Go.Proofs
open Go VC

theorem p55 (p : Int × Int) : Pure Try.prog 55 [.agg [I p.1, I p.2], .agg [I p.1, I p.2]] (· = Bo true) := by
  refine Pure.intro mo Try.func55 rfl (by show 2 ≤ 17; omega) _ rfl [0, 1, 2, 3, 4, 5, 7, 16] (by kernel_rfl) ?_
  simp [Try.f55]
  refine loopI (fun ((i, x, y) : Nat × AV × AV) => ⟨[(0, .agg [I p.1, I p.2]), (1, .agg [I p.1, I p.2]), (2, .ptr 0 0), (3, .ptr 1 0), (4, Bo false), (5, I (i : Nat)), (7, x), (16, y)], [(1, .box [I p.1, I p.2]), (0, .box [I p.1, I p.2])], [], 2, 2⟩)
    (fun (i, _) => i ≤ 2) (fun (i, _) => 2 - i) (0, _, _) rfl (by show 0 ≤ 2; omega) ?_
  rintro ⟨i, x, y⟩ j1
  have hi : i = 0 ∨ i = 1 ∨ i = 2 := by have : i ≤ 2 := j1; omega
  rcases hi with rfl | rfl | rfl
  · simp
    refine ⟨[false, false, false, false, false, false, true], by kernel_rfl, ?_⟩
    simp
    rw [wi 1 (by omega)]
    exact RndI.mk (1, _, _) rfl (by show 1 ≤ 2; omega) (by show 2 - 1 < 2 - 0; omega)
  · simp
    refine ⟨[false, false, false, false, false, false, true], by kernel_rfl, ?_⟩
    simp
    rw [wi 2 (by omega)]
    exact RndI.mk (2, _, _) rfl (by show 2 ≤ 2; omega) (by show 2 - 2 < 2 - 1; omega)
  · simp
theorem p120 (x : Ad) : Pure Try.prog 120 [adV x, adV x] (· = Bo true) := by
  refine Pure.intro mo Try.func120 rfl (by show 2 ≤ 20; omega) _ rfl [0, 1, 2, 3, 4, 9, 14, 19] (by kernel_rfl) ?_
  simp [Try.f120]
theorem p119 (x : Pf) : Pure Try.prog 119 [pfV x, pfV x] (· = Bo true) := by
  refine Pure.intro mo Try.func119 rfl (by show 2 ≤ 16; omega) _ rfl [0, 1, 2, 3, 4, 10, 15] (by kernel_rfl) ?_
  simp [Try.f119]
  refine call0 isFn120 (p120 x.loc) ?_
  simp
theorem p113 (x : Po) : Pure Try.prog 113 [poV x, poV x] (· = Bo true) := by
  refine Pure.intro mo Try.func113 rfl (by show 2 ≤ 16; omega) _ rfl [0, 1, 2, 3, 4, 10, 15] (by kernel_rfl) ?_
  simp [Try.f113]
  refine call0 isFn119 (p119 x.loc) ?_
  simp
theorem p102 (a : List Po) (h : a.length ≤ 1048576) : Pure Try.prog 102 [.sl 0 (a.map poT), .sl 0 (a.map poT)] (· = Bo true) := by
  refine Pure.intro mo Try.func102 rfl (by show 2 ≤ 27; omega) _ rfl [0, 1, 4, 5, 10, 14, 26] (by kernel_rfl) ?_
  simp [Try.f102]
  refine loopI (fun ((i, x, y, z) : Nat × AV × AV × AV) => ⟨[(0, .sl 0 (a.map poT)), (1, .sl 0 (a.map poT)), (4, Bo false), (5, I (i : Nat)), (10, x), (14, y), (26, z)], [], [], 0, 2⟩)
    (fun (i, _, _, _) => i ≤ a.length) (fun (i, _) => a.length - i) (0, _, _, _) rfl (by show 0 ≤ a.length; omega) ?_
  rintro ⟨i, x, y, z⟩ j1
  replace j1 : i ≤ a.length := j1
  by_cases hi : i < a.length
  · simp [hi, poT]
    refine ⟨[false, false, false, false, false, false, false, false, true, true], by kernel_rfl, ?_⟩
    simp [hi, poT]
    first | refine call0 isFn113 (p113 a[i]) ?_ | refine qcall0 isFn113 (p113 a[i]) ?_
    simp
    rw [wn _ (by omega)]
    exact RndI.mk (i + 1, _, _, _) rfl hi (by show a.length - (i + 1) < a.length - i; omega)
  · simp [hi]
theorem p114 (x : Bk) (h : okBk 1048576 x) : Pure Try.prog 114 [bkV x, bkV x] (· = Bo true) := by
  refine Pure.intro mo Try.func114 rfl (by show 2 ≤ 16; omega) _ rfl [0, 1, 2, 3, 4, 10, 15] (by kernel_rfl) ?_
  simp [Try.f114]
  refine call0 isFn119 (p119 x.loc) ?_
  simp
theorem p103 (a : List Bk) (h : a.length ≤ 1048576) (hd : ∀ e ∈ a, okBk 1048576 e) : Pure Try.prog 103 [.sl 0 (a.map bkT), .sl 0 (a.map bkT)] (· = Bo true) := by
  refine Pure.intro mo Try.func103 rfl (by show 2 ≤ 27; omega) _ rfl [0, 1, 4, 5, 10, 14, 26] (by kernel_rfl) ?_
  simp [Try.f103]
  refine loopI (fun ((i, x, y, z) : Nat × AV × AV × AV) => ⟨[(0, .sl 0 (a.map bkT)), (1, .sl 0 (a.map bkT)), (4, Bo false), (5, I (i : Nat)), (10, x), (14, y), (26, z)], [], [], 0, 2⟩)
    (fun (i, _, _, _) => i ≤ a.length) (fun (i, _) => a.length - i) (0, _, _, _) rfl (by show 0 ≤ a.length; omega) ?_
  rintro ⟨i, x, y, z⟩ j1
  replace j1 : i ≤ a.length := j1
  by_cases hi : i < a.length
  · simp [hi, bkT]
    refine ⟨[false, false, false, false, false, false, false, false, true, true], by kernel_rfl, ?_⟩
    simp [hi, bkT]
    first | refine call0 isFn114 (p114 a[i] (hd _ (List.getElem_mem hi))) ?_ | refine qcall0 isFn114 (p114 a[i] (hd _ (List.getElem_mem hi))) ?_
    simp
    rw [wn _ (by omega)]
    exact RndI.mk (i + 1, _, _, _) rfl hi (by show a.length - (i + 1) < a.length - i; omega)
  · simp [hi]
theorem p91 (x : Pn) (h : okPn 1048576 x) : Pure Try.prog 91 [pnV x, pnV x] (· = Bo true) := by
  refine Pure.intro mo Try.func91 rfl (by show 2 ≤ 17; omega) _ rfl [0, 1, 2, 3, 4, 10, 16] (by kernel_rfl) ?_
  simp [Try.f91]
  refine call0 isFn102 (p102 x.pools h.pools) ?_
  simp
  refine call0 isFn103 (p103 x.blocks h.blocks h.blocksA) ?_
  simp
theorem p115 (x : Le) (h : okLe 1048576 x) : Pure Try.prog 115 [leV x, leV x] (· = Bo true) := by
  refine Pure.intro mo Try.func115 rfl (by show 2 ≤ 26; omega) _ rfl [0, 1, 2, 3, 4, 10, 15, 20, 25] (by kernel_rfl) ?_
  simp [Try.f115]
  refine call0 isFn120 (p120 x.loc) ?_
  simp
theorem p104 (a : List Le) (h : a.length ≤ 1048576) (hd : ∀ e ∈ a, okLe 1048576 e) : Pure Try.prog 104 [.sl 0 (a.map leT), .sl 0 (a.map leT)] (· = Bo true) := by
  refine Pure.intro mo Try.func104 rfl (by show 2 ≤ 27; omega) _ rfl [0, 1, 4, 5, 10, 14, 26] (by kernel_rfl) ?_
  simp [Try.f104]
  refine loopI (fun ((i, x, y, z) : Nat × AV × AV × AV) => ⟨[(0, .sl 0 (a.map leT)), (1, .sl 0 (a.map leT)), (4, Bo false), (5, I (i : Nat)), (10, x), (14, y), (26, z)], [], [], 0, 2⟩)
    (fun (i, _, _, _) => i ≤ a.length) (fun (i, _) => a.length - i) (0, _, _, _) rfl (by show 0 ≤ a.length; omega) ?_
  rintro ⟨i, x, y, z⟩ j1
  replace j1 : i ≤ a.length := j1
  by_cases hi : i < a.length
  · simp [hi, leT]
    refine ⟨[false, false, false, false, false, false, false, false, true, true], by kernel_rfl, ?_⟩
    simp [hi, leT]
    first | refine call0 isFn115 (p115 a[i] (hd _ (List.getElem_mem hi))) ?_ | refine qcall0 isFn115 (p115 a[i] (hd _ (List.getElem_mem hi))) ?_
    simp
    rw [wn _ (by omega)]
    exact RndI.mk (i + 1, _, _, _) rfl hi (by show a.length - (i + 1) < a.length - i; omega)
  · simp [hi]
theorem p92 (x : Bu) (h : okBu 1048576 x) : Pure Try.prog 92 [buV x, buV x] (· = Bo true) := by
  refine Pure.intro mo Try.func92 rfl (by show 2 ≤ 21; omega) _ rfl [0, 1, 2, 3, 4, 10, 15, 20] (by kernel_rfl) ?_
  simp [Try.f92]
  refine call0 isFn104 (p104 x.leases h.leases h.leasesA) ?_
  simp
theorem p116 (x : Se) (h : okSe 1048576 x) : Pure Try.prog 116 [seV x, seV x] (· = Bo true) := by
  refine Pure.intro mo Try.func116 rfl (by show 2 ≤ 25; omega) _ rfl [0, 1, 2, 3, 4, 9, 14, 19, 24] (by kernel_rfl) ?_
  simp [Try.f116]
theorem p105 (a : List Se) (h : a.length ≤ 1048576) (hd : ∀ e ∈ a, okSe 1048576 e) : Pure Try.prog 105 [.sl 0 (a.map seT), .sl 0 (a.map seT)] (· = Bo true) := by
  refine Pure.intro mo Try.func105 rfl (by show 2 ≤ 27; omega) _ rfl [0, 1, 4, 5, 10, 14, 26] (by kernel_rfl) ?_
  simp [Try.f105]
  refine loopI (fun ((i, x, y, z) : Nat × AV × AV × AV) => ⟨[(0, .sl 0 (a.map seT)), (1, .sl 0 (a.map seT)), (4, Bo false), (5, I (i : Nat)), (10, x), (14, y), (26, z)], [], [], 0, 2⟩)
    (fun (i, _, _, _) => i ≤ a.length) (fun (i, _) => a.length - i) (0, _, _, _) rfl (by show 0 ≤ a.length; omega) ?_
  rintro ⟨i, x, y, z⟩ j1
  replace j1 : i ≤ a.length := j1
  by_cases hi : i < a.length
  · simp [hi, seT]
    refine ⟨[false, false, false, false, false, false, false, false, true, true], by kernel_rfl, ?_⟩
    simp [hi, seT]
    first | refine call0 isFn116 (p116 a[i] (hd _ (List.getElem_mem hi))) ?_ | refine qcall0 isFn116 (p116 a[i] (hd _ (List.getElem_mem hi))) ?_
    simp
    rw [wn _ (by omega)]
    exact RndI.mk (i + 1, _, _, _) rfl hi (by show a.length - (i + 1) < a.length - i; omega)
  · simp [hi]
theorem p93 (x : De) (h : okDe 1048576 x) : Pure Try.prog 93 [deV x, deV x] (· = Bo true) := by
  refine Pure.intro mo Try.func93 rfl (by show 2 ≤ 16; omega) _ rfl [0, 1, 2, 3, 4, 10, 15] (by kernel_rfl) ?_
  simp [Try.f93]
  refine call0 isFn105 (p105 x.sessions h.sessions h.sessionsA) ?_
  simp
theorem p75 (x : St) (h : okSt 1048576 x) : Pure Try.prog 75 [stV x, stV x] (· = Bo true) := by
  refine Pure.intro mo Try.func75 rfl (by show 2 ≤ 28; omega) _ rfl [0, 1, 2, 3, 4, 10, 16, 22, 27] (by kernel_rfl) ?_
  simp [Try.f75]
  refine call0 isFn91 (p91 x.plan h.plan) ?_
  simp
  refine call0 isFn92 (p92 x.book h.book) ?_
  simp
  refine call0 isFn93 (p93 x.desk h.desk) ?_
  simp
theorem p76 (x : Fi) (h : okFi 1048576 x) : Pure Try.prog 76 [fiV x, fiV x] (· = Bo true) := by
  refine Pure.intro mo Try.func76 rfl (by show 2 ≤ 16; omega) _ rfl [0, 1, 2, 3, 4, 10, 15] (by kernel_rfl) ?_
  simp [Try.f76]
  refine call0 isFn77 (p77 x.bytes (Nat.le_trans h.bytes (of_decide_eq_true (by kernel_rfl)))) ?_
  simp
theorem p52 (x : Rp) (h : okRp 1048576 x) : Pure Try.prog 52 [rpV x, rpV x] (· = Bo true) := by
  refine Pure.intro mo Try.func52 rfl (by show 2 ≤ 33; omega) _ rfl [0, 1, 2, 3, 4, 10, 16, 21, 27, 32] (by kernel_rfl) ?_
  simp [Try.f52]
  refine call0 isFn74 (p74 x.n h.n.low) ?_
  simp
  refine call0 isFn75 (p75 x.s h.s) ?_
  simp
  refine call0 isFn76 (p76 x.f h.f) ?_
  simp
theorem p33 (a : List Rp) (h : a.length ≤ 1048576) (hd : ∀ e ∈ a, okRp 1048576 e) : Pure Try.prog 33 [.sl 0 (a.map rpT), .sl 0 (a.map rpT)] (· = Bo true) := by
  refine Pure.intro mo Try.func33 rfl (by show 2 ≤ 27; omega) _ rfl [0, 1, 4, 5, 10, 14, 26] (by kernel_rfl) ?_
  simp [Try.f33]
  refine loopI (fun ((i, x, y, z) : Nat × AV × AV × AV) => ⟨[(0, .sl 0 (a.map rpT)), (1, .sl 0 (a.map rpT)), (4, Bo false), (5, I (i : Nat)), (10, x), (14, y), (26, z)], [], [], 0, 2⟩)
    (fun (i, _, _, _) => i ≤ a.length) (fun (i, _) => a.length - i) (0, _, _, _) rfl (by show 0 ≤ a.length; omega) ?_
  rintro ⟨i, x, y, z⟩ j1
  replace j1 : i ≤ a.length := j1
  by_cases hi : i < a.length
  · simp [hi, rpT]
    refine ⟨[false, false, false, false, false, false, false, false, true, true], by kernel_rfl, ?_⟩
    simp [hi, rpT]
    first | refine call0 isFn52 (p52 a[i] (hd _ (List.getElem_mem hi))) ?_ | refine qcall0 isFn52 (p52 a[i] (hd _ (List.getElem_mem hi))) ?_
    simp
    rw [wn _ (by omega)]
    exact RndI.mk (i + 1, _, _, _) rfl hi (by show a.length - (i + 1) < a.length - i; omega)
  · simp [hi]
theorem p54 (x : Mg) (h : okMg 1048576 x) : Pure Try.prog 54 [mg x, mg x] (· = Bo true) := by
  refine Pure.intro mo Try.func54 rfl (by show 2 ≤ 63; omega) _ rfl [0, 1, 2, 3, 4, 9, 14, 19, 24, 29, 34, 40, 45, 50, 56, 62] (by kernel_rfl) ?_
  simp [Try.f54]
  refine call0 isFn37 (p37 x.entries (Nat.le_trans h.entries (of_decide_eq_true (by kernel_rfl))) (fun e he => (Nat.le_trans ((okEnt.low h.entriesA) e he) (of_decide_eq_true (by kernel_rfl))))) ?_
  simp
  refine call0 isFn77 (p77 x.data (Nat.le_trans h.data (of_decide_eq_true (by kernel_rfl)))) ?_
  simp
  refine call0 isFn34 (p34 x.now x.next (Nat.le_trans h.now (of_decide_eq_true (by kernel_rfl))) (Nat.le_trans h.next (of_decide_eq_true (by kernel_rfl)))) ?_
  simp
theorem p35 (a : List Mg) (h : a.length ≤ 1048576) (hd : ∀ e ∈ a, okMg 1048576 e) : Pure Try.prog 35 [.sl 0 (a.map mgT), .sl 0 (a.map mgT)] (· = Bo true) := by
  refine Pure.intro mo Try.func35 rfl (by show 2 ≤ 27; omega) _ rfl [0, 1, 4, 5, 10, 14, 26] (by kernel_rfl) ?_
  simp [Try.f35]
  refine loopI (fun ((i, x, y, z) : Nat × AV × AV × AV) => ⟨[(0, .sl 0 (a.map mgT)), (1, .sl 0 (a.map mgT)), (4, Bo false), (5, I (i : Nat)), (10, x), (14, y), (26, z)], [], [], 0, 2⟩)
    (fun (i, _, _, _) => i ≤ a.length) (fun (i, _) => a.length - i) (0, _, _, _) rfl (by show 0 ≤ a.length; omega) ?_
  rintro ⟨i, x, y, z⟩ j1
  replace j1 : i ≤ a.length := j1
  by_cases hi : i < a.length
  · simp [hi, mgT]
    refine ⟨[false, false, false, false, false, false, false, false, true, true], by kernel_rfl, ?_⟩
    simp [hi, mgT]
    first | refine call0 isFn54 (p54 a[i] (hd _ (List.getElem_mem hi))) ?_ | refine qcall0 isFn54 (p54 a[i] (hd _ (List.getElem_mem hi))) ?_
    simp
    rw [wn _ (by omega)]
    exact RndI.mk (i + 1, _, _, _) rfl hi (by show a.length - (i + 1) < a.length - i; omega)
  · simp [hi]
theorem p36 (a : List (Int × Int)) (h : a.length ≤ 1048576) : Pure Try.prog 36 [.sl 0 (a.map prc), .sl 0 (a.map prc)] (· = Bo true) := by
  refine Pure.intro mo Try.func36 rfl (by show 2 ≤ 27; omega) _ rfl [0, 1, 4, 5, 10, 14, 26] (by kernel_rfl) ?_
  simp [Try.f36]
  refine loopI (fun ((i, x, y, z) : Nat × AV × AV × AV) => ⟨[(0, .sl 0 (a.map prc)), (1, .sl 0 (a.map prc)), (4, Bo false), (5, I (i : Nat)), (10, x), (14, y), (26, z)], [], [], 0, 2⟩)
    (fun (i, _, _, _) => i ≤ a.length) (fun (i, _) => a.length - i) (0, _, _, _) rfl (by show 0 ≤ a.length; omega) ?_
  rintro ⟨i, x, y, z⟩ j1
  replace j1 : i ≤ a.length := j1
  by_cases hi : i < a.length
  · simp [hi, prc]
    refine ⟨[false, false, false, false, false, false, false, false, true, true], by kernel_rfl, ?_⟩
    simp [hi, prc]
    first | refine call0 isFn55 (p55 a[i]) ?_ | refine qcall0 isFn55 (p55 a[i]) ?_
    simp
    rw [wn _ (by omega)]
    exact RndI.mk (i + 1, _, _, _) rfl hi (by show a.length - (i + 1) < a.length - i; omega)
  · simp [hi]
theorem p38 (a : List ByteArray) (h : a.length ≤ 1048576) (hd : ∀ e ∈ a, okStr 1048576 e) : Pure Try.prog 38 [.sl 0 (a.map strc), .sl 0 (a.map strc)] (· = Bo true) := by
  refine Pure.intro mo Try.func38 rfl (by show 2 ≤ 26; omega) _ rfl [0, 1, 4, 5, 10, 14, 25] (by kernel_rfl) ?_
  simp [Try.f38]
  refine loopI (fun ((i, x, y, z) : Nat × AV × AV × AV) => ⟨[(0, .sl 0 (a.map strc)), (1, .sl 0 (a.map strc)), (4, Bo false), (5, I (i : Nat)), (10, x), (14, y), (25, z)], [], [], 0, 2⟩)
    (fun (i, _, _, _) => i ≤ a.length) (fun (i, _) => a.length - i) (0, _, _, _) rfl (by show 0 ≤ a.length; omega) ?_
  rintro ⟨i, x, y, z⟩ j1
  replace j1 : i ≤ a.length := j1
  by_cases hi : i < a.length
  · simp [hi, strc]
    refine ⟨[false, false, false, false, false, false, false, false, true], by kernel_rfl, ?_⟩
    simp [hi, strc]
    rw [wn _ (by omega)]
    exact RndI.mk (i + 1, _, _, _) rfl hi (by show a.length - (i + 1) < a.length - i; omega)
  · simp [hi]
theorem p12 (x : Cl) (h : okCl 1048576 x) : Pure Try.prog 12 [clV x, clV x] (· = Bo true) := by
  refine Pure.intro mo Try.func12 rfl (by show 2 ≤ 46; omega) _ rfl [0, 1, 2, 3, 4, 10, 16, 22, 28, 34, 40, 45] (by kernel_rfl) ?_
  simp [Try.f12]
  refine call0 isFn33 (p33 x.r h.r h.rA) ?_
  simp
  refine call0 isFn34 (p34 x.now x.next (Nat.le_trans h.now (of_decide_eq_true (by kernel_rfl))) (Nat.le_trans h.next (of_decide_eq_true (by kernel_rfl)))) ?_
  simp
  refine call0 isFn35 (p35 x.net h.net h.netA) ?_
  simp
  refine call0 isFn36 (p36 x.led h.led) ?_
  simp
  refine call0 isFn37 (p37 x.done (Nat.le_trans h.done (of_decide_eq_true (by kernel_rfl))) (fun e he => (Nat.le_trans ((okEnt.low h.doneA) e he) (of_decide_eq_true (by kernel_rfl))))) ?_
  simp
  refine call0 isFn38 (p38 x.said h.said h.saidA) ?_
  simp
end Go.Proofs
