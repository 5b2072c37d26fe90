/- What is handed in is copied as it is. -/
import Derived.Test.YtknllghkpjncoaaC0
set_option linter.unusedVariables false
set_option linter.unusedSimpArgs false
set_option maxRecDepth 100000
namespace Go.Proofs
open Go VC

theorem p50 (p : Int × Int) : Pure Try.prog 50 [.agg [I p.1, I p.2]] (· = .agg [I p.1, I p.2]) := by
  refine Pure.intro mo Try.func50 rfl (by show 1 ≤ 15; omega) _ rfl [0, 1, 2, 3, 4, 6] (by kernel_rfl) ?_
  simp [Try.f50]
  refine loopI (fun ((i, x) : Nat × AV) => ⟨[(0, .agg [I p.1, I p.2]), (1, .ptr 0 0), (2, .ptr 1 0), (3, .ptr 2 0), (4, I (i : Nat)), (6, x)], [(2, .box [I (if 0 < i then p.1 else 0), I (if 1 < i then p.2 else 0)]), (1, .box [I 0, I 0]), (0, .box [I p.1, I p.2])], [], 3, 2⟩)
    (fun (i, _) => i ≤ 2) (fun (i, _) => 2 - i) (0, _) rfl (by show 0 ≤ 2; omega) ?_
  rintro ⟨i, x⟩ j1
  have hi : i = 0 ∨ i = 1 ∨ i = 2 := by have : i ≤ 2 := j1; omega
  rcases hi with rfl | rfl | rfl
  · simp
    rw [wi 1 (by omega)]
    exact RndI.mk (1, _) rfl (by show 1 ≤ 2; omega) (by show 2 - 1 < 2 - 0; omega)
  · simp
    rw [wi 2 (by omega)]
    exact RndI.mk (2, _) rfl (by show 2 ≤ 2; omega) (by show 2 - 2 < 2 - 1; omega)
  · simp
theorem p118 (x : Ad) : Pure Try.prog 118 [adV x] (· = adV x) := by
  refine Pure.intro mo Try.func118 rfl (by show 1 ≤ 14; omega) _ rfl [0, 1, 2, 3] (by kernel_rfl) ?_
  simp [Try.f118]
theorem p117 (x : Pf) : Pure Try.prog 117 [pfV x] (· = pfV x) := by
  refine Pure.intro mo Try.func117 rfl (by show 1 ≤ 12; omega) _ rfl [0, 1, 2, 3] (by kernel_rfl) ?_
  simp [Try.f117]
  refine call0 isFn118 (p118 x.loc) ?_
  simp
theorem p109 (x : Po) : Pure Try.prog 109 [poV x] (· = poV x) := by
  refine Pure.intro mo Try.func109 rfl (by show 1 ≤ 12; omega) _ rfl [0, 1, 2, 3] (by kernel_rfl) ?_
  simp [Try.f109]
  refine call0 isFn117 (p117 x.loc) ?_
  simp
theorem p98 (l : List Po) (h : l.length ≤ 1048576) : Pure Try.prog 98 [.sl 0 (l.map poT)] (· = .sl 0 (l.map poT)) := by
  refine Pure.intro mo Try.func98 rfl (by show 1 ≤ 23; omega) _ rfl [0, 2, 3, 4, 11] (by kernel_rfl) ?_
  simp [Try.f98]
  refine ⟨by omega, by omega, ?_⟩
  refine loopI (fun ((i, x) : Nat × AV) => ⟨[(0, .sl 0 (l.map poT)), (2, .sl 1 []), (3, .arr 0 0 l.length), (4, I (i : Nat)), (11, x)], [(0, .row 5 (fillTo poT l [.sc (.bool false), .sc (.int .i64 0), .sc (.int .i64 0), .sc (.int .i64 0), .sc (.int .i64 0)] i))], [], 1, 2⟩)
    (fun (i, _) => i ≤ l.length) (fun (i, _) => l.length - i) (0, _) (by rw [fillTo_zero poT]; rfl) (by show 0 ≤ l.length; omega) ?_
  rintro ⟨i, x⟩ j1
  replace j1 : i ≤ l.length := j1
  by_cases hi : i < l.length
  · simp [hi, poT, fillTo_get _ _ _ hi]
    refine call0 isFn109 (p109 l[i]) ?_
    simp [hi, fillTo_get _ _ _ hi]
    rw [wn _ (by omega)]
    exact RndI.mk (i + 1, _) (by rw [← fillTo_set _ _ _ hi]; rfl) hi (by show l.length - (i + 1) < l.length - i; omega)
  · have : i = l.length := by omega
    subst this
    simp [fillTo_all, List.take_of_length_le]
theorem p110 (x : Bk) (h : okBk 1048576 x) : Pure Try.prog 110 [bkV x] (· = bkV x) := by
  refine Pure.intro mo Try.func110 rfl (by show 1 ≤ 12; omega) _ rfl [0, 1, 2, 3] (by kernel_rfl) ?_
  simp [Try.f110]
  refine call0 isFn117 (p117 x.loc) ?_
  simp
theorem p99 (l : List Bk) (h : l.length ≤ 1048576) (hd : ∀ e ∈ l, okBk 1048576 e) : Pure Try.prog 99 [.sl 0 (l.map bkT)] (· = .sl 0 (l.map bkT)) := by
  refine Pure.intro mo Try.func99 rfl (by show 1 ≤ 23; omega) _ rfl [0, 2, 3, 4, 11] (by kernel_rfl) ?_
  simp [Try.f99]
  refine ⟨by omega, by omega, ?_⟩
  refine loopI (fun ((i, x) : Nat × AV) => ⟨[(0, .sl 0 (l.map bkT)), (2, .sl 1 []), (3, .arr 0 0 l.length), (4, I (i : Nat)), (11, x)], [(0, .row 5 (fillTo bkT l [.sc (.bool false), .sc (.int .i64 0), .sc (.int .i64 0), .sc (.int .i64 0), .sc (.string ByteArray.empty)] i))], [], 1, 2⟩)
    (fun (i, _) => i ≤ l.length) (fun (i, _) => l.length - i) (0, _) (by rw [fillTo_zero bkT]; rfl) (by show 0 ≤ l.length; omega) ?_
  rintro ⟨i, x⟩ j1
  replace j1 : i ≤ l.length := j1
  by_cases hi : i < l.length
  · simp [hi, bkT, fillTo_get _ _ _ hi]
    refine call0 isFn110 (p110 l[i] (hd _ (List.getElem_mem hi))) ?_
    simp [hi, fillTo_get _ _ _ hi]
    rw [wn _ (by omega)]
    exact RndI.mk (i + 1, _) (by rw [← fillTo_set _ _ _ hi]; rfl) hi (by show l.length - (i + 1) < l.length - i; omega)
  · have : i = l.length := by omega
    subst this
    simp [fillTo_all, List.take_of_length_le]
theorem p86 (x : Pn) (h : okPn 1048576 x) : Pure Try.prog 86 [pnV x] (· = pnV x) := by
  refine Pure.intro mo Try.func86 rfl (by show 1 ≤ 13; omega) _ rfl [0, 1, 2, 3] (by kernel_rfl) ?_
  simp [Try.f86]
  refine call0 isFn98 (p98 x.pools h.pools) ?_
  simp
  refine call0 isFn99 (p99 x.blocks h.blocks h.blocksA) ?_
  simp
theorem p111 (x : Le) (h : okLe 1048576 x) : Pure Try.prog 111 [leV x] (· = leV x) := by
  refine Pure.intro mo Try.func111 rfl (by show 1 ≤ 18; omega) _ rfl [0, 1, 2, 3] (by kernel_rfl) ?_
  simp [Try.f111]
  refine call0 isFn118 (p118 x.loc) ?_
  simp
theorem p100 (l : List Le) (h : l.length ≤ 1048576) (hd : ∀ e ∈ l, okLe 1048576 e) : Pure Try.prog 100 [.sl 0 (l.map leT)] (· = .sl 0 (l.map leT)) := by
  refine Pure.intro mo Try.func100 rfl (by show 1 ≤ 23; omega) _ rfl [0, 2, 3, 4, 11] (by kernel_rfl) ?_
  simp [Try.f100]
  refine ⟨by omega, by omega, ?_⟩
  refine loopI (fun ((i, x) : Nat × AV) => ⟨[(0, .sl 0 (l.map leT)), (2, .sl 1 []), (3, .arr 0 0 l.length), (4, I (i : Nat)), (11, x)], [(0, .row 6 (fillTo leT l [.sc (.bool false), .sc (.int .i64 0), .sc (.int .i64 0), .sc (.string ByteArray.empty), .sc (.int .i64 0), .sc (.int .i64 0)] i))], [], 1, 2⟩)
    (fun (i, _) => i ≤ l.length) (fun (i, _) => l.length - i) (0, _) (by rw [fillTo_zero leT]; rfl) (by show 0 ≤ l.length; omega) ?_
  rintro ⟨i, x⟩ j1
  replace j1 : i ≤ l.length := j1
  by_cases hi : i < l.length
  · simp [hi, leT, fillTo_get _ _ _ hi]
    refine call0 isFn111 (p111 l[i] (hd _ (List.getElem_mem hi))) ?_
    simp [hi, fillTo_get _ _ _ hi]
    rw [wn _ (by omega)]
    exact RndI.mk (i + 1, _) (by rw [← fillTo_set _ _ _ hi]; rfl) hi (by show l.length - (i + 1) < l.length - i; omega)
  · have : i = l.length := by omega
    subst this
    simp [fillTo_all, List.take_of_length_le]
theorem p87 (x : Bu) (h : okBu 1048576 x) : Pure Try.prog 87 [buV x] (· = buV x) := by
  refine Pure.intro mo Try.func87 rfl (by show 1 ≤ 15; omega) _ rfl [0, 1, 2, 3] (by kernel_rfl) ?_
  simp [Try.f87]
  refine call0 isFn100 (p100 x.leases h.leases h.leasesA) ?_
  simp
theorem p112 (x : Se) (h : okSe 1048576 x) : Pure Try.prog 112 [seV x] (· = seV x) := by
  refine Pure.intro mo Try.func112 rfl (by show 1 ≤ 17; omega) _ rfl [0, 1, 2, 3] (by kernel_rfl) ?_
  simp [Try.f112]
theorem p101 (l : List Se) (h : l.length ≤ 1048576) (hd : ∀ e ∈ l, okSe 1048576 e) : Pure Try.prog 101 [.sl 0 (l.map seT)] (· = .sl 0 (l.map seT)) := by
  refine Pure.intro mo Try.func101 rfl (by show 1 ≤ 23; omega) _ rfl [0, 2, 3, 4, 11] (by kernel_rfl) ?_
  simp [Try.f101]
  refine ⟨by omega, by omega, ?_⟩
  refine loopI (fun ((i, x) : Nat × AV) => ⟨[(0, .sl 0 (l.map seT)), (2, .sl 1 []), (3, .arr 0 0 l.length), (4, I (i : Nat)), (11, x)], [(0, .row 4 (fillTo seT l [.sc (.int .i64 0), .sc (.int .i64 0), .sc (.string ByteArray.empty), .sc (.int .i64 0)] i))], [], 1, 2⟩)
    (fun (i, _) => i ≤ l.length) (fun (i, _) => l.length - i) (0, _) (by rw [fillTo_zero seT]; rfl) (by show 0 ≤ l.length; omega) ?_
  rintro ⟨i, x⟩ j1
  replace j1 : i ≤ l.length := j1
  by_cases hi : i < l.length
  · simp [hi, seT, fillTo_get _ _ _ hi]
    refine call0 isFn112 (p112 l[i] (hd _ (List.getElem_mem hi))) ?_
    simp [hi, fillTo_get _ _ _ hi]
    rw [wn _ (by omega)]
    exact RndI.mk (i + 1, _) (by rw [← fillTo_set _ _ _ hi]; rfl) hi (by show l.length - (i + 1) < l.length - i; omega)
  · have : i = l.length := by omega
    subst this
    simp [fillTo_all, List.take_of_length_le]
theorem p88 (x : De) (h : okDe 1048576 x) : Pure Try.prog 88 [deV x] (· = deV x) := by
  refine Pure.intro mo Try.func88 rfl (by show 1 ≤ 12; omega) _ rfl [0, 1, 2, 3] (by kernel_rfl) ?_
  simp [Try.f88]
  refine call0 isFn101 (p101 x.sessions h.sessions h.sessionsA) ?_
  simp
theorem p71 (x : St) (h : okSt 1048576 x) : Pure Try.prog 71 [stV x] (· = stV x) := by
  refine Pure.intro mo Try.func71 rfl (by show 1 ≤ 20; omega) _ rfl [0, 1, 2, 3] (by kernel_rfl) ?_
  simp [Try.f71]
  refine call0 isFn86 (p86 x.plan h.plan) ?_
  simp
  refine call0 isFn87 (p87 x.book h.book) ?_
  simp
  refine call0 isFn88 (p88 x.desk h.desk) ?_
  simp
theorem p72 (x : Fi) (h : okFi 1048576 x) : Pure Try.prog 72 [fiV x] (· = fiV x) := by
  refine Pure.intro mo Try.func72 rfl (by show 1 ≤ 12; omega) _ rfl [0, 1, 2, 3] (by kernel_rfl) ?_
  simp [Try.f72]
  refine call0 isFn73 (p73 x.bytes h.bytes) ?_
  simp
theorem p47 (x : Rp) (h : okRp 1048576 x) : Pure Try.prog 47 [rpV x] (· = rpV x) := by
  refine Pure.intro mo Try.func47 rfl (by show 1 ≤ 23; omega) _ rfl [0, 1, 2, 3] (by kernel_rfl) ?_
  simp [Try.f47]
  refine call0 isFn70 (p70 x.n h.n.low) ?_
  simp
  refine call0 isFn71 (p71 x.s h.s) ?_
  simp
  refine call0 isFn72 (p72 x.f h.f) ?_
  simp
theorem p27 (l : List Rp) (h : l.length ≤ 1048576) (hd : ∀ e ∈ l, okRp 1048576 e) : Pure Try.prog 27 [.sl 0 (l.map rpT)] (· = .sl 0 (l.map rpT)) := by
  refine Pure.intro mo Try.func27 rfl (by show 1 ≤ 23; omega) _ rfl [0, 2, 3, 4, 11] (by kernel_rfl) ?_
  simp [Try.f27]
  refine ⟨by omega, by omega, ?_⟩
  refine loopI (fun ((i, x) : Nat × AV) => ⟨[(0, .sl 0 (l.map rpT)), (2, .sl 1 []), (3, .arr 0 0 l.length), (4, I (i : Nat)), (11, x)], [(0, .row 43 (fillTo rpT l [.sc (.int .i64 0), .sc (.int .i64 0), .sc (.int .i64 0), .sc (.int .i64 0), .sc (.int .i64 0), .sl [], .sl [], .sl [], .sl [], .sc (.int .i64 0), .sc (.int .i64 0), .sc (.int .i64 0), .sl [], .sc (.int .i64 0), .sc (.int .i64 0), .sc (.int .i64 0), .sc (.int .i64 0), .sc (.int .i64 0), .sc (.int .i64 0), .sc (.int .i64 0), .sc (.int .i64 0), .sc (.int .i64 0), .sc (.int .i64 0), .sc (.int .i64 0), .sc (.int .i64 0), .sc (.int .i64 0), .sc (.int .i64 0), .sc (.int .i64 0), .sc (.int .i64 0), .sc (.int .i64 0), .sc (.int .i64 0), .sl [], .sl [], .sl [], .sc (.int .i64 0), .sc (.int .i64 0), .sl [], .sc (.int .i64 0), .sc (.int .i64 0), .sc (.int .i64 0), .sl [], .sc (.int .i64 0), .sc (.bool false)] i))], [], 1, 2⟩)
    (fun (i, _) => i ≤ l.length) (fun (i, _) => l.length - i) (0, _) (by rw [fillTo_zero rpT]; rfl) (by show 0 ≤ l.length; omega) ?_
  rintro ⟨i, x⟩ j1
  replace j1 : i ≤ l.length := j1
  by_cases hi : i < l.length
  · simp [hi, rpT, fillTo_get _ _ _ hi]
    refine call0 isFn47 (p47 l[i] (hd _ (List.getElem_mem hi))) ?_
    simp [hi, fillTo_get _ _ _ hi]
    rw [wn _ (by omega)]
    exact RndI.mk (i + 1, _) (by rw [← fillTo_set _ _ _ hi]; rfl) hi (by show l.length - (i + 1) < l.length - i; omega)
  · have : i = l.length := by omega
    subst this
    simp [fillTo_all, List.take_of_length_le]
theorem p49 (x : Mg) (h : okMg 1048576 x) : Pure Try.prog 49 [mg x] (· = mg x) := by
  refine Pure.intro mo Try.func49 rfl (by show 1 ≤ 41; omega) _ rfl [0, 1, 2, 3] (by kernel_rfl) ?_
  simp [Try.f49]
  refine call0 isFn31 (p31 x.entries h.entries (okEnt.low h.entriesA)) ?_
  simp
  refine call0 isFn73 (p73 x.data h.data) ?_
  simp
  refine call0 isFn28 (p28 x.now x.next h.now h.next) ?_
  simp
theorem p29 (l : List Mg) (h : l.length ≤ 1048576) (hd : ∀ e ∈ l, okMg 1048576 e) : Pure Try.prog 29 [.sl 0 (l.map mgT)] (· = .sl 0 (l.map mgT)) := by
  refine Pure.intro mo Try.func29 rfl (by show 1 ≤ 23; omega) _ rfl [0, 2, 3, 4, 11] (by kernel_rfl) ?_
  simp [Try.f29]
  refine ⟨by omega, by omega, ?_⟩
  refine loopI (fun ((i, x) : Nat × AV) => ⟨[(0, .sl 0 (l.map mgT)), (2, .sl 1 []), (3, .arr 0 0 l.length), (4, I (i : Nat)), (11, x)], [(0, .row 12 (fillTo mgT l [.sc (.int .i64 0), .sc (.int .i64 0), .sc (.int .i64 0), .sc (.int .i64 0), .sc (.int .i64 0), .sc (.int .i64 0), .sl [], .sc (.int .i64 0), .sc (.bool false), .sl [], .sl [], .sl []] i))], [], 1, 2⟩)
    (fun (i, _) => i ≤ l.length) (fun (i, _) => l.length - i) (0, _) (by rw [fillTo_zero mgT]; rfl) (by show 0 ≤ l.length; omega) ?_
  rintro ⟨i, x⟩ j1
  replace j1 : i ≤ l.length := j1
  by_cases hi : i < l.length
  · simp [hi, mgT, fillTo_get _ _ _ hi]
    refine call0 isFn49 (p49 l[i] (hd _ (List.getElem_mem hi))) ?_
    simp [hi, fillTo_get _ _ _ hi]
    rw [wn _ (by omega)]
    exact RndI.mk (i + 1, _) (by rw [← fillTo_set _ _ _ hi]; rfl) hi (by show l.length - (i + 1) < l.length - i; omega)
  · have : i = l.length := by omega
    subst this
    simp [fillTo_all, List.take_of_length_le]
theorem p30 (l : List (Int × Int)) (h : l.length ≤ 1048576) : Pure Try.prog 30 [.sl 0 (l.map prc)] (· = .sl 0 (l.map prc)) := by
  refine Pure.intro mo Try.func30 rfl (by show 1 ≤ 23; omega) _ rfl [0, 2, 3, 4, 11] (by kernel_rfl) ?_
  simp [Try.f30]
  refine ⟨by omega, by omega, ?_⟩
  refine loopI (fun ((i, x) : Nat × AV) => ⟨[(0, .sl 0 (l.map prc)), (2, .sl 1 []), (3, .arr 0 0 l.length), (4, I (i : Nat)), (11, x)], [(0, .row 2 (fillTo prc l [.sc (.int .i64 0), .sc (.int .i64 0)] i))], [], 1, 2⟩)
    (fun (i, _) => i ≤ l.length) (fun (i, _) => l.length - i) (0, _) (by rw [fillTo_zero prc]; rfl) (by show 0 ≤ l.length; omega) ?_
  rintro ⟨i, x⟩ j1
  replace j1 : i ≤ l.length := j1
  by_cases hi : i < l.length
  · simp [hi, prc, fillTo_get _ _ _ hi]
    refine call0 isFn50 (p50 l[i]) ?_
    simp [hi, fillTo_get _ _ _ hi]
    rw [wn _ (by omega)]
    exact RndI.mk (i + 1, _) (by rw [← fillTo_set _ _ _ hi]; rfl) hi (by show l.length - (i + 1) < l.length - i; omega)
  · have : i = l.length := by omega
    subst this
    simp [fillTo_all, List.take_of_length_le]
theorem p32 (l : List ByteArray) (h : l.length ≤ 1048576) (hd : ∀ e ∈ l, okStr 1048576 e) : Pure Try.prog 32 [.sl 0 (l.map strc)] (· = .sl 0 (l.map strc)) := by
  refine Pure.intro mo Try.func32 rfl (by show 1 ≤ 22; omega) _ rfl [0, 2, 3, 4, 11] (by kernel_rfl) ?_
  simp [Try.f32]
  refine ⟨by omega, by omega, ?_⟩
  refine loopI (fun ((i, x) : Nat × AV) => ⟨[(0, .sl 0 (l.map strc)), (2, .sl 1 []), (3, .arr 0 0 l.length), (4, I (i : Nat)), (11, x)], [(0, .row 1 (fillTo strc l [.sc (.string ByteArray.empty)] i))], [], 1, 2⟩)
    (fun (i, _) => i ≤ l.length) (fun (i, _) => l.length - i) (0, _) (by rw [fillTo_zero strc]; rfl) (by show 0 ≤ l.length; omega) ?_
  rintro ⟨i, x⟩ j1
  replace j1 : i ≤ l.length := j1
  by_cases hi : i < l.length
  · simp [hi, strc, fillTo_get _ _ _ hi]
    rw [wn _ (by omega)]
    exact RndI.mk (i + 1, _) (by rw [← fillTo_set _ _ _ hi]; rfl) hi (by show l.length - (i + 1) < l.length - i; omega)
  · have : i = l.length := by omega
    subst this
    simp [fillTo_all, List.take_of_length_le]
theorem p10 (x : Cl) (h : okCl 1048576 x) : Pure Try.prog 10 [clV x] (· = clV x) := by
  refine Pure.intro mo Try.func10 rfl (by show 1 ≤ 32; omega) _ rfl [0, 1, 2, 3] (by kernel_rfl) ?_
  simp [Try.f10]
  refine call0 isFn27 (p27 x.r h.r h.rA) ?_
  simp
  refine call0 isFn28 (p28 x.now x.next h.now h.next) ?_
  simp
  refine call0 isFn29 (p29 x.net h.net h.netA) ?_
  simp
  refine call0 isFn30 (p30 x.led h.led) ?_
  simp
  refine call0 isFn31 (p31 x.done h.done (okEnt.low h.doneA)) ?_
  simp
  refine call0 isFn32 (p32 x.said h.said h.saidA) ?_
  simp
end Go.Proofs
