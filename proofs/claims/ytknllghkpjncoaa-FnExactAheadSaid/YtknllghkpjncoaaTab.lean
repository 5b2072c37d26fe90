/- The program's tables, as far as the walk asks: each read off by the kernel. -/
import Derived.Test.YtknllghkpjncoaaVr
import Derived.Test.YtknllghkpjncoaaProg
set_option linter.unusedVariables false
set_option maxRecDepth 100000
namespace Go.Proofs
open Go VC

@[simp] theorem agg101 : aggOf Try.prog 101 = some true := by kernel_rfl
@[simp] theorem agg103 : aggOf Try.prog 103 = some true := by kernel_rfl
@[simp] theorem agg104 : aggOf Try.prog 104 = some true := by kernel_rfl
@[simp] theorem agg106 : aggOf Try.prog 106 = some true := by kernel_rfl
@[simp] theorem agg110 : aggOf Try.prog 110 = some true := by kernel_rfl
@[simp] theorem agg113 : aggOf Try.prog 113 = some true := by kernel_rfl
@[simp] theorem agg117 : aggOf Try.prog 117 = some true := by kernel_rfl
@[simp] theorem agg120 : aggOf Try.prog 120 = some true := by kernel_rfl
@[simp] theorem agg128 : aggOf Try.prog 128 = some true := by kernel_rfl
@[simp] theorem agg130 : aggOf Try.prog 130 = some true := by kernel_rfl
@[simp] theorem agg132 : aggOf Try.prog 132 = some true := by kernel_rfl
@[simp] theorem agg134 : aggOf Try.prog 134 = some true := by kernel_rfl
@[simp] theorem agg136 : aggOf Try.prog 136 = some true := by kernel_rfl
@[simp] theorem agg138 : aggOf Try.prog 138 = some true := by kernel_rfl
@[simp] theorem agg181 : aggOf Try.prog 181 = some true := by kernel_rfl
@[simp] theorem agg183 : aggOf Try.prog 183 = some true := by kernel_rfl
@[simp] theorem agg185 : aggOf Try.prog 185 = some true := by kernel_rfl
@[simp] theorem agg188 : aggOf Try.prog 188 = some true := by kernel_rfl
@[simp] theorem agg190 : aggOf Try.prog 190 = some true := by kernel_rfl
@[simp] theorem agg193 : aggOf Try.prog 193 = some true := by kernel_rfl
@[simp] theorem agg22 : aggOf Try.prog 22 = some false := by kernel_rfl
@[simp] theorem agg23 : aggOf Try.prog 23 = some false := by kernel_rfl
@[simp] theorem agg25 : aggOf Try.prog 25 = some true := by kernel_rfl
@[simp] theorem agg26 : aggOf Try.prog 26 = some false := by kernel_rfl
@[simp] theorem agg27 : aggOf Try.prog 27 = some false := by kernel_rfl
@[simp] theorem agg28 : aggOf Try.prog 28 = some false := by kernel_rfl
@[simp] theorem agg29 : aggOf Try.prog 29 = some false := by kernel_rfl
@[simp] theorem agg3 : aggOf Try.prog 3 = some false := by kernel_rfl
@[simp] theorem agg31 : aggOf Try.prog 31 = some true := by kernel_rfl
@[simp] theorem agg34 : aggOf Try.prog 34 = some false := by kernel_rfl
@[simp] theorem agg35 : aggOf Try.prog 35 = some true := by kernel_rfl
@[simp] theorem agg36 : aggOf Try.prog 36 = some false := by kernel_rfl
@[simp] theorem agg37 : aggOf Try.prog 37 = some false := by kernel_rfl
@[simp] theorem agg39 : aggOf Try.prog 39 = some true := by kernel_rfl
@[simp] theorem agg4 : aggOf Try.prog 4 = some false := by kernel_rfl
@[simp] theorem agg5 : aggOf Try.prog 5 = some false := by kernel_rfl
@[simp] theorem agg50 : aggOf Try.prog 50 = some false := by kernel_rfl
@[simp] theorem agg52 : aggOf Try.prog 52 = some true := by kernel_rfl
@[simp] theorem agg53 : aggOf Try.prog 53 = some true := by kernel_rfl
@[simp] theorem agg55 : aggOf Try.prog 55 = some true := by kernel_rfl
@[simp] theorem agg56 : aggOf Try.prog 56 = some false := by kernel_rfl
@[simp] theorem agg57 : aggOf Try.prog 57 = some false := by kernel_rfl
@[simp] theorem agg59 : aggOf Try.prog 59 = some true := by kernel_rfl
@[simp] theorem agg60 : aggOf Try.prog 60 = some false := by kernel_rfl
@[simp] theorem agg62 : aggOf Try.prog 62 = some true := by kernel_rfl
@[simp] theorem agg63 : aggOf Try.prog 63 = some false := by kernel_rfl
@[simp] theorem agg65 : aggOf Try.prog 65 = some true := by kernel_rfl
@[simp] theorem agg67 : aggOf Try.prog 67 = some true := by kernel_rfl
@[simp] theorem agg69 : aggOf Try.prog 69 = some true := by kernel_rfl
@[simp] theorem agg71 : aggOf Try.prog 71 = some true := by kernel_rfl
@[simp] theorem agg84 : aggOf Try.prog 84 = some true := by kernel_rfl
@[simp] theorem agg89 : aggOf Try.prog 89 = some true := by kernel_rfl
@[simp] theorem agg9 : aggOf Try.prog 9 = some false := by kernel_rfl
@[simp] theorem agg91 : aggOf Try.prog 91 = some true := by kernel_rfl
@[simp] theorem agg92 : aggOf Try.prog 92 = some false := by kernel_rfl
@[simp] theorem agg93 : aggOf Try.prog 93 = some false := by kernel_rfl
@[simp] theorem agg95 : aggOf Try.prog 95 = some true := by kernel_rfl
@[simp] theorem agg96 : aggOf Try.prog 96 = some false := by kernel_rfl
@[simp] theorem agg98 : aggOf Try.prog 98 = some true := by kernel_rfl
@[simp] theorem agg99 : aggOf Try.prog 99 = some false := by kernel_rfl
@[simp] theorem arrInt132 : arrInt Try.prog 132 = none := by kernel_rfl
@[simp] theorem arrInt134 : arrInt Try.prog 134 = none := by kernel_rfl
@[simp] theorem arrInt136 : arrInt Try.prog 136 = none := by kernel_rfl
@[simp] theorem arrInt138 : arrInt Try.prog 138 = none := by kernel_rfl
@[simp] theorem arr53 : arrOf Try.prog 53 = some (8, 1, false) := by kernel_rfl
@[simp] theorem arr84 : arrOf Try.prog 84 = some (2, 1, false) := by kernel_rfl
@[simp] theorem flat132 : flatOf Try.prog 132 = some [Kd.b, Kd.i .i64, Kd.i .i64, Kd.i .i64, Kd.i .i64] := by kernel_rfl
@[simp] theorem flat134 : flatOf Try.prog 134 = some [Kd.b, Kd.i .i64, Kd.i .i64, Kd.i .i64, Kd.s] := by kernel_rfl
@[simp] theorem flat136 : flatOf Try.prog 136 = some [Kd.b, Kd.i .i64, Kd.i .i64, Kd.s, Kd.i .i64, Kd.i .i64] := by kernel_rfl
@[simp] theorem flat138 : flatOf Try.prog 138 = some [Kd.i .i64, Kd.i .i64, Kd.s, Kd.i .i64] := by kernel_rfl
@[simp] theorem fld101_0 : fldOf Try.prog 101 0 = some (0, 1, false) := by kernel_rfl
@[simp] theorem fld101_1 : fldOf Try.prog 101 1 = some (1, 1, false) := by kernel_rfl
@[simp] theorem fld103_0 : fldOf Try.prog 103 0 = some (0, 2, true) := by kernel_rfl
@[simp] theorem fld103_1 : fldOf Try.prog 103 1 = some (2, 3, true) := by kernel_rfl
@[simp] theorem fld103_2 : fldOf Try.prog 103 2 = some (5, 2, true) := by kernel_rfl
@[simp] theorem fld103_3 : fldOf Try.prog 103 3 = some (7, 1, false) := by kernel_rfl
@[simp] theorem fld104_0 : fldOf Try.prog 104 0 = some (0, 1, false) := by kernel_rfl
@[simp] theorem fld104_1 : fldOf Try.prog 104 1 = some (1, 1, false) := by kernel_rfl
@[simp] theorem fld106_0 : fldOf Try.prog 106 0 = some (0, 31, true) := by kernel_rfl
@[simp] theorem fld106_1 : fldOf Try.prog 106 1 = some (31, 8, true) := by kernel_rfl
@[simp] theorem fld106_2 : fldOf Try.prog 106 2 = some (39, 1, false) := by kernel_rfl
@[simp] theorem fld106_3 : fldOf Try.prog 106 3 = some (40, 2, true) := by kernel_rfl
@[simp] theorem fld106_4 : fldOf Try.prog 106 4 = some (42, 1, false) := by kernel_rfl
@[simp] theorem fld110_0 : fldOf Try.prog 110 0 = some (0, 1, false) := by kernel_rfl
@[simp] theorem fld110_1 : fldOf Try.prog 110 1 = some (1, 1, false) := by kernel_rfl
@[simp] theorem fld110_10 : fldOf Try.prog 110 10 = some (10, 2, true) := by kernel_rfl
@[simp] theorem fld110_2 : fldOf Try.prog 110 2 = some (2, 1, false) := by kernel_rfl
@[simp] theorem fld110_3 : fldOf Try.prog 110 3 = some (3, 1, false) := by kernel_rfl
@[simp] theorem fld110_4 : fldOf Try.prog 110 4 = some (4, 1, false) := by kernel_rfl
@[simp] theorem fld110_5 : fldOf Try.prog 110 5 = some (5, 1, false) := by kernel_rfl
@[simp] theorem fld110_6 : fldOf Try.prog 110 6 = some (6, 1, false) := by kernel_rfl
@[simp] theorem fld110_7 : fldOf Try.prog 110 7 = some (7, 1, false) := by kernel_rfl
@[simp] theorem fld110_8 : fldOf Try.prog 110 8 = some (8, 1, false) := by kernel_rfl
@[simp] theorem fld110_9 : fldOf Try.prog 110 9 = some (9, 1, false) := by kernel_rfl
@[simp] theorem fld113_0 : fldOf Try.prog 113 0 = some (0, 1, false) := by kernel_rfl
@[simp] theorem fld113_1 : fldOf Try.prog 113 1 = some (1, 1, false) := by kernel_rfl
@[simp] theorem fld113_2 : fldOf Try.prog 113 2 = some (2, 1, false) := by kernel_rfl
@[simp] theorem fld117_0 : fldOf Try.prog 117 0 = some (0, 1, false) := by kernel_rfl
@[simp] theorem fld117_1 : fldOf Try.prog 117 1 = some (1, 1, false) := by kernel_rfl
@[simp] theorem fld117_10 : fldOf Try.prog 117 10 = some (10, 2, true) := by kernel_rfl
@[simp] theorem fld117_2 : fldOf Try.prog 117 2 = some (2, 1, false) := by kernel_rfl
@[simp] theorem fld117_3 : fldOf Try.prog 117 3 = some (3, 1, false) := by kernel_rfl
@[simp] theorem fld117_4 : fldOf Try.prog 117 4 = some (4, 1, false) := by kernel_rfl
@[simp] theorem fld117_5 : fldOf Try.prog 117 5 = some (5, 1, false) := by kernel_rfl
@[simp] theorem fld117_6 : fldOf Try.prog 117 6 = some (6, 1, false) := by kernel_rfl
@[simp] theorem fld117_7 : fldOf Try.prog 117 7 = some (7, 1, false) := by kernel_rfl
@[simp] theorem fld117_8 : fldOf Try.prog 117 8 = some (8, 1, false) := by kernel_rfl
@[simp] theorem fld117_9 : fldOf Try.prog 117 9 = some (9, 1, false) := by kernel_rfl
@[simp] theorem fld120_0 : fldOf Try.prog 120 0 = some (0, 1, false) := by kernel_rfl
@[simp] theorem fld120_1 : fldOf Try.prog 120 1 = some (1, 1, false) := by kernel_rfl
@[simp] theorem fld120_2 : fldOf Try.prog 120 2 = some (2, 1, false) := by kernel_rfl
@[simp] theorem fld128_0 : fldOf Try.prog 128 0 = some (0, 1, false) := by kernel_rfl
@[simp] theorem fld128_1 : fldOf Try.prog 128 1 = some (1, 1, false) := by kernel_rfl
@[simp] theorem fld128_2 : fldOf Try.prog 128 2 = some (2, 1, false) := by kernel_rfl
@[simp] theorem fld130_0 : fldOf Try.prog 130 0 = some (0, 3, true) := by kernel_rfl
@[simp] theorem fld130_1 : fldOf Try.prog 130 1 = some (3, 1, false) := by kernel_rfl
@[simp] theorem fld132_0 : fldOf Try.prog 132 0 = some (0, 4, true) := by kernel_rfl
@[simp] theorem fld132_1 : fldOf Try.prog 132 1 = some (4, 1, false) := by kernel_rfl
@[simp] theorem fld134_0 : fldOf Try.prog 134 0 = some (0, 4, true) := by kernel_rfl
@[simp] theorem fld134_1 : fldOf Try.prog 134 1 = some (4, 1, false) := by kernel_rfl
@[simp] theorem fld136_0 : fldOf Try.prog 136 0 = some (0, 3, true) := by kernel_rfl
@[simp] theorem fld136_1 : fldOf Try.prog 136 1 = some (3, 1, false) := by kernel_rfl
@[simp] theorem fld136_2 : fldOf Try.prog 136 2 = some (4, 1, false) := by kernel_rfl
@[simp] theorem fld136_3 : fldOf Try.prog 136 3 = some (5, 1, false) := by kernel_rfl
@[simp] theorem fld138_0 : fldOf Try.prog 138 0 = some (0, 1, false) := by kernel_rfl
@[simp] theorem fld138_1 : fldOf Try.prog 138 1 = some (1, 1, false) := by kernel_rfl
@[simp] theorem fld138_2 : fldOf Try.prog 138 2 = some (2, 1, false) := by kernel_rfl
@[simp] theorem fld138_3 : fldOf Try.prog 138 3 = some (3, 1, false) := by kernel_rfl
@[simp] theorem fld181_0 : fldOf Try.prog 181 0 = some (0, 1, false) := by kernel_rfl
@[simp] theorem fld181_1 : fldOf Try.prog 181 1 = some (1, 1, false) := by kernel_rfl
@[simp] theorem fld181_2 : fldOf Try.prog 181 2 = some (2, 1, false) := by kernel_rfl
@[simp] theorem fld183_0 : fldOf Try.prog 183 0 = some (0, 3, true) := by kernel_rfl
@[simp] theorem fld183_1 : fldOf Try.prog 183 1 = some (3, 1, false) := by kernel_rfl
@[simp] theorem fld185_0 : fldOf Try.prog 185 0 = some (0, 4, true) := by kernel_rfl
@[simp] theorem fld185_1 : fldOf Try.prog 185 1 = some (4, 1, false) := by kernel_rfl
@[simp] theorem fld188_0 : fldOf Try.prog 188 0 = some (0, 3, true) := by kernel_rfl
@[simp] theorem fld188_1 : fldOf Try.prog 188 1 = some (3, 1, false) := by kernel_rfl
@[simp] theorem fld188_2 : fldOf Try.prog 188 2 = some (4, 1, false) := by kernel_rfl
@[simp] theorem fld188_3 : fldOf Try.prog 188 3 = some (5, 1, false) := by kernel_rfl
@[simp] theorem fld190_0 : fldOf Try.prog 190 0 = some (0, 1, false) := by kernel_rfl
@[simp] theorem fld190_1 : fldOf Try.prog 190 1 = some (1, 1, false) := by kernel_rfl
@[simp] theorem fld190_2 : fldOf Try.prog 190 2 = some (2, 1, false) := by kernel_rfl
@[simp] theorem fld190_3 : fldOf Try.prog 190 3 = some (3, 1, false) := by kernel_rfl
@[simp] theorem fld193_0 : fldOf Try.prog 193 0 = some (0, 4, true) := by kernel_rfl
@[simp] theorem fld193_1 : fldOf Try.prog 193 1 = some (4, 1, false) := by kernel_rfl
@[simp] theorem fld25_0 : fldOf Try.prog 25 0 = some (0, 1, false) := by kernel_rfl
@[simp] theorem fld25_1 : fldOf Try.prog 25 1 = some (1, 1, false) := by kernel_rfl
@[simp] theorem fld31_0 : fldOf Try.prog 31 0 = some (0, 1, false) := by kernel_rfl
@[simp] theorem fld31_1 : fldOf Try.prog 31 1 = some (1, 2, true) := by kernel_rfl
@[simp] theorem fld31_2 : fldOf Try.prog 31 2 = some (3, 1, false) := by kernel_rfl
@[simp] theorem fld31_3 : fldOf Try.prog 31 3 = some (4, 1, false) := by kernel_rfl
@[simp] theorem fld31_4 : fldOf Try.prog 31 4 = some (5, 1, false) := by kernel_rfl
@[simp] theorem fld31_5 : fldOf Try.prog 31 5 = some (6, 1, false) := by kernel_rfl
@[simp] theorem fld31_6 : fldOf Try.prog 31 6 = some (7, 1, false) := by kernel_rfl
@[simp] theorem fld35_0 : fldOf Try.prog 35 0 = some (0, 1, false) := by kernel_rfl
@[simp] theorem fld35_1 : fldOf Try.prog 35 1 = some (1, 1, false) := by kernel_rfl
@[simp] theorem fld39_0 : fldOf Try.prog 39 0 = some (0, 1, false) := by kernel_rfl
@[simp] theorem fld39_1 : fldOf Try.prog 39 1 = some (1, 2, true) := by kernel_rfl
@[simp] theorem fld39_2 : fldOf Try.prog 39 2 = some (3, 1, false) := by kernel_rfl
@[simp] theorem fld39_3 : fldOf Try.prog 39 3 = some (4, 1, false) := by kernel_rfl
@[simp] theorem fld39_4 : fldOf Try.prog 39 4 = some (5, 1, false) := by kernel_rfl
@[simp] theorem fld39_5 : fldOf Try.prog 39 5 = some (6, 1, false) := by kernel_rfl
@[simp] theorem fld39_6 : fldOf Try.prog 39 6 = some (7, 1, false) := by kernel_rfl
@[simp] theorem fld52_0 : fldOf Try.prog 52 0 = some (0, 1, false) := by kernel_rfl
@[simp] theorem fld52_1 : fldOf Try.prog 52 1 = some (1, 1, false) := by kernel_rfl
@[simp] theorem fld52_2 : fldOf Try.prog 52 2 = some (2, 1, false) := by kernel_rfl
@[simp] theorem fld52_3 : fldOf Try.prog 52 3 = some (3, 1, false) := by kernel_rfl
@[simp] theorem fld52_4 : fldOf Try.prog 52 4 = some (4, 2, true) := by kernel_rfl
@[simp] theorem fld52_5 : fldOf Try.prog 52 5 = some (6, 1, false) := by kernel_rfl
@[simp] theorem fld52_6 : fldOf Try.prog 52 6 = some (7, 1, false) := by kernel_rfl
@[simp] theorem fld55_0 : fldOf Try.prog 55 0 = some (0, 1, false) := by kernel_rfl
@[simp] theorem fld55_1 : fldOf Try.prog 55 1 = some (1, 8, true) := by kernel_rfl
@[simp] theorem fld55_2 : fldOf Try.prog 55 2 = some (9, 1, false) := by kernel_rfl
@[simp] theorem fld55_3 : fldOf Try.prog 55 3 = some (10, 1, false) := by kernel_rfl
@[simp] theorem fld55_4 : fldOf Try.prog 55 4 = some (11, 1, false) := by kernel_rfl
@[simp] theorem fld55_5 : fldOf Try.prog 55 5 = some (12, 1, false) := by kernel_rfl
@[simp] theorem fld55_6 : fldOf Try.prog 55 6 = some (13, 8, true) := by kernel_rfl
@[simp] theorem fld55_7 : fldOf Try.prog 55 7 = some (21, 8, true) := by kernel_rfl
@[simp] theorem fld55_8 : fldOf Try.prog 55 8 = some (29, 1, false) := by kernel_rfl
@[simp] theorem fld55_9 : fldOf Try.prog 55 9 = some (30, 1, false) := by kernel_rfl
@[simp] theorem fld59_0 : fldOf Try.prog 59 0 = some (0, 1, false) := by kernel_rfl
@[simp] theorem fld59_1 : fldOf Try.prog 59 1 = some (1, 1, false) := by kernel_rfl
@[simp] theorem fld62_0 : fldOf Try.prog 62 0 = some (0, 1, false) := by kernel_rfl
@[simp] theorem fld62_1 : fldOf Try.prog 62 1 = some (1, 1, false) := by kernel_rfl
@[simp] theorem fld62_2 : fldOf Try.prog 62 2 = some (2, 1, false) := by kernel_rfl
@[simp] theorem fld65_0 : fldOf Try.prog 65 0 = some (0, 1, false) := by kernel_rfl
@[simp] theorem fld65_1 : fldOf Try.prog 65 1 = some (1, 1, false) := by kernel_rfl
@[simp] theorem fld67_0 : fldOf Try.prog 67 0 = some (0, 2, true) := by kernel_rfl
@[simp] theorem fld67_1 : fldOf Try.prog 67 1 = some (2, 3, true) := by kernel_rfl
@[simp] theorem fld67_2 : fldOf Try.prog 67 2 = some (5, 2, true) := by kernel_rfl
@[simp] theorem fld67_3 : fldOf Try.prog 67 3 = some (7, 1, false) := by kernel_rfl
@[simp] theorem fld69_0 : fldOf Try.prog 69 0 = some (0, 1, false) := by kernel_rfl
@[simp] theorem fld69_1 : fldOf Try.prog 69 1 = some (1, 1, false) := by kernel_rfl
@[simp] theorem fld71_0 : fldOf Try.prog 71 0 = some (0, 31, true) := by kernel_rfl
@[simp] theorem fld71_1 : fldOf Try.prog 71 1 = some (31, 8, true) := by kernel_rfl
@[simp] theorem fld71_2 : fldOf Try.prog 71 2 = some (39, 1, false) := by kernel_rfl
@[simp] theorem fld71_3 : fldOf Try.prog 71 3 = some (40, 2, true) := by kernel_rfl
@[simp] theorem fld71_4 : fldOf Try.prog 71 4 = some (42, 1, false) := by kernel_rfl
@[simp] theorem fld89_0 : fldOf Try.prog 89 0 = some (0, 1, false) := by kernel_rfl
@[simp] theorem fld89_1 : fldOf Try.prog 89 1 = some (1, 1, false) := by kernel_rfl
@[simp] theorem fld89_2 : fldOf Try.prog 89 2 = some (2, 1, false) := by kernel_rfl
@[simp] theorem fld89_3 : fldOf Try.prog 89 3 = some (3, 1, false) := by kernel_rfl
@[simp] theorem fld89_4 : fldOf Try.prog 89 4 = some (4, 2, true) := by kernel_rfl
@[simp] theorem fld89_5 : fldOf Try.prog 89 5 = some (6, 1, false) := by kernel_rfl
@[simp] theorem fld89_6 : fldOf Try.prog 89 6 = some (7, 1, false) := by kernel_rfl
@[simp] theorem fld91_0 : fldOf Try.prog 91 0 = some (0, 1, false) := by kernel_rfl
@[simp] theorem fld91_1 : fldOf Try.prog 91 1 = some (1, 8, true) := by kernel_rfl
@[simp] theorem fld91_2 : fldOf Try.prog 91 2 = some (9, 1, false) := by kernel_rfl
@[simp] theorem fld91_3 : fldOf Try.prog 91 3 = some (10, 1, false) := by kernel_rfl
@[simp] theorem fld91_4 : fldOf Try.prog 91 4 = some (11, 1, false) := by kernel_rfl
@[simp] theorem fld91_5 : fldOf Try.prog 91 5 = some (12, 1, false) := by kernel_rfl
@[simp] theorem fld91_6 : fldOf Try.prog 91 6 = some (13, 8, true) := by kernel_rfl
@[simp] theorem fld91_7 : fldOf Try.prog 91 7 = some (21, 8, true) := by kernel_rfl
@[simp] theorem fld91_8 : fldOf Try.prog 91 8 = some (29, 1, false) := by kernel_rfl
@[simp] theorem fld91_9 : fldOf Try.prog 91 9 = some (30, 1, false) := by kernel_rfl
@[simp] theorem fld95_0 : fldOf Try.prog 95 0 = some (0, 1, false) := by kernel_rfl
@[simp] theorem fld95_1 : fldOf Try.prog 95 1 = some (1, 1, false) := by kernel_rfl
@[simp] theorem fld98_0 : fldOf Try.prog 98 0 = some (0, 1, false) := by kernel_rfl
@[simp] theorem fld98_1 : fldOf Try.prog 98 1 = some (1, 1, false) := by kernel_rfl
@[simp] theorem fld98_2 : fldOf Try.prog 98 2 = some (2, 1, false) := by kernel_rfl
@[simp] theorem boo4 : isBoo Try.prog 4 = true := by kernel_rfl
@[simp] theorem isFn10 : isFn Try.prog 10 = true := by kernel_rfl
@[simp] theorem isFn100 : isFn Try.prog 100 = true := by kernel_rfl
@[simp] theorem isFn101 : isFn Try.prog 101 = true := by kernel_rfl
@[simp] theorem isFn102 : isFn Try.prog 102 = true := by kernel_rfl
@[simp] theorem isFn103 : isFn Try.prog 103 = true := by kernel_rfl
@[simp] theorem isFn104 : isFn Try.prog 104 = true := by kernel_rfl
@[simp] theorem isFn105 : isFn Try.prog 105 = true := by kernel_rfl
@[simp] theorem isFn106 : isFn Try.prog 106 = true := by kernel_rfl
@[simp] theorem isFn107 : isFn Try.prog 107 = true := by kernel_rfl
@[simp] theorem isFn108 : isFn Try.prog 108 = true := by kernel_rfl
@[simp] theorem isFn109 : isFn Try.prog 109 = true := by kernel_rfl
@[simp] theorem isFn11 : isFn Try.prog 11 = true := by kernel_rfl
@[simp] theorem isFn110 : isFn Try.prog 110 = true := by kernel_rfl
@[simp] theorem isFn111 : isFn Try.prog 111 = true := by kernel_rfl
@[simp] theorem isFn112 : isFn Try.prog 112 = true := by kernel_rfl
@[simp] theorem isFn113 : isFn Try.prog 113 = true := by kernel_rfl
@[simp] theorem isFn114 : isFn Try.prog 114 = true := by kernel_rfl
@[simp] theorem isFn115 : isFn Try.prog 115 = true := by kernel_rfl
@[simp] theorem isFn116 : isFn Try.prog 116 = true := by kernel_rfl
@[simp] theorem isFn117 : isFn Try.prog 117 = true := by kernel_rfl
@[simp] theorem isFn118 : isFn Try.prog 118 = true := by kernel_rfl
@[simp] theorem isFn119 : isFn Try.prog 119 = true := by kernel_rfl
@[simp] theorem isFn12 : isFn Try.prog 12 = true := by kernel_rfl
@[simp] theorem isFn120 : isFn Try.prog 120 = true := by kernel_rfl
@[simp] theorem isFn13 : isFn Try.prog 13 = true := by kernel_rfl
@[simp] theorem isFn14 : isFn Try.prog 14 = true := by kernel_rfl
@[simp] theorem isFn15 : isFn Try.prog 15 = true := by kernel_rfl
@[simp] theorem isFn16 : isFn Try.prog 16 = true := by kernel_rfl
@[simp] theorem isFn17 : isFn Try.prog 17 = true := by kernel_rfl
@[simp] theorem isFn18 : isFn Try.prog 18 = true := by kernel_rfl
@[simp] theorem isFn19 : isFn Try.prog 19 = true := by kernel_rfl
@[simp] theorem isFn20 : isFn Try.prog 20 = true := by kernel_rfl
@[simp] theorem isFn21 : isFn Try.prog 21 = true := by kernel_rfl
@[simp] theorem isFn22 : isFn Try.prog 22 = true := by kernel_rfl
@[simp] theorem isFn23 : isFn Try.prog 23 = true := by kernel_rfl
@[simp] theorem isFn24 : isFn Try.prog 24 = true := by kernel_rfl
@[simp] theorem isFn25 : isFn Try.prog 25 = true := by kernel_rfl
@[simp] theorem isFn26 : isFn Try.prog 26 = true := by kernel_rfl
@[simp] theorem isFn27 : isFn Try.prog 27 = true := by kernel_rfl
@[simp] theorem isFn28 : isFn Try.prog 28 = true := by kernel_rfl
@[simp] theorem isFn29 : isFn Try.prog 29 = true := by kernel_rfl
@[simp] theorem isFn30 : isFn Try.prog 30 = true := by kernel_rfl
@[simp] theorem isFn31 : isFn Try.prog 31 = true := by kernel_rfl
@[simp] theorem isFn32 : isFn Try.prog 32 = true := by kernel_rfl
@[simp] theorem isFn33 : isFn Try.prog 33 = true := by kernel_rfl
@[simp] theorem isFn34 : isFn Try.prog 34 = true := by kernel_rfl
@[simp] theorem isFn35 : isFn Try.prog 35 = true := by kernel_rfl
@[simp] theorem isFn36 : isFn Try.prog 36 = true := by kernel_rfl
@[simp] theorem isFn37 : isFn Try.prog 37 = true := by kernel_rfl
@[simp] theorem isFn38 : isFn Try.prog 38 = true := by kernel_rfl
@[simp] theorem isFn39 : isFn Try.prog 39 = true := by kernel_rfl
@[simp] theorem isFn40 : isFn Try.prog 40 = true := by kernel_rfl
@[simp] theorem isFn41 : isFn Try.prog 41 = true := by kernel_rfl
@[simp] theorem isFn42 : isFn Try.prog 42 = true := by kernel_rfl
@[simp] theorem isFn43 : isFn Try.prog 43 = true := by kernel_rfl
@[simp] theorem isFn44 : isFn Try.prog 44 = true := by kernel_rfl
@[simp] theorem isFn45 : isFn Try.prog 45 = true := by kernel_rfl
@[simp] theorem isFn46 : isFn Try.prog 46 = true := by kernel_rfl
@[simp] theorem isFn47 : isFn Try.prog 47 = true := by kernel_rfl
@[simp] theorem isFn48 : isFn Try.prog 48 = true := by kernel_rfl
@[simp] theorem isFn49 : isFn Try.prog 49 = true := by kernel_rfl
@[simp] theorem isFn50 : isFn Try.prog 50 = true := by kernel_rfl
@[simp] theorem isFn51 : isFn Try.prog 51 = true := by kernel_rfl
@[simp] theorem isFn52 : isFn Try.prog 52 = true := by kernel_rfl
@[simp] theorem isFn53 : isFn Try.prog 53 = true := by kernel_rfl
@[simp] theorem isFn54 : isFn Try.prog 54 = true := by kernel_rfl
@[simp] theorem isFn55 : isFn Try.prog 55 = true := by kernel_rfl
@[simp] theorem isFn56 : isFn Try.prog 56 = true := by kernel_rfl
@[simp] theorem isFn57 : isFn Try.prog 57 = true := by kernel_rfl
@[simp] theorem isFn58 : isFn Try.prog 58 = true := by kernel_rfl
@[simp] theorem isFn59 : isFn Try.prog 59 = true := by kernel_rfl
@[simp] theorem isFn60 : isFn Try.prog 60 = true := by kernel_rfl
@[simp] theorem isFn61 : isFn Try.prog 61 = true := by kernel_rfl
@[simp] theorem isFn62 : isFn Try.prog 62 = true := by kernel_rfl
@[simp] theorem isFn63 : isFn Try.prog 63 = true := by kernel_rfl
@[simp] theorem isFn64 : isFn Try.prog 64 = true := by kernel_rfl
@[simp] theorem isFn65 : isFn Try.prog 65 = true := by kernel_rfl
@[simp] theorem isFn66 : isFn Try.prog 66 = true := by kernel_rfl
@[simp] theorem isFn67 : isFn Try.prog 67 = true := by kernel_rfl
@[simp] theorem isFn68 : isFn Try.prog 68 = true := by kernel_rfl
@[simp] theorem isFn69 : isFn Try.prog 69 = true := by kernel_rfl
@[simp] theorem isFn70 : isFn Try.prog 70 = true := by kernel_rfl
@[simp] theorem isFn71 : isFn Try.prog 71 = true := by kernel_rfl
@[simp] theorem isFn72 : isFn Try.prog 72 = true := by kernel_rfl
@[simp] theorem isFn73 : isFn Try.prog 73 = true := by kernel_rfl
@[simp] theorem isFn74 : isFn Try.prog 74 = true := by kernel_rfl
@[simp] theorem isFn75 : isFn Try.prog 75 = true := by kernel_rfl
@[simp] theorem isFn76 : isFn Try.prog 76 = true := by kernel_rfl
@[simp] theorem isFn77 : isFn Try.prog 77 = true := by kernel_rfl
@[simp] theorem isFn78 : isFn Try.prog 78 = true := by kernel_rfl
@[simp] theorem isFn79 : isFn Try.prog 79 = true := by kernel_rfl
@[simp] theorem isFn8 : isFn Try.prog 8 = true := by kernel_rfl
@[simp] theorem isFn80 : isFn Try.prog 80 = true := by kernel_rfl
@[simp] theorem isFn81 : isFn Try.prog 81 = true := by kernel_rfl
@[simp] theorem isFn82 : isFn Try.prog 82 = true := by kernel_rfl
@[simp] theorem isFn83 : isFn Try.prog 83 = true := by kernel_rfl
@[simp] theorem isFn84 : isFn Try.prog 84 = true := by kernel_rfl
@[simp] theorem isFn85 : isFn Try.prog 85 = true := by kernel_rfl
@[simp] theorem isFn86 : isFn Try.prog 86 = true := by kernel_rfl
@[simp] theorem isFn87 : isFn Try.prog 87 = true := by kernel_rfl
@[simp] theorem isFn88 : isFn Try.prog 88 = true := by kernel_rfl
@[simp] theorem isFn89 : isFn Try.prog 89 = true := by kernel_rfl
@[simp] theorem isFn9 : isFn Try.prog 9 = true := by kernel_rfl
@[simp] theorem isFn90 : isFn Try.prog 90 = true := by kernel_rfl
@[simp] theorem isFn91 : isFn Try.prog 91 = true := by kernel_rfl
@[simp] theorem isFn92 : isFn Try.prog 92 = true := by kernel_rfl
@[simp] theorem isFn93 : isFn Try.prog 93 = true := by kernel_rfl
@[simp] theorem isFn94 : isFn Try.prog 94 = true := by kernel_rfl
@[simp] theorem isFn95 : isFn Try.prog 95 = true := by kernel_rfl
@[simp] theorem isFn96 : isFn Try.prog 96 = true := by kernel_rfl
@[simp] theorem isFn97 : isFn Try.prog 97 = true := by kernel_rfl
@[simp] theorem isFn98 : isFn Try.prog 98 = true := by kernel_rfl
@[simp] theorem isFn99 : isFn Try.prog 99 = true := by kernel_rfl
@[simp] theorem str9 : isStr Try.prog 9 = true := by kernel_rfl
@[simp] theorem plc120 : plcOf Try.prog 120 = some [(0, 1), (1, 1), (2, 1)] := by kernel_rfl
@[simp] theorem slc22 : slcOf Try.prog 22 = some (106, 43, 504) := by kernel_rfl
@[simp] theorem slc23 : slcOf Try.prog 23 = some (3, 1, 8) := by kernel_rfl
@[simp] theorem slc26 : slcOf Try.prog 26 = some (110, 12, 160) := by kernel_rfl
@[simp] theorem slc27 : slcOf Try.prog 27 = some (84, 2, 16) := by kernel_rfl
@[simp] theorem slc28 : slcOf Try.prog 28 = some (113, 3, 40) := by kernel_rfl
@[simp] theorem slc29 : slcOf Try.prog 29 = some (9, 1, 16) := by kernel_rfl
@[simp] theorem slc34 : slcOf Try.prog 34 = some (71, 43, 504) := by kernel_rfl
@[simp] theorem slc36 : slcOf Try.prog 36 = some (117, 12, 160) := by kernel_rfl
@[simp] theorem slc37 : slcOf Try.prog 37 = some (120, 3, 40) := by kernel_rfl
@[simp] theorem slc50 : slcOf Try.prog 50 = some (5, 1, 1) := by kernel_rfl
@[simp] theorem slc56 : slcOf Try.prog 56 = some (132, 5, 40) := by kernel_rfl
@[simp] theorem slc57 : slcOf Try.prog 57 = some (134, 5, 48) := by kernel_rfl
@[simp] theorem slc60 : slcOf Try.prog 60 = some (136, 6, 56) := by kernel_rfl
@[simp] theorem slc63 : slcOf Try.prog 63 = some (138, 4, 40) := by kernel_rfl
@[simp] theorem slc92 : slcOf Try.prog 92 = some (193, 5, 40) := by kernel_rfl
@[simp] theorem slc93 : slcOf Try.prog 93 = some (185, 5, 48) := by kernel_rfl
@[simp] theorem slc96 : slcOf Try.prog 96 = some (188, 6, 56) := by kernel_rfl
@[simp] theorem slc99 : slcOf Try.prog 99 = some (190, 4, 40) := by kernel_rfl
@[simp] theorem sz101 : szOf Try.prog 101 = some 2 := by kernel_rfl
@[simp] theorem sz103 : szOf Try.prog 103 = some 8 := by kernel_rfl
@[simp] theorem sz104 : szOf Try.prog 104 = some 2 := by kernel_rfl
@[simp] theorem sz106 : szOf Try.prog 106 = some 43 := by kernel_rfl
@[simp] theorem sz110 : szOf Try.prog 110 = some 12 := by kernel_rfl
@[simp] theorem sz113 : szOf Try.prog 113 = some 3 := by kernel_rfl
@[simp] theorem sz117 : szOf Try.prog 117 = some 12 := by kernel_rfl
@[simp] theorem sz120 : szOf Try.prog 120 = some 3 := by kernel_rfl
@[simp] theorem sz128 : szOf Try.prog 128 = some 3 := by kernel_rfl
@[simp] theorem sz130 : szOf Try.prog 130 = some 4 := by kernel_rfl
@[simp] theorem sz132 : szOf Try.prog 132 = some 5 := by kernel_rfl
@[simp] theorem sz134 : szOf Try.prog 134 = some 5 := by kernel_rfl
@[simp] theorem sz136 : szOf Try.prog 136 = some 6 := by kernel_rfl
@[simp] theorem sz138 : szOf Try.prog 138 = some 4 := by kernel_rfl
@[simp] theorem sz181 : szOf Try.prog 181 = some 3 := by kernel_rfl
@[simp] theorem sz183 : szOf Try.prog 183 = some 4 := by kernel_rfl
@[simp] theorem sz185 : szOf Try.prog 185 = some 5 := by kernel_rfl
@[simp] theorem sz188 : szOf Try.prog 188 = some 6 := by kernel_rfl
@[simp] theorem sz190 : szOf Try.prog 190 = some 4 := by kernel_rfl
@[simp] theorem sz193 : szOf Try.prog 193 = some 5 := by kernel_rfl
@[simp] theorem sz22 : szOf Try.prog 22 = some 1 := by kernel_rfl
@[simp] theorem sz23 : szOf Try.prog 23 = some 1 := by kernel_rfl
@[simp] theorem sz25 : szOf Try.prog 25 = some 2 := by kernel_rfl
@[simp] theorem sz26 : szOf Try.prog 26 = some 1 := by kernel_rfl
@[simp] theorem sz27 : szOf Try.prog 27 = some 1 := by kernel_rfl
@[simp] theorem sz28 : szOf Try.prog 28 = some 1 := by kernel_rfl
@[simp] theorem sz29 : szOf Try.prog 29 = some 1 := by kernel_rfl
@[simp] theorem sz3 : szOf Try.prog 3 = some 1 := by kernel_rfl
@[simp] theorem sz31 : szOf Try.prog 31 = some 8 := by kernel_rfl
@[simp] theorem sz34 : szOf Try.prog 34 = some 1 := by kernel_rfl
@[simp] theorem sz35 : szOf Try.prog 35 = some 2 := by kernel_rfl
@[simp] theorem sz36 : szOf Try.prog 36 = some 1 := by kernel_rfl
@[simp] theorem sz37 : szOf Try.prog 37 = some 1 := by kernel_rfl
@[simp] theorem sz39 : szOf Try.prog 39 = some 8 := by kernel_rfl
@[simp] theorem sz4 : szOf Try.prog 4 = some 1 := by kernel_rfl
@[simp] theorem sz5 : szOf Try.prog 5 = some 1 := by kernel_rfl
@[simp] theorem sz50 : szOf Try.prog 50 = some 1 := by kernel_rfl
@[simp] theorem sz52 : szOf Try.prog 52 = some 8 := by kernel_rfl
@[simp] theorem sz53 : szOf Try.prog 53 = some 8 := by kernel_rfl
@[simp] theorem sz55 : szOf Try.prog 55 = some 31 := by kernel_rfl
@[simp] theorem sz56 : szOf Try.prog 56 = some 1 := by kernel_rfl
@[simp] theorem sz57 : szOf Try.prog 57 = some 1 := by kernel_rfl
@[simp] theorem sz59 : szOf Try.prog 59 = some 2 := by kernel_rfl
@[simp] theorem sz60 : szOf Try.prog 60 = some 1 := by kernel_rfl
@[simp] theorem sz62 : szOf Try.prog 62 = some 3 := by kernel_rfl
@[simp] theorem sz63 : szOf Try.prog 63 = some 1 := by kernel_rfl
@[simp] theorem sz65 : szOf Try.prog 65 = some 2 := by kernel_rfl
@[simp] theorem sz67 : szOf Try.prog 67 = some 8 := by kernel_rfl
@[simp] theorem sz69 : szOf Try.prog 69 = some 2 := by kernel_rfl
@[simp] theorem sz71 : szOf Try.prog 71 = some 43 := by kernel_rfl
@[simp] theorem sz84 : szOf Try.prog 84 = some 2 := by kernel_rfl
@[simp] theorem sz89 : szOf Try.prog 89 = some 8 := by kernel_rfl
@[simp] theorem sz9 : szOf Try.prog 9 = some 1 := by kernel_rfl
@[simp] theorem sz91 : szOf Try.prog 91 = some 31 := by kernel_rfl
@[simp] theorem sz92 : szOf Try.prog 92 = some 1 := by kernel_rfl
@[simp] theorem sz93 : szOf Try.prog 93 = some 1 := by kernel_rfl
@[simp] theorem sz95 : szOf Try.prog 95 = some 2 := by kernel_rfl
@[simp] theorem sz96 : szOf Try.prog 96 = some 1 := by kernel_rfl
@[simp] theorem sz98 : szOf Try.prog 98 = some 3 := by kernel_rfl
@[simp] theorem sz99 : szOf Try.prog 99 = some 1 := by kernel_rfl
@[simp] theorem zer3 : zerOf Try.prog 3 = some [.int .i64 0] := by kernel_rfl
@[simp] theorem zer84 : zerOf Try.prog 84 = some [.int .i64 0, .int .i64 0] := by kernel_rfl
@[simp] theorem zer9 : zerOf Try.prog 9 = some [.string { data := { toList := [] } }] := by kernel_rfl
@[simp] theorem zer71 : zerOf Try.prog 71 = some [.int .i64 0, .int .i64 0, .int .i64 0, .int .i64 0, .int .i64 0, .slice none 0 0, .slice none 0 0, .slice none 0 0, .slice none 0 0, .int .i64 0, .int .i64 0, .int .i64 0, .slice none 0 0, .int .i64 0, .int .i64 0, .int .i64 0, .int .i64 0, .int .i64 0, .int .i64 0, .int .i64 0, .int .i64 0, .int .i64 0, .int .i64 0, .int .i64 0, .int .i64 0, .int .i64 0, .int .i64 0, .int .i64 0, .int .i64 0, .int .i64 0, .int .i64 0, .slice none 0 0, .slice none 0 0, .slice none 0 0, .int .i64 0, .int .i64 0, .slice none 0 0, .int .i64 0, .int .i64 0, .int .i64 0, .slice none 0 0, .int .i64 0, .bool false] := by kernel_rfl
@[simp] theorem zer117 : zerOf Try.prog 117 = some [.int .i64 0, .int .i64 0, .int .i64 0, .int .i64 0, .int .i64 0, .int .i64 0, .slice none 0 0, .int .i64 0, .bool false, .slice none 0 0, .slice none 0 0, .slice none 0 0] := by kernel_rfl
@[simp] theorem zer120 : zerOf Try.prog 120 = some [.int .i64 0, .int .i64 0, .slice none 0 0] := by kernel_rfl
@[simp] theorem zer5 : zerOf Try.prog 5 = some [.int .u8 0] := by kernel_rfl
@[simp] theorem byt5 : isByte Try.prog 5 = true := by kernel_rfl
@[simp] theorem zer132 : zerOf Try.prog 132 = some [.bool false, .int .i64 0, .int .i64 0, .int .i64 0, .int .i64 0] := by kernel_rfl
@[simp] theorem zer134 : zerOf Try.prog 134 = some [.bool false, .int .i64 0, .int .i64 0, .int .i64 0, .string { data := { toList := [] } }] := by kernel_rfl
@[simp] theorem zer136 : zerOf Try.prog 136 = some [.bool false, .int .i64 0, .int .i64 0, .string { data := { toList := [] } }, .int .i64 0, .int .i64 0] := by kernel_rfl
@[simp] theorem zer138 : zerOf Try.prog 138 = some [.int .i64 0, .int .i64 0, .string { data := { toList := [] } }, .int .i64 0] := by kernel_rfl
@[simp] theorem zer101 : zerOf Try.prog 101 = some [.slice none 0 0, .int .i64 0] := by kernel_rfl
@[simp] theorem zer103 : zerOf Try.prog 103 = some [.slice none 0 0, .slice none 0 0, .slice none 0 0, .int .i64 0, .int .i64 0, .slice none 0 0, .int .i64 0, .int .i64 0] := by kernel_rfl
@[simp] theorem zer104 : zerOf Try.prog 104 = some [.slice none 0 0, .int .i64 0] := by kernel_rfl
@[simp] theorem zer106 : zerOf Try.prog 106 = some [.int .i64 0, .int .i64 0, .int .i64 0, .int .i64 0, .int .i64 0, .slice none 0 0, .slice none 0 0, .slice none 0 0, .slice none 0 0, .int .i64 0, .int .i64 0, .int .i64 0, .slice none 0 0, .int .i64 0, .int .i64 0, .int .i64 0, .int .i64 0, .int .i64 0, .int .i64 0, .int .i64 0, .int .i64 0, .int .i64 0, .int .i64 0, .int .i64 0, .int .i64 0, .int .i64 0, .int .i64 0, .int .i64 0, .int .i64 0, .int .i64 0, .int .i64 0, .slice none 0 0, .slice none 0 0, .slice none 0 0, .int .i64 0, .int .i64 0, .slice none 0 0, .int .i64 0, .int .i64 0, .int .i64 0, .slice none 0 0, .int .i64 0, .bool false] := by kernel_rfl
@[simp] theorem zer110 : zerOf Try.prog 110 = some [.int .i64 0, .int .i64 0, .int .i64 0, .int .i64 0, .int .i64 0, .int .i64 0, .slice none 0 0, .int .i64 0, .bool false, .slice none 0 0, .slice none 0 0, .slice none 0 0] := by kernel_rfl
@[simp] theorem zer113 : zerOf Try.prog 113 = some [.int .i64 0, .int .i64 0, .slice none 0 0] := by kernel_rfl
@[simp] theorem zer128 : zerOf Try.prog 128 = some [.bool false, .int .i64 0, .int .i64 0] := by kernel_rfl
@[simp] theorem zer130 : zerOf Try.prog 130 = some [.bool false, .int .i64 0, .int .i64 0, .int .i64 0] := by kernel_rfl
@[simp] theorem zer181 : zerOf Try.prog 181 = some [.bool false, .int .i64 0, .int .i64 0] := by kernel_rfl
@[simp] theorem zer183 : zerOf Try.prog 183 = some [.bool false, .int .i64 0, .int .i64 0, .int .i64 0] := by kernel_rfl
@[simp] theorem zer185 : zerOf Try.prog 185 = some [.bool false, .int .i64 0, .int .i64 0, .int .i64 0, .string { data := { toList := [] } }] := by kernel_rfl
@[simp] theorem zer188 : zerOf Try.prog 188 = some [.bool false, .int .i64 0, .int .i64 0, .string { data := { toList := [] } }, .int .i64 0, .int .i64 0] := by kernel_rfl
@[simp] theorem zer190 : zerOf Try.prog 190 = some [.int .i64 0, .int .i64 0, .string { data := { toList := [] } }, .int .i64 0] := by kernel_rfl
@[simp] theorem zer193 : zerOf Try.prog 193 = some [.bool false, .int .i64 0, .int .i64 0, .int .i64 0, .int .i64 0] := by kernel_rfl
@[simp] theorem zer25 : zerOf Try.prog 25 = some [.slice none 0 0, .slice none 0 0] := by kernel_rfl
@[simp] theorem zer31 : zerOf Try.prog 31 = some [.slice none 0 0, .slice none 0 0, .slice none 0 0, .slice none 0 0, .slice none 0 0, .slice none 0 0, .slice none 0 0, .bool false] := by kernel_rfl
@[simp] theorem zer35 : zerOf Try.prog 35 = some [.slice none 0 0, .slice none 0 0] := by kernel_rfl
@[simp] theorem zer39 : zerOf Try.prog 39 = some [.slice none 0 0, .slice none 0 0, .slice none 0 0, .slice none 0 0, .slice none 0 0, .slice none 0 0, .slice none 0 0, .bool false] := by kernel_rfl
@[simp] theorem zer52 : zerOf Try.prog 52 = some [.int .i64 0, .int .i64 0, .int .i64 0, .int .i64 0, .slice none 0 0, .slice none 0 0, .slice none 0 0, .slice none 0 0] := by kernel_rfl
@[simp] theorem zer53 : zerOf Try.prog 53 = some [.int .i64 0, .int .i64 0, .int .i64 0, .int .i64 0, .int .i64 0, .int .i64 0, .int .i64 0, .int .i64 0] := by kernel_rfl
@[simp] theorem zer55 : zerOf Try.prog 55 = some [.int .i64 0, .int .i64 0, .int .i64 0, .int .i64 0, .int .i64 0, .slice none 0 0, .slice none 0 0, .slice none 0 0, .slice none 0 0, .int .i64 0, .int .i64 0, .int .i64 0, .slice none 0 0, .int .i64 0, .int .i64 0, .int .i64 0, .int .i64 0, .int .i64 0, .int .i64 0, .int .i64 0, .int .i64 0, .int .i64 0, .int .i64 0, .int .i64 0, .int .i64 0, .int .i64 0, .int .i64 0, .int .i64 0, .int .i64 0, .int .i64 0, .int .i64 0] := by kernel_rfl
@[simp] theorem zer59 : zerOf Try.prog 59 = some [.slice none 0 0, .slice none 0 0] := by kernel_rfl
@[simp] theorem zer62 : zerOf Try.prog 62 = some [.slice none 0 0, .int .i64 0, .int .i64 0] := by kernel_rfl
@[simp] theorem zer65 : zerOf Try.prog 65 = some [.slice none 0 0, .int .i64 0] := by kernel_rfl
@[simp] theorem zer67 : zerOf Try.prog 67 = some [.slice none 0 0, .slice none 0 0, .slice none 0 0, .int .i64 0, .int .i64 0, .slice none 0 0, .int .i64 0, .int .i64 0] := by kernel_rfl
@[simp] theorem zer69 : zerOf Try.prog 69 = some [.slice none 0 0, .int .i64 0] := by kernel_rfl
@[simp] theorem zer89 : zerOf Try.prog 89 = some [.int .i64 0, .int .i64 0, .int .i64 0, .int .i64 0, .slice none 0 0, .slice none 0 0, .slice none 0 0, .slice none 0 0] := by kernel_rfl
@[simp] theorem zer91 : zerOf Try.prog 91 = some [.int .i64 0, .int .i64 0, .int .i64 0, .int .i64 0, .int .i64 0, .slice none 0 0, .slice none 0 0, .slice none 0 0, .slice none 0 0, .int .i64 0, .int .i64 0, .int .i64 0, .slice none 0 0, .int .i64 0, .int .i64 0, .int .i64 0, .int .i64 0, .int .i64 0, .int .i64 0, .int .i64 0, .int .i64 0, .int .i64 0, .int .i64 0, .int .i64 0, .int .i64 0, .int .i64 0, .int .i64 0, .int .i64 0, .int .i64 0, .int .i64 0, .int .i64 0] := by kernel_rfl
@[simp] theorem zer95 : zerOf Try.prog 95 = some [.slice none 0 0, .slice none 0 0] := by kernel_rfl
@[simp] theorem zer98 : zerOf Try.prog 98 = some [.slice none 0 0, .int .i64 0, .int .i64 0] := by kernel_rfl

theorem mo : Try.prog.follows .mixedOrders = true := by kernel_rfl
abbrev I (n : Int) : AV := .sc (.int .i64 n)
abbrev Bo (b : Bool) : AV := .sc (.bool b)
abbrev By (n : Int) : AV := .sc (.int .u8 n)
end Go.Proofs
