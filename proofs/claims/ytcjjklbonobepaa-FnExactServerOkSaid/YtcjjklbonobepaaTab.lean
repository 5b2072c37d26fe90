/- The program's tables, as far as the walk asks: each read off by the kernel. -/
import Derived.Test.YtcjjklbonobepaaVr
import Derived.Test.YtcjjklbonobepaaProg
set_option linter.unusedVariables false
set_option maxRecDepth 100000
namespace Go.Proofs
open Go VC

@[simp] theorem agg22 : aggOf Try.prog 22 = some false := by kernel_rfl
@[simp] theorem agg24 : aggOf Try.prog 24 = some true := by kernel_rfl
@[simp] theorem agg25 : aggOf Try.prog 25 = some false := by kernel_rfl
@[simp] theorem agg26 : aggOf Try.prog 26 = some false := by kernel_rfl
@[simp] theorem agg28 : aggOf Try.prog 28 = some true := by kernel_rfl
@[simp] theorem agg3 : aggOf Try.prog 3 = some false := by kernel_rfl
@[simp] theorem agg32 : aggOf Try.prog 32 = some true := by kernel_rfl
@[simp] theorem agg33 : aggOf Try.prog 33 = some false := by kernel_rfl
@[simp] theorem agg35 : aggOf Try.prog 35 = some true := by kernel_rfl
@[simp] theorem agg4 : aggOf Try.prog 4 = some false := by kernel_rfl
@[simp] theorem agg43 : aggOf Try.prog 43 = some true := by kernel_rfl
@[simp] theorem agg47 : aggOf Try.prog 47 = some true := by kernel_rfl
@[simp] theorem agg5 : aggOf Try.prog 5 = some false := by kernel_rfl
@[simp] theorem agg55 : aggOf Try.prog 55 = some true := by kernel_rfl
@[simp] theorem agg57 : aggOf Try.prog 57 = some true := by kernel_rfl
@[simp] theorem agg61 : aggOf Try.prog 61 = some true := by kernel_rfl
@[simp] theorem agg81 : aggOf Try.prog 81 = some true := by kernel_rfl
@[simp] theorem agg9 : aggOf Try.prog 9 = some false := by kernel_rfl
@[simp] theorem agg98 : aggOf Try.prog 98 = some true := by kernel_rfl
@[simp] theorem arr55 : arrOf Try.prog 55 = some (8, 1, false) := by kernel_rfl
@[simp] theorem arrInt55 : arrInt Try.prog 55 = some (8, .i64) := by kernel_rfl
@[simp] theorem fld24_0 : fldOf Try.prog 24 0 = some (0, 1, false) := by kernel_rfl
@[simp] theorem fld24_1 : fldOf Try.prog 24 1 = some (1, 1, false) := by kernel_rfl
@[simp] theorem fld28_0 : fldOf Try.prog 28 0 = some (0, 1, false) := by kernel_rfl
@[simp] theorem fld28_1 : fldOf Try.prog 28 1 = some (1, 1, false) := by kernel_rfl
@[simp] theorem fld28_2 : fldOf Try.prog 28 2 = some (2, 1, false) := by kernel_rfl
@[simp] theorem fld28_3 : fldOf Try.prog 28 3 = some (3, 1, false) := by kernel_rfl
@[simp] theorem fld28_4 : fldOf Try.prog 28 4 = some (4, 2, true) := by kernel_rfl
@[simp] theorem fld28_5 : fldOf Try.prog 28 5 = some (6, 1, false) := by kernel_rfl
@[simp] theorem fld28_6 : fldOf Try.prog 28 6 = some (7, 1, false) := by kernel_rfl
@[simp] theorem fld32_0 : fldOf Try.prog 32 0 = some (0, 1, false) := by kernel_rfl
@[simp] theorem fld32_1 : fldOf Try.prog 32 1 = some (1, 1, false) := by kernel_rfl
@[simp] theorem fld35_0 : fldOf Try.prog 35 0 = some (0, 1, false) := by kernel_rfl
@[simp] theorem fld35_1 : fldOf Try.prog 35 1 = some (1, 1, false) := by kernel_rfl
@[simp] theorem fld35_2 : fldOf Try.prog 35 2 = some (2, 1, false) := by kernel_rfl
@[simp] theorem fld35_3 : fldOf Try.prog 35 3 = some (3, 1, false) := by kernel_rfl
@[simp] theorem fld35_4 : fldOf Try.prog 35 4 = some (4, 2, true) := by kernel_rfl
@[simp] theorem fld35_5 : fldOf Try.prog 35 5 = some (6, 1, false) := by kernel_rfl
@[simp] theorem fld35_6 : fldOf Try.prog 35 6 = some (7, 1, false) := by kernel_rfl
@[simp] theorem fld43_0 : fldOf Try.prog 43 0 = some (0, 1, false) := by kernel_rfl
@[simp] theorem fld43_1 : fldOf Try.prog 43 1 = some (1, 1, false) := by kernel_rfl
@[simp] theorem fld43_10 : fldOf Try.prog 43 10 = some (10, 2, true) := by kernel_rfl
@[simp] theorem fld43_2 : fldOf Try.prog 43 2 = some (2, 1, false) := by kernel_rfl
@[simp] theorem fld43_3 : fldOf Try.prog 43 3 = some (3, 1, false) := by kernel_rfl
@[simp] theorem fld43_4 : fldOf Try.prog 43 4 = some (4, 1, false) := by kernel_rfl
@[simp] theorem fld43_5 : fldOf Try.prog 43 5 = some (5, 1, false) := by kernel_rfl
@[simp] theorem fld43_6 : fldOf Try.prog 43 6 = some (6, 1, false) := by kernel_rfl
@[simp] theorem fld43_7 : fldOf Try.prog 43 7 = some (7, 1, false) := by kernel_rfl
@[simp] theorem fld43_8 : fldOf Try.prog 43 8 = some (8, 1, false) := by kernel_rfl
@[simp] theorem fld43_9 : fldOf Try.prog 43 9 = some (9, 1, false) := by kernel_rfl
@[simp] theorem fld47_0 : fldOf Try.prog 47 0 = some (0, 1, false) := by kernel_rfl
@[simp] theorem fld47_1 : fldOf Try.prog 47 1 = some (1, 1, false) := by kernel_rfl
@[simp] theorem fld47_10 : fldOf Try.prog 47 10 = some (10, 2, true) := by kernel_rfl
@[simp] theorem fld47_2 : fldOf Try.prog 47 2 = some (2, 1, false) := by kernel_rfl
@[simp] theorem fld47_3 : fldOf Try.prog 47 3 = some (3, 1, false) := by kernel_rfl
@[simp] theorem fld47_4 : fldOf Try.prog 47 4 = some (4, 1, false) := by kernel_rfl
@[simp] theorem fld47_5 : fldOf Try.prog 47 5 = some (5, 1, false) := by kernel_rfl
@[simp] theorem fld47_6 : fldOf Try.prog 47 6 = some (6, 1, false) := by kernel_rfl
@[simp] theorem fld47_7 : fldOf Try.prog 47 7 = some (7, 1, false) := by kernel_rfl
@[simp] theorem fld47_8 : fldOf Try.prog 47 8 = some (8, 1, false) := by kernel_rfl
@[simp] theorem fld47_9 : fldOf Try.prog 47 9 = some (9, 1, false) := by kernel_rfl
@[simp] theorem fld57_0 : fldOf Try.prog 57 0 = some (0, 1, false) := by kernel_rfl
@[simp] theorem fld57_1 : fldOf Try.prog 57 1 = some (1, 8, true) := by kernel_rfl
@[simp] theorem fld57_2 : fldOf Try.prog 57 2 = some (9, 1, false) := by kernel_rfl
@[simp] theorem fld57_3 : fldOf Try.prog 57 3 = some (10, 1, false) := by kernel_rfl
@[simp] theorem fld57_4 : fldOf Try.prog 57 4 = some (11, 1, false) := by kernel_rfl
@[simp] theorem fld57_5 : fldOf Try.prog 57 5 = some (12, 1, false) := by kernel_rfl
@[simp] theorem fld57_6 : fldOf Try.prog 57 6 = some (13, 8, true) := by kernel_rfl
@[simp] theorem fld57_7 : fldOf Try.prog 57 7 = some (21, 8, true) := by kernel_rfl
@[simp] theorem fld57_8 : fldOf Try.prog 57 8 = some (29, 1, false) := by kernel_rfl
@[simp] theorem fld57_9 : fldOf Try.prog 57 9 = some (30, 1, false) := by kernel_rfl
@[simp] theorem fld61_0 : fldOf Try.prog 61 0 = some (0, 1, false) := by kernel_rfl
@[simp] theorem fld61_1 : fldOf Try.prog 61 1 = some (1, 8, true) := by kernel_rfl
@[simp] theorem fld61_2 : fldOf Try.prog 61 2 = some (9, 1, false) := by kernel_rfl
@[simp] theorem fld61_3 : fldOf Try.prog 61 3 = some (10, 1, false) := by kernel_rfl
@[simp] theorem fld61_4 : fldOf Try.prog 61 4 = some (11, 1, false) := by kernel_rfl
@[simp] theorem fld61_5 : fldOf Try.prog 61 5 = some (12, 1, false) := by kernel_rfl
@[simp] theorem fld61_6 : fldOf Try.prog 61 6 = some (13, 8, true) := by kernel_rfl
@[simp] theorem fld61_7 : fldOf Try.prog 61 7 = some (21, 8, true) := by kernel_rfl
@[simp] theorem fld61_8 : fldOf Try.prog 61 8 = some (29, 1, false) := by kernel_rfl
@[simp] theorem fld61_9 : fldOf Try.prog 61 9 = some (30, 1, false) := by kernel_rfl
@[simp] theorem fld81_0 : fldOf Try.prog 81 0 = some (0, 1, false) := by kernel_rfl
@[simp] theorem fld81_1 : fldOf Try.prog 81 1 = some (1, 1, false) := by kernel_rfl
@[simp] theorem fld81_2 : fldOf Try.prog 81 2 = some (2, 1, false) := by kernel_rfl
@[simp] theorem fld98_0 : fldOf Try.prog 98 0 = some (0, 1, false) := by kernel_rfl
@[simp] theorem fld98_1 : fldOf Try.prog 98 1 = some (1, 1, false) := by kernel_rfl
@[simp] theorem fld98_2 : fldOf Try.prog 98 2 = some (2, 1, false) := by kernel_rfl
@[simp] theorem boo4 : isBoo Try.prog 4 = true := by kernel_rfl
@[simp] theorem isFn10 : isFn Try.prog 10 = true := by kernel_rfl
@[simp] theorem isFn11 : isFn Try.prog 11 = true := by kernel_rfl
@[simp] theorem isFn12 : isFn Try.prog 12 = true := by kernel_rfl
@[simp] theorem isFn13 : isFn Try.prog 13 = true := by kernel_rfl
@[simp] theorem isFn14 : isFn Try.prog 14 = true := by kernel_rfl
@[simp] theorem isFn15 : isFn Try.prog 15 = true := by kernel_rfl
@[simp] theorem isFn16 : isFn Try.prog 16 = true := by kernel_rfl
@[simp] theorem isFn17 : isFn Try.prog 17 = true := by kernel_rfl
@[simp] theorem isFn18 : isFn Try.prog 18 = true := by kernel_rfl
@[simp] theorem isFn19 : isFn Try.prog 19 = true := by kernel_rfl
@[simp] theorem isFn20 : isFn Try.prog 20 = true := by kernel_rfl
@[simp] theorem isFn21 : isFn Try.prog 21 = true := by kernel_rfl
@[simp] theorem isFn22 : isFn Try.prog 22 = true := by kernel_rfl
@[simp] theorem isFn23 : isFn Try.prog 23 = true := by kernel_rfl
@[simp] theorem isFn24 : isFn Try.prog 24 = true := by kernel_rfl
@[simp] theorem isFn25 : isFn Try.prog 25 = true := by kernel_rfl
@[simp] theorem isFn26 : isFn Try.prog 26 = true := by kernel_rfl
@[simp] theorem isFn27 : isFn Try.prog 27 = true := by kernel_rfl
@[simp] theorem isFn28 : isFn Try.prog 28 = true := by kernel_rfl
@[simp] theorem isFn29 : isFn Try.prog 29 = true := by kernel_rfl
@[simp] theorem isFn30 : isFn Try.prog 30 = true := by kernel_rfl
@[simp] theorem isFn31 : isFn Try.prog 31 = true := by kernel_rfl
@[simp] theorem isFn32 : isFn Try.prog 32 = true := by kernel_rfl
@[simp] theorem isFn33 : isFn Try.prog 33 = true := by kernel_rfl
@[simp] theorem isFn34 : isFn Try.prog 34 = true := by kernel_rfl
@[simp] theorem isFn35 : isFn Try.prog 35 = true := by kernel_rfl
@[simp] theorem isFn36 : isFn Try.prog 36 = true := by kernel_rfl
@[simp] theorem isFn37 : isFn Try.prog 37 = true := by kernel_rfl
@[simp] theorem isFn38 : isFn Try.prog 38 = true := by kernel_rfl
@[simp] theorem isFn39 : isFn Try.prog 39 = true := by kernel_rfl
@[simp] theorem isFn40 : isFn Try.prog 40 = true := by kernel_rfl
@[simp] theorem isFn41 : isFn Try.prog 41 = true := by kernel_rfl
@[simp] theorem isFn42 : isFn Try.prog 42 = true := by kernel_rfl
@[simp] theorem isFn43 : isFn Try.prog 43 = true := by kernel_rfl
@[simp] theorem isFn44 : isFn Try.prog 44 = true := by kernel_rfl
@[simp] theorem isFn45 : isFn Try.prog 45 = true := by kernel_rfl
@[simp] theorem isFn46 : isFn Try.prog 46 = true := by kernel_rfl
@[simp] theorem isFn47 : isFn Try.prog 47 = true := by kernel_rfl
@[simp] theorem isFn48 : isFn Try.prog 48 = true := by kernel_rfl
@[simp] theorem isFn49 : isFn Try.prog 49 = true := by kernel_rfl
@[simp] theorem isFn50 : isFn Try.prog 50 = true := by kernel_rfl
@[simp] theorem isFn51 : isFn Try.prog 51 = true := by kernel_rfl
@[simp] theorem isFn52 : isFn Try.prog 52 = true := by kernel_rfl
@[simp] theorem isFn53 : isFn Try.prog 53 = true := by kernel_rfl
@[simp] theorem isFn54 : isFn Try.prog 54 = true := by kernel_rfl
@[simp] theorem isFn55 : isFn Try.prog 55 = true := by kernel_rfl
@[simp] theorem isFn56 : isFn Try.prog 56 = true := by kernel_rfl
@[simp] theorem isFn57 : isFn Try.prog 57 = true := by kernel_rfl
@[simp] theorem isFn58 : isFn Try.prog 58 = true := by kernel_rfl
@[simp] theorem isFn59 : isFn Try.prog 59 = true := by kernel_rfl
@[simp] theorem isFn60 : isFn Try.prog 60 = true := by kernel_rfl
@[simp] theorem isFn61 : isFn Try.prog 61 = true := by kernel_rfl
@[simp] theorem isFn62 : isFn Try.prog 62 = true := by kernel_rfl
@[simp] theorem isFn63 : isFn Try.prog 63 = true := by kernel_rfl
@[simp] theorem isFn64 : isFn Try.prog 64 = true := by kernel_rfl
@[simp] theorem isFn65 : isFn Try.prog 65 = true := by kernel_rfl
@[simp] theorem isFn66 : isFn Try.prog 66 = true := by kernel_rfl
@[simp] theorem isFn67 : isFn Try.prog 67 = true := by kernel_rfl
@[simp] theorem isFn68 : isFn Try.prog 68 = true := by kernel_rfl
@[simp] theorem isFn69 : isFn Try.prog 69 = true := by kernel_rfl
@[simp] theorem isFn70 : isFn Try.prog 70 = true := by kernel_rfl
@[simp] theorem isFn71 : isFn Try.prog 71 = true := by kernel_rfl
@[simp] theorem isFn72 : isFn Try.prog 72 = true := by kernel_rfl
@[simp] theorem isFn73 : isFn Try.prog 73 = true := by kernel_rfl
@[simp] theorem isFn74 : isFn Try.prog 74 = true := by kernel_rfl
@[simp] theorem isFn75 : isFn Try.prog 75 = true := by kernel_rfl
@[simp] theorem isFn76 : isFn Try.prog 76 = true := by kernel_rfl
@[simp] theorem isFn77 : isFn Try.prog 77 = true := by kernel_rfl
@[simp] theorem isFn78 : isFn Try.prog 78 = true := by kernel_rfl
@[simp] theorem isFn79 : isFn Try.prog 79 = true := by kernel_rfl
@[simp] theorem isFn80 : isFn Try.prog 80 = true := by kernel_rfl
@[simp] theorem isFn81 : isFn Try.prog 81 = true := by kernel_rfl
@[simp] theorem isFn82 : isFn Try.prog 82 = true := by kernel_rfl
@[simp] theorem isFn83 : isFn Try.prog 83 = true := by kernel_rfl
@[simp] theorem isFn84 : isFn Try.prog 84 = true := by kernel_rfl
@[simp] theorem isFn85 : isFn Try.prog 85 = true := by kernel_rfl
@[simp] theorem isFn86 : isFn Try.prog 86 = true := by kernel_rfl
@[simp] theorem isFn87 : isFn Try.prog 87 = true := by kernel_rfl
@[simp] theorem isFn88 : isFn Try.prog 88 = true := by kernel_rfl
@[simp] theorem isFn89 : isFn Try.prog 89 = true := by kernel_rfl
@[simp] theorem isFn9 : isFn Try.prog 9 = true := by kernel_rfl
@[simp] theorem isFn90 : isFn Try.prog 90 = true := by kernel_rfl
@[simp] theorem isFn91 : isFn Try.prog 91 = true := by kernel_rfl
@[simp] theorem isFn92 : isFn Try.prog 92 = true := by kernel_rfl
@[simp] theorem isFn93 : isFn Try.prog 93 = true := by kernel_rfl
@[simp] theorem isFn94 : isFn Try.prog 94 = true := by kernel_rfl
@[simp] theorem isFn95 : isFn Try.prog 95 = true := by kernel_rfl
@[simp] theorem isint110 : isInt Try.prog 110 = some .u64 := by kernel_rfl
@[simp] theorem isint3 : isInt Try.prog 3 = some .i64 := by kernel_rfl
@[simp] theorem isint5 : isInt Try.prog 5 = some .u8 := by kernel_rfl
@[simp] theorem str9 : isStr Try.prog 9 = true := by kernel_rfl
@[simp] theorem plc32 : plcOf Try.prog 32 = some [(0, 1), (1, 1)] := by kernel_rfl
@[simp] theorem plc55 : plcOf Try.prog 55 = none := by kernel_rfl
@[simp] theorem plc61 : plcOf Try.prog 61 = some [(0, 1), (1, 8), (9, 1), (10, 1), (11, 1), (12, 1), (13, 8), (21, 8), (29, 1), (30, 1)] := by kernel_rfl
@[simp] theorem plc81 : plcOf Try.prog 81 = some [(0, 1), (1, 1), (2, 1)] := by kernel_rfl
@[simp] theorem slc22 : slcOf Try.prog 22 = some (3, 1, 8) := by kernel_rfl
@[simp] theorem slc25 : slcOf Try.prog 25 = some (5, 1, 1) := by kernel_rfl
@[simp] theorem slc26 : slcOf Try.prog 26 = some (98, 3, 40) := by kernel_rfl
@[simp] theorem slc33 : slcOf Try.prog 33 = some (81, 3, 40) := by kernel_rfl
@[simp] theorem slc82 : slcOf Try.prog 82 = some (9, 1, 16) := by kernel_rfl
@[simp] theorem sz22 : szOf Try.prog 22 = some 1 := by kernel_rfl
@[simp] theorem sz24 : szOf Try.prog 24 = some 2 := by kernel_rfl
@[simp] theorem sz25 : szOf Try.prog 25 = some 1 := by kernel_rfl
@[simp] theorem sz26 : szOf Try.prog 26 = some 1 := by kernel_rfl
@[simp] theorem sz28 : szOf Try.prog 28 = some 8 := by kernel_rfl
@[simp] theorem sz3 : szOf Try.prog 3 = some 1 := by kernel_rfl
@[simp] theorem sz32 : szOf Try.prog 32 = some 2 := by kernel_rfl
@[simp] theorem sz33 : szOf Try.prog 33 = some 1 := by kernel_rfl
@[simp] theorem sz35 : szOf Try.prog 35 = some 8 := by kernel_rfl
@[simp] theorem sz4 : szOf Try.prog 4 = some 1 := by kernel_rfl
@[simp] theorem sz43 : szOf Try.prog 43 = some 12 := by kernel_rfl
@[simp] theorem sz47 : szOf Try.prog 47 = some 12 := by kernel_rfl
@[simp] theorem sz5 : szOf Try.prog 5 = some 1 := by kernel_rfl
@[simp] theorem sz55 : szOf Try.prog 55 = some 8 := by kernel_rfl
@[simp] theorem sz57 : szOf Try.prog 57 = some 31 := by kernel_rfl
@[simp] theorem sz61 : szOf Try.prog 61 = some 31 := by kernel_rfl
@[simp] theorem sz81 : szOf Try.prog 81 = some 3 := by kernel_rfl
@[simp] theorem sz9 : szOf Try.prog 9 = some 1 := by kernel_rfl
@[simp] theorem sz98 : szOf Try.prog 98 = some 3 := by kernel_rfl
@[simp] theorem zer3 : zerOf Try.prog 3 = some [.int .i64 0] := by kernel_rfl
@[simp] theorem zer5 : zerOf Try.prog 5 = some [.int .u8 0] := by kernel_rfl
@[simp] theorem byt5 : isByte Try.prog 5 = true := by kernel_rfl
@[simp] theorem zer81 : zerOf Try.prog 81 = some [.int .i64 0, .int .i64 0, .slice none 0 0] := by kernel_rfl
@[simp] theorem zer9 : zerOf Try.prog 9 = some [.string { data := { toList := [] } }] := by kernel_rfl
@[simp] theorem zer24 : zerOf Try.prog 24 = some [.slice none 0 0, .slice none 0 0] := by kernel_rfl
@[simp] theorem zer28 : zerOf Try.prog 28 = some [.int .i64 0, .int .i64 0, .int .i64 0, .int .i64 0, .slice none 0 0, .slice none 0 0, .slice none 0 0, .slice none 0 0] := by kernel_rfl
@[simp] theorem zer32 : zerOf Try.prog 32 = some [.slice none 0 0, .slice none 0 0] := by kernel_rfl
@[simp] theorem zer35 : zerOf Try.prog 35 = some [.int .i64 0, .int .i64 0, .int .i64 0, .int .i64 0, .slice none 0 0, .slice none 0 0, .slice none 0 0, .slice none 0 0] := by kernel_rfl
@[simp] theorem zer43 : zerOf Try.prog 43 = some [.int .i64 0, .int .i64 0, .int .i64 0, .int .i64 0, .int .i64 0, .int .i64 0, .slice none 0 0, .int .i64 0, .bool false, .slice none 0 0, .slice none 0 0, .slice none 0 0] := by kernel_rfl
@[simp] theorem zer47 : zerOf Try.prog 47 = some [.int .i64 0, .int .i64 0, .int .i64 0, .int .i64 0, .int .i64 0, .int .i64 0, .slice none 0 0, .int .i64 0, .bool false, .slice none 0 0, .slice none 0 0, .slice none 0 0] := by kernel_rfl
@[simp] theorem zer55 : zerOf Try.prog 55 = some [.int .i64 0, .int .i64 0, .int .i64 0, .int .i64 0, .int .i64 0, .int .i64 0, .int .i64 0, .int .i64 0] := by kernel_rfl
@[simp] theorem zer57 : zerOf Try.prog 57 = some [.int .i64 0, .int .i64 0, .int .i64 0, .int .i64 0, .int .i64 0, .slice none 0 0, .slice none 0 0, .slice none 0 0, .slice none 0 0, .int .i64 0, .int .i64 0, .int .i64 0, .slice none 0 0, .int .i64 0, .int .i64 0, .int .i64 0, .int .i64 0, .int .i64 0, .int .i64 0, .int .i64 0, .int .i64 0, .int .i64 0, .int .i64 0, .int .i64 0, .int .i64 0, .int .i64 0, .int .i64 0, .int .i64 0, .int .i64 0, .int .i64 0, .int .i64 0] := by kernel_rfl
@[simp] theorem zer61 : zerOf Try.prog 61 = some [.int .i64 0, .int .i64 0, .int .i64 0, .int .i64 0, .int .i64 0, .slice none 0 0, .slice none 0 0, .slice none 0 0, .slice none 0 0, .int .i64 0, .int .i64 0, .int .i64 0, .slice none 0 0, .int .i64 0, .int .i64 0, .int .i64 0, .int .i64 0, .int .i64 0, .int .i64 0, .int .i64 0, .int .i64 0, .int .i64 0, .int .i64 0, .int .i64 0, .int .i64 0, .int .i64 0, .int .i64 0, .int .i64 0, .int .i64 0, .int .i64 0, .int .i64 0] := by kernel_rfl
@[simp] theorem zer98 : zerOf Try.prog 98 = some [.int .i64 0, .int .i64 0, .slice none 0 0] := by kernel_rfl

theorem mo : Try.prog.follows .mixedOrders = true := by kernel_rfl
abbrev I (n : Int) : AV := .sc (.int .i64 n)
abbrev Bo (b : Bool) : AV := .sc (.bool b)
abbrev By (n : Int) : AV := .sc (.int .u8 n)
end Go.Proofs
