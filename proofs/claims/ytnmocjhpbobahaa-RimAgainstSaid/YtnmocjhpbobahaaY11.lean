/- Tab2: more tables (printed by wip/gen.lean). RS: what is left (layer 20), as the code has it. S13: functions that are lent their first argument; windows in a row that is built; arrays of arrays. -/
import Derived.Test.YtnmocjhpbobahaaY9
import Derived.Test.YtnmocjhpbobahaaY10
set_option linter.unusedVariables false
set_option linter.unusedSimpArgs false
set_option linter.unnecessarySimpa false
namespace Go.Proofs.Ytnmocjhpbobahaa.L
open Go Go.RowKit
set_option maxRecDepth 100000
/-- carcanet/carcanetlaw20.RimTells -/
def u3 : List (Nat × RC) := [(0, .s [1]),
 (1, .s [1, 3]),
 (2, .s [3, 4]),
 (3, ⟨[2], ⟨[0, 1, 3, 7, 15, 3, 63, 127, 255, 511], [.fn 0 0, .fn 0 0, .fn 0 0, .fn 0 0, .fn 0 0, .fn 0 0, .fn 0 0, .fn 0 0, .fn 0 0, .wr 0], [9], [(8, 0), (9, 1), (10, 2), (11, 3), (12, 4), (13, 5), (14, 6), (15, 7), (16, 8)]⟩, [([0, 1, 2, 3, 4, 5, 6, 7, 8], []), ([], [])]⟩)]
/-- carcanet/carcanetlaw20.RimAgainst -/
def u6 : List (Nat × RC) := [(0, .s [2, 3]),
 (1, .s [2, 3, 5]),
 (2, .s [3, 5, 6]),
 (3, .s [3, 5, 6, 7]),
 (4, .d [3, 5, 6, 7, 19] [0, 0, 3, 0, 8, 24, 63] [13, 14, 15, 16, 17, 18, 19]),
 (5, .s [4]),
 (6, ⟨[4], ⟨[0, 1, 3, 7, 15, 31, 63, 63, 191, 511, 1023, 2047, 4095, 8191], [.fn 0 0, .fn 0 0, .fn 0 0, .fn 0 0, .fn 0 0, .fn 0 0, .fn 0 0, .fn 0 0, .fn 0 0, .fn 0 0, .fn 0 0, .fn 0 0, .fn 0 0, .wr 0], [13], [(20, 0), (21, 1), (22, 2), (23, 3), (24, 4), (25, 5), (26, 6), (27, 7), (28, 8), (29, 9), (30, 10), (31, 11), (32, 12)]⟩, [([0, 1, 2, 3, 4, 5, 6, 7, 8, 9, 10, 11, 12], []), ([], [])]⟩)]
/-- carcanet/carcanetref03.Of -/
def u10 : List (Nat × RC) := [(0, .s [1, 2, 4]),
 (1, .s [4])]
/-- carcanet/rim.Run -/
def u13 : List (Nat × RC) := [(0, .s [1, 2]),
 (1, .s [1, 2, 9]),
 (2, .s [2]),
 (3, .s [1, 2, 14]),
 (4, .s [2]),
 (5, .s [1, 2, 19]),
 (6, .s [2]),
 (7, .s [2, 3]),
 (8, .s [2, 3, 4]),
 (9, .s [2, 3, 4, 5, 6]),
 (10, .s [2, 3, 4, 5, 33]),
 (11, .s [2]),
 (12, .s [2, 3, 4, 36]),
 (13, .s [2]),
 (14, .s [2, 3, 4, 7, 8]),
 (15, .s [2, 3, 4, 7, 45]),
 (16, .s [2]),
 (17, .s [2, 3, 4, 7]),
 (18, .s [2, 3, 4, 55]),
 (19, .s [2])]
/-- carcanet/carcanetlaw20.ours -/
def u16 : List (Nat × RC) := [(0, .s [1, 2]),
 (1, .s [1, 2, 3]),
 (2, .s [1, 2, 3, 4]),
 (3, .s [1, 2, 3, 4, 16]),
 (5, ⟨[1, 2, 3, 4], ⟨[0, 1, 0, 4, 0, 28, 60, 124, 255, 511, 1023], [.fn 0 0, .fn 0 0, .fn 0 0, .fn 0 0, .fn 0 0, .fn 0 0, .fn 0 0, .fn 0 0, .wr 0, .fn 1 1, .wr 1], [8, 10], [(19, 0), (20, 1), (21, 2), (22, 3), (23, 4), (24, 5), (25, 6), (26, 7), (28, 9)]⟩, [([0, 1, 2, 3, 4, 5, 6, 7], []), ([9], []), ([], [])]⟩),
 (4, .s [1, 2, 3, 4]),
 (6, .s [2])]
/-- carcanet/rim.Refutes -/
def u19 : List (Nat × RC) := [(0, .s [2, 3]),
 (1, .s [2, 3, 17]),
 (2, .s [4]),
 (3, .s [2, 3, 5]),
 (4, .s [2, 3, 5, 6]),
 (5, .s [2, 3, 5, 6, 24]),
 (6, .s [2, 3, 5, 6, 24, 25]),
 (7, .s [4]),
 (8, .s [2, 3, 5, 6, 24, 34]),
 (9, .s [4]),
 (10, .s [2, 3, 5, 6, 24, 42]),
 (11, .s [2, 3, 5, 6, 57]),
 (12, .s [4]),
 (13, .s [2, 5, 7]),
 (14, .s [2, 5, 7, 8]),
 (15, .d [5, 7, 8, 89] [0, 1, 3, 7, 15, 31, 15, 79, 255, 511, 1023, 2047, 4095, 2047, 10239, 32767, 65535, 131071, 262143, 524287, 262143, 1310719, 4194303, 8388607] [66, 67, 68, 69, 70, 71, 72, 73, 74, 75, 76, 77, 78, 79, 80, 81, 82, 83, 84, 85, 86, 87, 88, 89]),
 (16, .s [4]),
 (17, .s [5, 7, 9, 10]),
 (18, .s [4]),
 (19, .s [3, 5, 6, 24, 108]),
 (20, .s [3, 5, 6, 108]),
 (21, .s [3, 5, 116]),
 (22, .s [4]),
 (23, .s [3, 5, 11, 12]),
 (24, .s [3, 11, 12, 14]),
 (25, .s [4]),
 (26, .s [4])]
/-- carcanet/graph.Right -/
def u21 : List (Nat × RC) := [(0, .s [1]),
 (1, .s [1, 18]),
 (2, .s [2]),
 (3, .s [1, 20, 21, 22]),
 (4, .s [1, 20, 21, 22, 23]),
 (5, .s [1, 3, 4, 20, 21, 22]),
 (6, .d [1, 20, 21, 22, 58] [0, 1, 3, 7, 15, 31, 15, 79, 255, 511, 1023, 2047, 4095, 2047, 10239, 32767, 65535, 131071, 262143, 524287, 1048575, 2097151, 4194303, 2097151, 10485759, 33554431, 67108863, 2097151, 268435455, 536870911, 1073741823, 2147483647] [27, 28, 29, 30, 31, 32, 33, 34, 35, 36, 37, 38, 39, 40, 41, 42, 43, 44, 45, 46, 47, 48, 49, 50, 51, 52, 53, 54, 55, 56, 57, 58]),
 (7, .s [2]),
 (8, .s [1, 20, 21, 22]),
 (9, .s [2])]
/-- carcanet/graph.Degrees -/
def u22 : List (Nat × RC) := [(0, .s [1]),
 (1, .s [1, 8]),
 (2, .s [2]),
 (3, .s [1, 3]),
 (4, .s [3, 13, 14, 15]),
 (5, .s [3, 13, 14, 15, 16]),
 (6, .s [3, 5, 13, 14, 15]),
 (7, .s [3, 5, 13, 14, 15]),
 (8, .s [3, 13, 14, 15]),
 (9, .s [3, 13, 14, 15]),
 (10, .s [2])]
/-- carcanet/carcanetref03.Any -/
def u24 : List (Nat × RC) := [(0, .s [0, 1, 2, 6]),
 (1, .s [0, 1, 6]),
 (2, .s [0, 1, 6, 7]),
 (3, .s [0, 1, 6, 7, 8]),
 (4, .s [0, 1, 6, 7, 8, 27]),
 (6, ⟨[0, 1, 6, 7, 8], ⟨[0, 0, 0, 6, 14, 30, 62, 0, 254, 0, 0, 1536, 3584, 7680, 15872, 0, 65024, 131070, 262142, 524287, 1048575], [.fn 0 0, .fn 0 0, .fn 0 0, .fn 0 0, .fn 0 0, .fn 0 0, .fn 0 0, .fn 0 0, .fn 0 0, .fn 0 0, .fn 0 0, .fn 0 0, .fn 0 0, .fn 0 0, .fn 0 0, .fn 0 0, .fn 0 0, .fn 0 0, .fn 0 0, .wr 0, .wr 1], [19, 20], [(30, 0), (31, 1), (32, 2), (33, 3), (34, 4), (35, 5), (36, 6), (37, 7), (38, 8), (39, 9), (40, 10), (41, 11), (42, 12), (43, 13), (44, 14), (45, 15), (46, 16), (47, 17), (48, 18)]⟩, [([0, 1, 2, 3, 4, 5, 6, 7, 8, 9, 10, 11, 12, 13, 14, 15, 16, 17, 18], []), ([], []), ([], [])]⟩),
 (5, .s [0, 1, 6, 7, 8]),
 (7, .s [6, 9]),
 (8, .s [6])]
/-- carcanet/rim.low -/
def u26 : List (Nat × RC) := [(0, .s [1]),
 (1, .s [3]),
 (2, .s [2])]
/-- carcanet/rim.begin -/
def u27 : List (Nat × RC) := [(0, .s [1]),
 (1, ⟨[1, 3], ⟨[0, 1, 3, 0, 8, 24, 0, 64, 192, 0, 512, 2047, 4095, 8191], [.fn 0 0, .fn 0 0, .fn 0 0, .fn 0 0, .fn 0 0, .fn 0 0, .fn 0 0, .fn 0 0, .fn 0 0, .fn 0 0, .fn 0 0, .fn 0 0, .wr 0, .wr 1], [12, 13], [(8, 0), (9, 1), (10, 2), (11, 3), (12, 4), (13, 5), (14, 6), (15, 7), (16, 8), (17, 9), (18, 10), (19, 11)]⟩, [([0, 1, 2, 3, 4, 5, 6, 7, 8, 9, 10, 11], []), ([], []), ([], [])]⟩),
 (2, .s [3, 22, 23, 24]),
 (3, .s [3, 22, 23, 24, 25]),
 (4, .s [3, 5, 22, 23, 24]),
 (5, ⟨[3, 5, 22, 23, 24], ⟨[0, 1, 3, 7, 0, 16, 0, 64, 192, 448, 0, 1024, 4032, 8128, 0, 16384, 49152, 131008, 262143, 524287], [.fn 0 1, .fn 0 1, .fn 0 1, .fn 0 1, .fn 0 1, .fn 0 1, .fn 0 0, .fn 0 0, .fn 0 0, .fn 0 0, .fn 0 0, .fn 0 0, .fn 0 0, .fn 0 0, .fn 0 0, .fn 0 0, .fn 0 0, .wr 0, .fn 1 1, .wr 1], [17, 19], [(28, 0), (29, 1), (30, 2), (31, 3), (32, 4), (33, 5), (34, 6), (35, 7), (36, 8), (37, 9), (38, 10), (39, 11), (40, 12), (41, 13), (42, 14), (43, 15), (44, 16), (46, 18)]⟩, [([0, 1, 2, 3, 4, 5, 6, 7, 8, 9, 10, 11, 12, 13, 14, 15, 16], []), ([18], [0, 1, 2, 3, 4, 5]), ([], [])]⟩),
 (6, ⟨[3, 22, 23, 24], ⟨[0, 1, 3, 7, 0, 16, 0, 64, 192, 448, 0, 1024, 4032, 8128, 0, 16384, 49152, 131008, 262143, 524287], [.fn 0 1, .fn 0 1, .fn 0 1, .fn 0 1, .fn 0 1, .fn 0 1, .fn 0 0, .fn 0 0, .fn 0 0, .fn 0 0, .fn 0 0, .fn 0 0, .fn 0 0, .fn 0 0, .fn 0 0, .fn 0 0, .fn 0 0, .wr 0, .fn 1 1, .wr 1], [17, 19], [(47, 0), (48, 1), (49, 2), (50, 3), (51, 4), (52, 5), (53, 6), (54, 7), (55, 8), (56, 9), (57, 10), (58, 11), (59, 12), (60, 13), (61, 14), (62, 15), (63, 16), (65, 18)]⟩, [([0, 1, 2, 3, 4, 5, 6, 7, 8, 9, 10, 11, 12, 13, 14, 15, 16], []), ([18], [0, 1, 2, 3, 4, 5]), ([], [])]⟩),
 (7, .s [3, 22, 23, 24]),
 (8, .s [3, 70, 71, 72]),
 (9, .s [3, 70, 71, 72, 73]),
 (10, .s [3, 7, 70, 71, 72]),
 (11, .s [3, 70, 71, 72]),
 (12, .s [3, 70, 71, 72]),
 (13, .s [2])]
/-- (*carcanet/rim.rest).four -/
def u28 : List (Nat × RC) := [(0, .s [0]),
 (1, .s [0, 4]),
 (2, .s [0, 4, 5]),
 (3, .s [0, 4, 5, 12, 13, 14]),
 (4, .s [0, 4, 5, 12, 13, 14, 15]),
 (5, .s [0, 4, 5, 6, 7, 12, 13, 14]),
 (6, .s [0, 4, 5, 6, 7, 12, 13, 14, 26]),
 (7, .s [0, 4, 5, 7, 12, 13, 14]),
 (8, .s [0, 4, 5, 12, 13, 14]),
 (9, .s [0, 4, 5, 12, 13, 14]),
 (10, ⟨[2, 3], ⟨[0, 1, 3, 7, 15, 31, 63, 127, 255, 0, 512, 1536, 3647, 7743, 15935, 32319, 65087, 8191, 262143], [.fn 0 0, .fn 0 0, .fn 0 0, .fn 0 0, .fn 0 0, .fn 0 0, .fn 0 0, .fn 0 0, .fn 0 0, .fn 0 0, .fn 0 0, .fn 0 0, .fn 0 0, .fn 0 1, .fn 0 1, .fn 0 1, .fn 0 1, .wr 0, .wr 1], [17, 18], [(43, 0), (44, 1), (45, 2), (46, 3), (47, 4), (48, 5), (49, 6), (50, 7), (51, 8), (52, 9), (53, 10), (54, 11), (55, 12), (56, 13), (57, 14), (58, 15), (59, 16)]⟩, [([0, 1, 2, 3, 4, 5, 6, 7, 8, 9, 10, 11, 12, 13, 14, 15, 16], []), ([], [13, 14, 15, 16]), ([], [])]⟩)]
/-- (*carcanet/rim.rest).least -/
def u29 : List (Nat × RC) := [(0, .s [0, 2]),
 (1, .s [0, 2, 15, 16]),
 (2, .s [0, 2, 15, 16, 17]),
 (3, .s [0, 2, 4, 15, 16]),
 (4, .s [0, 2, 4, 15, 16, 25, 26, 27]),
 (5, .s [0, 2, 4, 15, 16, 25, 26, 27, 28]),
 (6, .s [0, 2, 4, 6, 15, 16, 25, 26, 27]),
 (7, .s [0, 2, 4, 6, 15, 16, 25, 26, 27, 33]),
 (8, .s [0, 2, 4, 6, 15, 16, 25, 26, 27, 40, 41, 42]),
 (9, .s [0, 2, 4, 6, 15, 16, 25, 26, 27, 40, 41, 42, 43]),
 (10, .s [0, 2, 4, 6, 8, 15, 16, 25, 26, 27, 40, 41, 42]),
 (11, .s [0, 2, 4, 6, 8, 15, 16, 25, 26, 27, 40, 41, 42, 54]),
 (12, .s [0, 2, 4, 6, 9, 10, 15, 16, 25, 26, 27, 40, 41, 42]),
 (13, .s [0, 2, 4, 6, 9, 15, 16, 25, 26, 27, 40, 41, 42, 64]),
 (14, .s [2, 3]),
 (15, .s [0, 2, 4, 6, 15, 16, 25, 26, 27, 40, 41, 42]),
 (16, .s [0, 2, 4, 15, 16, 25, 26, 27]),
 (17, .s [0, 2, 15, 16]),
 (18, .s [2, 3])]
/-- (*carcanet/rim.rest).do -/
def u30 : List (Nat × RC) := [(0, .s [0, 3]),
 (1, .s [0, 3, 17]),
 (2, .s [0, 4]),
 (3, .s [0, 3, 5, 6]),
 (4, .s [0, 3, 5, 28]),
 (5, .s [0, 4]),
 (6, .s [0, 3, 5]),
 (7, .s [0, 3, 5]),
 (8, .s [0, 3, 5]),
 (9, .s [0, 3, 5]),
 (10, ⟨[0, 5], ⟨[0, 1, 3, 7, 0, 16, 63, 127], [.fn 0 0, .fn 0 0, .fn 0 0, .fn 0 0, .fn 0 0, .fn 0 0, .fn 0 0, .wr 0], [7], [(49, 0), (50, 1), (51, 2), (52, 3), (53, 4), (54, 5), (55, 6)]⟩, [([0, 1, 2, 3, 4, 5, 6], []), ([], [])]⟩),
 (11, .s [0, 56, 57, 58]),
 (12, .s [0, 56, 57, 58, 59]),
 (13, .s [0, 8, 56, 57, 58]),
 (14, ⟨[0, 56, 57, 58], ⟨[0, 1, 3, 7, 0, 16, 0, 64, 255, 511], [.fn 0 0, .fn 0 0, .fn 0 0, .fn 0 0, .fn 0 0, .fn 0 0, .fn 0 0, .fn 0 0, .fn 0 0, .wr 0], [9], [(62, 0), (63, 1), (64, 2), (65, 3), (66, 4), (67, 5), (68, 6), (69, 7), (70, 8)]⟩, [([0, 1, 2, 3, 4, 5, 6, 7, 8], []), ([], [])]⟩),
 (15, .s [0, 56, 57, 58]),
 (16, .s [0, 4])]
/-- (*carcanet/rim.rest).replay -/
def u37 : List (Nat × RC) := [(0, .s [0, 1]),
 (1, .s [0, 1, 10, 11, 12]),
 (2, .s [0, 1, 10, 11, 12, 13]),
 (3, .s [0, 1, 5, 6, 10, 11, 12]),
 (4, .s [0, 1, 5, 6, 7, 10, 11, 12]),
 (5, .d [0, 1, 5, 6, 7, 10, 11, 12, 45] [0, 1, 3, 7, 15, 31, 15, 79, 207, 463, 975, 2047, 4095, 8191, 16383, 32767, 16383, 81919, 262143, 524287, 1048575, 2097151, 4194303, 2097151, 10485759, 33554431, 67108863] [19, 20, 21, 22, 23, 24, 25, 26, 27, 28, 29, 30, 31, 32, 33, 34, 35, 36, 37, 38, 39, 40, 41, 42, 43, 44, 45]),
 (6, .s [0, 4]),
 (7, .s [0, 1, 5, 6, 8, 9, 10, 11, 12]),
 (8, ⟨[0, 1, 5, 10, 11, 12, 67], ⟨[0, 1, 3, 7, 15, 7, 63, 127, 255, 511, 1023, 1023, 4095, 8191, 16383], [.fn 0 0, .fn 0 0, .fn 0 0, .fn 0 0, .fn 0 0, .fn 0 0, .fn 0 0, .fn 0 0, .fn 0 0, .fn 0 0, .fn 0 0, .fn 0 0, .wr 0, .fn 1 1, .fn 1 1], [12], [(53, 0), (54, 1), (55, 2), (56, 3), (57, 4), (58, 5), (59, 6), (60, 7), (61, 8), (62, 9), (63, 10), (64, 11), (66, 13), (67, 14)]⟩, [([0, 1, 2, 3, 4, 5, 6, 7, 8, 9, 10, 11], []), ([13, 14], [])]⟩),
 (9, .s [0, 4]),
 (10, .s [0, 1, 10, 11, 12]),
 (11, .s [0, 4])]
/-- (carcanet/rim.Cut).corners -/
def u43 : List (Nat × RC) := [(0, .s [1, 2]),
 (1, .s [2])]
/-- slices.Min[[]int,int] -/
def u44 : List (Nat × RC) := [(0, .s [0]),
 (1, .s [0, 7]),
 (2, .s [0]),
 (3, .s [0, 3]),
 (4, .s [0, 3, 4]),
 (5, .s [0, 3, 4, 15]),
 (7, .s [0, 3, 4]),
 (6, .s [0, 3, 4]),
 (8, .s [2])]
/-- slices.Max[[]int,int] -/
def u45 : List (Nat × RC) := [(0, .s [0]),
 (1, .s [0, 7]),
 (2, .s [0]),
 (3, .s [0, 3]),
 (4, .s [0, 3, 4]),
 (5, .s [0, 3, 4, 15]),
 (7, .s [0, 3, 4]),
 (6, .s [0, 3, 4]),
 (8, .s [2])]
/-- (*carcanet/rim.rest).cut -/
def u46 : List (Nat × RC) := [(0, .s [0, 3, 4]),
 (1, .s [0, 3, 4, 43]),
 (2, .s [4, 5]),
 (3, .s [0, 3, 4, 6]),
 (4, .s [0, 3, 4, 6, 7]),
 (5, .s [0, 3, 4, 6, 7, 46, 47]),
 (6, .s [0, 3, 4, 6, 7, 46, 47, 48]),
 (7, .s [0, 3, 4, 6, 7, 8, 9, 46, 47]),
 (8, .s [0, 3, 4, 6, 7, 8, 9, 46, 47, 59]),
 (9, .s [0, 3, 4, 6, 7, 8, 9, 46, 47]),
 (10, .s [0, 3, 4, 6, 7, 8, 46, 47, 68, 69, 70]),
 (11, .s [0, 3, 4, 6, 7, 8, 46, 47, 68, 69, 70, 71]),
 (12, .s [0, 3, 4, 6, 7, 8, 11, 46, 47, 68, 69, 70]),
 (13, .s [0, 3, 4, 6, 7, 8, 11, 46, 47, 68, 69, 70, 77]),
 (14, .s [0, 3, 4, 6, 7, 8, 46, 47, 68, 69, 70]),
 (15, .s [0, 3, 4, 6, 7, 8, 46, 47, 68, 69, 70]),
 (16, .s [0, 3, 4, 6, 7, 46, 47]),
 (17, .s [4, 5])]
/-- carcanet/graph.compare -/
def u48 : List (Nat × RC) := [(0, .s [2, 3]),
 (1, ⟨[4], ⟨[0, 1, 0, 4, 15, 0, 32, 0, 128, 511, 1023, 2047, 4095], [.fn 0 0, .fn 0 0, .fn 0 0, .fn 0 0, .fn 0 0, .fn 0 0, .fn 0 0, .fn 0 0, .fn 0 0, .fn 0 0, .fn 0 0, .fn 0 0, .wr 0], [12], [(5, 0), (6, 1), (7, 2), (8, 3), (9, 4), (10, 5), (11, 6), (12, 7), (13, 8), (14, 9), (15, 10), (16, 11)]⟩, [([0, 1, 2, 3, 4, 5, 6, 7, 8, 9, 10, 11], []), ([], [])]⟩)]
/-- carcanet/carcanetref03.Normal -/
def u49 : List (Nat × RC) := [(0, .s [0, 1, 4]),
 (1, .s [0, 1, 4, 16]),
 (2, .s [4, 5]),
 (3, .s [0, 1, 4, 19]),
 (4, .s [4, 5]),
 (5, .s [0, 1, 4, 6]),
 (6, .s [0, 1, 4, 6, 7]),
 (7, .s [0, 1, 4, 6, 7, 26]),
 (9, .s [0, 1, 4, 6, 7, 8]),
 (10, .s [0, 1, 4, 6, 7, 8, 9]),
 (11, .s [0, 1, 4, 6, 7, 8, 9, 54]),
 (12, .s [4, 5]),
 (13, .s [0, 1, 4, 6, 7, 8, 9, 10]),
 (14, .s [0, 1, 4, 6, 7, 8, 9, 10, 72]),
 (15, .s [0, 1, 4, 6, 7]),
 (8, .s [0, 1, 4, 6, 7]),
 (16, .s [0, 4, 6, 11]),
 (17, .s [0, 4, 6, 11, 12]),
 (18, .s [0, 4, 6, 11, 12, 89]),
 (20, .s [0, 4, 6, 11, 12, 13]),
 (21, .s [0, 4, 6, 11, 12, 13, 14]),
 (22, .s [0, 4, 6, 11, 12, 13, 14, 100]),
 (24, ⟨[0, 4, 6, 11, 12, 13, 14], ⟨[0, 1, 0, 0, 0, 24, 56, 124, 252, 511, 1023, 2047], [.fn 0 0, .fn 0 0, .fn 0 0, .fn 0 0, .fn 0 0, .fn 0 0, .fn 0 0, .fn 0 0, .fn 0 0, .wr 0, .fn 1 1, .wr 1], [9, 11], [(103, 0), (104, 1), (105, 2), (106, 3), (107, 4), (108, 5), (109, 6), (110, 7), (111, 8), (113, 10)]⟩, [([0, 1, 2, 3, 4, 5, 6, 7, 8], []), ([10], []), ([], [])]⟩),
 (23, .s [0, 4, 6, 11, 12, 13, 14]),
 (19, .s [0, 4, 6, 11, 12]),
 (25, .s [4, 11, 117]),
 (26, .s [4, 5]),
 (27, .s [4, 5])]
/-- (*carcanet/rim.rest).has -/
def u51 : List (Nat × RC) := [(0, .s [0, 1, 2]),
 (1, .s [8]),
 (2, .s [6])]
/-- (*carcanet/rim.rest).wide -/
def u52 : List (Nat × RC) := [(0, .s [0, 3]),
 (1, ⟨[0, 5, 6], ⟨[0, 1, 0, 7, 0, 0, 63, 127], [.fn 0 0, .fn 0 0, .fn 0 0, .fn 0 0, .fn 0 0, .fn 0 0, .wr 0, .wr 1], [6, 7], [(14, 0), (15, 1), (16, 2), (17, 3), (5, 4), (6, 5)]⟩, [([0, 1, 2, 3, 4, 5], []), ([], []), ([], [])]⟩),
 (2, .s [0, 5, 6, 7]),
 (3, .s [0, 5, 6, 7, 8, 9]),
 (4, .d [0, 5, 6, 7, 8, 9, 32] [0, 1, 3, 0, 8, 24, 63] [26, 27, 28, 29, 30, 31, 32]),
 (5, .s [0, 5, 6, 7, 8, 9]),
 (6, .d [0, 5, 6, 7, 8, 9, 41] [0, 1, 3, 0, 8, 24, 63] [35, 36, 37, 38, 39, 40, 41]),
 (7, .s [0, 4]),
 (8, .d [0, 5, 6, 7, 8, 9, 54, 55] [0, 1, 3, 0, 8, 24, 0, 64, 192, 0, 512, 1536, 4095, 0] [42, 43, 44, 45, 46, 47, 48, 49, 50, 51, 52, 53, 54, 55]),
 (9, .s [0, 5, 6, 7, 8, 9, 54, 55, 56]),
 (10, .s [0, 5, 6, 7, 8, 9, 11, 54, 55]),
 (11, .s [0, 5, 6, 7, 8, 9, 54, 55, 60]),
 (12, .s [0, 4]),
 (13, .s [0, 5, 6, 7, 8, 9, 54, 55]),
 (14, .s [0, 5, 6, 7, 8, 9]),
 (15, ⟨[0, 5, 6, 7, 8, 9], ⟨[0, 0, 2, 6, 0, 16, 48, 127], [.fn 0 0, .fn 0 0, .fn 0 0, .fn 0 0, .fn 0 0, .fn 0 0, .fn 0 0, .wr 0], [7], [(67, 0), (68, 1), (69, 2), (70, 3), (71, 4), (72, 5), (73, 6)]⟩, [([0, 1, 2, 3, 4, 5, 6], []), ([], [])]⟩),
 (16, ⟨[0, 5, 6, 8, 9], ⟨[0, 1, 3, 7, 0, 16, 48, 127, 255], [.fn 0 0, .fn 0 0, .fn 0 0, .fn 0 0, .fn 0 0, .fn 0 0, .fn 0 0, .fn 0 0, .wr 0], [8], [(75, 0), (76, 1), (77, 2), (78, 3), (79, 4), (80, 5), (81, 6), (82, 7)]⟩, [([0, 1, 2, 3, 4, 5, 6, 7], []), ([], [])]⟩),
 (17, .d [0, 92, 93] [0, 1, 3, 0, 8, 24, 0, 64, 192, 511, 0] [83, 84, 85, 86, 87, 88, 89, 90, 91, 92, 93]),
 (18, .s [0, 92, 93, 94]),
 (19, .s [0, 13, 92, 93]),
 (20, .s [0, 92, 93]),
 (21, .s [0, 92, 93]),
 (22, .s [0, 4])]
/-- (*carcanet/rim.rest).wants -/
def u53 : List (Nat × RC) := [(0, .s [0, 3]),
 (1, ⟨[0, 6, 7], ⟨[0, 1, 0, 7, 0, 0, 63, 127], [.fn 0 0, .fn 0 0, .fn 0 0, .fn 0 0, .fn 0 0, .fn 0 0, .wr 0, .wr 1], [6, 7], [(18, 0), (19, 1), (20, 2), (21, 3), (6, 4), (7, 5)]⟩, [([0, 1, 2, 3, 4, 5], []), ([], []), ([], [])]⟩),
 (2, .s [0, 6, 7, 40]),
 (3, .s [4, 5]),
 (4, .s [0, 6, 7, 8]),
 (5, .s [0, 6, 7, 8, 42, 43]),
 (6, .s [0, 6, 7, 8, 42, 43, 44]),
 (7, .s [0, 6, 7, 8, 10, 42, 43]),
 (8, .s [0, 6, 7, 8, 42, 43]),
 (9, .s [0, 6, 7, 8, 42, 43]),
 (10, .s [0, 6, 7, 8, 65]),
 (11, .s [4, 5]),
 (12, .s [0, 6, 7, 8, 11]),
 (13, .s [0, 6, 7, 8, 11, 12]),
 (14, .s [0, 7, 8, 11, 12, 74, 75]),
 (15, .s [0, 7, 8, 11, 12, 74, 75, 76]),
 (16, .s [0, 7, 8, 11, 12, 13, 14, 74, 75]),
 (17, .s [0, 7, 8, 11, 12, 13, 14, 15, 74, 75]),
 (18, .s [0, 7, 8, 11, 12, 13, 14, 74, 75, 102]),
 (19, .s [0, 7, 8, 11, 12, 74, 75]),
 (20, .s [0, 7, 8, 11, 12, 13, 74, 75, 114]),
 (21, .s [0, 7, 8, 11, 12, 74, 75]),
 (22, .s [0, 7, 8, 11, 12, 74, 75]),
 (23, .s [0, 12, 134, 135, 136]),
 (24, .s [0, 12, 134, 135, 136, 137]),
 (25, .s [0, 12, 17, 134, 135, 136]),
 (26, .d [0, 12, 134, 135, 136, 164] [0, 1, 3, 7, 15, 31, 63, 127, 15, 271, 1023, 2047, 4095, 8191, 16383, 32767, 65535, 131071, 262143, 524287, 524287, 1572863, 4194303, 8388607, 16777215] [140, 141, 142, 143, 144, 145, 146, 147, 148, 149, 150, 151, 152, 153, 154, 155, 156, 157, 158, 159, 160, 161, 162, 163, 164]),
 (27, .s [4, 5]),
 (28, .s [0, 12, 134, 135, 136]),
 (29, .s [4, 5])]
/-- (*carcanet/rim.rest).leave -/
def u54 : List (Nat × RC) := [(0, .s [0, 1, 13, 14, 15]),
 (1, .s [0, 1, 13, 14, 15, 16]),
 (2, .s [0, 1, 5, 13, 14, 15]),
 (3, .s [0, 1, 13, 14, 15]),
 (4, .s [0, 1, 13, 14, 15]),
 (5, .s [0]),
 (6, .s [0])]
/-- (*carcanet/rim.rest).join -/
def u55 : List (Nat × RC) := [(0, .s [0, 16, 17]),
 (1, .s [0, 16, 17, 18]),
 (2, .s [0, 7, 16, 17]),
 (3, ⟨[0, 7, 8, 16, 17], ⟨[0, 1, 3, 7, 0, 16, 63, 127, 0, 256, 1023, 2047, 4095, 4095, 8191, 32767], [.fn 0 0, .fn 0 0, .fn 0 0, .fn 0 0, .fn 0 0, .fn 0 0, .fn 0 0, .fn 0 0, .fn 0 0, .fn 0 0, .fn 0 0, .fn 0 0, .fn 0 0, .fn 0 1, .wr 0, .wr 1], [14, 15], [(21, 0), (22, 1), (23, 2), (24, 3), (25, 4), (26, 5), (27, 6), (28, 7), (29, 8), (30, 9), (31, 10), (20, 11), (32, 12), (33, 13)]⟩, [([0, 1, 2, 3, 4, 5, 6, 7, 8, 9, 10, 11, 12, 13], []), ([], [13]), ([], [])]⟩),
 (4, ⟨[0, 16, 17], ⟨[0, 1, 3, 7, 0, 16, 0, 64, 192, 448, 0, 1024, 4032, 8128, 0, 32704, 0, 65536, 196608, 0, 524288, 1572864, 3670016, 0, 8388608, 33030144, 66584576, 0, 267911168, 536870848, 1073741760, 2147483647, 4294967295], [.fn 0 1, .fn 0 1, .fn 0 1, .fn 0 1, .fn 0 1, .fn 0 1, .fn 0 0, .fn 0 0, .fn 0 0, .fn 0 0, .fn 0 0, .fn 0 0, .fn 0 0, .fn 0 0, .fn 0 0, .fn 0 0, .fn 0 0, .fn 0 0, .fn 0 0, .fn 0 0, .fn 0 0, .fn 0 0, .fn 0 0, .fn 0 0, .fn 0 0, .fn 0 0, .fn 0 0, .fn 0 0, .fn 0 0, .wr 0, .fn 1 1, .fn 1 1, .wr 1], [29, 32], [(34, 0), (35, 1), (36, 2), (37, 3), (38, 4), (39, 5), (40, 6), (41, 7), (42, 8), (43, 9), (44, 10), (45, 11), (46, 12), (47, 13), (48, 14), (49, 15), (50, 16), (51, 17), (52, 18), (53, 19), (54, 20), (55, 21), (56, 22), (57, 23), (58, 24), (59, 25), (60, 26), (61, 27), (62, 28), (64, 30), (65, 31)]⟩, [([0, 1, 2, 3, 4, 5, 6, 7, 8, 9, 10, 11, 12, 13, 14, 15, 16, 17, 18, 19, 20, 21, 22, 23, 24, 25, 26, 27, 28], []), ([30, 31], [0, 1, 2, 3, 4, 5]), ([], [])]⟩),
 (5, .s [0, 16, 17])]
/-- (carcanet/rim.Cut).beside -/
def u62 : List (Nat × RC) := [(0, .s [1, 2]),
 (1, .s [2])]
/-- slices.Contains[[]int,int] -/
def u63 : List (Nat × RC) := [(0, .s [0, 1]),
 (1, .s [4])]
/-- cmp.Or[int] -/
def u64 : List (Nat × RC) := [(0, .s [0]),
 (1, .s [0, 3]),
 (2, .s [3, 6, 7, 8]),
 (3, .s [3, 6, 7, 8, 9]),
 (4, .s [3, 5, 6, 7, 8]),
 (5, .s [3, 5, 6, 7, 8, 14]),
 (6, .s [2]),
 (7, .s [3, 6, 7, 8]),
 (8, .s [2])]
/-- cmp.Compare[int] -/
def u65 : List (Nat × RC) := [(0, .s [0, 1]),
 (1, .s [0, 1, 5]),
 (2, .s [0, 1, 5, 6]),
 (3, .s [0, 1, 6, 11]),
 (4, .s [12]),
 (5, .s [4]),
 (6, .s [4]),
 (7, .s [0, 1, 13]),
 (8, .s [4]),
 (9, .s [0, 1, 16]),
 (10, .s [4]),
 (11, .s [19]),
 (12, .s [4]),
 (13, .s [4])]
/-- slices.BinarySearch[[]int,int] -/
def u70 : List (Nat × RC) := [(0, .s [0, 1]),
 (1, .s [0, 1, 6]),
 (2, .s [0, 1, 6, 7, 8]),
 (3, .s [0, 1, 6, 7, 8, 15]),
 (4, .s [0, 1, 6, 7, 8, 9]),
 (5, .s [0, 1, 6, 7, 8, 9, 27]),
 (6, .s [0, 1, 6, 7, 8]),
 (7, .s [0, 1, 6, 7, 8]),
 (8, .s [4, 5])]
/-- slices.Index[[]int,int] -/
def u71 : List (Nat × RC) := [(0, .s [0, 1]),
 (1, .s [0, 1, 7, 8]),
 (2, .s [0, 1, 7, 8, 9]),
 (3, .s [0, 1, 5, 7, 8]),
 (4, .s [0, 1, 5, 7, 8, 16]),
 (5, .s [4]),
 (6, .s [0, 1, 7, 8]),
 (7, .s [4])]
/-- (*carcanet/rim.rest).inner -/
def u72 : List (Nat × RC) := [(0, .s [0, 1]),
 (1, .s [4])]
/-- slices.Clone[[]int,int] -/
def u73 : List (Nat × RC) := [(0, .s [0]),
 (1, .s [0, 4]),
 (2, .s [2]),
 (3, .s [2])]
/-- (*carcanet/rim.rest).drop -/
def u74 : List (Nat × RC) := [(0, .s [0, 16, 17]),
 (1, .s [0, 16, 17, 18]),
 (2, .s [0, 7, 16, 17]),
 (3, ⟨[0, 7, 8, 16, 17], ⟨[0, 1, 3, 7, 0, 16, 63, 127, 0, 256, 1023, 2047, 4095, 4095, 8191, 32767], [.fn 0 0, .fn 0 0, .fn 0 0, .fn 0 0, .fn 0 0, .fn 0 0, .fn 0 0, .fn 0 0, .fn 0 0, .fn 0 0, .fn 0 0, .fn 0 0, .fn 0 0, .fn 0 1, .wr 0, .wr 1], [14, 15], [(21, 0), (22, 1), (23, 2), (24, 3), (25, 4), (26, 5), (27, 6), (28, 7), (29, 8), (30, 9), (31, 10), (20, 11), (32, 12), (33, 13)]⟩, [([0, 1, 2, 3, 4, 5, 6, 7, 8, 9, 10, 11, 12, 13], []), ([], [13]), ([], [])]⟩),
 (4, ⟨[0, 16, 17], ⟨[0, 1, 3, 7, 0, 16, 0, 64, 192, 448, 0, 1024, 4032, 8128, 0, 32704, 0, 65536, 196608, 458752, 0, 1048576, 4128768, 8323072, 0, 16777216, 67043328, 134217664, 268435392, 536870911, 1073741823], [.fn 0 0, .fn 0 0, .fn 0 0, .fn 0 0, .fn 0 0, .fn 0 0, .fn 0 0, .fn 0 0, .fn 0 0, .fn 0 0, .fn 0 0, .fn 0 0, .fn 0 0, .fn 0 0, .fn 0 0, .fn 0 0, .fn 0 0, .fn 0 0, .fn 0 0, .fn 0 0, .fn 0 0, .fn 0 0, .fn 0 0, .fn 0 0, .fn 0 0, .fn 0 0, .fn 0 0, .fn 0 0, .fn 0 0, .fn 0 0, .wr 0], [30], [(34, 0), (35, 1), (36, 2), (37, 3), (38, 4), (39, 5), (40, 6), (41, 7), (42, 8), (43, 9), (44, 10), (45, 11), (46, 12), (47, 13), (48, 14), (49, 15), (50, 16), (51, 17), (52, 18), (53, 19), (54, 20), (55, 21), (56, 22), (57, 23), (58, 24), (59, 25), (60, 26), (61, 27), (62, 28), (63, 29)]⟩, [([0, 1, 2, 3, 4, 5, 6, 7, 8, 9, 10, 11, 12, 13, 14, 15, 16, 17, 18, 19, 20, 21, 22, 23, 24, 25, 26, 27, 28, 29], []), ([], [])]⟩),
 (5, .s [0, 16, 17])]
/-- slices.Concat[[]int,int] -/
def u75 : List (Nat × RC) := [(0, .s [0]),
 (1, .s [0, 3]),
 (2, .s [0, 3, 9, 10, 11]),
 (3, .s [0, 3, 9, 10, 11, 12]),
 (4, .s [0, 3, 5, 9, 10, 11]),
 (5, .s [0, 3, 9, 10, 11]),
 (6, .s [0, 3, 9, 10, 11, 20]),
 (7, .s [0, 3, 9, 10, 11]),
 (8, .s [0, 3, 9, 10, 11]),
 (9, .s [0, 6]),
 (10, .s [6, 25, 26, 27]),
 (11, .s [6, 25, 26, 27, 28]),
 (12, .s [6, 8, 25, 26, 27]),
 (13, .s [6, 25, 26, 27]),
 (14, .s [6, 25, 26, 27]),
 (15, .s [2])]
/-- cmp.isNaN[int] -/
def u79 : List (Nat × RC) := [(0, .s [0]),
 (1, .s [2])]
/-- cmp.Less[int] -/
def u86 : List (Nat × RC) := [(0, .s [0, 1]),
 (1, .s [4])]
/-- slices.isNaN[int] -/
def u91 : List (Nat × RC) := [(0, .s [0]),
 (1, .s [2])]
def tabs2 : Tabs := [(3, u3), (6, u6), (10, u10), (13, u13), (16, u16), (19, u19), (21, u21), (22, u22), (24, u24), (26, u26), (27, u27), (28, u28), (29, u29), (1048606, u30), (1048613, u37), (43, u43), (44, u44), (45, u45), (46, u46), (48, u48), (49, u49), (51, u51), (1048628, u52), (53, u53), (1048630, u54), (1048631, u55), (62, u62), (63, u63), (64, u64), (65, u65), (70, u70), (71, u71), (72, u72), (73, u73), (1048650, u74), (75, u75), (79, u79), (86, u86), (91, u91)]
theorem tabs2_ok : tabsOk Try.prog tabs2 = true := by kernel_rfl
theorem goodBy2 {E : Env} (hE : EnvOk Try.prog E) {f : FuncId} {fn : Func} {t : List (Nat × RC)} {us : List (SV Unit)} {r : SV Unit} (hf : Try.prog.funcs[f]? = some fn) (ht : tabs2.lookup f = some t) (hl : us.length ≤ fn.ntmps) (hn : (fn.name == "runtime.NumGoroutine") = false)
    (h : ∃ c, fn.body = some c ∧ RP (regOf Try.prog E fn.ntmps t) c (argsSt 0 us) (endsAs Try.prog fn r)) (hz : Nat.ble (fn.ntmps + 1) zeroN = true := by rfl) (hfz : Nat.ble (f + 1) zeroN = true := by rfl) : Good Try.prog f us r := goodTab hE tabs2_ok hf ht hl hn h hz hfz
theorem goodBy2L {E : Env} (hE : EnvOk Try.prog E) {f : FuncId} {fn : Func} {t : List (Nat × RC)} {y : Cell Unit} {us : List (SV Unit)} {R : SV Unit} (hf : Try.prog.funcs[f]? = some fn) (ht : tabs2.lookup (f + zeroN) = some t) (hl : us.length < fn.ntmps) (hn : (fn.name == "runtime.NumGoroutine") = false)
    (h : ∃ c, fn.body = some c ∧ RP (regOf Try.prog E (fn.ntmps + zeroN) t) c (argsSt 0 (one (.c y) :: us)) (endsAsL Try.prog fn y R)) (hz : Nat.ble (fn.ntmps + 1) zeroN = true := by rfl) (hfz : Nat.ble (f + 1) zeroN = true := by rfl) : GoodL Try.prog f y us R := goodLTab hE tabs2_ok hf ht hl hn h hz hfz
end Go.Proofs.Ytnmocjhpbobahaa.L
namespace Go.Proofs.Ytnmocjhpbobahaa.L
open Go Go.RowKit
set_option maxRecDepth 100000
/-- Rows of neighbours, marks, who is gone, how many are left. -/
structure Rst where
  near : List (List Int)
  mark : List Int
  gone : List Bool
  count : Int
abbrev rstF (r : Rst) : Cell Unit := .bx false () [.sl false 1 () (RL r.near), .sl false 1 () (IL r.mark), .sl false 1 () (BL r.gone), .sc (.int .i64 r.count)]
abbrev rstO (r : Rst) : Cell Unit := .bx true () [.sl true 1 () (OL r.near), .sl true 1 () (IL r.mark), .sl true 1 () (BL r.gone), .sc (.int .i64 r.count)]
/-- The rows rise, and name what there is. -/
structure RstOk (n : Nat) (r : Rst) : Prop where
  near : r.near.length = n
  mark : r.mark.length = n
  gone : r.gone.length = n
  rise : ∀ v, v < n → (nthR r.near v).Pairwise (· < ·)
  rng : ∀ v, v < n → ∀ x ∈ nthR r.near v, 0 ≤ x ∧ x < n
theorem RstOk.le {n : Nat} {r : Rst} (h : RstOk n r) {v : Nat} (hv : v < n) : (nthR r.near v).Pairwise (· ≤ ·) := (h.rise v hv).imp (fun hab => Int.le_of_lt hab)
theorem rise_len' (n : Int) : ∀ (l : List Int) (lo : Int), l.Pairwise (· < ·) → (∀ x ∈ l, lo ≤ x ∧ x < n) → l.length ≤ (n - lo).toNat
  | [], _, _, _ => Nat.zero_le _
  | x :: l, lo, h1, h2 => by
    rw [List.pairwise_cons] at h1
    have hx := h2 x (by simp)
    have := rise_len' n l (x + 1) h1.2 (fun y hy => ⟨by have := h1.1 y hy; omega, (h2 y (by simp [hy])).2⟩)
    simp only [List.length_cons]
    omega
theorem rise_len {l : List Int} {n : Nat} (h1 : l.Pairwise (· < ·)) (h2 : ∀ x ∈ l, 0 ≤ x ∧ x < n) : l.length ≤ n := by
  have := rise_len' n l 0 h1 h2
  omega
theorem RstOk.len {n : Nat} {r : Rst} (h : RstOk n r) {v : Nat} (hv : v < n) : (nthR r.near v).length ≤ n := rise_len (h.rise v hv) (h.rng v hv)
def asRst : SV Unit → Option Rst
  | ⟨.one, [.c (.bx false () [.sl false 1 () a, .sl false 1 () b, .sl false 1 () c, .sc (.int .i64 d)])]⟩ => match toRows a, toInts b, toBools c with
    | some a, some b, some c => some ⟨a, b, c, d⟩
    | _, _, _ => none
  | _ => none
@[simp] theorem asRst_rst (r : Rst) : asRst ⟨.one, [.c (rstF r)]⟩ = some r := by simp [asRst]
theorem asRst_eq {v : SV Unit} {r : Rst} (h : asRst v = some r) : v = ⟨.one, [.c (rstF r)]⟩ := by
  unfold asRst at h
  split at h
  · split at h
    · next a b c h1 h2 h3 =>
      simp only [Option.some.injEq] at h
      subst h
      rw [toRows_eq h1, toInts_eq h2, toBools_eq h3]
    · cases h
  · cases h
/-! ### the types -/
@[simp] theorem und93 : Try.prog.underlying 93 = some (.struct #[⟨"near", 90, 0, false, "", "carcanet/rim", 0⟩, ⟨"mark", 39, 1, false, "", "carcanet/rim", 24⟩, ⟨"gone", 91, 2, false, "", "carcanet/rim", 48⟩, ⟨"count", 3, 3, false, "", "carcanet/rim", 72⟩]) := by kernel_rfl
@[simp] theorem cells93 : Try.prog.cellsOf 93 = 4 := by kernel_rfl
@[simp] theorem und91 : Try.prog.underlying 91 = some (.slice 4) := by kernel_rfl
@[simp] theorem cells91 : Try.prog.cellsOf 91 = 1 := by kernel_rfl
@[simp] theorem und82 : Try.prog.underlying 82 = some (.array 3 3) := by kernel_rfl
@[simp] theorem cells82 : Try.prog.cellsOf 82 = 3 := by kernel_rfl
@[simp] theorem zero82 : zeroCellsOf Try.prog () 82 = some [.sc (.int .i64 0), .sc (.int .i64 0), .sc (.int .i64 0)] := by kernel_rfl
@[simp] theorem infos82 : infosOk Try.prog 82 = true := by kernel_rfl
end Go.Proofs.Ytnmocjhpbobahaa.L
namespace Go.Proofs.Ytnmocjhpbobahaa.L
open Go Go.RowKit
set_option maxRecDepth 100000
section
variable {P : Program} {σ : St Unit} {Q : Ex → St Unit → Prop}
theorem finL_ret {fn : Func} {y z : Cell Unit} {R : SV Unit} {xs : List (Kd × List (Cell Unit))} {d : Pend Unit} (hQ : endsAsL P fn y R = Q) (h1 : resAll P σ pend0 fn.results.toList = some (xs, d)) (h3 : backOf σ d y = some z) (h2 : lentSV z (resSV xs) = R) : Q .ret σ := by
  subst hQ; exact ⟨.inr rfl, xs, d, z, h1, h3, h2⟩
theorem finL_norm {fn : Func} {y z : Cell Unit} {R : SV Unit} {xs : List (Kd × List (Cell Unit))} {d : Pend Unit} (hQ : endsAsL P fn y R = Q) (h1 : resAll P σ pend0 fn.results.toList = some (xs, d)) (h3 : backOf σ d y = some z) (h2 : lentSV z (resSV xs) = R) : Q .normal σ := by
  subst hQ; exact ⟨.inl rfl, xs, d, z, h1, h3, h2⟩
end
attribute [simp] Part.path effCut cutOf stripCut cutWs hdLen hdU putHd distinct cutRow Part.sc
@[simp] theorem cutRoot_nil : cutRoot ([] : List (Nat × Option Nat × List (SC Unit))) = none := rfl
@[simp] theorem cutRoot_cons (x : Nat × Option Nat × List (SC Unit)) (l : List (Nat × Option Nat × List (SC Unit))) : cutRoot (x :: l) = match cutOf x with
    | some z => some z.1
    | none => cutRoot l := by
  unfold cutRoot
  rw [List.filterMap_cons]
  cases cutOf x <;> rfl
@[simp] theorem ΩU_dec (v : SV Unit) : ΩU.dec v = v := rfl
@[simp] theorem RL_two (a b : List Int) : [(.sl false 1 () (IL a) : Cell Unit), .sl false 1 () (IL b)] = RL [a, b] := rfl
@[simp] theorem RL_three (a b c : List Int) : [(.sl false 1 () (IL a) : Cell Unit), .sl false 1 () (IL b), .sl false 1 () (IL c)] = RL [a, b, c] := rfl
/-! ### a number out of an array's value -/
def idx3 (u v : Option Value) (t : Nat) (z : Option (Eff Unit)) : Option (Eff Unit) := match u, v with
  | some (.agg ⟨[.int .i64 a, .int .i64 b, .int .i64 c]⟩), some (.int .i64 i) => if i = 0 then some (effP t (iv a)) else if i = 1 then some (effP t (iv b)) else if i = 2 then some (effP t (iv c)) else z
  | _, _ => z
@[simp] theorem idx3_i (a b c i : Int) (t : Nat) (z : Option (Eff Unit)) : idx3 (some (.agg #[.int .i64 a, .int .i64 b, .int .i64 c])) (some (.int .i64 i)) t z = if i = 0 then some (effP t (iv a)) else if i = 1 then some (effP t (iv b)) else if i = 2 then some (effP t (iv c)) else z := rfl
section
variable {σ : St Unit} {t : Nat} {x y : Operand} {d : Option Nat} {ty : TypeId} {pos : String} {af : Array Edge} {g : Option (Nat × Bool)}
theorem sem_idx3 {ρ : Operand → Value} {a b c i : Int} (hx : ρ x = .agg #[.int .i64 a, .int .i64 b, .int .i64 c]) (hy : ρ y = .int .i64 i) : (i = 0 → pv Try.prog (execOp ρ ⟨d, .index 82 x y, ty, pos, af, g⟩) = some (.value (.int .i64 a))) ∧ (i = 1 → pv Try.prog (execOp ρ ⟨d, .index 82 x y, ty, pos, af, g⟩) = some (.value (.int .i64 b))) ∧ (i = 2 → pv Try.prog (execOp ρ ⟨d, .index 82 x y, ty, pos, af, g⟩) = some (.value (.int .i64 c))) := by
  refine ⟨?_, ?_, ?_⟩ <;> (rintro rfl; simp only [execOp, hx, hy]; kernel_rfl)
@[simp] theorem eff_idx3 : effPure Try.prog σ t ⟨d, .index 82 x y, ty, pos, af, g⟩ = idx3 (valOf σ x) (valOf σ y) t (effZ Try.prog σ t ⟨d, .index 82 x y, ty, pos, af, g⟩) := by
  unfold idx3
  split
  · next a b c i hx hy =>
    have key : ∀ v, pv Try.prog (execOp (fun x => (valOf σ x).getD undef) ⟨d, .index 82 x y, ty, pos, af, g⟩) = some (.value (.int .i64 v)) → effPure Try.prog σ t ⟨d, .index 82 x y, ty, pos, af, g⟩ = some (effP t (iv v)) := by
      intro v h
      unfold effPure
      rw [if_pos (by simp [pureOp, Op.operands, hx, hy, -valOf]), h]
      rfl
    obtain ⟨h0, h1, h2⟩ := sem_idx3 (x := x) (y := y) (d := d) (ty := ty) (pos := pos) (af := af) (g := g) (ρ := fun x => (valOf σ x).getD undef) (a := a) (b := b) (c := c) (i := i) (by show (valOf σ x).getD undef = _; rw [hx]; rfl) (by show (valOf σ y).getD undef = _; rw [hy]; rfl)
    split
    · next e => exact key a (h0 e)
    · split
      · next e => exact key b (h1 e)
      · split
        · next e => exact key c (h2 e)
        · rfl
  · rfl
end
end Go.Proofs.Ytnmocjhpbobahaa.L
