/- Tab3: a table of regions where a row that is built takes what it holds (printed by wip/gen.lean, with buildSlice counted among the writers). -/
import Derived.Test.YtngglgkemonibaaQ12
set_option linter.unusedVariables false
set_option linter.unusedSimpArgs false
set_option linter.unnecessarySimpa false
namespace Go.Proofs.Ytngglgkemonibaa.L
open Go Go.RowKit
set_option maxRecDepth 100000
/-- carcanet/carcanetlaw05.WalkApart -/
def v6 : List (Nat × RC) := [(0, .s [0]),
 (1, .s [0, 3]),
 (2, .s [0, 3, 4]),
 (3, .s [0, 3, 4, 5]),
 (4, .s [0, 3, 4, 5, 14]),
 (6, ⟨[0, 3, 4, 5], ⟨[0, 0, 0, 0, 12, 28, 0, 0, 192, 448, 960, 1984, 4092, 8190, 16382, 32767, 65535], [.fn 0 2, .fn 0 0, .fn 0 0, .fn 0 0, .fn 0 0, .fn 0 0, .fn 0 0, .fn 0 0, .fn 0 0, .fn 0 0, .fn 0 0, .fn 0 0, .fn 0 0, .wr 0, .wr 1, .wr 2, .wr 3], [13, 14, 15, 16], [(17, 0), (18, 1), (19, 2), (20, 3), (21, 4), (22, 5), (23, 6), (24, 7), (25, 8), (26, 9), (27, 10), (28, 11), (29, 12)]⟩, [([0, 1, 2, 3, 4, 5, 6, 7, 8, 9, 10, 11, 12], []), ([], [0]), ([], [0]), ([], []), ([], [])]⟩),
 (5, .s [0, 3, 4, 5]),
 (7, .s [2])]
def tabs3 : Tabs := [(6, v6)]
theorem tabs3_ok : tabsOk Try.prog tabs3 = true := by kernel_rfl
theorem goodBy3 {E : Env} (hE : EnvOk Try.prog E) {f : FuncId} {fn : Func} {t : List (Nat × RC)} {us : List (SV Unit)} {r : SV Unit} (hf : Try.prog.funcs[f]? = some fn) (ht : tabs3.lookup f = some t) (hl : us.length ≤ fn.ntmps) (hn : (fn.name == "runtime.NumGoroutine") = false)
    (h : ∃ c, fn.body = some c ∧ RP (regOf Try.prog E fn.ntmps t) c (argsSt 0 us) (endsAs Try.prog fn r)) : Good Try.prog f us r := by
  obtain ⟨c, hc, h⟩ := h
  exact good_of hE tabs3_ok hf hc ht ⟨hl, hn⟩ h
end Go.Proofs.Ytngglgkemonibaa.L
