import Derived.Test.YtaldohdkfggkiaaGreatIgA
import Derived.KernelRfl
import Derived.Test.YtaldohdkfggkiaaGreatProg
set_option linter.unusedVariables false
set_option linter.unusedSimpArgs false
set_option linter.unusedSectionVars false
set_option linter.unnecessarySimpa false
namespace Go.Proofs
open Go.Ig
@[go_sem] theorem Tryz.tyL3 : tyL Tryz.prog 3 = some (false, 1) := by kernel_rfl
@[go_sem] theorem Tryz.tyL4 : tyL Tryz.prog 4 = some (false, 1) := by kernel_rfl
@[go_sem] theorem Tryz.tyL5 : tyL Tryz.prog 5 = some (false, 1) := by kernel_rfl
@[go_sem] theorem Tryz.tyL9 : tyL Tryz.prog 9 = some (false, 1) := by kernel_rfl
@[go_sem] theorem Tryz.tyL23 : tyL Tryz.prog 23 = some (true, 3) := by kernel_rfl
@[go_sem] theorem Tryz.tyL24 : tyL Tryz.prog 24 = some (false, 1) := by kernel_rfl
@[go_sem] theorem Tryz.tyL26 : tyL Tryz.prog 26 = some (true, 5) := by kernel_rfl
@[go_sem] theorem Tryz.tyL28 : tyL Tryz.prog 28 = some (true, 4) := by kernel_rfl
@[go_sem] theorem Tryz.tyL30 : tyL Tryz.prog 30 = some (true, 10) := by kernel_rfl
@[go_sem] theorem Tryz.tyL32 : tyL Tryz.prog 32 = some (true, 21) := by kernel_rfl
@[go_sem] theorem Tryz.tyL34 : tyL Tryz.prog 34 = some (true, 22) := by kernel_rfl
@[go_sem] theorem Tryz.tyL40 : tyL Tryz.prog 40 = some (false, 1) := by kernel_rfl
@[go_sem] theorem Tryz.tyL42 : tyL Tryz.prog 42 = some (true, 6) := by kernel_rfl
@[go_sem] theorem Tryz.tyL43 : tyL Tryz.prog 43 = some (false, 1) := by kernel_rfl
@[go_sem] theorem Tryz.tyL44 : tyL Tryz.prog 44 = some (false, 1) := by kernel_rfl
@[go_sem] theorem Tryz.tyL46 : tyL Tryz.prog 46 = some (true, 2) := by kernel_rfl
@[go_sem] theorem Tryz.tyL52 : tyL Tryz.prog 52 = some (false, 1) := by kernel_rfl
@[go_sem] theorem Tryz.tyL55 : tyL Tryz.prog 55 = some (false, 1) := by kernel_rfl
@[go_sem] theorem Tryz.tyL56 : tyL Tryz.prog 56 = some (false, 1) := by kernel_rfl
@[go_sem] theorem Tryz.tyL57 : tyL Tryz.prog 57 = some (false, 1) := by kernel_rfl
@[go_sem] theorem Tryz.tyL59 : tyL Tryz.prog 59 = some (true, 5) := by kernel_rfl
@[go_sem] theorem Tryz.tyL68 : tyL Tryz.prog 68 = some (false, 1) := by kernel_rfl
@[go_sem] theorem Tryz.tyL75 : tyL Tryz.prog 75 = some (true, 7) := by kernel_rfl
@[go_sem] theorem Tryz.tyL78 : tyL Tryz.prog 78 = some (true, 13) := by kernel_rfl
@[go_sem] theorem Tryz.tyL84 : tyL Tryz.prog 84 = some (true, 3) := by kernel_rfl
@[go_sem] theorem Tryz.tyL92 : tyL Tryz.prog 92 = some (true, 5) := by kernel_rfl
@[go_sem] theorem Tryz.tyL108 : tyL Tryz.prog 108 = some (false, 1) := by kernel_rfl
@[go_sem] theorem Tryz.tyL110 : tyL Tryz.prog 110 = some (true, 2) := by kernel_rfl
@[go_sem] theorem Tryz.tyL113 : tyL Tryz.prog 113 = some (true, 3) := by kernel_rfl
@[go_sem] theorem Tryz.tyL119 : tyL Tryz.prog 119 = some (false, 1) := by kernel_rfl
@[go_sem] theorem Tryz.tyL120 : tyL Tryz.prog 120 = some (false, 1) := by kernel_rfl
@[go_sem] theorem Tryz.tyL121 : tyL Tryz.prog 121 = some (false, 1) := by kernel_rfl
@[go_sem] theorem Tryz.tyL122 : tyL Tryz.prog 122 = some (false, 1) := by kernel_rfl
@[go_sem] theorem Tryz.tyL123 : tyL Tryz.prog 123 = some (false, 1) := by kernel_rfl
@[go_sem] theorem Tryz.tyL124 : tyL Tryz.prog 124 = some (false, 1) := by kernel_rfl
@[go_sem] theorem Tryz.tyL126 : tyL Tryz.prog 126 = some (true, 8) := by kernel_rfl
@[go_sem] theorem Tryz.tyL129 : tyL Tryz.prog 129 = some (false, 1) := by kernel_rfl
@[go_sem] theorem Tryz.tyL131 : tyL Tryz.prog 131 = some (false, 1) := by kernel_rfl
@[go_sem] theorem Tryz.tyL132 : tyL Tryz.prog 132 = some (false, 1) := by kernel_rfl
@[go_sem] theorem Tryz.tyL134 : tyL Tryz.prog 134 = some (true, 9) := by kernel_rfl
@[go_sem] theorem Tryz.tyL135 : tyL Tryz.prog 135 = some (false, 1) := by kernel_rfl
@[go_sem] theorem Tryz.tyL137 : tyL Tryz.prog 137 = some (true, 13) := by kernel_rfl
@[go_sem] theorem Tryz.tyL159 : tyL Tryz.prog 159 = some (false, 1) := by kernel_rfl
@[go_sem] theorem Tryz.tyL161 : tyL Tryz.prog 161 = some (true, 12) := by kernel_rfl
@[go_sem] theorem Tryz.tyL164 : tyL Tryz.prog 164 = some (false, 1) := by kernel_rfl
@[go_sem] theorem Tryz.tyL166 : tyL Tryz.prog 166 = some (true, 3) := by kernel_rfl
@[go_sem] theorem Tryz.tyL171 : tyL Tryz.prog 171 = some (false, 1) := by kernel_rfl
@[go_sem] theorem Tryz.tyL196 : tyL Tryz.prog 196 = some (false, 1) := by kernel_rfl
@[go_sem] theorem Tryz.tyL197 : tyL Tryz.prog 197 = some (false, 1) := by kernel_rfl
@[go_sem] theorem Tryz.tyL199 : tyL Tryz.prog 199 = some (true, 2) := by kernel_rfl
@[go_sem] theorem Tryz.tyL200 : tyL Tryz.prog 200 = some (false, 1) := by kernel_rfl
@[go_sem] theorem Tryz.tyL202 : tyL Tryz.prog 202 = some (true, 0) := by kernel_rfl
@[go_sem] theorem Tryz.tyL207 : tyL Tryz.prog 207 = some (true, 2) := by kernel_rfl
@[go_sem] theorem Tryz.tyL219 : tyL Tryz.prog 219 = some (true, 3) := by kernel_rfl
@[go_sem] theorem Tryz.tyL227 : tyL Tryz.prog 227 = some (false, 1) := by kernel_rfl
@[go_sem] theorem Tryz.tyL228 : tyL Tryz.prog 228 = some (true, 65) := by kernel_rfl
@[go_sem] theorem Tryz.tyL230 : tyL Tryz.prog 230 = some (true, 66) := by kernel_rfl
@[go_sem] theorem Tryz.tyL231 : tyL Tryz.prog 231 = some (true, 16) := by kernel_rfl
@[go_sem] theorem Tryz.tyL233 : tyL Tryz.prog 233 = some (true, 17) := by kernel_rfl
@[go_sem] theorem Tryz.tyL302 : tyL Tryz.prog 302 = some (true, 2) := by kernel_rfl
@[go_sem] theorem Tryz.tyL308 : tyL Tryz.prog 308 = some (false, 1) := by kernel_rfl
@[go_sem] theorem Tryz.tyL317 : tyL Tryz.prog 317 = some (true, 2) := by kernel_rfl
@[go_sem] theorem Tryz.tyL322 : tyL Tryz.prog 322 = some (true, 2) := by kernel_rfl
@[go_sem] theorem Tryz.tyL345 : tyL Tryz.prog 345 = some (false, 1) := by kernel_rfl
@[go_sem] theorem Tryz.tyL359 : tyL Tryz.prog 359 = some (false, 1) := by kernel_rfl
@[go_sem] theorem Tryz.elL23 : elL Tryz.prog 23 = some (some 3, 3, 1) := by kernel_rfl
@[go_sem] theorem Tryz.elL24 : elL Tryz.prog 24 = some (none, 110, 2) := by kernel_rfl
@[go_sem] theorem Tryz.elL37 : elL Tryz.prog 37 = some (none, 34, 22) := by kernel_rfl
@[go_sem] theorem Tryz.elL44 : elL Tryz.prog 44 = some (none, 84, 3) := by kernel_rfl
@[go_sem] theorem Tryz.elL52 : elL Tryz.prog 52 = some (none, 5, 1) := by kernel_rfl
@[go_sem] theorem Tryz.elL55 : elL Tryz.prog 55 = some (none, 75, 7) := by kernel_rfl
@[go_sem] theorem Tryz.elL56 : elL Tryz.prog 56 = some (none, 28, 4) := by kernel_rfl
@[go_sem] theorem Tryz.elL57 : elL Tryz.prog 57 = some (none, 78, 13) := by kernel_rfl
@[go_sem] theorem Tryz.elL68 : elL Tryz.prog 68 = some (none, 3, 1) := by kernel_rfl
@[go_sem] theorem Tryz.elL164 : elL Tryz.prog 164 = some (none, 207, 2) := by kernel_rfl
@[go_sem] theorem Tryz.elL212 : elL Tryz.prog 212 = some (none, 23, 3) := by kernel_rfl
@[go_sem] theorem Tryz.elL228 : elL Tryz.prog 228 = some (some 65, 200, 1) := by kernel_rfl
@[go_sem] theorem Tryz.elL231 : elL Tryz.prog 231 = some (some 16, 200, 1) := by kernel_rfl
@[go_sem] theorem Tryz.elL295 : elL Tryz.prog 295 = some (none, 68, 1) := by kernel_rfl
@[go_sem] theorem Tryz.elL308 : elL Tryz.prog 308 = some (none, 9, 1) := by kernel_rfl
@[go_sem] theorem Tryz.elL314 : elL Tryz.prog 314 = some (none, 317, 2) := by kernel_rfl
@[go_sem] theorem Tryz.elL318 : elL Tryz.prog 318 = some (none, 322, 2) := by kernel_rfl
@[go_sem] theorem Tryz.elL359 : elL Tryz.prog 359 = some (none, 131, 1) := by kernel_rfl
@[go_sem] theorem Tryz.elL370 : elL Tryz.prog 370 = some (none, 359, 1) := by kernel_rfl
@[go_sem] theorem Tryz.elL413 : elL Tryz.prog 413 = some (none, 200, 1) := by kernel_rfl
@[go_sem] theorem Tryz.fldL26_0 : fldL Tryz.prog 26 0 = some (0, 9) := by kernel_rfl
@[go_sem] theorem Tryz.fldL26_1 : fldL Tryz.prog 26 1 = some (1, 23) := by kernel_rfl
@[go_sem] theorem Tryz.fldL26_2 : fldL Tryz.prog 26 2 = some (4, 24) := by kernel_rfl
@[go_sem] theorem Tryz.fldL28_0 : fldL Tryz.prog 28 0 = some (0, 9) := by kernel_rfl
@[go_sem] theorem Tryz.fldL28_1 : fldL Tryz.prog 28 1 = some (1, 23) := by kernel_rfl
@[go_sem] theorem Tryz.fldL30_0 : fldL Tryz.prog 30 0 = some (0, 9) := by kernel_rfl
@[go_sem] theorem Tryz.fldL30_1 : fldL Tryz.prog 30 1 = some (1, 9) := by kernel_rfl
@[go_sem] theorem Tryz.fldL30_2 : fldL Tryz.prog 30 2 = some (2, 3) := by kernel_rfl
@[go_sem] theorem Tryz.fldL30_3 : fldL Tryz.prog 30 3 = some (3, 23) := by kernel_rfl
@[go_sem] theorem Tryz.fldL30_4 : fldL Tryz.prog 30 4 = some (6, 24) := by kernel_rfl
@[go_sem] theorem Tryz.fldL30_5 : fldL Tryz.prog 30 5 = some (7, 9) := by kernel_rfl
@[go_sem] theorem Tryz.fldL30_6 : fldL Tryz.prog 30 6 = some (8, 9) := by kernel_rfl
@[go_sem] theorem Tryz.fldL30_7 : fldL Tryz.prog 30 7 = some (9, 3) := by kernel_rfl
@[go_sem] theorem Tryz.fldL32_0 : fldL Tryz.prog 32 0 = some (0, 3) := by kernel_rfl
@[go_sem] theorem Tryz.fldL32_1 : fldL Tryz.prog 32 1 = some (1, 26) := by kernel_rfl
@[go_sem] theorem Tryz.fldL32_2 : fldL Tryz.prog 32 2 = some (6, 28) := by kernel_rfl
@[go_sem] theorem Tryz.fldL32_3 : fldL Tryz.prog 32 3 = some (10, 30) := by kernel_rfl
@[go_sem] theorem Tryz.fldL32_4 : fldL Tryz.prog 32 4 = some (20, 9) := by kernel_rfl
@[go_sem] theorem Tryz.fldL34_0 : fldL Tryz.prog 34 0 = some (0, 3) := by kernel_rfl
@[go_sem] theorem Tryz.fldL34_1 : fldL Tryz.prog 34 1 = some (1, 32) := by kernel_rfl
@[go_sem] theorem Tryz.fldL42_0 : fldL Tryz.prog 42 0 = some (0, 3) := by kernel_rfl
@[go_sem] theorem Tryz.fldL42_1 : fldL Tryz.prog 42 1 = some (1, 3) := by kernel_rfl
@[go_sem] theorem Tryz.fldL42_2 : fldL Tryz.prog 42 2 = some (2, 3) := by kernel_rfl
@[go_sem] theorem Tryz.fldL42_3 : fldL Tryz.prog 42 3 = some (3, 40) := by kernel_rfl
@[go_sem] theorem Tryz.fldL42_4 : fldL Tryz.prog 42 4 = some (4, 40) := by kernel_rfl
@[go_sem] theorem Tryz.fldL42_5 : fldL Tryz.prog 42 5 = some (5, 3) := by kernel_rfl
@[go_sem] theorem Tryz.fldL46_0 : fldL Tryz.prog 46 0 = some (0, 43) := by kernel_rfl
@[go_sem] theorem Tryz.fldL46_1 : fldL Tryz.prog 46 1 = some (1, 44) := by kernel_rfl
@[go_sem] theorem Tryz.fldL59_0 : fldL Tryz.prog 59 0 = some (0, 3) := by kernel_rfl
@[go_sem] theorem Tryz.fldL59_1 : fldL Tryz.prog 59 1 = some (1, 3) := by kernel_rfl
@[go_sem] theorem Tryz.fldL59_2 : fldL Tryz.prog 59 2 = some (2, 55) := by kernel_rfl
@[go_sem] theorem Tryz.fldL59_3 : fldL Tryz.prog 59 3 = some (3, 56) := by kernel_rfl
@[go_sem] theorem Tryz.fldL59_4 : fldL Tryz.prog 59 4 = some (4, 57) := by kernel_rfl
@[go_sem] theorem Tryz.fldL75_0 : fldL Tryz.prog 75 0 = some (0, 26) := by kernel_rfl
@[go_sem] theorem Tryz.fldL75_1 : fldL Tryz.prog 75 1 = some (5, 4) := by kernel_rfl
@[go_sem] theorem Tryz.fldL75_2 : fldL Tryz.prog 75 2 = some (6, 3) := by kernel_rfl
@[go_sem] theorem Tryz.fldL78_0 : fldL Tryz.prog 78 0 = some (0, 30) := by kernel_rfl
@[go_sem] theorem Tryz.fldL78_1 : fldL Tryz.prog 78 1 = some (10, 3) := by kernel_rfl
@[go_sem] theorem Tryz.fldL78_2 : fldL Tryz.prog 78 2 = some (11, 9) := by kernel_rfl
@[go_sem] theorem Tryz.fldL78_3 : fldL Tryz.prog 78 3 = some (12, 3) := by kernel_rfl
@[go_sem] theorem Tryz.fldL92_0 : fldL Tryz.prog 92 0 = some (0, 59) := by kernel_rfl
@[go_sem] theorem Tryz.fldL110_0 : fldL Tryz.prog 110 0 = some (0, 9) := by kernel_rfl
@[go_sem] theorem Tryz.fldL110_1 : fldL Tryz.prog 110 1 = some (1, 9) := by kernel_rfl
@[go_sem] theorem Tryz.fldL113_0 : fldL Tryz.prog 113 0 = some (0, 52) := by kernel_rfl
@[go_sem] theorem Tryz.fldL113_1 : fldL Tryz.prog 113 1 = some (1, 3) := by kernel_rfl
@[go_sem] theorem Tryz.fldL113_2 : fldL Tryz.prog 113 2 = some (2, 4) := by kernel_rfl
@[go_sem] theorem Tryz.fldL126_0 : fldL Tryz.prog 126 0 = some (0, 3) := by kernel_rfl
@[go_sem] theorem Tryz.fldL126_1 : fldL Tryz.prog 126 1 = some (1, 3) := by kernel_rfl
@[go_sem] theorem Tryz.fldL126_2 : fldL Tryz.prog 126 2 = some (2, 119) := by kernel_rfl
@[go_sem] theorem Tryz.fldL126_3 : fldL Tryz.prog 126 3 = some (3, 120) := by kernel_rfl
@[go_sem] theorem Tryz.fldL126_4 : fldL Tryz.prog 126 4 = some (4, 121) := by kernel_rfl
@[go_sem] theorem Tryz.fldL126_5 : fldL Tryz.prog 126 5 = some (5, 122) := by kernel_rfl
@[go_sem] theorem Tryz.fldL126_6 : fldL Tryz.prog 126 6 = some (6, 123) := by kernel_rfl
@[go_sem] theorem Tryz.fldL126_7 : fldL Tryz.prog 126 7 = some (7, 124) := by kernel_rfl
@[go_sem] theorem Tryz.fldL134_0 : fldL Tryz.prog 134 0 = some (0, 28) := by kernel_rfl
@[go_sem] theorem Tryz.fldL134_1 : fldL Tryz.prog 134 1 = some (4, 23) := by kernel_rfl
@[go_sem] theorem Tryz.fldL134_2 : fldL Tryz.prog 134 2 = some (7, 3) := by kernel_rfl
@[go_sem] theorem Tryz.fldL134_3 : fldL Tryz.prog 134 3 = some (8, 129) := by kernel_rfl
@[go_sem] theorem Tryz.fldL137_0 : fldL Tryz.prog 137 0 = some (0, 30) := by kernel_rfl
@[go_sem] theorem Tryz.fldL137_1 : fldL Tryz.prog 137 1 = some (10, 3) := by kernel_rfl
@[go_sem] theorem Tryz.fldL137_2 : fldL Tryz.prog 137 2 = some (11, 135) := by kernel_rfl
@[go_sem] theorem Tryz.fldL137_3 : fldL Tryz.prog 137 3 = some (12, 3) := by kernel_rfl
@[go_sem] theorem Tryz.fldL161_0 : fldL Tryz.prog 161 0 = some (0, 26) := by kernel_rfl
@[go_sem] theorem Tryz.fldL161_1 : fldL Tryz.prog 161 1 = some (5, 4) := by kernel_rfl
@[go_sem] theorem Tryz.fldL161_2 : fldL Tryz.prog 161 2 = some (6, 3) := by kernel_rfl
@[go_sem] theorem Tryz.fldL161_3 : fldL Tryz.prog 161 3 = some (7, 23) := by kernel_rfl
@[go_sem] theorem Tryz.fldL161_4 : fldL Tryz.prog 161 4 = some (10, 121) := by kernel_rfl
@[go_sem] theorem Tryz.fldL161_5 : fldL Tryz.prog 161 5 = some (11, 159) := by kernel_rfl
@[go_sem] theorem Tryz.fldL166_0 : fldL Tryz.prog 166 0 = some (0, 132) := by kernel_rfl
@[go_sem] theorem Tryz.fldL166_1 : fldL Tryz.prog 166 1 = some (1, 164) := by kernel_rfl
@[go_sem] theorem Tryz.fldL166_2 : fldL Tryz.prog 166 2 = some (2, 3) := by kernel_rfl
@[go_sem] theorem Tryz.fldL199_0 : fldL Tryz.prog 199 0 = some (0, 196) := by kernel_rfl
@[go_sem] theorem Tryz.fldL199_1 : fldL Tryz.prog 199 1 = some (1, 197) := by kernel_rfl
@[go_sem] theorem Tryz.fldL207_0 : fldL Tryz.prog 207 0 = some (0, 131) := by kernel_rfl
@[go_sem] theorem Tryz.fldL207_1 : fldL Tryz.prog 207 1 = some (1, 3) := by kernel_rfl
@[go_sem] theorem Tryz.fldL219_0 : fldL Tryz.prog 219 0 = some (0, 52) := by kernel_rfl
@[go_sem] theorem Tryz.fldL219_1 : fldL Tryz.prog 219 1 = some (1, 3) := by kernel_rfl
@[go_sem] theorem Tryz.fldL219_2 : fldL Tryz.prog 219 2 = some (2, 43) := by kernel_rfl
@[go_sem] theorem Tryz.fldL230_0 : fldL Tryz.prog 230 0 = some (0, 227) := by kernel_rfl
@[go_sem] theorem Tryz.fldL230_1 : fldL Tryz.prog 230 1 = some (1, 228) := by kernel_rfl
@[go_sem] theorem Tryz.fldL233_0 : fldL Tryz.prog 233 0 = some (0, 159) := by kernel_rfl
@[go_sem] theorem Tryz.fldL233_1 : fldL Tryz.prog 233 1 = some (1, 231) := by kernel_rfl
@[go_sem] theorem Tryz.fldL302_0 : fldL Tryz.prog 302 0 = some (0, 3) := by kernel_rfl
@[go_sem] theorem Tryz.fldL302_1 : fldL Tryz.prog 302 1 = some (1, 68) := by kernel_rfl
@[go_sem] theorem Tryz.fldL317_0 : fldL Tryz.prog 317 0 = some (0, 9) := by kernel_rfl
@[go_sem] theorem Tryz.fldL317_1 : fldL Tryz.prog 317 1 = some (1, 3) := by kernel_rfl
@[go_sem] theorem Tryz.fldL322_0 : fldL Tryz.prog 322 0 = some (0, 9) := by kernel_rfl
@[go_sem] theorem Tryz.fldL322_1 : fldL Tryz.prog 322 1 = some (1, 57) := by kernel_rfl
@[go_sem] theorem Tryz.plc26_0 : placeV Tryz.prog 26 0 = some (0, 1) := by kernel_rfl
@[go_sem] theorem Tryz.plc28_0 : placeV Tryz.prog 28 0 = some (0, 1) := by kernel_rfl
@[go_sem] theorem Tryz.plc30_0 : placeV Tryz.prog 30 0 = some (0, 1) := by kernel_rfl
@[go_sem] theorem Tryz.plc42_0 : placeV Tryz.prog 42 0 = some (0, 1) := by kernel_rfl
@[go_sem] theorem Tryz.plc42_1 : placeV Tryz.prog 42 1 = some (1, 1) := by kernel_rfl
@[go_sem] theorem Tryz.plc42_2 : placeV Tryz.prog 42 2 = some (2, 1) := by kernel_rfl
@[go_sem] theorem Tryz.plc42_3 : placeV Tryz.prog 42 3 = some (3, 1) := by kernel_rfl
@[go_sem] theorem Tryz.plc46_0 : placeV Tryz.prog 46 0 = some (0, 1) := by kernel_rfl
@[go_sem] theorem Tryz.plc46_1 : placeV Tryz.prog 46 1 = some (1, 1) := by kernel_rfl
@[go_sem] theorem Tryz.plc59_0 : placeV Tryz.prog 59 0 = some (0, 1) := by kernel_rfl
@[go_sem] theorem Tryz.plc59_1 : placeV Tryz.prog 59 1 = some (1, 1) := by kernel_rfl
@[go_sem] theorem Tryz.plc75_0 : placeV Tryz.prog 75 0 = some (0, 5) := by kernel_rfl
@[go_sem] theorem Tryz.plc75_1 : placeV Tryz.prog 75 1 = some (5, 1) := by kernel_rfl
@[go_sem] theorem Tryz.plc75_2 : placeV Tryz.prog 75 2 = some (6, 1) := by kernel_rfl
@[go_sem] theorem Tryz.plc78_0 : placeV Tryz.prog 78 0 = some (0, 10) := by kernel_rfl
@[go_sem] theorem Tryz.plc78_1 : placeV Tryz.prog 78 1 = some (10, 1) := by kernel_rfl
@[go_sem] theorem Tryz.plc78_3 : placeV Tryz.prog 78 3 = some (12, 1) := by kernel_rfl
@[go_sem] theorem Tryz.plc84_0 : placeV Tryz.prog 84 0 = some (0, 1) := by kernel_rfl
@[go_sem] theorem Tryz.plc84_1 : placeV Tryz.prog 84 1 = some (1, 1) := by kernel_rfl
@[go_sem] theorem Tryz.plc84_2 : placeV Tryz.prog 84 2 = some (2, 1) := by kernel_rfl
@[go_sem] theorem Tryz.plc92_0 : placeV Tryz.prog 92 0 = some (0, 5) := by kernel_rfl
@[go_sem] theorem Tryz.plc110_0 : placeV Tryz.prog 110 0 = some (0, 1) := by kernel_rfl
@[go_sem] theorem Tryz.plc113_0 : placeV Tryz.prog 113 0 = some (0, 1) := by kernel_rfl
@[go_sem] theorem Tryz.plc134_0 : placeV Tryz.prog 134 0 = some (0, 4) := by kernel_rfl
@[go_sem] theorem Tryz.plc134_3 : placeV Tryz.prog 134 3 = some (8, 1) := by kernel_rfl
@[go_sem] theorem Tryz.plc137_0 : placeV Tryz.prog 137 0 = some (0, 10) := by kernel_rfl
@[go_sem] theorem Tryz.plc137_1 : placeV Tryz.prog 137 1 = some (10, 1) := by kernel_rfl
@[go_sem] theorem Tryz.plc137_3 : placeV Tryz.prog 137 3 = some (12, 1) := by kernel_rfl
@[go_sem] theorem Tryz.plc161_0 : placeV Tryz.prog 161 0 = some (0, 5) := by kernel_rfl
@[go_sem] theorem Tryz.plc161_1 : placeV Tryz.prog 161 1 = some (5, 1) := by kernel_rfl
@[go_sem] theorem Tryz.plc161_2 : placeV Tryz.prog 161 2 = some (6, 1) := by kernel_rfl
@[go_sem] theorem Tryz.plc161_3 : placeV Tryz.prog 161 3 = some (7, 3) := by kernel_rfl
@[go_sem] theorem Tryz.plc161_4 : placeV Tryz.prog 161 4 = some (10, 1) := by kernel_rfl
@[go_sem] theorem Tryz.plc161_5 : placeV Tryz.prog 161 5 = some (11, 1) := by kernel_rfl
@[go_sem] theorem Tryz.plc166_0 : placeV Tryz.prog 166 0 = some (0, 1) := by kernel_rfl
@[go_sem] theorem Tryz.plc166_1 : placeV Tryz.prog 166 1 = some (1, 1) := by kernel_rfl
@[go_sem] theorem Tryz.plc207_0 : placeV Tryz.prog 207 0 = some (0, 1) := by kernel_rfl
@[go_sem] theorem Tryz.plc207_1 : placeV Tryz.prog 207 1 = some (1, 1) := by kernel_rfl
@[go_sem] theorem Tryz.plc219_0 : placeV Tryz.prog 219 0 = some (0, 1) := by kernel_rfl
@[go_sem] theorem Tryz.plc219_1 : placeV Tryz.prog 219 1 = some (1, 1) := by kernel_rfl
@[go_sem] theorem Tryz.plc317_0 : placeV Tryz.prog 317 0 = some (0, 1) := by kernel_rfl
@[go_sem] theorem Tryz.plc317_1 : placeV Tryz.prog 317 1 = some (1, 1) := by kernel_rfl
@[go_sem] theorem Tryz.plc322_0 : placeV Tryz.prog 322 0 = some (0, 1) := by kernel_rfl
@[go_sem] theorem Tryz.plc322_1 : placeV Tryz.prog 322 1 = some (1, 1) := by kernel_rfl
@[go_sem] theorem Tryz.bld23 : bldL Tryz.prog 23 = true := by kernel_rfl
@[go_sem] theorem Tryz.bld26 : bldL Tryz.prog 26 = true := by kernel_rfl
@[go_sem] theorem Tryz.bld28 : bldL Tryz.prog 28 = true := by kernel_rfl
@[go_sem] theorem Tryz.bld30 : bldL Tryz.prog 30 = true := by kernel_rfl
@[go_sem] theorem Tryz.bld32 : bldL Tryz.prog 32 = true := by kernel_rfl
@[go_sem] theorem Tryz.bld42 : bldL Tryz.prog 42 = true := by kernel_rfl
@[go_sem] theorem Tryz.bld46 : bldL Tryz.prog 46 = true := by kernel_rfl
@[go_sem] theorem Tryz.bld59 : bldL Tryz.prog 59 = true := by kernel_rfl
@[go_sem] theorem Tryz.bld75 : bldL Tryz.prog 75 = true := by kernel_rfl
@[go_sem] theorem Tryz.bld78 : bldL Tryz.prog 78 = true := by kernel_rfl
@[go_sem] theorem Tryz.bld84 : bldL Tryz.prog 84 = true := by kernel_rfl
@[go_sem] theorem Tryz.bld92 : bldL Tryz.prog 92 = true := by kernel_rfl
@[go_sem] theorem Tryz.bld110 : bldL Tryz.prog 110 = true := by kernel_rfl
@[go_sem] theorem Tryz.bld113 : bldL Tryz.prog 113 = true := by kernel_rfl
@[go_sem] theorem Tryz.bld126 : bldL Tryz.prog 126 = true := by kernel_rfl
@[go_sem] theorem Tryz.bld134 : bldL Tryz.prog 134 = true := by kernel_rfl
@[go_sem] theorem Tryz.bld137 : bldL Tryz.prog 137 = true := by kernel_rfl
@[go_sem] theorem Tryz.bld161 : bldL Tryz.prog 161 = true := by kernel_rfl
@[go_sem] theorem Tryz.bld166 : bldL Tryz.prog 166 = true := by kernel_rfl
@[go_sem] theorem Tryz.bld199 : bldL Tryz.prog 199 = true := by kernel_rfl
@[go_sem] theorem Tryz.bld202 : bldL Tryz.prog 202 = true := by kernel_rfl
@[go_sem] theorem Tryz.bld207 : bldL Tryz.prog 207 = true := by kernel_rfl
@[go_sem] theorem Tryz.bld219 : bldL Tryz.prog 219 = true := by kernel_rfl
@[go_sem] theorem Tryz.bld230 : bldL Tryz.prog 230 = true := by kernel_rfl
@[go_sem] theorem Tryz.bld233 : bldL Tryz.prog 233 = true := by kernel_rfl
@[go_sem] theorem Tryz.bld317 : bldL Tryz.prog 317 = true := by kernel_rfl
@[go_sem] theorem Tryz.bld322 : bldL Tryz.prog 322 = true := by kernel_rfl
@[go_sem] theorem Tryz.elF24 : elF Tryz.prog 24 = some (110, 2, 32) := by kernel_rfl
@[go_sem] theorem Tryz.elF37 : elF Tryz.prog 37 = some (34, 22, 264) := by kernel_rfl
@[go_sem] theorem Tryz.elF44 : elF Tryz.prog 44 = some (84, 3, 40) := by kernel_rfl
@[go_sem] theorem Tryz.elF52 : elF Tryz.prog 52 = some (5, 1, 1) := by kernel_rfl
@[go_sem] theorem Tryz.elF55 : elF Tryz.prog 55 = some (75, 7, 80) := by kernel_rfl
@[go_sem] theorem Tryz.elF56 : elF Tryz.prog 56 = some (28, 4, 40) := by kernel_rfl
@[go_sem] theorem Tryz.elF57 : elF Tryz.prog 57 = some (78, 13, 160) := by kernel_rfl
@[go_sem] theorem Tryz.elF68 : elF Tryz.prog 68 = some (3, 1, 8) := by kernel_rfl
@[go_sem] theorem Tryz.elF164 : elF Tryz.prog 164 = some (207, 2, 16) := by kernel_rfl
@[go_sem] theorem Tryz.elF212 : elF Tryz.prog 212 = some (23, 3, 24) := by kernel_rfl
@[go_sem] theorem Tryz.elF295 : elF Tryz.prog 295 = some (68, 1, 24) := by kernel_rfl
@[go_sem] theorem Tryz.elF308 : elF Tryz.prog 308 = some (9, 1, 16) := by kernel_rfl
@[go_sem] theorem Tryz.elF314 : elF Tryz.prog 314 = some (317, 2, 24) := by kernel_rfl
@[go_sem] theorem Tryz.elF318 : elF Tryz.prog 318 = some (322, 2, 40) := by kernel_rfl
@[go_sem] theorem Tryz.elF359 : elF Tryz.prog 359 = some (131, 1, 8) := by kernel_rfl
@[go_sem] theorem Tryz.elF370 : elF Tryz.prog 370 = some (359, 1, 24) := by kernel_rfl
@[go_sem] theorem Tryz.elF413 : elF Tryz.prog 413 = some (200, 1, 8) := by kernel_rfl
@[go_sem] theorem Tryz.zeroL3 : zeroL Tryz.prog 3 = some [.int .i64 0] := by kernel_rfl
@[go_sem] theorem Tryz.zeroL5 : zeroL Tryz.prog 5 = some [.int .u8 0] := by kernel_rfl
@[go_sem] theorem Tryz.zeroL9 : zeroL Tryz.prog 9 = some [.string .empty] := by kernel_rfl
@[go_sem] theorem Tryz.zeroL23 : zeroL Tryz.prog 23 = some [.int .i64 0, .int .i64 0, .int .i64 0] := by kernel_rfl
@[go_sem] theorem Tryz.zeroL26 : zeroL Tryz.prog 26 = some [.string .empty, .int .i64 0, .int .i64 0, .int .i64 0, .slice none 0 0] := by kernel_rfl
@[go_sem] theorem Tryz.zeroL28 : zeroL Tryz.prog 28 = some [.string .empty, .int .i64 0, .int .i64 0, .int .i64 0] := by kernel_rfl
@[go_sem] theorem Tryz.zeroL30 : zeroL Tryz.prog 30 = some [.string .empty, .string .empty, .int .i64 0, .int .i64 0, .int .i64 0, .int .i64 0, .slice none 0 0, .string .empty, .string .empty, .int .i64 0] := by kernel_rfl
@[go_sem] theorem Tryz.zeroL32 : zeroL Tryz.prog 32 = some [.int .i64 0, .string .empty, .int .i64 0, .int .i64 0, .int .i64 0, .slice none 0 0, .string .empty, .int .i64 0, .int .i64 0, .int .i64 0, .string .empty, .string .empty, .int .i64 0, .int .i64 0, .int .i64 0, .int .i64 0, .slice none 0 0, .string .empty, .string .empty, .int .i64 0, .string .empty] := by kernel_rfl
@[go_sem] theorem Tryz.zeroL34 : zeroL Tryz.prog 34 = some [.int .i64 0, .int .i64 0, .string .empty, .int .i64 0, .int .i64 0, .int .i64 0, .slice none 0 0, .string .empty, .int .i64 0, .int .i64 0, .int .i64 0, .string .empty, .string .empty, .int .i64 0, .int .i64 0, .int .i64 0, .int .i64 0, .slice none 0 0, .string .empty, .string .empty, .int .i64 0, .string .empty] := by kernel_rfl
@[go_sem] theorem Tryz.zeroL42 : zeroL Tryz.prog 42 = some [.int .i64 0, .int .i64 0, .int .i64 0, .nilIface, .nilIface, .int .i64 0] := by kernel_rfl
@[go_sem] theorem Tryz.zeroL46 : zeroL Tryz.prog 46 = some [.int .i64 0, .slice none 0 0] := by kernel_rfl
@[go_sem] theorem Tryz.zeroL59 : zeroL Tryz.prog 59 = some [.int .i64 0, .int .i64 0, .slice none 0 0, .slice none 0 0, .slice none 0 0] := by kernel_rfl
@[go_sem] theorem Tryz.zeroL68 : zeroL Tryz.prog 68 = some [.slice none 0 0] := by kernel_rfl
@[go_sem] theorem Tryz.zeroL75 : zeroL Tryz.prog 75 = some [.string .empty, .int .i64 0, .int .i64 0, .int .i64 0, .slice none 0 0, .bool false, .int .i64 0] := by kernel_rfl
@[go_sem] theorem Tryz.zeroL78 : zeroL Tryz.prog 78 = some [.string .empty, .string .empty, .int .i64 0, .int .i64 0, .int .i64 0, .int .i64 0, .slice none 0 0, .string .empty, .string .empty, .int .i64 0, .int .i64 0, .string .empty, .int .i64 0] := by kernel_rfl
@[go_sem] theorem Tryz.zeroL84 : zeroL Tryz.prog 84 = some [.int .i64 0, .string .empty, .string .empty] := by kernel_rfl
@[go_sem] theorem Tryz.zeroL92 : zeroL Tryz.prog 92 = some [.int .i64 0, .int .i64 0, .slice none 0 0, .slice none 0 0, .slice none 0 0] := by kernel_rfl
@[go_sem] theorem Tryz.zeroL110 : zeroL Tryz.prog 110 = some [.string .empty, .string .empty] := by kernel_rfl
@[go_sem] theorem Tryz.zeroL113 : zeroL Tryz.prog 113 = some [.slice none 0 0, .int .i64 0, .bool false] := by kernel_rfl
@[go_sem] theorem Tryz.zeroL126 : zeroL Tryz.prog 126 = some [.int .i64 0, .int .i64 0, .map none, .map none, .map none, .pointer none, .pointer none, .pointer none] := by kernel_rfl
@[go_sem] theorem Tryz.zeroL131 : zeroL Tryz.prog 131 = some [.pointer none] := by kernel_rfl
@[go_sem] theorem Tryz.zeroL134 : zeroL Tryz.prog 134 = some [.string .empty, .int .i64 0, .int .i64 0, .int .i64 0, .int .i64 0, .int .i64 0, .int .i64 0, .int .i64 0, .pointer none] := by kernel_rfl
@[go_sem] theorem Tryz.zeroL137 : zeroL Tryz.prog 137 = some [.string .empty, .string .empty, .int .i64 0, .int .i64 0, .int .i64 0, .int .i64 0, .slice none 0 0, .string .empty, .string .empty, .int .i64 0, .int .i64 0, .pointer none, .int .i64 0] := by kernel_rfl
@[go_sem] theorem Tryz.zeroL161 : zeroL Tryz.prog 161 = some [.string .empty, .int .i64 0, .int .i64 0, .int .i64 0, .slice none 0 0, .bool false, .int .i64 0, .int .i64 0, .int .i64 0, .int .i64 0, .map none, .map none] := by kernel_rfl
@[go_sem] theorem Tryz.zeroL166 : zeroL Tryz.prog 166 = some [.nilFunc, .slice none 0 0, .int .i64 0] := by kernel_rfl
@[go_sem] theorem Tryz.zeroL199 : zeroL Tryz.prog 199 = some [.map none, .map none] := by kernel_rfl
@[go_sem] theorem Tryz.zeroL200 : zeroL Tryz.prog 200 = some [.map none] := by kernel_rfl
@[go_sem] theorem Tryz.zeroL202 : zeroL Tryz.prog 202 = some [] := by kernel_rfl
@[go_sem] theorem Tryz.zeroL207 : zeroL Tryz.prog 207 = some [.pointer none, .int .i64 0] := by kernel_rfl
@[go_sem] theorem Tryz.zeroL219 : zeroL Tryz.prog 219 = some [.slice none 0 0, .int .i64 0, .int .i64 0] := by kernel_rfl
@[go_sem] theorem Tryz.zeroL230 : zeroL Tryz.prog 230 = some [.map none, .map none, .map none, .map none, .map none, .map none, .map none, .map none, .map none, .map none, .map none, .map none, .map none, .map none, .map none, .map none, .map none, .map none, .map none, .map none, .map none, .map none, .map none, .map none, .map none, .map none, .map none, .map none, .map none, .map none, .map none, .map none, .map none, .map none, .map none, .map none, .map none, .map none, .map none, .map none, .map none, .map none, .map none, .map none, .map none, .map none, .map none, .map none, .map none, .map none, .map none, .map none, .map none, .map none, .map none, .map none, .map none, .map none, .map none, .map none, .map none, .map none, .map none, .map none, .map none, .map none] := by kernel_rfl
@[go_sem] theorem Tryz.zeroL233 : zeroL Tryz.prog 233 = some [.map none, .map none, .map none, .map none, .map none, .map none, .map none, .map none, .map none, .map none, .map none, .map none, .map none, .map none, .map none, .map none, .map none] := by kernel_rfl
@[go_sem] theorem Tryz.zeroL302 : zeroL Tryz.prog 302 = some [.int .i64 0, .slice none 0 0] := by kernel_rfl
@[go_sem] theorem Tryz.zeroL308 : zeroL Tryz.prog 308 = some [.slice none 0 0] := by kernel_rfl
@[go_sem] theorem Tryz.zeroL317 : zeroL Tryz.prog 317 = some [.string .empty, .int .i64 0] := by kernel_rfl
@[go_sem] theorem Tryz.zeroL322 : zeroL Tryz.prog 322 = some [.string .empty, .slice none 0 0] := by kernel_rfl
@[go_sem] theorem Tryz.zeroL345 : zeroL Tryz.prog 345 = some [.int .u64 0] := by kernel_rfl
@[go_sem] theorem Tryz.zeroL359 : zeroL Tryz.prog 359 = some [.slice none 0 0] := by kernel_rfl
theorem Tryz.mixed : Tryz.prog.follows .mixedOrders = true := by kernel_rfl
attribute [go_sem] Tryz.underlying3 Tryz.underlying5 Tryz.underlying9 Tryz.underlying21 Tryz.underlying23 Tryz.underlying24 Tryz.underlying37 Tryz.underlying38 Tryz.underlying40 Tryz.underlying44 Tryz.underlying52 Tryz.underlying55 Tryz.underlying56 Tryz.underlying57 Tryz.underlying68 Tryz.underlying70 Tryz.underlying80 Tryz.underlying97 Tryz.underlying100 Tryz.underlying119 Tryz.underlying120 Tryz.underlying121 Tryz.underlying122 Tryz.underlying123 Tryz.underlying124 Tryz.underlying128 Tryz.underlying129 Tryz.underlying131 Tryz.underlying132 Tryz.underlying135 Tryz.underlying159 Tryz.underlying164 Tryz.underlying196 Tryz.underlying197 Tryz.underlying200 Tryz.underlying201 Tryz.underlying212 Tryz.underlying227 Tryz.underlying228 Tryz.underlying231 Tryz.underlying261 Tryz.underlying295 Tryz.underlying300 Tryz.underlying308 Tryz.underlying314 Tryz.underlying318 Tryz.underlying345 Tryz.underlying359 Tryz.underlying370 Tryz.underlying413
end Go.Proofs
