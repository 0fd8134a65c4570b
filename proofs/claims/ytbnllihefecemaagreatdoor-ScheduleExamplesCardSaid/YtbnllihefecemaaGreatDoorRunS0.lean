/-
  The closed run of ScheduleExamples in the nice machine, in stages: the parts of its text, and the two states in between as they were printed.
-/
import Derived.Test.YtbnllihefecemaaGreatDoorAm18
import Derived.Test.YtbnllihefecemaaGreatDoorRows
set_option linter.unusedSimpArgs false
set_option linter.unusedVariables false
set_option maxRecDepth 1000000
namespace Go.Proofs.YtbnllihefecemaaGreatDoor
open Go Go.AM

/-- The memory at the call's beginning: the three listed variables. -/
noncomputable def m0 : Mem :=
  let t := T.set (Blk.cells 0 (flatW 2 (Rows.laid_internal_strconv_uint64pow10 : DataW Unit)) false) depth 0 T.leaf
  let t := T.set (Blk.cells 0 (flatW 2 (Rows.laid_math_bits_deBruijn32tab : DataW Unit)) false) depth 1 t
  let t := T.set (Blk.cells 0 (flatW 2 (Rows.laid_math_bits_deBruijn64tab : DataW Unit)) false) depth 2 t
  { next := 3, t := t }

noncomputable def body3 : Code :=
  match (Tryz.prog.funcs[3]?).bind (·.body) with
  | some c => c
  | none => .skip
noncomputable def lC (c : Code) : Code :=
  match c with
  | .seq a _ => a
  | _ => .skip
noncomputable def rC (c : Code) : Code :=
  match c with
  | .seq _ b => b
  | _ => .skip
noncomputable def runC (c : Code) (s : St) : Option Res := nrun Tryz.prog 2000 (.code (compile Tryz.prog c) s)

/-- Behind the result's own slot. -/
noncomputable def sA : St := endOf (runC (lC body3) ⟨.leaf, m0⟩)

/-- Behind the unit's parsing and lowering. -/
noncomputable def litB : Snap := {
  slots := [(0, .bool false),
    (1, .pointer (some ⟨834, 0, none⟩)),
    (9, .agg #[.slice (some ⟨484, 0, none⟩) 0 2, .slice (some ⟨832, 0, none⟩) 2 5])]
  next := 835
  blks := [(484, .cells 101 [] true),
    (488, .cells 3 [] true),
    (494, .cells 3 [] true),
    (506, .cells 3 [.int .i64 (.ofNat 0), .int .i64 (.ofNat 1)] true),
    (517, .cells 3 [] true),
    (529, .cells 3 [.int .i64 (.ofNat 1), .int .i64 (.ofNat 3)] true),
    (540, .cells 64 [.int .i64 (.ofNat 26), .int .i64 (.ofNat 0), .slice (some ⟨488, 0, none⟩) 0 1, .int .i64 (.ofNat 2), .int .i64 (.ofNat 0), .slice (some ⟨494, 0, none⟩) 0 1, .int .i64 (.ofNat 29), .int .i64 (.ofNat 0), .slice (some ⟨506, 0, none⟩) 2 1, .int .i64 (.ofNat 1), .int .i64 (.ofNat 1), .slice (some ⟨517, 0, none⟩) 0 1, .int .i64 (.ofNat 4), .int .i64 (.ofNat 0), .slice (some ⟨529, 0, none⟩) 2 1] true),
    (545, .cells 3 [] true),
    (551, .cells 3 [] true),
    (561, .cells 3 [] true),
    (578, .cells 3 [.int .i64 (.ofNat 2), .int .i64 (.ofNat 1)] true),
    (594, .cells 3 [] true),
    (608, .cells 3 [] true),
    (626, .cells 3 [] true),
    (644, .cells 3 [.int .i64 (.ofNat 5), .int .i64 (.ofNat 6)] true),
    (667, .cells 3 [.int .i64 (.ofNat 7), .int .i64 (.ofNat 1)] true),
    (692, .cells 3 [.int .i64 (.ofNat 0), .int .i64 (.ofNat 2), .int .i64 (.ofNat 8), .int .i64 (.ofNat 4), .int .i64 (.ofNat 7)] true),
    (716, .cells 3 [.int .i64 (.ofNat 9)] true),
    (742, .cells 3 [.int .i64 (.ofNat 3), .int .i64 (.ofNat 10), .int .i64 (.ofNat 0)] true),
    (770, .cells 3 [.int .i64 (.ofNat 9)] true),
    (800, .cells 3 [.int .i64 (.ofNat 3), .int .i64 (.ofNat 12), .int .i64 (.ofNat 2)] true),
    (829, .cells 64 [.int .i64 (.ofNat 26), .int .i64 (.ofNat 0), .slice (some ⟨545, 0, none⟩) 0 1, .int .i64 (.ofNat 2), .int .i64 (.ofNat 0), .slice (some ⟨551, 0, none⟩) 0 1, .int .i64 (.ofNat 1), .int .i64 (.ofNat 0), .slice (some ⟨561, 0, none⟩) 0 1, .int .i64 (.ofNat 17), .int .i64 (.ofNat 0), .slice (some ⟨578, 0, none⟩) 2 1, .int .i64 (.ofNat 3), .int .i64 (.ofNat 0), .slice (some ⟨594, 0, none⟩) 0 1, .int .i64 (.ofNat 3), .int .i64 (.ofNat 1), .slice (some ⟨608, 0, none⟩) 0 1, .int .i64 (.ofNat 1), .int .i64 (.ofNat 1), .slice (some ⟨626, 0, none⟩) 0 1, .int .i64 (.ofNat 4), .int .i64 (.ofNat 0), .slice (some ⟨644, 0, none⟩) 2 1, .int .i64 (.ofNat 17), .int .i64 (.ofNat 0), .slice (some ⟨667, 0, none⟩) 2 1, .int .i64 (.ofNat 31), .int .i64 (.ofNat 0), .slice (some ⟨692, 0, none⟩) 5 1, .int .i64 (.ofNat 25), .int .i64 (.ofNat 0), .slice (some ⟨716, 0, none⟩) 1 1, .int .i64 (.ofNat 22), .int .i64 (.ofNat 0), .slice (some ⟨742, 0, none⟩) 3 1, .int .i64 (.ofNat 25), .int .i64 (.ofNat 1), .slice (some ⟨770, 0, none⟩) 1 1, .int .i64 (.ofNat 22), .int .i64 (.ofNat 0), .slice (some ⟨800, 0, none⟩) 3 1] true),
    (832, .cells 35 [.string ⟨#[102]⟩, .int .i64 (.ofNat 1), .slice (some ⟨540, 0, none⟩) 5 3, .int .i64 (.ofNat 4), .int .i64 (.ofNat 2), .string ⟨#[103]⟩, .int .i64 (.ofNat 1), .slice (some ⟨829, 0, none⟩) 14 3, .int .i64 (.ofNat 13), .int .i64 (.ofNat 11)] true),
    (834, .cells 25 [.slice (some ⟨484, 0, none⟩) 0 2, .slice (some ⟨832, 0, none⟩) 2 5] true)] }

/-- Behind the first schedule. -/
noncomputable def sC : St := endOf (runC (lC (rC (rC body3))) litB.st)

/-- Behind the second schedule. -/
noncomputable def litD : Snap := {
  slots := [(0, .bool false),
    (1, .pointer (some ⟨834, 0, none⟩)),
    (2, .pointer (some ⟨1111, 0, none⟩)),
    (3, .int .i64 (.ofNat 0)),
    (4, .pointer (some ⟨2842, 0, none⟩)),
    (5, .int .i64 (.ofNat 0)),
    (9, .agg #[.slice (some ⟨484, 0, none⟩) 0 2, .slice (some ⟨832, 0, none⟩) 2 5]),
    (10, .tuple #[.agg #[.slice (some ⟨1110, 0, none⟩) 2 5], .int .i64 (.ofNat 0)]),
    (11, .pointer (some ⟨834, 1, none⟩)),
    (12, .slice (some ⟨832, 0, none⟩) 2 5),
    (13, .pointer (some ⟨832, 0, none⟩)),
    (14, .agg #[.string ⟨#[102]⟩, .int .i64 (.ofNat 1), .slice (some ⟨540, 0, none⟩) 5 3, .int .i64 (.ofNat 4), .int .i64 (.ofNat 2)]),
    (15, .tuple #[.agg #[.slice (some ⟨1110, 0, none⟩) 2 5], .int .i64 (.ofNat 0)]),
    (16, .agg #[.slice (some ⟨1110, 0, none⟩) 2 5]),
    (17, .int .i64 (.ofNat 0)),
    (18, .tuple #[.agg #[.slice (some ⟨2840, 0, none⟩) 2 5], .int .i64 (.ofNat 0)]),
    (19, .pointer (some ⟨834, 1, none⟩)),
    (20, .slice (some ⟨832, 0, none⟩) 2 5),
    (21, .pointer (some ⟨832, 5, none⟩)),
    (22, .agg #[.string ⟨#[103]⟩, .int .i64 (.ofNat 1), .slice (some ⟨829, 0, none⟩) 14 3, .int .i64 (.ofNat 13), .int .i64 (.ofNat 11)]),
    (23, .tuple #[.agg #[.slice (some ⟨2840, 0, none⟩) 2 5], .int .i64 (.ofNat 0)]),
    (24, .agg #[.slice (some ⟨2840, 0, none⟩) 2 5]),
    (25, .int .i64 (.ofNat 0))]
  next := 2843
  blks := [(484, .cells 101 [] true),
    (488, .cells 3 [] true),
    (494, .cells 3 [] true),
    (506, .cells 3 [.int .i64 (.ofNat 0), .int .i64 (.ofNat 1)] true),
    (517, .cells 3 [] true),
    (529, .cells 3 [.int .i64 (.ofNat 1), .int .i64 (.ofNat 3)] true),
    (540, .cells 64 [.int .i64 (.ofNat 26), .int .i64 (.ofNat 0), .slice (some ⟨488, 0, none⟩) 0 1, .int .i64 (.ofNat 2), .int .i64 (.ofNat 0), .slice (some ⟨494, 0, none⟩) 0 1, .int .i64 (.ofNat 29), .int .i64 (.ofNat 0), .slice (some ⟨506, 0, none⟩) 2 1, .int .i64 (.ofNat 1), .int .i64 (.ofNat 1), .slice (some ⟨517, 0, none⟩) 0 1, .int .i64 (.ofNat 4), .int .i64 (.ofNat 0), .slice (some ⟨529, 0, none⟩) 2 1] true),
    (545, .cells 3 [] true),
    (551, .cells 3 [] true),
    (561, .cells 3 [] true),
    (578, .cells 3 [.int .i64 (.ofNat 2), .int .i64 (.ofNat 1)] true),
    (594, .cells 3 [] true),
    (608, .cells 3 [] true),
    (626, .cells 3 [] true),
    (644, .cells 3 [.int .i64 (.ofNat 5), .int .i64 (.ofNat 6)] true),
    (667, .cells 3 [.int .i64 (.ofNat 7), .int .i64 (.ofNat 1)] true),
    (692, .cells 3 [.int .i64 (.ofNat 0), .int .i64 (.ofNat 2), .int .i64 (.ofNat 8), .int .i64 (.ofNat 4), .int .i64 (.ofNat 7)] true),
    (716, .cells 3 [.int .i64 (.ofNat 9)] true),
    (742, .cells 3 [.int .i64 (.ofNat 3), .int .i64 (.ofNat 10), .int .i64 (.ofNat 0)] true),
    (770, .cells 3 [.int .i64 (.ofNat 9)] true),
    (800, .cells 3 [.int .i64 (.ofNat 3), .int .i64 (.ofNat 12), .int .i64 (.ofNat 2)] true),
    (829, .cells 64 [.int .i64 (.ofNat 26), .int .i64 (.ofNat 0), .slice (some ⟨545, 0, none⟩) 0 1, .int .i64 (.ofNat 2), .int .i64 (.ofNat 0), .slice (some ⟨551, 0, none⟩) 0 1, .int .i64 (.ofNat 1), .int .i64 (.ofNat 0), .slice (some ⟨561, 0, none⟩) 0 1, .int .i64 (.ofNat 17), .int .i64 (.ofNat 0), .slice (some ⟨578, 0, none⟩) 2 1, .int .i64 (.ofNat 3), .int .i64 (.ofNat 0), .slice (some ⟨594, 0, none⟩) 0 1, .int .i64 (.ofNat 3), .int .i64 (.ofNat 1), .slice (some ⟨608, 0, none⟩) 0 1, .int .i64 (.ofNat 1), .int .i64 (.ofNat 1), .slice (some ⟨626, 0, none⟩) 0 1, .int .i64 (.ofNat 4), .int .i64 (.ofNat 0), .slice (some ⟨644, 0, none⟩) 2 1, .int .i64 (.ofNat 17), .int .i64 (.ofNat 0), .slice (some ⟨667, 0, none⟩) 2 1, .int .i64 (.ofNat 31), .int .i64 (.ofNat 0), .slice (some ⟨692, 0, none⟩) 5 1, .int .i64 (.ofNat 25), .int .i64 (.ofNat 0), .slice (some ⟨716, 0, none⟩) 1 1, .int .i64 (.ofNat 22), .int .i64 (.ofNat 0), .slice (some ⟨742, 0, none⟩) 3 1, .int .i64 (.ofNat 25), .int .i64 (.ofNat 1), .slice (some ⟨770, 0, none⟩) 1 1, .int .i64 (.ofNat 22), .int .i64 (.ofNat 0), .slice (some ⟨800, 0, none⟩) 3 1] true),
    (832, .cells 35 [.string ⟨#[102]⟩, .int .i64 (.ofNat 1), .slice (some ⟨540, 0, none⟩) 5 3, .int .i64 (.ofNat 4), .int .i64 (.ofNat 2), .string ⟨#[103]⟩, .int .i64 (.ofNat 1), .slice (some ⟨829, 0, none⟩) 14 3, .int .i64 (.ofNat 13), .int .i64 (.ofNat 11)] true),
    (834, .cells 25 [.slice (some ⟨484, 0, none⟩) 0 2, .slice (some ⟨832, 0, none⟩) 2 5] true),
    (1110, .cells 44 [.int .i64 (.ofNat 2), .bool false, .slice none 0 0, .slice none 0 0, .slice none 0 0, .int .i64 (.ofNat 4), .bool false, .slice none 0 0, .slice none 0 0, .slice none 0 0] true),
    (1111, .cells 29 [.slice (some ⟨1110, 0, none⟩) 2 5] true),
    (2706, .cells 192 [.slice (some ⟨2773, 0, none⟩) 1 5, .slice none 0 0] true),
    (2768, .cells 44 [.int .i64 (.ofNat 7), .bool false, .slice none 0 0, .slice none 0 0, .slice none 0 0, .int .i64 (.ofNat 8), .bool false, .slice none 0 0, .slice none 0 0, .slice none 0 0] true),
    (2770, .cells 29 [.slice (some ⟨2768, 0, none⟩) 2 5] true),
    (2773, .cells 44 [.int .i64 (.ofNat 10), .bool false, .slice (some ⟨2770, 0, none⟩) 1 1, .slice none 0 0, .slice none 0 0] true),
    (2837, .cells 3 [.int .i64 (.ofNat 13)] true),
    (2840, .cells 44 [.int .i64 (.ofNat 3), .bool false, .slice none 0 0, .slice none 0 0, .slice none 0 0, .int .i64 (.ofNat 11), .bool false, .slice (some ⟨2706, 0, none⟩) 2 1, .slice (some ⟨2837, 0, none⟩) 1 1, .slice none 0 0] true),
    (2842, .cells 29 [.slice (some ⟨2840, 0, none⟩) 2 5] true)] }

/-- Behind the schedule's execution. -/
noncomputable def litE : Snap := {
  slots := [(0, .bool false),
    (1, .pointer (some ⟨834, 0, none⟩)),
    (2, .pointer (some ⟨1111, 0, none⟩)),
    (3, .int .i64 (.ofNat 0)),
    (4, .pointer (some ⟨2842, 0, none⟩)),
    (5, .int .i64 (.ofNat 0)),
    (6, .pointer (some ⟨6036, 0, none⟩)),
    (7, .bool true),
    (9, .agg #[.slice (some ⟨484, 0, none⟩) 0 2, .slice (some ⟨832, 0, none⟩) 2 5]),
    (10, .tuple #[.agg #[.slice (some ⟨1110, 0, none⟩) 2 5], .int .i64 (.ofNat 0)]),
    (11, .pointer (some ⟨834, 1, none⟩)),
    (12, .slice (some ⟨832, 0, none⟩) 2 5),
    (13, .pointer (some ⟨832, 0, none⟩)),
    (14, .agg #[.string ⟨#[102]⟩, .int .i64 (.ofNat 1), .slice (some ⟨540, 0, none⟩) 5 3, .int .i64 (.ofNat 4), .int .i64 (.ofNat 2)]),
    (15, .tuple #[.agg #[.slice (some ⟨1110, 0, none⟩) 2 5], .int .i64 (.ofNat 0)]),
    (16, .agg #[.slice (some ⟨1110, 0, none⟩) 2 5]),
    (17, .int .i64 (.ofNat 0)),
    (18, .tuple #[.agg #[.slice (some ⟨2840, 0, none⟩) 2 5], .int .i64 (.ofNat 0)]),
    (19, .pointer (some ⟨834, 1, none⟩)),
    (20, .slice (some ⟨832, 0, none⟩) 2 5),
    (21, .pointer (some ⟨832, 5, none⟩)),
    (22, .agg #[.string ⟨#[103]⟩, .int .i64 (.ofNat 1), .slice (some ⟨829, 0, none⟩) 14 3, .int .i64 (.ofNat 13), .int .i64 (.ofNat 11)]),
    (23, .tuple #[.agg #[.slice (some ⟨2840, 0, none⟩) 2 5], .int .i64 (.ofNat 0)]),
    (24, .agg #[.slice (some ⟨2840, 0, none⟩) 2 5]),
    (25, .int .i64 (.ofNat 0)),
    (26, .tuple #[.agg #[.int .i64 (.ofNat 1), .int .i64 (.ofNat 0), .slice none 0 0, .int .i64 (.ofNat 3)], .bool true]),
    (27, .agg #[.slice (some ⟨484, 0, none⟩) 0 2, .slice (some ⟨832, 0, none⟩) 2 5]),
    (28, .slice (some ⟨2843, 0, none⟩) 1 1),
    (29, .tuple #[.agg #[.int .i64 (.ofNat 1), .int .i64 (.ofNat 0), .slice none 0 0, .int .i64 (.ofNat 3)], .bool true]),
    (30, .agg #[.int .i64 (.ofNat 1), .int .i64 (.ofNat 0), .slice none 0 0, .int .i64 (.ofNat 3)]),
    (31, .bool true)]
  next := 6037
  blks := [(484, .cells 101 [] true),
    (488, .cells 3 [] true),
    (494, .cells 3 [] true),
    (506, .cells 3 [.int .i64 (.ofNat 0), .int .i64 (.ofNat 1)] true),
    (517, .cells 3 [] true),
    (529, .cells 3 [.int .i64 (.ofNat 1), .int .i64 (.ofNat 3)] true),
    (540, .cells 64 [.int .i64 (.ofNat 26), .int .i64 (.ofNat 0), .slice (some ⟨488, 0, none⟩) 0 1, .int .i64 (.ofNat 2), .int .i64 (.ofNat 0), .slice (some ⟨494, 0, none⟩) 0 1, .int .i64 (.ofNat 29), .int .i64 (.ofNat 0), .slice (some ⟨506, 0, none⟩) 2 1, .int .i64 (.ofNat 1), .int .i64 (.ofNat 1), .slice (some ⟨517, 0, none⟩) 0 1, .int .i64 (.ofNat 4), .int .i64 (.ofNat 0), .slice (some ⟨529, 0, none⟩) 2 1] true),
    (545, .cells 3 [] true),
    (551, .cells 3 [] true),
    (561, .cells 3 [] true),
    (578, .cells 3 [.int .i64 (.ofNat 2), .int .i64 (.ofNat 1)] true),
    (594, .cells 3 [] true),
    (608, .cells 3 [] true),
    (626, .cells 3 [] true),
    (644, .cells 3 [.int .i64 (.ofNat 5), .int .i64 (.ofNat 6)] true),
    (667, .cells 3 [.int .i64 (.ofNat 7), .int .i64 (.ofNat 1)] true),
    (692, .cells 3 [.int .i64 (.ofNat 0), .int .i64 (.ofNat 2), .int .i64 (.ofNat 8), .int .i64 (.ofNat 4), .int .i64 (.ofNat 7)] true),
    (716, .cells 3 [.int .i64 (.ofNat 9)] true),
    (742, .cells 3 [.int .i64 (.ofNat 3), .int .i64 (.ofNat 10), .int .i64 (.ofNat 0)] true),
    (770, .cells 3 [.int .i64 (.ofNat 9)] true),
    (800, .cells 3 [.int .i64 (.ofNat 3), .int .i64 (.ofNat 12), .int .i64 (.ofNat 2)] true),
    (829, .cells 64 [.int .i64 (.ofNat 26), .int .i64 (.ofNat 0), .slice (some ⟨545, 0, none⟩) 0 1, .int .i64 (.ofNat 2), .int .i64 (.ofNat 0), .slice (some ⟨551, 0, none⟩) 0 1, .int .i64 (.ofNat 1), .int .i64 (.ofNat 0), .slice (some ⟨561, 0, none⟩) 0 1, .int .i64 (.ofNat 17), .int .i64 (.ofNat 0), .slice (some ⟨578, 0, none⟩) 2 1, .int .i64 (.ofNat 3), .int .i64 (.ofNat 0), .slice (some ⟨594, 0, none⟩) 0 1, .int .i64 (.ofNat 3), .int .i64 (.ofNat 1), .slice (some ⟨608, 0, none⟩) 0 1, .int .i64 (.ofNat 1), .int .i64 (.ofNat 1), .slice (some ⟨626, 0, none⟩) 0 1, .int .i64 (.ofNat 4), .int .i64 (.ofNat 0), .slice (some ⟨644, 0, none⟩) 2 1, .int .i64 (.ofNat 17), .int .i64 (.ofNat 0), .slice (some ⟨667, 0, none⟩) 2 1, .int .i64 (.ofNat 31), .int .i64 (.ofNat 0), .slice (some ⟨692, 0, none⟩) 5 1, .int .i64 (.ofNat 25), .int .i64 (.ofNat 0), .slice (some ⟨716, 0, none⟩) 1 1, .int .i64 (.ofNat 22), .int .i64 (.ofNat 0), .slice (some ⟨742, 0, none⟩) 3 1, .int .i64 (.ofNat 25), .int .i64 (.ofNat 1), .slice (some ⟨770, 0, none⟩) 1 1, .int .i64 (.ofNat 22), .int .i64 (.ofNat 0), .slice (some ⟨800, 0, none⟩) 3 1] true),
    (832, .cells 35 [.string ⟨#[102]⟩, .int .i64 (.ofNat 1), .slice (some ⟨540, 0, none⟩) 5 3, .int .i64 (.ofNat 4), .int .i64 (.ofNat 2), .string ⟨#[103]⟩, .int .i64 (.ofNat 1), .slice (some ⟨829, 0, none⟩) 14 3, .int .i64 (.ofNat 13), .int .i64 (.ofNat 11)] true),
    (834, .cells 25 [.slice (some ⟨484, 0, none⟩) 0 2, .slice (some ⟨832, 0, none⟩) 2 5] true),
    (1110, .cells 44 [.int .i64 (.ofNat 2), .bool false, .slice none 0 0, .slice none 0 0, .slice none 0 0, .int .i64 (.ofNat 4), .bool false, .slice none 0 0, .slice none 0 0, .slice none 0 0] true),
    (1111, .cells 29 [.slice (some ⟨1110, 0, none⟩) 2 5] true),
    (2706, .cells 192 [.slice (some ⟨2773, 0, none⟩) 1 5, .slice none 0 0] true),
    (2768, .cells 44 [.int .i64 (.ofNat 7), .bool false, .slice none 0 0, .slice none 0 0, .slice none 0 0, .int .i64 (.ofNat 8), .bool false, .slice none 0 0, .slice none 0 0, .slice none 0 0] true),
    (2770, .cells 29 [.slice (some ⟨2768, 0, none⟩) 2 5] true),
    (2773, .cells 44 [.int .i64 (.ofNat 10), .bool false, .slice (some ⟨2770, 0, none⟩) 1 1, .slice none 0 0, .slice none 0 0] true),
    (2837, .cells 3 [.int .i64 (.ofNat 13)] true),
    (2840, .cells 44 [.int .i64 (.ofNat 3), .bool false, .slice none 0 0, .slice none 0 0, .slice none 0 0, .int .i64 (.ofNat 11), .bool false, .slice (some ⟨2706, 0, none⟩) 2 1, .slice (some ⟨2837, 0, none⟩) 1 1, .slice none 0 0] true),
    (2842, .cells 29 [.slice (some ⟨2840, 0, none⟩) 2 5] true),
    (2843, .cells 2 [.int .i64 (.ofNat 3)] true),
    (6036, .cells 38 [.int .i64 (.ofNat 1), .int .i64 (.ofNat 0), .slice none 0 0, .int .i64 (.ofNat 3)] true)] }

end Go.Proofs.YtbnllihefecemaaGreatDoor
