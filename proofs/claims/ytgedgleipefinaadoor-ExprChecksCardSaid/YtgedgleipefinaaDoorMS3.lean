/- Texts SGlob, SBase, SEBase, SELays, SELib, SEDefs, SEPlain, SEDepth, SEFew, SEStr, SENode, SENode5, SENode4, SENodeX, SENodeB, SEOne, SEOne4, SECheck, SECheck2, SEBinds, SETextP: an evaluator of the model's code, proved sound, and what the program's functions do, for all inputs. -/
import Derived.Test.YtgedgleipefinaaDoorMA2
import Derived.Lib.LaidTab
import Derived.Lib.ItoaMem
import Derived.Lib.ItoaWalk
import Derived.Test.YtgedgleipefinaaDoorProg
import Derived.KernelRfl
import Derived.Shelf.Strconv.ErrVarAll
import Derived.Shelf.Strconv.Itoa4
import Derived.Shelf.Small.Wraps
import Derived.Ground.NamesProg
import Derived.Lib.AppendIntMem
import Derived.Lib.ItoaLen
set_option linter.unusedVariables false
set_option linter.unusedSimpArgs false
set_option linter.unusedSectionVars false
namespace Go.AK
open Go Go.RowKit
/-- What the seat's rows say of the program's variables. -/
instance theGlobs : Globs := ⟨⟨fun I => (∃ t z, I 0 = some (.cells (Lib.pow10Tab.map fun z => Value.int .u64 z).toArray t z)) ∧ (∃ tp p t z, I 3 = some (.cells #[.iface tp p] t z)) ∧ (∃ tp p t z, I 4 = some (.cells #[.iface tp p] t z)),
  fun I I' h ⟨⟨t, z, h1⟩, ⟨tp, p, t2, z2, h2⟩, ⟨tp3, p3, t3, z3, h3⟩⟩ => ⟨⟨t, z, h _ _ h1⟩, ⟨tp, p, t2, z2, h _ _ h2⟩, ⟨tp3, p3, t3, z3, h _ _ h3⟩⟩⟩⟩
end Go.AK
namespace Go.AK
open Go Go.RowKit Go.Proofs
set_option linter.unusedVariables false
def T : TT := [
  (1, ⟨.fn, 1, 8, .nilf⟩),
  (2, ⟨.int .i64, 1, 8, .i .i64 0⟩),
  (3, ⟨.int .i64, 1, 8, .i .i64 0⟩),
  (4, ⟨.bool, 1, 1, .b false⟩),
  (5, ⟨.int .u8, 1, 1, .i .u8 0⟩),
  (6, ⟨.int .u8, 1, 1, .i .u8 0⟩),
  (7, ⟨.st [(0, 2), (1, 3), (2, 4), (3, 6)], 4, 24, .agg [.i .i64 0, .i .i64 0, .b false, .i .u8 0]⟩),
  (8, ⟨.st [(0, 2), (1, 3), (2, 4), (3, 6)], 4, 24, .agg [.i .i64 0, .i .i64 0, .b false, .i .u8 0]⟩),
  (9, ⟨.str, 1, 16, .s ⟨#[]⟩⟩),
  (10, ⟨.str, 1, 16, .s ⟨#[]⟩⟩),
  (11, ⟨.str, 1, 16, .s ⟨#[]⟩⟩),
  (12, ⟨.int .u64, 1, 8, .i .u64 0⟩),
  (13, ⟨.st [(0, 9), (1, 12)], 2, 24, .agg [.s ⟨#[]⟩, .i .u64 0]⟩),
  (14, ⟨.st [(0, 9), (1, 12)], 2, 24, .agg [.s ⟨#[]⟩, .i .u64 0]⟩),
  (15, ⟨.ptr 139, 1, 8, .p none⟩),
  (16, ⟨.ptr 142, 1, 8, .p none⟩),
  (17, ⟨.ptr 149, 1, 8, .p none⟩),
  (18, ⟨.st [(0, 17)], 1, 8, .agg [.p none]⟩),
  (19, ⟨.st [(0, 17)], 1, 8, .agg [.p none]⟩),
  (20, ⟨.ifc, 1, 16, .nili⟩),
  (21, ⟨.int .i32, 1, 4, .i .i32 0⟩),
  (22, ⟨.fn, 1, 8, .nilf⟩),
  (23, ⟨.ptr 55, 1, 8, .p none⟩),
  (24, ⟨.int .i64, 1, 8, .i .i64 0⟩),
  (26, ⟨.fn, 1, 8, .nilf⟩),
  (27, ⟨.ptr 76, 1, 8, .p none⟩),
  (29, ⟨.fn, 1, 8, .nilf⟩),
  (30, ⟨.fn, 1, 8, .nilf⟩),
  (31, ⟨.fn, 1, 8, .nilf⟩),
  (32, ⟨.fn, 1, 8, .nilf⟩),
  (33, ⟨.sl 78, 1, 24, .sl none 0 0 0⟩),
  (34, ⟨.fn, 1, 8, .nilf⟩),
  (35, ⟨.fn, 1, 8, .nilf⟩),
  (36, ⟨.fn, 1, 8, .nilf⟩),
  (38, ⟨.fn, 1, 8, .nilf⟩),
  (39, ⟨.fn, 1, 8, .nilf⟩),
  (40, ⟨.fn, 1, 8, .nilf⟩),
  (41, ⟨.fn, 1, 8, .nilf⟩),
  (42, ⟨.fn, 1, 8, .nilf⟩),
  (43, ⟨.fn, 1, 8, .nilf⟩),
  (44, ⟨.fn, 1, 8, .nilf⟩),
  (45, ⟨.fn, 1, 8, .nilf⟩),
  (46, ⟨.fn, 1, 8, .nilf⟩),
  (47, ⟨.arr 2 3, 2, 16, .agg [.i .i64 0, .i .i64 0]⟩),
  (48, ⟨.sl 5, 1, 24, .sl none 0 0 0⟩),
  (49, ⟨.fn, 1, 8, .nilf⟩),
  (50, ⟨.arr 3 33, 3, 72, .agg [.sl none 0 0 0, .sl none 0 0 0, .sl none 0 0 0]⟩),
  (51, ⟨.arr 2 4, 2, 2, .agg [.b false, .b false]⟩),
  (52, ⟨.arr 3 4, 3, 3, .agg [.b false, .b false, .b false]⟩),
  (53, ⟨.arr 3 23, 3, 24, .agg [.p none, .p none, .p none]⟩),
  (54, ⟨.st [(0, 3), (1, 9), (2, 9), (3, 3), (4, 23), (5, 23)], 6, 64, .agg [.i .i64 0, .s ⟨#[]⟩, .s ⟨#[]⟩, .i .i64 0, .p none, .p none]⟩),
  (55, ⟨.st [(0, 3), (1, 9), (2, 9), (3, 3), (4, 23), (5, 23)], 6, 64, .agg [.i .i64 0, .s ⟨#[]⟩, .s ⟨#[]⟩, .i .i64 0, .p none, .p none]⟩),
  (56, ⟨.fn, 1, 8, .nilf⟩),
  (57, ⟨.fn, 1, 8, .nilf⟩),
  (58, ⟨.st [(0, 3), (1, 24)], 2, 16, .agg [.i .i64 0, .i .i64 0]⟩),
  (59, ⟨.st [(0, 3), (1, 24)], 2, 16, .agg [.i .i64 0, .i .i64 0]⟩),
  (61, ⟨.ptr 63, 1, 8, .p none⟩),
  (62, ⟨.st [(0, 9), (1, 3), (2, 9), (3, 3)], 4, 48, .agg [.s ⟨#[]⟩, .i .i64 0, .s ⟨#[]⟩, .i .i64 0]⟩),
  (63, ⟨.st [(0, 9), (1, 3), (2, 9), (3, 3)], 4, 48, .agg [.s ⟨#[]⟩, .i .i64 0, .s ⟨#[]⟩, .i .i64 0]⟩),
  (64, ⟨.fn, 1, 8, .nilf⟩),
  (65, ⟨.fn, 1, 8, .nilf⟩),
  (66, ⟨.ptr 70, 1, 8, .p none⟩),
  (67, ⟨.sl 73, 1, 24, .sl none 0 0 0⟩),
  (68, ⟨.fn, 1, 8, .nilf⟩),
  (69, ⟨.st [(0, 67), (1, 3), (2, 3), (3, 3), (4, 24)], 5, 56, .agg [.sl none 0 0 0, .i .i64 0, .i .i64 0, .i .i64 0, .i .i64 0]⟩),
  (70, ⟨.st [(0, 67), (1, 3), (2, 3), (3, 3), (4, 24)], 5, 56, .agg [.sl none 0 0 0, .i .i64 0, .i .i64 0, .i .i64 0, .i .i64 0]⟩),
  (71, ⟨.fn, 1, 8, .nilf⟩),
  (72, ⟨.st [(0, 9), (1, 3)], 2, 24, .agg [.s ⟨#[]⟩, .i .i64 0]⟩),
  (73, ⟨.st [(0, 9), (1, 3)], 2, 24, .agg [.s ⟨#[]⟩, .i .i64 0]⟩),
  (74, ⟨.fn, 1, 8, .nilf⟩),
  (75, ⟨.st [(0, 3), (1, 9), (2, 9), (3, 3), (4, 27), (5, 27)], 6, 64, .agg [.i .i64 0, .s ⟨#[]⟩, .s ⟨#[]⟩, .i .i64 0, .p none, .p none]⟩),
  (76, ⟨.st [(0, 3), (1, 9), (2, 9), (3, 3), (4, 27), (5, 27)], 6, 64, .agg [.i .i64 0, .s ⟨#[]⟩, .s ⟨#[]⟩, .i .i64 0, .p none, .p none]⟩),
  (77, ⟨.st [(0, 3), (1, 9), (2, 9), (3, 3), (4, 3), (5, 3)], 6, 64, .agg [.i .i64 0, .s ⟨#[]⟩, .s ⟨#[]⟩, .i .i64 0, .i .i64 0, .i .i64 0]⟩),
  (78, ⟨.st [(0, 3), (1, 9), (2, 9), (3, 3), (4, 3), (5, 3)], 6, 64, .agg [.i .i64 0, .s ⟨#[]⟩, .s ⟨#[]⟩, .i .i64 0, .i .i64 0, .i .i64 0]⟩),
  (79, ⟨.sl 4, 1, 24, .sl none 0 0 0⟩),
  (80, ⟨.fn, 1, 8, .nilf⟩),
  (81, ⟨.fn, 1, 8, .nilf⟩),
  (82, ⟨.fn, 1, 8, .nilf⟩),
  (83, ⟨.fn, 1, 8, .nilf⟩),
  (84, ⟨.fn, 1, 8, .nilf⟩),
  (85, ⟨.sl 9, 1, 24, .sl none 0 0 0⟩),
  (86, ⟨.fn, 1, 8, .nilf⟩),
  (87, ⟨.fn, 1, 8, .nilf⟩),
  (88, ⟨.fn, 1, 8, .nilf⟩),
  (89, ⟨.fn, 1, 8, .nilf⟩),
  (90, ⟨.fn, 1, 8, .nilf⟩),
  (91, ⟨.sl 24, 1, 24, .sl none 0 0 0⟩),
  (92, ⟨.fn, 1, 8, .nilf⟩),
  (93, ⟨.fn, 1, 8, .nilf⟩),
  (94, ⟨.mp 9 3, 1, 8, .m none⟩),
  (95, ⟨.fn, 1, 8, .nilf⟩),
  (96, ⟨.fn, 1, 8, .nilf⟩),
  (97, ⟨.arr 24 5, 24, 24, .agg [.i .u8 0, .i .u8 0, .i .u8 0, .i .u8 0, .i .u8 0, .i .u8 0, .i .u8 0, .i .u8 0, .i .u8 0, .i .u8 0, .i .u8 0, .i .u8 0, .i .u8 0, .i .u8 0, .i .u8 0, .i .u8 0, .i .u8 0, .i .u8 0, .i .u8 0, .i .u8 0, .i .u8 0, .i .u8 0, .i .u8 0, .i .u8 0]⟩),
  (98, ⟨.int .u64, 1, 8, .i .u64 0⟩),
  (99, ⟨.fn, 1, 8, .nilf⟩),
  (100, ⟨.fn, 1, 8, .nilf⟩),
  (102, ⟨.fn, 1, 8, .nilf⟩),
  (103, ⟨.ifc, 1, 16, .nili⟩),
  (104, ⟨.ifc, 1, 16, .nili⟩),
  (106, ⟨.fn, 1, 8, .nilf⟩),
  (108, ⟨.fn, 1, 8, .nilf⟩),
  (109, ⟨.fn, 1, 8, .nilf⟩),
  (110, ⟨.arr 20 98, 20, 160, .agg [.i .u64 0, .i .u64 0, .i .u64 0, .i .u64 0, .i .u64 0, .i .u64 0, .i .u64 0, .i .u64 0, .i .u64 0, .i .u64 0, .i .u64 0, .i .u64 0, .i .u64 0, .i .u64 0, .i .u64 0, .i .u64 0, .i .u64 0, .i .u64 0, .i .u64 0, .i .u64 0]⟩),
  (111, ⟨.int .u32, 1, 4, .i .u32 0⟩),
  (112, ⟨.arr 65 5, 65, 65, .agg [.i .u8 0, .i .u8 0, .i .u8 0, .i .u8 0, .i .u8 0, .i .u8 0, .i .u8 0, .i .u8 0, .i .u8 0, .i .u8 0, .i .u8 0, .i .u8 0, .i .u8 0, .i .u8 0, .i .u8 0, .i .u8 0, .i .u8 0, .i .u8 0, .i .u8 0, .i .u8 0, .i .u8 0, .i .u8 0, .i .u8 0, .i .u8 0, .i .u8 0, .i .u8 0, .i .u8 0, .i .u8 0, .i .u8 0, .i .u8 0, .i .u8 0, .i .u8 0, .i .u8 0, .i .u8 0, .i .u8 0, .i .u8 0, .i .u8 0, .i .u8 0, .i .u8 0, .i .u8 0, .i .u8 0, .i .u8 0, .i .u8 0, .i .u8 0, .i .u8 0, .i .u8 0, .i .u8 0, .i .u8 0, .i .u8 0, .i .u8 0, .i .u8 0, .i .u8 0, .i .u8 0, .i .u8 0, .i .u8 0, .i .u8 0, .i .u8 0, .i .u8 0, .i .u8 0, .i .u8 0, .i .u8 0, .i .u8 0, .i .u8 0, .i .u8 0, .i .u8 0]⟩),
  (113, ⟨.fn, 1, 8, .nilf⟩),
  (114, ⟨.int .u64, 1, 8, .i .u64 0⟩),
  (115, ⟨.fn, 1, 8, .nilf⟩),
  (116, ⟨.fn, 1, 8, .nilf⟩),
  (117, ⟨.fn, 1, 8, .nilf⟩),
  (118, ⟨.int .i64, 1, 8, .i .i64 0⟩),
  (120, ⟨.fn, 1, 8, .nilf⟩),
  (121, ⟨.ptr 130, 1, 8, .p none⟩),
  (122, ⟨.fn, 1, 8, .nilf⟩),
  (123, ⟨.fn, 1, 8, .nilf⟩),
  (124, ⟨.arr 32 5, 32, 32, .agg [.i .u8 0, .i .u8 0, .i .u8 0, .i .u8 0, .i .u8 0, .i .u8 0, .i .u8 0, .i .u8 0, .i .u8 0, .i .u8 0, .i .u8 0, .i .u8 0, .i .u8 0, .i .u8 0, .i .u8 0, .i .u8 0, .i .u8 0, .i .u8 0, .i .u8 0, .i .u8 0, .i .u8 0, .i .u8 0, .i .u8 0, .i .u8 0, .i .u8 0, .i .u8 0, .i .u8 0, .i .u8 0, .i .u8 0, .i .u8 0, .i .u8 0, .i .u8 0]⟩),
  (125, ⟨.arr 64 5, 64, 64, .agg [.i .u8 0, .i .u8 0, .i .u8 0, .i .u8 0, .i .u8 0, .i .u8 0, .i .u8 0, .i .u8 0, .i .u8 0, .i .u8 0, .i .u8 0, .i .u8 0, .i .u8 0, .i .u8 0, .i .u8 0, .i .u8 0, .i .u8 0, .i .u8 0, .i .u8 0, .i .u8 0, .i .u8 0, .i .u8 0, .i .u8 0, .i .u8 0, .i .u8 0, .i .u8 0, .i .u8 0, .i .u8 0, .i .u8 0, .i .u8 0, .i .u8 0, .i .u8 0, .i .u8 0, .i .u8 0, .i .u8 0, .i .u8 0, .i .u8 0, .i .u8 0, .i .u8 0, .i .u8 0, .i .u8 0, .i .u8 0, .i .u8 0, .i .u8 0, .i .u8 0, .i .u8 0, .i .u8 0, .i .u8 0, .i .u8 0, .i .u8 0, .i .u8 0, .i .u8 0, .i .u8 0, .i .u8 0, .i .u8 0, .i .u8 0, .i .u8 0, .i .u8 0, .i .u8 0, .i .u8 0, .i .u8 0, .i .u8 0, .i .u8 0, .i .u8 0]⟩),
  (127, ⟨.fn, 1, 8, .nilf⟩),
  (128, ⟨.fn, 1, 8, .nilf⟩),
  (129, ⟨.st [(0, 9), (1, 9), (2, 104)], 3, 48, .agg [.s ⟨#[]⟩, .s ⟨#[]⟩, .nili]⟩),
  (130, ⟨.st [(0, 9), (1, 9), (2, 104)], 3, 48, .agg [.s ⟨#[]⟩, .s ⟨#[]⟩, .nili]⟩),
  (131, ⟨.fn, 1, 8, .nilf⟩),
  (132, ⟨.fn, 1, 8, .nilf⟩),
  (133, ⟨.ptr 5, 1, 8, .p none⟩),
  (134, ⟨.ptr 136, 1, 8, .p none⟩),
  (135, ⟨.st [(0, 9)], 1, 16, .agg [.s ⟨#[]⟩]⟩),
  (136, ⟨.st [(0, 9)], 1, 16, .agg [.s ⟨#[]⟩]⟩),
  (137, ⟨.fn, 1, 8, .nilf⟩),
  (138, ⟨.st [(0, 17), (1, 17), (2, 17), (3, 9)], 4, 40, .agg [.p none, .p none, .p none, .s ⟨#[]⟩]⟩),
  (139, ⟨.st [(0, 17), (1, 17), (2, 17), (3, 9)], 4, 40, .agg [.p none, .p none, .p none, .s ⟨#[]⟩]⟩),
  (140, ⟨.arr 0 16, 0, 0, .agg []⟩),
  (141, ⟨.st [(0, 140)], 0, 0, .agg []⟩),
  (142, ⟨.st [(0, 140)], 0, 0, .agg []⟩),
  (143, ⟨.int .u8, 1, 1, .i .u8 0⟩),
  (144, ⟨.int .u8, 1, 1, .i .u8 0⟩),
  (145, ⟨.fn, 1, 8, .nilf⟩),
  (146, ⟨.int .i32, 1, 4, .i .i32 0⟩),
  (147, ⟨.int .i32, 1, 4, .i .i32 0⟩),
  (148, ⟨.st [(0, 12), (1, 12), (2, 111), (3, 143), (4, 5), (5, 5), (6, 144), (7, 145), (8, 133), (9, 146), (10, 147)], 11, 48, .agg [.i .u64 0, .i .u64 0, .i .u32 0, .i .u8 0, .i .u8 0, .i .u8 0, .i .u8 0, .nilf, .p none, .i .i32 0, .i .i32 0]⟩),
  (149, ⟨.st [(0, 12), (1, 12), (2, 111), (3, 143), (4, 5), (5, 5), (6, 144), (7, 145), (8, 133), (9, 146), (10, 147)], 11, 48, .agg [.i .u64 0, .i .u64 0, .i .u32 0, .i .u8 0, .i .u8 0, .i .u8 0, .i .u8 0, .nilf, .p none, .i .i32 0, .i .i32 0]⟩)]

theorem tok : TOK Tryd.prog T := TOK_of (by kernel_rfl)
end Go.AK
namespace Go.AK
open Go Go.RowKit Go.Proofs
theorem globTab {E : Env} {H : Heap} {w : World} (h : Rel E H w) : Lib.TabIs Tryd.prog w "internal/strconv.uint64pow10" .u64 Lib.pow10Tab := by
  obtain ⟨⟨t, z, h1⟩, _, _⟩ := h.gl
  have h2 := h.im _ _ h1
  have h3 : Tryd.prog.globalNamed "internal/strconv.uint64pow10" = some 0 := by kernel_rfl
  unfold Lib.TabIs World.var?
  rw [h3, Option.bind_some, h2]
theorem globSyn {E : Env} {H : Heap} {w : World} (h : Rel E H w) : ∃ tp p, w.var? Tryd.prog "strconv.ErrSyntax" = some #[.iface tp p] := by
  obtain ⟨_, ⟨tp, p, t, z, h1⟩, _⟩ := h.gl
  have h2 := h.im _ _ h1
  have h3 : Tryd.prog.globalNamed "strconv.ErrSyntax" = some 3 := by kernel_rfl
  refine ⟨tp, p, ?_⟩
  unfold World.var?
  rw [h3, Option.bind_some, h2]
theorem globRng {E : Env} {H : Heap} {w : World} (h : Rel E H w) : ∃ tp p, w.var? Tryd.prog "strconv.ErrRange" = some #[.iface tp p] := by
  obtain ⟨_, _, ⟨tp, p, t, z, h1⟩⟩ := h.gl
  have h2 := h.im _ _ h1
  have h3 : Tryd.prog.globalNamed "strconv.ErrRange" = some 4 := by kernel_rfl
  refine ⟨tp, p, ?_⟩
  unfold World.var?
  rw [h3, Option.bind_some, h2]
end Go.AK
namespace Go.Proofs
open Go.Shelf
def Tryd.laysAtoi_ren : Go.Shelf.Ren := ⟨fun | 172 => 70 | 244 => 77 | 245 => 78 | 247 => 81 | 279 => 82 | 280 => 83 | 281 => 84 | 282 => 85 | 287 => 86 | 316 => 87 | 171 => 47 | 205 => 88 | 321 => 89 | 322 => 90 | 243 => 55 | 246 => 62 | 283 => 66 | 284 => 67 | 285 => 68 | 286 => 69 | 129 => 73 | 317 => 72 | 318 => 74 | 319 => 75 | 320 => 76 | 337 => 79 | 338 => 80 | n => n, fun | 9 => 9 | 3 => 3 | 75 => 104 | 76 => 105 | 4 => 4 | 5 => 5 | 167 => 118 | 37 => 48 | 0 => 0 | 85 => 119 | 2 => 2 | 168 => 121 | 53 => 98 | 175 => 126 | 46 => 114 | 210 => 130 | 127 => 133 | 145 => 136 | 143 => 134 | 21 => 21 | 171 => 97 | 173 => 101 | 212 => 110 | 51 => 111 | 20 => 20 | 213 => 112 | 232 => 124 | 233 => 125 | 80 => 137 | n => n, fun | 15 => 3 | 16 => 4 | 17 => 0 | 18 => 1 | 19 => 2 | n => n⟩
theorem Tryd.laysAtoi : Go.Proofs.LaysC.n172 Tryd.prog Tryd.laysAtoi_ren := {
  mixed := by kernel_rfl
  f129 := Tryd.func73.trans (congrArg some (by kernel_rfl))
  f171 := Tryd.func47.trans (congrArg some (by kernel_rfl))
  f172 := Tryd.func70.trans (congrArg some (by kernel_rfl))
  f205 := Tryd.func88.trans (congrArg some (by kernel_rfl))
  f243 := Tryd.func55.trans (congrArg some (by kernel_rfl))
  f244 := Tryd.func77.trans (congrArg some (by kernel_rfl))
  f245 := Tryd.func78.trans (congrArg some (by kernel_rfl))
  f246 := Tryd.func62.trans (congrArg some (by kernel_rfl))
  f247 := Tryd.func81.trans (congrArg some (by kernel_rfl))
  f279 := Tryd.func82.trans (congrArg some (by kernel_rfl))
  f280 := Tryd.func83.trans (congrArg some (by kernel_rfl))
  f281 := Tryd.func84.trans (congrArg some (by kernel_rfl))
  f282 := Tryd.func85.trans (congrArg some (by kernel_rfl))
  f283 := Tryd.func66.trans (congrArg some (by kernel_rfl))
  f284 := Tryd.func67.trans (congrArg some (by kernel_rfl))
  f285 := Tryd.func68.trans (congrArg some (by kernel_rfl))
  f286 := Tryd.func69.trans (congrArg some (by kernel_rfl))
  f287 := Tryd.func86.trans (congrArg some (by kernel_rfl))
  f316 := Tryd.func87.trans (congrArg some (by kernel_rfl))
  f317 := Tryd.func72.trans (congrArg some (by kernel_rfl))
  f318 := Tryd.func74.trans (congrArg some (by kernel_rfl))
  f319 := Tryd.func75.trans (congrArg some (by kernel_rfl))
  f320 := Tryd.func76.trans (congrArg some (by kernel_rfl))
  f321 := Tryd.func89.trans (congrArg some (by kernel_rfl))
  f322 := Tryd.func90.trans (congrArg some (by kernel_rfl))
  f337 := Tryd.func79.trans (congrArg some (by kernel_rfl))
  f338 := Tryd.func80.trans (congrArg some (by kernel_rfl))
  t0 := Tryd.underlying0
  a0 := Tryd.isAgg0
  z0 := Tryd.sizeOf0
  v0 := Tryd.zeroValue0
  t2 := Tryd.underlying2
  a2 := Tryd.isAgg2
  z2 := Tryd.sizeOf2
  v2 := Tryd.zeroValue2
  t3 := Tryd.underlying3
  a3 := Tryd.isAgg3
  z3 := Tryd.sizeOf3
  v3 := Tryd.zeroValue3
  t4 := Tryd.underlying4
  a4 := Tryd.isAgg4
  z4 := Tryd.sizeOf4
  v4 := Tryd.zeroValue4
  t5 := Tryd.underlying5
  a5 := Tryd.isAgg5
  z5 := Tryd.sizeOf5
  v5 := Tryd.zeroValue5
  t9 := Tryd.underlying9
  a9 := Tryd.isAgg9
  z9 := Tryd.sizeOf9
  v9 := Tryd.zeroValue9
  t20 := Tryd.underlying20
  a20 := Tryd.isAgg20
  z20 := Tryd.sizeOf20
  v20 := Tryd.zeroValue20
  t21 := Tryd.underlying21
  a21 := Tryd.isAgg21
  z21 := Tryd.sizeOf21
  v21 := Tryd.zeroValue21
  t37 := Tryd.underlying48
  a37 := Tryd.isAgg48
  z37 := Tryd.sizeOf48
  v37 := Tryd.zeroValue48
  t46 := Tryd.underlying114
  a46 := Tryd.isAgg114
  z46 := Tryd.sizeOf114
  v46 := Tryd.zeroValue114
  t51 := Tryd.underlying111
  a51 := Tryd.isAgg111
  z51 := Tryd.sizeOf111
  v51 := Tryd.zeroValue111
  t53 := Tryd.underlying98
  a53 := Tryd.isAgg98
  z53 := Tryd.sizeOf98
  v53 := Tryd.zeroValue98
  t75 := Tryd.underlying104
  a75 := Tryd.isAgg104
  z75 := Tryd.sizeOf104
  v75 := Tryd.zeroValue104
  t76 := Tryd.underlying105
  a76 := Tryd.isAgg105
  z76 := Tryd.sizeOf105
  v76 := Tryd.zeroValue105
  t85 := Tryd.underlying119
  a85 := Tryd.isAgg119
  z85 := Tryd.sizeOf119
  v85 := Tryd.zeroValue119
  t127 := Tryd.underlying133
  a127 := Tryd.isAgg133
  z127 := Tryd.sizeOf133
  v127 := Tryd.zeroValue133
  t143 := Tryd.underlying134
  a143 := Tryd.isAgg134
  z143 := Tryd.sizeOf134
  v143 := Tryd.zeroValue134
  t145 := Tryd.underlying136
  a145 := Tryd.isAgg136
  z145 := Tryd.sizeOf136
  v145 := Tryd.zeroValue136
  t167 := Tryd.underlying118
  a167 := Tryd.isAgg118
  z167 := Tryd.sizeOf118
  v167 := Tryd.zeroValue118
  t168 := Tryd.underlying121
  a168 := Tryd.isAgg121
  z168 := Tryd.sizeOf121
  v168 := Tryd.zeroValue121
  t171 := Tryd.underlying97
  a171 := Tryd.isAgg97
  z171 := Tryd.sizeOf97
  v171 := Tryd.zeroValue97
  t173 := Tryd.underlying101
  a173 := Tryd.isAgg101
  z173 := Tryd.sizeOf101
  v173 := Tryd.zeroValue101
  t175 := Tryd.underlying126
  a175 := Tryd.isAgg126
  z175 := Tryd.sizeOf126
  v175 := Tryd.zeroValue126
  t210 := Tryd.underlying130
  a210 := Tryd.isAgg130
  z210 := Tryd.sizeOf130
  v210 := Tryd.zeroValue130
  t212 := Tryd.underlying110
  a212 := Tryd.isAgg110
  z212 := Tryd.sizeOf110
  v212 := Tryd.zeroValue110
  t213 := Tryd.underlying112
  a213 := Tryd.isAgg112
  z213 := Tryd.sizeOf112
  t232 := Tryd.underlying124
  a232 := Tryd.isAgg124
  z232 := Tryd.sizeOf124
  v232 := Tryd.zeroValue124
  t233 := Tryd.underlying125
  a233 := Tryd.isAgg125
  z233 := Tryd.sizeOf125
  v233 := Tryd.zeroValue125
  g15 := by kernel_rfl
  g16 := by kernel_rfl
  g17 := by kernel_rfl
  g18 := by kernel_rfl
  g19 := by kernel_rfl
  t80 := Tryd.underlying137
  a80 := Tryd.isAgg137
  z80 := Tryd.sizeOf137
  v80 := Tryd.zeroValue137
  i0 := by kernel_rfl
  i2 := by kernel_rfl
  i3 := by kernel_rfl
  i4 := by kernel_rfl
  i5 := by kernel_rfl
  i9 := by kernel_rfl
  i20 := by kernel_rfl
  i21 := by kernel_rfl
  i37 := by kernel_rfl
  i46 := by kernel_rfl
  i51 := by kernel_rfl
  i53 := by kernel_rfl
  i75 := by kernel_rfl
  i76 := by kernel_rfl
  i80 := by kernel_rfl
  i85 := by kernel_rfl
  i127 := by kernel_rfl
  i143 := by kernel_rfl
  i145 := by kernel_rfl
  i167 := by kernel_rfl
  i168 := by kernel_rfl
  i171 := by kernel_rfl
  i173 := by kernel_rfl
  i175 := by kernel_rfl
  i210 := by kernel_rfl
  i212 := by kernel_rfl
  i232 := by kernel_rfl
  i233 := by kernel_rfl
  m15 := by kernel_rfl
  m16 := by kernel_rfl
  m17 := by kernel_rfl
  m18 := by kernel_rfl
  m19 := by kernel_rfl
  c0 := by kernel_rfl
  c2 := by kernel_rfl
  c3 := by kernel_rfl
  c4 := by kernel_rfl
  c5 := by kernel_rfl
  c9 := by kernel_rfl
  c20 := by kernel_rfl
  c21 := by kernel_rfl
  c37 := by kernel_rfl
  c46 := by kernel_rfl
  c51 := by kernel_rfl
  c53 := by kernel_rfl
  c75 := by kernel_rfl
  c76 := by kernel_rfl
  c80 := by kernel_rfl
  c85 := by kernel_rfl
  c127 := by kernel_rfl
  c143 := by kernel_rfl
  c145 := by kernel_rfl
  c167 := by kernel_rfl
  c168 := by kernel_rfl
  c171 := by kernel_rfl
  c173 := by kernel_rfl
  c175 := by kernel_rfl
  c210 := by kernel_rfl
  c212 := by kernel_rfl
  c213 := by kernel_rfl
  c232 := by kernel_rfl
  c233 := by kernel_rfl }
def Tryd.laysItoa_ren : Go.Shelf.Ren := ⟨fun | 171 => 47 | 243 => 55 | 246 => 62 | 283 => 66 | 284 => 67 | 285 => 68 | 286 => 69 | 129 => 73 | 317 => 72 | 318 => 74 | 319 => 75 | 320 => 76 | 337 => 79 | 338 => 80 | n => n, fun | 3 => 3 | 9 => 9 | 2 => 2 | 4 => 4 | 171 => 97 | 0 => 0 | 53 => 98 | 37 => 48 | 5 => 5 | 173 => 101 | 212 => 110 | 51 => 111 | 20 => 20 | 213 => 112 | 46 => 114 | 232 => 124 | 233 => 125 | n => n, fun | 17 => 0 | 18 => 1 | 19 => 2 | n => n⟩
theorem Tryd.laysItoa : Go.Proofs.LaysM.n171 Tryd.prog Tryd.laysItoa_ren := {
  mixed := by kernel_rfl
  f129 := Tryd.func73.trans (congrArg some (by kernel_rfl))
  f171 := Tryd.func47.trans (congrArg some (by kernel_rfl))
  f243 := Tryd.func55.trans (congrArg some (by kernel_rfl))
  f246 := Tryd.func62.trans (congrArg some (by kernel_rfl))
  f283 := Tryd.func66.trans (congrArg some (by kernel_rfl))
  f284 := Tryd.func67.trans (congrArg some (by kernel_rfl))
  f285 := Tryd.func68.trans (congrArg some (by kernel_rfl))
  f286 := Tryd.func69.trans (congrArg some (by kernel_rfl))
  f317 := Tryd.func72.trans (congrArg some (by kernel_rfl))
  f318 := Tryd.func74.trans (congrArg some (by kernel_rfl))
  f319 := Tryd.func75.trans (congrArg some (by kernel_rfl))
  f320 := Tryd.func76.trans (congrArg some (by kernel_rfl))
  f337 := Tryd.func79.trans (congrArg some (by kernel_rfl))
  f338 := Tryd.func80.trans (congrArg some (by kernel_rfl))
  t0 := Tryd.underlying0
  a0 := Tryd.isAgg0
  z0 := Tryd.sizeOf0
  v0 := Tryd.zeroValue0
  t2 := Tryd.underlying2
  a2 := Tryd.isAgg2
  z2 := Tryd.sizeOf2
  v2 := Tryd.zeroValue2
  t3 := Tryd.underlying3
  a3 := Tryd.isAgg3
  z3 := Tryd.sizeOf3
  v3 := Tryd.zeroValue3
  t4 := Tryd.underlying4
  a4 := Tryd.isAgg4
  z4 := Tryd.sizeOf4
  v4 := Tryd.zeroValue4
  t5 := Tryd.underlying5
  a5 := Tryd.isAgg5
  z5 := Tryd.sizeOf5
  v5 := Tryd.zeroValue5
  t9 := Tryd.underlying9
  a9 := Tryd.isAgg9
  z9 := Tryd.sizeOf9
  v9 := Tryd.zeroValue9
  t20 := Tryd.underlying20
  a20 := Tryd.isAgg20
  z20 := Tryd.sizeOf20
  v20 := Tryd.zeroValue20
  t37 := Tryd.underlying48
  a37 := Tryd.isAgg48
  z37 := Tryd.sizeOf48
  v37 := Tryd.zeroValue48
  t46 := Tryd.underlying114
  a46 := Tryd.isAgg114
  z46 := Tryd.sizeOf114
  v46 := Tryd.zeroValue114
  t51 := Tryd.underlying111
  a51 := Tryd.isAgg111
  z51 := Tryd.sizeOf111
  v51 := Tryd.zeroValue111
  t53 := Tryd.underlying98
  a53 := Tryd.isAgg98
  z53 := Tryd.sizeOf98
  v53 := Tryd.zeroValue98
  t171 := Tryd.underlying97
  a171 := Tryd.isAgg97
  z171 := Tryd.sizeOf97
  v171 := Tryd.zeroValue97
  t173 := Tryd.underlying101
  a173 := Tryd.isAgg101
  z173 := Tryd.sizeOf101
  v173 := Tryd.zeroValue101
  t212 := Tryd.underlying110
  a212 := Tryd.isAgg110
  z212 := Tryd.sizeOf110
  v212 := Tryd.zeroValue110
  t213 := Tryd.underlying112
  a213 := Tryd.isAgg112
  z213 := Tryd.sizeOf112
  t232 := Tryd.underlying124
  a232 := Tryd.isAgg124
  z232 := Tryd.sizeOf124
  v232 := Tryd.zeroValue124
  t233 := Tryd.underlying125
  a233 := Tryd.isAgg125
  z233 := Tryd.sizeOf125
  v233 := Tryd.zeroValue125
  g17 := by kernel_rfl
  g18 := by kernel_rfl
  g19 := by kernel_rfl
  i0 := by kernel_rfl
  i2 := by kernel_rfl
  i3 := by kernel_rfl
  i4 := by kernel_rfl
  i5 := by kernel_rfl
  i9 := by kernel_rfl
  i20 := by kernel_rfl
  i37 := by kernel_rfl
  i46 := by kernel_rfl
  i51 := by kernel_rfl
  i53 := by kernel_rfl
  i171 := by kernel_rfl
  i173 := by kernel_rfl
  i212 := by kernel_rfl
  i232 := by kernel_rfl
  i233 := by kernel_rfl
  m17 := by kernel_rfl
  m18 := by kernel_rfl
  m19 := by kernel_rfl }
def Tryd.laysFB_ren : Go.Shelf.Ren := ⟨fun | 121 => 48 | 214 => 56 | n => n, fun | 4 => 4 | 9 => 9 | n => n, fun | n => n⟩
theorem Tryd.laysFB : Go.Proofs.Lays.n121 Tryd.prog Tryd.laysFB_ren := {
  mixed := by kernel_rfl
  f121 := Tryd.func48.trans (congrArg some (by kernel_rfl))
  f214 := Tryd.func56.trans (congrArg some (by kernel_rfl))
  t4 := Tryd.underlying4
  a4 := Tryd.isAgg4
  z4 := Tryd.sizeOf4
  v4 := Tryd.zeroValue4
  t9 := Tryd.underlying9
  a9 := Tryd.isAgg9
  z9 := Tryd.sizeOf9
  v9 := Tryd.zeroValue9 }
end Go.Proofs
namespace Go.AK
open Go Go.RowKit Go.Proofs
set_option linter.unusedVariables false
theorem argS {E : Env} {x : ByteArray} {vs : Array Value} (h : VRL E [.s x] vs.toList) : vs = #[.string x] := by
  obtain ⟨v, h1, h2⟩ := vrl_one h
  rw [arr_of_toList h1, (show v = .string x from h2)]
theorem argI {E : Env} {k : IntKind} {x : Int} {vs : Array Value} (h : VRL E [.i k x] vs.toList) : vs = #[.int k x] := by
  obtain ⟨v, h1, h2⟩ := vrl_one h
  rw [arr_of_toList h1, (show v = .int k x from h2)]
theorem argB {E : Env} {x : Bool} {vs : Array Value} (h : VRL E [.b x] vs.toList) : vs = #[.bool x] := by
  obtain ⟨v, h1, h2⟩ := vrl_one h
  rw [arr_of_toList h1, (show v = .bool x from h2)]
theorem itoa_spec (n : Int) (h0 : -9223372036854775808 ≤ n) (h1 : n ≤ 9223372036854775807) (H : Heap) :
    ACall Tryd.prog 47 [.i .i64 n] H fun r H' => r = .ret (.s ⟨(Lib.itoa n).toArray⟩) ∧ H' = H :=
  ACall.below ⟨Tryd.f47, Tryd.func47, rfl, rfl⟩ fun E w vs hR hv => by
    rw [argI hv]
    refine (Any.strconv_Itoa Tryd.laysItoa n h0 h1 w (globTab hR)).mono fun e w' ⟨he, k, os, hw⟩ => ⟨?_, _, he, fun E' => rfl⟩
    subst hw
    exact Lib.below_grow _ _ (Nat.le_refl _) _ _
theorem formatBool_spec (b : Bool) (H : Heap) :
    ACall Tryd.prog 48 [.b b] H fun r H' => r = .ret (.s ⟨(Lib.formatBool b).toArray⟩) ∧ H' = H :=
  ACall.below ⟨Tryd.f48, Tryd.func48, rfl, rfl⟩ fun E w vs hR hv => by
    rw [argB hv]
    refine (Any.strconv_FormatBool Tryd.laysFB b w).mono fun e w' ⟨he, hw⟩ => ⟨?_, _, he, fun E' => rfl⟩
    subst hw
    exact Below.refl _ _
theorem atoi_ok_spec (s : ByteArray) (hmax : s.size ≤ 100000) (v : Int) (h : Lib.atoiAll s.data.toList = .ok v) (H : Heap) :
    ACall Tryd.prog 70 [.s s] H fun r H' => r = .ret (.tup [.i .i64 v, .nili]) ∧ H' = H :=
  ACall.below ⟨Tryd.f70, Tryd.func70, rfl, rfl⟩ fun E w vs hR hv => by
    rw [argS hv]
    refine (Any.strconv_Atoi_ok Tryd.laysAtoi s (by omega) v h w).mono fun e w' ⟨he, hw⟩ => ⟨?_, _, he, fun E' => ⟨_, rfl, ⟨_, _, rfl, rfl, ⟨_, _, rfl, rfl, rfl⟩⟩⟩⟩
    rcases hw with rfl | ⟨t, rfl⟩
    · exact Below.refl _ _
    · exact Lib.bytesWorld_below _ _ _
theorem atoi_range_spec (s : ByteArray) (hmax : s.size ≤ 100000) (h : Lib.atoiAll s.data.toList = .range) (H : Heap) :
    ACall Tryd.prog 70 [.s s] H fun r H' => r = .ret (.tup [.i .i64 (Lib.atoiSat s.data.toList), .ifc 121 .un]) ∧ H' = H :=
  ACall.below ⟨Tryd.f70, Tryd.func70, rfl, rfl⟩ fun E w vs hR hv => by
    rw [argS hv]
    obtain ⟨tp, p, hg⟩ := globRng hR
    refine (Any.strconv_Atoi_range_var Tryd.laysAtoi s (by omega) h tp p w hg).mono fun e w' ⟨N, he, _, _, hb⟩ => ⟨hb, _, he, fun E' => ⟨_, rfl, ⟨_, _, rfl, rfl, ⟨_, _, rfl, ⟨_, rfl, trivial⟩, rfl⟩⟩⟩⟩
end Go.AK
namespace Go.AK
open Go Go.RowKit Go.Proofs
set_option linter.unusedVariables false
set_option maxRecDepth 100000
theorem mixed : Tryd.prog.follows .mixedOrders = true := by kernel_rfl
abbrev Str := List UInt8
def sb (l : Str) : ByteArray := ⟨l.toArray⟩
theorem sb_self (s : ByteArray) : sb s.data.toList = s := rfl
theorem sb_size (l : Str) : (sb l).size = l.length := by simp [sb, ByteArray.size]
theorem sb_append (a b : Str) : sb a ++ sb b = sb (a ++ b) := by
  apply ByteArray.ext; simp [sb]
theorem sb_extract (l : Str) (i j : Nat) : (sb l).extract i j = sb ((l.drop i).take (j - i)) := by
  apply ByteArray.ext
  simp [sb, ByteArray.data_extract, List.extract_toArray, List.extract_eq_take_drop]
/-- A tree of nodes. -/
inductive Ex where
  | nil
  | nd (k : Int) (w o : Str) (n : Int) (l r : Ex)
  deriving Inhabited
def Ex.av : Ex → AV
  | .nil => .p none
  | .nd k w o n l r => .rp [.i .i64 k, .s (sb w), .s (sb o), .i .i64 n, l.av, r.av] 0
def Ex.depth : Ex → Nat
  | .nil => 0
  | .nd _ _ _ _ l r => 1 + max l.depth r.depth
def Ex.isNil : Ex → Bool
  | .nil => true
  | _ => false
def Ex.same : Ex → Ex → Bool
  | .nil, .nil => true
  | .nd k w o n l r, .nd k' w' o' n' l' r' => k == k' && (w == w' && (o == o' && (n == n' && (l.same l' && r.same r'))))
  | _, _ => false
theorem Ex.same_iff : ∀ {x y : Ex}, x.same y = true ↔ x = y
  | .nil, .nil => by simp [Ex.same]
  | .nil, .nd .. => by simp [Ex.same]
  | .nd .., .nil => by simp [Ex.same]
  | .nd k w o n l r, .nd k' w' o' n' l' r' => by
    simp only [Ex.same, Bool.and_eq_true, beq_iff_eq, Ex.same_iff (x := l), Ex.same_iff (x := r), Ex.nd.injEq]
end Go.AK
namespace Go.AK
open Go Go.RowKit Go.Proofs
set_option linter.unusedVariables false
set_option maxRecDepth 100000
theorem sub_av (φ : Nat → Sb) : ∀ x : Ex, sub φ x.av = x.av
  | .nil => by simp only [Ex.av, sub]
  | .nd k w o n l r => by simp only [Ex.av, sub, subs, sub_av φ l, sub_av φ r]
theorem av_one (x : Ex) : x.av.one = true := by cases x <;> rfl
theorem plain_spec (x : Ex) : ACall Tryd.prog 13 [x.av] [] fun r H => r = .ret x.av ∧ H = [] := by
  induction x with
  | nil =>
    refine ACall.enter tok false Tryd.func13 rfl rfl rfl (AW_sound (ip := false) tok _ _ _ _ ?_)
    conv => whnf
    exact ⟨rfl, rfl⟩
  | nd k w o n l r ihl ihr =>
    refine ACall.gh ?_
    refine ACall.enter tok false Tryd.func13 rfl rfl rfl (AW_sound (ip := false) tok _ _ _ _ ?_)
    conv => whnf
    refine ADraw.ofS tok mixed false [3, 7, 11, 15, 19, 24] [0, 1, 2, 3, 4, 5, 6, 7, 8, 9, 10, 11, 12, 13, 14, 15, 16, 17, 18, 19, 21, 22, 23, 24] [20, 25, 26, 27, 28] (by kernel_rfl) (fun _ _ _ _ h => h) ?_
    conv => whnf
    refine ACall.mono ihl ?_; rintro r0 H ⟨rfl, rfl⟩
    conv => whnf
    refine ACall.mono ihr ?_; rintro r0 H ⟨rfl, rfl⟩
    have hl := sub_av
    cases l <;> cases r <;> (
      conv => whnf
      refine GhR.frz 0 rfl (GhR.sel [] rfl (GhR.of ⟨?_, rfl⟩))
      show ARes.ret (.rp [.i .i64 k, .s (sb w), .s (sb o), .i .i64 n, sub _ (Ex.av _), sub _ (Ex.av _)] 0) = _
      simp only [sub_av]; rfl)
end Go.AK
namespace Go.AK
open Go Go.RowKit Go.Proofs
set_option linter.unusedVariables false
set_option maxRecDepth 100000
theorem wrap_small {n : Int} (h : -9223372036854775808 ≤ n) (h' : n ≤ 9223372036854775807) : IntKind.i64.wrap n = n := by
  rw [IntKind.wrap_i64]; omega
theorem depth_spec (x : Ex) : x.depth < 1000000 → ACall Tryd.prog 19 [x.av] [] fun r H => r = .ret (.i .i64 x.depth) ∧ H = [] := by
  induction x with
  | nil =>
    intro _
    refine ACall.enter tok false Tryd.func19 rfl rfl rfl (AW_sound (ip := false) tok _ _ _ _ ?_)
    conv => whnf
    exact ⟨rfl, rfl⟩
  | nd k w o n l r ihl ihr =>
    intro h
    simp only [Ex.depth] at h
    refine ACall.enter tok false Tryd.func19 rfl rfl rfl (AW_sound (ip := false) tok _ _ _ _ ?_)
    conv => whnf
    refine ADraw.ofS tok mixed false [3, 8] [0, 1, 2, 3, 5, 6, 7, 8] [4, 9, 10, 11, 12] (by kernel_rfl) (fun _ _ _ _ h => h) ?_
    conv => whnf
    refine ACall.mono (ihl (by omega)) ?_; rintro r H ⟨rfl, rfl⟩
    conv => whnf
    refine ACall.mono (ihr (by omega)) ?_; rintro r H ⟨rfl, rfl⟩
    conv => whnf
    refine ⟨congrArg ARes.ret (congrArg (AV.i IntKind.i64) ?_), rfl⟩
    rw [wrap_small (by split <;> omega) (by split <;> omega)]
    simp only [Ex.depth]
    split <;> omega
end Go.AK
namespace Go.AK
open Go Go.RowKit Go.Proofs
set_option linter.unusedVariables false
set_option maxRecDepth 100000
/-- A node of a row of nodes. -/
structure Nod where
  k : Int
  w : Str
  o : Str
  n : Int
  l : Int
  r : Int
  deriving Inhabited
def Nod.cells (a : Nod) : List AV := [.i .i64 a.k, .s (sb a.w), .s (sb a.o), .i .i64 a.n, .i .i64 a.l, .i .i64 a.r]
def nods (l : List Nod) : List AV := l.flatMap Nod.cells
theorem nods_length : ∀ l : List Nod, (nods l).length = l.length * 6
  | [] => rfl
  | a :: l => by
    have := nods_length l
    simp only [nods, List.flatMap_cons, List.length_append, List.length_cons] at this ⊢
    rw [this]; simp only [Nod.cells, List.length_cons, List.length_nil]; omega
theorem nods_get : ∀ (l : List Nod) (i j : Nat) (h : i < l.length), j < 6 → (nods l)[i * 6 + j]? = (l[i]).cells[j]?
  | a :: l, 0, j, h, hj => by
    simp only [nods, List.flatMap_cons, Nat.zero_mul, Nat.zero_add, List.getElem_cons_zero]
    rw [List.getElem?_append_left (by simp [Nod.cells]; omega)]
  | a :: l, i + 1, j, h, hj => by
    have := nods_get l i j (by simpa using h) hj
    simp only [nods, List.flatMap_cons, List.getElem_cons_succ] at this ⊢
    rw [List.getElem?_append_right (by simp [Nod.cells]; omega), ← this]
    congr 1
    simp [Nod.cells]; omega
theorem aget_nod {l : List Nod} {i j o : Nat} (ho : o = i * 6 + j) (h : i < l.length) (hj : j < 6) {K : AV → Prop} (hk : aget (l[i]).cells j K) : aget (nods l) o K := by
  subst ho
  unfold aget at hk ⊢
  rw [nods_get l i j h hj]
  exact hk
/-- Are there up to 200, with words of up to 20 bytes? -/
def fewB (l : List Nod) : Bool := (l.take 201).all (fun a => decide (a.w.length ≤ 20) && decide (a.o.length ≤ 20)) && decide (l.length ≤ 200)
theorem few_spec (l : List Nod) (hl : l.length ≤ 9223372036854775807) :
    ACall Tryd.prog 14 [.rs (nods l) 0 6 l.length] [] fun r H => r = .ret (.b (fewB l)) ∧ H = [] := by
  refine ACall.enter tok false Tryd.func14 rfl rfl rfl (AW_sound (ip := false) tok _ _ _ _ ?_)
  conv => whnf
  refine ALoop.ind (ip := false) tok (fun m r H => ∃ (k : Nat), k ≤ l.length ∧ k ≤ 201 ∧ m = 201 - k ∧ (∀ i (h : i < l.length), i < k → (l[i]).w.length ≤ 20 ∧ (l[i]).o.length ≤ 20) ∧ H = [] ∧
    r = [(3, .i .i64 k), (0, .rs (nods l) 0 6 l.length), (2, .b false)]) 201 ?_ ?_
  · exact Gh.regs [3, 0, 2] (Gh.of ⟨0, by omega, by omega, rfl, fun i hi h => by omega, rfl, rfl⟩)
  · rintro m r H ⟨k, hk, hk2, rfl, hall, rfl, rfl⟩
    conv => whnf
    have stop : ¬ (k < l.length ∧ k < 201) → fewB l = decide ((l.length : Int) ≤ 200) := by
      intro hn
      unfold fewB
      by_cases hle : l.length ≤ 200
      · rw [decide_eq_true hle, decide_eq_true (by omega), Bool.and_true, List.take_of_length_le (by omega)]
        rw [List.all_eq_true]
        intro a ha
        obtain ⟨i, hi, rfl⟩ := List.getElem_of_mem ha
        have := hall i hi (by omega)
        simp [this]
      · rw [decide_eq_false hle, decide_eq_false (by omega), Bool.and_false]
    have bad : ∀ h : k < l.length, k < 201 → ¬ ((l[k]).w.length ≤ 20 ∧ (l[k]).o.length ≤ 20) → fewB l = false := by
      intro h h2 hn
      unfold fewB
      by_cases hle : l.length ≤ 200
      · rw [List.take_of_length_le (by omega)]
        have : l.all (fun a => decide (a.w.length ≤ 20) && decide (a.o.length ≤ 20)) = false := by
          rw [List.all_eq_false]
          refine ⟨l[k], List.getElem_mem h, ?_⟩
          simpa using fun h1 => by have := not_and.1 hn h1; omega
        rw [this]; rfl
      · rw [decide_eq_false hle, Bool.and_false]
    by_cases h : (k : Int) < l.length
    · repeat (refine acond_t (decide_eq_true h) ?_; conv => whnf)
      by_cases h2 : (k : Int) < 201
      · repeat (refine acond_t (decide_eq_true h2) ?_; conv => whnf)
        have hkl : k < l.length := by omega
        refine ⟨⟨by omega, h⟩, ?_⟩
        conv => whnf
        refine aget_nod (i := k) (j := 1) (by omega) hkl (by omega) ?_
        conv => whnf
        rw [sb_size]
        by_cases hw : ((l[k]).w.length : Int) > 20
        · repeat (refine acond_t (decide_eq_true hw) ?_; conv => whnf)
          exact ⟨congrArg (fun b => ARes.ret (AV.b b)) (bad hkl (by omega) (by omega)).symm, rfl⟩
        · repeat (refine acond_f (decide_eq_false hw) ?_; conv => whnf)
          refine ⟨⟨by omega, h⟩, ?_⟩
          conv => whnf
          repeat (refine acond_f (decide_eq_false hw) ?_; conv => whnf)
          refine aget_nod (i := k) (j := 2) (by omega) hkl (by omega) ?_
          conv => whnf
          repeat (refine acond_f (decide_eq_false hw) ?_; conv => whnf)
          rw [sb_size]
          by_cases ho : ((l[k]).o.length : Int) > 20
          · repeat (refine acond_t (decide_eq_true ho) ?_; conv => whnf)
            exact ⟨congrArg (fun b => ARes.ret (AV.b b)) (bad hkl (by omega) (by omega)).symm, rfl⟩
          · repeat (refine acond_f (decide_eq_false ho) ?_; conv => whnf)
            refine Gh.regs [3, 0, 2] (Gh.of ⟨201 - (k + 1), by omega, k + 1, by omega, by omega, rfl, fun i hi hi2 => ?_, rfl, ?_⟩)
            · by_cases e : i = k
              · subst e; omega
              · exact hall i hi (by omega)
            · refine congrArg (fun z => (3, AV.i IntKind.i64 z) :: _) ?_
              rw [IntKind.wrap_i64]; omega
      · repeat (refine acond_f (decide_eq_false h2) ?_; conv => whnf)
        exact ⟨congrArg (fun b => ARes.ret (AV.b b)) (stop (by omega)).symm, rfl⟩
    · repeat (refine acond_f (decide_eq_false h) ?_; conv => whnf)
      exact ⟨congrArg (fun b => ARes.ret (AV.b b)) (stop (by omega)).symm, rfl⟩
end Go.AK
namespace Go.AK
open Go Go.RowKit Go.Proofs
set_option linter.unusedVariables false
set_option maxRecDepth 100000
/-- Texts as cells. -/
def strs (l : List Str) : List AV := l.map fun s => .s (sb s)
theorem strs_length (l : List Str) : (strs l).length = l.length := by simp [strs]
theorem aget_strs {l : List Str} {i o : Nat} (ho : o = i) (h : i < l.length) {K : AV → Prop} (hk : K (.s (sb l[i]))) : aget (strs l) o K := by
  subst ho
  unfold aget
  rw [show (strs l)[o]? = some (.s (sb l[o])) from by simp [strs, h]]
  exact hk
/-- The place of a text among others. -/
def idxS : List Str → Str → Option Nat
  | [], _ => none
  | a :: l, x => if x = a then some 0 else (idxS l x).map (· + 1)
def idxI (l : List Str) (x : Str) : Int := match idxS l x with
  | some n => n
  | none => -1
theorem idxS_contains : ∀ (l : List Str) (x : Str), (idxS l x).isSome = l.contains x
  | [], x => rfl
  | a :: l, x => by
    unfold idxS
    by_cases h : x = a
    · simp [h]
    · rw [if_neg h]
      have := idxS_contains l x
      simp [h, this]
theorem idxI_ge (l : List Str) (x : Str) : decide (idxI l x ≥ 0) = l.contains x := by
  have := idxS_contains l x
  unfold idxI
  cases h : idxS l x with
  | none => rw [h] at this; rw [← this]; rfl
  | some n => rw [h] at this; rw [← this]; simp
theorem idxS_drop {l : List Str} {x : Str} {k : Nat} (h : ∀ i (hi : i < l.length), i < k → l[i] ≠ x) : idxS l x = (idxS (l.drop k) x).map (· + k) := by
  induction k generalizing l with
  | zero => simp
  | succ k ih =>
    cases l with
    | nil => simp [idxS]
    | cons a l =>
      have h0 : a ≠ x := h 0 (by simp) (by omega)
      rw [idxS, if_neg (fun e => h0 e.symm), List.drop_succ_cons, ih (fun i hi hk => by have := h (i + 1) (by simpa using hi) (by omega); simpa using this), Option.map_map]
      congr 1
theorem index_spec (l : List Str) (x : Str) (hl : l.length < 1000000) (H0 : Heap) :
    ACall Tryd.prog 63 [.rs (strs l) 0 1 l.length, .s (sb x)] [] fun r H => r = .ret (.i .i64 (idxI l x)) ∧ H = [] := by
  refine ACall.enter tok false Tryd.func63 rfl rfl rfl (AW_sound (ip := false) tok _ _ _ _ ?_)
  conv => whnf
  refine ALoop.ind (ip := false) tok (fun m r H => ∃ (k : Nat), k ≤ l.length ∧ m = l.length - k ∧ (∀ i (hi : i < l.length), i < k → l[i] ≠ x) ∧ H = [] ∧
    r = [(8, .i .i64 k), (7, .i .i64 l.length), (0, .rs (strs l) 0 1 l.length), (1, .s (sb x)), (4, .i .i64 0)]) l.length ?_ ?_
  · exact Gh.regs [8, 7, 0, 1, 4] (Gh.of ⟨0, by omega, by omega, fun i hi h => by omega, rfl, rfl⟩)
  · rintro m r H ⟨k, hk, rfl, hne, rfl, rfl⟩
    conv => whnf
    by_cases h : (k : Int) < l.length
    · (refine acond_t (decide_eq_true h) ?_; conv => whnf)
      refine ⟨⟨by omega, h⟩, ?_⟩
      conv => whnf
      have hkl : k < l.length := by omega
      refine aget_strs (i := k) (by omega) hkl ?_
      conv => whnf
      by_cases he : x = l[k]
      · (refine acond_t (show (x == l[k]) = true from by simpa using he) ?_; conv => whnf)
        refine ⟨congrArg ARes.ret (congrArg (AV.i IntKind.i64) ?_), rfl⟩
        unfold idxI
        rw [idxS_drop hne, List.drop_eq_getElem_cons hkl, idxS, if_pos he]
        simp
      · (refine acond_f (show (x == l[k]) = false from by simpa using he) ?_; conv => whnf)
        refine Gh.regs [8, 7, 0, 1, 4] (Gh.of ⟨l.length - (k + 1), by omega, k + 1, by omega, rfl, fun i hi hi2 => ?_, rfl, ?_⟩)
        · by_cases e : i = k
          · subst e; exact fun e => he e.symm
          · exact hne i hi (by omega)
        · refine congrArg (fun z => (8, AV.i IntKind.i64 z) :: _) ?_
          rw [IntKind.wrap_i64]; omega
    · (refine acond_f (decide_eq_false h) ?_; conv => whnf)
      have : k = l.length := by omega
      subst this
      refine ⟨congrArg ARes.ret (congrArg (AV.i IntKind.i64) ?_), rfl⟩
      unfold idxI
      rw [idxS_drop hne, List.drop_length]
      rfl
theorem contains_spec (l : List Str) (x : Str) (hl : l.length < 1000000) :
    ACall Tryd.prog 57 [.rs (strs l) 0 1 l.length, .s (sb x)] [] fun r H => r = .ret (.b (l.contains x)) ∧ H = [] := by
  refine ACall.enter tok false Tryd.func57 rfl rfl rfl (AW_sound (ip := false) tok _ _ _ _ ?_)
  conv => whnf
  refine ACall.mono (index_spec l x hl []) ?_; rintro r H ⟨rfl, rfl⟩
  conv => whnf
  exact ⟨congrArg (fun b => ARes.ret (AV.b b)) (idxI_ge l x), rfl⟩
theorem in_spec (l : List Str) (x : Str) (hl : l.length < 1000000) :
    ACall Tryd.prog 42 [.rs (strs l) 0 1 l.length, .s (sb x)] [] fun r H => r = .ret (.b (l.contains x)) ∧ H = [] := by
  refine ACall.enter tok false Tryd.func42 rfl rfl rfl (AW_sound (ip := false) tok _ _ _ _ ?_)
  conv => whnf
  refine ALoop.ind (ip := false) tok (fun m r H => ∃ (k : Nat), k ≤ l.length ∧ m = l.length - k ∧ l.contains x = (l.drop k).contains x ∧ H = [] ∧
    r = [(5, .i .i64 k), (0, .rs (strs l) 0 1 l.length), (1, .s (sb x)), (4, .b false)]) l.length ?_ ?_
  · exact Gh.regs [5, 0, 1, 4] (Gh.of ⟨0, by omega, by omega, rfl, rfl, rfl⟩)
  · rintro m r H ⟨k, hk, rfl, hc, rfl, rfl⟩
    conv => whnf
    by_cases h : (k : Int) < l.length
    · (refine acond_t (decide_eq_true h) ?_; conv => whnf)
      refine ⟨⟨by omega, h⟩, ?_⟩
      conv => whnf
      have hkl : k < l.length := by omega
      rw [List.drop_eq_getElem_cons hkl, List.contains_cons] at hc
      refine aget_strs (i := k) (by omega) hkl ?_
      conv => whnf
      by_cases he : l[k] = x
      · (refine acond_t (show (l[k] == x) = true from by simpa using he) ?_; conv => whnf)
        refine ⟨congrArg (fun b => ARes.ret (AV.b b)) ?_, rfl⟩
        rw [hc, he]; simp
      · (refine acond_f (show (l[k] == x) = false from by simpa using he) ?_; conv => whnf)
        refine Gh.regs [5, 0, 1, 4] (Gh.of ⟨l.length - (k + 1), by omega, k + 1, by omega, rfl, ?_, rfl, ?_⟩)
        · rw [hc, show (x == l[k]) = false from by simpa using fun e => he e.symm]; rfl
        · refine congrArg (fun z => (5, AV.i IntKind.i64 z) :: _) ?_
          rw [IntKind.wrap_i64]; omega
    · (refine acond_f (decide_eq_false h) ?_; conv => whnf)
      have : k = l.length := by omega
      subst this
      refine ⟨congrArg (fun b => ARes.ret (AV.b b)) ?_, rfl⟩
      rw [hc, List.drop_length]; rfl
def wTrue : Str := [116, 114, 117, 101]
def wFalse : Str := [102, 97, 108, 115, 101]
def wNot : Str := [110, 111, 116]
def wAnd : Str := [97, 110, 100]
def wOr : Str := [111, 114]
def flagsL : List Str := [[101, 120, 116], [114, 116, 114]]
def numbersL : List Str := [[116, 105, 99, 107], [110, 111, 100, 101], [107, 105, 110, 100], [105, 100], [108, 101, 110]]
def opsL : List Str := [[61, 61], [33, 61], [60, 61], [62, 61], [60], [62]]
def opsR : List Str := [[61, 61], [33, 61], [60], [60, 61], [62], [62, 61]]
theorem flags_spec : ACall Tryd.prog 58 [] [] fun r H => r = .ret (.rs (strs flagsL) 0 1 2) ∧ H = [] := by
  refine ACall.gh ?_
  refine ACall.enter tok false Tryd.func58 rfl rfl rfl (AW_sound (ip := false) tok _ _ _ _ ?_)
  conv => whnf
  exact GhR.frz 0 rfl (GhR.sel [] rfl (GhR.of ⟨rfl, rfl⟩))
theorem numbers_spec : ACall Tryd.prog 59 [] [] fun r H => r = .ret (.rs (strs numbersL) 0 1 5) ∧ H = [] := by
  refine ACall.gh ?_
  refine ACall.enter tok false Tryd.func59 rfl rfl rfl (AW_sound (ip := false) tok _ _ _ _ ?_)
  conv => whnf
  exact GhR.frz 0 rfl (GhR.sel [] rfl (GhR.of ⟨rfl, rfl⟩))
theorem ops_spec : ACall Tryd.prog 38 [] [] fun r H => r = .ret (.rs (strs opsL) 0 1 6) ∧ H = [] := by
  refine ACall.gh ?_
  refine ACall.enter tok false Tryd.func38 rfl rfl rfl (AW_sound (ip := false) tok _ _ _ _ ?_)
  conv => whnf
  exact GhR.frz 0 rfl (GhR.sel [] rfl (GhR.of ⟨rfl, rfl⟩))
theorem flagsR_spec : ACall Tryd.prog 54 [] [] fun r H => r = .ret (.rs (strs flagsL) 0 1 2) ∧ H = [] := by
  refine ACall.gh ?_
  refine ACall.enter tok false Tryd.func54 rfl rfl rfl (AW_sound (ip := false) tok _ _ _ _ ?_)
  conv => whnf
  exact GhR.frz 0 rfl (GhR.sel [] rfl (GhR.of ⟨rfl, rfl⟩))
theorem numbersR_spec : ACall Tryd.prog 53 [] [] fun r H => r = .ret (.rs (strs numbersL) 0 1 5) ∧ H = [] := by
  refine ACall.gh ?_
  refine ACall.enter tok false Tryd.func53 rfl rfl rfl (AW_sound (ip := false) tok _ _ _ _ ?_)
  conv => whnf
  exact GhR.frz 0 rfl (GhR.sel [] rfl (GhR.of ⟨rfl, rfl⟩))
theorem opsR_spec : ACall Tryd.prog 43 [] [] fun r H => r = .ret (.rs (strs opsR) 0 1 6) ∧ H = [] := by
  refine ACall.gh ?_
  refine ACall.enter tok false Tryd.func43 rfl rfl rfl (AW_sound (ip := false) tok _ _ _ _ ?_)
  conv => whnf
  exact GhR.frz 0 rfl (GhR.sel [] rfl (GhR.of ⟨rfl, rfl⟩))
end Go.AK
namespace Go.AK
open Go Go.RowKit Go.Proofs
set_option linter.unusedVariables false
set_option maxRecDepth 100000
theorem flatPair : flatEq Tryd.prog 51 [none, none] := by
  intro xs ys w r hx hy hr
  obtain ⟨_, _, h0, ⟨a, rfl⟩, _, _, rfl, ⟨b, rfl⟩, rfl⟩ := hx
  obtain ⟨_, _, h1, ⟨a', rfl⟩, _, _, rfl, ⟨b', rfl⟩, rfl⟩ := hy
  obtain rfl := arr_of_toList h0
  obtain rfl := arr_of_toList h1
  have hr := cells_iff (by simp) hr
  have hr2 : r = ((a == a') && ((b == b') && true)) := by
    rw [Bool.eq_iff_iff, hr]
    simp
  have ht : tiOf T 4 = some _ := rfl
  constructor
  · rw [hr2]
    refine eqi_of (n := 2) (e := 4) (c := 1) (by kernel_rfl) (by kernel_rfl) (by kernel_rfl) ?_
    show (Op.eqItems 9999 _ _ _ _ [0, 1]).run _ w = _
    exact eqi_cons (part_cell tok ht rfl rfl w) (part_cell tok ht rfl rfl w) (eq_bool tok ht rfl _ _ _ w) <|
      eqi_cons (part_cell tok ht rfl rfl w) (part_cell tok ht rfl rfl w) (eq_bool tok ht rfl _ _ _ w) eqi_nil
  · intro op x y
    exact run_eqGuard_agg w op 51 x y _ _ (by kernel_rfl)
theorem strEq_t {a b : Str} (h : ((sb a).data.toList == (sb b).data.toList) = true) : a = b := by have : (a == b) = true := h; simpa using this
theorem strEq_f {a b : Str} (h : ((sb a).data.toList == (sb b).data.toList) = false) : a ≠ b := by have : (a == b) = false := h; simpa using this
/-- How a node is wrong. -/
def nodeE (k : Int) (w o : Str) (n : Int) (hl hr : Bool) : Int :=
  if k = 2 ∨ k = 3 then (if o = [] ∧ n = 0 ∧ w = [] ∧ hl = true ∧ hr = true then 0 else 11)
  else if k = 1 then (if o = [] ∧ n = 0 ∧ w = [] ∧ hl = true ∧ hr = false then 0 else 11)
  else if k = 6 ∨ k = 7 then (if o = [] ∧ n = 0 ∧ w = [] ∧ hl = false ∧ hr = false then 0 else 11)
  else if k = 5 then (if o = [] ∧ n = 0 ∧ hl = false ∧ hr = false then (if flagsL.contains w then 0 else 21) else 11)
  else if k = 4 then (if hl = false ∧ hr = false then (if numbersL.contains w then (if opsL.contains o then (if n < 0 then 10 else 0) else 22) else 21) else 11)
  else 11
theorem node_2 (w o : Str) (n : Int) (l r : Ex) : ACall Tryd.prog 49 [(Ex.nd 2 w o n l r).av] [] fun r0 H => r0 = .ret (.i .i64 (nodeE 2 w o n (!l.isNil) (!r.isNil))) ∧ H = [] := by
  cases o with
  | cons c o =>
    refine ACall.gh ?_
    refine ACall.enter tok false Tryd.func49 rfl rfl rfl (AW_sound (ip := false) tok _ _ _ _ ?_)
    conv => whnf
    repeat (first
      | (refine ⟨by decide, ?_⟩; conv => whnf)
      | (refine ⟨flatPair, ?_⟩; conv => whnf))
    refine ADraw.of tok mixed false [0, 1, 2, 3, 4, 5, 6, 7, 8, 9, 10, 11, 12, 13, 14, 15, 16, 17] [] (by kernel_rfl) (fun _ _ _ _ h => h) ?_
    conv => whnf
    repeat (first
      | (refine ⟨by decide, ?_⟩; conv => whnf)
      | (refine ⟨flatPair, ?_⟩; conv => whnf))
    exact GhR.sel [] rfl (GhR.of ⟨congrArg (fun z => ARes.ret (AV.i IntKind.i64 z)) (by simp [nodeE]), rfl⟩)
  | nil =>
    cases hn : (n == 0) with
    | false =>
      have hn' : n ≠ 0 := by simpa using hn
      refine ACall.gh ?_
      refine ACall.enter tok false Tryd.func49 rfl rfl rfl (AW_sound (ip := false) tok _ _ _ _ ?_)
      conv => whnf
      repeat (first
        | (refine ⟨by decide, ?_⟩; conv => whnf)
        | (refine ⟨flatPair, ?_⟩; conv => whnf)
        | (refine acond_f (hn) ?_; conv => whnf))
      refine ADraw.of tok mixed false [0, 1, 2, 3, 4, 5, 6, 7, 8, 9, 10, 11, 12, 13, 14, 15, 16, 17] [] (by kernel_rfl) (fun _ _ _ _ h => h) ?_
      conv => whnf
      repeat (first
        | (refine ⟨by decide, ?_⟩; conv => whnf)
        | (refine ⟨flatPair, ?_⟩; conv => whnf)
        | (refine acond_f (hn) ?_; conv => whnf))
      exact GhR.sel [] rfl (GhR.of ⟨congrArg (fun z => ARes.ret (AV.i IntKind.i64 z)) (by simp [nodeE, hn']), rfl⟩)
    | true =>
      have hn' : n = 0 := by simpa using hn
      cases w with
      | cons c w =>
        refine ACall.gh ?_
        refine ACall.enter tok false Tryd.func49 rfl rfl rfl (AW_sound (ip := false) tok _ _ _ _ ?_)
        conv => whnf
        repeat (first
          | (refine ⟨by decide, ?_⟩; conv => whnf)
          | (refine ⟨flatPair, ?_⟩; conv => whnf)
          | (refine acond_t (hn) ?_; conv => whnf))
        refine ADraw.of tok mixed false [0, 1, 2, 3, 4, 5, 6, 7, 8, 9, 10, 11, 12, 13, 14, 15, 16, 17] [] (by kernel_rfl) (fun _ _ _ _ h => h) ?_
        conv => whnf
        repeat (first
          | (refine ⟨by decide, ?_⟩; conv => whnf)
          | (refine ⟨flatPair, ?_⟩; conv => whnf)
          | (refine acond_t (hn) ?_; conv => whnf))
        exact GhR.sel [] rfl (GhR.of ⟨congrArg (fun z => ARes.ret (AV.i IntKind.i64 z)) (by simp [nodeE]), rfl⟩)
      | nil =>
        cases l <;> cases r
        · refine ACall.gh ?_
          refine ACall.enter tok false Tryd.func49 rfl rfl rfl (AW_sound (ip := false) tok _ _ _ _ ?_)
          conv => whnf
          repeat (first
            | (refine ⟨by decide, ?_⟩; conv => whnf)
            | (refine ⟨flatPair, ?_⟩; conv => whnf)
            | (refine acond_t (hn) ?_; conv => whnf))
          refine ADraw.of tok mixed false [0, 1, 2, 3, 4, 5, 6, 7, 8, 9, 10, 11, 12, 13, 14, 15, 16, 17] [] (by kernel_rfl) (fun _ _ _ _ h => h) ?_
          conv => whnf
          repeat (first
            | (refine ⟨by decide, ?_⟩; conv => whnf)
            | (refine ⟨flatPair, ?_⟩; conv => whnf)
            | (refine acond_t (hn) ?_; conv => whnf))
          exact GhR.sel [] rfl (GhR.of ⟨congrArg (fun z => ARes.ret (AV.i IntKind.i64 z)) (by simp [nodeE, Ex.isNil, hn']), rfl⟩)
        · refine ACall.gh ?_
          refine ACall.enter tok false Tryd.func49 rfl rfl rfl (AW_sound (ip := false) tok _ _ _ _ ?_)
          conv => whnf
          repeat (first
            | (refine ⟨by decide, ?_⟩; conv => whnf)
            | (refine ⟨flatPair, ?_⟩; conv => whnf)
            | (refine acond_t (hn) ?_; conv => whnf))
          refine ADraw.of tok mixed false [0, 1, 2, 3, 4, 5, 6, 7, 8, 9, 10, 11, 12, 13, 14, 15, 16, 17] [] (by kernel_rfl) (fun _ _ _ _ h => h) ?_
          conv => whnf
          repeat (first
            | (refine ⟨by decide, ?_⟩; conv => whnf)
            | (refine ⟨flatPair, ?_⟩; conv => whnf)
            | (refine acond_t (hn) ?_; conv => whnf))
          exact GhR.sel [] rfl (GhR.of ⟨congrArg (fun z => ARes.ret (AV.i IntKind.i64 z)) (by simp [nodeE, Ex.isNil, hn']), rfl⟩)
        · refine ACall.gh ?_
          refine ACall.enter tok false Tryd.func49 rfl rfl rfl (AW_sound (ip := false) tok _ _ _ _ ?_)
          conv => whnf
          repeat (first
            | (refine ⟨by decide, ?_⟩; conv => whnf)
            | (refine ⟨flatPair, ?_⟩; conv => whnf)
            | (refine acond_t (hn) ?_; conv => whnf))
          refine ADraw.of tok mixed false [0, 1, 2, 3, 4, 5, 6, 7, 8, 9, 10, 11, 12, 13, 14, 15, 16, 17] [] (by kernel_rfl) (fun _ _ _ _ h => h) ?_
          conv => whnf
          repeat (first
            | (refine ⟨by decide, ?_⟩; conv => whnf)
            | (refine ⟨flatPair, ?_⟩; conv => whnf)
            | (refine acond_t (hn) ?_; conv => whnf))
          exact GhR.sel [] rfl (GhR.of ⟨congrArg (fun z => ARes.ret (AV.i IntKind.i64 z)) (by simp [nodeE, Ex.isNil, hn']), rfl⟩)
        · refine ACall.gh ?_
          refine ACall.enter tok false Tryd.func49 rfl rfl rfl (AW_sound (ip := false) tok _ _ _ _ ?_)
          conv => whnf
          repeat (first
            | (refine ⟨by decide, ?_⟩; conv => whnf)
            | (refine ⟨flatPair, ?_⟩; conv => whnf)
            | (refine acond_t (hn) ?_; conv => whnf))
          refine ADraw.of tok mixed false [0, 1, 2, 3, 4, 5, 6, 7, 8, 9, 10, 11, 12, 13, 14, 15, 16, 17] [] (by kernel_rfl) (fun _ _ _ _ h => h) ?_
          conv => whnf
          repeat (first
            | (refine ⟨by decide, ?_⟩; conv => whnf)
            | (refine ⟨flatPair, ?_⟩; conv => whnf)
            | (refine acond_t (hn) ?_; conv => whnf))
          refine ADraw.ofS tok mixed false [3, 10] [0, 1, 2, 3, 4, 5, 7, 8, 9, 10] [6, 11, 12, 13, 14] (by kernel_rfl) (fun _ _ _ _ h => h) ?_
          conv => whnf
          repeat (first
            | (refine ⟨by decide, ?_⟩; conv => whnf)
            | (refine ⟨flatPair, ?_⟩; conv => whnf))
          refine ADraw.ofS tok mixed false [3, 10] [0, 1, 2, 3, 4, 5, 7, 8, 9, 10] [6, 11, 12, 13, 14] (by kernel_rfl) (fun _ _ _ _ h => h) ?_
          conv => whnf
          repeat (first
            | (refine ⟨by decide, ?_⟩; conv => whnf)
            | (refine ⟨flatPair, ?_⟩; conv => whnf))
          refine ADraw.ofS tok mixed false [3, 10] [0, 1, 2, 3, 4, 5, 7, 8, 9, 10] [6, 11, 12, 13, 14] (by kernel_rfl) (fun _ _ _ _ h => h) ?_
          conv => whnf
          repeat (first
            | (refine ⟨by decide, ?_⟩; conv => whnf)
            | (refine ⟨flatPair, ?_⟩; conv => whnf))
          exact GhR.sel [] rfl (GhR.of ⟨congrArg (fun z => ARes.ret (AV.i IntKind.i64 z)) (by simp [nodeE, Ex.isNil, hn']), rfl⟩)
theorem node_3 (w o : Str) (n : Int) (l r : Ex) : ACall Tryd.prog 49 [(Ex.nd 3 w o n l r).av] [] fun r0 H => r0 = .ret (.i .i64 (nodeE 3 w o n (!l.isNil) (!r.isNil))) ∧ H = [] := by
  cases o with
  | cons c o =>
    refine ACall.gh ?_
    refine ACall.enter tok false Tryd.func49 rfl rfl rfl (AW_sound (ip := false) tok _ _ _ _ ?_)
    conv => whnf
    repeat (first
      | (refine ⟨by decide, ?_⟩; conv => whnf)
      | (refine ⟨flatPair, ?_⟩; conv => whnf))
    refine ADraw.of tok mixed false [0, 1, 2, 3, 4, 5, 6, 7, 8, 9, 10, 11, 12, 13, 14, 15, 16, 17] [] (by kernel_rfl) (fun _ _ _ _ h => h) ?_
    conv => whnf
    repeat (first
      | (refine ⟨by decide, ?_⟩; conv => whnf)
      | (refine ⟨flatPair, ?_⟩; conv => whnf))
    exact GhR.sel [] rfl (GhR.of ⟨congrArg (fun z => ARes.ret (AV.i IntKind.i64 z)) (by simp [nodeE]), rfl⟩)
  | nil =>
    cases hn : (n == 0) with
    | false =>
      have hn' : n ≠ 0 := by simpa using hn
      refine ACall.gh ?_
      refine ACall.enter tok false Tryd.func49 rfl rfl rfl (AW_sound (ip := false) tok _ _ _ _ ?_)
      conv => whnf
      repeat (first
        | (refine ⟨by decide, ?_⟩; conv => whnf)
        | (refine ⟨flatPair, ?_⟩; conv => whnf)
        | (refine acond_f (hn) ?_; conv => whnf))
      refine ADraw.of tok mixed false [0, 1, 2, 3, 4, 5, 6, 7, 8, 9, 10, 11, 12, 13, 14, 15, 16, 17] [] (by kernel_rfl) (fun _ _ _ _ h => h) ?_
      conv => whnf
      repeat (first
        | (refine ⟨by decide, ?_⟩; conv => whnf)
        | (refine ⟨flatPair, ?_⟩; conv => whnf)
        | (refine acond_f (hn) ?_; conv => whnf))
      exact GhR.sel [] rfl (GhR.of ⟨congrArg (fun z => ARes.ret (AV.i IntKind.i64 z)) (by simp [nodeE, hn']), rfl⟩)
    | true =>
      have hn' : n = 0 := by simpa using hn
      cases w with
      | cons c w =>
        refine ACall.gh ?_
        refine ACall.enter tok false Tryd.func49 rfl rfl rfl (AW_sound (ip := false) tok _ _ _ _ ?_)
        conv => whnf
        repeat (first
          | (refine ⟨by decide, ?_⟩; conv => whnf)
          | (refine ⟨flatPair, ?_⟩; conv => whnf)
          | (refine acond_t (hn) ?_; conv => whnf))
        refine ADraw.of tok mixed false [0, 1, 2, 3, 4, 5, 6, 7, 8, 9, 10, 11, 12, 13, 14, 15, 16, 17] [] (by kernel_rfl) (fun _ _ _ _ h => h) ?_
        conv => whnf
        repeat (first
          | (refine ⟨by decide, ?_⟩; conv => whnf)
          | (refine ⟨flatPair, ?_⟩; conv => whnf)
          | (refine acond_t (hn) ?_; conv => whnf))
        exact GhR.sel [] rfl (GhR.of ⟨congrArg (fun z => ARes.ret (AV.i IntKind.i64 z)) (by simp [nodeE]), rfl⟩)
      | nil =>
        cases l <;> cases r
        · refine ACall.gh ?_
          refine ACall.enter tok false Tryd.func49 rfl rfl rfl (AW_sound (ip := false) tok _ _ _ _ ?_)
          conv => whnf
          repeat (first
            | (refine ⟨by decide, ?_⟩; conv => whnf)
            | (refine ⟨flatPair, ?_⟩; conv => whnf)
            | (refine acond_t (hn) ?_; conv => whnf))
          refine ADraw.of tok mixed false [0, 1, 2, 3, 4, 5, 6, 7, 8, 9, 10, 11, 12, 13, 14, 15, 16, 17] [] (by kernel_rfl) (fun _ _ _ _ h => h) ?_
          conv => whnf
          repeat (first
            | (refine ⟨by decide, ?_⟩; conv => whnf)
            | (refine ⟨flatPair, ?_⟩; conv => whnf)
            | (refine acond_t (hn) ?_; conv => whnf))
          exact GhR.sel [] rfl (GhR.of ⟨congrArg (fun z => ARes.ret (AV.i IntKind.i64 z)) (by simp [nodeE, Ex.isNil, hn']), rfl⟩)
        · refine ACall.gh ?_
          refine ACall.enter tok false Tryd.func49 rfl rfl rfl (AW_sound (ip := false) tok _ _ _ _ ?_)
          conv => whnf
          repeat (first
            | (refine ⟨by decide, ?_⟩; conv => whnf)
            | (refine ⟨flatPair, ?_⟩; conv => whnf)
            | (refine acond_t (hn) ?_; conv => whnf))
          refine ADraw.of tok mixed false [0, 1, 2, 3, 4, 5, 6, 7, 8, 9, 10, 11, 12, 13, 14, 15, 16, 17] [] (by kernel_rfl) (fun _ _ _ _ h => h) ?_
          conv => whnf
          repeat (first
            | (refine ⟨by decide, ?_⟩; conv => whnf)
            | (refine ⟨flatPair, ?_⟩; conv => whnf)
            | (refine acond_t (hn) ?_; conv => whnf))
          exact GhR.sel [] rfl (GhR.of ⟨congrArg (fun z => ARes.ret (AV.i IntKind.i64 z)) (by simp [nodeE, Ex.isNil, hn']), rfl⟩)
        · refine ACall.gh ?_
          refine ACall.enter tok false Tryd.func49 rfl rfl rfl (AW_sound (ip := false) tok _ _ _ _ ?_)
          conv => whnf
          repeat (first
            | (refine ⟨by decide, ?_⟩; conv => whnf)
            | (refine ⟨flatPair, ?_⟩; conv => whnf)
            | (refine acond_t (hn) ?_; conv => whnf))
          refine ADraw.of tok mixed false [0, 1, 2, 3, 4, 5, 6, 7, 8, 9, 10, 11, 12, 13, 14, 15, 16, 17] [] (by kernel_rfl) (fun _ _ _ _ h => h) ?_
          conv => whnf
          repeat (first
            | (refine ⟨by decide, ?_⟩; conv => whnf)
            | (refine ⟨flatPair, ?_⟩; conv => whnf)
            | (refine acond_t (hn) ?_; conv => whnf))
          exact GhR.sel [] rfl (GhR.of ⟨congrArg (fun z => ARes.ret (AV.i IntKind.i64 z)) (by simp [nodeE, Ex.isNil, hn']), rfl⟩)
        · refine ACall.gh ?_
          refine ACall.enter tok false Tryd.func49 rfl rfl rfl (AW_sound (ip := false) tok _ _ _ _ ?_)
          conv => whnf
          repeat (first
            | (refine ⟨by decide, ?_⟩; conv => whnf)
            | (refine ⟨flatPair, ?_⟩; conv => whnf)
            | (refine acond_t (hn) ?_; conv => whnf))
          refine ADraw.of tok mixed false [0, 1, 2, 3, 4, 5, 6, 7, 8, 9, 10, 11, 12, 13, 14, 15, 16, 17] [] (by kernel_rfl) (fun _ _ _ _ h => h) ?_
          conv => whnf
          repeat (first
            | (refine ⟨by decide, ?_⟩; conv => whnf)
            | (refine ⟨flatPair, ?_⟩; conv => whnf)
            | (refine acond_t (hn) ?_; conv => whnf))
          refine ADraw.ofS tok mixed false [3, 10] [0, 1, 2, 3, 4, 5, 7, 8, 9, 10] [6, 11, 12, 13, 14] (by kernel_rfl) (fun _ _ _ _ h => h) ?_
          conv => whnf
          repeat (first
            | (refine ⟨by decide, ?_⟩; conv => whnf)
            | (refine ⟨flatPair, ?_⟩; conv => whnf))
          refine ADraw.ofS tok mixed false [3, 10] [0, 1, 2, 3, 4, 5, 7, 8, 9, 10] [6, 11, 12, 13, 14] (by kernel_rfl) (fun _ _ _ _ h => h) ?_
          conv => whnf
          repeat (first
            | (refine ⟨by decide, ?_⟩; conv => whnf)
            | (refine ⟨flatPair, ?_⟩; conv => whnf))
          refine ADraw.ofS tok mixed false [3, 10] [0, 1, 2, 3, 4, 5, 7, 8, 9, 10] [6, 11, 12, 13, 14] (by kernel_rfl) (fun _ _ _ _ h => h) ?_
          conv => whnf
          repeat (first
            | (refine ⟨by decide, ?_⟩; conv => whnf)
            | (refine ⟨flatPair, ?_⟩; conv => whnf))
          exact GhR.sel [] rfl (GhR.of ⟨congrArg (fun z => ARes.ret (AV.i IntKind.i64 z)) (by simp [nodeE, Ex.isNil, hn']), rfl⟩)
theorem node_1 (w o : Str) (n : Int) (l r : Ex) : ACall Tryd.prog 49 [(Ex.nd 1 w o n l r).av] [] fun r0 H => r0 = .ret (.i .i64 (nodeE 1 w o n (!l.isNil) (!r.isNil))) ∧ H = [] := by
  cases o with
  | cons c o =>
    refine ACall.gh ?_
    refine ACall.enter tok false Tryd.func49 rfl rfl rfl (AW_sound (ip := false) tok _ _ _ _ ?_)
    conv => whnf
    repeat (first
      | (refine ⟨by decide, ?_⟩; conv => whnf)
      | (refine ⟨flatPair, ?_⟩; conv => whnf))
    refine ADraw.of tok mixed false [0, 1, 2, 3, 4, 5, 6, 7, 8, 9, 10, 11, 12, 13, 14, 15, 16, 17] [] (by kernel_rfl) (fun _ _ _ _ h => h) ?_
    conv => whnf
    repeat (first
      | (refine ⟨by decide, ?_⟩; conv => whnf)
      | (refine ⟨flatPair, ?_⟩; conv => whnf))
    exact GhR.sel [] rfl (GhR.of ⟨congrArg (fun z => ARes.ret (AV.i IntKind.i64 z)) (by simp [nodeE]), rfl⟩)
  | nil =>
    cases hn : (n == 0) with
    | false =>
      have hn' : n ≠ 0 := by simpa using hn
      refine ACall.gh ?_
      refine ACall.enter tok false Tryd.func49 rfl rfl rfl (AW_sound (ip := false) tok _ _ _ _ ?_)
      conv => whnf
      repeat (first
        | (refine ⟨by decide, ?_⟩; conv => whnf)
        | (refine ⟨flatPair, ?_⟩; conv => whnf)
        | (refine acond_f (hn) ?_; conv => whnf))
      refine ADraw.of tok mixed false [0, 1, 2, 3, 4, 5, 6, 7, 8, 9, 10, 11, 12, 13, 14, 15, 16, 17] [] (by kernel_rfl) (fun _ _ _ _ h => h) ?_
      conv => whnf
      repeat (first
        | (refine ⟨by decide, ?_⟩; conv => whnf)
        | (refine ⟨flatPair, ?_⟩; conv => whnf)
        | (refine acond_f (hn) ?_; conv => whnf))
      exact GhR.sel [] rfl (GhR.of ⟨congrArg (fun z => ARes.ret (AV.i IntKind.i64 z)) (by simp [nodeE, hn']), rfl⟩)
    | true =>
      have hn' : n = 0 := by simpa using hn
      cases w with
      | cons c w =>
        refine ACall.gh ?_
        refine ACall.enter tok false Tryd.func49 rfl rfl rfl (AW_sound (ip := false) tok _ _ _ _ ?_)
        conv => whnf
        repeat (first
          | (refine ⟨by decide, ?_⟩; conv => whnf)
          | (refine ⟨flatPair, ?_⟩; conv => whnf)
          | (refine acond_t (hn) ?_; conv => whnf))
        refine ADraw.of tok mixed false [0, 1, 2, 3, 4, 5, 6, 7, 8, 9, 10, 11, 12, 13, 14, 15, 16, 17] [] (by kernel_rfl) (fun _ _ _ _ h => h) ?_
        conv => whnf
        repeat (first
          | (refine ⟨by decide, ?_⟩; conv => whnf)
          | (refine ⟨flatPair, ?_⟩; conv => whnf)
          | (refine acond_t (hn) ?_; conv => whnf))
        exact GhR.sel [] rfl (GhR.of ⟨congrArg (fun z => ARes.ret (AV.i IntKind.i64 z)) (by simp [nodeE]), rfl⟩)
      | nil =>
        cases l <;> cases r
        · refine ACall.gh ?_
          refine ACall.enter tok false Tryd.func49 rfl rfl rfl (AW_sound (ip := false) tok _ _ _ _ ?_)
          conv => whnf
          repeat (first
            | (refine ⟨by decide, ?_⟩; conv => whnf)
            | (refine ⟨flatPair, ?_⟩; conv => whnf)
            | (refine acond_t (hn) ?_; conv => whnf))
          refine ADraw.of tok mixed false [0, 1, 2, 3, 4, 5, 6, 7, 8, 9, 10, 11, 12, 13, 14, 15, 16, 17] [] (by kernel_rfl) (fun _ _ _ _ h => h) ?_
          conv => whnf
          repeat (first
            | (refine ⟨by decide, ?_⟩; conv => whnf)
            | (refine ⟨flatPair, ?_⟩; conv => whnf)
            | (refine acond_t (hn) ?_; conv => whnf))
          exact GhR.sel [] rfl (GhR.of ⟨congrArg (fun z => ARes.ret (AV.i IntKind.i64 z)) (by simp [nodeE, Ex.isNil, hn']), rfl⟩)
        · refine ACall.gh ?_
          refine ACall.enter tok false Tryd.func49 rfl rfl rfl (AW_sound (ip := false) tok _ _ _ _ ?_)
          conv => whnf
          repeat (first
            | (refine ⟨by decide, ?_⟩; conv => whnf)
            | (refine ⟨flatPair, ?_⟩; conv => whnf)
            | (refine acond_t (hn) ?_; conv => whnf))
          refine ADraw.of tok mixed false [0, 1, 2, 3, 4, 5, 6, 7, 8, 9, 10, 11, 12, 13, 14, 15, 16, 17] [] (by kernel_rfl) (fun _ _ _ _ h => h) ?_
          conv => whnf
          repeat (first
            | (refine ⟨by decide, ?_⟩; conv => whnf)
            | (refine ⟨flatPair, ?_⟩; conv => whnf)
            | (refine acond_t (hn) ?_; conv => whnf))
          exact GhR.sel [] rfl (GhR.of ⟨congrArg (fun z => ARes.ret (AV.i IntKind.i64 z)) (by simp [nodeE, Ex.isNil, hn']), rfl⟩)
        · refine ACall.gh ?_
          refine ACall.enter tok false Tryd.func49 rfl rfl rfl (AW_sound (ip := false) tok _ _ _ _ ?_)
          conv => whnf
          repeat (first
            | (refine ⟨by decide, ?_⟩; conv => whnf)
            | (refine ⟨flatPair, ?_⟩; conv => whnf)
            | (refine acond_t (hn) ?_; conv => whnf))
          refine ADraw.of tok mixed false [0, 1, 2, 3, 4, 5, 6, 7, 8, 9, 10, 11, 12, 13, 14, 15, 16, 17] [] (by kernel_rfl) (fun _ _ _ _ h => h) ?_
          conv => whnf
          repeat (first
            | (refine ⟨by decide, ?_⟩; conv => whnf)
            | (refine ⟨flatPair, ?_⟩; conv => whnf)
            | (refine acond_t (hn) ?_; conv => whnf))
          refine ADraw.ofS tok mixed false [3, 10] [0, 1, 2, 3, 4, 5, 7, 8, 9, 10] [6, 11, 12, 13, 14] (by kernel_rfl) (fun _ _ _ _ h => h) ?_
          conv => whnf
          repeat (first
            | (refine ⟨by decide, ?_⟩; conv => whnf)
            | (refine ⟨flatPair, ?_⟩; conv => whnf))
          refine ADraw.ofS tok mixed false [3, 10] [0, 1, 2, 3, 4, 5, 7, 8, 9, 10] [6, 11, 12, 13, 14] (by kernel_rfl) (fun _ _ _ _ h => h) ?_
          conv => whnf
          repeat (first
            | (refine ⟨by decide, ?_⟩; conv => whnf)
            | (refine ⟨flatPair, ?_⟩; conv => whnf))
          refine ADraw.ofS tok mixed false [3, 10] [0, 1, 2, 3, 4, 5, 7, 8, 9, 10] [6, 11, 12, 13, 14] (by kernel_rfl) (fun _ _ _ _ h => h) ?_
          conv => whnf
          repeat (first
            | (refine ⟨by decide, ?_⟩; conv => whnf)
            | (refine ⟨flatPair, ?_⟩; conv => whnf))
          exact GhR.sel [] rfl (GhR.of ⟨congrArg (fun z => ARes.ret (AV.i IntKind.i64 z)) (by simp [nodeE, Ex.isNil, hn']), rfl⟩)
        · refine ACall.gh ?_
          refine ACall.enter tok false Tryd.func49 rfl rfl rfl (AW_sound (ip := false) tok _ _ _ _ ?_)
          conv => whnf
          repeat (first
            | (refine ⟨by decide, ?_⟩; conv => whnf)
            | (refine ⟨flatPair, ?_⟩; conv => whnf)
            | (refine acond_t (hn) ?_; conv => whnf))
          refine ADraw.of tok mixed false [0, 1, 2, 3, 4, 5, 6, 7, 8, 9, 10, 11, 12, 13, 14, 15, 16, 17] [] (by kernel_rfl) (fun _ _ _ _ h => h) ?_
          conv => whnf
          repeat (first
            | (refine ⟨by decide, ?_⟩; conv => whnf)
            | (refine ⟨flatPair, ?_⟩; conv => whnf)
            | (refine acond_t (hn) ?_; conv => whnf))
          exact GhR.sel [] rfl (GhR.of ⟨congrArg (fun z => ARes.ret (AV.i IntKind.i64 z)) (by simp [nodeE, Ex.isNil, hn']), rfl⟩)
theorem node_6 (w o : Str) (n : Int) (l r : Ex) : ACall Tryd.prog 49 [(Ex.nd 6 w o n l r).av] [] fun r0 H => r0 = .ret (.i .i64 (nodeE 6 w o n (!l.isNil) (!r.isNil))) ∧ H = [] := by
  cases o with
  | cons c o =>
    refine ACall.gh ?_
    refine ACall.enter tok false Tryd.func49 rfl rfl rfl (AW_sound (ip := false) tok _ _ _ _ ?_)
    conv => whnf
    repeat (first
      | (refine ⟨by decide, ?_⟩; conv => whnf)
      | (refine ⟨flatPair, ?_⟩; conv => whnf))
    refine ADraw.of tok mixed false [0, 1, 2, 3, 4, 5, 6, 7, 8, 9, 10, 11, 12, 13, 14, 15, 16, 17] [] (by kernel_rfl) (fun _ _ _ _ h => h) ?_
    conv => whnf
    repeat (first
      | (refine ⟨by decide, ?_⟩; conv => whnf)
      | (refine ⟨flatPair, ?_⟩; conv => whnf))
    exact GhR.sel [] rfl (GhR.of ⟨congrArg (fun z => ARes.ret (AV.i IntKind.i64 z)) (by simp [nodeE]), rfl⟩)
  | nil =>
    cases hn : (n == 0) with
    | false =>
      have hn' : n ≠ 0 := by simpa using hn
      refine ACall.gh ?_
      refine ACall.enter tok false Tryd.func49 rfl rfl rfl (AW_sound (ip := false) tok _ _ _ _ ?_)
      conv => whnf
      repeat (first
        | (refine ⟨by decide, ?_⟩; conv => whnf)
        | (refine ⟨flatPair, ?_⟩; conv => whnf)
        | (refine acond_f (hn) ?_; conv => whnf))
      refine ADraw.of tok mixed false [0, 1, 2, 3, 4, 5, 6, 7, 8, 9, 10, 11, 12, 13, 14, 15, 16, 17] [] (by kernel_rfl) (fun _ _ _ _ h => h) ?_
      conv => whnf
      repeat (first
        | (refine ⟨by decide, ?_⟩; conv => whnf)
        | (refine ⟨flatPair, ?_⟩; conv => whnf)
        | (refine acond_f (hn) ?_; conv => whnf))
      exact GhR.sel [] rfl (GhR.of ⟨congrArg (fun z => ARes.ret (AV.i IntKind.i64 z)) (by simp [nodeE, hn']), rfl⟩)
    | true =>
      have hn' : n = 0 := by simpa using hn
      cases w with
      | cons c w =>
        refine ACall.gh ?_
        refine ACall.enter tok false Tryd.func49 rfl rfl rfl (AW_sound (ip := false) tok _ _ _ _ ?_)
        conv => whnf
        repeat (first
          | (refine ⟨by decide, ?_⟩; conv => whnf)
          | (refine ⟨flatPair, ?_⟩; conv => whnf)
          | (refine acond_t (hn) ?_; conv => whnf))
        refine ADraw.of tok mixed false [0, 1, 2, 3, 4, 5, 6, 7, 8, 9, 10, 11, 12, 13, 14, 15, 16, 17] [] (by kernel_rfl) (fun _ _ _ _ h => h) ?_
        conv => whnf
        repeat (first
          | (refine ⟨by decide, ?_⟩; conv => whnf)
          | (refine ⟨flatPair, ?_⟩; conv => whnf)
          | (refine acond_t (hn) ?_; conv => whnf))
        exact GhR.sel [] rfl (GhR.of ⟨congrArg (fun z => ARes.ret (AV.i IntKind.i64 z)) (by simp [nodeE]), rfl⟩)
      | nil =>
        cases l <;> cases r
        · refine ACall.gh ?_
          refine ACall.enter tok false Tryd.func49 rfl rfl rfl (AW_sound (ip := false) tok _ _ _ _ ?_)
          conv => whnf
          repeat (first
            | (refine ⟨by decide, ?_⟩; conv => whnf)
            | (refine ⟨flatPair, ?_⟩; conv => whnf)
            | (refine acond_t (hn) ?_; conv => whnf))
          refine ADraw.of tok mixed false [0, 1, 2, 3, 4, 5, 6, 7, 8, 9, 10, 11, 12, 13, 14, 15, 16, 17] [] (by kernel_rfl) (fun _ _ _ _ h => h) ?_
          conv => whnf
          repeat (first
            | (refine ⟨by decide, ?_⟩; conv => whnf)
            | (refine ⟨flatPair, ?_⟩; conv => whnf)
            | (refine acond_t (hn) ?_; conv => whnf))
          refine ADraw.ofS tok mixed false [3, 10] [0, 1, 2, 3, 4, 5, 7, 8, 9, 10] [6, 11, 12, 13, 14] (by kernel_rfl) (fun _ _ _ _ h => h) ?_
          conv => whnf
          repeat (first
            | (refine ⟨by decide, ?_⟩; conv => whnf)
            | (refine ⟨flatPair, ?_⟩; conv => whnf))
          refine ADraw.ofS tok mixed false [3, 10] [0, 1, 2, 3, 4, 5, 7, 8, 9, 10] [6, 11, 12, 13, 14] (by kernel_rfl) (fun _ _ _ _ h => h) ?_
          conv => whnf
          repeat (first
            | (refine ⟨by decide, ?_⟩; conv => whnf)
            | (refine ⟨flatPair, ?_⟩; conv => whnf))
          refine ADraw.ofS tok mixed false [3, 10] [0, 1, 2, 3, 4, 5, 7, 8, 9, 10] [6, 11, 12, 13, 14] (by kernel_rfl) (fun _ _ _ _ h => h) ?_
          conv => whnf
          repeat (first
            | (refine ⟨by decide, ?_⟩; conv => whnf)
            | (refine ⟨flatPair, ?_⟩; conv => whnf))
          exact GhR.sel [] rfl (GhR.of ⟨congrArg (fun z => ARes.ret (AV.i IntKind.i64 z)) (by simp [nodeE, Ex.isNil, hn']), rfl⟩)
        · refine ACall.gh ?_
          refine ACall.enter tok false Tryd.func49 rfl rfl rfl (AW_sound (ip := false) tok _ _ _ _ ?_)
          conv => whnf
          repeat (first
            | (refine ⟨by decide, ?_⟩; conv => whnf)
            | (refine ⟨flatPair, ?_⟩; conv => whnf)
            | (refine acond_t (hn) ?_; conv => whnf))
          refine ADraw.of tok mixed false [0, 1, 2, 3, 4, 5, 6, 7, 8, 9, 10, 11, 12, 13, 14, 15, 16, 17] [] (by kernel_rfl) (fun _ _ _ _ h => h) ?_
          conv => whnf
          repeat (first
            | (refine ⟨by decide, ?_⟩; conv => whnf)
            | (refine ⟨flatPair, ?_⟩; conv => whnf)
            | (refine acond_t (hn) ?_; conv => whnf))
          exact GhR.sel [] rfl (GhR.of ⟨congrArg (fun z => ARes.ret (AV.i IntKind.i64 z)) (by simp [nodeE, Ex.isNil, hn']), rfl⟩)
        · refine ACall.gh ?_
          refine ACall.enter tok false Tryd.func49 rfl rfl rfl (AW_sound (ip := false) tok _ _ _ _ ?_)
          conv => whnf
          repeat (first
            | (refine ⟨by decide, ?_⟩; conv => whnf)
            | (refine ⟨flatPair, ?_⟩; conv => whnf)
            | (refine acond_t (hn) ?_; conv => whnf))
          refine ADraw.of tok mixed false [0, 1, 2, 3, 4, 5, 6, 7, 8, 9, 10, 11, 12, 13, 14, 15, 16, 17] [] (by kernel_rfl) (fun _ _ _ _ h => h) ?_
          conv => whnf
          repeat (first
            | (refine ⟨by decide, ?_⟩; conv => whnf)
            | (refine ⟨flatPair, ?_⟩; conv => whnf)
            | (refine acond_t (hn) ?_; conv => whnf))
          exact GhR.sel [] rfl (GhR.of ⟨congrArg (fun z => ARes.ret (AV.i IntKind.i64 z)) (by simp [nodeE, Ex.isNil, hn']), rfl⟩)
        · refine ACall.gh ?_
          refine ACall.enter tok false Tryd.func49 rfl rfl rfl (AW_sound (ip := false) tok _ _ _ _ ?_)
          conv => whnf
          repeat (first
            | (refine ⟨by decide, ?_⟩; conv => whnf)
            | (refine ⟨flatPair, ?_⟩; conv => whnf)
            | (refine acond_t (hn) ?_; conv => whnf))
          refine ADraw.of tok mixed false [0, 1, 2, 3, 4, 5, 6, 7, 8, 9, 10, 11, 12, 13, 14, 15, 16, 17] [] (by kernel_rfl) (fun _ _ _ _ h => h) ?_
          conv => whnf
          repeat (first
            | (refine ⟨by decide, ?_⟩; conv => whnf)
            | (refine ⟨flatPair, ?_⟩; conv => whnf)
            | (refine acond_t (hn) ?_; conv => whnf))
          exact GhR.sel [] rfl (GhR.of ⟨congrArg (fun z => ARes.ret (AV.i IntKind.i64 z)) (by simp [nodeE, Ex.isNil, hn']), rfl⟩)
theorem node_7 (w o : Str) (n : Int) (l r : Ex) : ACall Tryd.prog 49 [(Ex.nd 7 w o n l r).av] [] fun r0 H => r0 = .ret (.i .i64 (nodeE 7 w o n (!l.isNil) (!r.isNil))) ∧ H = [] := by
  cases o with
  | cons c o =>
    refine ACall.gh ?_
    refine ACall.enter tok false Tryd.func49 rfl rfl rfl (AW_sound (ip := false) tok _ _ _ _ ?_)
    conv => whnf
    repeat (first
      | (refine ⟨by decide, ?_⟩; conv => whnf)
      | (refine ⟨flatPair, ?_⟩; conv => whnf))
    refine ADraw.of tok mixed false [0, 1, 2, 3, 4, 5, 6, 7, 8, 9, 10, 11, 12, 13, 14, 15, 16, 17] [] (by kernel_rfl) (fun _ _ _ _ h => h) ?_
    conv => whnf
    repeat (first
      | (refine ⟨by decide, ?_⟩; conv => whnf)
      | (refine ⟨flatPair, ?_⟩; conv => whnf))
    exact GhR.sel [] rfl (GhR.of ⟨congrArg (fun z => ARes.ret (AV.i IntKind.i64 z)) (by simp [nodeE]), rfl⟩)
  | nil =>
    cases hn : (n == 0) with
    | false =>
      have hn' : n ≠ 0 := by simpa using hn
      refine ACall.gh ?_
      refine ACall.enter tok false Tryd.func49 rfl rfl rfl (AW_sound (ip := false) tok _ _ _ _ ?_)
      conv => whnf
      repeat (first
        | (refine ⟨by decide, ?_⟩; conv => whnf)
        | (refine ⟨flatPair, ?_⟩; conv => whnf)
        | (refine acond_f (hn) ?_; conv => whnf))
      refine ADraw.of tok mixed false [0, 1, 2, 3, 4, 5, 6, 7, 8, 9, 10, 11, 12, 13, 14, 15, 16, 17] [] (by kernel_rfl) (fun _ _ _ _ h => h) ?_
      conv => whnf
      repeat (first
        | (refine ⟨by decide, ?_⟩; conv => whnf)
        | (refine ⟨flatPair, ?_⟩; conv => whnf)
        | (refine acond_f (hn) ?_; conv => whnf))
      exact GhR.sel [] rfl (GhR.of ⟨congrArg (fun z => ARes.ret (AV.i IntKind.i64 z)) (by simp [nodeE, hn']), rfl⟩)
    | true =>
      have hn' : n = 0 := by simpa using hn
      cases w with
      | cons c w =>
        refine ACall.gh ?_
        refine ACall.enter tok false Tryd.func49 rfl rfl rfl (AW_sound (ip := false) tok _ _ _ _ ?_)
        conv => whnf
        repeat (first
          | (refine ⟨by decide, ?_⟩; conv => whnf)
          | (refine ⟨flatPair, ?_⟩; conv => whnf)
          | (refine acond_t (hn) ?_; conv => whnf))
        refine ADraw.of tok mixed false [0, 1, 2, 3, 4, 5, 6, 7, 8, 9, 10, 11, 12, 13, 14, 15, 16, 17] [] (by kernel_rfl) (fun _ _ _ _ h => h) ?_
        conv => whnf
        repeat (first
          | (refine ⟨by decide, ?_⟩; conv => whnf)
          | (refine ⟨flatPair, ?_⟩; conv => whnf)
          | (refine acond_t (hn) ?_; conv => whnf))
        exact GhR.sel [] rfl (GhR.of ⟨congrArg (fun z => ARes.ret (AV.i IntKind.i64 z)) (by simp [nodeE]), rfl⟩)
      | nil =>
        cases l <;> cases r
        · refine ACall.gh ?_
          refine ACall.enter tok false Tryd.func49 rfl rfl rfl (AW_sound (ip := false) tok _ _ _ _ ?_)
          conv => whnf
          repeat (first
            | (refine ⟨by decide, ?_⟩; conv => whnf)
            | (refine ⟨flatPair, ?_⟩; conv => whnf)
            | (refine acond_t (hn) ?_; conv => whnf))
          refine ADraw.of tok mixed false [0, 1, 2, 3, 4, 5, 6, 7, 8, 9, 10, 11, 12, 13, 14, 15, 16, 17] [] (by kernel_rfl) (fun _ _ _ _ h => h) ?_
          conv => whnf
          repeat (first
            | (refine ⟨by decide, ?_⟩; conv => whnf)
            | (refine ⟨flatPair, ?_⟩; conv => whnf)
            | (refine acond_t (hn) ?_; conv => whnf))
          refine ADraw.ofS tok mixed false [3, 10] [0, 1, 2, 3, 4, 5, 7, 8, 9, 10] [6, 11, 12, 13, 14] (by kernel_rfl) (fun _ _ _ _ h => h) ?_
          conv => whnf
          repeat (first
            | (refine ⟨by decide, ?_⟩; conv => whnf)
            | (refine ⟨flatPair, ?_⟩; conv => whnf))
          refine ADraw.ofS tok mixed false [3, 10] [0, 1, 2, 3, 4, 5, 7, 8, 9, 10] [6, 11, 12, 13, 14] (by kernel_rfl) (fun _ _ _ _ h => h) ?_
          conv => whnf
          repeat (first
            | (refine ⟨by decide, ?_⟩; conv => whnf)
            | (refine ⟨flatPair, ?_⟩; conv => whnf))
          refine ADraw.ofS tok mixed false [3, 10] [0, 1, 2, 3, 4, 5, 7, 8, 9, 10] [6, 11, 12, 13, 14] (by kernel_rfl) (fun _ _ _ _ h => h) ?_
          conv => whnf
          repeat (first
            | (refine ⟨by decide, ?_⟩; conv => whnf)
            | (refine ⟨flatPair, ?_⟩; conv => whnf))
          exact GhR.sel [] rfl (GhR.of ⟨congrArg (fun z => ARes.ret (AV.i IntKind.i64 z)) (by simp [nodeE, Ex.isNil, hn']), rfl⟩)
        · refine ACall.gh ?_
          refine ACall.enter tok false Tryd.func49 rfl rfl rfl (AW_sound (ip := false) tok _ _ _ _ ?_)
          conv => whnf
          repeat (first
            | (refine ⟨by decide, ?_⟩; conv => whnf)
            | (refine ⟨flatPair, ?_⟩; conv => whnf)
            | (refine acond_t (hn) ?_; conv => whnf))
          refine ADraw.of tok mixed false [0, 1, 2, 3, 4, 5, 6, 7, 8, 9, 10, 11, 12, 13, 14, 15, 16, 17] [] (by kernel_rfl) (fun _ _ _ _ h => h) ?_
          conv => whnf
          repeat (first
            | (refine ⟨by decide, ?_⟩; conv => whnf)
            | (refine ⟨flatPair, ?_⟩; conv => whnf)
            | (refine acond_t (hn) ?_; conv => whnf))
          exact GhR.sel [] rfl (GhR.of ⟨congrArg (fun z => ARes.ret (AV.i IntKind.i64 z)) (by simp [nodeE, Ex.isNil, hn']), rfl⟩)
        · refine ACall.gh ?_
          refine ACall.enter tok false Tryd.func49 rfl rfl rfl (AW_sound (ip := false) tok _ _ _ _ ?_)
          conv => whnf
          repeat (first
            | (refine ⟨by decide, ?_⟩; conv => whnf)
            | (refine ⟨flatPair, ?_⟩; conv => whnf)
            | (refine acond_t (hn) ?_; conv => whnf))
          refine ADraw.of tok mixed false [0, 1, 2, 3, 4, 5, 6, 7, 8, 9, 10, 11, 12, 13, 14, 15, 16, 17] [] (by kernel_rfl) (fun _ _ _ _ h => h) ?_
          conv => whnf
          repeat (first
            | (refine ⟨by decide, ?_⟩; conv => whnf)
            | (refine ⟨flatPair, ?_⟩; conv => whnf)
            | (refine acond_t (hn) ?_; conv => whnf))
          exact GhR.sel [] rfl (GhR.of ⟨congrArg (fun z => ARes.ret (AV.i IntKind.i64 z)) (by simp [nodeE, Ex.isNil, hn']), rfl⟩)
        · refine ACall.gh ?_
          refine ACall.enter tok false Tryd.func49 rfl rfl rfl (AW_sound (ip := false) tok _ _ _ _ ?_)
          conv => whnf
          repeat (first
            | (refine ⟨by decide, ?_⟩; conv => whnf)
            | (refine ⟨flatPair, ?_⟩; conv => whnf)
            | (refine acond_t (hn) ?_; conv => whnf))
          refine ADraw.of tok mixed false [0, 1, 2, 3, 4, 5, 6, 7, 8, 9, 10, 11, 12, 13, 14, 15, 16, 17] [] (by kernel_rfl) (fun _ _ _ _ h => h) ?_
          conv => whnf
          repeat (first
            | (refine ⟨by decide, ?_⟩; conv => whnf)
            | (refine ⟨flatPair, ?_⟩; conv => whnf)
            | (refine acond_t (hn) ?_; conv => whnf))
          exact GhR.sel [] rfl (GhR.of ⟨congrArg (fun z => ARes.ret (AV.i IntKind.i64 z)) (by simp [nodeE, Ex.isNil, hn']), rfl⟩)
end Go.AK
namespace Go.AK
open Go Go.RowKit Go.Proofs
set_option linter.unusedVariables false
set_option maxRecDepth 100000
theorem node_5 (w o : Str) (n : Int) (l r : Ex) : ACall Tryd.prog 49 [(Ex.nd 5 w o n l r).av] [] fun r0 H => r0 = .ret (.i .i64 (nodeE 5 w o n (!l.isNil) (!r.isNil))) ∧ H = [] := by
  cases o with
  | cons c o =>
    refine ACall.gh ?_
    refine ACall.enter tok false Tryd.func49 rfl rfl rfl (AW_sound (ip := false) tok _ _ _ _ ?_)
    conv => whnf
    repeat (first
      | (refine ⟨by decide, ?_⟩; conv => whnf)
      | (refine ⟨flatPair, ?_⟩; conv => whnf))
    refine ADraw.of tok mixed false [0, 1, 2, 3, 4, 5, 6, 7, 8, 9, 10, 11, 12, 13, 14, 15, 16, 17] [] (by kernel_rfl) (fun _ _ _ _ h => h) ?_
    conv => whnf
    repeat (first
      | (refine ⟨by decide, ?_⟩; conv => whnf)
      | (refine ⟨flatPair, ?_⟩; conv => whnf))
    exact GhR.sel [] rfl (GhR.of ⟨congrArg (fun z => ARes.ret (AV.i IntKind.i64 z)) (by simp [nodeE]), rfl⟩)
  | nil =>
    cases hn : (n == 0) with
    | false =>
      have hn' : n ≠ 0 := by simpa using hn
      refine ACall.gh ?_
      refine ACall.enter tok false Tryd.func49 rfl rfl rfl (AW_sound (ip := false) tok _ _ _ _ ?_)
      conv => whnf
      repeat (first
        | (refine ⟨by decide, ?_⟩; conv => whnf)
        | (refine ⟨flatPair, ?_⟩; conv => whnf)
        | (refine acond_f (hn) ?_; conv => whnf)
          | (refine acond_t (by rw [hn]; rfl) ?_; conv => whnf))
      refine ADraw.of tok mixed false [0, 1, 2, 3, 4, 5, 6, 7, 8, 9, 10, 11, 12, 13, 14, 15, 16, 17] [] (by kernel_rfl) (fun _ _ _ _ h => h) ?_
      conv => whnf
      repeat (first
        | (refine ⟨by decide, ?_⟩; conv => whnf)
        | (refine ⟨flatPair, ?_⟩; conv => whnf)
        | (refine acond_f (hn) ?_; conv => whnf)
          | (refine acond_t (by rw [hn]; rfl) ?_; conv => whnf))
      exact GhR.sel [] rfl (GhR.of ⟨congrArg (fun z => ARes.ret (AV.i IntKind.i64 z)) (by simp [nodeE, hn']), rfl⟩)
    | true =>
      have hn' : n = 0 := by simpa using hn
      cases l <;> cases r
      · refine ACall.gh ?_
        refine ACall.enter tok false Tryd.func49 rfl rfl rfl (AW_sound (ip := false) tok _ _ _ _ ?_)
        conv => whnf
        repeat (first
          | (refine ⟨by decide, ?_⟩; conv => whnf)
          | (refine ⟨flatPair, ?_⟩; conv => whnf)
          | (refine acond_t (hn) ?_; conv => whnf)
            | (refine acond_f (by rw [hn]; rfl) ?_; conv => whnf))
        refine ADraw.of tok mixed false [0, 1, 2, 3, 4, 5, 6, 7, 8, 9, 10, 11, 12, 13, 14, 15, 16, 17] [] (by kernel_rfl) (fun _ _ _ _ h => h) ?_
        conv => whnf
        repeat (first
          | (refine ⟨by decide, ?_⟩; conv => whnf)
          | (refine ⟨flatPair, ?_⟩; conv => whnf)
          | (refine acond_t (hn) ?_; conv => whnf)
            | (refine acond_f (by rw [hn]; rfl) ?_; conv => whnf))
        refine ADraw.ofS tok mixed false [3, 10] [0, 1, 2, 3, 4, 5, 7, 8, 9, 10] [6, 11, 12, 13, 14] (by kernel_rfl) (fun _ _ _ _ h => h) ?_
        conv => whnf
        refine ACall.frameH [] [] rfl (args' := []) (Hc := []) rfl rfl (flags_spec) ?_
        rintro r0 H ⟨rfl, rfl⟩
        refine ⟨.inl rfl, _, rfl, ?_⟩
        conv => whnf
        refine ACall.frameH [] [] rfl (args' := [.rs (strs flagsL) 0 1 flagsL.length, .s (sb w)]) (Hc := []) rfl rfl (contains_spec flagsL w (by decide)) ?_
        rintro r0 H ⟨rfl, rfl⟩
        refine ⟨.inl rfl, _, rfl, ?_⟩
        conv => whnf
        cases hc : flagsL.contains w with
        | false =>
          conv => whnf
          repeat (first
            | (refine ⟨by decide, ?_⟩; conv => whnf)
            | (refine ⟨flatPair, ?_⟩; conv => whnf))
          exact GhR.sel [] rfl (GhR.of ⟨congrArg (fun z => ARes.ret (AV.i IntKind.i64 z)) (by have hc2 := hc; simp at hc2; simp [nodeE, Ex.isNil, hn', hc2]), rfl⟩)
        | true =>
          conv => whnf
          refine ADraw.ofS tok mixed false [3, 10] [0, 1, 2, 3, 4, 5, 7, 8, 9, 10] [6, 11, 12, 13, 14] (by kernel_rfl) (fun _ _ _ _ h => h) ?_
          conv => whnf
          repeat (first
            | (refine ⟨by decide, ?_⟩; conv => whnf)
            | (refine ⟨flatPair, ?_⟩; conv => whnf))
          refine ADraw.ofS tok mixed false [3, 10] [0, 1, 2, 3, 4, 5, 7, 8, 9, 10] [6, 11, 12, 13, 14] (by kernel_rfl) (fun _ _ _ _ h => h) ?_
          conv => whnf
          repeat (first
            | (refine ⟨by decide, ?_⟩; conv => whnf)
            | (refine ⟨flatPair, ?_⟩; conv => whnf))
          exact GhR.sel [] rfl (GhR.of ⟨congrArg (fun z => ARes.ret (AV.i IntKind.i64 z)) (by have hc2 := hc; simp at hc2; simp [nodeE, Ex.isNil, hn', hc2]), rfl⟩)
      · refine ACall.gh ?_
        refine ACall.enter tok false Tryd.func49 rfl rfl rfl (AW_sound (ip := false) tok _ _ _ _ ?_)
        conv => whnf
        repeat (first
          | (refine ⟨by decide, ?_⟩; conv => whnf)
          | (refine ⟨flatPair, ?_⟩; conv => whnf)
          | (refine acond_t (hn) ?_; conv => whnf)
            | (refine acond_f (by rw [hn]; rfl) ?_; conv => whnf))
        refine ADraw.of tok mixed false [0, 1, 2, 3, 4, 5, 6, 7, 8, 9, 10, 11, 12, 13, 14, 15, 16, 17] [] (by kernel_rfl) (fun _ _ _ _ h => h) ?_
        conv => whnf
        repeat (first
          | (refine ⟨by decide, ?_⟩; conv => whnf)
          | (refine ⟨flatPair, ?_⟩; conv => whnf)
          | (refine acond_t (hn) ?_; conv => whnf)
            | (refine acond_f (by rw [hn]; rfl) ?_; conv => whnf))
        exact GhR.sel [] rfl (GhR.of ⟨congrArg (fun z => ARes.ret (AV.i IntKind.i64 z)) (by simp [nodeE, Ex.isNil, hn']), rfl⟩)
      · refine ACall.gh ?_
        refine ACall.enter tok false Tryd.func49 rfl rfl rfl (AW_sound (ip := false) tok _ _ _ _ ?_)
        conv => whnf
        repeat (first
          | (refine ⟨by decide, ?_⟩; conv => whnf)
          | (refine ⟨flatPair, ?_⟩; conv => whnf)
          | (refine acond_t (hn) ?_; conv => whnf)
            | (refine acond_f (by rw [hn]; rfl) ?_; conv => whnf))
        refine ADraw.of tok mixed false [0, 1, 2, 3, 4, 5, 6, 7, 8, 9, 10, 11, 12, 13, 14, 15, 16, 17] [] (by kernel_rfl) (fun _ _ _ _ h => h) ?_
        conv => whnf
        repeat (first
          | (refine ⟨by decide, ?_⟩; conv => whnf)
          | (refine ⟨flatPair, ?_⟩; conv => whnf)
          | (refine acond_t (hn) ?_; conv => whnf)
            | (refine acond_f (by rw [hn]; rfl) ?_; conv => whnf))
        exact GhR.sel [] rfl (GhR.of ⟨congrArg (fun z => ARes.ret (AV.i IntKind.i64 z)) (by simp [nodeE, Ex.isNil, hn']), rfl⟩)
      · refine ACall.gh ?_
        refine ACall.enter tok false Tryd.func49 rfl rfl rfl (AW_sound (ip := false) tok _ _ _ _ ?_)
        conv => whnf
        repeat (first
          | (refine ⟨by decide, ?_⟩; conv => whnf)
          | (refine ⟨flatPair, ?_⟩; conv => whnf)
          | (refine acond_t (hn) ?_; conv => whnf)
            | (refine acond_f (by rw [hn]; rfl) ?_; conv => whnf))
        refine ADraw.of tok mixed false [0, 1, 2, 3, 4, 5, 6, 7, 8, 9, 10, 11, 12, 13, 14, 15, 16, 17] [] (by kernel_rfl) (fun _ _ _ _ h => h) ?_
        conv => whnf
        repeat (first
          | (refine ⟨by decide, ?_⟩; conv => whnf)
          | (refine ⟨flatPair, ?_⟩; conv => whnf)
          | (refine acond_t (hn) ?_; conv => whnf)
            | (refine acond_f (by rw [hn]; rfl) ?_; conv => whnf))
        exact GhR.sel [] rfl (GhR.of ⟨congrArg (fun z => ARes.ret (AV.i IntKind.i64 z)) (by simp [nodeE, Ex.isNil, hn']), rfl⟩)
end Go.AK
namespace Go.AK
open Go Go.RowKit Go.Proofs
set_option linter.unusedVariables false
set_option maxRecDepth 100000
theorem node_4 (w o : Str) (n : Int) (l r : Ex) : ACall Tryd.prog 49 [(Ex.nd 4 w o n l r).av] [] fun r0 H => r0 = .ret (.i .i64 (nodeE 4 w o n (!l.isNil) (!r.isNil))) ∧ H = [] := by
  cases o with
  | cons c o =>
    cases l <;> cases r
    · refine ACall.gh ?_
      refine ACall.enter tok false Tryd.func49 rfl rfl rfl (AW_sound (ip := false) tok _ _ _ _ ?_)
      conv => whnf
      repeat (first
        | (refine ⟨by decide, ?_⟩; conv => whnf)
        | (refine ⟨flatPair, ?_⟩; conv => whnf))
      refine ADraw.of tok mixed false [0, 1, 2, 3, 4, 5, 6, 7, 8, 9, 10, 11, 12, 13, 14, 15, 16, 17] [] (by kernel_rfl) (fun _ _ _ _ h => h) ?_
      conv => whnf
      repeat (first
        | (refine ⟨by decide, ?_⟩; conv => whnf)
        | (refine ⟨flatPair, ?_⟩; conv => whnf))
      refine ADraw.ofS tok mixed false [3, 10] [0, 1, 2, 3, 4, 5, 7, 8, 9, 10] [6, 11, 12, 13, 14] (by kernel_rfl) (fun _ _ _ _ h => h) ?_
      conv => whnf
      repeat (first
        | (refine ⟨by decide, ?_⟩; conv => whnf)
        | (refine ⟨flatPair, ?_⟩; conv => whnf))
      refine ADraw.ofS tok mixed false [3, 10] [0, 1, 2, 3, 4, 5, 7, 8, 9, 10] [6, 11, 12, 13, 14] (by kernel_rfl) (fun _ _ _ _ h => h) ?_
      conv => whnf
      refine ACall.frameH [] [] rfl (args' := []) (Hc := []) rfl rfl (numbers_spec) ?_
      rintro r0 H ⟨rfl, rfl⟩
      refine ⟨.inl rfl, _, rfl, ?_⟩
      conv => whnf
      refine ACall.frameH [] [] rfl (args' := [.rs (strs numbersL) 0 1 numbersL.length, .s (sb w)]) (Hc := []) rfl rfl (contains_spec numbersL w (by decide)) ?_
      rintro r0 H ⟨rfl, rfl⟩
      refine ⟨.inl rfl, _, rfl, ?_⟩
      conv => whnf
      cases hc : numbersL.contains w with
      | false =>
        conv => whnf
        repeat (first
          | (refine ⟨by decide, ?_⟩; conv => whnf)
          | (refine ⟨flatPair, ?_⟩; conv => whnf))
        exact GhR.sel [] rfl (GhR.of ⟨congrArg (fun z => ARes.ret (AV.i IntKind.i64 z)) (by have hc2 := hc; simp at hc2; simp [nodeE, Ex.isNil, hc2]), rfl⟩)
      | true =>
        conv => whnf
        refine ADraw.ofS tok mixed false [3, 10] [0, 1, 2, 3, 4, 5, 7, 8, 9, 10] [6, 11, 12, 13, 14] (by kernel_rfl) (fun _ _ _ _ h => h) ?_
        conv => whnf
        refine ACall.frameH [] [] rfl (args' := []) (Hc := []) rfl rfl (ops_spec) ?_
        rintro r0 H ⟨rfl, rfl⟩
        refine ⟨.inl rfl, _, rfl, ?_⟩
        conv => whnf
        refine ACall.frameH [] [] rfl (args' := [.rs (strs opsL) 0 1 opsL.length, .s (sb (c :: o))]) (Hc := []) rfl rfl (contains_spec opsL (c :: o) (by decide)) ?_
        rintro r0 H ⟨rfl, rfl⟩
        refine ⟨.inl rfl, _, rfl, ?_⟩
        conv => whnf
        cases hd : opsL.contains (c :: o) with
        | false =>
          conv => whnf
          repeat (first
            | (refine ⟨by decide, ?_⟩; conv => whnf)
            | (refine ⟨flatPair, ?_⟩; conv => whnf))
          exact GhR.sel [] rfl (GhR.of ⟨congrArg (fun z => ARes.ret (AV.i IntKind.i64 z)) (by have hc2 := hc; simp at hc2; have hd2 := hd; simp at hd2; simp [nodeE, Ex.isNil, hc2, hd2]), rfl⟩)
        | true =>
          conv => whnf
          by_cases hneg : n < 0
          · (refine acond_t (decide_eq_true hneg) ?_; conv => whnf)
            exact GhR.sel [] rfl (GhR.of ⟨congrArg (fun z => ARes.ret (AV.i IntKind.i64 z)) (by have hc2 := hc; simp at hc2; have hd2 := hd; simp at hd2; simp [nodeE, Ex.isNil, hc2, hd2, hneg]), rfl⟩)
          · (refine acond_f (decide_eq_false hneg) ?_; conv => whnf)
            exact GhR.sel [] rfl (GhR.of ⟨congrArg (fun z => ARes.ret (AV.i IntKind.i64 z)) (by have hc2 := hc; simp at hc2; have hd2 := hd; simp at hd2; simp [nodeE, Ex.isNil, hc2, hd2, hneg]), rfl⟩)
    · refine ACall.gh ?_
      refine ACall.enter tok false Tryd.func49 rfl rfl rfl (AW_sound (ip := false) tok _ _ _ _ ?_)
      conv => whnf
      repeat (first
        | (refine ⟨by decide, ?_⟩; conv => whnf)
        | (refine ⟨flatPair, ?_⟩; conv => whnf))
      refine ADraw.of tok mixed false [0, 1, 2, 3, 4, 5, 6, 7, 8, 9, 10, 11, 12, 13, 14, 15, 16, 17] [] (by kernel_rfl) (fun _ _ _ _ h => h) ?_
      conv => whnf
      repeat (first
        | (refine ⟨by decide, ?_⟩; conv => whnf)
        | (refine ⟨flatPair, ?_⟩; conv => whnf))
      exact GhR.sel [] rfl (GhR.of ⟨congrArg (fun z => ARes.ret (AV.i IntKind.i64 z)) (by simp [nodeE, Ex.isNil]), rfl⟩)
    · refine ACall.gh ?_
      refine ACall.enter tok false Tryd.func49 rfl rfl rfl (AW_sound (ip := false) tok _ _ _ _ ?_)
      conv => whnf
      repeat (first
        | (refine ⟨by decide, ?_⟩; conv => whnf)
        | (refine ⟨flatPair, ?_⟩; conv => whnf))
      refine ADraw.of tok mixed false [0, 1, 2, 3, 4, 5, 6, 7, 8, 9, 10, 11, 12, 13, 14, 15, 16, 17] [] (by kernel_rfl) (fun _ _ _ _ h => h) ?_
      conv => whnf
      repeat (first
        | (refine ⟨by decide, ?_⟩; conv => whnf)
        | (refine ⟨flatPair, ?_⟩; conv => whnf))
      exact GhR.sel [] rfl (GhR.of ⟨congrArg (fun z => ARes.ret (AV.i IntKind.i64 z)) (by simp [nodeE, Ex.isNil]), rfl⟩)
    · refine ACall.gh ?_
      refine ACall.enter tok false Tryd.func49 rfl rfl rfl (AW_sound (ip := false) tok _ _ _ _ ?_)
      conv => whnf
      repeat (first
        | (refine ⟨by decide, ?_⟩; conv => whnf)
        | (refine ⟨flatPair, ?_⟩; conv => whnf))
      refine ADraw.of tok mixed false [0, 1, 2, 3, 4, 5, 6, 7, 8, 9, 10, 11, 12, 13, 14, 15, 16, 17] [] (by kernel_rfl) (fun _ _ _ _ h => h) ?_
      conv => whnf
      repeat (first
        | (refine ⟨by decide, ?_⟩; conv => whnf)
        | (refine ⟨flatPair, ?_⟩; conv => whnf))
      exact GhR.sel [] rfl (GhR.of ⟨congrArg (fun z => ARes.ret (AV.i IntKind.i64 z)) (by simp [nodeE, Ex.isNil]), rfl⟩)
  | nil =>
    cases hn : (n == 0) with
    | false =>
      cases l <;> cases r
      · refine ACall.gh ?_
        refine ACall.enter tok false Tryd.func49 rfl rfl rfl (AW_sound (ip := false) tok _ _ _ _ ?_)
        conv => whnf
        repeat (first
          | (refine ⟨by decide, ?_⟩; conv => whnf)
          | (refine ⟨flatPair, ?_⟩; conv => whnf)
          | (refine acond_f (hn) ?_; conv => whnf))
        refine ADraw.of tok mixed false [0, 1, 2, 3, 4, 5, 6, 7, 8, 9, 10, 11, 12, 13, 14, 15, 16, 17] [] (by kernel_rfl) (fun _ _ _ _ h => h) ?_
        conv => whnf
        repeat (first
          | (refine ⟨by decide, ?_⟩; conv => whnf)
          | (refine ⟨flatPair, ?_⟩; conv => whnf)
          | (refine acond_f (hn) ?_; conv => whnf))
        refine ADraw.ofS tok mixed false [3, 10] [0, 1, 2, 3, 4, 5, 7, 8, 9, 10] [6, 11, 12, 13, 14] (by kernel_rfl) (fun _ _ _ _ h => h) ?_
        conv => whnf
        repeat (first
          | (refine ⟨by decide, ?_⟩; conv => whnf)
          | (refine ⟨flatPair, ?_⟩; conv => whnf)
          | (refine acond_f (hn) ?_; conv => whnf))
        refine ADraw.ofS tok mixed false [3, 10] [0, 1, 2, 3, 4, 5, 7, 8, 9, 10] [6, 11, 12, 13, 14] (by kernel_rfl) (fun _ _ _ _ h => h) ?_
        conv => whnf
        refine ACall.frameH [] [] rfl (args' := []) (Hc := []) rfl rfl (numbers_spec) ?_
        rintro r0 H ⟨rfl, rfl⟩
        refine ⟨.inl rfl, _, rfl, ?_⟩
        conv => whnf
        refine ACall.frameH [] [] rfl (args' := [.rs (strs numbersL) 0 1 numbersL.length, .s (sb w)]) (Hc := []) rfl rfl (contains_spec numbersL w (by decide)) ?_
        rintro r0 H ⟨rfl, rfl⟩
        refine ⟨.inl rfl, _, rfl, ?_⟩
        conv => whnf
        cases hc : numbersL.contains w with
        | false =>
          conv => whnf
          repeat (first
            | (refine ⟨by decide, ?_⟩; conv => whnf)
            | (refine ⟨flatPair, ?_⟩; conv => whnf))
          exact GhR.sel [] rfl (GhR.of ⟨congrArg (fun z => ARes.ret (AV.i IntKind.i64 z)) (by have hc2 := hc; simp at hc2; simp [nodeE, Ex.isNil, hc2]), rfl⟩)
        | true =>
          conv => whnf
          refine ADraw.ofS tok mixed false [3, 10] [0, 1, 2, 3, 4, 5, 7, 8, 9, 10] [6, 11, 12, 13, 14] (by kernel_rfl) (fun _ _ _ _ h => h) ?_
          conv => whnf
          refine ACall.frameH [] [] rfl (args' := []) (Hc := []) rfl rfl (ops_spec) ?_
          rintro r0 H ⟨rfl, rfl⟩
          refine ⟨.inl rfl, _, rfl, ?_⟩
          conv => whnf
          refine ACall.frameH [] [] rfl (args' := [.rs (strs opsL) 0 1 opsL.length, .s (sb ([]))]) (Hc := []) rfl rfl (contains_spec opsL ([]) (by decide)) ?_
          rintro r0 H ⟨rfl, rfl⟩
          refine ⟨.inl rfl, _, rfl, ?_⟩
          conv => whnf
          cases hd : opsL.contains ([]) with
          | false =>
            conv => whnf
            repeat (first
              | (refine ⟨by decide, ?_⟩; conv => whnf)
              | (refine ⟨flatPair, ?_⟩; conv => whnf))
            exact GhR.sel [] rfl (GhR.of ⟨congrArg (fun z => ARes.ret (AV.i IntKind.i64 z)) (by have hc2 := hc; simp at hc2; have hd2 := hd; simp at hd2; simp [nodeE, Ex.isNil, hc2, hd2]), rfl⟩)
          | true => exact absurd hd (by decide)
      · refine ACall.gh ?_
        refine ACall.enter tok false Tryd.func49 rfl rfl rfl (AW_sound (ip := false) tok _ _ _ _ ?_)
        conv => whnf
        repeat (first
          | (refine ⟨by decide, ?_⟩; conv => whnf)
          | (refine ⟨flatPair, ?_⟩; conv => whnf)
          | (refine acond_f (hn) ?_; conv => whnf))
        refine ADraw.of tok mixed false [0, 1, 2, 3, 4, 5, 6, 7, 8, 9, 10, 11, 12, 13, 14, 15, 16, 17] [] (by kernel_rfl) (fun _ _ _ _ h => h) ?_
        conv => whnf
        repeat (first
          | (refine ⟨by decide, ?_⟩; conv => whnf)
          | (refine ⟨flatPair, ?_⟩; conv => whnf)
          | (refine acond_f (hn) ?_; conv => whnf))
        exact GhR.sel [] rfl (GhR.of ⟨congrArg (fun z => ARes.ret (AV.i IntKind.i64 z)) (by simp [nodeE, Ex.isNil]), rfl⟩)
      · refine ACall.gh ?_
        refine ACall.enter tok false Tryd.func49 rfl rfl rfl (AW_sound (ip := false) tok _ _ _ _ ?_)
        conv => whnf
        repeat (first
          | (refine ⟨by decide, ?_⟩; conv => whnf)
          | (refine ⟨flatPair, ?_⟩; conv => whnf)
          | (refine acond_f (hn) ?_; conv => whnf))
        refine ADraw.of tok mixed false [0, 1, 2, 3, 4, 5, 6, 7, 8, 9, 10, 11, 12, 13, 14, 15, 16, 17] [] (by kernel_rfl) (fun _ _ _ _ h => h) ?_
        conv => whnf
        repeat (first
          | (refine ⟨by decide, ?_⟩; conv => whnf)
          | (refine ⟨flatPair, ?_⟩; conv => whnf)
          | (refine acond_f (hn) ?_; conv => whnf))
        exact GhR.sel [] rfl (GhR.of ⟨congrArg (fun z => ARes.ret (AV.i IntKind.i64 z)) (by simp [nodeE, Ex.isNil]), rfl⟩)
      · refine ACall.gh ?_
        refine ACall.enter tok false Tryd.func49 rfl rfl rfl (AW_sound (ip := false) tok _ _ _ _ ?_)
        conv => whnf
        repeat (first
          | (refine ⟨by decide, ?_⟩; conv => whnf)
          | (refine ⟨flatPair, ?_⟩; conv => whnf)
          | (refine acond_f (hn) ?_; conv => whnf))
        refine ADraw.of tok mixed false [0, 1, 2, 3, 4, 5, 6, 7, 8, 9, 10, 11, 12, 13, 14, 15, 16, 17] [] (by kernel_rfl) (fun _ _ _ _ h => h) ?_
        conv => whnf
        repeat (first
          | (refine ⟨by decide, ?_⟩; conv => whnf)
          | (refine ⟨flatPair, ?_⟩; conv => whnf)
          | (refine acond_f (hn) ?_; conv => whnf))
        exact GhR.sel [] rfl (GhR.of ⟨congrArg (fun z => ARes.ret (AV.i IntKind.i64 z)) (by simp [nodeE, Ex.isNil]), rfl⟩)
    | true =>
      cases l <;> cases r
      · refine ACall.gh ?_
        refine ACall.enter tok false Tryd.func49 rfl rfl rfl (AW_sound (ip := false) tok _ _ _ _ ?_)
        conv => whnf
        repeat (first
          | (refine ⟨by decide, ?_⟩; conv => whnf)
          | (refine ⟨flatPair, ?_⟩; conv => whnf)
          | (refine acond_t (hn) ?_; conv => whnf))
        refine ADraw.of tok mixed false [0, 1, 2, 3, 4, 5, 6, 7, 8, 9, 10, 11, 12, 13, 14, 15, 16, 17] [] (by kernel_rfl) (fun _ _ _ _ h => h) ?_
        conv => whnf
        repeat (first
          | (refine ⟨by decide, ?_⟩; conv => whnf)
          | (refine ⟨flatPair, ?_⟩; conv => whnf)
          | (refine acond_t (hn) ?_; conv => whnf))
        refine ADraw.ofS tok mixed false [3, 10] [0, 1, 2, 3, 4, 5, 7, 8, 9, 10] [6, 11, 12, 13, 14] (by kernel_rfl) (fun _ _ _ _ h => h) ?_
        conv => whnf
        repeat (first
          | (refine ⟨by decide, ?_⟩; conv => whnf)
          | (refine ⟨flatPair, ?_⟩; conv => whnf)
          | (refine acond_t (hn) ?_; conv => whnf))
        refine ADraw.ofS tok mixed false [3, 10] [0, 1, 2, 3, 4, 5, 7, 8, 9, 10] [6, 11, 12, 13, 14] (by kernel_rfl) (fun _ _ _ _ h => h) ?_
        conv => whnf
        refine ACall.frameH [] [] rfl (args' := []) (Hc := []) rfl rfl (numbers_spec) ?_
        rintro r0 H ⟨rfl, rfl⟩
        refine ⟨.inl rfl, _, rfl, ?_⟩
        conv => whnf
        refine ACall.frameH [] [] rfl (args' := [.rs (strs numbersL) 0 1 numbersL.length, .s (sb w)]) (Hc := []) rfl rfl (contains_spec numbersL w (by decide)) ?_
        rintro r0 H ⟨rfl, rfl⟩
        refine ⟨.inl rfl, _, rfl, ?_⟩
        conv => whnf
        cases hc : numbersL.contains w with
        | false =>
          conv => whnf
          repeat (first
            | (refine ⟨by decide, ?_⟩; conv => whnf)
            | (refine ⟨flatPair, ?_⟩; conv => whnf))
          exact GhR.sel [] rfl (GhR.of ⟨congrArg (fun z => ARes.ret (AV.i IntKind.i64 z)) (by have hc2 := hc; simp at hc2; simp [nodeE, Ex.isNil, hc2]), rfl⟩)
        | true =>
          conv => whnf
          refine ADraw.ofS tok mixed false [3, 10] [0, 1, 2, 3, 4, 5, 7, 8, 9, 10] [6, 11, 12, 13, 14] (by kernel_rfl) (fun _ _ _ _ h => h) ?_
          conv => whnf
          refine ACall.frameH [] [] rfl (args' := []) (Hc := []) rfl rfl (ops_spec) ?_
          rintro r0 H ⟨rfl, rfl⟩
          refine ⟨.inl rfl, _, rfl, ?_⟩
          conv => whnf
          refine ACall.frameH [] [] rfl (args' := [.rs (strs opsL) 0 1 opsL.length, .s (sb ([]))]) (Hc := []) rfl rfl (contains_spec opsL ([]) (by decide)) ?_
          rintro r0 H ⟨rfl, rfl⟩
          refine ⟨.inl rfl, _, rfl, ?_⟩
          conv => whnf
          cases hd : opsL.contains ([]) with
          | false =>
            conv => whnf
            repeat (first
              | (refine ⟨by decide, ?_⟩; conv => whnf)
              | (refine ⟨flatPair, ?_⟩; conv => whnf))
            exact GhR.sel [] rfl (GhR.of ⟨congrArg (fun z => ARes.ret (AV.i IntKind.i64 z)) (by have hc2 := hc; simp at hc2; have hd2 := hd; simp at hd2; simp [nodeE, Ex.isNil, hc2, hd2]), rfl⟩)
          | true => exact absurd hd (by decide)
      · refine ACall.gh ?_
        refine ACall.enter tok false Tryd.func49 rfl rfl rfl (AW_sound (ip := false) tok _ _ _ _ ?_)
        conv => whnf
        repeat (first
          | (refine ⟨by decide, ?_⟩; conv => whnf)
          | (refine ⟨flatPair, ?_⟩; conv => whnf)
          | (refine acond_t (hn) ?_; conv => whnf))
        refine ADraw.of tok mixed false [0, 1, 2, 3, 4, 5, 6, 7, 8, 9, 10, 11, 12, 13, 14, 15, 16, 17] [] (by kernel_rfl) (fun _ _ _ _ h => h) ?_
        conv => whnf
        repeat (first
          | (refine ⟨by decide, ?_⟩; conv => whnf)
          | (refine ⟨flatPair, ?_⟩; conv => whnf)
          | (refine acond_t (hn) ?_; conv => whnf))
        exact GhR.sel [] rfl (GhR.of ⟨congrArg (fun z => ARes.ret (AV.i IntKind.i64 z)) (by simp [nodeE, Ex.isNil]), rfl⟩)
      · refine ACall.gh ?_
        refine ACall.enter tok false Tryd.func49 rfl rfl rfl (AW_sound (ip := false) tok _ _ _ _ ?_)
        conv => whnf
        repeat (first
          | (refine ⟨by decide, ?_⟩; conv => whnf)
          | (refine ⟨flatPair, ?_⟩; conv => whnf)
          | (refine acond_t (hn) ?_; conv => whnf))
        refine ADraw.of tok mixed false [0, 1, 2, 3, 4, 5, 6, 7, 8, 9, 10, 11, 12, 13, 14, 15, 16, 17] [] (by kernel_rfl) (fun _ _ _ _ h => h) ?_
        conv => whnf
        repeat (first
          | (refine ⟨by decide, ?_⟩; conv => whnf)
          | (refine ⟨flatPair, ?_⟩; conv => whnf)
          | (refine acond_t (hn) ?_; conv => whnf))
        exact GhR.sel [] rfl (GhR.of ⟨congrArg (fun z => ARes.ret (AV.i IntKind.i64 z)) (by simp [nodeE, Ex.isNil]), rfl⟩)
      · refine ACall.gh ?_
        refine ACall.enter tok false Tryd.func49 rfl rfl rfl (AW_sound (ip := false) tok _ _ _ _ ?_)
        conv => whnf
        repeat (first
          | (refine ⟨by decide, ?_⟩; conv => whnf)
          | (refine ⟨flatPair, ?_⟩; conv => whnf)
          | (refine acond_t (hn) ?_; conv => whnf))
        refine ADraw.of tok mixed false [0, 1, 2, 3, 4, 5, 6, 7, 8, 9, 10, 11, 12, 13, 14, 15, 16, 17] [] (by kernel_rfl) (fun _ _ _ _ h => h) ?_
        conv => whnf
        repeat (first
          | (refine ⟨by decide, ?_⟩; conv => whnf)
          | (refine ⟨flatPair, ?_⟩; conv => whnf)
          | (refine acond_t (hn) ?_; conv => whnf))
        exact GhR.sel [] rfl (GhR.of ⟨congrArg (fun z => ARes.ret (AV.i IntKind.i64 z)) (by simp [nodeE, Ex.isNil]), rfl⟩)
end Go.AK
namespace Go.AK
open Go Go.RowKit Go.Proofs
set_option linter.unusedVariables false
set_option maxRecDepth 100000
theorem nodeE_z (w o : Str) (n : Int) (a b : Bool) : nodeE 0 w o n a b = 11 := by
  have h0 : ∀ j : Int, 1 ≤ j → j ≤ 7 → 0 ≠ j := fun j h1 h2 => by (try simp only [Int.ofNat_eq_natCast, Int.negSucc_eq]); omega
  unfold nodeE
  rw [if_neg (by intro h; rcases h with h | h <;> exact h0 _ (by omega) (by omega) h), if_neg (h0 1 (by omega) (by omega)), if_neg (by intro h; rcases h with h | h <;> exact h0 _ (by omega) (by omega) h), if_neg (h0 5 (by omega) (by omega)), if_neg (h0 4 (by omega) (by omega))]
theorem node_xz (w o : Str) (n : Int) (l r : Ex) : ACall Tryd.prog 49 [(Ex.nd 0 w o n l r).av] [] fun r0 H => r0 = .ret (.i .i64 (nodeE 0 w o n (!l.isNil) (!r.isNil))) ∧ H = [] := by
  rw [nodeE_z _ _ _ _ _]
  cases o with
  | cons c o =>
    refine ACall.gh ?_
    refine ACall.enter tok false Tryd.func49 rfl rfl rfl (AW_sound (ip := false) tok _ _ _ _ ?_)
    conv => whnf
    refine ⟨by decide, ?_⟩
    conv => whnf
    exact GhR.sel [] rfl (GhR.of ⟨rfl, rfl⟩)
  | nil =>
    cases hn : (n == 0) with
    | false =>
      refine ACall.gh ?_
      refine ACall.enter tok false Tryd.func49 rfl rfl rfl (AW_sound (ip := false) tok _ _ _ _ ?_)
      conv => whnf
      refine ⟨by decide, ?_⟩
      conv => whnf
      repeat (refine acond_f (hn) ?_; conv => whnf)
      exact GhR.sel [] rfl (GhR.of ⟨rfl, rfl⟩)
    | true =>
      refine ACall.gh ?_
      refine ACall.enter tok false Tryd.func49 rfl rfl rfl (AW_sound (ip := false) tok _ _ _ _ ?_)
      conv => whnf
      refine ⟨by decide, ?_⟩
      conv => whnf
      repeat (refine acond_t (hn) ?_; conv => whnf)
      exact GhR.sel [] rfl (GhR.of ⟨rfl, rfl⟩)
theorem nodeE_p (m : Nat) (w o : Str) (n : Int) (a b : Bool) : nodeE (Int.ofNat (m + 8)) w o n a b = 11 := by
  have h0 : ∀ j : Int, 1 ≤ j → j ≤ 7 → (Int.ofNat (m + 8)) ≠ j := fun j h1 h2 => by (try simp only [Int.ofNat_eq_natCast, Int.negSucc_eq]); omega
  unfold nodeE
  rw [if_neg (by intro h; rcases h with h | h <;> exact h0 _ (by omega) (by omega) h), if_neg (h0 1 (by omega) (by omega)), if_neg (by intro h; rcases h with h | h <;> exact h0 _ (by omega) (by omega) h), if_neg (h0 5 (by omega) (by omega)), if_neg (h0 4 (by omega) (by omega))]
theorem node_xp (m : Nat) (w o : Str) (n : Int) (l r : Ex) : ACall Tryd.prog 49 [(Ex.nd (Int.ofNat (m + 8)) w o n l r).av] [] fun r0 H => r0 = .ret (.i .i64 (nodeE (Int.ofNat (m + 8)) w o n (!l.isNil) (!r.isNil))) ∧ H = [] := by
  rw [nodeE_p m _ _ _ _ _]
  cases o with
  | cons c o =>
    refine ACall.gh ?_
    refine ACall.enter tok false Tryd.func49 rfl rfl rfl (AW_sound (ip := false) tok _ _ _ _ ?_)
    conv => whnf
    refine ⟨by decide, ?_⟩
    conv => whnf
    exact GhR.sel [] rfl (GhR.of ⟨rfl, rfl⟩)
  | nil =>
    cases hn : (n == 0) with
    | false =>
      refine ACall.gh ?_
      refine ACall.enter tok false Tryd.func49 rfl rfl rfl (AW_sound (ip := false) tok _ _ _ _ ?_)
      conv => whnf
      refine ⟨by decide, ?_⟩
      conv => whnf
      repeat (refine acond_f (hn) ?_; conv => whnf)
      exact GhR.sel [] rfl (GhR.of ⟨rfl, rfl⟩)
    | true =>
      refine ACall.gh ?_
      refine ACall.enter tok false Tryd.func49 rfl rfl rfl (AW_sound (ip := false) tok _ _ _ _ ?_)
      conv => whnf
      refine ⟨by decide, ?_⟩
      conv => whnf
      repeat (refine acond_t (hn) ?_; conv => whnf)
      exact GhR.sel [] rfl (GhR.of ⟨rfl, rfl⟩)
theorem nodeE_n (m : Nat) (w o : Str) (n : Int) (a b : Bool) : nodeE (Int.negSucc m) w o n a b = 11 := by
  have h0 : ∀ j : Int, 1 ≤ j → j ≤ 7 → (Int.negSucc m) ≠ j := fun j h1 h2 => by (try simp only [Int.ofNat_eq_natCast, Int.negSucc_eq]); omega
  unfold nodeE
  rw [if_neg (by intro h; rcases h with h | h <;> exact h0 _ (by omega) (by omega) h), if_neg (h0 1 (by omega) (by omega)), if_neg (by intro h; rcases h with h | h <;> exact h0 _ (by omega) (by omega) h), if_neg (h0 5 (by omega) (by omega)), if_neg (h0 4 (by omega) (by omega))]
theorem node_xn (m : Nat) (w o : Str) (n : Int) (l r : Ex) : ACall Tryd.prog 49 [(Ex.nd (Int.negSucc m) w o n l r).av] [] fun r0 H => r0 = .ret (.i .i64 (nodeE (Int.negSucc m) w o n (!l.isNil) (!r.isNil))) ∧ H = [] := by
  rw [nodeE_n m _ _ _ _ _]
  cases o with
  | cons c o =>
    refine ACall.gh ?_
    refine ACall.enter tok false Tryd.func49 rfl rfl rfl (AW_sound (ip := false) tok _ _ _ _ ?_)
    conv => whnf
    refine ⟨by decide, ?_⟩
    conv => whnf
    exact GhR.sel [] rfl (GhR.of ⟨rfl, rfl⟩)
  | nil =>
    cases hn : (n == 0) with
    | false =>
      refine ACall.gh ?_
      refine ACall.enter tok false Tryd.func49 rfl rfl rfl (AW_sound (ip := false) tok _ _ _ _ ?_)
      conv => whnf
      refine ⟨by decide, ?_⟩
      conv => whnf
      repeat (refine acond_f (hn) ?_; conv => whnf)
      exact GhR.sel [] rfl (GhR.of ⟨rfl, rfl⟩)
    | true =>
      refine ACall.gh ?_
      refine ACall.enter tok false Tryd.func49 rfl rfl rfl (AW_sound (ip := false) tok _ _ _ _ ?_)
      conv => whnf
      refine ⟨by decide, ?_⟩
      conv => whnf
      repeat (refine acond_t (hn) ?_; conv => whnf)
      exact GhR.sel [] rfl (GhR.of ⟨rfl, rfl⟩)
end Go.AK
namespace Go.AK
open Go Go.RowKit Go.Proofs
set_option linter.unusedVariables false
set_option maxRecDepth 100000
theorem node_spec (k : Int) (w o : Str) (n : Int) (l r : Ex) : ACall Tryd.prog 49 [(Ex.nd k w o n l r).av] [] fun r0 H => r0 = .ret (.i .i64 (nodeE k w o n (!l.isNil) (!r.isNil))) ∧ H = [] := by
  by_cases h1 : k = 1
  · subst h1; exact node_1 w o n l r
  by_cases h2 : k = 2
  · subst h2; exact node_2 w o n l r
  by_cases h3 : k = 3
  · subst h3; exact node_3 w o n l r
  by_cases h4 : k = 4
  · subst h4; exact node_4 w o n l r
  by_cases h5 : k = 5
  · subst h5; exact node_5 w o n l r
  by_cases h6 : k = 6
  · subst h6; exact node_6 w o n l r
  by_cases h7 : k = 7
  · subst h7; exact node_7 w o n l r
  match k, h1, h2, h3, h4, h5, h6, h7 with
  | .ofNat 0, _, _, _, _, _, _, _ => exact node_xz w o n l r
  | .ofNat (m + 8), _, _, _, _, _, _, _ => exact node_xp m w o n l r
  | .negSucc m, _, _, _, _, _, _, _ => exact node_xn m w o n l r
end Go.AK
namespace Go.AK
open Go Go.RowKit Go.Proofs
set_option linter.unusedVariables false
set_option maxRecDepth 100000
theorem oneR_1 (w o : Str) (n : Int) (l r : Ex) : ACall Tryd.prog 45 [(Ex.nd 1 w o n l r).av] [] fun r0 H => r0 = .ret (.i .i64 (nodeE 1 w o n (!l.isNil) (!r.isNil))) ∧ H = [] := by
  cases l <;> cases r <;> cases w <;> cases o <;> rcases n with ((_ | q) | q) <;> (
    refine ACall.enter tok false Tryd.func45 rfl rfl rfl (AW_sound (ip := false) tok _ _ _ _ ?_)
    conv => whnf
    exact ⟨rfl, rfl⟩
    )
theorem oneR_2 (w o : Str) (n : Int) (l r : Ex) : ACall Tryd.prog 45 [(Ex.nd 2 w o n l r).av] [] fun r0 H => r0 = .ret (.i .i64 (nodeE 2 w o n (!l.isNil) (!r.isNil))) ∧ H = [] := by
  cases l <;> cases r <;> cases w <;> cases o <;> rcases n with ((_ | q) | q) <;> (
    refine ACall.enter tok false Tryd.func45 rfl rfl rfl (AW_sound (ip := false) tok _ _ _ _ ?_)
    conv => whnf
    exact ⟨rfl, rfl⟩
    )
theorem oneR_3 (w o : Str) (n : Int) (l r : Ex) : ACall Tryd.prog 45 [(Ex.nd 3 w o n l r).av] [] fun r0 H => r0 = .ret (.i .i64 (nodeE 3 w o n (!l.isNil) (!r.isNil))) ∧ H = [] := by
  cases l <;> cases r <;> cases w <;> cases o <;> rcases n with ((_ | q) | q) <;> (
    refine ACall.enter tok false Tryd.func45 rfl rfl rfl (AW_sound (ip := false) tok _ _ _ _ ?_)
    conv => whnf
    exact ⟨rfl, rfl⟩
    )
theorem oneR_6 (w o : Str) (n : Int) (l r : Ex) : ACall Tryd.prog 45 [(Ex.nd 6 w o n l r).av] [] fun r0 H => r0 = .ret (.i .i64 (nodeE 6 w o n (!l.isNil) (!r.isNil))) ∧ H = [] := by
  cases l <;> cases r <;> cases w <;> cases o <;> rcases n with ((_ | q) | q) <;> (
    refine ACall.enter tok false Tryd.func45 rfl rfl rfl (AW_sound (ip := false) tok _ _ _ _ ?_)
    conv => whnf
    exact ⟨rfl, rfl⟩
    )
theorem oneR_7 (w o : Str) (n : Int) (l r : Ex) : ACall Tryd.prog 45 [(Ex.nd 7 w o n l r).av] [] fun r0 H => r0 = .ret (.i .i64 (nodeE 7 w o n (!l.isNil) (!r.isNil))) ∧ H = [] := by
  cases l <;> cases r <;> cases w <;> cases o <;> rcases n with ((_ | q) | q) <;> (
    refine ACall.enter tok false Tryd.func45 rfl rfl rfl (AW_sound (ip := false) tok _ _ _ _ ?_)
    conv => whnf
    exact ⟨rfl, rfl⟩
    )
theorem oneR_z (w o : Str) (n : Int) (l r : Ex) : ACall Tryd.prog 45 [(Ex.nd 0 w o n l r).av] [] fun r0 H => r0 = .ret (.i .i64 (nodeE 0 w o n (!l.isNil) (!r.isNil))) ∧ H = [] := by
  rw [nodeE_z]
  cases l <;> cases r <;> cases w <;> cases o <;> rcases n with ((_ | q) | q) <;> (
    refine ACall.enter tok false Tryd.func45 rfl rfl rfl (AW_sound (ip := false) tok _ _ _ _ ?_)
    conv => whnf
    exact ⟨rfl, rfl⟩
    )
theorem oneR_p (m : Nat) (w o : Str) (n : Int) (l r : Ex) : ACall Tryd.prog 45 [(Ex.nd (Int.ofNat (m + 8)) w o n l r).av] [] fun r0 H => r0 = .ret (.i .i64 (nodeE (Int.ofNat (m + 8)) w o n (!l.isNil) (!r.isNil))) ∧ H = [] := by
  rw [nodeE_p]
  cases l <;> cases r <;> cases w <;> cases o <;> rcases n with ((_ | q) | q) <;> (
    refine ACall.enter tok false Tryd.func45 rfl rfl rfl (AW_sound (ip := false) tok _ _ _ _ ?_)
    conv => whnf
    exact ⟨rfl, rfl⟩
    )
theorem oneR_n (m : Nat) (w o : Str) (n : Int) (l r : Ex) : ACall Tryd.prog 45 [(Ex.nd (Int.negSucc m) w o n l r).av] [] fun r0 H => r0 = .ret (.i .i64 (nodeE (Int.negSucc m) w o n (!l.isNil) (!r.isNil))) ∧ H = [] := by
  rw [nodeE_n]
  cases l <;> cases r <;> cases w <;> cases o <;> rcases n with ((_ | q) | q) <;> (
    refine ACall.enter tok false Tryd.func45 rfl rfl rfl (AW_sound (ip := false) tok _ _ _ _ ?_)
    conv => whnf
    exact ⟨rfl, rfl⟩
    )
end Go.AK
namespace Go.AK
open Go Go.RowKit Go.Proofs
set_option linter.unusedVariables false
set_option maxRecDepth 100000
theorem opsR_contains (o : Str) : opsR.contains o = opsL.contains o := by
  rw [Bool.eq_iff_iff]
  simp only [opsR, opsL, List.contains_iff_mem, List.mem_cons, List.not_mem_nil, or_false]
  constructor <;> (intro h; rcases h with h | h | h | h | h | h <;> simp [h])
theorem oneR_5 (w o : Str) (n : Int) (l r : Ex) : ACall Tryd.prog 45 [(Ex.nd 5 w o n l r).av] [] fun r0 H => r0 = .ret (.i .i64 (nodeE 5 w o n (!l.isNil) (!r.isNil))) ∧ H = [] := by
  have good : ∀ w, ACall Tryd.prog 45 [(Ex.nd 5 w [] 0 .nil .nil).av] [] fun r0 H => r0 = .ret (.i .i64 (nodeE 5 w [] 0 false false)) ∧ H = [] := by
    intro w
    cases w with
    | nil =>
      refine ACall.enter tok false Tryd.func45 rfl rfl rfl (AW_sound (ip := false) tok _ _ _ _ ?_)
      conv => whnf
      refine ADraw.ofS tok mixed false [4] [1, 2, 3, 4] [0, 5, 6] (by kernel_rfl) (fun _ _ _ _ h => h) ?_
      conv => whnf
      refine ACall.mono (flagsR_spec) ?_; rintro r0 H ⟨rfl, rfl⟩
      conv => whnf
      refine ACall.mono (in_spec flagsL [] (by decide)) ?_; rintro r0 H ⟨rfl, rfl⟩
      conv => whnf
      cases hc : flagsL.contains [] with
      | false =>
        conv => whnf
        exact ⟨congrArg (fun z => ARes.ret (AV.i IntKind.i64 z)) (by have hc2 := hc; simp at hc2; simp [nodeE, hc2]), rfl⟩
      | true => exact absurd hc (by decide)
    | cons c w =>
      refine ACall.enter tok false Tryd.func45 rfl rfl rfl (AW_sound (ip := false) tok _ _ _ _ ?_)
      conv => whnf
      refine ADraw.ofS tok mixed false [4] [1, 2, 3, 4] [0, 5, 6] (by kernel_rfl) (fun _ _ _ _ h => h) ?_
      conv => whnf
      refine ACall.mono (flagsR_spec) ?_; rintro r0 H ⟨rfl, rfl⟩
      conv => whnf
      refine ACall.mono (in_spec flagsL (c :: w) (by decide)) ?_; rintro r0 H ⟨rfl, rfl⟩
      conv => whnf
      cases hc : flagsL.contains (c :: w) with
      | false =>
        conv => whnf
        exact ⟨congrArg (fun z => ARes.ret (AV.i IntKind.i64 z)) (by have hc2 := hc; simp at hc2; simp [nodeE, hc2]), rfl⟩
      | true =>
        conv => whnf
        exact ⟨congrArg (fun z => ARes.ret (AV.i IntKind.i64 z)) (by have hc2 := hc; simp at hc2; simp [nodeE, hc2]), rfl⟩
  cases l <;> cases r <;> cases o <;> rcases n with ((_ | q) | q) <;> first | exact good w | (cases w <;> (
      refine ACall.enter tok false Tryd.func45 rfl rfl rfl (AW_sound (ip := false) tok _ _ _ _ ?_)
      conv => whnf
      exact ⟨rfl, rfl⟩
      ))
theorem oneR_4 (w o : Str) (n : Int) (l r : Ex) : ACall Tryd.prog 45 [(Ex.nd 4 w o n l r).av] [] fun r0 H => r0 = .ret (.i .i64 (nodeE 4 w o n (!l.isNil) (!r.isNil))) ∧ H = [] := by
  have good : ∀ w o n, ACall Tryd.prog 45 [(Ex.nd 4 w o n .nil .nil).av] [] fun r0 H => r0 = .ret (.i .i64 (nodeE 4 w o n false false)) ∧ H = [] := by
    intro w o n
    cases w with
    | cons c w =>
      refine ACall.enter tok false Tryd.func45 rfl rfl rfl (AW_sound (ip := false) tok _ _ _ _ ?_)
      conv => whnf
      refine ADraw.ofS tok mixed false [4] [1, 2, 3, 4] [0, 5, 6] (by kernel_rfl) (fun _ _ _ _ h => h) ?_
      conv => whnf
      refine ACall.mono (numbersR_spec) ?_; rintro r0 H ⟨rfl, rfl⟩
      conv => whnf
      refine ACall.mono (in_spec numbersL (c :: w) (by decide)) ?_; rintro r0 H ⟨rfl, rfl⟩
      conv => whnf
      cases hc : numbersL.contains (c :: w) with
      | false =>
        conv => whnf
        exact ⟨congrArg (fun z => ARes.ret (AV.i IntKind.i64 z)) (by have hc2 := hc; simp at hc2; simp [nodeE, hc2]), rfl⟩
      | true =>
        conv => whnf
        refine ADraw.ofS tok mixed false [4] [1, 2, 3, 4] [0, 5, 6] (by kernel_rfl) (fun _ _ _ _ h => h) ?_
        conv => whnf
        refine ACall.mono (opsR_spec) ?_; rintro r0 H ⟨rfl, rfl⟩
        conv => whnf
        refine ACall.mono (in_spec opsR o (by decide)) ?_; rintro r0 H ⟨rfl, rfl⟩
        conv => whnf
        cases hd : opsR.contains o with
        | false =>
          conv => whnf
          exact ⟨congrArg (fun z => ARes.ret (AV.i IntKind.i64 z)) (by have hc2 := hc; have hd2 := hd; rw [opsR_contains] at hd2; simp at hc2 hd2; simp [nodeE, hc2, hd2]), rfl⟩
        | true =>
          conv => whnf
          by_cases hneg : n < 0
          · (refine acond_t (decide_eq_true hneg) ?_; conv => whnf)
            exact ⟨congrArg (fun z => ARes.ret (AV.i IntKind.i64 z)) (by have hc2 := hc; have hd2 := hd; rw [opsR_contains] at hd2; simp at hc2 hd2; simp [nodeE, hc2, hd2, hneg]), rfl⟩
          · (refine acond_f (decide_eq_false hneg) ?_; conv => whnf)
            exact ⟨congrArg (fun z => ARes.ret (AV.i IntKind.i64 z)) (by have hc2 := hc; have hd2 := hd; rw [opsR_contains] at hd2; simp at hc2 hd2; simp [nodeE, hc2, hd2, hneg]), rfl⟩
    | nil =>
      cases o with
      | cons d o =>
        refine ACall.enter tok false Tryd.func45 rfl rfl rfl (AW_sound (ip := false) tok _ _ _ _ ?_)
        conv => whnf
        refine ADraw.ofS tok mixed false [4] [1, 2, 3, 4] [0, 5, 6] (by kernel_rfl) (fun _ _ _ _ h => h) ?_
        conv => whnf
        refine ACall.mono (numbersR_spec) ?_; rintro r0 H ⟨rfl, rfl⟩
        conv => whnf
        refine ACall.mono (in_spec numbersL [] (by decide)) ?_; rintro r0 H ⟨rfl, rfl⟩
        conv => whnf
        cases hc : numbersL.contains [] with
        | false =>
          conv => whnf
          exact ⟨congrArg (fun z => ARes.ret (AV.i IntKind.i64 z)) (by have hc2 := hc; simp at hc2; simp [nodeE, hc2]), rfl⟩
        | true => exact absurd hc (by decide)
      | nil =>
        cases hn : (n == 0) with
        | false =>
          refine ACall.enter tok false Tryd.func45 rfl rfl rfl (AW_sound (ip := false) tok _ _ _ _ ?_)
          conv => whnf
          repeat (refine acond_f (hn) ?_; conv => whnf)
          refine ADraw.ofS tok mixed false [4] [1, 2, 3, 4] [0, 5, 6] (by kernel_rfl) (fun _ _ _ _ h => h) ?_
          conv => whnf
          refine ACall.mono (numbersR_spec) ?_; rintro r0 H ⟨rfl, rfl⟩
          conv => whnf
          refine ACall.mono (in_spec numbersL [] (by decide)) ?_; rintro r0 H ⟨rfl, rfl⟩
          conv => whnf
          cases hc : numbersL.contains [] with
          | false =>
            conv => whnf
            exact ⟨congrArg (fun z => ARes.ret (AV.i IntKind.i64 z)) (by have hc2 := hc; simp at hc2; simp [nodeE, hc2]), rfl⟩
          | true => exact absurd hc (by decide)
        | true =>
          refine ACall.enter tok false Tryd.func45 rfl rfl rfl (AW_sound (ip := false) tok _ _ _ _ ?_)
          conv => whnf
          repeat (refine acond_t (hn) ?_; conv => whnf)
          refine ADraw.ofS tok mixed false [4] [1, 2, 3, 4] [0, 5, 6] (by kernel_rfl) (fun _ _ _ _ h => h) ?_
          conv => whnf
          refine ACall.mono (numbersR_spec) ?_; rintro r0 H ⟨rfl, rfl⟩
          conv => whnf
          refine ACall.mono (in_spec numbersL [] (by decide)) ?_; rintro r0 H ⟨rfl, rfl⟩
          conv => whnf
          cases hc : numbersL.contains [] with
          | false =>
            conv => whnf
            exact ⟨congrArg (fun z => ARes.ret (AV.i IntKind.i64 z)) (by have hc2 := hc; simp at hc2; simp [nodeE, hc2]), rfl⟩
          | true => exact absurd hc (by decide)
  cases l <;> cases r <;> first | exact good w o n | (cases w <;> cases o <;> rcases n with ((_ | q) | q) <;> (
      refine ACall.enter tok false Tryd.func45 rfl rfl rfl (AW_sound (ip := false) tok _ _ _ _ ?_)
      conv => whnf
      exact ⟨rfl, rfl⟩
      ))
end Go.AK
namespace Go.AK
open Go Go.RowKit Go.Proofs
set_option linter.unusedVariables false
set_option maxRecDepth 100000
theorem oneR_spec (k : Int) (w o : Str) (n : Int) (l r : Ex) : ACall Tryd.prog 45 [(Ex.nd k w o n l r).av] [] fun r0 H => r0 = .ret (.i .i64 (nodeE k w o n (!l.isNil) (!r.isNil))) ∧ H = [] := by
  by_cases h1 : k = 1
  · subst h1; exact oneR_1 w o n l r
  by_cases h2 : k = 2
  · subst h2; exact oneR_2 w o n l r
  by_cases h3 : k = 3
  · subst h3; exact oneR_3 w o n l r
  by_cases h4 : k = 4
  · subst h4; exact oneR_4 w o n l r
  by_cases h5 : k = 5
  · subst h5; exact oneR_5 w o n l r
  by_cases h6 : k = 6
  · subst h6; exact oneR_6 w o n l r
  by_cases h7 : k = 7
  · subst h7; exact oneR_7 w o n l r
  match k, h1, h2, h3, h4, h5, h6, h7 with
  | .ofNat 0, _, _, _, _, _, _, _ => exact oneR_z w o n l r
  | .ofNat (m + 8), _, _, _, _, _, _, _ => exact oneR_p m w o n l r
  | .negSucc m, _, _, _, _, _, _, _ => exact oneR_n m w o n l r
/-- How a tree is wrong. -/
def Ex.treeE : Ex → Int
  | .nil => 0
  | .nd k w o n l r => if nodeE k w o n (!l.isNil) (!r.isNil) = 0 then (if l.treeE = 0 then r.treeE else l.treeE) else nodeE k w o n (!l.isNil) (!r.isNil)
/-- How an expression is wrong. -/
def Ex.checkE (x : Ex) : Int := if x.isNil then 2 else if 64 < x.depth then 12 else x.treeE
theorem tree_spec (x : Ex) : ACall Tryd.prog 34 [x.av] [] fun r H => r = .ret (.i .i64 x.treeE) ∧ H = [] := by
  induction x with
  | nil =>
    refine ACall.enter tok false Tryd.func34 rfl rfl rfl (AW_sound (ip := false) tok _ _ _ _ ?_)
    conv => whnf
    exact ⟨rfl, rfl⟩
  | nd k w o n l r ihl ihr =>
    have hn := node_spec k w o n l r
    rw [Ex.treeE]
    generalize nodeE k w o n (!l.isNil) (!r.isNil) = a at hn ⊢
    generalize l.treeE = b at ihl ⊢
    generalize r.treeE = c at ihr ⊢
    refine ACall.gh ?_
    refine ACall.enter tok false Tryd.func34 rfl rfl rfl (AW_sound (ip := false) tok _ _ _ _ ?_)
    conv => whnf
    refine ADraw.ofS tok mixed false [5, 10] [0, 2, 3, 4, 5, 7, 8, 9, 10, 14] [1, 6, 11, 12, 13] (by kernel_rfl) (fun _ _ _ _ h => h) ?_
    conv => whnf
    refine ACall.mono hn ?_; rintro r0 H ⟨rfl, rfl⟩
    conv => whnf
    refine ACall.mono ihl ?_; rintro r0 H ⟨rfl, rfl⟩
    conv => whnf
    refine ACall.mono ihr ?_; rintro r0 H ⟨rfl, rfl⟩
    conv => whnf
    refine ALoopR.loop (n := 4) ?_
    refine ALoopR.to [21, 20, 19, 2] (r' := [(21, .i .i64 0), (20, .i .i64 3), (19, .sl (some (0, 0)) 1 3 3), (2, .i .i64 0)]) (H' := [.c [.i .i64 a, .i .i64 b, .i .i64 c]]) (by kernel_rfl) (by kernel_rfl) ?_
    refine ALoopR.step (ip := false) tok ?_
    conv => whnf
    refine ⟨by decide, ?_⟩
    conv => whnf
    by_cases ha : a = 0
    · (refine acond_f (show (a != 0) = false from by simpa using ha) ?_; conv => whnf)
      rw [if_pos ha]
      refine ALoopR.to [21, 20, 19, 2] (r' := [(21, .i .i64 1), (20, .i .i64 3), (19, .sl (some (0, 0)) 1 3 3), (2, .i .i64 0)]) (H' := [.c [.i .i64 a, .i .i64 b, .i .i64 c]]) (by kernel_rfl) (by kernel_rfl) ?_
      refine ALoopR.step (ip := false) tok ?_
      conv => whnf
      refine ⟨by decide, ?_⟩
      conv => whnf
      by_cases hb : b = 0
      · (refine acond_f (show (b != 0) = false from by simpa using hb) ?_; conv => whnf)
        refine ALoopR.to [21, 20, 19, 2] (r' := [(21, .i .i64 2), (20, .i .i64 3), (19, .sl (some (0, 0)) 1 3 3), (2, .i .i64 0)]) (H' := [.c [.i .i64 a, .i .i64 b, .i .i64 c]]) (by kernel_rfl) (by kernel_rfl) ?_
        refine ALoopR.step (ip := false) tok ?_
        conv => whnf
        refine ⟨by decide, ?_⟩
        conv => whnf
        by_cases hc : c = 0
        · (refine acond_f (show (c != 0) = false from by simpa using hc) ?_; conv => whnf)
          refine ALoopR.to [21, 20, 19, 2] (r' := [(21, .i .i64 3), (20, .i .i64 3), (19, .sl (some (0, 0)) 1 3 3), (2, .i .i64 0)]) (H' := [.c [.i .i64 a, .i .i64 b, .i .i64 c]]) (by kernel_rfl) (by kernel_rfl) ?_
          refine ALoopR.step (ip := false) tok ?_
          conv => whnf
          exact GhR.sel [] rfl (GhR.of ⟨congrArg (fun z => ARes.ret (AV.i IntKind.i64 z)) (by simp [hb, hc]), rfl⟩)
        · (refine acond_t (show (c != 0) = true from by simpa using hc) ?_; conv => whnf)
          exact GhR.sel [] rfl (GhR.of ⟨congrArg (fun z => ARes.ret (AV.i IntKind.i64 z)) (by simp [hb]), rfl⟩)
      · (refine acond_t (show (b != 0) = true from by simpa using hb) ?_; conv => whnf)
        exact GhR.sel [] rfl (GhR.of ⟨congrArg (fun z => ARes.ret (AV.i IntKind.i64 z)) (by simp [hb]), rfl⟩)
    · (refine acond_t (show (a != 0) = true from by simpa using ha) ?_; conv => whnf)
      exact GhR.sel [] rfl (GhR.of ⟨congrArg (fun z => ARes.ret (AV.i IntKind.i64 z)) (by simp [ha]), rfl⟩)
end Go.AK
namespace Go.AK
open Go Go.RowKit Go.Proofs
set_option linter.unusedVariables false
set_option maxRecDepth 100000
theorem depthR_spec (x : Ex) : x.depth < 1000000 → ACall Tryd.prog 20 [x.av] [] fun r H => r = .ret (.i .i64 x.depth) ∧ H = [] := by
  induction x with
  | nil =>
    intro _
    refine ACall.enter tok false Tryd.func20 rfl rfl rfl (AW_sound (ip := false) tok _ _ _ _ ?_)
    conv => whnf
    exact ⟨rfl, rfl⟩
  | nd k w o n l r ihl ihr =>
    intro h
    simp only [Ex.depth] at h
    refine ACall.enter tok false Tryd.func20 rfl rfl rfl (AW_sound (ip := false) tok _ _ _ _ ?_)
    conv => whnf
    refine ACall.mono (ihl (by omega)) ?_; rintro r0 H ⟨rfl, rfl⟩
    conv => whnf
    refine ACall.mono (ihr (by omega)) ?_; rintro r0 H ⟨rfl, rfl⟩
    conv => whnf
    by_cases hd : (r.depth : Int) > l.depth
    · (refine acond_t (decide_eq_true hd) ?_; conv => whnf)
      refine ⟨congrArg ARes.ret (congrArg (AV.i IntKind.i64) ?_), rfl⟩
      rw [wrap_small (by omega) (by omega)]
      simp only [Ex.depth]; omega
    · (refine acond_f (decide_eq_false hd) ?_; conv => whnf)
      refine ⟨congrArg ARes.ret (congrArg (AV.i IntKind.i64) ?_), rfl⟩
      rw [wrap_small (by omega) (by omega)]
      simp only [Ex.depth]; omega
theorem all_spec (x : Ex) : ACall Tryd.prog 32 [x.av] [] fun r H => r = .ret (.i .i64 x.treeE) ∧ H = [] := by
  induction x with
  | nil =>
    refine ACall.enter tok false Tryd.func32 rfl rfl rfl (AW_sound (ip := false) tok _ _ _ _ ?_)
    conv => whnf
    exact ⟨rfl, rfl⟩
  | nd k w o n l r ihl ihr =>
    have hn := oneR_spec k w o n l r
    rw [Ex.treeE]
    generalize nodeE k w o n (!l.isNil) (!r.isNil) = a at hn ⊢
    generalize l.treeE = b at ihl ⊢
    generalize r.treeE = c at ihr ⊢
    refine ACall.enter tok false Tryd.func32 rfl rfl rfl (AW_sound (ip := false) tok _ _ _ _ ?_)
    conv => whnf
    refine ACall.mono hn ?_; rintro r0 H ⟨rfl, rfl⟩
    conv => whnf
    by_cases ha : a = 0
    · (refine acond_t (show (a == 0) = true from by simpa using ha) ?_; conv => whnf)
      refine ACall.mono ihl ?_; rintro r0 H ⟨rfl, rfl⟩
      conv => whnf
      by_cases hb : b = 0
      · (refine acond_t (show (b == 0) = true from by simpa using hb) ?_; conv => whnf)
        refine ACall.mono ihr ?_; rintro r0 H ⟨rfl, rfl⟩
        conv => whnf
        exact ⟨congrArg (fun z => ARes.ret (AV.i IntKind.i64 z)) (by simp [ha, hb]), rfl⟩
      · (refine acond_f (show (b == 0) = false from by simpa using hb) ?_; conv => whnf)
        exact ⟨congrArg (fun z => ARes.ret (AV.i IntKind.i64 z)) (by simp [ha, hb]), rfl⟩
    · (refine acond_f (show (a == 0) = false from by simpa using ha) ?_; conv => whnf)
      (refine acond_f (show (a == 0) = false from by simpa using ha) ?_; conv => whnf)
      exact ⟨congrArg (fun z => ARes.ret (AV.i IntKind.i64 z)) (by simp [ha]), rfl⟩
theorem check_spec (x : Ex) (h : x.depth < 1000000) : ACall Tryd.prog 18 [x.av] [] fun r H => r = .ret (.i .i64 x.checkE) ∧ H = [] := by
  refine ACall.enter tok false Tryd.func18 rfl rfl rfl (AW_sound (ip := false) tok _ _ _ _ ?_)
  cases x with
  | nil =>
    conv => whnf
    exact ⟨rfl, rfl⟩
  | nd k w o n l r =>
    have hd := depth_spec (.nd k w o n l r) h
    have ht := tree_spec (.nd k w o n l r)
    have he : (Ex.nd k w o n l r).checkE = if 64 < (Ex.nd k w o n l r).depth then 12 else (Ex.nd k w o n l r).treeE := by simp [Ex.checkE, Ex.isNil]
    rw [he]
    generalize (Ex.nd k w o n l r).treeE = b at ht ⊢
    generalize (Ex.nd k w o n l r).depth = d at hd ⊢
    conv => whnf
    refine ACall.mono hd ?_; rintro r0 H ⟨rfl, rfl⟩
    conv => whnf
    by_cases hg : (d : Int) > 64
    · (refine acond_t (decide_eq_true hg) ?_; conv => whnf)
      exact ⟨congrArg (fun z => ARes.ret (AV.i IntKind.i64 z)) (by rw [if_pos (by omega)]), rfl⟩
    · (refine acond_f (decide_eq_false hg) ?_; conv => whnf)
      refine ACall.mono ht ?_; rintro r0 H ⟨rfl, rfl⟩
      conv => whnf
      exact ⟨congrArg (fun z => ARes.ret (AV.i IntKind.i64 z)) (by rw [if_neg (by omega)]), rfl⟩
theorem checkR_spec (x : Ex) (h : x.depth < 1000000) : ACall Tryd.prog 16 [x.av] [] fun r H => r = .ret (.i .i64 x.checkE) ∧ H = [] := by
  refine ACall.enter tok false Tryd.func16 rfl rfl rfl (AW_sound (ip := false) tok _ _ _ _ ?_)
  cases x with
  | nil =>
    conv => whnf
    exact ⟨rfl, rfl⟩
  | nd k w o n l r =>
    have hd := depthR_spec (.nd k w o n l r) h
    have ht := all_spec (.nd k w o n l r)
    have he : (Ex.nd k w o n l r).checkE = if 64 < (Ex.nd k w o n l r).depth then 12 else (Ex.nd k w o n l r).treeE := by simp [Ex.checkE, Ex.isNil]
    rw [he]
    generalize (Ex.nd k w o n l r).treeE = b at ht ⊢
    generalize (Ex.nd k w o n l r).depth = d at hd ⊢
    conv => whnf
    refine ACall.mono hd ?_; rintro r0 H ⟨rfl, rfl⟩
    conv => whnf
    by_cases hg : (d : Int) > 64
    · (refine acond_t (decide_eq_true hg) ?_; conv => whnf)
      exact ⟨congrArg (fun z => ARes.ret (AV.i IntKind.i64 z)) (by rw [if_pos (by omega)]), rfl⟩
    · (refine acond_f (decide_eq_false hg) ?_; conv => whnf)
      refine ACall.mono ht ?_; rintro r0 H ⟨rfl, rfl⟩
      conv => whnf
      exact ⟨congrArg (fun z => ARes.ret (AV.i IntKind.i64 z)) (by rw [if_neg (by omega)]), rfl⟩
end Go.AK
namespace Go.AK
open Go Go.RowKit Go.Proofs
set_option linter.unusedVariables false
set_option maxRecDepth 100000
/-- How close a kind binds. -/
def bindsI (k : Int) : Int := if k = 3 then 1 else if k = 2 then 2 else if k = 1 then 3 else 4
theorem binds_spec (k : Int) : ACall Tryd.prog 46 [.i .i64 k] [] fun r H => r = .ret (.i .i64 (bindsI k)) ∧ H = [] := by
  match k with
  | .ofNat 0 =>
    refine ACall.enter tok false Tryd.func46 rfl rfl rfl (AW_sound (ip := false) tok _ _ _ _ ?_)
    conv => whnf
    exact ⟨rfl, rfl⟩
  | .ofNat 1 =>
    refine ACall.enter tok false Tryd.func46 rfl rfl rfl (AW_sound (ip := false) tok _ _ _ _ ?_)
    conv => whnf
    exact ⟨rfl, rfl⟩
  | .ofNat 2 =>
    refine ACall.enter tok false Tryd.func46 rfl rfl rfl (AW_sound (ip := false) tok _ _ _ _ ?_)
    conv => whnf
    exact ⟨rfl, rfl⟩
  | .ofNat 3 =>
    refine ACall.enter tok false Tryd.func46 rfl rfl rfl (AW_sound (ip := false) tok _ _ _ _ ?_)
    conv => whnf
    exact ⟨rfl, rfl⟩
  | .ofNat (m + 4) =>
    refine ACall.enter tok false Tryd.func46 rfl rfl rfl (AW_sound (ip := false) tok _ _ _ _ ?_)
    conv => whnf
    exact ⟨rfl, rfl⟩
  | .negSucc m =>
    refine ACall.enter tok false Tryd.func46 rfl rfl rfl (AW_sound (ip := false) tok _ _ _ _ ?_)
    conv => whnf
    exact ⟨rfl, rfl⟩
end Go.AK
namespace Go.AK
open Go Go.RowKit Go.Proofs
set_option linter.unusedVariables false
set_option maxRecDepth 100000
def wOrS : Str := [32, 111, 114, 32]
def wAndS : Str := [32, 97, 110, 100, 32]
def wNotS : Str := [110, 111, 116, 32]
def around (t : Str) (b : Bool) : Str := if b then 40 :: (t ++ [41]) else t
/-- The text of a part that has to bind so close. -/
def Ex.txt : Ex → Int → Str
  | .nil, _ => []
  | .nd k w o n l r, c =>
    around (if k = 3 then l.txt 1 ++ (wOrS ++ r.txt 2) else if k = 2 then l.txt 2 ++ (wAndS ++ r.txt 3) else if k = 1 then wNotS ++ l.txt 3
      else if k = 4 then w ++ ([32] ++ (o ++ ([32] ++ Lib.itoa n))) else if k = 5 then w else if k = 6 then wTrue else wFalse) (decide (bindsI k < c))
/-- A bound of a text's length. -/
def Ex.wt : Ex → Nat
  | .nil => 0
  | .nd _ w o _ l r => l.wt + r.wt + w.length + o.length + 40
theorem itoa_len (n : Int) (h0 : -9223372036854775808 ≤ n) (h1 : n ≤ 9223372036854775807) : (Lib.itoa n).length ≤ 21 := Lib.itoa_length_le n h0 h1
/-- Numbers are ints. -/
def Ex.okN : Ex → Prop
  | .nil => True
  | .nd _ _ _ n l r => (-9223372036854775808 ≤ n ∧ n ≤ 9223372036854775807) ∧ l.okN ∧ r.okN
theorem around_len (t : Str) (b : Bool) : (around t b).length ≤ t.length + 2 := by
  cases b <;> simp [around]
theorem Ex.txt_le : ∀ (x : Ex) (c : Int), x.okN → (x.txt c).length ≤ x.wt
  | .nil, c, _ => by simp [Ex.txt]
  | .nd k w o n l r, c, ⟨⟨h0, h1⟩, hl, hr⟩ => by
    have a1 := Ex.txt_le l 1 hl
    have a2 := Ex.txt_le l 2 hl
    have a3 := Ex.txt_le l 3 hl
    have b2 := Ex.txt_le r 2 hr
    have b3 := Ex.txt_le r 3 hr
    have hi := itoa_len n h0 h1
    rw [Ex.txt, Ex.wt]
    refine Nat.le_trans (around_len _ _) ?_
    split
    · simp only [List.length_append, wOrS, List.length_cons, List.length_nil]; omega
    split
    · simp only [List.length_append, wAndS, List.length_cons, List.length_nil]; omega
    split
    · simp only [List.length_append, wNotS, List.length_cons, List.length_nil]; omega
    split
    · simp only [List.length_append, List.length_cons, List.length_nil]; omega
    split
    · omega
    split
    · simp only [wTrue, List.length_cons, List.length_nil]; omega
    · simp only [wFalse, List.length_cons, List.length_nil]; omega
end Go.AK
