/- Texts SGlob, SBase, SEBase, SELays, SELib, SEDefs, SEStr, SENode, SENode5, SENode4, SENodeX, SENodeB, SEOne, SEOne4, SEDepth, SECheck, SECheck2, SEBinds, SETextP, SEMod, SERun: an evaluator of the model's code, proved sound, and what the program's functions do, for all inputs. -/
import Derived.Test.YtgedgleipefinaaDoorMA2
import Derived.Lib.LaidTab
import Derived.Lib.ItoaMem
import Derived.Lib.ItoaWalk
import Derived.Test.YtgedgleipefinaaDoorProg
import Derived.KernelRfl
import Derived.Shelf.Strconv.ErrVarAll
import Derived.Shelf.Strconv.Itoa4
import Derived.Shelf.Small.Wraps
import Derived.Ground.NamesProg
import Derived.Lib.AppendIntMem
import Derived.Lib.ItoaLen
set_option linter.unusedVariables false
set_option linter.unusedSimpArgs false
set_option linter.unusedSectionVars false
namespace Go.AK
open Go Go.RowKit
/-- What the seat's rows say of the program's variables. -/
instance theGlobs : Globs := ⟨⟨fun I => (∃ t z, I 0 = some (.cells (Lib.pow10Tab.map fun z => Value.int .u64 z).toArray t z)) ∧ (∃ tp p t z, I 3 = some (.cells #[.iface tp p] t z)) ∧ (∃ tp p t z, I 4 = some (.cells #[.iface tp p] t z)),
  fun I I' h ⟨⟨t, z, h1⟩, ⟨tp, p, t2, z2, h2⟩, ⟨tp3, p3, t3, z3, h3⟩⟩ => ⟨⟨t, z, h _ _ h1⟩, ⟨tp, p, t2, z2, h _ _ h2⟩, ⟨tp3, p3, t3, z3, h _ _ h3⟩⟩⟩⟩
end Go.AK
namespace Go.AK
open Go Go.RowKit Go.Proofs
set_option linter.unusedVariables false
def T : TT := [
  (1, ⟨.fn, 1, 8, .nilf⟩),
  (2, ⟨.int .i64, 1, 8, .i .i64 0⟩),
  (3, ⟨.int .i64, 1, 8, .i .i64 0⟩),
  (4, ⟨.bool, 1, 1, .b false⟩),
  (5, ⟨.int .u8, 1, 1, .i .u8 0⟩),
  (6, ⟨.int .u8, 1, 1, .i .u8 0⟩),
  (7, ⟨.st [(0, 2), (1, 3), (2, 4), (3, 6)], 4, 24, .agg [.i .i64 0, .i .i64 0, .b false, .i .u8 0]⟩),
  (8, ⟨.st [(0, 2), (1, 3), (2, 4), (3, 6)], 4, 24, .agg [.i .i64 0, .i .i64 0, .b false, .i .u8 0]⟩),
  (9, ⟨.str, 1, 16, .s ⟨#[]⟩⟩),
  (10, ⟨.str, 1, 16, .s ⟨#[]⟩⟩),
  (11, ⟨.str, 1, 16, .s ⟨#[]⟩⟩),
  (12, ⟨.int .u64, 1, 8, .i .u64 0⟩),
  (13, ⟨.st [(0, 9), (1, 12)], 2, 24, .agg [.s ⟨#[]⟩, .i .u64 0]⟩),
  (14, ⟨.st [(0, 9), (1, 12)], 2, 24, .agg [.s ⟨#[]⟩, .i .u64 0]⟩),
  (15, ⟨.ptr 139, 1, 8, .p none⟩),
  (16, ⟨.ptr 142, 1, 8, .p none⟩),
  (17, ⟨.ptr 149, 1, 8, .p none⟩),
  (18, ⟨.st [(0, 17)], 1, 8, .agg [.p none]⟩),
  (19, ⟨.st [(0, 17)], 1, 8, .agg [.p none]⟩),
  (20, ⟨.ifc, 1, 16, .nili⟩),
  (21, ⟨.int .i32, 1, 4, .i .i32 0⟩),
  (22, ⟨.fn, 1, 8, .nilf⟩),
  (23, ⟨.ptr 55, 1, 8, .p none⟩),
  (24, ⟨.int .i64, 1, 8, .i .i64 0⟩),
  (26, ⟨.fn, 1, 8, .nilf⟩),
  (27, ⟨.ptr 76, 1, 8, .p none⟩),
  (29, ⟨.fn, 1, 8, .nilf⟩),
  (30, ⟨.fn, 1, 8, .nilf⟩),
  (31, ⟨.fn, 1, 8, .nilf⟩),
  (32, ⟨.fn, 1, 8, .nilf⟩),
  (33, ⟨.sl 78, 1, 24, .sl none 0 0 0⟩),
  (34, ⟨.fn, 1, 8, .nilf⟩),
  (35, ⟨.fn, 1, 8, .nilf⟩),
  (36, ⟨.fn, 1, 8, .nilf⟩),
  (38, ⟨.fn, 1, 8, .nilf⟩),
  (39, ⟨.fn, 1, 8, .nilf⟩),
  (40, ⟨.fn, 1, 8, .nilf⟩),
  (41, ⟨.fn, 1, 8, .nilf⟩),
  (42, ⟨.fn, 1, 8, .nilf⟩),
  (43, ⟨.fn, 1, 8, .nilf⟩),
  (44, ⟨.fn, 1, 8, .nilf⟩),
  (45, ⟨.fn, 1, 8, .nilf⟩),
  (46, ⟨.fn, 1, 8, .nilf⟩),
  (47, ⟨.arr 2 3, 2, 16, .agg [.i .i64 0, .i .i64 0]⟩),
  (48, ⟨.sl 5, 1, 24, .sl none 0 0 0⟩),
  (49, ⟨.fn, 1, 8, .nilf⟩),
  (50, ⟨.arr 3 33, 3, 72, .agg [.sl none 0 0 0, .sl none 0 0 0, .sl none 0 0 0]⟩),
  (51, ⟨.arr 2 4, 2, 2, .agg [.b false, .b false]⟩),
  (52, ⟨.arr 3 4, 3, 3, .agg [.b false, .b false, .b false]⟩),
  (53, ⟨.arr 3 23, 3, 24, .agg [.p none, .p none, .p none]⟩),
  (54, ⟨.st [(0, 3), (1, 9), (2, 9), (3, 3), (4, 23), (5, 23)], 6, 64, .agg [.i .i64 0, .s ⟨#[]⟩, .s ⟨#[]⟩, .i .i64 0, .p none, .p none]⟩),
  (55, ⟨.st [(0, 3), (1, 9), (2, 9), (3, 3), (4, 23), (5, 23)], 6, 64, .agg [.i .i64 0, .s ⟨#[]⟩, .s ⟨#[]⟩, .i .i64 0, .p none, .p none]⟩),
  (56, ⟨.fn, 1, 8, .nilf⟩),
  (57, ⟨.fn, 1, 8, .nilf⟩),
  (58, ⟨.st [(0, 3), (1, 24)], 2, 16, .agg [.i .i64 0, .i .i64 0]⟩),
  (59, ⟨.st [(0, 3), (1, 24)], 2, 16, .agg [.i .i64 0, .i .i64 0]⟩),
  (61, ⟨.ptr 63, 1, 8, .p none⟩),
  (62, ⟨.st [(0, 9), (1, 3), (2, 9), (3, 3)], 4, 48, .agg [.s ⟨#[]⟩, .i .i64 0, .s ⟨#[]⟩, .i .i64 0]⟩),
  (63, ⟨.st [(0, 9), (1, 3), (2, 9), (3, 3)], 4, 48, .agg [.s ⟨#[]⟩, .i .i64 0, .s ⟨#[]⟩, .i .i64 0]⟩),
  (64, ⟨.fn, 1, 8, .nilf⟩),
  (65, ⟨.fn, 1, 8, .nilf⟩),
  (66, ⟨.ptr 70, 1, 8, .p none⟩),
  (67, ⟨.sl 73, 1, 24, .sl none 0 0 0⟩),
  (68, ⟨.fn, 1, 8, .nilf⟩),
  (69, ⟨.st [(0, 67), (1, 3), (2, 3), (3, 3), (4, 24)], 5, 56, .agg [.sl none 0 0 0, .i .i64 0, .i .i64 0, .i .i64 0, .i .i64 0]⟩),
  (70, ⟨.st [(0, 67), (1, 3), (2, 3), (3, 3), (4, 24)], 5, 56, .agg [.sl none 0 0 0, .i .i64 0, .i .i64 0, .i .i64 0, .i .i64 0]⟩),
  (71, ⟨.fn, 1, 8, .nilf⟩),
  (72, ⟨.st [(0, 9), (1, 3)], 2, 24, .agg [.s ⟨#[]⟩, .i .i64 0]⟩),
  (73, ⟨.st [(0, 9), (1, 3)], 2, 24, .agg [.s ⟨#[]⟩, .i .i64 0]⟩),
  (74, ⟨.fn, 1, 8, .nilf⟩),
  (75, ⟨.st [(0, 3), (1, 9), (2, 9), (3, 3), (4, 27), (5, 27)], 6, 64, .agg [.i .i64 0, .s ⟨#[]⟩, .s ⟨#[]⟩, .i .i64 0, .p none, .p none]⟩),
  (76, ⟨.st [(0, 3), (1, 9), (2, 9), (3, 3), (4, 27), (5, 27)], 6, 64, .agg [.i .i64 0, .s ⟨#[]⟩, .s ⟨#[]⟩, .i .i64 0, .p none, .p none]⟩),
  (77, ⟨.st [(0, 3), (1, 9), (2, 9), (3, 3), (4, 3), (5, 3)], 6, 64, .agg [.i .i64 0, .s ⟨#[]⟩, .s ⟨#[]⟩, .i .i64 0, .i .i64 0, .i .i64 0]⟩),
  (78, ⟨.st [(0, 3), (1, 9), (2, 9), (3, 3), (4, 3), (5, 3)], 6, 64, .agg [.i .i64 0, .s ⟨#[]⟩, .s ⟨#[]⟩, .i .i64 0, .i .i64 0, .i .i64 0]⟩),
  (79, ⟨.sl 4, 1, 24, .sl none 0 0 0⟩),
  (80, ⟨.fn, 1, 8, .nilf⟩),
  (81, ⟨.fn, 1, 8, .nilf⟩),
  (82, ⟨.fn, 1, 8, .nilf⟩),
  (83, ⟨.fn, 1, 8, .nilf⟩),
  (84, ⟨.fn, 1, 8, .nilf⟩),
  (85, ⟨.sl 9, 1, 24, .sl none 0 0 0⟩),
  (86, ⟨.fn, 1, 8, .nilf⟩),
  (87, ⟨.fn, 1, 8, .nilf⟩),
  (88, ⟨.fn, 1, 8, .nilf⟩),
  (89, ⟨.fn, 1, 8, .nilf⟩),
  (90, ⟨.fn, 1, 8, .nilf⟩),
  (91, ⟨.sl 24, 1, 24, .sl none 0 0 0⟩),
  (92, ⟨.fn, 1, 8, .nilf⟩),
  (93, ⟨.fn, 1, 8, .nilf⟩),
  (94, ⟨.mp 9 3, 1, 8, .m none⟩),
  (95, ⟨.fn, 1, 8, .nilf⟩),
  (96, ⟨.fn, 1, 8, .nilf⟩),
  (97, ⟨.arr 24 5, 24, 24, .agg [.i .u8 0, .i .u8 0, .i .u8 0, .i .u8 0, .i .u8 0, .i .u8 0, .i .u8 0, .i .u8 0, .i .u8 0, .i .u8 0, .i .u8 0, .i .u8 0, .i .u8 0, .i .u8 0, .i .u8 0, .i .u8 0, .i .u8 0, .i .u8 0, .i .u8 0, .i .u8 0, .i .u8 0, .i .u8 0, .i .u8 0, .i .u8 0]⟩),
  (98, ⟨.int .u64, 1, 8, .i .u64 0⟩),
  (99, ⟨.fn, 1, 8, .nilf⟩),
  (100, ⟨.fn, 1, 8, .nilf⟩),
  (102, ⟨.fn, 1, 8, .nilf⟩),
  (103, ⟨.ifc, 1, 16, .nili⟩),
  (104, ⟨.ifc, 1, 16, .nili⟩),
  (106, ⟨.fn, 1, 8, .nilf⟩),
  (108, ⟨.fn, 1, 8, .nilf⟩),
  (109, ⟨.fn, 1, 8, .nilf⟩),
  (110, ⟨.arr 20 98, 20, 160, .agg [.i .u64 0, .i .u64 0, .i .u64 0, .i .u64 0, .i .u64 0, .i .u64 0, .i .u64 0, .i .u64 0, .i .u64 0, .i .u64 0, .i .u64 0, .i .u64 0, .i .u64 0, .i .u64 0, .i .u64 0, .i .u64 0, .i .u64 0, .i .u64 0, .i .u64 0, .i .u64 0]⟩),
  (111, ⟨.int .u32, 1, 4, .i .u32 0⟩),
  (112, ⟨.arr 65 5, 65, 65, .agg [.i .u8 0, .i .u8 0, .i .u8 0, .i .u8 0, .i .u8 0, .i .u8 0, .i .u8 0, .i .u8 0, .i .u8 0, .i .u8 0, .i .u8 0, .i .u8 0, .i .u8 0, .i .u8 0, .i .u8 0, .i .u8 0, .i .u8 0, .i .u8 0, .i .u8 0, .i .u8 0, .i .u8 0, .i .u8 0, .i .u8 0, .i .u8 0, .i .u8 0, .i .u8 0, .i .u8 0, .i .u8 0, .i .u8 0, .i .u8 0, .i .u8 0, .i .u8 0, .i .u8 0, .i .u8 0, .i .u8 0, .i .u8 0, .i .u8 0, .i .u8 0, .i .u8 0, .i .u8 0, .i .u8 0, .i .u8 0, .i .u8 0, .i .u8 0, .i .u8 0, .i .u8 0, .i .u8 0, .i .u8 0, .i .u8 0, .i .u8 0, .i .u8 0, .i .u8 0, .i .u8 0, .i .u8 0, .i .u8 0, .i .u8 0, .i .u8 0, .i .u8 0, .i .u8 0, .i .u8 0, .i .u8 0, .i .u8 0, .i .u8 0, .i .u8 0, .i .u8 0]⟩),
  (113, ⟨.fn, 1, 8, .nilf⟩),
  (114, ⟨.int .u64, 1, 8, .i .u64 0⟩),
  (115, ⟨.fn, 1, 8, .nilf⟩),
  (116, ⟨.fn, 1, 8, .nilf⟩),
  (117, ⟨.fn, 1, 8, .nilf⟩),
  (118, ⟨.int .i64, 1, 8, .i .i64 0⟩),
  (120, ⟨.fn, 1, 8, .nilf⟩),
  (121, ⟨.ptr 130, 1, 8, .p none⟩),
  (122, ⟨.fn, 1, 8, .nilf⟩),
  (123, ⟨.fn, 1, 8, .nilf⟩),
  (124, ⟨.arr 32 5, 32, 32, .agg [.i .u8 0, .i .u8 0, .i .u8 0, .i .u8 0, .i .u8 0, .i .u8 0, .i .u8 0, .i .u8 0, .i .u8 0, .i .u8 0, .i .u8 0, .i .u8 0, .i .u8 0, .i .u8 0, .i .u8 0, .i .u8 0, .i .u8 0, .i .u8 0, .i .u8 0, .i .u8 0, .i .u8 0, .i .u8 0, .i .u8 0, .i .u8 0, .i .u8 0, .i .u8 0, .i .u8 0, .i .u8 0, .i .u8 0, .i .u8 0, .i .u8 0, .i .u8 0]⟩),
  (125, ⟨.arr 64 5, 64, 64, .agg [.i .u8 0, .i .u8 0, .i .u8 0, .i .u8 0, .i .u8 0, .i .u8 0, .i .u8 0, .i .u8 0, .i .u8 0, .i .u8 0, .i .u8 0, .i .u8 0, .i .u8 0, .i .u8 0, .i .u8 0, .i .u8 0, .i .u8 0, .i .u8 0, .i .u8 0, .i .u8 0, .i .u8 0, .i .u8 0, .i .u8 0, .i .u8 0, .i .u8 0, .i .u8 0, .i .u8 0, .i .u8 0, .i .u8 0, .i .u8 0, .i .u8 0, .i .u8 0, .i .u8 0, .i .u8 0, .i .u8 0, .i .u8 0, .i .u8 0, .i .u8 0, .i .u8 0, .i .u8 0, .i .u8 0, .i .u8 0, .i .u8 0, .i .u8 0, .i .u8 0, .i .u8 0, .i .u8 0, .i .u8 0, .i .u8 0, .i .u8 0, .i .u8 0, .i .u8 0, .i .u8 0, .i .u8 0, .i .u8 0, .i .u8 0, .i .u8 0, .i .u8 0, .i .u8 0, .i .u8 0, .i .u8 0, .i .u8 0, .i .u8 0, .i .u8 0]⟩),
  (127, ⟨.fn, 1, 8, .nilf⟩),
  (128, ⟨.fn, 1, 8, .nilf⟩),
  (129, ⟨.st [(0, 9), (1, 9), (2, 104)], 3, 48, .agg [.s ⟨#[]⟩, .s ⟨#[]⟩, .nili]⟩),
  (130, ⟨.st [(0, 9), (1, 9), (2, 104)], 3, 48, .agg [.s ⟨#[]⟩, .s ⟨#[]⟩, .nili]⟩),
  (131, ⟨.fn, 1, 8, .nilf⟩),
  (132, ⟨.fn, 1, 8, .nilf⟩),
  (133, ⟨.ptr 5, 1, 8, .p none⟩),
  (134, ⟨.ptr 136, 1, 8, .p none⟩),
  (135, ⟨.st [(0, 9)], 1, 16, .agg [.s ⟨#[]⟩]⟩),
  (136, ⟨.st [(0, 9)], 1, 16, .agg [.s ⟨#[]⟩]⟩),
  (137, ⟨.fn, 1, 8, .nilf⟩),
  (138, ⟨.st [(0, 17), (1, 17), (2, 17), (3, 9)], 4, 40, .agg [.p none, .p none, .p none, .s ⟨#[]⟩]⟩),
  (139, ⟨.st [(0, 17), (1, 17), (2, 17), (3, 9)], 4, 40, .agg [.p none, .p none, .p none, .s ⟨#[]⟩]⟩),
  (140, ⟨.arr 0 16, 0, 0, .agg []⟩),
  (141, ⟨.st [(0, 140)], 0, 0, .agg []⟩),
  (142, ⟨.st [(0, 140)], 0, 0, .agg []⟩),
  (143, ⟨.int .u8, 1, 1, .i .u8 0⟩),
  (144, ⟨.int .u8, 1, 1, .i .u8 0⟩),
  (145, ⟨.fn, 1, 8, .nilf⟩),
  (146, ⟨.int .i32, 1, 4, .i .i32 0⟩),
  (147, ⟨.int .i32, 1, 4, .i .i32 0⟩),
  (148, ⟨.st [(0, 12), (1, 12), (2, 111), (3, 143), (4, 5), (5, 5), (6, 144), (7, 145), (8, 133), (9, 146), (10, 147)], 11, 48, .agg [.i .u64 0, .i .u64 0, .i .u32 0, .i .u8 0, .i .u8 0, .i .u8 0, .i .u8 0, .nilf, .p none, .i .i32 0, .i .i32 0]⟩),
  (149, ⟨.st [(0, 12), (1, 12), (2, 111), (3, 143), (4, 5), (5, 5), (6, 144), (7, 145), (8, 133), (9, 146), (10, 147)], 11, 48, .agg [.i .u64 0, .i .u64 0, .i .u32 0, .i .u8 0, .i .u8 0, .i .u8 0, .i .u8 0, .nilf, .p none, .i .i32 0, .i .i32 0]⟩)]

theorem tok : TOK Tryd.prog T := TOK_of (by kernel_rfl)
end Go.AK
namespace Go.AK
open Go Go.RowKit Go.Proofs
theorem globTab {E : Env} {H : Heap} {w : World} (h : Rel E H w) : Lib.TabIs Tryd.prog w "internal/strconv.uint64pow10" .u64 Lib.pow10Tab := by
  obtain ⟨⟨t, z, h1⟩, _, _⟩ := h.gl
  have h2 := h.im _ _ h1
  have h3 : Tryd.prog.globalNamed "internal/strconv.uint64pow10" = some 0 := by kernel_rfl
  unfold Lib.TabIs World.var?
  rw [h3, Option.bind_some, h2]
theorem globSyn {E : Env} {H : Heap} {w : World} (h : Rel E H w) : ∃ tp p, w.var? Tryd.prog "strconv.ErrSyntax" = some #[.iface tp p] := by
  obtain ⟨_, ⟨tp, p, t, z, h1⟩, _⟩ := h.gl
  have h2 := h.im _ _ h1
  have h3 : Tryd.prog.globalNamed "strconv.ErrSyntax" = some 3 := by kernel_rfl
  refine ⟨tp, p, ?_⟩
  unfold World.var?
  rw [h3, Option.bind_some, h2]
theorem globRng {E : Env} {H : Heap} {w : World} (h : Rel E H w) : ∃ tp p, w.var? Tryd.prog "strconv.ErrRange" = some #[.iface tp p] := by
  obtain ⟨_, _, ⟨tp, p, t, z, h1⟩⟩ := h.gl
  have h2 := h.im _ _ h1
  have h3 : Tryd.prog.globalNamed "strconv.ErrRange" = some 4 := by kernel_rfl
  refine ⟨tp, p, ?_⟩
  unfold World.var?
  rw [h3, Option.bind_some, h2]
end Go.AK
namespace Go.Proofs
open Go.Shelf
def Tryd.laysAtoi_ren : Go.Shelf.Ren := ⟨fun | 172 => 70 | 244 => 77 | 245 => 78 | 247 => 81 | 279 => 82 | 280 => 83 | 281 => 84 | 282 => 85 | 287 => 86 | 316 => 87 | 171 => 47 | 205 => 88 | 321 => 89 | 322 => 90 | 243 => 55 | 246 => 62 | 283 => 66 | 284 => 67 | 285 => 68 | 286 => 69 | 129 => 73 | 317 => 72 | 318 => 74 | 319 => 75 | 320 => 76 | 337 => 79 | 338 => 80 | n => n, fun | 9 => 9 | 3 => 3 | 75 => 104 | 76 => 105 | 4 => 4 | 5 => 5 | 167 => 118 | 37 => 48 | 0 => 0 | 85 => 119 | 2 => 2 | 168 => 121 | 53 => 98 | 175 => 126 | 46 => 114 | 210 => 130 | 127 => 133 | 145 => 136 | 143 => 134 | 21 => 21 | 171 => 97 | 173 => 101 | 212 => 110 | 51 => 111 | 20 => 20 | 213 => 112 | 232 => 124 | 233 => 125 | 80 => 137 | n => n, fun | 15 => 3 | 16 => 4 | 17 => 0 | 18 => 1 | 19 => 2 | n => n⟩
theorem Tryd.laysAtoi : Go.Proofs.LaysC.n172 Tryd.prog Tryd.laysAtoi_ren := {
  mixed := by kernel_rfl
  f129 := Tryd.func73.trans (congrArg some (by kernel_rfl))
  f171 := Tryd.func47.trans (congrArg some (by kernel_rfl))
  f172 := Tryd.func70.trans (congrArg some (by kernel_rfl))
  f205 := Tryd.func88.trans (congrArg some (by kernel_rfl))
  f243 := Tryd.func55.trans (congrArg some (by kernel_rfl))
  f244 := Tryd.func77.trans (congrArg some (by kernel_rfl))
  f245 := Tryd.func78.trans (congrArg some (by kernel_rfl))
  f246 := Tryd.func62.trans (congrArg some (by kernel_rfl))
  f247 := Tryd.func81.trans (congrArg some (by kernel_rfl))
  f279 := Tryd.func82.trans (congrArg some (by kernel_rfl))
  f280 := Tryd.func83.trans (congrArg some (by kernel_rfl))
  f281 := Tryd.func84.trans (congrArg some (by kernel_rfl))
  f282 := Tryd.func85.trans (congrArg some (by kernel_rfl))
  f283 := Tryd.func66.trans (congrArg some (by kernel_rfl))
  f284 := Tryd.func67.trans (congrArg some (by kernel_rfl))
  f285 := Tryd.func68.trans (congrArg some (by kernel_rfl))
  f286 := Tryd.func69.trans (congrArg some (by kernel_rfl))
  f287 := Tryd.func86.trans (congrArg some (by kernel_rfl))
  f316 := Tryd.func87.trans (congrArg some (by kernel_rfl))
  f317 := Tryd.func72.trans (congrArg some (by kernel_rfl))
  f318 := Tryd.func74.trans (congrArg some (by kernel_rfl))
  f319 := Tryd.func75.trans (congrArg some (by kernel_rfl))
  f320 := Tryd.func76.trans (congrArg some (by kernel_rfl))
  f321 := Tryd.func89.trans (congrArg some (by kernel_rfl))
  f322 := Tryd.func90.trans (congrArg some (by kernel_rfl))
  f337 := Tryd.func79.trans (congrArg some (by kernel_rfl))
  f338 := Tryd.func80.trans (congrArg some (by kernel_rfl))
  t0 := Tryd.underlying0
  a0 := Tryd.isAgg0
  z0 := Tryd.sizeOf0
  v0 := Tryd.zeroValue0
  t2 := Tryd.underlying2
  a2 := Tryd.isAgg2
  z2 := Tryd.sizeOf2
  v2 := Tryd.zeroValue2
  t3 := Tryd.underlying3
  a3 := Tryd.isAgg3
  z3 := Tryd.sizeOf3
  v3 := Tryd.zeroValue3
  t4 := Tryd.underlying4
  a4 := Tryd.isAgg4
  z4 := Tryd.sizeOf4
  v4 := Tryd.zeroValue4
  t5 := Tryd.underlying5
  a5 := Tryd.isAgg5
  z5 := Tryd.sizeOf5
  v5 := Tryd.zeroValue5
  t9 := Tryd.underlying9
  a9 := Tryd.isAgg9
  z9 := Tryd.sizeOf9
  v9 := Tryd.zeroValue9
  t20 := Tryd.underlying20
  a20 := Tryd.isAgg20
  z20 := Tryd.sizeOf20
  v20 := Tryd.zeroValue20
  t21 := Tryd.underlying21
  a21 := Tryd.isAgg21
  z21 := Tryd.sizeOf21
  v21 := Tryd.zeroValue21
  t37 := Tryd.underlying48
  a37 := Tryd.isAgg48
  z37 := Tryd.sizeOf48
  v37 := Tryd.zeroValue48
  t46 := Tryd.underlying114
  a46 := Tryd.isAgg114
  z46 := Tryd.sizeOf114
  v46 := Tryd.zeroValue114
  t51 := Tryd.underlying111
  a51 := Tryd.isAgg111
  z51 := Tryd.sizeOf111
  v51 := Tryd.zeroValue111
  t53 := Tryd.underlying98
  a53 := Tryd.isAgg98
  z53 := Tryd.sizeOf98
  v53 := Tryd.zeroValue98
  t75 := Tryd.underlying104
  a75 := Tryd.isAgg104
  z75 := Tryd.sizeOf104
  v75 := Tryd.zeroValue104
  t76 := Tryd.underlying105
  a76 := Tryd.isAgg105
  z76 := Tryd.sizeOf105
  v76 := Tryd.zeroValue105
  t85 := Tryd.underlying119
  a85 := Tryd.isAgg119
  z85 := Tryd.sizeOf119
  v85 := Tryd.zeroValue119
  t127 := Tryd.underlying133
  a127 := Tryd.isAgg133
  z127 := Tryd.sizeOf133
  v127 := Tryd.zeroValue133
  t143 := Tryd.underlying134
  a143 := Tryd.isAgg134
  z143 := Tryd.sizeOf134
  v143 := Tryd.zeroValue134
  t145 := Tryd.underlying136
  a145 := Tryd.isAgg136
  z145 := Tryd.sizeOf136
  v145 := Tryd.zeroValue136
  t167 := Tryd.underlying118
  a167 := Tryd.isAgg118
  z167 := Tryd.sizeOf118
  v167 := Tryd.zeroValue118
  t168 := Tryd.underlying121
  a168 := Tryd.isAgg121
  z168 := Tryd.sizeOf121
  v168 := Tryd.zeroValue121
  t171 := Tryd.underlying97
  a171 := Tryd.isAgg97
  z171 := Tryd.sizeOf97
  v171 := Tryd.zeroValue97
  t173 := Tryd.underlying101
  a173 := Tryd.isAgg101
  z173 := Tryd.sizeOf101
  v173 := Tryd.zeroValue101
  t175 := Tryd.underlying126
  a175 := Tryd.isAgg126
  z175 := Tryd.sizeOf126
  v175 := Tryd.zeroValue126
  t210 := Tryd.underlying130
  a210 := Tryd.isAgg130
  z210 := Tryd.sizeOf130
  v210 := Tryd.zeroValue130
  t212 := Tryd.underlying110
  a212 := Tryd.isAgg110
  z212 := Tryd.sizeOf110
  v212 := Tryd.zeroValue110
  t213 := Tryd.underlying112
  a213 := Tryd.isAgg112
  z213 := Tryd.sizeOf112
  t232 := Tryd.underlying124
  a232 := Tryd.isAgg124
  z232 := Tryd.sizeOf124
  v232 := Tryd.zeroValue124
  t233 := Tryd.underlying125
  a233 := Tryd.isAgg125
  z233 := Tryd.sizeOf125
  v233 := Tryd.zeroValue125
  g15 := by kernel_rfl
  g16 := by kernel_rfl
  g17 := by kernel_rfl
  g18 := by kernel_rfl
  g19 := by kernel_rfl
  t80 := Tryd.underlying137
  a80 := Tryd.isAgg137
  z80 := Tryd.sizeOf137
  v80 := Tryd.zeroValue137
  i0 := by kernel_rfl
  i2 := by kernel_rfl
  i3 := by kernel_rfl
  i4 := by kernel_rfl
  i5 := by kernel_rfl
  i9 := by kernel_rfl
  i20 := by kernel_rfl
  i21 := by kernel_rfl
  i37 := by kernel_rfl
  i46 := by kernel_rfl
  i51 := by kernel_rfl
  i53 := by kernel_rfl
  i75 := by kernel_rfl
  i76 := by kernel_rfl
  i80 := by kernel_rfl
  i85 := by kernel_rfl
  i127 := by kernel_rfl
  i143 := by kernel_rfl
  i145 := by kernel_rfl
  i167 := by kernel_rfl
  i168 := by kernel_rfl
  i171 := by kernel_rfl
  i173 := by kernel_rfl
  i175 := by kernel_rfl
  i210 := by kernel_rfl
  i212 := by kernel_rfl
  i232 := by kernel_rfl
  i233 := by kernel_rfl
  m15 := by kernel_rfl
  m16 := by kernel_rfl
  m17 := by kernel_rfl
  m18 := by kernel_rfl
  m19 := by kernel_rfl
  c0 := by kernel_rfl
  c2 := by kernel_rfl
  c3 := by kernel_rfl
  c4 := by kernel_rfl
  c5 := by kernel_rfl
  c9 := by kernel_rfl
  c20 := by kernel_rfl
  c21 := by kernel_rfl
  c37 := by kernel_rfl
  c46 := by kernel_rfl
  c51 := by kernel_rfl
  c53 := by kernel_rfl
  c75 := by kernel_rfl
  c76 := by kernel_rfl
  c80 := by kernel_rfl
  c85 := by kernel_rfl
  c127 := by kernel_rfl
  c143 := by kernel_rfl
  c145 := by kernel_rfl
  c167 := by kernel_rfl
  c168 := by kernel_rfl
  c171 := by kernel_rfl
  c173 := by kernel_rfl
  c175 := by kernel_rfl
  c210 := by kernel_rfl
  c212 := by kernel_rfl
  c213 := by kernel_rfl
  c232 := by kernel_rfl
  c233 := by kernel_rfl }
def Tryd.laysItoa_ren : Go.Shelf.Ren := ⟨fun | 171 => 47 | 243 => 55 | 246 => 62 | 283 => 66 | 284 => 67 | 285 => 68 | 286 => 69 | 129 => 73 | 317 => 72 | 318 => 74 | 319 => 75 | 320 => 76 | 337 => 79 | 338 => 80 | n => n, fun | 3 => 3 | 9 => 9 | 2 => 2 | 4 => 4 | 171 => 97 | 0 => 0 | 53 => 98 | 37 => 48 | 5 => 5 | 173 => 101 | 212 => 110 | 51 => 111 | 20 => 20 | 213 => 112 | 46 => 114 | 232 => 124 | 233 => 125 | n => n, fun | 17 => 0 | 18 => 1 | 19 => 2 | n => n⟩
theorem Tryd.laysItoa : Go.Proofs.LaysM.n171 Tryd.prog Tryd.laysItoa_ren := {
  mixed := by kernel_rfl
  f129 := Tryd.func73.trans (congrArg some (by kernel_rfl))
  f171 := Tryd.func47.trans (congrArg some (by kernel_rfl))
  f243 := Tryd.func55.trans (congrArg some (by kernel_rfl))
  f246 := Tryd.func62.trans (congrArg some (by kernel_rfl))
  f283 := Tryd.func66.trans (congrArg some (by kernel_rfl))
  f284 := Tryd.func67.trans (congrArg some (by kernel_rfl))
  f285 := Tryd.func68.trans (congrArg some (by kernel_rfl))
  f286 := Tryd.func69.trans (congrArg some (by kernel_rfl))
  f317 := Tryd.func72.trans (congrArg some (by kernel_rfl))
  f318 := Tryd.func74.trans (congrArg some (by kernel_rfl))
  f319 := Tryd.func75.trans (congrArg some (by kernel_rfl))
  f320 := Tryd.func76.trans (congrArg some (by kernel_rfl))
  f337 := Tryd.func79.trans (congrArg some (by kernel_rfl))
  f338 := Tryd.func80.trans (congrArg some (by kernel_rfl))
  t0 := Tryd.underlying0
  a0 := Tryd.isAgg0
  z0 := Tryd.sizeOf0
  v0 := Tryd.zeroValue0
  t2 := Tryd.underlying2
  a2 := Tryd.isAgg2
  z2 := Tryd.sizeOf2
  v2 := Tryd.zeroValue2
  t3 := Tryd.underlying3
  a3 := Tryd.isAgg3
  z3 := Tryd.sizeOf3
  v3 := Tryd.zeroValue3
  t4 := Tryd.underlying4
  a4 := Tryd.isAgg4
  z4 := Tryd.sizeOf4
  v4 := Tryd.zeroValue4
  t5 := Tryd.underlying5
  a5 := Tryd.isAgg5
  z5 := Tryd.sizeOf5
  v5 := Tryd.zeroValue5
  t9 := Tryd.underlying9
  a9 := Tryd.isAgg9
  z9 := Tryd.sizeOf9
  v9 := Tryd.zeroValue9
  t20 := Tryd.underlying20
  a20 := Tryd.isAgg20
  z20 := Tryd.sizeOf20
  v20 := Tryd.zeroValue20
  t37 := Tryd.underlying48
  a37 := Tryd.isAgg48
  z37 := Tryd.sizeOf48
  v37 := Tryd.zeroValue48
  t46 := Tryd.underlying114
  a46 := Tryd.isAgg114
  z46 := Tryd.sizeOf114
  v46 := Tryd.zeroValue114
  t51 := Tryd.underlying111
  a51 := Tryd.isAgg111
  z51 := Tryd.sizeOf111
  v51 := Tryd.zeroValue111
  t53 := Tryd.underlying98
  a53 := Tryd.isAgg98
  z53 := Tryd.sizeOf98
  v53 := Tryd.zeroValue98
  t171 := Tryd.underlying97
  a171 := Tryd.isAgg97
  z171 := Tryd.sizeOf97
  v171 := Tryd.zeroValue97
  t173 := Tryd.underlying101
  a173 := Tryd.isAgg101
  z173 := Tryd.sizeOf101
  v173 := Tryd.zeroValue101
  t212 := Tryd.underlying110
  a212 := Tryd.isAgg110
  z212 := Tryd.sizeOf110
  v212 := Tryd.zeroValue110
  t213 := Tryd.underlying112
  a213 := Tryd.isAgg112
  z213 := Tryd.sizeOf112
  t232 := Tryd.underlying124
  a232 := Tryd.isAgg124
  z232 := Tryd.sizeOf124
  v232 := Tryd.zeroValue124
  t233 := Tryd.underlying125
  a233 := Tryd.isAgg125
  z233 := Tryd.sizeOf125
  v233 := Tryd.zeroValue125
  g17 := by kernel_rfl
  g18 := by kernel_rfl
  g19 := by kernel_rfl
  i0 := by kernel_rfl
  i2 := by kernel_rfl
  i3 := by kernel_rfl
  i4 := by kernel_rfl
  i5 := by kernel_rfl
  i9 := by kernel_rfl
  i20 := by kernel_rfl
  i37 := by kernel_rfl
  i46 := by kernel_rfl
  i51 := by kernel_rfl
  i53 := by kernel_rfl
  i171 := by kernel_rfl
  i173 := by kernel_rfl
  i212 := by kernel_rfl
  i232 := by kernel_rfl
  i233 := by kernel_rfl
  m17 := by kernel_rfl
  m18 := by kernel_rfl
  m19 := by kernel_rfl }
def Tryd.laysFB_ren : Go.Shelf.Ren := ⟨fun | 121 => 48 | 214 => 56 | n => n, fun | 4 => 4 | 9 => 9 | n => n, fun | n => n⟩
theorem Tryd.laysFB : Go.Proofs.Lays.n121 Tryd.prog Tryd.laysFB_ren := {
  mixed := by kernel_rfl
  f121 := Tryd.func48.trans (congrArg some (by kernel_rfl))
  f214 := Tryd.func56.trans (congrArg some (by kernel_rfl))
  t4 := Tryd.underlying4
  a4 := Tryd.isAgg4
  z4 := Tryd.sizeOf4
  v4 := Tryd.zeroValue4
  t9 := Tryd.underlying9
  a9 := Tryd.isAgg9
  z9 := Tryd.sizeOf9
  v9 := Tryd.zeroValue9 }
end Go.Proofs
namespace Go.AK
open Go Go.RowKit Go.Proofs
set_option linter.unusedVariables false
theorem argS {E : Env} {x : ByteArray} {vs : Array Value} (h : VRL E [.s x] vs.toList) : vs = #[.string x] := by
  obtain ⟨v, h1, h2⟩ := vrl_one h
  rw [arr_of_toList h1, (show v = .string x from h2)]
theorem argI {E : Env} {k : IntKind} {x : Int} {vs : Array Value} (h : VRL E [.i k x] vs.toList) : vs = #[.int k x] := by
  obtain ⟨v, h1, h2⟩ := vrl_one h
  rw [arr_of_toList h1, (show v = .int k x from h2)]
theorem argB {E : Env} {x : Bool} {vs : Array Value} (h : VRL E [.b x] vs.toList) : vs = #[.bool x] := by
  obtain ⟨v, h1, h2⟩ := vrl_one h
  rw [arr_of_toList h1, (show v = .bool x from h2)]
theorem itoa_spec (n : Int) (h0 : -9223372036854775808 ≤ n) (h1 : n ≤ 9223372036854775807) (H : Heap) :
    ACall Tryd.prog 47 [.i .i64 n] H fun r H' => r = .ret (.s ⟨(Lib.itoa n).toArray⟩) ∧ H' = H :=
  ACall.below ⟨Tryd.f47, Tryd.func47, rfl, rfl⟩ fun E w vs hR hv => by
    rw [argI hv]
    refine (Any.strconv_Itoa Tryd.laysItoa n h0 h1 w (globTab hR)).mono fun e w' ⟨he, k, os, hw⟩ => ⟨?_, _, he, fun E' => rfl⟩
    subst hw
    exact Lib.below_grow _ _ (Nat.le_refl _) _ _
theorem formatBool_spec (b : Bool) (H : Heap) :
    ACall Tryd.prog 48 [.b b] H fun r H' => r = .ret (.s ⟨(Lib.formatBool b).toArray⟩) ∧ H' = H :=
  ACall.below ⟨Tryd.f48, Tryd.func48, rfl, rfl⟩ fun E w vs hR hv => by
    rw [argB hv]
    refine (Any.strconv_FormatBool Tryd.laysFB b w).mono fun e w' ⟨he, hw⟩ => ⟨?_, _, he, fun E' => rfl⟩
    subst hw
    exact Below.refl _ _
theorem atoi_ok_spec (s : ByteArray) (hmax : s.size ≤ 100000) (v : Int) (h : Lib.atoiAll s.data.toList = .ok v) (H : Heap) :
    ACall Tryd.prog 70 [.s s] H fun r H' => r = .ret (.tup [.i .i64 v, .nili]) ∧ H' = H :=
  ACall.below ⟨Tryd.f70, Tryd.func70, rfl, rfl⟩ fun E w vs hR hv => by
    rw [argS hv]
    refine (Any.strconv_Atoi_ok Tryd.laysAtoi s (by omega) v h w).mono fun e w' ⟨he, hw⟩ => ⟨?_, _, he, fun E' => ⟨_, rfl, ⟨_, _, rfl, rfl, ⟨_, _, rfl, rfl, rfl⟩⟩⟩⟩
    rcases hw with rfl | ⟨t, rfl⟩
    · exact Below.refl _ _
    · exact Lib.bytesWorld_below _ _ _
theorem atoi_range_spec (s : ByteArray) (hmax : s.size ≤ 100000) (h : Lib.atoiAll s.data.toList = .range) (H : Heap) :
    ACall Tryd.prog 70 [.s s] H fun r H' => r = .ret (.tup [.i .i64 (Lib.atoiSat s.data.toList), .ifc 121 .un]) ∧ H' = H :=
  ACall.below ⟨Tryd.f70, Tryd.func70, rfl, rfl⟩ fun E w vs hR hv => by
    rw [argS hv]
    obtain ⟨tp, p, hg⟩ := globRng hR
    refine (Any.strconv_Atoi_range_var Tryd.laysAtoi s (by omega) h tp p w hg).mono fun e w' ⟨N, he, _, _, hb⟩ => ⟨hb, _, he, fun E' => ⟨_, rfl, ⟨_, _, rfl, rfl, ⟨_, _, rfl, ⟨_, rfl, trivial⟩, rfl⟩⟩⟩⟩
end Go.AK
namespace Go.AK
open Go Go.RowKit Go.Proofs
set_option linter.unusedVariables false
set_option maxRecDepth 100000
theorem mixed : Tryd.prog.follows .mixedOrders = true := by kernel_rfl
abbrev Str := List UInt8
def sb (l : Str) : ByteArray := ⟨l.toArray⟩
theorem sb_self (s : ByteArray) : sb s.data.toList = s := rfl
theorem sb_size (l : Str) : (sb l).size = l.length := by simp [sb, ByteArray.size]
theorem sb_append (a b : Str) : sb a ++ sb b = sb (a ++ b) := by
  apply ByteArray.ext; simp [sb]
theorem sb_extract (l : Str) (i j : Nat) : (sb l).extract i j = sb ((l.drop i).take (j - i)) := by
  apply ByteArray.ext
  simp [sb, ByteArray.data_extract, List.extract_toArray, List.extract_eq_take_drop]
/-- A tree of nodes. -/
inductive Ex where
  | nil
  | nd (k : Int) (w o : Str) (n : Int) (l r : Ex)
  deriving Inhabited
def Ex.av : Ex → AV
  | .nil => .p none
  | .nd k w o n l r => .rp [.i .i64 k, .s (sb w), .s (sb o), .i .i64 n, l.av, r.av] 0
def Ex.depth : Ex → Nat
  | .nil => 0
  | .nd _ _ _ _ l r => 1 + max l.depth r.depth
def Ex.isNil : Ex → Bool
  | .nil => true
  | _ => false
def Ex.same : Ex → Ex → Bool
  | .nil, .nil => true
  | .nd k w o n l r, .nd k' w' o' n' l' r' => k == k' && (w == w' && (o == o' && (n == n' && (l.same l' && r.same r'))))
  | _, _ => false
theorem Ex.same_iff : ∀ {x y : Ex}, x.same y = true ↔ x = y
  | .nil, .nil => by simp [Ex.same]
  | .nil, .nd .. => by simp [Ex.same]
  | .nd .., .nil => by simp [Ex.same]
  | .nd k w o n l r, .nd k' w' o' n' l' r' => by
    simp only [Ex.same, Bool.and_eq_true, beq_iff_eq, Ex.same_iff (x := l), Ex.same_iff (x := r), Ex.nd.injEq]
end Go.AK
namespace Go.AK
open Go Go.RowKit Go.Proofs
set_option linter.unusedVariables false
set_option maxRecDepth 100000
/-- Texts as cells. -/
def strs (l : List Str) : List AV := l.map fun s => .s (sb s)
theorem strs_length (l : List Str) : (strs l).length = l.length := by simp [strs]
theorem aget_strs {l : List Str} {i o : Nat} (ho : o = i) (h : i < l.length) {K : AV → Prop} (hk : K (.s (sb l[i]))) : aget (strs l) o K := by
  subst ho
  unfold aget
  rw [show (strs l)[o]? = some (.s (sb l[o])) from by simp [strs, h]]
  exact hk
/-- The place of a text among others. -/
def idxS : List Str → Str → Option Nat
  | [], _ => none
  | a :: l, x => if x = a then some 0 else (idxS l x).map (· + 1)
def idxI (l : List Str) (x : Str) : Int := match idxS l x with
  | some n => n
  | none => -1
theorem idxS_contains : ∀ (l : List Str) (x : Str), (idxS l x).isSome = l.contains x
  | [], x => rfl
  | a :: l, x => by
    unfold idxS
    by_cases h : x = a
    · simp [h]
    · rw [if_neg h]
      have := idxS_contains l x
      simp [h, this]
theorem idxI_ge (l : List Str) (x : Str) : decide (idxI l x ≥ 0) = l.contains x := by
  have := idxS_contains l x
  unfold idxI
  cases h : idxS l x with
  | none => rw [h] at this; rw [← this]; rfl
  | some n => rw [h] at this; rw [← this]; simp
theorem idxS_drop {l : List Str} {x : Str} {k : Nat} (h : ∀ i (hi : i < l.length), i < k → l[i] ≠ x) : idxS l x = (idxS (l.drop k) x).map (· + k) := by
  induction k generalizing l with
  | zero => simp
  | succ k ih =>
    cases l with
    | nil => simp [idxS]
    | cons a l =>
      have h0 : a ≠ x := h 0 (by simp) (by omega)
      rw [idxS, if_neg (fun e => h0 e.symm), List.drop_succ_cons, ih (fun i hi hk => by have := h (i + 1) (by simpa using hi) (by omega); simpa using this), Option.map_map]
      congr 1
theorem index_spec (l : List Str) (x : Str) (hl : l.length < 1000000) (H0 : Heap) :
    ACall Tryd.prog 63 [.rs (strs l) 0 1 l.length, .s (sb x)] [] fun r H => r = .ret (.i .i64 (idxI l x)) ∧ H = [] := by
  refine ACall.enter tok false Tryd.func63 rfl rfl rfl (AW_sound (ip := false) tok _ _ _ _ ?_)
  conv => whnf
  refine ALoop.ind (ip := false) tok (fun m r H => ∃ (k : Nat), k ≤ l.length ∧ m = l.length - k ∧ (∀ i (hi : i < l.length), i < k → l[i] ≠ x) ∧ H = [] ∧
    r = [(8, .i .i64 k), (7, .i .i64 l.length), (0, .rs (strs l) 0 1 l.length), (1, .s (sb x)), (4, .i .i64 0)]) l.length ?_ ?_
  · exact Gh.regs [8, 7, 0, 1, 4] (Gh.of ⟨0, by omega, by omega, fun i hi h => by omega, rfl, rfl⟩)
  · rintro m r H ⟨k, hk, rfl, hne, rfl, rfl⟩
    conv => whnf
    by_cases h : (k : Int) < l.length
    · (refine acond_t (decide_eq_true h) ?_; conv => whnf)
      refine ⟨⟨by omega, h⟩, ?_⟩
      conv => whnf
      have hkl : k < l.length := by omega
      refine aget_strs (i := k) (by omega) hkl ?_
      conv => whnf
      by_cases he : x = l[k]
      · (refine acond_t (show (x == l[k]) = true from by simpa using he) ?_; conv => whnf)
        refine ⟨congrArg ARes.ret (congrArg (AV.i IntKind.i64) ?_), rfl⟩
        unfold idxI
        rw [idxS_drop hne, List.drop_eq_getElem_cons hkl, idxS, if_pos he]
        simp
      · (refine acond_f (show (x == l[k]) = false from by simpa using he) ?_; conv => whnf)
        refine Gh.regs [8, 7, 0, 1, 4] (Gh.of ⟨l.length - (k + 1), by omega, k + 1, by omega, rfl, fun i hi hi2 => ?_, rfl, ?_⟩)
        · by_cases e : i = k
          · subst e; exact fun e => he e.symm
          · exact hne i hi (by omega)
        · refine congrArg (fun z => (8, AV.i IntKind.i64 z) :: _) ?_
          rw [IntKind.wrap_i64]; omega
    · (refine acond_f (decide_eq_false h) ?_; conv => whnf)
      have : k = l.length := by omega
      subst this
      refine ⟨congrArg ARes.ret (congrArg (AV.i IntKind.i64) ?_), rfl⟩
      unfold idxI
      rw [idxS_drop hne, List.drop_length]
      rfl
theorem contains_spec (l : List Str) (x : Str) (hl : l.length < 1000000) :
    ACall Tryd.prog 57 [.rs (strs l) 0 1 l.length, .s (sb x)] [] fun r H => r = .ret (.b (l.contains x)) ∧ H = [] := by
  refine ACall.enter tok false Tryd.func57 rfl rfl rfl (AW_sound (ip := false) tok _ _ _ _ ?_)
  conv => whnf
  refine ACall.mono (index_spec l x hl []) ?_; rintro r H ⟨rfl, rfl⟩
  conv => whnf
  exact ⟨congrArg (fun b => ARes.ret (AV.b b)) (idxI_ge l x), rfl⟩
theorem in_spec (l : List Str) (x : Str) (hl : l.length < 1000000) :
    ACall Tryd.prog 42 [.rs (strs l) 0 1 l.length, .s (sb x)] [] fun r H => r = .ret (.b (l.contains x)) ∧ H = [] := by
  refine ACall.enter tok false Tryd.func42 rfl rfl rfl (AW_sound (ip := false) tok _ _ _ _ ?_)
  conv => whnf
  refine ALoop.ind (ip := false) tok (fun m r H => ∃ (k : Nat), k ≤ l.length ∧ m = l.length - k ∧ l.contains x = (l.drop k).contains x ∧ H = [] ∧
    r = [(5, .i .i64 k), (0, .rs (strs l) 0 1 l.length), (1, .s (sb x)), (4, .b false)]) l.length ?_ ?_
  · exact Gh.regs [5, 0, 1, 4] (Gh.of ⟨0, by omega, by omega, rfl, rfl, rfl⟩)
  · rintro m r H ⟨k, hk, rfl, hc, rfl, rfl⟩
    conv => whnf
    by_cases h : (k : Int) < l.length
    · (refine acond_t (decide_eq_true h) ?_; conv => whnf)
      refine ⟨⟨by omega, h⟩, ?_⟩
      conv => whnf
      have hkl : k < l.length := by omega
      rw [List.drop_eq_getElem_cons hkl, List.contains_cons] at hc
      refine aget_strs (i := k) (by omega) hkl ?_
      conv => whnf
      by_cases he : l[k] = x
      · (refine acond_t (show (l[k] == x) = true from by simpa using he) ?_; conv => whnf)
        refine ⟨congrArg (fun b => ARes.ret (AV.b b)) ?_, rfl⟩
        rw [hc, he]; simp
      · (refine acond_f (show (l[k] == x) = false from by simpa using he) ?_; conv => whnf)
        refine Gh.regs [5, 0, 1, 4] (Gh.of ⟨l.length - (k + 1), by omega, k + 1, by omega, rfl, ?_, rfl, ?_⟩)
        · rw [hc, show (x == l[k]) = false from by simpa using fun e => he e.symm]; rfl
        · refine congrArg (fun z => (5, AV.i IntKind.i64 z) :: _) ?_
          rw [IntKind.wrap_i64]; omega
    · (refine acond_f (decide_eq_false h) ?_; conv => whnf)
      have : k = l.length := by omega
      subst this
      refine ⟨congrArg (fun b => ARes.ret (AV.b b)) ?_, rfl⟩
      rw [hc, List.drop_length]; rfl
def wTrue : Str := [116, 114, 117, 101]
def wFalse : Str := [102, 97, 108, 115, 101]
def wNot : Str := [110, 111, 116]
def wAnd : Str := [97, 110, 100]
def wOr : Str := [111, 114]
def flagsL : List Str := [[101, 120, 116], [114, 116, 114]]
def numbersL : List Str := [[116, 105, 99, 107], [110, 111, 100, 101], [107, 105, 110, 100], [105, 100], [108, 101, 110]]
def opsL : List Str := [[61, 61], [33, 61], [60, 61], [62, 61], [60], [62]]
def opsR : List Str := [[61, 61], [33, 61], [60], [60, 61], [62], [62, 61]]
theorem flags_spec : ACall Tryd.prog 58 [] [] fun r H => r = .ret (.rs (strs flagsL) 0 1 2) ∧ H = [] := by
  refine ACall.gh ?_
  refine ACall.enter tok false Tryd.func58 rfl rfl rfl (AW_sound (ip := false) tok _ _ _ _ ?_)
  conv => whnf
  exact GhR.frz 0 rfl (GhR.sel [] rfl (GhR.of ⟨rfl, rfl⟩))
theorem numbers_spec : ACall Tryd.prog 59 [] [] fun r H => r = .ret (.rs (strs numbersL) 0 1 5) ∧ H = [] := by
  refine ACall.gh ?_
  refine ACall.enter tok false Tryd.func59 rfl rfl rfl (AW_sound (ip := false) tok _ _ _ _ ?_)
  conv => whnf
  exact GhR.frz 0 rfl (GhR.sel [] rfl (GhR.of ⟨rfl, rfl⟩))
theorem ops_spec : ACall Tryd.prog 38 [] [] fun r H => r = .ret (.rs (strs opsL) 0 1 6) ∧ H = [] := by
  refine ACall.gh ?_
  refine ACall.enter tok false Tryd.func38 rfl rfl rfl (AW_sound (ip := false) tok _ _ _ _ ?_)
  conv => whnf
  exact GhR.frz 0 rfl (GhR.sel [] rfl (GhR.of ⟨rfl, rfl⟩))
theorem flagsR_spec : ACall Tryd.prog 54 [] [] fun r H => r = .ret (.rs (strs flagsL) 0 1 2) ∧ H = [] := by
  refine ACall.gh ?_
  refine ACall.enter tok false Tryd.func54 rfl rfl rfl (AW_sound (ip := false) tok _ _ _ _ ?_)
  conv => whnf
  exact GhR.frz 0 rfl (GhR.sel [] rfl (GhR.of ⟨rfl, rfl⟩))
theorem numbersR_spec : ACall Tryd.prog 53 [] [] fun r H => r = .ret (.rs (strs numbersL) 0 1 5) ∧ H = [] := by
  refine ACall.gh ?_
  refine ACall.enter tok false Tryd.func53 rfl rfl rfl (AW_sound (ip := false) tok _ _ _ _ ?_)
  conv => whnf
  exact GhR.frz 0 rfl (GhR.sel [] rfl (GhR.of ⟨rfl, rfl⟩))
theorem opsR_spec : ACall Tryd.prog 43 [] [] fun r H => r = .ret (.rs (strs opsR) 0 1 6) ∧ H = [] := by
  refine ACall.gh ?_
  refine ACall.enter tok false Tryd.func43 rfl rfl rfl (AW_sound (ip := false) tok _ _ _ _ ?_)
  conv => whnf
  exact GhR.frz 0 rfl (GhR.sel [] rfl (GhR.of ⟨rfl, rfl⟩))
end Go.AK
namespace Go.AK
open Go Go.RowKit Go.Proofs
set_option linter.unusedVariables false
set_option maxRecDepth 100000
theorem flatPair : flatEq Tryd.prog 51 [none, none] := by
  intro xs ys w r hx hy hr
  obtain ⟨_, _, h0, ⟨a, rfl⟩, _, _, rfl, ⟨b, rfl⟩, rfl⟩ := hx
  obtain ⟨_, _, h1, ⟨a', rfl⟩, _, _, rfl, ⟨b', rfl⟩, rfl⟩ := hy
  obtain rfl := arr_of_toList h0
  obtain rfl := arr_of_toList h1
  have hr := cells_iff (by simp) hr
  have hr2 : r = ((a == a') && ((b == b') && true)) := by
    rw [Bool.eq_iff_iff, hr]
    simp
  have ht : tiOf T 4 = some _ := rfl
  constructor
  · rw [hr2]
    refine eqi_of (n := 2) (e := 4) (c := 1) (by kernel_rfl) (by kernel_rfl) (by kernel_rfl) ?_
    show (Op.eqItems 9999 _ _ _ _ [0, 1]).run _ w = _
    exact eqi_cons (part_cell tok ht rfl rfl w) (part_cell tok ht rfl rfl w) (eq_bool tok ht rfl _ _ _ w) <|
      eqi_cons (part_cell tok ht rfl rfl w) (part_cell tok ht rfl rfl w) (eq_bool tok ht rfl _ _ _ w) eqi_nil
  · intro op x y
    exact run_eqGuard_agg w op 51 x y _ _ (by kernel_rfl)
theorem strEq_t {a b : Str} (h : ((sb a).data.toList == (sb b).data.toList) = true) : a = b := by have : (a == b) = true := h; simpa using this
theorem strEq_f {a b : Str} (h : ((sb a).data.toList == (sb b).data.toList) = false) : a ≠ b := by have : (a == b) = false := h; simpa using this
/-- How a node is wrong. -/
def nodeE (k : Int) (w o : Str) (n : Int) (hl hr : Bool) : Int :=
  if k = 2 ∨ k = 3 then (if o = [] ∧ n = 0 ∧ w = [] ∧ hl = true ∧ hr = true then 0 else 11)
  else if k = 1 then (if o = [] ∧ n = 0 ∧ w = [] ∧ hl = true ∧ hr = false then 0 else 11)
  else if k = 6 ∨ k = 7 then (if o = [] ∧ n = 0 ∧ w = [] ∧ hl = false ∧ hr = false then 0 else 11)
  else if k = 5 then (if o = [] ∧ n = 0 ∧ hl = false ∧ hr = false then (if flagsL.contains w then 0 else 21) else 11)
  else if k = 4 then (if hl = false ∧ hr = false then (if numbersL.contains w then (if opsL.contains o then (if n < 0 then 10 else 0) else 22) else 21) else 11)
  else 11
theorem node_2 (w o : Str) (n : Int) (l r : Ex) : ACall Tryd.prog 49 [(Ex.nd 2 w o n l r).av] [] fun r0 H => r0 = .ret (.i .i64 (nodeE 2 w o n (!l.isNil) (!r.isNil))) ∧ H = [] := by
  cases o with
  | cons c o =>
    refine ACall.gh ?_
    refine ACall.enter tok false Tryd.func49 rfl rfl rfl (AW_sound (ip := false) tok _ _ _ _ ?_)
    conv => whnf
    repeat (first
      | (refine ⟨by decide, ?_⟩; conv => whnf)
      | (refine ⟨flatPair, ?_⟩; conv => whnf))
    refine ADraw.of tok mixed false [0, 1, 2, 3, 4, 5, 6, 7, 8, 9, 10, 11, 12, 13, 14, 15, 16, 17] [] (by kernel_rfl) (fun _ _ _ _ h => h) ?_
    conv => whnf
    repeat (first
      | (refine ⟨by decide, ?_⟩; conv => whnf)
      | (refine ⟨flatPair, ?_⟩; conv => whnf))
    exact GhR.sel [] rfl (GhR.of ⟨congrArg (fun z => ARes.ret (AV.i IntKind.i64 z)) (by simp [nodeE]), rfl⟩)
  | nil =>
    cases hn : (n == 0) with
    | false =>
      have hn' : n ≠ 0 := by simpa using hn
      refine ACall.gh ?_
      refine ACall.enter tok false Tryd.func49 rfl rfl rfl (AW_sound (ip := false) tok _ _ _ _ ?_)
      conv => whnf
      repeat (first
        | (refine ⟨by decide, ?_⟩; conv => whnf)
        | (refine ⟨flatPair, ?_⟩; conv => whnf)
        | (refine acond_f (hn) ?_; conv => whnf))
      refine ADraw.of tok mixed false [0, 1, 2, 3, 4, 5, 6, 7, 8, 9, 10, 11, 12, 13, 14, 15, 16, 17] [] (by kernel_rfl) (fun _ _ _ _ h => h) ?_
      conv => whnf
      repeat (first
        | (refine ⟨by decide, ?_⟩; conv => whnf)
        | (refine ⟨flatPair, ?_⟩; conv => whnf)
        | (refine acond_f (hn) ?_; conv => whnf))
      exact GhR.sel [] rfl (GhR.of ⟨congrArg (fun z => ARes.ret (AV.i IntKind.i64 z)) (by simp [nodeE, hn']), rfl⟩)
    | true =>
      have hn' : n = 0 := by simpa using hn
      cases w with
      | cons c w =>
        refine ACall.gh ?_
        refine ACall.enter tok false Tryd.func49 rfl rfl rfl (AW_sound (ip := false) tok _ _ _ _ ?_)
        conv => whnf
        repeat (first
          | (refine ⟨by decide, ?_⟩; conv => whnf)
          | (refine ⟨flatPair, ?_⟩; conv => whnf)
          | (refine acond_t (hn) ?_; conv => whnf))
        refine ADraw.of tok mixed false [0, 1, 2, 3, 4, 5, 6, 7, 8, 9, 10, 11, 12, 13, 14, 15, 16, 17] [] (by kernel_rfl) (fun _ _ _ _ h => h) ?_
        conv => whnf
        repeat (first
          | (refine ⟨by decide, ?_⟩; conv => whnf)
          | (refine ⟨flatPair, ?_⟩; conv => whnf)
          | (refine acond_t (hn) ?_; conv => whnf))
        exact GhR.sel [] rfl (GhR.of ⟨congrArg (fun z => ARes.ret (AV.i IntKind.i64 z)) (by simp [nodeE]), rfl⟩)
      | nil =>
        cases l <;> cases r
        · refine ACall.gh ?_
          refine ACall.enter tok false Tryd.func49 rfl rfl rfl (AW_sound (ip := false) tok _ _ _ _ ?_)
          conv => whnf
          repeat (first
            | (refine ⟨by decide, ?_⟩; conv => whnf)
            | (refine ⟨flatPair, ?_⟩; conv => whnf)
            | (refine acond_t (hn) ?_; conv => whnf))
          refine ADraw.of tok mixed false [0, 1, 2, 3, 4, 5, 6, 7, 8, 9, 10, 11, 12, 13, 14, 15, 16, 17] [] (by kernel_rfl) (fun _ _ _ _ h => h) ?_
          conv => whnf
          repeat (first
            | (refine ⟨by decide, ?_⟩; conv => whnf)
            | (refine ⟨flatPair, ?_⟩; conv => whnf)
            | (refine acond_t (hn) ?_; conv => whnf))
          exact GhR.sel [] rfl (GhR.of ⟨congrArg (fun z => ARes.ret (AV.i IntKind.i64 z)) (by simp [nodeE, Ex.isNil, hn']), rfl⟩)
        · refine ACall.gh ?_
          refine ACall.enter tok false Tryd.func49 rfl rfl rfl (AW_sound (ip := false) tok _ _ _ _ ?_)
          conv => whnf
          repeat (first
            | (refine ⟨by decide, ?_⟩; conv => whnf)
            | (refine ⟨flatPair, ?_⟩; conv => whnf)
            | (refine acond_t (hn) ?_; conv => whnf))
          refine ADraw.of tok mixed false [0, 1, 2, 3, 4, 5, 6, 7, 8, 9, 10, 11, 12, 13, 14, 15, 16, 17] [] (by kernel_rfl) (fun _ _ _ _ h => h) ?_
          conv => whnf
          repeat (first
            | (refine ⟨by decide, ?_⟩; conv => whnf)
            | (refine ⟨flatPair, ?_⟩; conv => whnf)
            | (refine acond_t (hn) ?_; conv => whnf))
          exact GhR.sel [] rfl (GhR.of ⟨congrArg (fun z => ARes.ret (AV.i IntKind.i64 z)) (by simp [nodeE, Ex.isNil, hn']), rfl⟩)
        · refine ACall.gh ?_
          refine ACall.enter tok false Tryd.func49 rfl rfl rfl (AW_sound (ip := false) tok _ _ _ _ ?_)
          conv => whnf
          repeat (first
            | (refine ⟨by decide, ?_⟩; conv => whnf)
            | (refine ⟨flatPair, ?_⟩; conv => whnf)
            | (refine acond_t (hn) ?_; conv => whnf))
          refine ADraw.of tok mixed false [0, 1, 2, 3, 4, 5, 6, 7, 8, 9, 10, 11, 12, 13, 14, 15, 16, 17] [] (by kernel_rfl) (fun _ _ _ _ h => h) ?_
          conv => whnf
          repeat (first
            | (refine ⟨by decide, ?_⟩; conv => whnf)
            | (refine ⟨flatPair, ?_⟩; conv => whnf)
            | (refine acond_t (hn) ?_; conv => whnf))
          exact GhR.sel [] rfl (GhR.of ⟨congrArg (fun z => ARes.ret (AV.i IntKind.i64 z)) (by simp [nodeE, Ex.isNil, hn']), rfl⟩)
        · refine ACall.gh ?_
          refine ACall.enter tok false Tryd.func49 rfl rfl rfl (AW_sound (ip := false) tok _ _ _ _ ?_)
          conv => whnf
          repeat (first
            | (refine ⟨by decide, ?_⟩; conv => whnf)
            | (refine ⟨flatPair, ?_⟩; conv => whnf)
            | (refine acond_t (hn) ?_; conv => whnf))
          refine ADraw.of tok mixed false [0, 1, 2, 3, 4, 5, 6, 7, 8, 9, 10, 11, 12, 13, 14, 15, 16, 17] [] (by kernel_rfl) (fun _ _ _ _ h => h) ?_
          conv => whnf
          repeat (first
            | (refine ⟨by decide, ?_⟩; conv => whnf)
            | (refine ⟨flatPair, ?_⟩; conv => whnf)
            | (refine acond_t (hn) ?_; conv => whnf))
          refine ADraw.ofS tok mixed false [3, 10] [0, 1, 2, 3, 4, 5, 7, 8, 9, 10] [6, 11, 12, 13, 14] (by kernel_rfl) (fun _ _ _ _ h => h) ?_
          conv => whnf
          repeat (first
            | (refine ⟨by decide, ?_⟩; conv => whnf)
            | (refine ⟨flatPair, ?_⟩; conv => whnf))
          refine ADraw.ofS tok mixed false [3, 10] [0, 1, 2, 3, 4, 5, 7, 8, 9, 10] [6, 11, 12, 13, 14] (by kernel_rfl) (fun _ _ _ _ h => h) ?_
          conv => whnf
          repeat (first
            | (refine ⟨by decide, ?_⟩; conv => whnf)
            | (refine ⟨flatPair, ?_⟩; conv => whnf))
          refine ADraw.ofS tok mixed false [3, 10] [0, 1, 2, 3, 4, 5, 7, 8, 9, 10] [6, 11, 12, 13, 14] (by kernel_rfl) (fun _ _ _ _ h => h) ?_
          conv => whnf
          repeat (first
            | (refine ⟨by decide, ?_⟩; conv => whnf)
            | (refine ⟨flatPair, ?_⟩; conv => whnf))
          exact GhR.sel [] rfl (GhR.of ⟨congrArg (fun z => ARes.ret (AV.i IntKind.i64 z)) (by simp [nodeE, Ex.isNil, hn']), rfl⟩)
theorem node_3 (w o : Str) (n : Int) (l r : Ex) : ACall Tryd.prog 49 [(Ex.nd 3 w o n l r).av] [] fun r0 H => r0 = .ret (.i .i64 (nodeE 3 w o n (!l.isNil) (!r.isNil))) ∧ H = [] := by
  cases o with
  | cons c o =>
    refine ACall.gh ?_
    refine ACall.enter tok false Tryd.func49 rfl rfl rfl (AW_sound (ip := false) tok _ _ _ _ ?_)
    conv => whnf
    repeat (first
      | (refine ⟨by decide, ?_⟩; conv => whnf)
      | (refine ⟨flatPair, ?_⟩; conv => whnf))
    refine ADraw.of tok mixed false [0, 1, 2, 3, 4, 5, 6, 7, 8, 9, 10, 11, 12, 13, 14, 15, 16, 17] [] (by kernel_rfl) (fun _ _ _ _ h => h) ?_
    conv => whnf
    repeat (first
      | (refine ⟨by decide, ?_⟩; conv => whnf)
      | (refine ⟨flatPair, ?_⟩; conv => whnf))
    exact GhR.sel [] rfl (GhR.of ⟨congrArg (fun z => ARes.ret (AV.i IntKind.i64 z)) (by simp [nodeE]), rfl⟩)
  | nil =>
    cases hn : (n == 0) with
    | false =>
      have hn' : n ≠ 0 := by simpa using hn
      refine ACall.gh ?_
      refine ACall.enter tok false Tryd.func49 rfl rfl rfl (AW_sound (ip := false) tok _ _ _ _ ?_)
      conv => whnf
      repeat (first
        | (refine ⟨by decide, ?_⟩; conv => whnf)
        | (refine ⟨flatPair, ?_⟩; conv => whnf)
        | (refine acond_f (hn) ?_; conv => whnf))
      refine ADraw.of tok mixed false [0, 1, 2, 3, 4, 5, 6, 7, 8, 9, 10, 11, 12, 13, 14, 15, 16, 17] [] (by kernel_rfl) (fun _ _ _ _ h => h) ?_
      conv => whnf
      repeat (first
        | (refine ⟨by decide, ?_⟩; conv => whnf)
        | (refine ⟨flatPair, ?_⟩; conv => whnf)
        | (refine acond_f (hn) ?_; conv => whnf))
      exact GhR.sel [] rfl (GhR.of ⟨congrArg (fun z => ARes.ret (AV.i IntKind.i64 z)) (by simp [nodeE, hn']), rfl⟩)
    | true =>
      have hn' : n = 0 := by simpa using hn
      cases w with
      | cons c w =>
        refine ACall.gh ?_
        refine ACall.enter tok false Tryd.func49 rfl rfl rfl (AW_sound (ip := false) tok _ _ _ _ ?_)
        conv => whnf
        repeat (first
          | (refine ⟨by decide, ?_⟩; conv => whnf)
          | (refine ⟨flatPair, ?_⟩; conv => whnf)
          | (refine acond_t (hn) ?_; conv => whnf))
        refine ADraw.of tok mixed false [0, 1, 2, 3, 4, 5, 6, 7, 8, 9, 10, 11, 12, 13, 14, 15, 16, 17] [] (by kernel_rfl) (fun _ _ _ _ h => h) ?_
        conv => whnf
        repeat (first
          | (refine ⟨by decide, ?_⟩; conv => whnf)
          | (refine ⟨flatPair, ?_⟩; conv => whnf)
          | (refine acond_t (hn) ?_; conv => whnf))
        exact GhR.sel [] rfl (GhR.of ⟨congrArg (fun z => ARes.ret (AV.i IntKind.i64 z)) (by simp [nodeE]), rfl⟩)
      | nil =>
        cases l <;> cases r
        · refine ACall.gh ?_
          refine ACall.enter tok false Tryd.func49 rfl rfl rfl (AW_sound (ip := false) tok _ _ _ _ ?_)
          conv => whnf
          repeat (first
            | (refine ⟨by decide, ?_⟩; conv => whnf)
            | (refine ⟨flatPair, ?_⟩; conv => whnf)
            | (refine acond_t (hn) ?_; conv => whnf))
          refine ADraw.of tok mixed false [0, 1, 2, 3, 4, 5, 6, 7, 8, 9, 10, 11, 12, 13, 14, 15, 16, 17] [] (by kernel_rfl) (fun _ _ _ _ h => h) ?_
          conv => whnf
          repeat (first
            | (refine ⟨by decide, ?_⟩; conv => whnf)
            | (refine ⟨flatPair, ?_⟩; conv => whnf)
            | (refine acond_t (hn) ?_; conv => whnf))
          exact GhR.sel [] rfl (GhR.of ⟨congrArg (fun z => ARes.ret (AV.i IntKind.i64 z)) (by simp [nodeE, Ex.isNil, hn']), rfl⟩)
        · refine ACall.gh ?_
          refine ACall.enter tok false Tryd.func49 rfl rfl rfl (AW_sound (ip := false) tok _ _ _ _ ?_)
          conv => whnf
          repeat (first
            | (refine ⟨by decide, ?_⟩; conv => whnf)
            | (refine ⟨flatPair, ?_⟩; conv => whnf)
            | (refine acond_t (hn) ?_; conv => whnf))
          refine ADraw.of tok mixed false [0, 1, 2, 3, 4, 5, 6, 7, 8, 9, 10, 11, 12, 13, 14, 15, 16, 17] [] (by kernel_rfl) (fun _ _ _ _ h => h) ?_
          conv => whnf
          repeat (first
            | (refine ⟨by decide, ?_⟩; conv => whnf)
            | (refine ⟨flatPair, ?_⟩; conv => whnf)
            | (refine acond_t (hn) ?_; conv => whnf))
          exact GhR.sel [] rfl (GhR.of ⟨congrArg (fun z => ARes.ret (AV.i IntKind.i64 z)) (by simp [nodeE, Ex.isNil, hn']), rfl⟩)
        · refine ACall.gh ?_
          refine ACall.enter tok false Tryd.func49 rfl rfl rfl (AW_sound (ip := false) tok _ _ _ _ ?_)
          conv => whnf
          repeat (first
            | (refine ⟨by decide, ?_⟩; conv => whnf)
            | (refine ⟨flatPair, ?_⟩; conv => whnf)
            | (refine acond_t (hn) ?_; conv => whnf))
          refine ADraw.of tok mixed false [0, 1, 2, 3, 4, 5, 6, 7, 8, 9, 10, 11, 12, 13, 14, 15, 16, 17] [] (by kernel_rfl) (fun _ _ _ _ h => h) ?_
          conv => whnf
          repeat (first
            | (refine ⟨by decide, ?_⟩; conv => whnf)
            | (refine ⟨flatPair, ?_⟩; conv => whnf)
            | (refine acond_t (hn) ?_; conv => whnf))
          exact GhR.sel [] rfl (GhR.of ⟨congrArg (fun z => ARes.ret (AV.i IntKind.i64 z)) (by simp [nodeE, Ex.isNil, hn']), rfl⟩)
        · refine ACall.gh ?_
          refine ACall.enter tok false Tryd.func49 rfl rfl rfl (AW_sound (ip := false) tok _ _ _ _ ?_)
          conv => whnf
          repeat (first
            | (refine ⟨by decide, ?_⟩; conv => whnf)
            | (refine ⟨flatPair, ?_⟩; conv => whnf)
            | (refine acond_t (hn) ?_; conv => whnf))
          refine ADraw.of tok mixed false [0, 1, 2, 3, 4, 5, 6, 7, 8, 9, 10, 11, 12, 13, 14, 15, 16, 17] [] (by kernel_rfl) (fun _ _ _ _ h => h) ?_
          conv => whnf
          repeat (first
            | (refine ⟨by decide, ?_⟩; conv => whnf)
            | (refine ⟨flatPair, ?_⟩; conv => whnf)
            | (refine acond_t (hn) ?_; conv => whnf))
          refine ADraw.ofS tok mixed false [3, 10] [0, 1, 2, 3, 4, 5, 7, 8, 9, 10] [6, 11, 12, 13, 14] (by kernel_rfl) (fun _ _ _ _ h => h) ?_
          conv => whnf
          repeat (first
            | (refine ⟨by decide, ?_⟩; conv => whnf)
            | (refine ⟨flatPair, ?_⟩; conv => whnf))
          refine ADraw.ofS tok mixed false [3, 10] [0, 1, 2, 3, 4, 5, 7, 8, 9, 10] [6, 11, 12, 13, 14] (by kernel_rfl) (fun _ _ _ _ h => h) ?_
          conv => whnf
          repeat (first
            | (refine ⟨by decide, ?_⟩; conv => whnf)
            | (refine ⟨flatPair, ?_⟩; conv => whnf))
          refine ADraw.ofS tok mixed false [3, 10] [0, 1, 2, 3, 4, 5, 7, 8, 9, 10] [6, 11, 12, 13, 14] (by kernel_rfl) (fun _ _ _ _ h => h) ?_
          conv => whnf
          repeat (first
            | (refine ⟨by decide, ?_⟩; conv => whnf)
            | (refine ⟨flatPair, ?_⟩; conv => whnf))
          exact GhR.sel [] rfl (GhR.of ⟨congrArg (fun z => ARes.ret (AV.i IntKind.i64 z)) (by simp [nodeE, Ex.isNil, hn']), rfl⟩)
theorem node_1 (w o : Str) (n : Int) (l r : Ex) : ACall Tryd.prog 49 [(Ex.nd 1 w o n l r).av] [] fun r0 H => r0 = .ret (.i .i64 (nodeE 1 w o n (!l.isNil) (!r.isNil))) ∧ H = [] := by
  cases o with
  | cons c o =>
    refine ACall.gh ?_
    refine ACall.enter tok false Tryd.func49 rfl rfl rfl (AW_sound (ip := false) tok _ _ _ _ ?_)
    conv => whnf
    repeat (first
      | (refine ⟨by decide, ?_⟩; conv => whnf)
      | (refine ⟨flatPair, ?_⟩; conv => whnf))
    refine ADraw.of tok mixed false [0, 1, 2, 3, 4, 5, 6, 7, 8, 9, 10, 11, 12, 13, 14, 15, 16, 17] [] (by kernel_rfl) (fun _ _ _ _ h => h) ?_
    conv => whnf
    repeat (first
      | (refine ⟨by decide, ?_⟩; conv => whnf)
      | (refine ⟨flatPair, ?_⟩; conv => whnf))
    exact GhR.sel [] rfl (GhR.of ⟨congrArg (fun z => ARes.ret (AV.i IntKind.i64 z)) (by simp [nodeE]), rfl⟩)
  | nil =>
    cases hn : (n == 0) with
    | false =>
      have hn' : n ≠ 0 := by simpa using hn
      refine ACall.gh ?_
      refine ACall.enter tok false Tryd.func49 rfl rfl rfl (AW_sound (ip := false) tok _ _ _ _ ?_)
      conv => whnf
      repeat (first
        | (refine ⟨by decide, ?_⟩; conv => whnf)
        | (refine ⟨flatPair, ?_⟩; conv => whnf)
        | (refine acond_f (hn) ?_; conv => whnf))
      refine ADraw.of tok mixed false [0, 1, 2, 3, 4, 5, 6, 7, 8, 9, 10, 11, 12, 13, 14, 15, 16, 17] [] (by kernel_rfl) (fun _ _ _ _ h => h) ?_
      conv => whnf
      repeat (first
        | (refine ⟨by decide, ?_⟩; conv => whnf)
        | (refine ⟨flatPair, ?_⟩; conv => whnf)
        | (refine acond_f (hn) ?_; conv => whnf))
      exact GhR.sel [] rfl (GhR.of ⟨congrArg (fun z => ARes.ret (AV.i IntKind.i64 z)) (by simp [nodeE, hn']), rfl⟩)
    | true =>
      have hn' : n = 0 := by simpa using hn
      cases w with
      | cons c w =>
        refine ACall.gh ?_
        refine ACall.enter tok false Tryd.func49 rfl rfl rfl (AW_sound (ip := false) tok _ _ _ _ ?_)
        conv => whnf
        repeat (first
          | (refine ⟨by decide, ?_⟩; conv => whnf)
          | (refine ⟨flatPair, ?_⟩; conv => whnf)
          | (refine acond_t (hn) ?_; conv => whnf))
        refine ADraw.of tok mixed false [0, 1, 2, 3, 4, 5, 6, 7, 8, 9, 10, 11, 12, 13, 14, 15, 16, 17] [] (by kernel_rfl) (fun _ _ _ _ h => h) ?_
        conv => whnf
        repeat (first
          | (refine ⟨by decide, ?_⟩; conv => whnf)
          | (refine ⟨flatPair, ?_⟩; conv => whnf)
          | (refine acond_t (hn) ?_; conv => whnf))
        exact GhR.sel [] rfl (GhR.of ⟨congrArg (fun z => ARes.ret (AV.i IntKind.i64 z)) (by simp [nodeE]), rfl⟩)
      | nil =>
        cases l <;> cases r
        · refine ACall.gh ?_
          refine ACall.enter tok false Tryd.func49 rfl rfl rfl (AW_sound (ip := false) tok _ _ _ _ ?_)
          conv => whnf
          repeat (first
            | (refine ⟨by decide, ?_⟩; conv => whnf)
            | (refine ⟨flatPair, ?_⟩; conv => whnf)
            | (refine acond_t (hn) ?_; conv => whnf))
          refine ADraw.of tok mixed false [0, 1, 2, 3, 4, 5, 6, 7, 8, 9, 10, 11, 12, 13, 14, 15, 16, 17] [] (by kernel_rfl) (fun _ _ _ _ h => h) ?_
          conv => whnf
          repeat (first
            | (refine ⟨by decide, ?_⟩; conv => whnf)
            | (refine ⟨flatPair, ?_⟩; conv => whnf)
            | (refine acond_t (hn) ?_; conv => whnf))
          exact GhR.sel [] rfl (GhR.of ⟨congrArg (fun z => ARes.ret (AV.i IntKind.i64 z)) (by simp [nodeE, Ex.isNil, hn']), rfl⟩)
        · refine ACall.gh ?_
          refine ACall.enter tok false Tryd.func49 rfl rfl rfl (AW_sound (ip := false) tok _ _ _ _ ?_)
          conv => whnf
          repeat (first
            | (refine ⟨by decide, ?_⟩; conv => whnf)
            | (refine ⟨flatPair, ?_⟩; conv => whnf)
            | (refine acond_t (hn) ?_; conv => whnf))
          refine ADraw.of tok mixed false [0, 1, 2, 3, 4, 5, 6, 7, 8, 9, 10, 11, 12, 13, 14, 15, 16, 17] [] (by kernel_rfl) (fun _ _ _ _ h => h) ?_
          conv => whnf
          repeat (first
            | (refine ⟨by decide, ?_⟩; conv => whnf)
            | (refine ⟨flatPair, ?_⟩; conv => whnf)
            | (refine acond_t (hn) ?_; conv => whnf))
          exact GhR.sel [] rfl (GhR.of ⟨congrArg (fun z => ARes.ret (AV.i IntKind.i64 z)) (by simp [nodeE, Ex.isNil, hn']), rfl⟩)
        · refine ACall.gh ?_
          refine ACall.enter tok false Tryd.func49 rfl rfl rfl (AW_sound (ip := false) tok _ _ _ _ ?_)
          conv => whnf
          repeat (first
            | (refine ⟨by decide, ?_⟩; conv => whnf)
            | (refine ⟨flatPair, ?_⟩; conv => whnf)
            | (refine acond_t (hn) ?_; conv => whnf))
          refine ADraw.of tok mixed false [0, 1, 2, 3, 4, 5, 6, 7, 8, 9, 10, 11, 12, 13, 14, 15, 16, 17] [] (by kernel_rfl) (fun _ _ _ _ h => h) ?_
          conv => whnf
          repeat (first
            | (refine ⟨by decide, ?_⟩; conv => whnf)
            | (refine ⟨flatPair, ?_⟩; conv => whnf)
            | (refine acond_t (hn) ?_; conv => whnf))
          refine ADraw.ofS tok mixed false [3, 10] [0, 1, 2, 3, 4, 5, 7, 8, 9, 10] [6, 11, 12, 13, 14] (by kernel_rfl) (fun _ _ _ _ h => h) ?_
          conv => whnf
          repeat (first
            | (refine ⟨by decide, ?_⟩; conv => whnf)
            | (refine ⟨flatPair, ?_⟩; conv => whnf))
          refine ADraw.ofS tok mixed false [3, 10] [0, 1, 2, 3, 4, 5, 7, 8, 9, 10] [6, 11, 12, 13, 14] (by kernel_rfl) (fun _ _ _ _ h => h) ?_
          conv => whnf
          repeat (first
            | (refine ⟨by decide, ?_⟩; conv => whnf)
            | (refine ⟨flatPair, ?_⟩; conv => whnf))
          refine ADraw.ofS tok mixed false [3, 10] [0, 1, 2, 3, 4, 5, 7, 8, 9, 10] [6, 11, 12, 13, 14] (by kernel_rfl) (fun _ _ _ _ h => h) ?_
          conv => whnf
          repeat (first
            | (refine ⟨by decide, ?_⟩; conv => whnf)
            | (refine ⟨flatPair, ?_⟩; conv => whnf))
          exact GhR.sel [] rfl (GhR.of ⟨congrArg (fun z => ARes.ret (AV.i IntKind.i64 z)) (by simp [nodeE, Ex.isNil, hn']), rfl⟩)
        · refine ACall.gh ?_
          refine ACall.enter tok false Tryd.func49 rfl rfl rfl (AW_sound (ip := false) tok _ _ _ _ ?_)
          conv => whnf
          repeat (first
            | (refine ⟨by decide, ?_⟩; conv => whnf)
            | (refine ⟨flatPair, ?_⟩; conv => whnf)
            | (refine acond_t (hn) ?_; conv => whnf))
          refine ADraw.of tok mixed false [0, 1, 2, 3, 4, 5, 6, 7, 8, 9, 10, 11, 12, 13, 14, 15, 16, 17] [] (by kernel_rfl) (fun _ _ _ _ h => h) ?_
          conv => whnf
          repeat (first
            | (refine ⟨by decide, ?_⟩; conv => whnf)
            | (refine ⟨flatPair, ?_⟩; conv => whnf)
            | (refine acond_t (hn) ?_; conv => whnf))
          exact GhR.sel [] rfl (GhR.of ⟨congrArg (fun z => ARes.ret (AV.i IntKind.i64 z)) (by simp [nodeE, Ex.isNil, hn']), rfl⟩)
theorem node_6 (w o : Str) (n : Int) (l r : Ex) : ACall Tryd.prog 49 [(Ex.nd 6 w o n l r).av] [] fun r0 H => r0 = .ret (.i .i64 (nodeE 6 w o n (!l.isNil) (!r.isNil))) ∧ H = [] := by
  cases o with
  | cons c o =>
    refine ACall.gh ?_
    refine ACall.enter tok false Tryd.func49 rfl rfl rfl (AW_sound (ip := false) tok _ _ _ _ ?_)
    conv => whnf
    repeat (first
      | (refine ⟨by decide, ?_⟩; conv => whnf)
      | (refine ⟨flatPair, ?_⟩; conv => whnf))
    refine ADraw.of tok mixed false [0, 1, 2, 3, 4, 5, 6, 7, 8, 9, 10, 11, 12, 13, 14, 15, 16, 17] [] (by kernel_rfl) (fun _ _ _ _ h => h) ?_
    conv => whnf
    repeat (first
      | (refine ⟨by decide, ?_⟩; conv => whnf)
      | (refine ⟨flatPair, ?_⟩; conv => whnf))
    exact GhR.sel [] rfl (GhR.of ⟨congrArg (fun z => ARes.ret (AV.i IntKind.i64 z)) (by simp [nodeE]), rfl⟩)
  | nil =>
    cases hn : (n == 0) with
    | false =>
      have hn' : n ≠ 0 := by simpa using hn
      refine ACall.gh ?_
      refine ACall.enter tok false Tryd.func49 rfl rfl rfl (AW_sound (ip := false) tok _ _ _ _ ?_)
      conv => whnf
      repeat (first
        | (refine ⟨by decide, ?_⟩; conv => whnf)
        | (refine ⟨flatPair, ?_⟩; conv => whnf)
        | (refine acond_f (hn) ?_; conv => whnf))
      refine ADraw.of tok mixed false [0, 1, 2, 3, 4, 5, 6, 7, 8, 9, 10, 11, 12, 13, 14, 15, 16, 17] [] (by kernel_rfl) (fun _ _ _ _ h => h) ?_
      conv => whnf
      repeat (first
        | (refine ⟨by decide, ?_⟩; conv => whnf)
        | (refine ⟨flatPair, ?_⟩; conv => whnf)
        | (refine acond_f (hn) ?_; conv => whnf))
      exact GhR.sel [] rfl (GhR.of ⟨congrArg (fun z => ARes.ret (AV.i IntKind.i64 z)) (by simp [nodeE, hn']), rfl⟩)
    | true =>
      have hn' : n = 0 := by simpa using hn
      cases w with
      | cons c w =>
        refine ACall.gh ?_
        refine ACall.enter tok false Tryd.func49 rfl rfl rfl (AW_sound (ip := false) tok _ _ _ _ ?_)
        conv => whnf
        repeat (first
          | (refine ⟨by decide, ?_⟩; conv => whnf)
          | (refine ⟨flatPair, ?_⟩; conv => whnf)
          | (refine acond_t (hn) ?_; conv => whnf))
        refine ADraw.of tok mixed false [0, 1, 2, 3, 4, 5, 6, 7, 8, 9, 10, 11, 12, 13, 14, 15, 16, 17] [] (by kernel_rfl) (fun _ _ _ _ h => h) ?_
        conv => whnf
        repeat (first
          | (refine ⟨by decide, ?_⟩; conv => whnf)
          | (refine ⟨flatPair, ?_⟩; conv => whnf)
          | (refine acond_t (hn) ?_; conv => whnf))
        exact GhR.sel [] rfl (GhR.of ⟨congrArg (fun z => ARes.ret (AV.i IntKind.i64 z)) (by simp [nodeE]), rfl⟩)
      | nil =>
        cases l <;> cases r
        · refine ACall.gh ?_
          refine ACall.enter tok false Tryd.func49 rfl rfl rfl (AW_sound (ip := false) tok _ _ _ _ ?_)
          conv => whnf
          repeat (first
            | (refine ⟨by decide, ?_⟩; conv => whnf)
            | (refine ⟨flatPair, ?_⟩; conv => whnf)
            | (refine acond_t (hn) ?_; conv => whnf))
          refine ADraw.of tok mixed false [0, 1, 2, 3, 4, 5, 6, 7, 8, 9, 10, 11, 12, 13, 14, 15, 16, 17] [] (by kernel_rfl) (fun _ _ _ _ h => h) ?_
          conv => whnf
          repeat (first
            | (refine ⟨by decide, ?_⟩; conv => whnf)
            | (refine ⟨flatPair, ?_⟩; conv => whnf)
            | (refine acond_t (hn) ?_; conv => whnf))
          refine ADraw.ofS tok mixed false [3, 10] [0, 1, 2, 3, 4, 5, 7, 8, 9, 10] [6, 11, 12, 13, 14] (by kernel_rfl) (fun _ _ _ _ h => h) ?_
          conv => whnf
          repeat (first
            | (refine ⟨by decide, ?_⟩; conv => whnf)
            | (refine ⟨flatPair, ?_⟩; conv => whnf))
          refine ADraw.ofS tok mixed false [3, 10] [0, 1, 2, 3, 4, 5, 7, 8, 9, 10] [6, 11, 12, 13, 14] (by kernel_rfl) (fun _ _ _ _ h => h) ?_
          conv => whnf
          repeat (first
            | (refine ⟨by decide, ?_⟩; conv => whnf)
            | (refine ⟨flatPair, ?_⟩; conv => whnf))
          refine ADraw.ofS tok mixed false [3, 10] [0, 1, 2, 3, 4, 5, 7, 8, 9, 10] [6, 11, 12, 13, 14] (by kernel_rfl) (fun _ _ _ _ h => h) ?_
          conv => whnf
          repeat (first
            | (refine ⟨by decide, ?_⟩; conv => whnf)
            | (refine ⟨flatPair, ?_⟩; conv => whnf))
          exact GhR.sel [] rfl (GhR.of ⟨congrArg (fun z => ARes.ret (AV.i IntKind.i64 z)) (by simp [nodeE, Ex.isNil, hn']), rfl⟩)
        · refine ACall.gh ?_
          refine ACall.enter tok false Tryd.func49 rfl rfl rfl (AW_sound (ip := false) tok _ _ _ _ ?_)
          conv => whnf
          repeat (first
            | (refine ⟨by decide, ?_⟩; conv => whnf)
            | (refine ⟨flatPair, ?_⟩; conv => whnf)
            | (refine acond_t (hn) ?_; conv => whnf))
          refine ADraw.of tok mixed false [0, 1, 2, 3, 4, 5, 6, 7, 8, 9, 10, 11, 12, 13, 14, 15, 16, 17] [] (by kernel_rfl) (fun _ _ _ _ h => h) ?_
          conv => whnf
          repeat (first
            | (refine ⟨by decide, ?_⟩; conv => whnf)
            | (refine ⟨flatPair, ?_⟩; conv => whnf)
            | (refine acond_t (hn) ?_; conv => whnf))
          exact GhR.sel [] rfl (GhR.of ⟨congrArg (fun z => ARes.ret (AV.i IntKind.i64 z)) (by simp [nodeE, Ex.isNil, hn']), rfl⟩)
        · refine ACall.gh ?_
          refine ACall.enter tok false Tryd.func49 rfl rfl rfl (AW_sound (ip := false) tok _ _ _ _ ?_)
          conv => whnf
          repeat (first
            | (refine ⟨by decide, ?_⟩; conv => whnf)
            | (refine ⟨flatPair, ?_⟩; conv => whnf)
            | (refine acond_t (hn) ?_; conv => whnf))
          refine ADraw.of tok mixed false [0, 1, 2, 3, 4, 5, 6, 7, 8, 9, 10, 11, 12, 13, 14, 15, 16, 17] [] (by kernel_rfl) (fun _ _ _ _ h => h) ?_
          conv => whnf
          repeat (first
            | (refine ⟨by decide, ?_⟩; conv => whnf)
            | (refine ⟨flatPair, ?_⟩; conv => whnf)
            | (refine acond_t (hn) ?_; conv => whnf))
          exact GhR.sel [] rfl (GhR.of ⟨congrArg (fun z => ARes.ret (AV.i IntKind.i64 z)) (by simp [nodeE, Ex.isNil, hn']), rfl⟩)
        · refine ACall.gh ?_
          refine ACall.enter tok false Tryd.func49 rfl rfl rfl (AW_sound (ip := false) tok _ _ _ _ ?_)
          conv => whnf
          repeat (first
            | (refine ⟨by decide, ?_⟩; conv => whnf)
            | (refine ⟨flatPair, ?_⟩; conv => whnf)
            | (refine acond_t (hn) ?_; conv => whnf))
          refine ADraw.of tok mixed false [0, 1, 2, 3, 4, 5, 6, 7, 8, 9, 10, 11, 12, 13, 14, 15, 16, 17] [] (by kernel_rfl) (fun _ _ _ _ h => h) ?_
          conv => whnf
          repeat (first
            | (refine ⟨by decide, ?_⟩; conv => whnf)
            | (refine ⟨flatPair, ?_⟩; conv => whnf)
            | (refine acond_t (hn) ?_; conv => whnf))
          exact GhR.sel [] rfl (GhR.of ⟨congrArg (fun z => ARes.ret (AV.i IntKind.i64 z)) (by simp [nodeE, Ex.isNil, hn']), rfl⟩)
theorem node_7 (w o : Str) (n : Int) (l r : Ex) : ACall Tryd.prog 49 [(Ex.nd 7 w o n l r).av] [] fun r0 H => r0 = .ret (.i .i64 (nodeE 7 w o n (!l.isNil) (!r.isNil))) ∧ H = [] := by
  cases o with
  | cons c o =>
    refine ACall.gh ?_
    refine ACall.enter tok false Tryd.func49 rfl rfl rfl (AW_sound (ip := false) tok _ _ _ _ ?_)
    conv => whnf
    repeat (first
      | (refine ⟨by decide, ?_⟩; conv => whnf)
      | (refine ⟨flatPair, ?_⟩; conv => whnf))
    refine ADraw.of tok mixed false [0, 1, 2, 3, 4, 5, 6, 7, 8, 9, 10, 11, 12, 13, 14, 15, 16, 17] [] (by kernel_rfl) (fun _ _ _ _ h => h) ?_
    conv => whnf
    repeat (first
      | (refine ⟨by decide, ?_⟩; conv => whnf)
      | (refine ⟨flatPair, ?_⟩; conv => whnf))
    exact GhR.sel [] rfl (GhR.of ⟨congrArg (fun z => ARes.ret (AV.i IntKind.i64 z)) (by simp [nodeE]), rfl⟩)
  | nil =>
    cases hn : (n == 0) with
    | false =>
      have hn' : n ≠ 0 := by simpa using hn
      refine ACall.gh ?_
      refine ACall.enter tok false Tryd.func49 rfl rfl rfl (AW_sound (ip := false) tok _ _ _ _ ?_)
      conv => whnf
      repeat (first
        | (refine ⟨by decide, ?_⟩; conv => whnf)
        | (refine ⟨flatPair, ?_⟩; conv => whnf)
        | (refine acond_f (hn) ?_; conv => whnf))
      refine ADraw.of tok mixed false [0, 1, 2, 3, 4, 5, 6, 7, 8, 9, 10, 11, 12, 13, 14, 15, 16, 17] [] (by kernel_rfl) (fun _ _ _ _ h => h) ?_
      conv => whnf
      repeat (first
        | (refine ⟨by decide, ?_⟩; conv => whnf)
        | (refine ⟨flatPair, ?_⟩; conv => whnf)
        | (refine acond_f (hn) ?_; conv => whnf))
      exact GhR.sel [] rfl (GhR.of ⟨congrArg (fun z => ARes.ret (AV.i IntKind.i64 z)) (by simp [nodeE, hn']), rfl⟩)
    | true =>
      have hn' : n = 0 := by simpa using hn
      cases w with
      | cons c w =>
        refine ACall.gh ?_
        refine ACall.enter tok false Tryd.func49 rfl rfl rfl (AW_sound (ip := false) tok _ _ _ _ ?_)
        conv => whnf
        repeat (first
          | (refine ⟨by decide, ?_⟩; conv => whnf)
          | (refine ⟨flatPair, ?_⟩; conv => whnf)
          | (refine acond_t (hn) ?_; conv => whnf))
        refine ADraw.of tok mixed false [0, 1, 2, 3, 4, 5, 6, 7, 8, 9, 10, 11, 12, 13, 14, 15, 16, 17] [] (by kernel_rfl) (fun _ _ _ _ h => h) ?_
        conv => whnf
        repeat (first
          | (refine ⟨by decide, ?_⟩; conv => whnf)
          | (refine ⟨flatPair, ?_⟩; conv => whnf)
          | (refine acond_t (hn) ?_; conv => whnf))
        exact GhR.sel [] rfl (GhR.of ⟨congrArg (fun z => ARes.ret (AV.i IntKind.i64 z)) (by simp [nodeE]), rfl⟩)
      | nil =>
        cases l <;> cases r
        · refine ACall.gh ?_
          refine ACall.enter tok false Tryd.func49 rfl rfl rfl (AW_sound (ip := false) tok _ _ _ _ ?_)
          conv => whnf
          repeat (first
            | (refine ⟨by decide, ?_⟩; conv => whnf)
            | (refine ⟨flatPair, ?_⟩; conv => whnf)
            | (refine acond_t (hn) ?_; conv => whnf))
          refine ADraw.of tok mixed false [0, 1, 2, 3, 4, 5, 6, 7, 8, 9, 10, 11, 12, 13, 14, 15, 16, 17] [] (by kernel_rfl) (fun _ _ _ _ h => h) ?_
          conv => whnf
          repeat (first
            | (refine ⟨by decide, ?_⟩; conv => whnf)
            | (refine ⟨flatPair, ?_⟩; conv => whnf)
            | (refine acond_t (hn) ?_; conv => whnf))
          refine ADraw.ofS tok mixed false [3, 10] [0, 1, 2, 3, 4, 5, 7, 8, 9, 10] [6, 11, 12, 13, 14] (by kernel_rfl) (fun _ _ _ _ h => h) ?_
          conv => whnf
          repeat (first
            | (refine ⟨by decide, ?_⟩; conv => whnf)
            | (refine ⟨flatPair, ?_⟩; conv => whnf))
          refine ADraw.ofS tok mixed false [3, 10] [0, 1, 2, 3, 4, 5, 7, 8, 9, 10] [6, 11, 12, 13, 14] (by kernel_rfl) (fun _ _ _ _ h => h) ?_
          conv => whnf
          repeat (first
            | (refine ⟨by decide, ?_⟩; conv => whnf)
            | (refine ⟨flatPair, ?_⟩; conv => whnf))
          refine ADraw.ofS tok mixed false [3, 10] [0, 1, 2, 3, 4, 5, 7, 8, 9, 10] [6, 11, 12, 13, 14] (by kernel_rfl) (fun _ _ _ _ h => h) ?_
          conv => whnf
          repeat (first
            | (refine ⟨by decide, ?_⟩; conv => whnf)
            | (refine ⟨flatPair, ?_⟩; conv => whnf))
          exact GhR.sel [] rfl (GhR.of ⟨congrArg (fun z => ARes.ret (AV.i IntKind.i64 z)) (by simp [nodeE, Ex.isNil, hn']), rfl⟩)
        · refine ACall.gh ?_
          refine ACall.enter tok false Tryd.func49 rfl rfl rfl (AW_sound (ip := false) tok _ _ _ _ ?_)
          conv => whnf
          repeat (first
            | (refine ⟨by decide, ?_⟩; conv => whnf)
            | (refine ⟨flatPair, ?_⟩; conv => whnf)
            | (refine acond_t (hn) ?_; conv => whnf))
          refine ADraw.of tok mixed false [0, 1, 2, 3, 4, 5, 6, 7, 8, 9, 10, 11, 12, 13, 14, 15, 16, 17] [] (by kernel_rfl) (fun _ _ _ _ h => h) ?_
          conv => whnf
          repeat (first
            | (refine ⟨by decide, ?_⟩; conv => whnf)
            | (refine ⟨flatPair, ?_⟩; conv => whnf)
            | (refine acond_t (hn) ?_; conv => whnf))
          exact GhR.sel [] rfl (GhR.of ⟨congrArg (fun z => ARes.ret (AV.i IntKind.i64 z)) (by simp [nodeE, Ex.isNil, hn']), rfl⟩)
        · refine ACall.gh ?_
          refine ACall.enter tok false Tryd.func49 rfl rfl rfl (AW_sound (ip := false) tok _ _ _ _ ?_)
          conv => whnf
          repeat (first
            | (refine ⟨by decide, ?_⟩; conv => whnf)
            | (refine ⟨flatPair, ?_⟩; conv => whnf)
            | (refine acond_t (hn) ?_; conv => whnf))
          refine ADraw.of tok mixed false [0, 1, 2, 3, 4, 5, 6, 7, 8, 9, 10, 11, 12, 13, 14, 15, 16, 17] [] (by kernel_rfl) (fun _ _ _ _ h => h) ?_
          conv => whnf
          repeat (first
            | (refine ⟨by decide, ?_⟩; conv => whnf)
            | (refine ⟨flatPair, ?_⟩; conv => whnf)
            | (refine acond_t (hn) ?_; conv => whnf))
          exact GhR.sel [] rfl (GhR.of ⟨congrArg (fun z => ARes.ret (AV.i IntKind.i64 z)) (by simp [nodeE, Ex.isNil, hn']), rfl⟩)
        · refine ACall.gh ?_
          refine ACall.enter tok false Tryd.func49 rfl rfl rfl (AW_sound (ip := false) tok _ _ _ _ ?_)
          conv => whnf
          repeat (first
            | (refine ⟨by decide, ?_⟩; conv => whnf)
            | (refine ⟨flatPair, ?_⟩; conv => whnf)
            | (refine acond_t (hn) ?_; conv => whnf))
          refine ADraw.of tok mixed false [0, 1, 2, 3, 4, 5, 6, 7, 8, 9, 10, 11, 12, 13, 14, 15, 16, 17] [] (by kernel_rfl) (fun _ _ _ _ h => h) ?_
          conv => whnf
          repeat (first
            | (refine ⟨by decide, ?_⟩; conv => whnf)
            | (refine ⟨flatPair, ?_⟩; conv => whnf)
            | (refine acond_t (hn) ?_; conv => whnf))
          exact GhR.sel [] rfl (GhR.of ⟨congrArg (fun z => ARes.ret (AV.i IntKind.i64 z)) (by simp [nodeE, Ex.isNil, hn']), rfl⟩)
end Go.AK
namespace Go.AK
open Go Go.RowKit Go.Proofs
set_option linter.unusedVariables false
set_option maxRecDepth 100000
theorem node_5 (w o : Str) (n : Int) (l r : Ex) : ACall Tryd.prog 49 [(Ex.nd 5 w o n l r).av] [] fun r0 H => r0 = .ret (.i .i64 (nodeE 5 w o n (!l.isNil) (!r.isNil))) ∧ H = [] := by
  cases o with
  | cons c o =>
    refine ACall.gh ?_
    refine ACall.enter tok false Tryd.func49 rfl rfl rfl (AW_sound (ip := false) tok _ _ _ _ ?_)
    conv => whnf
    repeat (first
      | (refine ⟨by decide, ?_⟩; conv => whnf)
      | (refine ⟨flatPair, ?_⟩; conv => whnf))
    refine ADraw.of tok mixed false [0, 1, 2, 3, 4, 5, 6, 7, 8, 9, 10, 11, 12, 13, 14, 15, 16, 17] [] (by kernel_rfl) (fun _ _ _ _ h => h) ?_
    conv => whnf
    repeat (first
      | (refine ⟨by decide, ?_⟩; conv => whnf)
      | (refine ⟨flatPair, ?_⟩; conv => whnf))
    exact GhR.sel [] rfl (GhR.of ⟨congrArg (fun z => ARes.ret (AV.i IntKind.i64 z)) (by simp [nodeE]), rfl⟩)
  | nil =>
    cases hn : (n == 0) with
    | false =>
      have hn' : n ≠ 0 := by simpa using hn
      refine ACall.gh ?_
      refine ACall.enter tok false Tryd.func49 rfl rfl rfl (AW_sound (ip := false) tok _ _ _ _ ?_)
      conv => whnf
      repeat (first
        | (refine ⟨by decide, ?_⟩; conv => whnf)
        | (refine ⟨flatPair, ?_⟩; conv => whnf)
        | (refine acond_f (hn) ?_; conv => whnf)
          | (refine acond_t (by rw [hn]; rfl) ?_; conv => whnf))
      refine ADraw.of tok mixed false [0, 1, 2, 3, 4, 5, 6, 7, 8, 9, 10, 11, 12, 13, 14, 15, 16, 17] [] (by kernel_rfl) (fun _ _ _ _ h => h) ?_
      conv => whnf
      repeat (first
        | (refine ⟨by decide, ?_⟩; conv => whnf)
        | (refine ⟨flatPair, ?_⟩; conv => whnf)
        | (refine acond_f (hn) ?_; conv => whnf)
          | (refine acond_t (by rw [hn]; rfl) ?_; conv => whnf))
      exact GhR.sel [] rfl (GhR.of ⟨congrArg (fun z => ARes.ret (AV.i IntKind.i64 z)) (by simp [nodeE, hn']), rfl⟩)
    | true =>
      have hn' : n = 0 := by simpa using hn
      cases l <;> cases r
      · refine ACall.gh ?_
        refine ACall.enter tok false Tryd.func49 rfl rfl rfl (AW_sound (ip := false) tok _ _ _ _ ?_)
        conv => whnf
        repeat (first
          | (refine ⟨by decide, ?_⟩; conv => whnf)
          | (refine ⟨flatPair, ?_⟩; conv => whnf)
          | (refine acond_t (hn) ?_; conv => whnf)
            | (refine acond_f (by rw [hn]; rfl) ?_; conv => whnf))
        refine ADraw.of tok mixed false [0, 1, 2, 3, 4, 5, 6, 7, 8, 9, 10, 11, 12, 13, 14, 15, 16, 17] [] (by kernel_rfl) (fun _ _ _ _ h => h) ?_
        conv => whnf
        repeat (first
          | (refine ⟨by decide, ?_⟩; conv => whnf)
          | (refine ⟨flatPair, ?_⟩; conv => whnf)
          | (refine acond_t (hn) ?_; conv => whnf)
            | (refine acond_f (by rw [hn]; rfl) ?_; conv => whnf))
        refine ADraw.ofS tok mixed false [3, 10] [0, 1, 2, 3, 4, 5, 7, 8, 9, 10] [6, 11, 12, 13, 14] (by kernel_rfl) (fun _ _ _ _ h => h) ?_
        conv => whnf
        refine ACall.frameH [] [] rfl (args' := []) (Hc := []) rfl rfl (flags_spec) ?_
        rintro r0 H ⟨rfl, rfl⟩
        refine ⟨.inl rfl, _, rfl, ?_⟩
        conv => whnf
        refine ACall.frameH [] [] rfl (args' := [.rs (strs flagsL) 0 1 flagsL.length, .s (sb w)]) (Hc := []) rfl rfl (contains_spec flagsL w (by decide)) ?_
        rintro r0 H ⟨rfl, rfl⟩
        refine ⟨.inl rfl, _, rfl, ?_⟩
        conv => whnf
        cases hc : flagsL.contains w with
        | false =>
          conv => whnf
          repeat (first
            | (refine ⟨by decide, ?_⟩; conv => whnf)
            | (refine ⟨flatPair, ?_⟩; conv => whnf))
          exact GhR.sel [] rfl (GhR.of ⟨congrArg (fun z => ARes.ret (AV.i IntKind.i64 z)) (by have hc2 := hc; simp at hc2; simp [nodeE, Ex.isNil, hn', hc2]), rfl⟩)
        | true =>
          conv => whnf
          refine ADraw.ofS tok mixed false [3, 10] [0, 1, 2, 3, 4, 5, 7, 8, 9, 10] [6, 11, 12, 13, 14] (by kernel_rfl) (fun _ _ _ _ h => h) ?_
          conv => whnf
          repeat (first
            | (refine ⟨by decide, ?_⟩; conv => whnf)
            | (refine ⟨flatPair, ?_⟩; conv => whnf))
          refine ADraw.ofS tok mixed false [3, 10] [0, 1, 2, 3, 4, 5, 7, 8, 9, 10] [6, 11, 12, 13, 14] (by kernel_rfl) (fun _ _ _ _ h => h) ?_
          conv => whnf
          repeat (first
            | (refine ⟨by decide, ?_⟩; conv => whnf)
            | (refine ⟨flatPair, ?_⟩; conv => whnf))
          exact GhR.sel [] rfl (GhR.of ⟨congrArg (fun z => ARes.ret (AV.i IntKind.i64 z)) (by have hc2 := hc; simp at hc2; simp [nodeE, Ex.isNil, hn', hc2]), rfl⟩)
      · refine ACall.gh ?_
        refine ACall.enter tok false Tryd.func49 rfl rfl rfl (AW_sound (ip := false) tok _ _ _ _ ?_)
        conv => whnf
        repeat (first
          | (refine ⟨by decide, ?_⟩; conv => whnf)
          | (refine ⟨flatPair, ?_⟩; conv => whnf)
          | (refine acond_t (hn) ?_; conv => whnf)
            | (refine acond_f (by rw [hn]; rfl) ?_; conv => whnf))
        refine ADraw.of tok mixed false [0, 1, 2, 3, 4, 5, 6, 7, 8, 9, 10, 11, 12, 13, 14, 15, 16, 17] [] (by kernel_rfl) (fun _ _ _ _ h => h) ?_
        conv => whnf
        repeat (first
          | (refine ⟨by decide, ?_⟩; conv => whnf)
          | (refine ⟨flatPair, ?_⟩; conv => whnf)
          | (refine acond_t (hn) ?_; conv => whnf)
            | (refine acond_f (by rw [hn]; rfl) ?_; conv => whnf))
        exact GhR.sel [] rfl (GhR.of ⟨congrArg (fun z => ARes.ret (AV.i IntKind.i64 z)) (by simp [nodeE, Ex.isNil, hn']), rfl⟩)
      · refine ACall.gh ?_
        refine ACall.enter tok false Tryd.func49 rfl rfl rfl (AW_sound (ip := false) tok _ _ _ _ ?_)
        conv => whnf
        repeat (first
          | (refine ⟨by decide, ?_⟩; conv => whnf)
          | (refine ⟨flatPair, ?_⟩; conv => whnf)
          | (refine acond_t (hn) ?_; conv => whnf)
            | (refine acond_f (by rw [hn]; rfl) ?_; conv => whnf))
        refine ADraw.of tok mixed false [0, 1, 2, 3, 4, 5, 6, 7, 8, 9, 10, 11, 12, 13, 14, 15, 16, 17] [] (by kernel_rfl) (fun _ _ _ _ h => h) ?_
        conv => whnf
        repeat (first
          | (refine ⟨by decide, ?_⟩; conv => whnf)
          | (refine ⟨flatPair, ?_⟩; conv => whnf)
          | (refine acond_t (hn) ?_; conv => whnf)
            | (refine acond_f (by rw [hn]; rfl) ?_; conv => whnf))
        exact GhR.sel [] rfl (GhR.of ⟨congrArg (fun z => ARes.ret (AV.i IntKind.i64 z)) (by simp [nodeE, Ex.isNil, hn']), rfl⟩)
      · refine ACall.gh ?_
        refine ACall.enter tok false Tryd.func49 rfl rfl rfl (AW_sound (ip := false) tok _ _ _ _ ?_)
        conv => whnf
        repeat (first
          | (refine ⟨by decide, ?_⟩; conv => whnf)
          | (refine ⟨flatPair, ?_⟩; conv => whnf)
          | (refine acond_t (hn) ?_; conv => whnf)
            | (refine acond_f (by rw [hn]; rfl) ?_; conv => whnf))
        refine ADraw.of tok mixed false [0, 1, 2, 3, 4, 5, 6, 7, 8, 9, 10, 11, 12, 13, 14, 15, 16, 17] [] (by kernel_rfl) (fun _ _ _ _ h => h) ?_
        conv => whnf
        repeat (first
          | (refine ⟨by decide, ?_⟩; conv => whnf)
          | (refine ⟨flatPair, ?_⟩; conv => whnf)
          | (refine acond_t (hn) ?_; conv => whnf)
            | (refine acond_f (by rw [hn]; rfl) ?_; conv => whnf))
        exact GhR.sel [] rfl (GhR.of ⟨congrArg (fun z => ARes.ret (AV.i IntKind.i64 z)) (by simp [nodeE, Ex.isNil, hn']), rfl⟩)
end Go.AK
namespace Go.AK
open Go Go.RowKit Go.Proofs
set_option linter.unusedVariables false
set_option maxRecDepth 100000
theorem node_4 (w o : Str) (n : Int) (l r : Ex) : ACall Tryd.prog 49 [(Ex.nd 4 w o n l r).av] [] fun r0 H => r0 = .ret (.i .i64 (nodeE 4 w o n (!l.isNil) (!r.isNil))) ∧ H = [] := by
  cases o with
  | cons c o =>
    cases l <;> cases r
    · refine ACall.gh ?_
      refine ACall.enter tok false Tryd.func49 rfl rfl rfl (AW_sound (ip := false) tok _ _ _ _ ?_)
      conv => whnf
      repeat (first
        | (refine ⟨by decide, ?_⟩; conv => whnf)
        | (refine ⟨flatPair, ?_⟩; conv => whnf))
      refine ADraw.of tok mixed false [0, 1, 2, 3, 4, 5, 6, 7, 8, 9, 10, 11, 12, 13, 14, 15, 16, 17] [] (by kernel_rfl) (fun _ _ _ _ h => h) ?_
      conv => whnf
      repeat (first
        | (refine ⟨by decide, ?_⟩; conv => whnf)
        | (refine ⟨flatPair, ?_⟩; conv => whnf))
      refine ADraw.ofS tok mixed false [3, 10] [0, 1, 2, 3, 4, 5, 7, 8, 9, 10] [6, 11, 12, 13, 14] (by kernel_rfl) (fun _ _ _ _ h => h) ?_
      conv => whnf
      repeat (first
        | (refine ⟨by decide, ?_⟩; conv => whnf)
        | (refine ⟨flatPair, ?_⟩; conv => whnf))
      refine ADraw.ofS tok mixed false [3, 10] [0, 1, 2, 3, 4, 5, 7, 8, 9, 10] [6, 11, 12, 13, 14] (by kernel_rfl) (fun _ _ _ _ h => h) ?_
      conv => whnf
      refine ACall.frameH [] [] rfl (args' := []) (Hc := []) rfl rfl (numbers_spec) ?_
      rintro r0 H ⟨rfl, rfl⟩
      refine ⟨.inl rfl, _, rfl, ?_⟩
      conv => whnf
      refine ACall.frameH [] [] rfl (args' := [.rs (strs numbersL) 0 1 numbersL.length, .s (sb w)]) (Hc := []) rfl rfl (contains_spec numbersL w (by decide)) ?_
      rintro r0 H ⟨rfl, rfl⟩
      refine ⟨.inl rfl, _, rfl, ?_⟩
      conv => whnf
      cases hc : numbersL.contains w with
      | false =>
        conv => whnf
        repeat (first
          | (refine ⟨by decide, ?_⟩; conv => whnf)
          | (refine ⟨flatPair, ?_⟩; conv => whnf))
        exact GhR.sel [] rfl (GhR.of ⟨congrArg (fun z => ARes.ret (AV.i IntKind.i64 z)) (by have hc2 := hc; simp at hc2; simp [nodeE, Ex.isNil, hc2]), rfl⟩)
      | true =>
        conv => whnf
        refine ADraw.ofS tok mixed false [3, 10] [0, 1, 2, 3, 4, 5, 7, 8, 9, 10] [6, 11, 12, 13, 14] (by kernel_rfl) (fun _ _ _ _ h => h) ?_
        conv => whnf
        refine ACall.frameH [] [] rfl (args' := []) (Hc := []) rfl rfl (ops_spec) ?_
        rintro r0 H ⟨rfl, rfl⟩
        refine ⟨.inl rfl, _, rfl, ?_⟩
        conv => whnf
        refine ACall.frameH [] [] rfl (args' := [.rs (strs opsL) 0 1 opsL.length, .s (sb (c :: o))]) (Hc := []) rfl rfl (contains_spec opsL (c :: o) (by decide)) ?_
        rintro r0 H ⟨rfl, rfl⟩
        refine ⟨.inl rfl, _, rfl, ?_⟩
        conv => whnf
        cases hd : opsL.contains (c :: o) with
        | false =>
          conv => whnf
          repeat (first
            | (refine ⟨by decide, ?_⟩; conv => whnf)
            | (refine ⟨flatPair, ?_⟩; conv => whnf))
          exact GhR.sel [] rfl (GhR.of ⟨congrArg (fun z => ARes.ret (AV.i IntKind.i64 z)) (by have hc2 := hc; simp at hc2; have hd2 := hd; simp at hd2; simp [nodeE, Ex.isNil, hc2, hd2]), rfl⟩)
        | true =>
          conv => whnf
          by_cases hneg : n < 0
          · (refine acond_t (decide_eq_true hneg) ?_; conv => whnf)
            exact GhR.sel [] rfl (GhR.of ⟨congrArg (fun z => ARes.ret (AV.i IntKind.i64 z)) (by have hc2 := hc; simp at hc2; have hd2 := hd; simp at hd2; simp [nodeE, Ex.isNil, hc2, hd2, hneg]), rfl⟩)
          · (refine acond_f (decide_eq_false hneg) ?_; conv => whnf)
            exact GhR.sel [] rfl (GhR.of ⟨congrArg (fun z => ARes.ret (AV.i IntKind.i64 z)) (by have hc2 := hc; simp at hc2; have hd2 := hd; simp at hd2; simp [nodeE, Ex.isNil, hc2, hd2, hneg]), rfl⟩)
    · refine ACall.gh ?_
      refine ACall.enter tok false Tryd.func49 rfl rfl rfl (AW_sound (ip := false) tok _ _ _ _ ?_)
      conv => whnf
      repeat (first
        | (refine ⟨by decide, ?_⟩; conv => whnf)
        | (refine ⟨flatPair, ?_⟩; conv => whnf))
      refine ADraw.of tok mixed false [0, 1, 2, 3, 4, 5, 6, 7, 8, 9, 10, 11, 12, 13, 14, 15, 16, 17] [] (by kernel_rfl) (fun _ _ _ _ h => h) ?_
      conv => whnf
      repeat (first
        | (refine ⟨by decide, ?_⟩; conv => whnf)
        | (refine ⟨flatPair, ?_⟩; conv => whnf))
      exact GhR.sel [] rfl (GhR.of ⟨congrArg (fun z => ARes.ret (AV.i IntKind.i64 z)) (by simp [nodeE, Ex.isNil]), rfl⟩)
    · refine ACall.gh ?_
      refine ACall.enter tok false Tryd.func49 rfl rfl rfl (AW_sound (ip := false) tok _ _ _ _ ?_)
      conv => whnf
      repeat (first
        | (refine ⟨by decide, ?_⟩; conv => whnf)
        | (refine ⟨flatPair, ?_⟩; conv => whnf))
      refine ADraw.of tok mixed false [0, 1, 2, 3, 4, 5, 6, 7, 8, 9, 10, 11, 12, 13, 14, 15, 16, 17] [] (by kernel_rfl) (fun _ _ _ _ h => h) ?_
      conv => whnf
      repeat (first
        | (refine ⟨by decide, ?_⟩; conv => whnf)
        | (refine ⟨flatPair, ?_⟩; conv => whnf))
      exact GhR.sel [] rfl (GhR.of ⟨congrArg (fun z => ARes.ret (AV.i IntKind.i64 z)) (by simp [nodeE, Ex.isNil]), rfl⟩)
    · refine ACall.gh ?_
      refine ACall.enter tok false Tryd.func49 rfl rfl rfl (AW_sound (ip := false) tok _ _ _ _ ?_)
      conv => whnf
      repeat (first
        | (refine ⟨by decide, ?_⟩; conv => whnf)
        | (refine ⟨flatPair, ?_⟩; conv => whnf))
      refine ADraw.of tok mixed false [0, 1, 2, 3, 4, 5, 6, 7, 8, 9, 10, 11, 12, 13, 14, 15, 16, 17] [] (by kernel_rfl) (fun _ _ _ _ h => h) ?_
      conv => whnf
      repeat (first
        | (refine ⟨by decide, ?_⟩; conv => whnf)
        | (refine ⟨flatPair, ?_⟩; conv => whnf))
      exact GhR.sel [] rfl (GhR.of ⟨congrArg (fun z => ARes.ret (AV.i IntKind.i64 z)) (by simp [nodeE, Ex.isNil]), rfl⟩)
  | nil =>
    cases hn : (n == 0) with
    | false =>
      cases l <;> cases r
      · refine ACall.gh ?_
        refine ACall.enter tok false Tryd.func49 rfl rfl rfl (AW_sound (ip := false) tok _ _ _ _ ?_)
        conv => whnf
        repeat (first
          | (refine ⟨by decide, ?_⟩; conv => whnf)
          | (refine ⟨flatPair, ?_⟩; conv => whnf)
          | (refine acond_f (hn) ?_; conv => whnf))
        refine ADraw.of tok mixed false [0, 1, 2, 3, 4, 5, 6, 7, 8, 9, 10, 11, 12, 13, 14, 15, 16, 17] [] (by kernel_rfl) (fun _ _ _ _ h => h) ?_
        conv => whnf
        repeat (first
          | (refine ⟨by decide, ?_⟩; conv => whnf)
          | (refine ⟨flatPair, ?_⟩; conv => whnf)
          | (refine acond_f (hn) ?_; conv => whnf))
        refine ADraw.ofS tok mixed false [3, 10] [0, 1, 2, 3, 4, 5, 7, 8, 9, 10] [6, 11, 12, 13, 14] (by kernel_rfl) (fun _ _ _ _ h => h) ?_
        conv => whnf
        repeat (first
          | (refine ⟨by decide, ?_⟩; conv => whnf)
          | (refine ⟨flatPair, ?_⟩; conv => whnf)
          | (refine acond_f (hn) ?_; conv => whnf))
        refine ADraw.ofS tok mixed false [3, 10] [0, 1, 2, 3, 4, 5, 7, 8, 9, 10] [6, 11, 12, 13, 14] (by kernel_rfl) (fun _ _ _ _ h => h) ?_
        conv => whnf
        refine ACall.frameH [] [] rfl (args' := []) (Hc := []) rfl rfl (numbers_spec) ?_
        rintro r0 H ⟨rfl, rfl⟩
        refine ⟨.inl rfl, _, rfl, ?_⟩
        conv => whnf
        refine ACall.frameH [] [] rfl (args' := [.rs (strs numbersL) 0 1 numbersL.length, .s (sb w)]) (Hc := []) rfl rfl (contains_spec numbersL w (by decide)) ?_
        rintro r0 H ⟨rfl, rfl⟩
        refine ⟨.inl rfl, _, rfl, ?_⟩
        conv => whnf
        cases hc : numbersL.contains w with
        | false =>
          conv => whnf
          repeat (first
            | (refine ⟨by decide, ?_⟩; conv => whnf)
            | (refine ⟨flatPair, ?_⟩; conv => whnf))
          exact GhR.sel [] rfl (GhR.of ⟨congrArg (fun z => ARes.ret (AV.i IntKind.i64 z)) (by have hc2 := hc; simp at hc2; simp [nodeE, Ex.isNil, hc2]), rfl⟩)
        | true =>
          conv => whnf
          refine ADraw.ofS tok mixed false [3, 10] [0, 1, 2, 3, 4, 5, 7, 8, 9, 10] [6, 11, 12, 13, 14] (by kernel_rfl) (fun _ _ _ _ h => h) ?_
          conv => whnf
          refine ACall.frameH [] [] rfl (args' := []) (Hc := []) rfl rfl (ops_spec) ?_
          rintro r0 H ⟨rfl, rfl⟩
          refine ⟨.inl rfl, _, rfl, ?_⟩
          conv => whnf
          refine ACall.frameH [] [] rfl (args' := [.rs (strs opsL) 0 1 opsL.length, .s (sb ([]))]) (Hc := []) rfl rfl (contains_spec opsL ([]) (by decide)) ?_
          rintro r0 H ⟨rfl, rfl⟩
          refine ⟨.inl rfl, _, rfl, ?_⟩
          conv => whnf
          cases hd : opsL.contains ([]) with
          | false =>
            conv => whnf
            repeat (first
              | (refine ⟨by decide, ?_⟩; conv => whnf)
              | (refine ⟨flatPair, ?_⟩; conv => whnf))
            exact GhR.sel [] rfl (GhR.of ⟨congrArg (fun z => ARes.ret (AV.i IntKind.i64 z)) (by have hc2 := hc; simp at hc2; have hd2 := hd; simp at hd2; simp [nodeE, Ex.isNil, hc2, hd2]), rfl⟩)
          | true => exact absurd hd (by decide)
      · refine ACall.gh ?_
        refine ACall.enter tok false Tryd.func49 rfl rfl rfl (AW_sound (ip := false) tok _ _ _ _ ?_)
        conv => whnf
        repeat (first
          | (refine ⟨by decide, ?_⟩; conv => whnf)
          | (refine ⟨flatPair, ?_⟩; conv => whnf)
          | (refine acond_f (hn) ?_; conv => whnf))
        refine ADraw.of tok mixed false [0, 1, 2, 3, 4, 5, 6, 7, 8, 9, 10, 11, 12, 13, 14, 15, 16, 17] [] (by kernel_rfl) (fun _ _ _ _ h => h) ?_
        conv => whnf
        repeat (first
          | (refine ⟨by decide, ?_⟩; conv => whnf)
          | (refine ⟨flatPair, ?_⟩; conv => whnf)
          | (refine acond_f (hn) ?_; conv => whnf))
        exact GhR.sel [] rfl (GhR.of ⟨congrArg (fun z => ARes.ret (AV.i IntKind.i64 z)) (by simp [nodeE, Ex.isNil]), rfl⟩)
      · refine ACall.gh ?_
        refine ACall.enter tok false Tryd.func49 rfl rfl rfl (AW_sound (ip := false) tok _ _ _ _ ?_)
        conv => whnf
        repeat (first
          | (refine ⟨by decide, ?_⟩; conv => whnf)
          | (refine ⟨flatPair, ?_⟩; conv => whnf)
          | (refine acond_f (hn) ?_; conv => whnf))
        refine ADraw.of tok mixed false [0, 1, 2, 3, 4, 5, 6, 7, 8, 9, 10, 11, 12, 13, 14, 15, 16, 17] [] (by kernel_rfl) (fun _ _ _ _ h => h) ?_
        conv => whnf
        repeat (first
          | (refine ⟨by decide, ?_⟩; conv => whnf)
          | (refine ⟨flatPair, ?_⟩; conv => whnf)
          | (refine acond_f (hn) ?_; conv => whnf))
        exact GhR.sel [] rfl (GhR.of ⟨congrArg (fun z => ARes.ret (AV.i IntKind.i64 z)) (by simp [nodeE, Ex.isNil]), rfl⟩)
      · refine ACall.gh ?_
        refine ACall.enter tok false Tryd.func49 rfl rfl rfl (AW_sound (ip := false) tok _ _ _ _ ?_)
        conv => whnf
        repeat (first
          | (refine ⟨by decide, ?_⟩; conv => whnf)
          | (refine ⟨flatPair, ?_⟩; conv => whnf)
          | (refine acond_f (hn) ?_; conv => whnf))
        refine ADraw.of tok mixed false [0, 1, 2, 3, 4, 5, 6, 7, 8, 9, 10, 11, 12, 13, 14, 15, 16, 17] [] (by kernel_rfl) (fun _ _ _ _ h => h) ?_
        conv => whnf
        repeat (first
          | (refine ⟨by decide, ?_⟩; conv => whnf)
          | (refine ⟨flatPair, ?_⟩; conv => whnf)
          | (refine acond_f (hn) ?_; conv => whnf))
        exact GhR.sel [] rfl (GhR.of ⟨congrArg (fun z => ARes.ret (AV.i IntKind.i64 z)) (by simp [nodeE, Ex.isNil]), rfl⟩)
    | true =>
      cases l <;> cases r
      · refine ACall.gh ?_
        refine ACall.enter tok false Tryd.func49 rfl rfl rfl (AW_sound (ip := false) tok _ _ _ _ ?_)
        conv => whnf
        repeat (first
          | (refine ⟨by decide, ?_⟩; conv => whnf)
          | (refine ⟨flatPair, ?_⟩; conv => whnf)
          | (refine acond_t (hn) ?_; conv => whnf))
        refine ADraw.of tok mixed false [0, 1, 2, 3, 4, 5, 6, 7, 8, 9, 10, 11, 12, 13, 14, 15, 16, 17] [] (by kernel_rfl) (fun _ _ _ _ h => h) ?_
        conv => whnf
        repeat (first
          | (refine ⟨by decide, ?_⟩; conv => whnf)
          | (refine ⟨flatPair, ?_⟩; conv => whnf)
          | (refine acond_t (hn) ?_; conv => whnf))
        refine ADraw.ofS tok mixed false [3, 10] [0, 1, 2, 3, 4, 5, 7, 8, 9, 10] [6, 11, 12, 13, 14] (by kernel_rfl) (fun _ _ _ _ h => h) ?_
        conv => whnf
        repeat (first
          | (refine ⟨by decide, ?_⟩; conv => whnf)
          | (refine ⟨flatPair, ?_⟩; conv => whnf)
          | (refine acond_t (hn) ?_; conv => whnf))
        refine ADraw.ofS tok mixed false [3, 10] [0, 1, 2, 3, 4, 5, 7, 8, 9, 10] [6, 11, 12, 13, 14] (by kernel_rfl) (fun _ _ _ _ h => h) ?_
        conv => whnf
        refine ACall.frameH [] [] rfl (args' := []) (Hc := []) rfl rfl (numbers_spec) ?_
        rintro r0 H ⟨rfl, rfl⟩
        refine ⟨.inl rfl, _, rfl, ?_⟩
        conv => whnf
        refine ACall.frameH [] [] rfl (args' := [.rs (strs numbersL) 0 1 numbersL.length, .s (sb w)]) (Hc := []) rfl rfl (contains_spec numbersL w (by decide)) ?_
        rintro r0 H ⟨rfl, rfl⟩
        refine ⟨.inl rfl, _, rfl, ?_⟩
        conv => whnf
        cases hc : numbersL.contains w with
        | false =>
          conv => whnf
          repeat (first
            | (refine ⟨by decide, ?_⟩; conv => whnf)
            | (refine ⟨flatPair, ?_⟩; conv => whnf))
          exact GhR.sel [] rfl (GhR.of ⟨congrArg (fun z => ARes.ret (AV.i IntKind.i64 z)) (by have hc2 := hc; simp at hc2; simp [nodeE, Ex.isNil, hc2]), rfl⟩)
        | true =>
          conv => whnf
          refine ADraw.ofS tok mixed false [3, 10] [0, 1, 2, 3, 4, 5, 7, 8, 9, 10] [6, 11, 12, 13, 14] (by kernel_rfl) (fun _ _ _ _ h => h) ?_
          conv => whnf
          refine ACall.frameH [] [] rfl (args' := []) (Hc := []) rfl rfl (ops_spec) ?_
          rintro r0 H ⟨rfl, rfl⟩
          refine ⟨.inl rfl, _, rfl, ?_⟩
          conv => whnf
          refine ACall.frameH [] [] rfl (args' := [.rs (strs opsL) 0 1 opsL.length, .s (sb ([]))]) (Hc := []) rfl rfl (contains_spec opsL ([]) (by decide)) ?_
          rintro r0 H ⟨rfl, rfl⟩
          refine ⟨.inl rfl, _, rfl, ?_⟩
          conv => whnf
          cases hd : opsL.contains ([]) with
          | false =>
            conv => whnf
            repeat (first
              | (refine ⟨by decide, ?_⟩; conv => whnf)
              | (refine ⟨flatPair, ?_⟩; conv => whnf))
            exact GhR.sel [] rfl (GhR.of ⟨congrArg (fun z => ARes.ret (AV.i IntKind.i64 z)) (by have hc2 := hc; simp at hc2; have hd2 := hd; simp at hd2; simp [nodeE, Ex.isNil, hc2, hd2]), rfl⟩)
          | true => exact absurd hd (by decide)
      · refine ACall.gh ?_
        refine ACall.enter tok false Tryd.func49 rfl rfl rfl (AW_sound (ip := false) tok _ _ _ _ ?_)
        conv => whnf
        repeat (first
          | (refine ⟨by decide, ?_⟩; conv => whnf)
          | (refine ⟨flatPair, ?_⟩; conv => whnf)
          | (refine acond_t (hn) ?_; conv => whnf))
        refine ADraw.of tok mixed false [0, 1, 2, 3, 4, 5, 6, 7, 8, 9, 10, 11, 12, 13, 14, 15, 16, 17] [] (by kernel_rfl) (fun _ _ _ _ h => h) ?_
        conv => whnf
        repeat (first
          | (refine ⟨by decide, ?_⟩; conv => whnf)
          | (refine ⟨flatPair, ?_⟩; conv => whnf)
          | (refine acond_t (hn) ?_; conv => whnf))
        exact GhR.sel [] rfl (GhR.of ⟨congrArg (fun z => ARes.ret (AV.i IntKind.i64 z)) (by simp [nodeE, Ex.isNil]), rfl⟩)
      · refine ACall.gh ?_
        refine ACall.enter tok false Tryd.func49 rfl rfl rfl (AW_sound (ip := false) tok _ _ _ _ ?_)
        conv => whnf
        repeat (first
          | (refine ⟨by decide, ?_⟩; conv => whnf)
          | (refine ⟨flatPair, ?_⟩; conv => whnf)
          | (refine acond_t (hn) ?_; conv => whnf))
        refine ADraw.of tok mixed false [0, 1, 2, 3, 4, 5, 6, 7, 8, 9, 10, 11, 12, 13, 14, 15, 16, 17] [] (by kernel_rfl) (fun _ _ _ _ h => h) ?_
        conv => whnf
        repeat (first
          | (refine ⟨by decide, ?_⟩; conv => whnf)
          | (refine ⟨flatPair, ?_⟩; conv => whnf)
          | (refine acond_t (hn) ?_; conv => whnf))
        exact GhR.sel [] rfl (GhR.of ⟨congrArg (fun z => ARes.ret (AV.i IntKind.i64 z)) (by simp [nodeE, Ex.isNil]), rfl⟩)
      · refine ACall.gh ?_
        refine ACall.enter tok false Tryd.func49 rfl rfl rfl (AW_sound (ip := false) tok _ _ _ _ ?_)
        conv => whnf
        repeat (first
          | (refine ⟨by decide, ?_⟩; conv => whnf)
          | (refine ⟨flatPair, ?_⟩; conv => whnf)
          | (refine acond_t (hn) ?_; conv => whnf))
        refine ADraw.of tok mixed false [0, 1, 2, 3, 4, 5, 6, 7, 8, 9, 10, 11, 12, 13, 14, 15, 16, 17] [] (by kernel_rfl) (fun _ _ _ _ h => h) ?_
        conv => whnf
        repeat (first
          | (refine ⟨by decide, ?_⟩; conv => whnf)
          | (refine ⟨flatPair, ?_⟩; conv => whnf)
          | (refine acond_t (hn) ?_; conv => whnf))
        exact GhR.sel [] rfl (GhR.of ⟨congrArg (fun z => ARes.ret (AV.i IntKind.i64 z)) (by simp [nodeE, Ex.isNil]), rfl⟩)
end Go.AK
namespace Go.AK
open Go Go.RowKit Go.Proofs
set_option linter.unusedVariables false
set_option maxRecDepth 100000
theorem nodeE_z (w o : Str) (n : Int) (a b : Bool) : nodeE 0 w o n a b = 11 := by
  have h0 : ∀ j : Int, 1 ≤ j → j ≤ 7 → 0 ≠ j := fun j h1 h2 => by (try simp only [Int.ofNat_eq_natCast, Int.negSucc_eq]); omega
  unfold nodeE
  rw [if_neg (by intro h; rcases h with h | h <;> exact h0 _ (by omega) (by omega) h), if_neg (h0 1 (by omega) (by omega)), if_neg (by intro h; rcases h with h | h <;> exact h0 _ (by omega) (by omega) h), if_neg (h0 5 (by omega) (by omega)), if_neg (h0 4 (by omega) (by omega))]
theorem node_xz (w o : Str) (n : Int) (l r : Ex) : ACall Tryd.prog 49 [(Ex.nd 0 w o n l r).av] [] fun r0 H => r0 = .ret (.i .i64 (nodeE 0 w o n (!l.isNil) (!r.isNil))) ∧ H = [] := by
  rw [nodeE_z _ _ _ _ _]
  cases o with
  | cons c o =>
    refine ACall.gh ?_
    refine ACall.enter tok false Tryd.func49 rfl rfl rfl (AW_sound (ip := false) tok _ _ _ _ ?_)
    conv => whnf
    refine ⟨by decide, ?_⟩
    conv => whnf
    exact GhR.sel [] rfl (GhR.of ⟨rfl, rfl⟩)
  | nil =>
    cases hn : (n == 0) with
    | false =>
      refine ACall.gh ?_
      refine ACall.enter tok false Tryd.func49 rfl rfl rfl (AW_sound (ip := false) tok _ _ _ _ ?_)
      conv => whnf
      refine ⟨by decide, ?_⟩
      conv => whnf
      repeat (refine acond_f (hn) ?_; conv => whnf)
      exact GhR.sel [] rfl (GhR.of ⟨rfl, rfl⟩)
    | true =>
      refine ACall.gh ?_
      refine ACall.enter tok false Tryd.func49 rfl rfl rfl (AW_sound (ip := false) tok _ _ _ _ ?_)
      conv => whnf
      refine ⟨by decide, ?_⟩
      conv => whnf
      repeat (refine acond_t (hn) ?_; conv => whnf)
      exact GhR.sel [] rfl (GhR.of ⟨rfl, rfl⟩)
theorem nodeE_p (m : Nat) (w o : Str) (n : Int) (a b : Bool) : nodeE (Int.ofNat (m + 8)) w o n a b = 11 := by
  have h0 : ∀ j : Int, 1 ≤ j → j ≤ 7 → (Int.ofNat (m + 8)) ≠ j := fun j h1 h2 => by (try simp only [Int.ofNat_eq_natCast, Int.negSucc_eq]); omega
  unfold nodeE
  rw [if_neg (by intro h; rcases h with h | h <;> exact h0 _ (by omega) (by omega) h), if_neg (h0 1 (by omega) (by omega)), if_neg (by intro h; rcases h with h | h <;> exact h0 _ (by omega) (by omega) h), if_neg (h0 5 (by omega) (by omega)), if_neg (h0 4 (by omega) (by omega))]
theorem node_xp (m : Nat) (w o : Str) (n : Int) (l r : Ex) : ACall Tryd.prog 49 [(Ex.nd (Int.ofNat (m + 8)) w o n l r).av] [] fun r0 H => r0 = .ret (.i .i64 (nodeE (Int.ofNat (m + 8)) w o n (!l.isNil) (!r.isNil))) ∧ H = [] := by
  rw [nodeE_p m _ _ _ _ _]
  cases o with
  | cons c o =>
    refine ACall.gh ?_
    refine ACall.enter tok false Tryd.func49 rfl rfl rfl (AW_sound (ip := false) tok _ _ _ _ ?_)
    conv => whnf
    refine ⟨by decide, ?_⟩
    conv => whnf
    exact GhR.sel [] rfl (GhR.of ⟨rfl, rfl⟩)
  | nil =>
    cases hn : (n == 0) with
    | false =>
      refine ACall.gh ?_
      refine ACall.enter tok false Tryd.func49 rfl rfl rfl (AW_sound (ip := false) tok _ _ _ _ ?_)
      conv => whnf
      refine ⟨by decide, ?_⟩
      conv => whnf
      repeat (refine acond_f (hn) ?_; conv => whnf)
      exact GhR.sel [] rfl (GhR.of ⟨rfl, rfl⟩)
    | true =>
      refine ACall.gh ?_
      refine ACall.enter tok false Tryd.func49 rfl rfl rfl (AW_sound (ip := false) tok _ _ _ _ ?_)
      conv => whnf
      refine ⟨by decide, ?_⟩
      conv => whnf
      repeat (refine acond_t (hn) ?_; conv => whnf)
      exact GhR.sel [] rfl (GhR.of ⟨rfl, rfl⟩)
theorem nodeE_n (m : Nat) (w o : Str) (n : Int) (a b : Bool) : nodeE (Int.negSucc m) w o n a b = 11 := by
  have h0 : ∀ j : Int, 1 ≤ j → j ≤ 7 → (Int.negSucc m) ≠ j := fun j h1 h2 => by (try simp only [Int.ofNat_eq_natCast, Int.negSucc_eq]); omega
  unfold nodeE
  rw [if_neg (by intro h; rcases h with h | h <;> exact h0 _ (by omega) (by omega) h), if_neg (h0 1 (by omega) (by omega)), if_neg (by intro h; rcases h with h | h <;> exact h0 _ (by omega) (by omega) h), if_neg (h0 5 (by omega) (by omega)), if_neg (h0 4 (by omega) (by omega))]
theorem node_xn (m : Nat) (w o : Str) (n : Int) (l r : Ex) : ACall Tryd.prog 49 [(Ex.nd (Int.negSucc m) w o n l r).av] [] fun r0 H => r0 = .ret (.i .i64 (nodeE (Int.negSucc m) w o n (!l.isNil) (!r.isNil))) ∧ H = [] := by
  rw [nodeE_n m _ _ _ _ _]
  cases o with
  | cons c o =>
    refine ACall.gh ?_
    refine ACall.enter tok false Tryd.func49 rfl rfl rfl (AW_sound (ip := false) tok _ _ _ _ ?_)
    conv => whnf
    refine ⟨by decide, ?_⟩
    conv => whnf
    exact GhR.sel [] rfl (GhR.of ⟨rfl, rfl⟩)
  | nil =>
    cases hn : (n == 0) with
    | false =>
      refine ACall.gh ?_
      refine ACall.enter tok false Tryd.func49 rfl rfl rfl (AW_sound (ip := false) tok _ _ _ _ ?_)
      conv => whnf
      refine ⟨by decide, ?_⟩
      conv => whnf
      repeat (refine acond_f (hn) ?_; conv => whnf)
      exact GhR.sel [] rfl (GhR.of ⟨rfl, rfl⟩)
    | true =>
      refine ACall.gh ?_
      refine ACall.enter tok false Tryd.func49 rfl rfl rfl (AW_sound (ip := false) tok _ _ _ _ ?_)
      conv => whnf
      refine ⟨by decide, ?_⟩
      conv => whnf
      repeat (refine acond_t (hn) ?_; conv => whnf)
      exact GhR.sel [] rfl (GhR.of ⟨rfl, rfl⟩)
end Go.AK
namespace Go.AK
open Go Go.RowKit Go.Proofs
set_option linter.unusedVariables false
set_option maxRecDepth 100000
theorem node_spec (k : Int) (w o : Str) (n : Int) (l r : Ex) : ACall Tryd.prog 49 [(Ex.nd k w o n l r).av] [] fun r0 H => r0 = .ret (.i .i64 (nodeE k w o n (!l.isNil) (!r.isNil))) ∧ H = [] := by
  by_cases h1 : k = 1
  · subst h1; exact node_1 w o n l r
  by_cases h2 : k = 2
  · subst h2; exact node_2 w o n l r
  by_cases h3 : k = 3
  · subst h3; exact node_3 w o n l r
  by_cases h4 : k = 4
  · subst h4; exact node_4 w o n l r
  by_cases h5 : k = 5
  · subst h5; exact node_5 w o n l r
  by_cases h6 : k = 6
  · subst h6; exact node_6 w o n l r
  by_cases h7 : k = 7
  · subst h7; exact node_7 w o n l r
  match k, h1, h2, h3, h4, h5, h6, h7 with
  | .ofNat 0, _, _, _, _, _, _, _ => exact node_xz w o n l r
  | .ofNat (m + 8), _, _, _, _, _, _, _ => exact node_xp m w o n l r
  | .negSucc m, _, _, _, _, _, _, _ => exact node_xn m w o n l r
end Go.AK
namespace Go.AK
open Go Go.RowKit Go.Proofs
set_option linter.unusedVariables false
set_option maxRecDepth 100000
theorem oneR_1 (w o : Str) (n : Int) (l r : Ex) : ACall Tryd.prog 45 [(Ex.nd 1 w o n l r).av] [] fun r0 H => r0 = .ret (.i .i64 (nodeE 1 w o n (!l.isNil) (!r.isNil))) ∧ H = [] := by
  cases l <;> cases r <;> cases w <;> cases o <;> rcases n with ((_ | q) | q) <;> (
    refine ACall.enter tok false Tryd.func45 rfl rfl rfl (AW_sound (ip := false) tok _ _ _ _ ?_)
    conv => whnf
    exact ⟨rfl, rfl⟩
    )
theorem oneR_2 (w o : Str) (n : Int) (l r : Ex) : ACall Tryd.prog 45 [(Ex.nd 2 w o n l r).av] [] fun r0 H => r0 = .ret (.i .i64 (nodeE 2 w o n (!l.isNil) (!r.isNil))) ∧ H = [] := by
  cases l <;> cases r <;> cases w <;> cases o <;> rcases n with ((_ | q) | q) <;> (
    refine ACall.enter tok false Tryd.func45 rfl rfl rfl (AW_sound (ip := false) tok _ _ _ _ ?_)
    conv => whnf
    exact ⟨rfl, rfl⟩
    )
theorem oneR_3 (w o : Str) (n : Int) (l r : Ex) : ACall Tryd.prog 45 [(Ex.nd 3 w o n l r).av] [] fun r0 H => r0 = .ret (.i .i64 (nodeE 3 w o n (!l.isNil) (!r.isNil))) ∧ H = [] := by
  cases l <;> cases r <;> cases w <;> cases o <;> rcases n with ((_ | q) | q) <;> (
    refine ACall.enter tok false Tryd.func45 rfl rfl rfl (AW_sound (ip := false) tok _ _ _ _ ?_)
    conv => whnf
    exact ⟨rfl, rfl⟩
    )
theorem oneR_6 (w o : Str) (n : Int) (l r : Ex) : ACall Tryd.prog 45 [(Ex.nd 6 w o n l r).av] [] fun r0 H => r0 = .ret (.i .i64 (nodeE 6 w o n (!l.isNil) (!r.isNil))) ∧ H = [] := by
  cases l <;> cases r <;> cases w <;> cases o <;> rcases n with ((_ | q) | q) <;> (
    refine ACall.enter tok false Tryd.func45 rfl rfl rfl (AW_sound (ip := false) tok _ _ _ _ ?_)
    conv => whnf
    exact ⟨rfl, rfl⟩
    )
theorem oneR_7 (w o : Str) (n : Int) (l r : Ex) : ACall Tryd.prog 45 [(Ex.nd 7 w o n l r).av] [] fun r0 H => r0 = .ret (.i .i64 (nodeE 7 w o n (!l.isNil) (!r.isNil))) ∧ H = [] := by
  cases l <;> cases r <;> cases w <;> cases o <;> rcases n with ((_ | q) | q) <;> (
    refine ACall.enter tok false Tryd.func45 rfl rfl rfl (AW_sound (ip := false) tok _ _ _ _ ?_)
    conv => whnf
    exact ⟨rfl, rfl⟩
    )
theorem oneR_z (w o : Str) (n : Int) (l r : Ex) : ACall Tryd.prog 45 [(Ex.nd 0 w o n l r).av] [] fun r0 H => r0 = .ret (.i .i64 (nodeE 0 w o n (!l.isNil) (!r.isNil))) ∧ H = [] := by
  rw [nodeE_z]
  cases l <;> cases r <;> cases w <;> cases o <;> rcases n with ((_ | q) | q) <;> (
    refine ACall.enter tok false Tryd.func45 rfl rfl rfl (AW_sound (ip := false) tok _ _ _ _ ?_)
    conv => whnf
    exact ⟨rfl, rfl⟩
    )
theorem oneR_p (m : Nat) (w o : Str) (n : Int) (l r : Ex) : ACall Tryd.prog 45 [(Ex.nd (Int.ofNat (m + 8)) w o n l r).av] [] fun r0 H => r0 = .ret (.i .i64 (nodeE (Int.ofNat (m + 8)) w o n (!l.isNil) (!r.isNil))) ∧ H = [] := by
  rw [nodeE_p]
  cases l <;> cases r <;> cases w <;> cases o <;> rcases n with ((_ | q) | q) <;> (
    refine ACall.enter tok false Tryd.func45 rfl rfl rfl (AW_sound (ip := false) tok _ _ _ _ ?_)
    conv => whnf
    exact ⟨rfl, rfl⟩
    )
theorem oneR_n (m : Nat) (w o : Str) (n : Int) (l r : Ex) : ACall Tryd.prog 45 [(Ex.nd (Int.negSucc m) w o n l r).av] [] fun r0 H => r0 = .ret (.i .i64 (nodeE (Int.negSucc m) w o n (!l.isNil) (!r.isNil))) ∧ H = [] := by
  rw [nodeE_n]
  cases l <;> cases r <;> cases w <;> cases o <;> rcases n with ((_ | q) | q) <;> (
    refine ACall.enter tok false Tryd.func45 rfl rfl rfl (AW_sound (ip := false) tok _ _ _ _ ?_)
    conv => whnf
    exact ⟨rfl, rfl⟩
    )
end Go.AK
namespace Go.AK
open Go Go.RowKit Go.Proofs
set_option linter.unusedVariables false
set_option maxRecDepth 100000
theorem opsR_contains (o : Str) : opsR.contains o = opsL.contains o := by
  rw [Bool.eq_iff_iff]
  simp only [opsR, opsL, List.contains_iff_mem, List.mem_cons, List.not_mem_nil, or_false]
  constructor <;> (intro h; rcases h with h | h | h | h | h | h <;> simp [h])
theorem oneR_5 (w o : Str) (n : Int) (l r : Ex) : ACall Tryd.prog 45 [(Ex.nd 5 w o n l r).av] [] fun r0 H => r0 = .ret (.i .i64 (nodeE 5 w o n (!l.isNil) (!r.isNil))) ∧ H = [] := by
  have good : ∀ w, ACall Tryd.prog 45 [(Ex.nd 5 w [] 0 .nil .nil).av] [] fun r0 H => r0 = .ret (.i .i64 (nodeE 5 w [] 0 false false)) ∧ H = [] := by
    intro w
    cases w with
    | nil =>
      refine ACall.enter tok false Tryd.func45 rfl rfl rfl (AW_sound (ip := false) tok _ _ _ _ ?_)
      conv => whnf
      refine ADraw.ofS tok mixed false [4] [1, 2, 3, 4] [0, 5, 6] (by kernel_rfl) (fun _ _ _ _ h => h) ?_
      conv => whnf
      refine ACall.mono (flagsR_spec) ?_; rintro r0 H ⟨rfl, rfl⟩
      conv => whnf
      refine ACall.mono (in_spec flagsL [] (by decide)) ?_; rintro r0 H ⟨rfl, rfl⟩
      conv => whnf
      cases hc : flagsL.contains [] with
      | false =>
        conv => whnf
        exact ⟨congrArg (fun z => ARes.ret (AV.i IntKind.i64 z)) (by have hc2 := hc; simp at hc2; simp [nodeE, hc2]), rfl⟩
      | true => exact absurd hc (by decide)
    | cons c w =>
      refine ACall.enter tok false Tryd.func45 rfl rfl rfl (AW_sound (ip := false) tok _ _ _ _ ?_)
      conv => whnf
      refine ADraw.ofS tok mixed false [4] [1, 2, 3, 4] [0, 5, 6] (by kernel_rfl) (fun _ _ _ _ h => h) ?_
      conv => whnf
      refine ACall.mono (flagsR_spec) ?_; rintro r0 H ⟨rfl, rfl⟩
      conv => whnf
      refine ACall.mono (in_spec flagsL (c :: w) (by decide)) ?_; rintro r0 H ⟨rfl, rfl⟩
      conv => whnf
      cases hc : flagsL.contains (c :: w) with
      | false =>
        conv => whnf
        exact ⟨congrArg (fun z => ARes.ret (AV.i IntKind.i64 z)) (by have hc2 := hc; simp at hc2; simp [nodeE, hc2]), rfl⟩
      | true =>
        conv => whnf
        exact ⟨congrArg (fun z => ARes.ret (AV.i IntKind.i64 z)) (by have hc2 := hc; simp at hc2; simp [nodeE, hc2]), rfl⟩
  cases l <;> cases r <;> cases o <;> rcases n with ((_ | q) | q) <;> first | exact good w | (cases w <;> (
      refine ACall.enter tok false Tryd.func45 rfl rfl rfl (AW_sound (ip := false) tok _ _ _ _ ?_)
      conv => whnf
      exact ⟨rfl, rfl⟩
      ))
theorem oneR_4 (w o : Str) (n : Int) (l r : Ex) : ACall Tryd.prog 45 [(Ex.nd 4 w o n l r).av] [] fun r0 H => r0 = .ret (.i .i64 (nodeE 4 w o n (!l.isNil) (!r.isNil))) ∧ H = [] := by
  have good : ∀ w o n, ACall Tryd.prog 45 [(Ex.nd 4 w o n .nil .nil).av] [] fun r0 H => r0 = .ret (.i .i64 (nodeE 4 w o n false false)) ∧ H = [] := by
    intro w o n
    cases w with
    | cons c w =>
      refine ACall.enter tok false Tryd.func45 rfl rfl rfl (AW_sound (ip := false) tok _ _ _ _ ?_)
      conv => whnf
      refine ADraw.ofS tok mixed false [4] [1, 2, 3, 4] [0, 5, 6] (by kernel_rfl) (fun _ _ _ _ h => h) ?_
      conv => whnf
      refine ACall.mono (numbersR_spec) ?_; rintro r0 H ⟨rfl, rfl⟩
      conv => whnf
      refine ACall.mono (in_spec numbersL (c :: w) (by decide)) ?_; rintro r0 H ⟨rfl, rfl⟩
      conv => whnf
      cases hc : numbersL.contains (c :: w) with
      | false =>
        conv => whnf
        exact ⟨congrArg (fun z => ARes.ret (AV.i IntKind.i64 z)) (by have hc2 := hc; simp at hc2; simp [nodeE, hc2]), rfl⟩
      | true =>
        conv => whnf
        refine ADraw.ofS tok mixed false [4] [1, 2, 3, 4] [0, 5, 6] (by kernel_rfl) (fun _ _ _ _ h => h) ?_
        conv => whnf
        refine ACall.mono (opsR_spec) ?_; rintro r0 H ⟨rfl, rfl⟩
        conv => whnf
        refine ACall.mono (in_spec opsR o (by decide)) ?_; rintro r0 H ⟨rfl, rfl⟩
        conv => whnf
        cases hd : opsR.contains o with
        | false =>
          conv => whnf
          exact ⟨congrArg (fun z => ARes.ret (AV.i IntKind.i64 z)) (by have hc2 := hc; have hd2 := hd; rw [opsR_contains] at hd2; simp at hc2 hd2; simp [nodeE, hc2, hd2]), rfl⟩
        | true =>
          conv => whnf
          by_cases hneg : n < 0
          · (refine acond_t (decide_eq_true hneg) ?_; conv => whnf)
            exact ⟨congrArg (fun z => ARes.ret (AV.i IntKind.i64 z)) (by have hc2 := hc; have hd2 := hd; rw [opsR_contains] at hd2; simp at hc2 hd2; simp [nodeE, hc2, hd2, hneg]), rfl⟩
          · (refine acond_f (decide_eq_false hneg) ?_; conv => whnf)
            exact ⟨congrArg (fun z => ARes.ret (AV.i IntKind.i64 z)) (by have hc2 := hc; have hd2 := hd; rw [opsR_contains] at hd2; simp at hc2 hd2; simp [nodeE, hc2, hd2, hneg]), rfl⟩
    | nil =>
      cases o with
      | cons d o =>
        refine ACall.enter tok false Tryd.func45 rfl rfl rfl (AW_sound (ip := false) tok _ _ _ _ ?_)
        conv => whnf
        refine ADraw.ofS tok mixed false [4] [1, 2, 3, 4] [0, 5, 6] (by kernel_rfl) (fun _ _ _ _ h => h) ?_
        conv => whnf
        refine ACall.mono (numbersR_spec) ?_; rintro r0 H ⟨rfl, rfl⟩
        conv => whnf
        refine ACall.mono (in_spec numbersL [] (by decide)) ?_; rintro r0 H ⟨rfl, rfl⟩
        conv => whnf
        cases hc : numbersL.contains [] with
        | false =>
          conv => whnf
          exact ⟨congrArg (fun z => ARes.ret (AV.i IntKind.i64 z)) (by have hc2 := hc; simp at hc2; simp [nodeE, hc2]), rfl⟩
        | true => exact absurd hc (by decide)
      | nil =>
        cases hn : (n == 0) with
        | false =>
          refine ACall.enter tok false Tryd.func45 rfl rfl rfl (AW_sound (ip := false) tok _ _ _ _ ?_)
          conv => whnf
          repeat (refine acond_f (hn) ?_; conv => whnf)
          refine ADraw.ofS tok mixed false [4] [1, 2, 3, 4] [0, 5, 6] (by kernel_rfl) (fun _ _ _ _ h => h) ?_
          conv => whnf
          refine ACall.mono (numbersR_spec) ?_; rintro r0 H ⟨rfl, rfl⟩
          conv => whnf
          refine ACall.mono (in_spec numbersL [] (by decide)) ?_; rintro r0 H ⟨rfl, rfl⟩
          conv => whnf
          cases hc : numbersL.contains [] with
          | false =>
            conv => whnf
            exact ⟨congrArg (fun z => ARes.ret (AV.i IntKind.i64 z)) (by have hc2 := hc; simp at hc2; simp [nodeE, hc2]), rfl⟩
          | true => exact absurd hc (by decide)
        | true =>
          refine ACall.enter tok false Tryd.func45 rfl rfl rfl (AW_sound (ip := false) tok _ _ _ _ ?_)
          conv => whnf
          repeat (refine acond_t (hn) ?_; conv => whnf)
          refine ADraw.ofS tok mixed false [4] [1, 2, 3, 4] [0, 5, 6] (by kernel_rfl) (fun _ _ _ _ h => h) ?_
          conv => whnf
          refine ACall.mono (numbersR_spec) ?_; rintro r0 H ⟨rfl, rfl⟩
          conv => whnf
          refine ACall.mono (in_spec numbersL [] (by decide)) ?_; rintro r0 H ⟨rfl, rfl⟩
          conv => whnf
          cases hc : numbersL.contains [] with
          | false =>
            conv => whnf
            exact ⟨congrArg (fun z => ARes.ret (AV.i IntKind.i64 z)) (by have hc2 := hc; simp at hc2; simp [nodeE, hc2]), rfl⟩
          | true => exact absurd hc (by decide)
  cases l <;> cases r <;> first | exact good w o n | (cases w <;> cases o <;> rcases n with ((_ | q) | q) <;> (
      refine ACall.enter tok false Tryd.func45 rfl rfl rfl (AW_sound (ip := false) tok _ _ _ _ ?_)
      conv => whnf
      exact ⟨rfl, rfl⟩
      ))
end Go.AK
namespace Go.AK
open Go Go.RowKit Go.Proofs
set_option linter.unusedVariables false
set_option maxRecDepth 100000
theorem wrap_small {n : Int} (h : -9223372036854775808 ≤ n) (h' : n ≤ 9223372036854775807) : IntKind.i64.wrap n = n := by
  rw [IntKind.wrap_i64]; omega
theorem depth_spec (x : Ex) : x.depth < 1000000 → ACall Tryd.prog 19 [x.av] [] fun r H => r = .ret (.i .i64 x.depth) ∧ H = [] := by
  induction x with
  | nil =>
    intro _
    refine ACall.enter tok false Tryd.func19 rfl rfl rfl (AW_sound (ip := false) tok _ _ _ _ ?_)
    conv => whnf
    exact ⟨rfl, rfl⟩
  | nd k w o n l r ihl ihr =>
    intro h
    simp only [Ex.depth] at h
    refine ACall.enter tok false Tryd.func19 rfl rfl rfl (AW_sound (ip := false) tok _ _ _ _ ?_)
    conv => whnf
    refine ADraw.ofS tok mixed false [3, 8] [0, 1, 2, 3, 5, 6, 7, 8] [4, 9, 10, 11, 12] (by kernel_rfl) (fun _ _ _ _ h => h) ?_
    conv => whnf
    refine ACall.mono (ihl (by omega)) ?_; rintro r H ⟨rfl, rfl⟩
    conv => whnf
    refine ACall.mono (ihr (by omega)) ?_; rintro r H ⟨rfl, rfl⟩
    conv => whnf
    refine ⟨congrArg ARes.ret (congrArg (AV.i IntKind.i64) ?_), rfl⟩
    rw [wrap_small (by split <;> omega) (by split <;> omega)]
    simp only [Ex.depth]
    split <;> omega
end Go.AK
namespace Go.AK
open Go Go.RowKit Go.Proofs
set_option linter.unusedVariables false
set_option maxRecDepth 100000
theorem oneR_spec (k : Int) (w o : Str) (n : Int) (l r : Ex) : ACall Tryd.prog 45 [(Ex.nd k w o n l r).av] [] fun r0 H => r0 = .ret (.i .i64 (nodeE k w o n (!l.isNil) (!r.isNil))) ∧ H = [] := by
  by_cases h1 : k = 1
  · subst h1; exact oneR_1 w o n l r
  by_cases h2 : k = 2
  · subst h2; exact oneR_2 w o n l r
  by_cases h3 : k = 3
  · subst h3; exact oneR_3 w o n l r
  by_cases h4 : k = 4
  · subst h4; exact oneR_4 w o n l r
  by_cases h5 : k = 5
  · subst h5; exact oneR_5 w o n l r
  by_cases h6 : k = 6
  · subst h6; exact oneR_6 w o n l r
  by_cases h7 : k = 7
  · subst h7; exact oneR_7 w o n l r
  match k, h1, h2, h3, h4, h5, h6, h7 with
  | .ofNat 0, _, _, _, _, _, _, _ => exact oneR_z w o n l r
  | .ofNat (m + 8), _, _, _, _, _, _, _ => exact oneR_p m w o n l r
  | .negSucc m, _, _, _, _, _, _, _ => exact oneR_n m w o n l r
/-- How a tree is wrong. -/
def Ex.treeE : Ex → Int
  | .nil => 0
  | .nd k w o n l r => if nodeE k w o n (!l.isNil) (!r.isNil) = 0 then (if l.treeE = 0 then r.treeE else l.treeE) else nodeE k w o n (!l.isNil) (!r.isNil)
/-- How an expression is wrong. -/
def Ex.checkE (x : Ex) : Int := if x.isNil then 2 else if 64 < x.depth then 12 else x.treeE
theorem tree_spec (x : Ex) : ACall Tryd.prog 34 [x.av] [] fun r H => r = .ret (.i .i64 x.treeE) ∧ H = [] := by
  induction x with
  | nil =>
    refine ACall.enter tok false Tryd.func34 rfl rfl rfl (AW_sound (ip := false) tok _ _ _ _ ?_)
    conv => whnf
    exact ⟨rfl, rfl⟩
  | nd k w o n l r ihl ihr =>
    have hn := node_spec k w o n l r
    rw [Ex.treeE]
    generalize nodeE k w o n (!l.isNil) (!r.isNil) = a at hn ⊢
    generalize l.treeE = b at ihl ⊢
    generalize r.treeE = c at ihr ⊢
    refine ACall.gh ?_
    refine ACall.enter tok false Tryd.func34 rfl rfl rfl (AW_sound (ip := false) tok _ _ _ _ ?_)
    conv => whnf
    refine ADraw.ofS tok mixed false [5, 10] [0, 2, 3, 4, 5, 7, 8, 9, 10, 14] [1, 6, 11, 12, 13] (by kernel_rfl) (fun _ _ _ _ h => h) ?_
    conv => whnf
    refine ACall.mono hn ?_; rintro r0 H ⟨rfl, rfl⟩
    conv => whnf
    refine ACall.mono ihl ?_; rintro r0 H ⟨rfl, rfl⟩
    conv => whnf
    refine ACall.mono ihr ?_; rintro r0 H ⟨rfl, rfl⟩
    conv => whnf
    refine ALoopR.loop (n := 4) ?_
    refine ALoopR.to [21, 20, 19, 2] (r' := [(21, .i .i64 0), (20, .i .i64 3), (19, .sl (some (0, 0)) 1 3 3), (2, .i .i64 0)]) (H' := [.c [.i .i64 a, .i .i64 b, .i .i64 c]]) (by kernel_rfl) (by kernel_rfl) ?_
    refine ALoopR.step (ip := false) tok ?_
    conv => whnf
    refine ⟨by decide, ?_⟩
    conv => whnf
    by_cases ha : a = 0
    · (refine acond_f (show (a != 0) = false from by simpa using ha) ?_; conv => whnf)
      rw [if_pos ha]
      refine ALoopR.to [21, 20, 19, 2] (r' := [(21, .i .i64 1), (20, .i .i64 3), (19, .sl (some (0, 0)) 1 3 3), (2, .i .i64 0)]) (H' := [.c [.i .i64 a, .i .i64 b, .i .i64 c]]) (by kernel_rfl) (by kernel_rfl) ?_
      refine ALoopR.step (ip := false) tok ?_
      conv => whnf
      refine ⟨by decide, ?_⟩
      conv => whnf
      by_cases hb : b = 0
      · (refine acond_f (show (b != 0) = false from by simpa using hb) ?_; conv => whnf)
        refine ALoopR.to [21, 20, 19, 2] (r' := [(21, .i .i64 2), (20, .i .i64 3), (19, .sl (some (0, 0)) 1 3 3), (2, .i .i64 0)]) (H' := [.c [.i .i64 a, .i .i64 b, .i .i64 c]]) (by kernel_rfl) (by kernel_rfl) ?_
        refine ALoopR.step (ip := false) tok ?_
        conv => whnf
        refine ⟨by decide, ?_⟩
        conv => whnf
        by_cases hc : c = 0
        · (refine acond_f (show (c != 0) = false from by simpa using hc) ?_; conv => whnf)
          refine ALoopR.to [21, 20, 19, 2] (r' := [(21, .i .i64 3), (20, .i .i64 3), (19, .sl (some (0, 0)) 1 3 3), (2, .i .i64 0)]) (H' := [.c [.i .i64 a, .i .i64 b, .i .i64 c]]) (by kernel_rfl) (by kernel_rfl) ?_
          refine ALoopR.step (ip := false) tok ?_
          conv => whnf
          exact GhR.sel [] rfl (GhR.of ⟨congrArg (fun z => ARes.ret (AV.i IntKind.i64 z)) (by simp [hb, hc]), rfl⟩)
        · (refine acond_t (show (c != 0) = true from by simpa using hc) ?_; conv => whnf)
          exact GhR.sel [] rfl (GhR.of ⟨congrArg (fun z => ARes.ret (AV.i IntKind.i64 z)) (by simp [hb]), rfl⟩)
      · (refine acond_t (show (b != 0) = true from by simpa using hb) ?_; conv => whnf)
        exact GhR.sel [] rfl (GhR.of ⟨congrArg (fun z => ARes.ret (AV.i IntKind.i64 z)) (by simp [hb]), rfl⟩)
    · (refine acond_t (show (a != 0) = true from by simpa using ha) ?_; conv => whnf)
      exact GhR.sel [] rfl (GhR.of ⟨congrArg (fun z => ARes.ret (AV.i IntKind.i64 z)) (by simp [ha]), rfl⟩)
end Go.AK
namespace Go.AK
open Go Go.RowKit Go.Proofs
set_option linter.unusedVariables false
set_option maxRecDepth 100000
theorem depthR_spec (x : Ex) : x.depth < 1000000 → ACall Tryd.prog 20 [x.av] [] fun r H => r = .ret (.i .i64 x.depth) ∧ H = [] := by
  induction x with
  | nil =>
    intro _
    refine ACall.enter tok false Tryd.func20 rfl rfl rfl (AW_sound (ip := false) tok _ _ _ _ ?_)
    conv => whnf
    exact ⟨rfl, rfl⟩
  | nd k w o n l r ihl ihr =>
    intro h
    simp only [Ex.depth] at h
    refine ACall.enter tok false Tryd.func20 rfl rfl rfl (AW_sound (ip := false) tok _ _ _ _ ?_)
    conv => whnf
    refine ACall.mono (ihl (by omega)) ?_; rintro r0 H ⟨rfl, rfl⟩
    conv => whnf
    refine ACall.mono (ihr (by omega)) ?_; rintro r0 H ⟨rfl, rfl⟩
    conv => whnf
    by_cases hd : (r.depth : Int) > l.depth
    · (refine acond_t (decide_eq_true hd) ?_; conv => whnf)
      refine ⟨congrArg ARes.ret (congrArg (AV.i IntKind.i64) ?_), rfl⟩
      rw [wrap_small (by omega) (by omega)]
      simp only [Ex.depth]; omega
    · (refine acond_f (decide_eq_false hd) ?_; conv => whnf)
      refine ⟨congrArg ARes.ret (congrArg (AV.i IntKind.i64) ?_), rfl⟩
      rw [wrap_small (by omega) (by omega)]
      simp only [Ex.depth]; omega
theorem all_spec (x : Ex) : ACall Tryd.prog 32 [x.av] [] fun r H => r = .ret (.i .i64 x.treeE) ∧ H = [] := by
  induction x with
  | nil =>
    refine ACall.enter tok false Tryd.func32 rfl rfl rfl (AW_sound (ip := false) tok _ _ _ _ ?_)
    conv => whnf
    exact ⟨rfl, rfl⟩
  | nd k w o n l r ihl ihr =>
    have hn := oneR_spec k w o n l r
    rw [Ex.treeE]
    generalize nodeE k w o n (!l.isNil) (!r.isNil) = a at hn ⊢
    generalize l.treeE = b at ihl ⊢
    generalize r.treeE = c at ihr ⊢
    refine ACall.enter tok false Tryd.func32 rfl rfl rfl (AW_sound (ip := false) tok _ _ _ _ ?_)
    conv => whnf
    refine ACall.mono hn ?_; rintro r0 H ⟨rfl, rfl⟩
    conv => whnf
    by_cases ha : a = 0
    · (refine acond_t (show (a == 0) = true from by simpa using ha) ?_; conv => whnf)
      refine ACall.mono ihl ?_; rintro r0 H ⟨rfl, rfl⟩
      conv => whnf
      by_cases hb : b = 0
      · (refine acond_t (show (b == 0) = true from by simpa using hb) ?_; conv => whnf)
        refine ACall.mono ihr ?_; rintro r0 H ⟨rfl, rfl⟩
        conv => whnf
        exact ⟨congrArg (fun z => ARes.ret (AV.i IntKind.i64 z)) (by simp [ha, hb]), rfl⟩
      · (refine acond_f (show (b == 0) = false from by simpa using hb) ?_; conv => whnf)
        exact ⟨congrArg (fun z => ARes.ret (AV.i IntKind.i64 z)) (by simp [ha, hb]), rfl⟩
    · (refine acond_f (show (a == 0) = false from by simpa using ha) ?_; conv => whnf)
      (refine acond_f (show (a == 0) = false from by simpa using ha) ?_; conv => whnf)
      exact ⟨congrArg (fun z => ARes.ret (AV.i IntKind.i64 z)) (by simp [ha]), rfl⟩
theorem check_spec (x : Ex) (h : x.depth < 1000000) : ACall Tryd.prog 18 [x.av] [] fun r H => r = .ret (.i .i64 x.checkE) ∧ H = [] := by
  refine ACall.enter tok false Tryd.func18 rfl rfl rfl (AW_sound (ip := false) tok _ _ _ _ ?_)
  cases x with
  | nil =>
    conv => whnf
    exact ⟨rfl, rfl⟩
  | nd k w o n l r =>
    have hd := depth_spec (.nd k w o n l r) h
    have ht := tree_spec (.nd k w o n l r)
    have he : (Ex.nd k w o n l r).checkE = if 64 < (Ex.nd k w o n l r).depth then 12 else (Ex.nd k w o n l r).treeE := by simp [Ex.checkE, Ex.isNil]
    rw [he]
    generalize (Ex.nd k w o n l r).treeE = b at ht ⊢
    generalize (Ex.nd k w o n l r).depth = d at hd ⊢
    conv => whnf
    refine ACall.mono hd ?_; rintro r0 H ⟨rfl, rfl⟩
    conv => whnf
    by_cases hg : (d : Int) > 64
    · (refine acond_t (decide_eq_true hg) ?_; conv => whnf)
      exact ⟨congrArg (fun z => ARes.ret (AV.i IntKind.i64 z)) (by rw [if_pos (by omega)]), rfl⟩
    · (refine acond_f (decide_eq_false hg) ?_; conv => whnf)
      refine ACall.mono ht ?_; rintro r0 H ⟨rfl, rfl⟩
      conv => whnf
      exact ⟨congrArg (fun z => ARes.ret (AV.i IntKind.i64 z)) (by rw [if_neg (by omega)]), rfl⟩
theorem checkR_spec (x : Ex) (h : x.depth < 1000000) : ACall Tryd.prog 16 [x.av] [] fun r H => r = .ret (.i .i64 x.checkE) ∧ H = [] := by
  refine ACall.enter tok false Tryd.func16 rfl rfl rfl (AW_sound (ip := false) tok _ _ _ _ ?_)
  cases x with
  | nil =>
    conv => whnf
    exact ⟨rfl, rfl⟩
  | nd k w o n l r =>
    have hd := depthR_spec (.nd k w o n l r) h
    have ht := all_spec (.nd k w o n l r)
    have he : (Ex.nd k w o n l r).checkE = if 64 < (Ex.nd k w o n l r).depth then 12 else (Ex.nd k w o n l r).treeE := by simp [Ex.checkE, Ex.isNil]
    rw [he]
    generalize (Ex.nd k w o n l r).treeE = b at ht ⊢
    generalize (Ex.nd k w o n l r).depth = d at hd ⊢
    conv => whnf
    refine ACall.mono hd ?_; rintro r0 H ⟨rfl, rfl⟩
    conv => whnf
    by_cases hg : (d : Int) > 64
    · (refine acond_t (decide_eq_true hg) ?_; conv => whnf)
      exact ⟨congrArg (fun z => ARes.ret (AV.i IntKind.i64 z)) (by rw [if_pos (by omega)]), rfl⟩
    · (refine acond_f (decide_eq_false hg) ?_; conv => whnf)
      refine ACall.mono ht ?_; rintro r0 H ⟨rfl, rfl⟩
      conv => whnf
      exact ⟨congrArg (fun z => ARes.ret (AV.i IntKind.i64 z)) (by rw [if_neg (by omega)]), rfl⟩
end Go.AK
namespace Go.AK
open Go Go.RowKit Go.Proofs
set_option linter.unusedVariables false
set_option maxRecDepth 100000
/-- How close a kind binds. -/
def bindsI (k : Int) : Int := if k = 3 then 1 else if k = 2 then 2 else if k = 1 then 3 else 4
theorem binds_spec (k : Int) : ACall Tryd.prog 46 [.i .i64 k] [] fun r H => r = .ret (.i .i64 (bindsI k)) ∧ H = [] := by
  match k with
  | .ofNat 0 =>
    refine ACall.enter tok false Tryd.func46 rfl rfl rfl (AW_sound (ip := false) tok _ _ _ _ ?_)
    conv => whnf
    exact ⟨rfl, rfl⟩
  | .ofNat 1 =>
    refine ACall.enter tok false Tryd.func46 rfl rfl rfl (AW_sound (ip := false) tok _ _ _ _ ?_)
    conv => whnf
    exact ⟨rfl, rfl⟩
  | .ofNat 2 =>
    refine ACall.enter tok false Tryd.func46 rfl rfl rfl (AW_sound (ip := false) tok _ _ _ _ ?_)
    conv => whnf
    exact ⟨rfl, rfl⟩
  | .ofNat 3 =>
    refine ACall.enter tok false Tryd.func46 rfl rfl rfl (AW_sound (ip := false) tok _ _ _ _ ?_)
    conv => whnf
    exact ⟨rfl, rfl⟩
  | .ofNat (m + 4) =>
    refine ACall.enter tok false Tryd.func46 rfl rfl rfl (AW_sound (ip := false) tok _ _ _ _ ?_)
    conv => whnf
    exact ⟨rfl, rfl⟩
  | .negSucc m =>
    refine ACall.enter tok false Tryd.func46 rfl rfl rfl (AW_sound (ip := false) tok _ _ _ _ ?_)
    conv => whnf
    exact ⟨rfl, rfl⟩
end Go.AK
namespace Go.AK
open Go Go.RowKit Go.Proofs
set_option linter.unusedVariables false
set_option maxRecDepth 100000
def wOrS : Str := [32, 111, 114, 32]
def wAndS : Str := [32, 97, 110, 100, 32]
def wNotS : Str := [110, 111, 116, 32]
def around (t : Str) (b : Bool) : Str := if b then 40 :: (t ++ [41]) else t
/-- The text of a part that has to bind so close. -/
def Ex.txt : Ex → Int → Str
  | .nil, _ => []
  | .nd k w o n l r, c =>
    around (if k = 3 then l.txt 1 ++ (wOrS ++ r.txt 2) else if k = 2 then l.txt 2 ++ (wAndS ++ r.txt 3) else if k = 1 then wNotS ++ l.txt 3
      else if k = 4 then w ++ ([32] ++ (o ++ ([32] ++ Lib.itoa n))) else if k = 5 then w else if k = 6 then wTrue else wFalse) (decide (bindsI k < c))
/-- A bound of a text's length. -/
def Ex.wt : Ex → Nat
  | .nil => 0
  | .nd _ w o _ l r => l.wt + r.wt + w.length + o.length + 40
theorem itoa_len (n : Int) (h0 : -9223372036854775808 ≤ n) (h1 : n ≤ 9223372036854775807) : (Lib.itoa n).length ≤ 21 := Lib.itoa_length_le n h0 h1
/-- Numbers are ints. -/
def Ex.okN : Ex → Prop
  | .nil => True
  | .nd _ _ _ n l r => (-9223372036854775808 ≤ n ∧ n ≤ 9223372036854775807) ∧ l.okN ∧ r.okN
theorem around_len (t : Str) (b : Bool) : (around t b).length ≤ t.length + 2 := by
  cases b <;> simp [around]
theorem Ex.txt_le : ∀ (x : Ex) (c : Int), x.okN → (x.txt c).length ≤ x.wt
  | .nil, c, _ => by simp [Ex.txt]
  | .nd k w o n l r, c, ⟨⟨h0, h1⟩, hl, hr⟩ => by
    have a1 := Ex.txt_le l 1 hl
    have a2 := Ex.txt_le l 2 hl
    have a3 := Ex.txt_le l 3 hl
    have b2 := Ex.txt_le r 2 hr
    have b3 := Ex.txt_le r 3 hr
    have hi := itoa_len n h0 h1
    rw [Ex.txt, Ex.wt]
    refine Nat.le_trans (around_len _ _) ?_
    split
    · simp only [List.length_append, wOrS, List.length_cons, List.length_nil]; omega
    split
    · simp only [List.length_append, wAndS, List.length_cons, List.length_nil]; omega
    split
    · simp only [List.length_append, wNotS, List.length_cons, List.length_nil]; omega
    split
    · simp only [List.length_append, List.length_cons, List.length_nil]; omega
    split
    · omega
    split
    · simp only [wTrue, List.length_cons, List.length_nil]; omega
    · simp only [wFalse, List.length_cons, List.length_nil]; omega
end Go.AK
namespace Go.AK
open Go Go.RowKit Go.Proofs
set_option linter.unusedVariables false
set_option maxRecDepth 100000
/-! The parser, told of tokens. -/
abbrev Tok := Str × Nat
/-- How many bytes are within two others. -/
def runB (lo hi : Nat) : Str → Nat
  | c :: r => if lo ≤ c.toNat ∧ c.toNat ≤ hi then runB lo hi r + 1 else 0
  | [] => 0
theorem runB_le (lo hi : Nat) : ∀ r : Str, runB lo hi r ≤ r.length
  | [] => Nat.le_refl _
  | c :: r => by
    unfold runB
    split
    · have := runB_le lo hi r; simp only [List.length_cons]; omega
    · exact Nat.zero_le _
/-- One of the run's loop. -/
theorem runB_step (lo hi : Nat) (r : Str) (k : Nat) (hk : k ≤ runB lo hi r) :
    (k < r.length ∧ (lo ≤ (r.getD k 0).toNat ∧ (r.getD k 0).toNat ≤ hi) ∧ k + 1 ≤ runB lo hi r) ∨ (k = runB lo hi r ∧ ¬ (k < r.length ∧ (lo ≤ (r.getD k 0).toNat ∧ (r.getD k 0).toNat ≤ hi))) := by
  induction r generalizing k with
  | nil => right; simp only [runB] at hk ⊢; refine ⟨by omega, by simp⟩
  | cons c r ih =>
    unfold runB at hk ⊢
    by_cases h : lo ≤ c.toNat ∧ c.toNat ≤ hi
    · rw [if_pos h] at hk ⊢
      cases k with
      | zero => left; refine ⟨by simp, by simpa using h, by omega⟩
      | succ k =>
        rcases ih k (by omega) with ⟨h1, h2, h3⟩ | ⟨h1, h2⟩
        · left; refine ⟨by simpa using h1, by simpa using h2, by omega⟩
        · right; refine ⟨by omega, ?_⟩; simpa using h2
    · rw [if_neg h] at hk ⊢
      have : k = 0 := by omega
      subst this
      right; refine ⟨rfl, ?_⟩; simpa using h
def opsP : List Str := opsL ++ [[40], [41]]
/-- The first comparison, or parenthesis, that a text begins with. -/
def opStep (r : Str) (n : Nat) (t : Str) : Nat := if n = 0 ∧ t.isPrefixOf r = true then t.length else n
def opLen (r : Str) : Nat := opsP.foldl (opStep r) 0
/-- How long the token is that a text begins with. -/
def tokLen (r : Str) : Nat := if 0 < runB 97 122 r then runB 97 122 r else if 0 < runB 48 57 r then runB 48 57 r else opLen r
theorem prefix_len {t r : Str} (h : t.isPrefixOf r = true) : t.length ≤ r.length := (List.isPrefixOf_iff_prefix.1 h).length_le
theorem opLen_le (r : Str) : opLen r ≤ r.length := by
  unfold opLen
  have : ∀ (l : List Str) (n : Nat), n ≤ r.length → l.foldl (opStep r) n ≤ r.length := by
    intro l
    induction l with
    | nil => intro n h; exact h
    | cons t l ih =>
      intro n h
      refine ih _ ?_
      unfold opStep
      split
      · rename_i h2; exact prefix_len h2.2
      · exact h
  exact this _ 0 (Nat.zero_le _)
theorem tokLen_le (r : Str) : tokLen r ≤ r.length := by
  unfold tokLen
  split
  · exact runB_le _ _ _
  split
  · exact runB_le _ _ _
  · exact opLen_le r
/-- The tokens of a text, where they stand, the end as the last one; '?' begins none. -/
def lex : Nat → Str → Nat → List Tok
  | 0, _, _ => []
  | f + 1, r, p =>
    if r = [] then [([], p)]
    else if r.head? = some 32 then lex f r.tail (p + 1)
    else if tokLen r = 0 then [([63], p)]
    else (r.take (tokLen r), p) :: lex f (r.drop (tokLen r)) (p + tokLen r)
theorem lex_fuel : ∀ (f g : Nat) (r : Str) (p : Nat), r.length < f → r.length < g → lex f r p = lex g r p
  | 0, _, _, _, h, _ => by omega
  | _ + 1, 0, _, _, _, h => by omega
  | f + 1, g + 1, r, p, hf, hg => by
    unfold lex
    by_cases h0 : r = []
    · rw [if_pos h0, if_pos h0]
    rw [if_neg h0, if_neg h0]
    have hl : 0 < r.length := List.length_pos_iff.2 h0
    by_cases h1 : r.head? = some 32
    · rw [if_pos h1, if_pos h1]
      exact lex_fuel f g _ _ (by simp only [List.length_tail]; omega) (by simp only [List.length_tail]; omega)
    rw [if_neg h1, if_neg h1]
    by_cases h2 : tokLen r = 0
    · rw [if_pos h2, if_pos h2]
    rw [if_neg h2, if_neg h2]
    rw [lex_fuel f g _ _ (by simp only [List.length_drop]; omega) (by simp only [List.length_drop]; omega)]
def lexS (r : Str) (p : Nat) : List Tok := lex (r.length + 1) r p
theorem lexS_nil (p : Nat) : lexS [] p = [([], p)] := rfl
theorem lexS_blank (r : Str) (p : Nat) : lexS (32 :: r) p = lexS r (p + 1) := by
  unfold lexS
  rw [show (32 :: r : Str).length + 1 = (r.length + 1) + 1 from rfl, lex, if_neg (by simp), if_pos (by simp)]
  rfl
theorem lexS_tok {r : Str} {p : Nat} (h0 : r ≠ []) (h1 : r.head? ≠ some 32) (h2 : tokLen r ≠ 0) :
    lexS r p = (r.take (tokLen r), p) :: lexS (r.drop (tokLen r)) (p + tokLen r) := by
  unfold lexS
  rw [lex, if_neg h0, if_neg h1, if_neg h2]
  have hl : 0 < r.length := List.length_pos_iff.2 h0
  rw [lex_fuel r.length ((r.drop (tokLen r)).length + 1) _ _ (by simp only [List.length_drop]; omega) (by omega)]
theorem lexS_bad {r : Str} {p : Nat} (h0 : r ≠ []) (h1 : r.head? ≠ some 32) (h2 : tokLen r = 0) : lexS r p = [([63], p)] := by
  unfold lexS
  rw [lex, if_neg h0, if_neg h1, if_pos h2]
theorem lexS_blanks : ∀ (r : Str) (p : Nat), lexS r p = lexS (r.drop (runB 32 32 r)) (p + runB 32 32 r)
  | [], p => rfl
  | c :: r, p => by
    unfold runB
    by_cases h : 32 ≤ c.toNat ∧ c.toNat ≤ 32
    · rw [if_pos h]
      have : c = 32 := UInt8.toNat_inj.1 (by show c.toNat = 32; omega)
      subst this
      rw [lexS_blank, lexS_blanks r, List.drop_succ_cons]
      congr 1; omega
    · rw [if_neg h]; rfl
theorem blanks_head : ∀ (r : Str), (r.drop (runB 32 32 r)).head? ≠ some 32
  | [] => by simp [runB]
  | c :: r => by
    unfold runB
    by_cases h : 32 ≤ c.toNat ∧ c.toNat ≤ 32
    · rw [if_pos h, List.drop_succ_cons]; exact blanks_head r
    · rw [if_neg h]
      simp only [List.drop_zero, List.head?_cons, ne_eq, Option.some.injEq]
      intro e; subst e; exact h (by decide)
/-- What a parser comes to. -/
inductive PR where
  | out
  | err (p : Nat) (e : Int)
  | ok (x : Ex) (L : List Tok)
def PR.bind : PR → (Ex → List Tok → PR) → PR
  | .out, _ => .out
  | .err p e, _ => .err p e
  | .ok x L, k => k x L
def hdT : List Tok → Tok
  | [] => ([], 0)
  | t :: _ => t
/-- On to the next token; a parser that is eager stops at once at what begins none. -/
def nxt (g : Bool) (L : List Tok) (k : List Tok → PR) : PR := if g = true ∧ (hdT L.tail).1 = [63] then .err (hdT L.tail).2 11 else k L.tail
def isDig (c : UInt8) : Bool := decide (48 ≤ c.toNat) && decide (c.toNat ≤ 57)
def isLet (c : UInt8) : Bool := decide (97 ≤ c.toNat) && decide (c.toNat ≤ 122)
def badNum : Str → Bool
  | [] => true
  | c :: r => !isDig c || (c == 48 && !r.isEmpty)
def valD (d : Str) : Nat := d.foldl (fun n c => 10 * n + (c.toNat - 48)) 0
def pnum (g : Bool) (L : List Tok) (k : Int → List Tok → PR) : PR :=
  if badNum (hdT L).1 = true then .err (hdT L).2 11 else if 9223372036854775807 < valD (hdT L).1 then .err (hdT L).2 10 else nxt g L (k (valD (hdT L).1))
def isWord : Str → Bool
  | c :: _ => isLet c
  | [] => false
inductive Md where
  | or | orL (x : Ex) | and | andL (x : Ex) | not | opd
/-- The parser. -/
def pp (g : Bool) : Nat → Md → Nat → List Tok → PR
  | 0, _, _, _ => .out
  | f + 1, .or, o, L => (pp g f .and o L).bind fun x L => pp g f (.orL x) o L
  | f + 1, .orL x, o, L => if (hdT L).1 = wOr then nxt g L fun L => (pp g f .and o L).bind fun y L => pp g f (.orL (.nd 3 [] [] 0 x y)) o L else .ok x L
  | f + 1, .and, o, L => (pp g f .not o L).bind fun x L => pp g f (.andL x) o L
  | f + 1, .andL x, o, L => if (hdT L).1 = wAnd then nxt g L fun L => (pp g f .not o L).bind fun y L => pp g f (.andL (.nd 2 [] [] 0 x y)) o L else .ok x L
  | f + 1, .not, o, L => if (hdT L).1 = wNot then nxt g L fun L => (pp g f .not o L).bind fun x L => .ok (.nd 1 [] [] 0 x .nil) L else pp g f .opd o L
  | f + 1, .opd, o, L =>
    if (hdT L).1 = [40] then
      if o = 64 then .err (hdT L).2 12
      else nxt g L fun L => (pp g f .or (o + 1) L).bind fun x L => if (hdT L).1 = [41] then nxt g L fun L => .ok x L else .err (hdT L).2 11
    else if (hdT L).1 = wTrue ∨ (hdT L).1 = wFalse then nxt g L fun L' => .ok (.nd (if (hdT L).1 = wTrue then 6 else 7) [] [] 0 .nil .nil) L'
    else if flagsL.contains (hdT L).1 = true then nxt g L fun L' => .ok (.nd 5 (hdT L).1 [] 0 .nil .nil) L'
    else if numbersL.contains (hdT L).1 = true then
      nxt g L fun L1 => if opsL.contains (hdT L1).1 = true then nxt g L1 fun L2 => pnum g L2 fun n L3 => .ok (.nd 4 (hdT L).1 (hdT L1).1 n .nil .nil) L3 else .err (hdT L1).2 11
    else if isWord (hdT L).1 = true ∧ (hdT L).1 ≠ wAnd ∧ (hdT L).1 ≠ wOr then .err (hdT L).2 21 else .err (hdT L).2 11
/-- A text's expression, or where it is wrong, and how. -/
def topE (g : Bool) (r : PR) : Ex × Nat × Int := match r with
  | .out => (.nil, 0, 0)
  | .err p e => (.nil, p, e)
  | .ok x L => if (hdT L).1 ≠ [] then (.nil, (hdT L).2, 11) else if 64 < x.depth then (.nil, 0, 12) else (x, 0, 0)
def parseE (s : Str) : Ex × Nat × Int :=
  if 8192 < s.length then (.nil, 0, 12) else topE true (nxt true (([], 0) :: lexS s 0) fun L => pp true (8 * s.length + 64) .or 0 L)
end Go.AK
namespace Go.AK
open Go Go.RowKit Go.Proofs
set_option linter.unusedVariables false
set_option maxRecDepth 100000
/-- A parser's cells. -/
def pcl (s : Str) (at_ : Int) (t : Str) (o : Int) : List AV := [.s (sb s), .i .i64 at_, .s (sb t), .i .i64 o]
def pAV : AV := .p (some (0, 0))
theorem sb_get (s : Str) (i : Nat) : (sb s).data.toList.getD i 0 = s.getD i 0 := rfl
theorem run_spec (s t : Str) (a o : Int) (p : Nat) (lo hi : Nat) (hs : s.length < 1000000) (hp : p ≤ s.length) :
    ACall Tryd.prog 37 [pAV, .i .i64 p, .i .u8 lo, .i .u8 hi] [.c (pcl s a t o)] fun R H => R = .ret (.i .i64 (runB lo hi (s.drop p))) ∧ H = [.c (pcl s a t o)] := by
  refine ACall.enter tok false Tryd.func37 rfl rfl rfl (AW_sound (ip := false) tok _ _ _ _ ?_)
  have hle := runB_le lo hi (s.drop p)
  rw [List.length_drop] at hle
  conv => whnf
  refine ALoop.ind (ip := false) tok (fun m r H => ∃ (k : Nat), k ≤ runB lo hi (s.drop p) ∧ m = runB lo hi (s.drop p) - k ∧ H = [.c (pcl s a t o)] ∧
    r = [(9, .i .i64 k), (0, pAV), (1, .i .i64 p), (2, .i .u8 lo), (3, .i .u8 hi), (8, .i .i64 0)]) (runB lo hi (s.drop p)) ?_ ?_
  · exact Gh.regs [9, 0, 1, 2, 3, 8] (Gh.of ⟨0, by omega, by omega, rfl, rfl⟩)
  · rintro m r H ⟨k, hk, rfl, rfl, rfl⟩
    have hw : IntKind.i64.wrap ((p : Int) + k) = ((p + k : Nat) : Int) := by rw [IntKind.wrap_i64]; omega
    have hst := runB_step lo hi (s.drop p) k hk
    have hgd : (s.drop p).getD k 0 = s.getD (p + k) 0 := by simp [List.getD_eq_getElem?_getD]
    have hw2 : IntKind.i64.wrap ((k : Int) + 1) = ((k + 1 : Nat) : Int) := by rw [IntKind.wrap_i64]; omega
    have ht : (IntKind.i64.wrap ((p : Int) + k)).toNat = p + k := by rw [hw]; rfl
    rw [hgd, List.length_drop] at hst
    conv => whnf
    by_cases h : p + k < s.length
    · have h' : ((p + k : Nat) : Int) < ((sb s).size : Nat) := by rw [sb_size]; omega
      repeat (refine acond_t ((by rw [hw]; exact decide_eq_true h')) ?_; conv => whnf)
      refine ⟨⟨by rw [hw]; omega, by rw [hw]; exact h'⟩, ?_⟩
      conv => whnf
      repeat (refine acond_t ((by rw [hw]; exact decide_eq_true h')) ?_; conv => whnf)
      by_cases h2 : (((s.getD (p + k) 0).toNat : Nat) : Int) ≥ (lo : Int)
      · repeat (refine acond_t ((by rw [ht]; exact decide_eq_true h2)) ?_; conv => whnf)
        refine ⟨⟨by rw [hw]; omega, by rw [hw]; exact h'⟩, ?_⟩
        conv => whnf
        repeat (refine acond_t ((by rw [ht]; exact decide_eq_true h2)) ?_; conv => whnf)
        by_cases h3 : (((s.getD (p + k) 0).toNat : Nat) : Int) ≤ (hi : Int)
        · repeat (refine acond_t ((by rw [ht]; exact decide_eq_true h3)) ?_; conv => whnf)
          rcases hst with ⟨_, _, h4⟩ | ⟨_, h4⟩
          · refine Gh.regs [9, 0, 1, 2, 3, 8] (Gh.of ⟨runB lo hi (s.drop p) - (k + 1), by omega, k + 1, h4, rfl, rfl, ?_⟩)
            exact congrArg (fun z => (9, AV.i IntKind.i64 z) :: _) hw2
          · exact absurd ⟨by omega, by omega, by omega⟩ h4
        · repeat (refine acond_f ((by rw [ht]; exact decide_eq_false h3)) ?_; conv => whnf)
          rcases hst with ⟨_, h4, _⟩ | ⟨h4, _⟩
          · exact absurd h4.2 (by omega)
          · exact ⟨congrArg (fun z => ARes.ret (AV.i IntKind.i64 z)) (by rw [h4]), rfl⟩
      · repeat (refine acond_f ((by rw [ht]; exact decide_eq_false h2)) ?_; conv => whnf)
        rcases hst with ⟨_, h4, _⟩ | ⟨h4, _⟩
        · exact absurd h4.1 (by omega)
        · exact ⟨congrArg (fun z => ARes.ret (AV.i IntKind.i64 z)) (by rw [h4]), rfl⟩
    · have h' : ¬ ((p + k : Nat) : Int) < ((sb s).size : Nat) := by rw [sb_size]; omega
      repeat (refine acond_f ((by rw [hw]; exact decide_eq_false h')) ?_; conv => whnf)
      rcases hst with ⟨h4, _⟩ | ⟨h4, _⟩
      · omega
      · exact ⟨congrArg (fun z => ARes.ret (AV.i IntKind.i64 z)) (by rw [h4]), rfl⟩
/-- What a parser stops with. -/
def wrAV (p : Nat) (e : Int) : AV := .ifc 59 (.agg [.i .i64 p, .i .i64 e])
theorem stop_spec (s t : Str) (a : Nat) (o e : Int) :
    ACall Tryd.prog 27 [pAV, .i .i64 e] [.c (pcl s a t o)] fun R H => R = .pan (wrAV a e) ∧ H = [.c (pcl s a t o)] := by
  refine ACall.enter tok false Tryd.func27 rfl rfl rfl (AW_sound (ip := false) tok _ _ _ _ ?_)
  conv => whnf
  exact ⟨rfl, rfl⟩
theorem ops_own : ACall Tryd.prog 38 [] [] fun r H => r = .ret (.sl (some (0, 0)) 1 6 6) ∧ H = [.c (strs opsL)] := by
  refine ACall.enter tok false Tryd.func38 rfl rfl rfl (AW_sound (ip := false) tok _ _ _ _ ?_)
  conv => whnf
  exact ⟨rfl, rfl⟩
theorem hasPrefix0_spec (r t : Str) (h1 : r.length < 1000000) (h2 : t.length < 1000000) :
    ACall Tryd.prog 50 [.s (sb r), .s (sb t)] [] fun R H => R = .ret (.b (t.isPrefixOf r)) ∧ H = [] := by
  refine ACall.enter tok false Tryd.func50 rfl rfl rfl (AW_sound (ip := false) tok _ _ _ _ ?_)
  conv => whnf
  by_cases h : (((sb r).size : Nat) : Int) ≥ ((sb t).size : Nat)
  · repeat (refine acond_t (decide_eq_true h) ?_; conv => whnf)
    refine ⟨⟨by omega, by omega⟩, ?_⟩
    conv => whnf
    repeat (refine acond_t (decide_eq_true h) ?_; conv => whnf)
    refine ⟨congrArg (fun z => ARes.ret (AV.b z)) ?_, rfl⟩
    rw [sb_size, sb_size] at h
    show (((sb r).extract 0 ((((sb t).size : Nat) : Int)).toNat).data.toList == t) = _
    rw [sb_extract, Int.toNat_natCast, sb_size, List.drop_zero, Nat.sub_zero]
    show (r.take t.length == t) = _
    rw [Bool.eq_iff_iff, beq_iff_eq, List.isPrefixOf_iff_prefix, List.prefix_iff_eq_take]
    exact eq_comm
  · repeat (refine acond_f (decide_eq_false h) ?_; conv => whnf)
    refine ⟨congrArg (fun z => ARes.ret (AV.b z)) ?_, rfl⟩
    rw [sb_size, sb_size] at h
    cases hp : t.isPrefixOf r with
    | false => rfl
    | true => have := prefix_len hp; omega
theorem hasPrefix_spec (r t : Str) (h1 : r.length < 1000000) (h2 : t.length < 1000000) :
    ACall Tryd.prog 39 [.s (sb r), .s (sb t)] [] fun R H => R = .ret (.b (t.isPrefixOf r)) ∧ H = [] := by
  refine ACall.enter tok false Tryd.func39 rfl rfl rfl (AW_sound (ip := false) tok _ _ _ _ ?_)
  conv => whnf
  refine ACall.mono (hasPrefix0_spec r t h1 h2) ?_; rintro r0 H ⟨rfl, rfl⟩
  conv => whnf
  exact ⟨rfl, rfl⟩
end Go.AK
