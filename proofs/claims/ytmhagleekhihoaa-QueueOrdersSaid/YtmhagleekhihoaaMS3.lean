/- Texts SBase, SBits, SPure, SOf, SConcat, SFrame, SArb, SCmp, SRows, SFlat, SChk, SArbCheck, SLoses, SQLib, SQIns, SQPut, SQDrop, SQueue, SQueue2, STop: an evaluator of the model's code, proved sound, and what the program's functions do, for all inputs. -/
import Derived.Test.YtmhagleekhihoaaMA2
import Derived.Test.YtmhagleekhihoaaProg
import Derived.KernelRfl
import Derived.Laws.BitsAllLaws
import Derived.RowKit
namespace Go.AK
open Go Go.RowKit Go.Proofs
set_option linter.unusedVariables false
def T : TT := [
  (1, ⟨.fn, 1, 8, .nilf⟩),
  (2, ⟨.int .i64, 1, 8, .i .i64 0⟩),
  (3, ⟨.int .i64, 1, 8, .i .i64 0⟩),
  (4, ⟨.bool, 1, 1, .b false⟩),
  (5, ⟨.int .u8, 1, 1, .i .u8 0⟩),
  (6, ⟨.int .u8, 1, 1, .i .u8 0⟩),
  (7, ⟨.st [(0, 2), (1, 3), (2, 4), (3, 6)], 4, 24, .agg [.i .i64 0, .i .i64 0, .b false, .i .u8 0]⟩),
  (8, ⟨.st [(0, 2), (1, 3), (2, 4), (3, 6)], 4, 24, .agg [.i .i64 0, .i .i64 0, .b false, .i .u8 0]⟩),
  (9, ⟨.str, 1, 16, .s ⟨#[]⟩⟩),
  (10, ⟨.str, 1, 16, .s ⟨#[]⟩⟩),
  (11, ⟨.str, 1, 16, .s ⟨#[]⟩⟩),
  (12, ⟨.int .u64, 1, 8, .i .u64 0⟩),
  (13, ⟨.st [(0, 9), (1, 12)], 2, 24, .agg [.s ⟨#[]⟩, .i .u64 0]⟩),
  (14, ⟨.st [(0, 9), (1, 12)], 2, 24, .agg [.s ⟨#[]⟩, .i .u64 0]⟩),
  (15, ⟨.ptr 125, 1, 8, .p none⟩),
  (16, ⟨.ptr 128, 1, 8, .p none⟩),
  (17, ⟨.ptr 136, 1, 8, .p none⟩),
  (18, ⟨.st [(0, 17)], 1, 8, .agg [.p none]⟩),
  (19, ⟨.st [(0, 17)], 1, 8, .agg [.p none]⟩),
  (20, ⟨.ifc, 1, 16, .nili⟩),
  (21, ⟨.int .i32, 1, 4, .i .i32 0⟩),
  (22, ⟨.sl 33, 1, 24, .sl none 0 0 0⟩),
  (23, ⟨.arr 8 5, 8, 8, .agg [.i .u8 0, .i .u8 0, .i .u8 0, .i .u8 0, .i .u8 0, .i .u8 0, .i .u8 0, .i .u8 0]⟩),
  (24, ⟨.st [(0, 3), (1, 4), (2, 4), (3, 3), (4, 23)], 12, 32, .agg [.i .i64 0, .b false, .b false, .i .i64 0, .i .u8 0, .i .u8 0, .i .u8 0, .i .u8 0, .i .u8 0, .i .u8 0, .i .u8 0, .i .u8 0]⟩),
  (25, ⟨.st [(0, 3), (1, 4), (2, 4), (3, 3), (4, 23)], 12, 32, .agg [.i .i64 0, .b false, .b false, .i .i64 0, .i .u8 0, .i .u8 0, .i .u8 0, .i .u8 0, .i .u8 0, .i .u8 0, .i .u8 0, .i .u8 0]⟩),
  (26, ⟨.fn, 1, 8, .nilf⟩),
  (27, ⟨.ptr 72, 1, 8, .p none⟩),
  (28, ⟨.int .i64, 1, 8, .i .i64 0⟩),
  (30, ⟨.fn, 1, 8, .nilf⟩),
  (31, ⟨.fn, 1, 8, .nilf⟩),
  (32, ⟨.st [(0, 4), (1, 25)], 13, 40, .agg [.b false, .i .i64 0, .b false, .b false, .i .i64 0, .i .u8 0, .i .u8 0, .i .u8 0, .i .u8 0, .i .u8 0, .i .u8 0, .i .u8 0, .i .u8 0]⟩),
  (33, ⟨.st [(0, 4), (1, 25)], 13, 40, .agg [.b false, .i .i64 0, .b false, .b false, .i .i64 0, .i .u8 0, .i .u8 0, .i .u8 0, .i .u8 0, .i .u8 0, .i .u8 0, .i .u8 0, .i .u8 0]⟩),
  (34, ⟨.sl 25, 1, 24, .sl none 0 0 0⟩),
  (35, ⟨.fn, 1, 8, .nilf⟩),
  (36, ⟨.fn, 1, 8, .nilf⟩),
  (37, ⟨.fn, 1, 8, .nilf⟩),
  (38, ⟨.fn, 1, 8, .nilf⟩),
  (39, ⟨.fn, 1, 8, .nilf⟩),
  (40, ⟨.ptr 42, 1, 8, .p none⟩),
  (41, ⟨.st [(0, 34), (1, 3)], 2, 32, .agg [.sl none 0 0 0, .i .i64 0]⟩),
  (42, ⟨.st [(0, 34), (1, 3)], 2, 32, .agg [.sl none 0 0 0, .i .i64 0]⟩),
  (43, ⟨.fn, 1, 8, .nilf⟩),
  (45, ⟨.fn, 1, 8, .nilf⟩),
  (46, ⟨.fn, 1, 8, .nilf⟩),
  (47, ⟨.fn, 1, 8, .nilf⟩),
  (48, ⟨.fn, 1, 8, .nilf⟩),
  (49, ⟨.fn, 1, 8, .nilf⟩),
  (50, ⟨.sl 3, 1, 24, .sl none 0 0 0⟩),
  (51, ⟨.fn, 1, 8, .nilf⟩),
  (52, ⟨.fn, 1, 8, .nilf⟩),
  (54, ⟨.fn, 1, 8, .nilf⟩),
  (55, ⟨.fn, 1, 8, .nilf⟩),
  (56, ⟨.fn, 1, 8, .nilf⟩),
  (57, ⟨.fn, 1, 8, .nilf⟩),
  (58, ⟨.fn, 1, 8, .nilf⟩),
  (60, ⟨.fn, 1, 8, .nilf⟩),
  (61, ⟨.fn, 1, 8, .nilf⟩),
  (62, ⟨.fn, 1, 8, .nilf⟩),
  (63, ⟨.fn, 1, 8, .nilf⟩),
  (64, ⟨.fn, 1, 8, .nilf⟩),
  (65, ⟨.sl 50, 1, 24, .sl none 0 0 0⟩),
  (66, ⟨.fn, 1, 8, .nilf⟩),
  (67, ⟨.fn, 1, 8, .nilf⟩),
  (68, ⟨.sl 4, 1, 24, .sl none 0 0 0⟩),
  (69, ⟨.st [(0, 34)], 1, 24, .agg [.sl none 0 0 0]⟩),
  (70, ⟨.st [(0, 34)], 1, 24, .agg [.sl none 0 0 0]⟩),
  (71, ⟨.st [(0, 70), (1, 3)], 2, 32, .agg [.sl none 0 0 0, .i .i64 0]⟩),
  (72, ⟨.st [(0, 70), (1, 3)], 2, 32, .agg [.sl none 0 0 0, .i .i64 0]⟩),
  (73, ⟨.fn, 1, 8, .nilf⟩),
  (74, ⟨.fn, 1, 8, .nilf⟩),
  (75, ⟨.fn, 1, 8, .nilf⟩),
  (76, ⟨.fn, 1, 8, .nilf⟩),
  (78, ⟨.fn, 1, 8, .nilf⟩),
  (79, ⟨.fn, 1, 8, .nilf⟩),
  (80, ⟨.sl 5, 1, 24, .sl none 0 0 0⟩),
  (81, ⟨.fn, 1, 8, .nilf⟩),
  (82, ⟨.fn, 1, 8, .nilf⟩),
  (83, ⟨.fn, 1, 8, .nilf⟩),
  (84, ⟨.fn, 1, 8, .nilf⟩),
  (85, ⟨.fn, 1, 8, .nilf⟩),
  (86, ⟨.fn, 1, 8, .nilf⟩),
  (87, ⟨.int .u64, 1, 8, .i .u64 0⟩),
  (88, ⟨.int .u64, 1, 8, .i .u64 0⟩),
  (89, ⟨.fn, 1, 8, .nilf⟩),
  (90, ⟨.ptr 70, 1, 8, .p none⟩),
  (91, ⟨.fn, 1, 8, .nilf⟩),
  (92, ⟨.fn, 1, 8, .nilf⟩),
  (93, ⟨.fn, 1, 8, .nilf⟩),
  (94, ⟨.fn, 1, 8, .nilf⟩),
  (95, ⟨.fn, 1, 8, .nilf⟩),
  (96, ⟨.fn, 1, 8, .nilf⟩),
  (97, ⟨.fn, 1, 8, .nilf⟩),
  (98, ⟨.fn, 1, 8, .nilf⟩),
  (99, ⟨.fn, 1, 8, .nilf⟩),
  (100, ⟨.fn, 1, 8, .nilf⟩),
  (101, ⟨.fn, 1, 8, .nilf⟩),
  (102, ⟨.fn, 1, 8, .nilf⟩),
  (103, ⟨.int .i64, 1, 8, .i .i64 0⟩),
  (105, ⟨.fn, 1, 8, .nilf⟩),
  (106, ⟨.fn, 1, 8, .nilf⟩),
  (107, ⟨.fn, 1, 8, .nilf⟩),
  (108, ⟨.fn, 1, 8, .nilf⟩),
  (109, ⟨.fn, 1, 8, .nilf⟩),
  (110, ⟨.int .u32, 1, 4, .i .u32 0⟩),
  (111, ⟨.fn, 1, 8, .nilf⟩),
  (112, ⟨.fn, 1, 8, .nilf⟩),
  (113, ⟨.int .u64, 1, 8, .i .u64 0⟩),
  (114, ⟨.fn, 1, 8, .nilf⟩),
  (115, ⟨.fn, 1, 8, .nilf⟩),
  (116, ⟨.fn, 1, 8, .nilf⟩),
  (117, ⟨.ptr 3, 1, 8, .p none⟩),
  (118, ⟨.fn, 1, 8, .nilf⟩),
  (119, ⟨.fn, 1, 8, .nilf⟩),
  (120, ⟨.ptr 113, 1, 8, .p none⟩),
  (122, ⟨.fn, 1, 8, .nilf⟩),
  (123, ⟨.fn, 1, 8, .nilf⟩),
  (124, ⟨.st [(0, 17), (1, 17), (2, 17), (3, 9)], 4, 40, .agg [.p none, .p none, .p none, .s ⟨#[]⟩]⟩),
  (125, ⟨.st [(0, 17), (1, 17), (2, 17), (3, 9)], 4, 40, .agg [.p none, .p none, .p none, .s ⟨#[]⟩]⟩),
  (126, ⟨.arr 0 16, 0, 0, .agg []⟩),
  (127, ⟨.st [(0, 126)], 0, 0, .agg []⟩),
  (128, ⟨.st [(0, 126)], 0, 0, .agg []⟩),
  (129, ⟨.int .u8, 1, 1, .i .u8 0⟩),
  (130, ⟨.int .u8, 1, 1, .i .u8 0⟩),
  (131, ⟨.fn, 1, 8, .nilf⟩),
  (132, ⟨.ptr 5, 1, 8, .p none⟩),
  (133, ⟨.int .i32, 1, 4, .i .i32 0⟩),
  (134, ⟨.int .i32, 1, 4, .i .i32 0⟩),
  (135, ⟨.st [(0, 12), (1, 12), (2, 110), (3, 129), (4, 5), (5, 5), (6, 130), (7, 131), (8, 132), (9, 133), (10, 134)], 11, 48, .agg [.i .u64 0, .i .u64 0, .i .u32 0, .i .u8 0, .i .u8 0, .i .u8 0, .i .u8 0, .nilf, .p none, .i .i32 0, .i .i32 0]⟩),
  (136, ⟨.st [(0, 12), (1, 12), (2, 110), (3, 129), (4, 5), (5, 5), (6, 130), (7, 131), (8, 132), (9, 133), (10, 134)], 11, 48, .agg [.i .u64 0, .i .u64 0, .i .u32 0, .i .u8 0, .i .u8 0, .i .u8 0, .i .u8 0, .nilf, .p none, .i .i32 0, .i .i32 0]⟩)]

theorem tok : TOK Try.prog T := TOK_of (by kernel_rfl)
end Go.AK
namespace Go.AK
open Go Go.RowKit Go.Proofs
set_option linter.unusedVariables false
set_option maxRecDepth 100000
theorem w64 {x : Int} (h1 : -9223372036854775808 ≤ x) (h2 : x ≤ 9223372036854775807) : IntKind.i64.wrap x = x := by rw [IntKind.wrap_i64]; omega
/-- The greatest of numbers. -/
def maxFrom (m : Int) : List Int → Int
  | [] => m
  | x :: xs => maxFrom (if x > m then x else m) xs
theorem maxFrom_pos : ∀ (L : List Int) (m : Int), (0 < maxFrom m L ↔ 0 < m ∨ ∃ x ∈ L, 0 < x)
  | [], m => by simp [maxFrom]
  | x :: xs, m => by
    rw [maxFrom, maxFrom_pos xs]
    simp only [List.mem_cons]
    constructor
    · rintro (h | ⟨y, h1, h2⟩)
      · split at h
        · exact .inr ⟨x, .inl rfl, h⟩
        · exact .inl h
      · exact .inr ⟨y, .inr h1, h2⟩
    · rintro (h | ⟨y, rfl | h1, h2⟩)
      · split <;> exact .inl (by omega)
      · split <;> exact .inl (by omega)
      · exact .inr ⟨y, h1, h2⟩
theorem max_spec (x : Int) (L : List Int) (hL : L.length < 1000) : ACall Try.prog 51 [.rs (nums .u8 (x :: L)) 0 1 (L.length + 1)] [] fun r H => r = .ret (.i .u8 (maxFrom x L)) ∧ H = [] := by
  refine ACall.enter tok false Try.func51 rfl rfl rfl (AW_sound (ip := false) tok _ _ _ _ ?_)
  conv => whnf
  rw [decide_eq_false (by omega : ¬ (((L.length + 1 : Nat) : Int) < 1))]
  conv => whnf
  refine ⟨⟨by omega, by omega⟩, ?_⟩
  conv => whnf
  refine ALoop.ind (ip := false) tok (fun n r H => ∃ (k : Nat) (m : Int), 1 ≤ k ∧ k ≤ L.length + 1 ∧ n = L.length + 1 - k ∧ maxFrom x L = maxFrom m (L.drop (k - 1)) ∧ H = [] ∧ r = [(4, .i .i64 k), (3, .i .u8 m), (0, .rs (nums .u8 (x :: L)) 0 1 (L.length + 1)), (2, .i .u8 0)]) L.length ?_ ?_
  · exact Gh.regs [4, 3, 0, 2] (Gh.of ⟨1, x, by omega, by omega, by omega, rfl, rfl, rfl⟩)
  · rintro n r H ⟨k, m, h1, hk, rfl, hf, rfl, rfl⟩
    conv => whnf
    by_cases h : (k : Int) < (L.length + 1 : Nat)
    · rw [decide_eq_true h]
      conv => whnf
      refine ⟨⟨by omega, h⟩, ?_⟩
      conv => whnf
      rw [show (0 + (k : Int).toNat * 1) = k from by omega]
      obtain ⟨j, rfl⟩ : ∃ j, k = j + 1 := ⟨k - 1, by omega⟩
      refine aget_nums (by simp; omega) ?_
      conv => whnf
      rw [w64 (by omega) (by omega)]
      have hd : L.drop (j + 1 - 1) = L[j]'(by omega) :: L.drop (j + 1) := by rw [Nat.add_sub_cancel]; exact List.drop_eq_getElem_cons (by omega)
      refine Gh.regs [4, 3, 0, 2] (Gh.of ⟨_, ?_, j + 2, _, by omega, by omega, rfl, ?_, rfl, rfl⟩)
      · omega
      · rw [hf, hd]; rfl
    · rw [decide_eq_false h]
      conv => whnf
      refine ⟨?_, rfl⟩
      have : k = L.length + 1 := by omega
      subst this
      rw [hf]; simp [maxFrom]
theorem level_spec (b : Bool) : ACall Try.prog 59 [.b b] [] fun r H => r = .ret (.i .i64 (if b = true then 1 else 0)) ∧ H = [] := by
  refine ACall.enter tok false Try.func59 rfl rfl rfl (AW_sound (ip := false) tok _ _ _ _ ?_)
  cases b
  · conv => whnf
    exact ⟨rfl, rfl⟩
  · conv => whnf
    exact ⟨rfl, rfl⟩
end Go.AK
/- Plain facts on rows of levels and on numbers: no program in sight. -/
namespace Go.AK
open Go.RowKit

/-- All are levels. -/
def isLv (l : List Int) : Prop := ∀ x ∈ l, x = 0 ∨ x = 1
theorem isLv_nil : isLv [] := fun x h => by simp at h
theorem isLv_append {a b : List Int} : isLv (a ++ b) ↔ isLv a ∧ isLv b := by
  constructor
  · intro h
    exact ⟨fun x hx => h x (List.mem_append_left _ hx), fun x hx => h x (List.mem_append_right _ hx)⟩
  · rintro ⟨ha, hb⟩ x hx
    rcases List.mem_append.1 hx with hx | hx
    · exact ha x hx
    · exact hb x hx
theorem isLv_cons {x : Int} {l : List Int} : isLv (x :: l) ↔ (x = 0 ∨ x = 1) ∧ isLv l := by
  constructor
  · intro h
    exact ⟨h x List.mem_cons_self, fun y hy => h y (List.mem_cons_of_mem _ hy)⟩
  · rintro ⟨hx, hl⟩ y hy
    rcases List.mem_cons.1 hy with rfl | hy
    · exact hx
    · exact hl y hy
theorem isLv_take {l : List Int} (h : isLv l) (n : Nat) : isLv (l.take n) := fun x hx => h x (List.mem_of_mem_take hx)
theorem isLv_drop {l : List Int} (h : isLv l) (n : Nat) : isLv (l.drop n) := fun x hx => h x (List.mem_of_mem_drop hx)
theorem isLv_replicate (n : Nat) {x : Int} (h : x = 0 ∨ x = 1) : isLv (List.replicate n x) := fun y hy => by
  rw [(List.mem_replicate.1 hy).2]; exact h
theorem isLv_get {l : List Int} (h : isLv l) (i : Nat) (hi : i < l.length) : l.getD i 0 = 0 ∨ l.getD i 0 = 1 := by
  have : l.getD i 0 = l[i] := by simp [List.getD_eq_getElem?_getD, List.getElem?_eq_getElem hi]
  rw [this]
  exact h _ (List.getElem_mem hi)
instance (l : List Int) : Decidable (isLv l) := inferInstanceAs (Decidable (∀ x ∈ l, x = 0 ∨ x = 1))

/-- The lowest levels of a number, the greatest one first. -/
def ofI : Int → Nat → List Int
  | _, 0 => []
  | n, w + 1 => ofI (n / 2) w ++ [n % 2]
theorem ofI_length (w : Nat) : ∀ n, (ofI n w).length = w := by
  induction w with
  | zero => intro n; rfl
  | succ w ih => intro n; simp [ofI, ih]
theorem ofI_lv (w : Nat) : ∀ n, isLv (ofI n w) := by
  induction w with
  | zero => intro n; exact isLv_nil
  | succ w ih =>
    intro n
    rw [ofI, isLv_append]
    exact ⟨ih _, fun x hx => by simp at hx; omega⟩
/-- The number of levels. -/
def valI (l : List Int) : Int := l.foldl (fun a x => 2 * a + x) 0
theorem valI_from (l : List Int) : ∀ a : Int, l.foldl (fun a x => 2 * a + x) a = a * 2 ^ l.length + valI l := by
  induction l with
  | nil => intro a; simp [valI]
  | cons x t ih =>
    intro a
    simp only [valI, List.foldl_cons, List.length_cons]
    rw [ih, ih (2 * 0 + x)]
    rw [Int.pow_succ]
    have : (2 * a + x) * 2 ^ t.length = a * (2 ^ t.length * 2) + x * 2 ^ t.length := by
      rw [Int.add_mul, Int.mul_comm 2 a, Int.mul_assoc, Int.mul_comm 2 (2 ^ t.length)]
    rw [this]
    have e2 : (2 * 0 + x) = x := by omega
    rw [e2]
    omega
theorem valI_append (a b : List Int) : valI (a ++ b) = valI a * 2 ^ b.length + valI b := by
  unfold valI
  rw [List.foldl_append]
  exact valI_from b _
theorem valI_snoc (l : List Int) (x : Int) : valI (l ++ [x]) = 2 * valI l + x := by
  rw [valI_append]
  simp [valI]
  omega
theorem valI_nil : valI [] = 0 := rfl
theorem valI_single (x : Int) : valI [x] = x := by simp [valI]
theorem snoc_cases (l : List Int) : l = [] ∨ ∃ t x, l = t ++ [x] := by
  rcases List.eq_nil_or_concat l with h | ⟨t, x, h⟩
  · exact .inl h
  · exact .inr ⟨t, x, by simpa using h⟩
theorem snoc_ind {P : List Int → Prop} (h0 : P []) (h1 : ∀ l x, P l → P (l ++ [x])) (l : List Int) : P l := by
  generalize hn : l.length = n
  induction n generalizing l with
  | zero => rw [List.eq_nil_of_length_eq_zero hn]; exact h0
  | succ n ih =>
    rcases snoc_cases l with rfl | ⟨t, x, rfl⟩
    · exact h0
    · exact h1 t x (ih t (by simpa using hn))
theorem valI_bounds {l : List Int} (h : isLv l) : 0 ≤ valI l ∧ valI l < 2 ^ l.length := by
  induction l using snoc_ind with
  | h0 => simp [valI]
  | h1 l x ih =>
    rw [isLv_append] at h
    have := ih h.1
    have hx := h.2 x (by simp)
    rw [valI_snoc, List.length_append, List.length_singleton, Int.pow_succ]
    omega
theorem ofI_valI {l : List Int} (h : isLv l) : ofI (valI l) l.length = l := by
  induction l using snoc_ind with
  | h0 => rfl
  | h1 l x ih =>
    rw [isLv_append] at h
    have hx := h.2 x (by simp)
    rw [valI_snoc, List.length_append, List.length_singleton, ofI]
    have e1 : (2 * valI l + x) / 2 = valI l := by omega
    have e2 : (2 * valI l + x) % 2 = x := by omega
    rw [e1, e2, ih h.1]
theorem ofI_append (b : Nat) : ∀ (n : Int) (a : Nat), ofI n (a + b) = ofI (n / 2 ^ b) a ++ ofI n b := by
  induction b with
  | zero => intro n a; simp [ofI]
  | succ b ih =>
    intro n a
    rw [show a + (b + 1) = (a + b) + 1 from rfl, ofI, ofI, ih]
    rw [Int.ediv_ediv_of_nonneg (by omega), Int.pow_succ, Int.mul_comm (2 ^ b) 2, List.append_assoc]
theorem pow_pos (w : Nat) : (0 : Int) < 2 ^ w := Int.pow_pos (by omega)
theorem valI_ofI (w : Nat) : ∀ n : Int, valI (ofI n w) = n % 2 ^ w := by
  induction w with
  | zero => intro n; simp [ofI, valI]
  | succ w ih =>
    intro n
    rw [ofI, valI_snoc, ih, Int.pow_succ]
    have hp := pow_pos w
    -- n = 2 (n/2) + n%2; n/2 = 2^w q + r
    have h1 := Int.mul_ediv_add_emod (n / 2) (2 ^ w)
    have h2 := Int.emod_nonneg (n / 2) (show (2 : Int) ^ w ≠ 0 by omega)
    have h3 := Int.emod_lt_of_pos (n / 2) hp
    generalize n / 2 / 2 ^ w = q at h1
    generalize hr : n / 2 % 2 ^ w = r at h1 h2 h3
    have hn : n = (2 ^ w * 2) * q + (2 * r + n % 2) := by
      have : n = 2 * (n / 2) + n % 2 := by omega
      rw [← h1] at this
      rw [Int.mul_assoc, Int.mul_comm 2 q, ← Int.mul_assoc, Int.mul_comm (2 ^ w * q) 2]
      omega
    conv => rhs; rw [hn]
    rw [Int.mul_add_emod_self_left]
    exact (Int.emod_eq_of_lt (a := 2 * r + n % 2) (by omega) (by omega)).symm
/-- Which level stands where. -/
theorem ofI_get (w : Nat) : ∀ (n : Int) (j : Nat), j < w → (ofI n w).getD j 0 = n / 2 ^ (w - 1 - j) % 2 := by
  induction w with
  | zero => intro n j h; omega
  | succ w ih =>
    intro n j h
    rw [ofI]
    by_cases hj : j < w
    · rw [List.getD_eq_getElem?_getD, List.getElem?_append_left (by rw [ofI_length]; exact hj), ← List.getD_eq_getElem?_getD, ih _ _ hj]
      rw [Int.ediv_ediv_of_nonneg (by omega), show w + 1 - 1 - j = (w - 1 - j) + 1 by omega, Int.pow_succ, Int.mul_comm (2 ^ _) 2]
    · have : j = w := by omega
      subst this
      rw [List.getD_eq_getElem?_getD, List.getElem?_append_right (by rw [ofI_length]; omega), ofI_length]
      simp
theorem ofI_zero (w : Nat) : ofI 0 w = List.replicate w 0 := by
  induction w with
  | zero => rfl
  | succ w ih => rw [ofI, show (0 : Int) / 2 = 0 from rfl, ih, show (0 : Int) % 2 = 0 from rfl, List.replicate_succ']
theorem ofI_mod (w : Nat) (n : Int) : ofI (n % 2 ^ w) w = ofI n w := by
  rw [← valI_ofI w n]
  have h := ofI_valI (ofI_lv w n)
  rwa [ofI_length] at h
theorem ofI_inj {w : Nat} {a b : Int} (ha : 0 ≤ a) (ha' : a < 2 ^ w) (hb : 0 ≤ b) (hb' : b < 2 ^ w) (h : ofI a w = ofI b w) : a = b := by
  have := congrArg valI h
  rw [valI_ofI, valI_ofI, Int.emod_eq_of_lt ha ha', Int.emod_eq_of_lt hb hb'] at this
  exact this
theorem list_ext {a b : List Int} (h : a.length = b.length) (hg : ∀ i, i < a.length → a.getD i 0 = b.getD i 0) : a = b := by
  refine List.ext_getElem h fun i h1 h2 => ?_
  have := hg i h1
  simpa [List.getD_eq_getElem?_getD, List.getElem?_eq_getElem h1, List.getElem?_eq_getElem h2] using this
theorem getD_set (l : List Int) (i j : Nat) (v : Int) (hi : i < l.length) : (l.set i v).getD j 0 = if i = j then v else l.getD j 0 := by
  rw [List.getD_eq_getElem?_getD, List.getElem?_set]
  by_cases h : i = j
  · subst h; simp [hi]
  · simp [h, List.getD_eq_getElem?_getD]
theorem wrap_in {x : Int} (h1 : -9223372036854775808 ≤ x) (h2 : x ≤ 9223372036854775807) : wrap64 x = x := by unfold wrap64; omega
end Go.AK
namespace Go.AK
open Go Go.RowKit Go.Proofs
set_option linter.unusedVariables false
set_option maxRecDepth 100000
theorem shr_nat (n : Int) (i : Nat) (hi : i ≤ 64) : n.fdiv (2 ^ min (i : Int).toNat IntKind.u64.bits) = n / 2 ^ i := by
  rw [Int.toNat_natCast, Nat.min_eq_left (by simpa [IntKind.bits] using hi)]
  exact Int.fdiv_eq_ediv_of_nonneg _ (Int.le_of_lt (pow_pos i))
theorem bit_nat (n : Int) (i : Nat) (h0 : 0 ≤ n) (h1 : n < 18446744073709551616) : bits .and .u64 (n / 2 ^ i) 1 = n / 2 ^ i % 2 := by
  have hp := pow_pos i
  have hn := Int.ediv_nonneg h0 (Int.le_of_lt hp)
  have hle : n / 2 ^ i ≤ n := Int.ediv_le_self _ h0
  rw [u64_and _ _ hn (by omega) (by omega) (by omega)]
  have : ((n / 2 ^ i).toNat &&& (1 : Int).toNat) = (n / 2 ^ i).toNat % 2 := Nat.and_one_is_mod _
  rw [this]; omega
theorem of_spec (n : Int) (w : Nat) (h0 : 0 ≤ n) (h1 : n < 18446744073709551616) (hw : w ≤ 64) : ACall Try.prog 58 [.i .u64 n, .i .i64 w] [] fun r H => r = .ret (.tup [.sl (some (0, 0)) 1 w w, .i .i64 0]) ∧ H = [.c (ints (ofI n w))] := by
  refine ACall.enter tok false Try.func58 rfl rfl rfl (AW_sound (ip := false) tok _ _ _ _ ?_)
  conv => whnf
  rw [decide_eq_false (by omega : ¬ ((w : Int) < 0))]
  conv => whnf
  rw [decide_eq_false (by omega : ¬ ((w : Int) > 64))]
  conv => whnf
  refine ⟨⟨by omega, by omega, by show (8 : Int) * w ≤ _; omega, by omega⟩, ?_⟩
  conv => whnf
  rw [show (List.replicate (w : Int).toNat (AV.i .i64 0).cells).flatten = ints (List.replicate w 0) from by simp [AV.cells, nums]]
  rw [Int.toNat_natCast]
  refine ALoop.ind (ip := false) tok (fun m r H => ∃ (k : Nat) (L : List Int), k ≤ w ∧ m = w - k ∧ L.length = w ∧ (∀ j, w - k ≤ j → j < w → L.getD j 0 = n / 2 ^ (w - 1 - j) % 2) ∧ H = [.c (ints L)] ∧
      r = [(17, .i .i64 k), (16, .i .i64 w), (6, .sl (some (0, 0)) 1 w w), (1, .i .i64 w), (0, .i .u64 n)]) w ?_ ?_
  · exact Gh.regs [17, 16, 6, 1, 0] (Gh.of ⟨0, _, by omega, by omega, by simp, by intro j h1 h2; omega, rfl, rfl⟩)
  · rintro m r H ⟨k, L, hk, rfl, hl, hL, rfl, rfl⟩
    conv => whnf
    by_cases h : (k : Int) < w
    · rw [decide_eq_true h]
      conv => whnf
      refine ⟨by omega, ?_⟩
      conv => whnf
      rw [shr_nat n k (by omega), bit_nat n k h0 h1, w64 (x := (w : Int) - 1) (by omega) (by omega), w64 (x := (w : Int) - 1 - k) (by omega) (by omega), w64 (x := n / 2 ^ k % 2) (by omega) (by omega)]
      refine ⟨⟨by omega, by omega⟩, ?_⟩
      conv => whnf
      refine ⟨by simp only [nums_length]; omega, ?_⟩
      conv => whnf
      rw [show 0 + ((w : Int) - 1 - k).toNat * 1 = w - 1 - k from by omega]
      rw [show IntKind.i64.wrap ((k : Int) + 1) = ((k + 1 : Nat) : Int) from by rw [w64 (by omega) (by omega)]; omega]
      refine Gh.regs [17, 16, 6, 1, 0] (Gh.of ⟨_, ?_, k + 1, L.set (w - 1 - k) (n / 2 ^ k % 2), by omega, rfl, by simp [hl], ?_, ?_, rfl⟩)
      · omega
      · intro j h2 h3
        rw [getD_set L _ _ _ (by omega)]
        by_cases e : w - 1 - k = j
        · rw [if_pos e]; rw [show w - 1 - j = k from by omega]
        · rw [if_neg e]; exact hL j (by omega) h3
      · exact congrArg (fun c => [Blk.c c]) (setCells_nums _ _ _ _)
    · rw [decide_eq_false h]
      conv => whnf
      refine ⟨rfl, ?_⟩
      have : k = w := by omega
      subst this
      rw [show L = ofI n k from list_ext (by rw [hl, ofI_length]) (fun i hi => by rw [hL i (by omega) (by omega), ofI_get k n i (by omega)])]
theorem grow_spec (n : Nat) (hn : n ≤ 1000000) : ACall Try.prog 72 [.sl none 0 0 0, .i .i64 n] [] fun r H => (n = 0 ∧ r = .ret (.sl none 0 0 0) ∧ H = []) ∨ (n ≠ 0 ∧ ∃ c, n ≤ c ∧ r = .ret (.sl (some (0, 0)) 1 0 c) ∧ H = [.c (ints (List.replicate n 0))]) := by
  refine ACall.enter tok false Try.func72 rfl rfl rfl (AW_sound (ip := false) tok _ _ _ _ ?_)
  conv => whnf
  rw [decide_eq_false (by omega : ¬ ((n : Int) < 0))]
  conv => whnf
  rw [w64 (x := ((0 : Nat) : Int) - ((0 : Nat) : Int)) (by omega) (by omega), w64 (by omega) (by omega)]
  rw [show (n : Int) - (((0 : Nat) : Int) - ((0 : Nat) : Int)) = n from by omega]
  by_cases h : (n : Int) > 0
  · rw [decide_eq_true h]
    conv => whnf
    refine ⟨⟨by omega, by omega⟩, ?_⟩
    conv => whnf
    refine ⟨⟨by omega, by simp [Int.toNat_natCast]; omega, by omega⟩, ?_⟩
    conv => whnf
    refine ⟨fun h0 => by omega, fun _ c hc => ?_⟩
    conv => whnf
    refine ⟨⟨by omega, by simp⟩, ?_⟩
    conv => whnf
    refine .inr ⟨by omega, c, by omega, ?_, ?_⟩
    · simp
    · rw [Int.toNat_natCast]
      rw [show (List.replicate n (AV.i .i64 0).cells).flatten = ints (List.replicate n 0) from by simp [AV.cells, nums]]
      rfl
  · rw [decide_eq_false h]
    conv => whnf
    exact .inl ⟨by omega, rfl, rfl⟩
end Go.AK
namespace Go.AK
open Go Go.RowKit Go.Proofs
set_option linter.unusedVariables false
set_option maxRecDepth 100000
def rowAV (L : List Int) : AV := .rs (ints L) 0 1 L.length
def rowsAV (Ls : List (List Int)) : List AV := Ls.map rowAV
theorem aget_rows {Ls : List (List Int)} {i : Nat} {K : AV → Prop} (h : i < Ls.length) (hk : K (rowAV Ls[i])) : aget (rowsAV Ls) i K := by
  unfold aget
  have : (rowsAV Ls)[i]? = some (rowAV Ls[i]) := by simp [rowsAV, h]
  rw [this]; exact hk
theorem subs_rows (φ : Nat → Sb) : ∀ (Ls : List (List Int)), subs φ (rowsAV Ls) = rowsAV Ls
  | [] => rfl
  | L :: Ls => by
    have := subs_rows φ Ls
    simp only [rowsAV, rowAV, List.map_cons, subs, sub, subs_nums] at this ⊢; rw [this]
theorem sum_take (Ls : List (List Int)) (k : Nat) (h : k < Ls.length) : (Ls.take (k + 1)).flatten = (Ls.take k).flatten ++ Ls[k] := by
  rw [List.take_add_one, List.getElem?_eq_getElem h, List.flatten_append]; simp
theorem flat_le (Ls : List (List Int)) (k : Nat) : (Ls.take k).flatten.length ≤ Ls.flatten.length := by
  have : Ls.flatten = (Ls.take k).flatten ++ (Ls.drop k).flatten := by rw [← List.flatten_append, List.take_append_drop]
  rw [this, List.length_append]; omega
theorem concat_spec (Ls : List (List Int)) (h0 : 0 < Ls.flatten.length) (hm : Ls.flatten.length ≤ 1000000) (hl : Ls.length ≤ 1000000) :
    ACall Try.prog 60 [.rs (rowsAV Ls) 0 1 Ls.length] [] fun r H => ∃ c, Ls.flatten.length ≤ c ∧ r = .ret (.sl (some (0, 0)) 1 Ls.flatten.length c) ∧ H = [.c (ints Ls.flatten)] := by
  refine ACall.enter tok false Try.func60 rfl rfl rfl (AW_sound (ip := false) tok _ _ _ _ ?_)
  conv => whnf
  refine ALoop.ind (ip := false) tok (fun m r H => ∃ (k : Nat), k ≤ Ls.length ∧ m = Ls.length - k ∧ H = [] ∧ r = [(11, .i .i64 k), (10, .i .i64 Ls.length), (3, .i .i64 ((Ls.take k).flatten.length : Nat)), (9, .rs (rowsAV Ls) 0 1 Ls.length), (0, .rs (rowsAV Ls) 0 1 Ls.length)]) Ls.length ?_ ?_
  · exact Gh.regs [11, 10, 3, 9, 0] (Gh.of ⟨0, by omega, by omega, rfl, by simp; rfl⟩)
  · rintro m r H ⟨k, hk, rfl, rfl, rfl⟩
    conv => whnf
    by_cases h : (k : Int) < Ls.length
    · rw [decide_eq_true h]
      conv => whnf
      refine ⟨⟨by omega, h⟩, ?_⟩
      conv => whnf
      have hkl : k < Ls.length := by omega
      have hle := flat_le Ls (k + 1)
      have hst := sum_take Ls k hkl
      rw [hst, List.length_append] at hle
      rw [show (0 + (k : Int).toNat * 1) = k from by omega]
      refine aget_rows hkl ?_
      conv => whnf
      rw [w64 (x := (((Ls.take k).flatten.length : Nat) : Int) + _) (by omega) (by omega)]
      rw [decide_eq_false (by omega : ¬ ((((Ls.take k).flatten.length : Nat) : Int) + (Ls[k].length : Nat) < 0))]
      conv => whnf
      rw [w64 (by omega) (by omega)]
      refine Gh.regs [11, 10, 3, 9, 0] (Gh.of ⟨_, ?_, k + 1, by omega, rfl, rfl, ?_⟩)
      · omega
      · rw [hst, List.length_append]; rfl
    · rw [decide_eq_false h]
      conv => whnf
      have : k = Ls.length := by omega
      subst this
      rw [List.take_length]
      refine ACall.mono (grow_spec Ls.flatten.length hm) ?_
      rintro r H (⟨h1, _⟩ | ⟨_, c, hc, rfl, rfl⟩)
      · omega
      conv => whnf
      refine ALoop.ind (ip := false) tok (fun m r H => ∃ (k c : Nat) (M : List AV), k ≤ Ls.length ∧ m = Ls.length - k ∧ (Ls.take k).flatten.length ≤ c ∧ M.take (Ls.take k).flatten.length = ints (Ls.take k).flatten ∧ (k = Ls.length → M = ints Ls.flatten ∨ k = 0) ∧ H = [.c M] ∧
        r = [(27, .i .i64 k), (26, .i .i64 Ls.length), (6, .sl (some (0, 0)) 1 (Ls.take k).flatten.length c), (25, .rs (rowsAV Ls) 0 1 Ls.length)]) Ls.length ?_ ?_
      · refine Gh.regs [27, 26, 6, 25] (Gh.of ⟨0, c, _, by omega, by omega, by simp, by simp [nums], fun _ => .inr rfl, rfl, by simp; rfl⟩)
      · rintro m r H ⟨k, c, M, hk, rfl, hc1, hM, hM2, rfl, rfl⟩
        conv => whnf
        by_cases h : (k : Int) < Ls.length
        · rw [decide_eq_true h]
          conv => whnf
          refine ⟨⟨by omega, h⟩, ?_⟩
          conv => whnf
          have hkl : k < Ls.length := by omega
          have hle := flat_le Ls (k + 1)
          have hst := sum_take Ls k hkl
          have hMl : (Ls.take k).flatten.length ≤ M.length := by
            have := congrArg List.length hM
            rw [nums_length, List.length_take] at this; omega
          rw [hst, List.length_append] at hle
          rw [show (0 + (k : Int).toNat * 1) = k from by omega]
          refine aget_rows hkl ?_
          conv => whnf
          refine ⟨by dsimp only; omega, ?_⟩
          conv => whnf
          refine ⟨by dsimp only; rw [nums_length]; omega, ?_⟩
          dsimp only
          rw [List.drop_zero, List.drop_zero, Nat.mul_one, Nat.mul_one, List.take_of_length_le (l := ints Ls[k]) (by rw [nums_length]; omega), hM, ← nums_append]
          refine ⟨ones_nums _ _, by omega, by omega, fun c' hc' => ?_⟩
          conv => whnf
          rw [w64 (by omega) (by omega), show (k : Int) + 1 = ((k + 1 : Nat) : Int) from by omega]
          refine Gh.regs [27, 26, 6, 25] (Gh.sel [1] rfl (Gh.of ⟨_, ?_, k + 1, c', _, by omega, rfl, ?_, ?_, ?_, rfl, ?_⟩))
          · omega
          · rw [hst, List.length_append]; exact hc'
          · rw [hst]; exact (by rw [subs_nums, List.take_of_length_le (by rw [nums_length]; exact Nat.le_refl _)])
          · intro h5; left; rw [subs_nums, ← hst, h5, List.take_length]
          · rw [hst, List.length_append]; refine keep_eq (show keepR _ _ = [_, _, _, _] from rfl) ?_; simp [subG, sub, selφ, posOf, subs_rows]
        · rw [decide_eq_false h]
          conv => whnf
          have : k = Ls.length := by omega
          subst this
          rcases hM2 rfl with rfl | h5
          · rw [List.take_length] at hc1 ⊢
            exact ⟨c, hc1, rfl, rfl⟩
          · rw [h5] at hM hc1
            have : Ls = [] := List.eq_nil_of_length_eq_zero h5
            subst this
            simp at h0
end Go.AK
namespace Go.AK
open Go Go.RowKit Go.Proofs
set_option linter.unusedVariables false
set_option maxRecDepth 100000
structure Fr where
  id : Int
  ext : Bool
  rtr : Bool
  len : Int
  b0 : Int
  b1 : Int
  b2 : Int
  b3 : Int
  b4 : Int
  b5 : Int
  b6 : Int
  b7 : Int
  deriving DecidableEq
def Fr.d (F : Fr) : List Int := [F.b0, F.b1, F.b2, F.b3, F.b4, F.b5, F.b6, F.b7]
def Fr.cells (F : Fr) : List AV := [.i .i64 F.id, .b F.ext, .b F.rtr, .i .i64 F.len, .i .u8 F.b0, .i .u8 F.b1, .i .u8 F.b2, .i .u8 F.b3, .i .u8 F.b4, .i .u8 F.b5, .i .u8 F.b6, .i .u8 F.b7]
def Fr.av (F : Fr) : AV := .agg F.cells
/-- Its parts are of their kinds. -/
structure Fr.ok (F : Fr) : Prop where
  id : -9223372036854775808 ≤ F.id ∧ F.id ≤ 9223372036854775807
  len : -9223372036854775808 ≤ F.len ∧ F.len ≤ 9223372036854775807
  d : ∀ x ∈ F.d, 0 ≤ x ∧ x < 256
def Fr.out (F : Fr) : Nat := if F.rtr = true then 0 else F.len.toNat
def Fr.may (F : Fr) : Prop := 0 ≤ F.id ∧ F.id ≤ (if F.ext = true then 536870911 else 2047) ∧ 0 ≤ F.len ∧ F.len ≤ 8 ∧ ∀ x ∈ F.d.drop F.out, x = 0
instance (F : Fr) : Decidable F.may := by unfold Fr.may; infer_instance
def Fr.chk (F : Fr) : Int := if F.may then 0 else 14
theorem Fr.tail0 (F : Fr) (u : Nat) (hu : u ≤ 8) : (F.cells.drop (0 + 4 + u)).take ((8 - u) * 1) = nums .u8 (F.d.drop u) := by
  have h : u = 0 ∨ u = 1 ∨ u = 2 ∨ u = 3 ∨ u = 4 ∨ u = 5 ∨ u = 6 ∨ u = 7 ∨ u = 8 := by omega
  rcases h with rfl | rfl | rfl | rfl | rfl | rfl | rfl | rfl | rfl <;> rfl
theorem Fr.bad {F : Fr} (h : ¬F.may) : F.chk = 14 := if_neg h
theorem Fr.good {F : Fr} (h : F.may) : F.chk = 0 := if_pos h
theorem check_spec (F : Fr) (hF : F.ok) : ACall Try.prog 28 [F.av] [] fun r H => r = .ret (.i .i64 F.chk) ∧ H = [] := by
  refine ACall.gh ?_
  refine ACall.enter tok false Try.func28 rfl rfl rfl (AW_sound (ip := false) tok _ _ _ _ ?_)
  have fin : ∀ v (H : Heap), v = F.chk → GhR 0 (fun r H => r = ARes.ret (.i .i64 F.chk) ∧ H = []) (.ret (.i .i64 v)) H := by
    rintro v H rfl
    exact GhR.sel [] rfl (GhR.of ⟨rfl, rfl⟩)
  have bad : ∀ (H : Heap), ¬F.may → GhR 0 (fun r H => r = ARes.ret (.i .i64 F.chk) ∧ H = []) (.ret (.i .i64 14)) H := fun H h => fin _ _ (Fr.bad h).symm
  conv => whnf
  cases he : F.ext <;> (conv => whnf) <;> cases hr : F.rtr <;> (conv => whnf)
  all_goals
    by_cases h1 : F.id < 0
    · rw [decide_eq_true h1]
      conv => whnf
      exact bad _ fun h => by have := h.1; omega
    rw [decide_eq_false h1]
    conv => whnf
    by_cases h2 : F.id > (if F.ext = true then 536870911 else 2047)
    · have h2' := h2
      simp only [he, if_true, if_false, reduceCtorEq] at h2'
      rw [decide_eq_true h2']
      conv => whnf
      exact bad _ fun h => by have := h.2.1; omega
    have h2' := h2
    simp only [he, if_true, if_false, reduceCtorEq] at h2'
    rw [decide_eq_false h2']
    conv => whnf
    by_cases h3 : F.len < 0
    · rw [decide_eq_true h3]
      conv => whnf
      exact bad _ fun h => by have := h.2.2.1; omega
    rw [decide_eq_false h3]
    conv => whnf
    by_cases h4 : F.len > 8
    · rw [decide_eq_true h4]
      conv => whnf
      exact bad _ fun h => by have := h.2.2.2.1; omega
    rw [decide_eq_false h4]
    conv => whnf
    refine ⟨by show 12 ≤ (12 : Nat); omega, ?_⟩
    conv => whnf
    refine ⟨?_, ?_⟩
    · omega
    conv => whnf
    refine ⟨by show 1 ≤ (1 : Nat); omega, ?_⟩
    conv => whnf
    have e0 : F.out = if F.rtr = true then 0 else F.len.toNat := rfl
    simp only [hr, if_true, if_false, reduceCtorEq] at e0
    have e8 : F.out ≤ 8 := by omega
    have e1 : F.rtr = true → Int.toNat 0 = F.out := fun h => by rw [show F.out = 0 from if_pos h]; rfl
    have e2 : F.rtr = false → F.len.toNat = F.out := fun h => by rw [show F.out = F.len.toNat from if_neg (by rw [h]; exact Bool.false_ne_true)]
    first | rw [e1 hr] | rw [e2 hr]
    refine ⟨by show _ + _ * 1 ≤ (12 : Nat); omega, ?_⟩
    conv => whnf
    first | rw [e1 hr] | rw [e2 hr] | skip
    dsimp only
    rw [show F.av.cells = F.cells from rfl, F.tail0 F.out e8]
    refine ⟨ones_nums _ _, by omega, by omega, fun c hc => ?_⟩
    conv => whnf
    have hdl : (F.d.drop F.out).length = 8 - F.out := by simp [Fr.d]
    refine ACall.frame [] [2] rfl (args' := [.rs (nums .u8 (0 :: F.d.drop F.out)) 0 1 ((F.d.drop F.out).length + 1)]) (Hc := []) ?_ rfl (max_spec 0 (F.d.drop F.out) (by omega)) ?_
    · rw [hdl, Nat.add_comm (8 - F.out) 1]
      show [AV.rs (subs _ (nums .u8 (0 :: F.d.drop F.out))) 0 1 (1 + (8 - F.out))] = _
      rw [subs_nums]
    rintro r H ⟨rfl, rfl⟩
    refine ⟨.inr ⟨rfl, rfl⟩, ?_⟩
    conv => whnf
    have hm := maxFrom_pos (F.d.drop F.out) 0
    by_cases h5 : maxFrom 0 (F.d.drop F.out) > 0
    · rw [decide_eq_true h5]
      conv => whnf
      refine bad _ fun h => ?_
      rcases hm.1 h5 with h6 | ⟨x, h6, h7⟩
      · omega
      · have := h.2.2.2.2 x h6; omega
    · rw [decide_eq_false h5]
      conv => whnf
      refine fin _ _ (Fr.good ⟨by omega, by omega, by omega, by omega, fun x hx => ?_⟩).symm
      have h6 := hF.d x (List.mem_of_mem_drop hx)
      by_cases h7 : 0 < x
      · exact absurd (hm.2 (.inr ⟨x, hx, h7⟩)) h5
      · omega
end Go.AK
namespace Go.AK
open Go Go.RowKit Go.Proofs
set_option linter.unusedVariables false
set_option maxRecDepth 100000
def Fr.rt (F : Fr) : Int := if F.rtr = true then 1 else 0
/-- The levels of arbitration. -/
def Fr.row (F : Fr) : List Int := if F.ext = true then ofI (F.id / 2 ^ 18) 11 ++ [1, 1] ++ ofI F.id 18 ++ [F.rt] else ofI F.id 11 ++ [F.rt, 0]
def ArbK (F : Fr) (r : ARes) (H : Heap) : Prop :=
  (¬F.may ∧ r = .ret (.tup [.sl none 0 0 0, .i .i64 14]) ∧ H = []) ∨ (F.may ∧ ∃ c, F.row.length ≤ c ∧ r = .ret (.tup [.sl (some (0, 0)) 1 F.row.length c, .i .i64 0]) ∧ H = [.c (ints F.row)])
theorem wu64 {x : Int} (h1 : 0 ≤ x) (h2 : x < 18446744073709551616) : IntKind.u64.wrap x = x := by rw [IntKind.wrap_u64]; omega
theorem Fr.av_sub (F : Fr) (φ : Nat → Sb) : sub φ F.av = F.av := rfl
theorem arb_spec (F : Fr) (hF : F.ok) : ACall Try.prog 42 [F.av] [] (ArbK F) := by
  refine ACall.gh ?_
  refine ACall.enter tok false Try.func42 rfl rfl rfl (AW_sound (ip := false) tok _ _ _ _ ?_)
  conv => whnf
  refine ACall.frame [] [] rfl (args' := [F.av]) (Hc := []) rfl rfl (check_spec F hF) ?_
  rintro r H ⟨rfl, rfl⟩
  refine ⟨.inl rfl, ?_⟩
  conv => whnf
  by_cases hm : F.may
  · rw [Fr.good hm]
    conv => whnf
    have hi := hm.1
    have hi2 := hm.2.1
    cases he : F.ext
    · conv => whnf
      rw [he] at hi2
      simp only [Bool.false_eq_true, if_false] at hi2
      rw [wu64 hi (by omega)]
      refine ACall.frame [] [] rfl (args' := [.i .u64 F.id, .i .i64 (11 : Nat)]) (Hc := []) rfl rfl (of_spec F.id 11 hi (by omega) (by omega)) ?_
      rintro r H ⟨rfl, rfl⟩
      refine ⟨.inl rfl, ?_⟩
      conv => whnf
      refine ACall.frame [] [] rfl (args' := [.b F.rtr]) (Hc := []) rfl rfl (level_spec F.rtr) ?_
      rintro r H ⟨rfl, rfl⟩
      refine ⟨.inl rfl, ?_⟩
      conv => whnf
      refine ⟨by dsimp only; rw [subs_nums, nums_length, ofI_length]; omega, ?_⟩
      conv => whnf
      refine ⟨by show 2 ≤ (2 : Nat); omega, ?_⟩
      conv => whnf
      refine ⟨rfl, by (try dsimp only); omega, by (try dsimp only); omega, fun c hc => ?_⟩
      conv => whnf
      have hrow : F.row = ofI F.id 11 ++ [F.rt, 0] := by rw [Fr.row, he]; rfl
      have hl : F.row.length = 13 := by rw [hrow, List.length_append, ofI_length]; rfl
      refine GhR.sel [3] rfl (GhR.of (.inr ⟨hm, c, by omega, ?_, ?_⟩))
      · rw [hl]; rfl
      · show [Blk.c (subs _ (List.take (11 * 1) (List.drop 0 (subs _ (ints (ofI F.id 11)))) ++ ints [F.rt, 0]))] = _
        rw [subs_nums, List.drop_zero, List.take_of_length_le (l := ints _) (by rw [nums_length, ofI_length]; omega), ← nums_append, subs_nums, hrow]
    · conv => whnf
      rw [he] at hi2
      simp only [if_true] at hi2
      rw [wu64 hi (by omega)]
      refine ⟨by omega, ?_⟩
      conv => whnf
      have hsh : F.id.fdiv (2 ^ min (Int.toNat 18) IntKind.u64.bits) = F.id / 2 ^ 18 := shr_nat F.id 18 (by omega)
      rw [hsh]
      have hd : F.id / 2 ^ 18 = F.id / 262144 := rfl
      refine ACall.frame [] [] rfl (args' := [.i .u64 (F.id / 2 ^ 18), .i .i64 (11 : Nat)]) (Hc := []) rfl rfl (of_spec (F.id / 2 ^ 18) 11 (by omega) (by omega) (by omega)) ?_
      rintro r H ⟨rfl, rfl⟩
      refine ⟨.inl rfl, ?_⟩
      conv => whnf
      rw [wu64 hi (by omega)]
      refine ACall.frame [] [] rfl (args' := [.i .u64 F.id, .i .i64 (18 : Nat)]) (Hc := []) rfl rfl (of_spec F.id 18 hi (by omega) (by omega)) ?_
      rintro r H ⟨rfl, rfl⟩
      refine ⟨.inl rfl, ?_⟩
      conv => whnf
      refine ACall.frame [] [] rfl (args' := [.b F.rtr]) (Hc := []) rfl rfl (level_spec F.rtr) ?_
      rintro r H ⟨rfl, rfl⟩
      refine ⟨.inl rfl, ?_⟩
      conv => whnf
      have hl1 := ofI_length 11 (F.id / 2 ^ 18)
      have hl2 := ofI_length 18 F.id
      have hrow : F.row = [ofI (F.id / 2 ^ 18) 11, [1, 1], ofI F.id 18, [F.rt]].flatten := by rw [Fr.row, he]; simp
      have hl : F.row.length = 32 := by rw [hrow]; simp only [List.flatten_cons, List.flatten_nil, List.length_append, hl1, hl2, List.length_cons, List.length_nil]
      refine ACall.frame [] [5, 1, 3, 2, 4] rfl (args' := [.rs (rowsAV [ofI (F.id / 2 ^ 18) 11, [1, 1], ofI F.id 18, [F.rt]]) 0 1 4]) (Hc := []) ?_ rfl
        (concat_spec [ofI (F.id / 2 ^ 18) 11, [1, 1], ofI F.id 18, [F.rt]] (by rw [← hrow, hl]; omega) (by rw [← hrow, hl]; omega) (by show 4 ≤ _; omega)) ?_
      · simp only [rowsAV, rowAV, List.map_cons, List.map_nil, hl1, hl2]
        show [AV.rs [.rs (subs _ (subs _ (ints (ofI (F.id / 2 ^ 18) 11)))) 0 1 11, .rs (ints [1, 1]) 0 1 2, .rs (subs _ (subs _ (ints (ofI F.id 18)))) 0 1 18, .rs (ints [F.rt]) 0 1 1] 0 1 4] = _
        simp only [subs_nums]
        rfl
      rintro r H ⟨c, hc, rfl, rfl⟩
      rw [← hrow] at hc ⊢
      refine ⟨.inr ⟨rfl, by simp [nroH, nroB, nros_nums]⟩, ?_⟩
      conv => whnf
      refine GhR.sel [6] rfl (GhR.of (.inr ⟨hm, c, by omega, rfl, ?_⟩))
      show [Blk.c (subs _ (subs _ (ints F.row)))] = _
      rw [subs_nums, subs_nums]
  · rw [Fr.bad hm]
    conv => whnf
    refine GhR.sel [] rfl (GhR.of (.inl ⟨hm, rfl, rfl⟩))
end Go.AK
namespace Go.AK
open Go Go.RowKit Go.Proofs
set_option linter.unusedVariables false
set_option maxRecDepth 100000
theorem VLe.nilrow {z : Nat} {xs ys : List AV} (h : VLe xs ys) : VLe (.sl none z 0 0 :: xs) (.rs (ints []) 0 1 0 :: ys) := by
  rintro E vs ⟨v, vs', h1, h2, h3⟩
  exact ⟨v, vs', h1, .inl ⟨rfl, none, 0, h2.2.2⟩, h E _ h3⟩
def cmpI (a b : Int) : Int := if a < b then -1 else if a > b then 1 else 0
def cmpL : List Int → List Int → Int
  | [], [] => 0
  | [], _ :: _ => -1
  | _ :: _, [] => 1
  | a :: L, b :: M => if cmpI a b = 0 then cmpL L M else cmpI a b
theorem cmpL_nil (M : List Int) : cmpL [] M = if M.length = 0 then 0 else -1 := by cases M <;> rfl
theorem isNaN_spec (a : Int) : ACall Try.prog 87 [.i .i64 a] [] fun r H => r = .ret (.b false) ∧ H = [] := by
  refine ACall.enter tok false Try.func87 rfl rfl rfl (AW_sound (ip := false) tok _ _ _ _ ?_)
  conv => whnf
  refine ⟨?_, rfl⟩
  simp [bne]
theorem cmp_spec (a b : Int) : ACall Try.prog 75 [.i .i64 a, .i .i64 b] [] fun r H => r = .ret (.i .i64 (cmpI a b)) ∧ H = [] := by
  refine ACall.enter tok false Try.func75 rfl rfl rfl (AW_sound (ip := false) tok _ _ _ _ ?_)
  conv => whnf
  refine ACall.mono (isNaN_spec a) ?_; rintro r H ⟨rfl, rfl⟩
  conv => whnf
  refine ACall.mono (isNaN_spec b) ?_; rintro r H ⟨rfl, rfl⟩
  conv => whnf
  unfold cmpI
  by_cases h : a < b
  · rw [decide_eq_true h, if_pos h]
    conv => whnf
    exact ⟨rfl, rfl⟩
  · rw [decide_eq_false h, if_neg h]
    conv => whnf
    by_cases h : a > b
    · rw [decide_eq_true h, if_pos h]
      conv => whnf
      exact ⟨rfl, rfl⟩
    · rw [decide_eq_false h, if_neg h]
      conv => whnf
      exact ⟨rfl, rfl⟩
theorem compareL_spec (L M : List Int) (hL : L.length < 1000000) (hM : M.length < 1000000) :
    ACall Try.prog 66 [.rs (ints L) 0 1 L.length, .rs (ints M) 0 1 M.length] [] fun r H => r = .ret (.i .i64 (cmpL L M)) ∧ H = [] := by
  refine ACall.enter tok false Try.func66 rfl rfl rfl (AW_sound (ip := false) tok _ _ _ _ ?_)
  conv => whnf
  refine ALoop.ind (ip := false) tok (fun m r H => ∃ (k : Nat), k ≤ L.length ∧ k ≤ M.length ∧ m = L.length - k ∧ cmpL L M = cmpL (L.drop k) (M.drop k) ∧ H = [] ∧
    r = [(11, .i .i64 k), (10, .i .i64 L.length), (9, .rs (ints L) 0 1 L.length), (0, .rs (ints L) 0 1 L.length), (1, .rs (ints M) 0 1 M.length), (4, .i .i64 0)]) L.length ?_ ?_
  · exact Gh.regs [11, 10, 9, 0, 1, 4] (Gh.of ⟨0, by omega, by omega, by omega, rfl, rfl, rfl⟩)
  · rintro m r H ⟨k, hk, hk2, rfl, hc, rfl, rfl⟩
    conv => whnf
    by_cases h : (k : Int) < L.length
    · rw [decide_eq_true h]
      conv => whnf
      refine ⟨⟨by omega, h⟩, ?_⟩
      conv => whnf
      rw [show (0 + (k : Int).toNat * 1) = k from by omega]
      refine aget_nums (by omega) ?_
      conv => whnf
      have hkl : k < L.length := by omega
      rw [List.drop_eq_getElem_cons hkl] at hc
      by_cases h2 : (k : Int) ≥ M.length
      · rw [decide_eq_true h2]
        conv => whnf
        have : k = M.length := by omega
        subst this
        rw [hc, List.drop_length]
        exact ⟨rfl, rfl⟩
      · rw [decide_eq_false h2]
        conv => whnf
        refine ⟨⟨by omega, by omega⟩, ?_⟩
        conv => whnf
        rw [show (0 + (k : Int).toNat * 1) = k from by omega]
        have hkm : k < M.length := by omega
        rw [List.drop_eq_getElem_cons hkm, cmpL] at hc
        refine aget_nums (by omega) ?_
        conv => whnf
        refine ACall.mono (cmp_spec _ _) ?_; rintro r H ⟨rfl, rfl⟩
        conv => whnf
        by_cases h3 : cmpI L[k] M[k] = 0
        · rw [if_pos h3] at hc
          rw [show (cmpI L[k] M[k] != 0) = false from by rw [h3]; rfl]
          conv => whnf
          rw [w64 (by omega) (by omega)]
          refine Gh.regs [11, 10, 9, 0, 1, 4] (Gh.of ⟨_, ?_, k + 1, by omega, by omega, rfl, hc, rfl, rfl⟩)
          omega
        · rw [if_neg h3] at hc
          rw [show (cmpI L[k] M[k] != 0) = true from bne_iff_ne.2 h3]
          conv => whnf
          rw [hc]
          exact ⟨rfl, rfl⟩
    · rw [decide_eq_false h]
      conv => whnf
      have : k = L.length := by omega
      subst this
      rw [hc, List.drop_length, cmpL_nil, List.length_drop]
      by_cases h2 : (L.length : Int) < M.length
      · rw [decide_eq_true h2, if_neg (by omega)]
        conv => whnf
        exact ⟨rfl, rfl⟩
      · rw [decide_eq_false h2, if_pos (by omega)]
        conv => whnf
        exact ⟨rfl, rfl⟩
def Fr.rw (F : Fr) : List Int := if F.may then F.row else []
theorem Fr.row_le (F : Fr) : F.row.length ≤ 32 := by
  unfold Fr.row
  split <;> simp [ofI_length]
theorem Fr.rw_le (F : Fr) : F.rw.length ≤ 32 := by
  unfold Fr.rw
  split
  · exact F.row_le
  · simp
def frcmp (F G : Fr) : Int := cmpL F.rw G.rw
theorem comp_spec (F G : Fr) (hF : F.ok) (hG : G.ok) : ACall Try.prog 50 [F.av, G.av] [] fun r H => r = .ret (.tup [.i .i64 (frcmp F G), .b (decide (F.may ∧ G.may))]) ∧ H = [] := by
  refine ACall.gh ?_
  refine ACall.enter tok false Try.func50 rfl rfl rfl (AW_sound (ip := false) tok _ _ _ _ ?_)
  conv => whnf
  have hf : F.may → F.rw = F.row := fun h => if_pos h
  have hf' : ¬F.may → F.rw = [] := fun h => if_neg h
  have hg : G.may → G.rw = G.row := fun h => if_pos h
  have hg' : ¬G.may → G.rw = [] := fun h => if_neg h
  refine ACall.frame [] [] rfl (args' := [F.av]) (Hc := []) rfl rfl (arb_spec F hF) ?_
  rintro r H (⟨hm, rfl, rfl⟩ | ⟨hm, c, hc, rfl, rfl⟩)
  · refine ⟨.inl rfl, ?_⟩
    conv => whnf
    refine ACall.frame [] [] rfl (args' := [G.av]) (Hc := []) rfl rfl (arb_spec G hG) ?_
    rintro r H (⟨hn, rfl, rfl⟩ | ⟨hn, d, hd, rfl, rfl⟩)
    · refine ⟨.inl rfl, ?_⟩
      conv => whnf
      refine ACall.frame [] [] rfl (args' := [.sl none 0 0 0, .sl none 0 0 0]) (Hc := []) ?_ rfl (ACall.args (compareL_spec [] [] (by simp) (by simp)) (VLe.nilrow (VLe.nilrow VLe.nil))) ?_
      · rfl
      rintro r H ⟨rfl, rfl⟩
      refine ⟨.inr ⟨rfl, rfl⟩, ?_⟩
      conv => whnf
      refine GhR.sel [] rfl (GhR.of ⟨?_, rfl⟩)
      rw [frcmp, hf' hm, hg' hn, decide_eq_false (by exact fun h => hm h.1)]
      rfl
    · refine ⟨.inl rfl, ?_⟩
      conv => whnf
      refine ACall.frame [] [2] rfl (args' := [.sl none 0 0 0, .rs (ints G.row) 0 1 G.row.length]) (Hc := []) ?_ rfl (ACall.args (compareL_spec [] G.row (by simp) (by have := G.row_le; omega)) (VLe.nilrow (VLe.cons VLe.nil))) ?_
      · show [AV.sl none 0 0 0, .rs (subs _ (subs _ (ints G.row))) 0 1 G.row.length] = _
        simp only [subs_nums]
      rintro r H ⟨rfl, rfl⟩
      refine ⟨.inr ⟨rfl, rfl⟩, ?_⟩
      conv => whnf
      refine GhR.sel [] rfl (GhR.of ⟨?_, rfl⟩)
      rw [frcmp, hf' hm, hg hn, decide_eq_false (by exact fun h => hm h.1)]
      rfl
  · refine ⟨.inl rfl, ?_⟩
    conv => whnf
    refine ACall.frame [] [] rfl (args' := [G.av]) (Hc := []) rfl rfl (arb_spec G hG) ?_
    rintro r H (⟨hn, rfl, rfl⟩ | ⟨hn, d, hd, rfl, rfl⟩)
    · refine ⟨.inl rfl, ?_⟩
      conv => whnf
      refine ACall.frame [] [2] rfl (args' := [.rs (ints F.row) 0 1 F.row.length, .sl none 0 0 0]) (Hc := []) ?_ rfl (ACall.args (compareL_spec F.row [] (by have := F.row_le; omega) (by simp)) (VLe.cons (VLe.nilrow VLe.nil))) ?_
      · show [AV.rs (subs _ (subs _ (ints F.row))) 0 1 F.row.length, .sl none 0 0 0] = _
        simp only [subs_nums]
      rintro r H ⟨rfl, rfl⟩
      refine ⟨.inr ⟨rfl, rfl⟩, ?_⟩
      conv => whnf
      refine GhR.sel [] rfl (GhR.of ⟨?_, rfl⟩)
      rw [frcmp, hf hm, hg' hn, decide_eq_false (by exact fun h => hn h.2)]
      rfl
    · refine ⟨.inl rfl, ?_⟩
      conv => whnf
      refine ACall.frame [] [2, 3] rfl (args' := [.rs (ints F.row) 0 1 F.row.length, .rs (ints G.row) 0 1 G.row.length]) (Hc := []) ?_ rfl (ACall.args (compareL_spec F.row G.row (by have := F.row_le; omega) (by have := G.row_le; omega)) (VLe.cons (VLe.cons VLe.nil))) ?_
      · show [AV.rs (subs _ (subs _ (ints F.row))) 0 1 F.row.length, .rs (subs _ (subs _ (ints G.row))) 0 1 G.row.length] = _
        simp only [subs_nums]
      rintro r H ⟨rfl, rfl⟩
      refine ⟨.inr ⟨rfl, rfl⟩, ?_⟩
      conv => whnf
      refine GhR.sel [] rfl (GhR.of ⟨?_, rfl⟩)
      rw [frcmp, hf hm, hg hn, decide_eq_true (by exact ⟨hm, hn⟩)]
      rfl
def Fr.less (F G : Fr) : Bool := decide (F.may ∧ G.may) && decide (frcmp F G < 0)
def Fr.rival (F G : Fr) : Bool := decide (F.may ∧ G.may) && decide (frcmp F G = 0)
theorem less_spec (F G : Fr) (hF : F.ok) (hG : G.ok) : ACall Try.prog 27 [F.av, G.av] [] fun r H => r = .ret (.b (F.less G)) ∧ H = [] := by
  refine ACall.gh ?_
  refine ACall.enter tok false Try.func27 rfl rfl rfl (AW_sound (ip := false) tok _ _ _ _ ?_)
  conv => whnf
  refine ACall.frame [] [] rfl (args' := [F.av, G.av]) (Hc := []) rfl rfl (comp_spec F G hF hG) ?_
  rintro r H ⟨rfl, rfl⟩
  refine ⟨.inl rfl, ?_⟩
  conv => whnf
  unfold Fr.less
  cases hm : decide (F.may ∧ G.may)
  · conv => whnf
    exact GhR.sel [] rfl (GhR.of ⟨rfl, rfl⟩)
  · conv => whnf
    exact GhR.sel [] rfl (GhR.of ⟨rfl, rfl⟩)
theorem rival_spec (F G : Fr) (hF : F.ok) (hG : G.ok) : ACall Try.prog 29 [F.av, G.av] [] fun r H => r = .ret (.b (F.rival G)) ∧ H = [] := by
  refine ACall.gh ?_
  refine ACall.enter tok false Try.func29 rfl rfl rfl (AW_sound (ip := false) tok _ _ _ _ ?_)
  conv => whnf
  refine ACall.frame [] [] rfl (args' := [F.av, G.av]) (Hc := []) rfl rfl (comp_spec F G hF hG) ?_
  rintro r H ⟨rfl, rfl⟩
  refine ⟨.inl rfl, ?_⟩
  conv => whnf
  unfold Fr.rival
  cases hm : decide (F.may ∧ G.may)
  · conv => whnf
    exact GhR.sel [] rfl (GhR.of ⟨rfl, rfl⟩)
  · conv => whnf
    exact GhR.sel [] rfl (GhR.of ⟨rfl, rfl⟩)
end Go.AK
namespace Go.AK
open Go Go.RowKit Go.Proofs
set_option linter.unusedVariables false
set_option maxRecDepth 100000
def frs : List Fr → List AV
  | [] => []
  | F :: L => F.cells ++ frs L
theorem frs_length : ∀ (L : List Fr), (frs L).length = L.length * 12
  | [] => rfl
  | F :: L => by rw [frs, List.length_append, frs_length L, List.length_cons]; show 12 + _ = _; omega
theorem frs_append : ∀ (L M : List Fr), frs (L ++ M) = frs L ++ frs M
  | [], M => rfl
  | F :: L, M => by rw [List.cons_append, frs, frs, frs_append L M, List.append_assoc]
theorem frs_drop : ∀ (L : List Fr) (k : Nat), (frs L).drop (k * 12) = frs (L.drop k)
  | L, 0 => by simp
  | [], k + 1 => by simp [frs]
  | F :: L, k + 1 => by
    rw [List.drop_succ_cons, ← frs_drop L k, frs, show (k + 1) * 12 = 12 + k * 12 from by omega, ← List.drop_drop]
    rfl
theorem frs_take (L : List Fr) (k : Nat) : (frs L).take (k * 12) = frs (L.take k) := by
  by_cases h : k ≤ L.length
  · have h1 : (frs (L.take k)).length = k * 12 := by rw [frs_length, List.length_take]; omega
    have h2 := frs_append (L.take k) (L.drop k)
    rw [List.take_append_drop] at h2
    rw [h2, ← h1, List.take_left]
  · rw [List.take_of_length_le (by rw [frs_length]; omega), List.take_of_length_le (by omega)]
theorem subs_frs (φ : Nat → Sb) : ∀ (L : List Fr), subs φ (frs L) = frs L
  | [] => rfl
  | F :: L => by
    have := subs_frs φ L
    show (.i .i64 F.id :: .b F.ext :: .b F.rtr :: .i .i64 F.len :: .i .u8 F.b0 :: .i .u8 F.b1 :: .i .u8 F.b2 :: .i .u8 F.b3 :: .i .u8 F.b4 :: .i .u8 F.b5 :: .i .u8 F.b6 :: .i .u8 F.b7 :: subs φ (frs L)) = _
    rw [this]; rfl
theorem ones_frs : ∀ (L : List Fr), ones (frs L) = true
  | [] => rfl
  | F :: L => ones_frs L
theorem nros_frs : ∀ (L : List Fr), nros (frs L) = true
  | [] => rfl
  | F :: L => nros_frs L
theorem frs_get {L : List Fr} {k : Nat} (hk : k < L.length) {j : Nat} (hj : j < 12) : (frs L)[k * 12 + j]? = L[k].cells[j]? := by
  rw [← List.getElem?_drop, frs_drop, List.drop_eq_getElem_cons hk, frs, List.getElem?_append_left (by exact hj)]
theorem aget_fr {L : List Fr} {k o : Nat} (ho : o = k * 12) (hk : k < L.length) {K : AV → AV → AV → AV → AV → AV → AV → AV → AV → AV → AV → AV → Prop} (h : K (.i .i64 L[k].id) (.b L[k].ext) (.b L[k].rtr) (.i .i64 L[k].len) (.i .u8 L[k].b0) (.i .u8 L[k].b1) (.i .u8 L[k].b2) (.i .u8 L[k].b3) (.i .u8 L[k].b4) (.i .u8 L[k].b5) (.i .u8 L[k].b6) (.i .u8 L[k].b7)) :
    aget (frs L) o fun v0 => aget (frs L) (o + 1) fun v1 => aget (frs L) ((o + 1) + 1) fun v2 => aget (frs L) (((o + 1) + 1) + 1) fun v3 => aget (frs L) ((((o + 1) + 1) + 1) + 1) fun v4 => aget (frs L) (((((o + 1) + 1) + 1) + 1) + 1) fun v5 => aget (frs L) ((((((o + 1) + 1) + 1) + 1) + 1) + 1) fun v6 => aget (frs L) (((((((o + 1) + 1) + 1) + 1) + 1) + 1) + 1) fun v7 => aget (frs L) ((((((((o + 1) + 1) + 1) + 1) + 1) + 1) + 1) + 1) fun v8 => aget (frs L) (((((((((o + 1) + 1) + 1) + 1) + 1) + 1) + 1) + 1) + 1) fun v9 => aget (frs L) ((((((((((o + 1) + 1) + 1) + 1) + 1) + 1) + 1) + 1) + 1) + 1) fun v10 => aget (frs L) (((((((((((o + 1) + 1) + 1) + 1) + 1) + 1) + 1) + 1) + 1) + 1) + 1) fun v11 => K v0 v1 v2 v3 v4 v5 v6 v7 v8 v9 v10 v11 := by
  subst ho
  have g : ∀ j (v : AV), j < 12 → L[k].cells[j]? = some v → (frs L)[k * 12 + j]? = some v := fun j v hj h => by rw [frs_get hk hj, h]
  unfold aget
  rw [show (frs L)[k * 12]? = some (.i .i64 L[k].id) from g 0 _ (by omega) rfl]
  dsimp only
  rw [show (frs L)[(k * 12 + 1)]? = some (.b L[k].ext) from g 1 _ (by omega) rfl]
  dsimp only
  rw [show (frs L)[((k * 12 + 1) + 1)]? = some (.b L[k].rtr) from g 2 _ (by omega) rfl]
  dsimp only
  rw [show (frs L)[(((k * 12 + 1) + 1) + 1)]? = some (.i .i64 L[k].len) from g 3 _ (by omega) rfl]
  dsimp only
  rw [show (frs L)[((((k * 12 + 1) + 1) + 1) + 1)]? = some (.i .u8 L[k].b0) from g 4 _ (by omega) rfl]
  dsimp only
  rw [show (frs L)[(((((k * 12 + 1) + 1) + 1) + 1) + 1)]? = some (.i .u8 L[k].b1) from g 5 _ (by omega) rfl]
  dsimp only
  rw [show (frs L)[((((((k * 12 + 1) + 1) + 1) + 1) + 1) + 1)]? = some (.i .u8 L[k].b2) from g 6 _ (by omega) rfl]
  dsimp only
  rw [show (frs L)[(((((((k * 12 + 1) + 1) + 1) + 1) + 1) + 1) + 1)]? = some (.i .u8 L[k].b3) from g 7 _ (by omega) rfl]
  dsimp only
  rw [show (frs L)[((((((((k * 12 + 1) + 1) + 1) + 1) + 1) + 1) + 1) + 1)]? = some (.i .u8 L[k].b4) from g 8 _ (by omega) rfl]
  dsimp only
  rw [show (frs L)[(((((((((k * 12 + 1) + 1) + 1) + 1) + 1) + 1) + 1) + 1) + 1)]? = some (.i .u8 L[k].b5) from g 9 _ (by omega) rfl]
  dsimp only
  rw [show (frs L)[((((((((((k * 12 + 1) + 1) + 1) + 1) + 1) + 1) + 1) + 1) + 1) + 1)]? = some (.i .u8 L[k].b6) from g 10 _ (by omega) rfl]
  dsimp only
  rw [show (frs L)[(((((((((((k * 12 + 1) + 1) + 1) + 1) + 1) + 1) + 1) + 1) + 1) + 1) + 1)]? = some (.i .u8 L[k].b7) from g 11 _ (by omega) rfl]
  exact h
/-- The place of the first of a row that is such a one; -1: none is. -/
def IsIdx {α : Type} (p : α → Bool) (L : List α) (v : Int) : Prop :=
  (∃ k, ∃ h : k < L.length, v = k ∧ p L[k] = true ∧ ∀ j (h : j < L.length), j < k → p L[j] = false) ∨ (v = -1 ∧ ∀ F ∈ L, p F = false)
theorem idx_none {α : Type} {p : α → Bool} {L : List α} (h : ∀ j (h : j < L.length), j < L.length → p L[j] = false) : IsIdx p L (-1) :=
  .inr ⟨rfl, fun F hF => by
    obtain ⟨j, hj, rfl⟩ := List.mem_iff_getElem.1 hF
    exact h j hj hj⟩
theorem IsIdx.pos {α : Type} {p : α → Bool} {L : List α} {v : Int} (h : IsIdx p L v) : 0 ≤ v ↔ ∃ x ∈ L, p x = true := by
  rcases h with ⟨k, h1, rfl, h2, h3⟩ | ⟨rfl, h1⟩
  · exact ⟨fun _ => ⟨_, List.getElem_mem h1, h2⟩, fun _ => by omega⟩
  · refine ⟨fun h => by omega, fun ⟨x, h2, h3⟩ => ?_⟩
    rw [h1 x h2] at h3; cases h3
theorem index_spec (L : List Int) (x : Int) (hL : L.length < 1000000000) : ACall Try.prog 67 [.rs (ints L) 0 1 L.length, .i .i64 x] [] fun r H => ∃ v, IsIdx (fun y => x == y) L v ∧ r = .ret (.i .i64 v) ∧ H = [] := by
  refine ACall.enter tok false Try.func67 rfl rfl rfl (AW_sound (ip := false) tok _ _ _ _ ?_)
  conv => whnf
  refine ALoop.ind (ip := false) tok (fun m r H => ∃ (k : Nat), k ≤ L.length ∧ m = L.length - k ∧ (∀ j (h : j < L.length), j < k → (x == L[j]) = false) ∧ H = [] ∧
    r = [(8, .i .i64 k), (7, .i .i64 L.length), (0, .rs (ints L) 0 1 L.length), (1, .i .i64 x), (4, .i .i64 0)]) L.length ?_ ?_
  · exact Gh.regs [8, 7, 0, 1, 4] (Gh.of ⟨0, by omega, by omega, fun j _ h => by omega, rfl, rfl⟩)
  · rintro m r H ⟨k, hk, rfl, hn, rfl, rfl⟩
    conv => whnf
    by_cases h : (k : Int) < L.length
    · rw [decide_eq_true h]
      conv => whnf
      refine ⟨⟨by omega, h⟩, ?_⟩
      conv => whnf
      rw [show (0 + (k : Int).toNat * 1) = k from by omega]
      refine aget_nums (by omega) ?_
      conv => whnf
      cases he : x == L[k]'(by omega)
      · conv => whnf
        rw [w64 (by omega) (by omega)]
        refine Gh.regs [8, 7, 0, 1, 4] (Gh.of ⟨_, ?_, k + 1, by omega, rfl, ?_, rfl, rfl⟩)
        · omega
        · intro j hj hj2
          by_cases e : j = k
          · subst e; exact he
          · exact hn j hj (by omega)
      · conv => whnf
        exact ⟨_, .inl ⟨k, by omega, rfl, he, hn⟩, rfl, rfl⟩
    · rw [decide_eq_false h]
      conv => whnf
      have : k = L.length := by omega
      subst this
      exact ⟨_, idx_none hn, rfl, rfl⟩
theorem contains_spec (L : List Int) (x : Int) (hL : L.length < 1000000000) : ACall Try.prog 52 [.rs (ints L) 0 1 L.length, .i .i64 x] [] fun r H => r = .ret (.b (decide (x ∈ L))) ∧ H = [] := by
  refine ACall.enter tok false Try.func52 rfl rfl rfl (AW_sound (ip := false) tok _ _ _ _ ?_)
  conv => whnf
  refine ACall.mono (index_spec L x hL) ?_; rintro r H ⟨v, hv, rfl, rfl⟩
  conv => whnf
  refine ⟨?_, rfl⟩
  have := hv.pos
  have e : (v ≥ 0) ↔ x ∈ L := by
    show 0 ≤ v ↔ _
    rw [this]
    constructor
    · rintro ⟨y, h1, h2⟩; rw [beq_iff_eq.1 h2]; exact h1
    · intro h; exact ⟨x, h, beq_self_eq_true x⟩
  simp only [decide_eq_decide.2 e]
end Go.AK
namespace Go.AK
open Go Go.RowKit Go.Proofs
set_option linter.unusedVariables false
set_option maxRecDepth 100000
def kindsF : List (Option IntKind) := [some .i64, none, none, some .i64, some .u8, some .u8, some .u8, some .u8, some .u8, some .u8, some .u8, some .u8]
theorem bytes_eq (a0 a1 a2 a3 a4 a5 a6 a7 b0 b1 b2 b3 b4 b5 b6 b7 : Int) (w : World) : (Op.equalIn 9999 23 (.agg #[.int .u8 a0, .int .u8 a1, .int .u8 a2, .int .u8 a3, .int .u8 a4, .int .u8 a5, .int .u8 a6, .int .u8 a7])
    (.agg #[.int .u8 b0, .int .u8 b1, .int .u8 b2, .int .u8 b3, .int .u8 b4, .int .u8 b5, .int .u8 b6, .int .u8 b7])).run Try.prog w = .ok ((a0 == b0) && ((a1 == b1) && ((a2 == b2) && ((a3 == b3) && ((a4 == b4) && ((a5 == b5) && ((a6 == b6) && ((a7 == b7) && true)))))))) w := by
  have ht : tiOf T 5 = some _ := rfl
  refine eqi_of (n := 8) (e := 5) (c := 1) (by kernel_rfl) (by kernel_rfl) (by kernel_rfl) ?_
  show (Op.eqItems 9998 _ _ _ _ [0, 1, 2, 3, 4, 5, 6, 7]).run _ w = _
  exact eqi_cons (part_cell tok ht rfl rfl w) (part_cell tok ht rfl rfl w) (eq_int tok ht rfl _ _ _ w) <|
    eqi_cons (part_cell tok ht rfl rfl w) (part_cell tok ht rfl rfl w) (eq_int tok ht rfl _ _ _ w) <|
    eqi_cons (part_cell tok ht rfl rfl w) (part_cell tok ht rfl rfl w) (eq_int tok ht rfl _ _ _ w) <|
    eqi_cons (part_cell tok ht rfl rfl w) (part_cell tok ht rfl rfl w) (eq_int tok ht rfl _ _ _ w) <|
    eqi_cons (part_cell tok ht rfl rfl w) (part_cell tok ht rfl rfl w) (eq_int tok ht rfl _ _ _ w) <|
    eqi_cons (part_cell tok ht rfl rfl w) (part_cell tok ht rfl rfl w) (eq_int tok ht rfl _ _ _ w) <|
    eqi_cons (part_cell tok ht rfl rfl w) (part_cell tok ht rfl rfl w) (eq_int tok ht rfl _ _ _ w) <|
    eqi_cons (part_cell tok ht rfl rfl w) (part_cell tok ht rfl rfl w) (eq_int tok ht rfl _ _ _ w) eqi_nil
theorem kindsF_open {xs : Array Value} (h : kindsOf kindsF xs.toList) : ∃ a b c d e0 e1 e2 e3 e4 e5 e6 e7, xs = #[.int .i64 a, .bool b, .bool c, .int .i64 d, .int .u8 e0, .int .u8 e1, .int .u8 e2, .int .u8 e3, .int .u8 e4, .int .u8 e5, .int .u8 e6, .int .u8 e7] := by
  obtain ⟨_, _, h0, ⟨a, rfl⟩, _, _, rfl, ⟨b, rfl⟩, _, _, rfl, ⟨c, rfl⟩, _, _, rfl, ⟨d, rfl⟩, _, _, rfl, ⟨e0, rfl⟩, _, _, rfl, ⟨e1, rfl⟩, _, _, rfl, ⟨e2, rfl⟩, _, _, rfl, ⟨e3, rfl⟩, _, _, rfl, ⟨e4, rfl⟩, _, _, rfl, ⟨e5, rfl⟩, _, _, rfl, ⟨e6, rfl⟩, _, _, rfl, ⟨e7, rfl⟩, rfl⟩ := h
  exact ⟨a, b, c, d, e0, e1, e2, e3, e4, e5, e6, e7, by rw [← Array.toList_inj]; exact h0⟩
theorem flatFrame : flatEq Try.prog 25 kindsF := by
  intro xs ys w r hx hy hr
  obtain ⟨a, b, c, d, e0, e1, e2, e3, e4, e5, e6, e7, rfl⟩ := kindsF_open hx
  obtain ⟨a', b', c', d', f0, f1, f2, f3, f4, f5, f6, f7, rfl⟩ := kindsF_open hy
  have hr := cells_iff (by simp) hr
  have hr2 : r = ((a == a') && ((b == b') && ((c == c') && ((d == d') && (((e0 == f0) && ((e1 == f1) && ((e2 == f2) && ((e3 == f3) && ((e4 == f4) && ((e5 == f5) && ((e6 == f6) && ((e7 == f7) && true)))))))) && true))))) := by
    rw [Bool.eq_iff_iff, hr]
    simp
  have h0 : tiOf T 3 = some _ := rfl
  have h1 : tiOf T 4 = some _ := rfl
  have h2 : tiOf T 23 = some _ := rfl
  constructor
  · rw [run_equalIn_struct w 9999 25 _ _ (by kernel_rfl) (by kernel_rfl), hr2]
    exact eqf_cons (by decide) (part_cell tok h0 rfl rfl w) (part_cell tok h0 rfl rfl w) (eq_int tok h0 rfl _ _ _ w) <|
      eqf_cons (by decide) (part_cell tok h1 rfl rfl w) (part_cell tok h1 rfl rfl w) (eq_bool tok h1 rfl _ _ _ w) <|
      eqf_cons (by decide) (part_cell tok h1 rfl rfl w) (part_cell tok h1 rfl rfl w) (eq_bool tok h1 rfl _ _ _ w) <|
      eqf_cons (by decide) (part_cell tok h0 rfl rfl w) (part_cell tok h0 rfl rfl w) (eq_int tok h0 rfl _ _ _ w) <|
      eqf_cons (by decide) (part_agg tok h2 rfl w) (part_agg tok h2 rfl w) (bytes_eq _ _ _ _ _ _ _ _ _ _ _ _ _ _ _ _ w) eqf_nil
  · intro op x y
    exact run_eqGuard_agg w op 25 x y _ _ (by kernel_rfl)
end Go.AK
namespace Go.AK
open Go Go.RowKit Go.Proofs
set_option linter.unusedVariables false
set_option maxRecDepth 100000
theorem wired_spec (L : List Int) (hL : L.length < 1000000000) : ACall Try.prog 32 [.rs (ints L) 0 1 L.length] [] fun r H => r = .ret (.i .i64 (if (0 : Int) ∈ L then 0 else 1)) ∧ H = [] := by
  refine ACall.enter tok false Try.func32 rfl rfl rfl (AW_sound (ip := false) tok _ _ _ _ ?_)
  conv => whnf
  refine ACall.mono (contains_spec L 0 hL) ?_; rintro r H ⟨rfl, rfl⟩
  conv => whnf
  by_cases h : (0 : Int) ∈ L
  · rw [decide_eq_true h, if_pos h]
    conv => whnf
    exact ⟨rfl, rfl⟩
  · rw [decide_eq_false h, if_neg h]
    conv => whnf
    exact ⟨rfl, rfl⟩
/-- A function value that tells of each frame whether it is such a one. -/
def Tells (f : Nat) (cap : List AV) (H : Heap) (p : Fr → Bool) : Prop := ∀ F : Fr, F.ok → ACall Try.prog f (F.av :: cap) H fun r H' => r = .ret (.b (p F)) ∧ H' = H
theorem rivalFn_spec (F : Fr) (hF : F.ok) : Tells 69 [.p (some (0, 0))] [.c F.cells] (fun G => F.rival G) := fun G hG => by
  refine ACall.gh ?_
  refine ACall.enter tok false Try.func69 rfl rfl rfl (AW_sound (ip := false) tok _ _ _ _ ?_)
  conv => whnf
  refine ACall.frame [] [] rfl (args' := [F.av, G.av]) (Hc := []) rfl rfl (rival_spec F G hF hG) ?_
  rintro r H ⟨rfl, rfl⟩
  refine ⟨.inl rfl, ?_⟩
  conv => whnf
  exact GhR.sel [0] rfl (GhR.of ⟨rfl, rfl⟩)
theorem indexFunc_spec (L : List Fr) (hL : L.length < 1000000000) (hok : ∀ F ∈ L, F.ok) (f : Nat) (cap : List AV) (H : Heap) (p : Fr → Bool) (ht : Tells f cap H p) :
    ACall Try.prog 64 [.rs (frs L) 0 12 L.length, .fn (.func f) [] cap] H fun r H' => ∃ v, IsIdx p L v ∧ r = .ret (.i .i64 v) ∧ H' = H := by
  refine ACall.enter tok false Try.func64 rfl rfl rfl (AW_sound (ip := false) tok _ _ _ _ ?_)
  conv => whnf
  refine ALoop.ind (ip := false) tok (fun m r H' => ∃ (k : Nat), k ≤ L.length ∧ m = L.length - k ∧ (∀ j (h : j < L.length), j < k → p L[j] = false) ∧ H' = H ∧
    r = [(8, .i .i64 k), (7, .i .i64 L.length), (0, .rs (frs L) 0 12 L.length), (1, .fn (.func f) [] cap), (4, .i .i64 0)]) L.length ?_ ?_
  · exact Gh.regs [8, 7, 0, 1, 4] (Gh.of ⟨0, by omega, by omega, fun j _ h => by omega, rfl, rfl⟩)
  · rintro m r H' ⟨k, hk, rfl, hn, rfl, rfl⟩
    conv => whnf
    by_cases h : (k : Int) < L.length
    · rw [decide_eq_true h]
      conv => whnf
      refine ⟨⟨by omega, h⟩, ?_⟩
      conv => whnf
      refine aget_fr (k := k) (by omega) (by omega) ?_
      conv => whnf
      refine ACall.mono (ht L[k] (hok _ (List.getElem_mem _))) ?_; rintro r H ⟨rfl, rfl⟩
      conv => whnf
      cases he : p (L[k]'(by omega))
      · conv => whnf
        rw [w64 (by omega) (by omega)]
        refine Gh.regs [8, 7, 0, 1, 4] (Gh.of ⟨_, ?_, k + 1, by omega, rfl, ?_, rfl, rfl⟩)
        · omega
        · intro j hj hj2
          by_cases e : j = k
          · subst e; exact he
          · exact hn j hj (by omega)
      · conv => whnf
        exact ⟨_, .inl ⟨k, by omega, rfl, he, hn⟩, rfl, rfl⟩
    · rw [decide_eq_false h]
      conv => whnf
      have : k = L.length := by omega
      subst this
      exact ⟨_, idx_none hn, rfl, rfl⟩
theorem containsFunc_spec (L : List Fr) (hL : L.length < 1000000000) (hok : ∀ F ∈ L, F.ok) (f : Nat) (cap : List AV) (H : Heap) (p : Fr → Bool) (ht : Tells f cap H p) :
    ACall Try.prog 68 [.rs (frs L) 0 12 L.length, .fn (.func f) [] cap] H fun r H' => r = .ret (.b (L.any p)) ∧ H' = H := by
  refine ACall.enter tok false Try.func68 rfl rfl rfl (AW_sound (ip := false) tok _ _ _ _ ?_)
  conv => whnf
  refine ACall.mono (indexFunc_spec L hL hok f cap H p ht) ?_; rintro r H ⟨v, hv, rfl, rfl⟩
  conv => whnf
  refine ⟨?_, rfl⟩
  have e : decide (v ≥ 0) = L.any p := by
    rw [Bool.eq_iff_iff, decide_eq_true_eq, List.any_eq_true]
    exact hv.pos
  rw [e]
end Go.AK
namespace Go.AK
open Go Go.RowKit Go.Proofs
set_option linter.unusedVariables false
set_option maxRecDepth 100000
/-- Why frames may not begin at once. -/
def ChkR (L : List Fr) (v : Int) : Prop :=
  (v = 14 ∧ ∃ F ∈ L, ¬F.may) ∨ (v = 23 ∧ (∀ F ∈ L, F.may) ∧ ∃ i, ∃ h : i < L.length, (L.take i).any (fun G => L[i].rival G) = true) ∨
  (v = 0 ∧ (∀ F ∈ L, F.may) ∧ ∀ i (h : i < L.length), (L.take i).any (fun G => L[i].rival G) = false)
theorem acheck_spec (L : List Fr) (hL : L.length < 1000000000) (hok : ∀ F ∈ L, F.ok) :
    ACall Try.prog 53 [.rs (frs L) 0 12 L.length] [] fun r H => ∃ v, ChkR L v ∧ r = .ret (.i .i64 v) ∧ H = [] := by
  refine ACall.gh ?_
  refine ACall.enter tok false Try.func53 rfl rfl rfl (AW_sound (ip := false) tok _ _ _ _ ?_)
  conv => whnf
  refine ALoop.ind (ip := false) tok (fun m r H => ∃ (k : Nat), k ≤ L.length ∧ m = L.length - k ∧ (∀ j (h : j < L.length), j < k → L[j].may) ∧ H = [] ∧
    r = [(10, .i .i64 k), (9, .i .i64 L.length), (8, .rs (frs L) 0 12 L.length), (0, .rs (frs L) 0 12 L.length), (2, .i .i64 0)]) L.length ?_ ?_
  · exact Gh.regs [10, 9, 8, 0, 2] (Gh.of ⟨0, by omega, by omega, fun j _ h => by omega, rfl, rfl⟩)
  · rintro m r H ⟨k, hk, rfl, hn, rfl, rfl⟩
    conv => whnf
    by_cases h : (k : Int) < L.length
    · rw [decide_eq_true h]
      conv => whnf
      refine ⟨⟨by omega, h⟩, ?_⟩
      conv => whnf
      have hkl : k < L.length := by omega
      refine aget_fr (k := k) (by omega) hkl ?_
      conv => whnf
      refine ⟨by show 12 ≤ (12 : Nat); omega, ?_⟩
      conv => whnf
      refine ACall.frame [] [] rfl (args' := [L[k].av]) (Hc := []) rfl rfl (check_spec L[k] (hok _ (List.getElem_mem _))) ?_
      rintro r H ⟨rfl, rfl⟩
      refine ⟨.inl rfl, ?_⟩
      conv => whnf
      by_cases hm : L[k].may
      · rw [Fr.good hm]
        conv => whnf
        rw [w64 (by omega) (by omega)]
        refine Gh.regs [10, 9, 8, 0, 2] (Gh.sel [] rfl (Gh.of ⟨_, ?_, k + 1, by omega, rfl, ?_, rfl, ?_⟩))
        · omega
        · intro j hj hj2
          by_cases e : j = k
          · subst e; exact hm
          · exact hn j hj (by omega)
        · refine keep_eq (show keepR _ _ = [_, _, _, _, _] from rfl) ?_
          simp only [subG, sub, subs_frs]
          rfl
      · rw [Fr.bad hm]
        conv => whnf
        exact GhR.sel [] rfl (GhR.of ⟨_, .inl ⟨rfl, _, List.getElem_mem hkl, hm⟩, rfl, rfl⟩)
    · rw [decide_eq_false h]
      conv => whnf
      have : k = L.length := by omega
      subst this
      have hall : ∀ F ∈ L, F.may := fun F hF => by
        obtain ⟨j, hj, rfl⟩ := List.mem_iff_getElem.1 hF
        exact hn j hj hj
      refine ALoop.ind (ip := false) tok (fun m r H => ∃ (k : Nat), k ≤ L.length ∧ m = L.length - k ∧ (∀ j (h : j < L.length), j < k → (L.take j).any (fun G => L[j].rival G) = false) ∧ H = [] ∧
        r = [(22, .i .i64 k), (21, .i .i64 L.length), (20, .rs (frs L) 0 12 L.length), (0, .rs (frs L) 0 12 L.length), (2, .i .i64 0)]) L.length ?_ ?_
      · exact Gh.regs [22, 21, 20, 0, 2] (Gh.of ⟨0, by omega, by omega, fun j _ h => by omega, rfl, rfl⟩)
      · rintro m r H ⟨k, hk, rfl, hn, rfl, rfl⟩
        conv => whnf
        by_cases h : (k : Int) < L.length
        · rw [decide_eq_true h]
          conv => whnf
          refine ⟨⟨by omega, h⟩, ?_⟩
          conv => whnf
          have hkl : k < L.length := by omega
          refine aget_fr (k := k) (by omega) hkl ?_
          conv => whnf
          refine ⟨by show 12 ≤ (12 : Nat); omega, ?_⟩
          conv => whnf
          refine ⟨⟨by omega, by omega⟩, ?_⟩
          conv => whnf
          have htl : (L.take k).length = k := by rw [List.length_take]; omega
          refine ACall.mono (ACall.args (containsFunc_spec (L.take k) (by omega) (fun F hF => hok F (List.mem_of_mem_take hF)) 69 [.p (some (0, 0))] [.c L[k].cells] _ (rivalFn_spec L[k] (hok _ (List.getElem_mem _)))) ?_) ?_
          · rw [htl]
            show VLe [.rs (frs L) 0 12 k, .fn (.func 69) [] [.p (some (0, 0))]] [.rs (frs (L.take k)) 0 12 k, .fn (.func 69) [] [.p (some (0, 0))]]
            exact VLe.rs (by rw [List.drop_zero, frs_length, htl, ← frs_take]) (by rw [List.drop_zero, frs_length, frs_length]; omega) (VLe.cons VLe.nil)
          rintro r H ⟨rfl, rfl⟩
          conv => whnf
          cases he : (L.take k).any (fun G => L[k].rival G)
          · conv => whnf
            rw [w64 (by omega) (by omega)]
            refine Gh.regs [22, 21, 20, 0, 2] (Gh.sel [] rfl (Gh.of ⟨_, ?_, k + 1, by omega, rfl, ?_, rfl, ?_⟩))
            · omega
            · intro j hj hj2
              by_cases e : j = k
              · subst e; exact he
              · exact hn j hj (by omega)
            · refine keep_eq (show keepR _ _ = [_, _, _, _, _] from rfl) ?_
              simp only [subG, sub, subs_frs]
              rfl
          · conv => whnf
            exact GhR.sel [] rfl (GhR.of ⟨_, .inr (.inl ⟨rfl, hall, k, hkl, he⟩), rfl, rfl⟩)
        · rw [decide_eq_false h]
          conv => whnf
          have : k = L.length := by omega
          subst this
          exact GhR.sel [] rfl (GhR.of ⟨_, .inr (.inr ⟨rfl, hall, fun i h => hn i h h⟩), rfl, rfl⟩)
end Go.AK
namespace Go.AK
open Go Go.RowKit Go.Proofs
set_option linter.unusedVariables false
set_option maxRecDepth 100000
theorem mixed : Try.prog.follows .mixedOrders = true := by kernel_rfl
/-- Where one row loses against another one; -1: it does not. -/
def losesL : List Int → List Int → Int → Int
  | a :: L, b :: M, k => if a = b then losesL L M (k + 1) else if a = 1 then k else -1
  | _, _, _ => -1
theorem frm_cells (F : Fr) : frs [F] = F.cells := by simp [frs]
set_option maxHeartbeats 1000000 in
theorem loses_spec (F G : Fr) (hF : F.ok) (hG : G.ok) :
    ACall Try.prog 33 [F.av, G.av] [] fun r H => ∃ v, ChkR [F, G] v ∧ r = .ret (.tup [.i .i64 (if v = 0 then losesL F.row G.row 0 else 0), .i .i64 v]) ∧ H = [] := by
  refine ACall.gh ?_
  refine ACall.enter tok false Try.func33 rfl rfl rfl (AW_sound (ip := false) tok _ _ _ _ ?_)
  conv => whnf
  have hok : ∀ X ∈ [F, G], X.ok := fun X hX => by
    rcases List.mem_cons.1 hX with rfl | hX
    · exact hF
    · rw [List.mem_singleton.1 hX]; exact hG
  refine ACall.frame [] [2] rfl (args' := [.rs (frs [F, G]) 0 12 2]) (Hc := []) rfl rfl (acheck_spec [F, G] (by show 2 < _; omega) hok) ?_
  rintro r H ⟨v, hv, rfl, rfl⟩
  refine ⟨.inr ⟨rfl, rfl⟩, ?_⟩
  conv => whnf
  by_cases h0 : v = 0
  · have hm : F.may ∧ G.may := by
      rcases hv with ⟨h, _⟩ | ⟨h, _⟩ | ⟨_, h, _⟩
      · omega
      · omega
      · exact ⟨h F (by simp), h G (by simp)⟩
    rw [show (v != 0) = false from by rw [h0]; rfl]
    conv => whnf
    refine ACall.frame [] [] rfl (args' := [F.av]) (Hc := []) rfl rfl (arb_spec F hF) ?_
    rintro r H (⟨hn, _⟩ | ⟨_, c, hc, rfl, rfl⟩)
    · exact absurd hm.1 hn
    refine ⟨.inl rfl, ?_⟩
    conv => whnf
    refine ACall.frame [] [] rfl (args' := [G.av]) (Hc := []) rfl rfl (arb_spec G hG) ?_
    rintro r H (⟨hn, _⟩ | ⟨_, d, hd, rfl, rfl⟩)
    · exact absurd hm.2 hn
    refine ⟨.inl rfl, ?_⟩
    conv => whnf
    refine ALoop.ind (ip := false) tok (fun m r H => ∃ (k : Nat), k ≤ F.row.length ∧ k ≤ G.row.length ∧ m = F.row.length - k ∧ losesL F.row G.row 0 = losesL (F.row.drop k) (G.row.drop k) k ∧ H = [.c (ints F.row), .c (ints G.row)] ∧
      r = [(39, .i .i64 k), (38, .i .i64 (if (G.row.length : Int) < F.row.length then (G.row.length : Int) else F.row.length)), (7, .sl (some (0, 0)) 1 F.row.length c), (9, .sl (some (1, 0)) 1 G.row.length d), (4, .i .i64 0), (5, .i .i64 0)]) F.row.length ?_ ?_
    · refine Gh.regs [39, 38, 7, 9, 4, 5] (Gh.sel [3, 4] rfl (Gh.of ⟨0, by omega, by omega, by omega, rfl, ?_, ?_⟩))
      · show [Blk.c (subs _ (subs _ (ints F.row))), Blk.c (subs _ (subs _ (ints G.row)))] = _
        simp only [subs_nums]
      · refine keep_eq (show keepR _ _ = [_, _, _, _, _, _] from rfl) ?_
        rfl
    · rintro m r H ⟨k, hk, hk2, rfl, hc, rfl, rfl⟩
      conv => whnf
      have hlt : (k : Int) < (if (G.row.length : Int) < F.row.length then (G.row.length : Int) else F.row.length) ↔ k < F.row.length ∧ k < G.row.length := by split <;> omega
      by_cases h : (k : Int) < (if (G.row.length : Int) < F.row.length then (G.row.length : Int) else F.row.length)
      · rw [decide_eq_true h]
        have hk1 := (hlt.1 h).1
        have hk2 := (hlt.1 h).2
        rw [List.drop_eq_getElem_cons hk1, List.drop_eq_getElem_cons hk2, losesL] at hc
        conv => whnf
        refine ADraw.of tok mixed false [0, 1, 2, 3, 4, 5, 6, 7, 8] [] (by kernel_rfl) (fun _ _ _ _ h => h) ?_
        conv => whnf
        refine ⟨⟨by omega, by omega⟩, ?_⟩
        conv => whnf
        rw [show (0 + (k : Int).toNat * 1) = k from by omega]
        refine aget_nums hk1 ?_
        conv => whnf
        refine ⟨⟨by omega, by omega⟩, ?_⟩
        conv => whnf
        rw [show (0 + (k : Int).toNat * 1) = k from by omega]
        refine aget_nums hk2 ?_
        conv => whnf
        by_cases he : F.row[k] = G.row[k]
        · rw [show (F.row[k] == G.row[k]) = true from beq_iff_eq.2 he]
          rw [if_pos he] at hc
          conv => whnf
          have hkl : F.row.length ≤ 32 := F.row_le
          rw [w64 (by omega) (by omega)]
          refine Gh.regs [39, 38, 7, 9, 4, 5] (Gh.of ⟨_, ?_, k + 1, by omega, by omega, rfl, hc, rfl, rfl⟩)
          omega
        · rw [show (F.row[k] == G.row[k]) = false from beq_eq_false_iff_ne.2 he]
          rw [if_neg he] at hc
          conv => whnf
          refine ⟨⟨by omega, by omega⟩, ?_⟩
          conv => whnf
          rw [show (0 + (k : Int).toNat * 1) = k from by omega]
          refine aget_nums hk1 ?_
          conv => whnf
          by_cases h1 : F.row[k] = 1
          · rw [show (F.row[k] == 1) = true from beq_iff_eq.2 h1]
            rw [if_pos h1] at hc
            conv => whnf
            refine GhR.sel [] rfl (GhR.of ⟨v, hv, ?_, rfl⟩)
            rw [if_pos h0, hc, h0]
            rfl
          · rw [show (F.row[k] == 1) = false from beq_eq_false_iff_ne.2 h1]
            rw [if_neg h1] at hc
            conv => whnf
            refine GhR.sel [] rfl (GhR.of ⟨v, hv, ?_, rfl⟩)
            rw [if_pos h0, hc, h0]
            rfl
      · rw [decide_eq_false h]
        have h' := (not_congr hlt).1 h
        have hc2 : losesL (F.row.drop k) (G.row.drop k) k = -1 := by
          by_cases h1 : k < F.row.length
          · rw [List.drop_of_length_le (l := G.row) (by omega)]; cases F.row.drop k <;> rfl
          · rw [List.drop_of_length_le (l := F.row) (by omega)]; rfl
        conv => whnf
        refine GhR.sel [] rfl (GhR.of ⟨v, hv, ?_, rfl⟩)
        rw [if_pos h0, hc, hc2, h0]
        rfl
  · rw [show (v != 0) = true from bne_iff_ne.2 h0]
    conv => whnf
    refine GhR.sel [] rfl (GhR.of ⟨v, hv, ?_, rfl⟩)
    rw [if_neg h0]
    rfl
end Go.AK
namespace Go.AK
open Go Go.RowKit Go.Proofs
set_option linter.unusedVariables false
set_option maxRecDepth 100000
theorem Fr.ext' {F G : Fr} (h : F.cells = G.cells) : F = G := by
  cases F; cases G
  simp [Fr.cells] at h
  simp [h]
theorem fr_eq (F G : Fr) : ((F.id == G.id) && ((F.ext == G.ext) && ((F.rtr == G.rtr) && ((F.len == G.len) && ((F.b0 == G.b0) && ((F.b1 == G.b1) && ((F.b2 == G.b2) && ((F.b3 == G.b3) && ((F.b4 == G.b4) && ((F.b5 == G.b5) && ((F.b6 == G.b6) && ((F.b7 == G.b7) && true)))))))))))) = decide (F = G) := by
  rw [Bool.eq_iff_iff, decide_eq_true_eq]
  cases F; cases G
  simp
theorem fidx_spec (L : List Fr) (F : Fr) (hL : L.length < 1000000000) : ACall Try.prog 61 [.rs (frs L) 0 12 L.length, F.av] [] fun r H => ∃ v, IsIdx (fun G => decide (F = G)) L v ∧ r = .ret (.i .i64 v) ∧ H = [] := by
  refine ACall.gh ?_
  refine ACall.enter tok false Try.func61 rfl rfl rfl (AW_sound (ip := false) tok _ _ _ _ ?_)
  conv => whnf
  refine ALoop.ind (ip := false) tok (fun m r H' => ∃ (k : Nat), k ≤ L.length ∧ m = L.length - k ∧ (∀ j (h : j < L.length), j < k → decide (F = L[j]) = false) ∧ H' = [.c F.cells] ∧
    r = [(8, .i .i64 k), (7, .i .i64 L.length), (3, .p (some (0, 0))), (0, .rs (frs L) 0 12 L.length), (4, .i .i64 0)]) L.length ?_ ?_
  · exact Gh.regs [8, 7, 3, 0, 4] (Gh.of ⟨0, by omega, by omega, fun j _ h => by omega, rfl, rfl⟩)
  · rintro m r H' ⟨k, hk, rfl, hn, rfl, rfl⟩
    by_cases h : (k : Int) < L.length
    · have hkl : k < L.length := by omega
      conv => whnf
      refine acond_t (decide_eq_true h) ?_
      conv => whnf
      refine ADraw.of tok mixed false [0, 1, 2, 3, 4, 5] [] (by kernel_rfl) (fun _ _ _ _ h => h) ?_
      conv => whnf
      refine ⟨⟨by omega, h⟩, ?_⟩
      conv => whnf
      refine aget_fr (k := k) (by omega) hkl ?_
      conv => whnf
      refine ⟨flatFrame, ?_⟩
      conv => whnf
      by_cases he : F = L[k]
      · refine acond_t (by rw [fr_eq]; exact decide_eq_true he) ?_
        conv => whnf
        refine GhR.sel [] rfl (GhR.of ⟨k, ?_, rfl, rfl⟩)
        exact .inl ⟨k, hkl, rfl, decide_eq_true he, fun j h1 h2 => hn j h1 h2⟩
      · refine acond_f (by rw [fr_eq]; exact decide_eq_false he) ?_
        conv => whnf
        refine Gh.regs [8, 7, 3, 0, 4] (Gh.of ⟨L.length - (k + 1), by omega, k + 1, by omega, rfl, ?_, rfl, ?_⟩)
        · intro j h1 h2
          by_cases e : j = k
          · subst e; exact decide_eq_false he
          · exact hn j h1 (by omega)
        · rw [w64 (by omega) (by omega)]; rfl
    · conv => whnf
      refine acond_f (decide_eq_false h) ?_
      conv => whnf
      refine GhR.sel [] rfl (GhR.of ⟨-1, idx_none fun j h1 h2 => hn j h1 (by omega), rfl, rfl⟩)
theorem frs_app_drop (L : List Fr) (X : List AV) (k : Nat) (h : k ≤ L.length) : (frs L ++ X).drop (k * 12) = frs (L.drop k) ++ X := by
  rw [List.drop_append_of_le_length (by rw [frs_length]; omega), frs_drop]
theorem frs_app_take (L : List Fr) (X : List AV) (k : Nat) (h : k ≤ L.length) : (frs L ++ X).take (k * 12) = frs (L.take k) := by
  rw [List.take_append_of_le_length (by rw [frs_length]; omega), frs_take]
/-- A part of a row of frames. -/
theorem frs_cut (L : List Fr) (X : List AV) (a n : Nat) (h : a + n ≤ L.length) : List.take (n * 12) (List.drop (a * 12) (frs L ++ X)) = frs ((L.drop a).take n) := by
  rw [frs_app_drop L X a (by omega), frs_app_take _ _ _ (by rw [List.length_drop]; omega)]
theorem set_frs (A : List Fr) (B us : List AV) (h : us.length ≤ B.length) : setCells (frs A ++ B) (A.length * 12) us = frs A ++ (us ++ B.drop us.length) := by
  rw [setCells_eq _ _ _ (by rw [List.length_append, frs_length]; omega)]
  have hA := frs_length A
  have h1 : (frs A ++ B).drop (A.length * 12) = B := by rw [← hA]; exact List.drop_left
  have h2 : (frs A ++ B).take (A.length * 12) = frs A := by rw [← hA]; exact List.take_left
  rw [h2, ← List.drop_drop, h1, List.append_assoc]
/-- Cells that name no block. -/
def Pl (X : List AV) : Prop := ∀ φ, subs φ X = X
theorem subs_app (φ : Nat → Sb) : ∀ (A B : List AV), subs φ (A ++ B) = subs φ A ++ subs φ B
  | [], B => rfl
  | x :: A, B => by rw [List.cons_append, subs, subs, subs_app φ A B]; rfl
theorem Pl.nil : Pl [] := fun _ => rfl
theorem Pl.app {X Y : List AV} (h : Pl X) (k : Pl Y) : Pl (X ++ Y) := fun φ => by rw [subs_app, h, k]
theorem Pl.frs (L : List Fr) : Pl (frs L) := fun φ => subs_frs φ L
theorem Pl.cells (F : Fr) : Pl F.cells := fun φ => rfl
theorem Pl.un : ∀ k, Pl (List.replicate k .un)
  | 0 => .nil
  | k + 1 => fun φ => by rw [List.replicate_succ, subs, Pl.un k φ]; rfl
theorem Pl.drop {X : List AV} (h : Pl X) (k : Nat) : Pl (X.drop k) := fun φ => by
  have : ∀ (X : List AV) k, subs φ (X.drop k) = (subs φ X).drop k := by
    intro X
    induction X with
    | nil => intro k; simp [subs]
    | cons x X ih => intro k; cases k with
      | zero => rfl
      | succ k => rw [List.drop_succ_cons, subs, List.drop_succ_cons, ih]
  rw [this, h]
def z12 : List AV := [.i .i64 0, .b false, .b false, .i .i64 0, .i .u8 0, .i .u8 0, .i .u8 0, .i .u8 0, .i .u8 0, .i .u8 0, .i .u8 0, .i .u8 0]
theorem z12_len : z12.length = 12 := rfl
theorem fclone_spec (L : List Fr) (c : Nat) (X : List AV) (hX : Pl X) (hL : L.length < 1000000) : ACall Try.prog 43 [.sl (some (0, 0)) 12 L.length c] [.c (frs L ++ X)] fun r H => ∃ d, L.length ≤ d ∧ r = .ret (.sl (some (1, 0)) 12 L.length d) ∧ H = [.c (frs L ++ X), .c (frs L)] := by
  refine ACall.gh ?_
  refine ACall.enter tok false Try.func43 rfl rfl rfl (AW_sound (ip := false) tok _ _ _ _ ?_)
  conv => whnf
  refine ⟨(show 0 ≤ _ from Nat.zero_le _), ?_⟩
  conv => whnf
  have hfl := frs_length L
  refine ⟨by rw [List.length_append]; dsimp only; omega, ?_⟩
  conv => whnf
  have hN : List.take (L.length * 12) (List.drop 0 (frs L ++ X)) = frs L := by rw [List.drop_zero, ← hfl]; exact List.take_left
  refine ⟨by show ones (List.take (L.length * 12) (List.drop 0 (frs L ++ X))) = true; rw [hN]; exact ones_frs _, by (try dsimp only); omega, by (try dsimp only); omega, fun d hd => ?_⟩
  conv => whnf
  refine GhR.sel [0, 2] rfl (GhR.of ⟨d, by omega, ?_, ?_⟩)
  · show ARes.ret (AV.sl (some (1, 0)) 12 (0 + L.length) d) = _
    rw [Nat.zero_add]
  · show [Blk.c (subs _ (frs L ++ X)), Blk.c (subs _ (List.take (0 * 12) (List.drop 0 []) ++ List.take (L.length * 12) (List.drop 0 (frs L ++ X))))] = _
    rw [hN, (Pl.frs L).app hX]
    show [_, Blk.c (subs _ (frs L))] = _
    rw [subs_frs]
theorem fclone_nil (z : Nat) : ACall Try.prog 43 [.sl none z 0 0] [] fun r H => r = .ret (.sl none 0 0 0) ∧ H = [] := by
  refine ACall.enter tok false Try.func43 rfl rfl rfl (AW_sound (ip := false) tok _ _ _ _ ?_)
  conv => whnf
  exact ⟨rfl, rfl⟩
theorem del_cells (L : List Fr) (X : List AV) (k : Nat) (hk : k < L.length) : setCells (setCells (frs L ++ X) (k * 12) (frs (L.drop (k + 1)))) ((L.length - 1) * 12) z12 = frs (L.eraseIdx k) ++ (z12 ++ X) := by
  have e1 : frs L ++ X = frs (L.take k) ++ (frs (L.drop k) ++ X) := by rw [← List.append_assoc, ← frs_append, List.take_append_drop]
  have l1 : (L.take k).length = k := by rw [List.length_take]; omega
  have l2 := frs_length (L.drop k)
  have l3 := frs_length (L.drop (k + 1))
  rw [List.length_drop] at l2 l3
  have s1 := set_frs (L.take k) (frs (L.drop k) ++ X) (frs (L.drop (k + 1))) (by rw [List.length_append]; omega)
  rw [l1, ← e1] at s1
  rw [s1, ← List.append_assoc, ← frs_append, ← List.eraseIdx_eq_take_drop_succ]
  have l4 : (L.eraseIdx k).length = L.length - 1 := List.length_eraseIdx_of_lt hk
  have s2 := set_frs (L.eraseIdx k) ((frs (L.drop k) ++ X).drop (frs (L.drop (k + 1))).length) z12 (by rw [List.length_drop, List.length_append, z12_len]; omega)
  rw [l4] at s2
  rw [s2, List.drop_drop, z12_len, show (frs (L.drop (k + 1))).length + 12 = (frs (L.drop k)).length from by omega, List.drop_left]
set_option maxHeartbeats 400000 in
theorem fdelete_spec (L : List Fr) (k c : Nat) (X : List AV) (hX : Pl X) (hk : k < L.length) (hc : L.length ≤ c) (hL : L.length < 1000000) :
    ACall Try.prog 62 [.sl (some (0, 0)) 12 L.length c, .i .i64 k, .i .i64 (k + 1 : Nat)] [.c (frs L ++ X)] fun r H => r = .ret (.sl (some (0, 0)) 12 (L.length - 1) c) ∧ H = [.c (frs (L.eraseIdx k) ++ (z12 ++ X))] := by
  refine ACall.enter tok true Try.func62 rfl rfl rfl (AW_sound (ip := true) tok _ _ _ _ ?_)
  have hfl := frs_length L
  have hlX : (frs L ++ X).length = L.length * 12 + X.length := by rw [List.length_append, hfl]
  conv => whnf
  refine ⟨⟨by omega, by omega, by omega, by omega⟩, ?_⟩
  conv => whnf
  refine acond_f (beq_eq_false_iff_ne.2 (by omega)) ?_
  conv => whnf
  refine ADraw.of tok mixed true [0, 1, 2, 3, 4, 5] [6, 7] (by kernel_rfl) (fun _ _ _ _ h => h) ?_
  conv => whnf
  refine ⟨⟨by omega, by omega⟩, ?_⟩
  conv => whnf
  refine ⟨⟨by omega, by omega⟩, ?_⟩
  conv => whnf
  refine ⟨by dsimp only; omega, ?_⟩
  conv => whnf
  refine ⟨by dsimp only; omega, ?_⟩
  conv => whnf
  have hN : List.take ((L.length - (k + 1)) * 12) (List.drop (0 + (k + 1) * 12) (frs L ++ X)) = frs (L.drop (k + 1)) := by
    rw [Nat.zero_add, frs_cut _ _ _ _ (by omega), List.take_of_length_le (by rw [List.length_drop]; omega)]
  refine ⟨by show ones (List.take ((L.length - (k + 1)) * 12) (List.drop (0 + (k + 1) * 12) (frs L ++ X))) = true; rw [hN]; exact ones_frs _, by omega, by dsimp only; omega, ?_⟩
  conv => whnf
  refine ⟨⟨by omega, by omega, by omega⟩, ?_⟩
  conv => whnf
  refine ⟨by rw [setCells_length]; dsimp only; omega, ?_⟩
  conv => whnf
  refine ⟨?_, ?_⟩
  · show ARes.ret (AV.sl (some (0, 0)) 12 (k + (L.length - (k + 1))) c) = _
    rw [show k + (L.length - (k + 1)) = L.length - 1 from by omega]
  · show [Blk.c (setCells (setCells (frs L ++ X) (0 + 0 * 12 + (k - 0) * 12) (List.take ((L.length - (k + 1)) * 12) (List.drop (0 + (k + 1) * 12) (frs L ++ X)))) (0 + 0 * 12 + (k - 0 + (L.length - (k + 1))) * 12) (List.replicate (L.length - (k - 0 + (L.length - (k + 1)))) z12).flatten)] = _
    rw [hN, show L.length - (k - 0 + (L.length - (k + 1))) = 1 from by omega, show 0 + 0 * 12 + (k - 0) * 12 = k * 12 from by omega, show 0 + 0 * 12 + (k - 0 + (L.length - (k + 1))) * 12 = (L.length - 1) * 12 from by omega]
    rw [← del_cells L X k hk]
    simp
end Go.AK
namespace Go.AK
open Go Go.RowKit Go.Proofs
set_option linter.unusedVariables false
set_option maxRecDepth 100000
def insF (L : List Fr) (k : Nat) (F : Fr) : List Fr := L.take k ++ F :: L.drop k
theorem insF_length (L : List Fr) (k : Nat) (F : Fr) : (insF L k F).length = L.length + 1 := by
  unfold insF; rw [List.length_append, List.length_cons, List.length_take, List.length_drop]; omega
theorem fover_spec {n c n' c' : Nat} {o o' : Nat} {cs cs' : List AV} (hpos : cs' ≠ []) :
    ACall Try.prog 73 [.sl (some (1, o)) 12 n c, .sl (some (0, o')) 12 n' c'] [.c cs', .c cs] fun r H2 => r = .ret (.b false) ∧ H2 = [.c cs', .c cs] :=
  overlaps_apart (r := 4) tok Try.func73 rfl rfl (by kernel_rfl) (by kernel_rfl) (show tiOf T 34 = some _ from rfl) rfl (show tiOf T 25 = some _ from rfl) (by omega : (1 : Nat) ≠ 0) rfl rfl hpos
theorem frs_one (F : Fr) : frs [F] = F.cells := by simp [frs]
theorem ones_take : ∀ (n : Nat) {xs : List AV}, ones xs = true → ones (xs.take n) = true
  | 0, _, _ => by simp [ones]
  | n + 1, [], h => by simpa using h
  | n + 1, x :: xs, h => by
    simp only [ones, Bool.and_eq_true, List.take_succ_cons] at h ⊢
    exact ⟨h.1, ones_take n h.2⟩
theorem z12s_len (n : Nat) : (List.replicate n z12).flatten.length = n * 12 := by simp [z12_len]
theorem grow_cells (L : List Fr) (k : Nat) (F : Fr) (hk : k ≤ L.length) : setCells (setCells (frs (L.take k) ++ (List.replicate (L.length + 1 - k) z12).flatten) (k * 12) F.cells) ((k + 1) * 12) (frs (L.drop k)) = frs (insF L k F) := by
  have l1 : (L.take k).length = k := by rw [List.length_take]; omega
  have lF : F.cells.length = 12 := rfl
  have s1 := set_frs (L.take k) (List.replicate (L.length + 1 - k) z12).flatten F.cells (by rw [z12s_len, lF]; omega)
  rw [l1] at s1
  rw [s1, ← List.append_assoc, ← frs_one F, ← frs_append]
  have l2 : (L.take k ++ [F]).length = k + 1 := by simp [l1]
  have l3 := frs_length (L.drop k)
  rw [List.length_drop] at l3
  have lF2 : (frs [F]).length = 12 := frs_length [F]
  have s2 := set_frs (L.take k ++ [F]) ((List.replicate (L.length + 1 - k) z12).flatten.drop (frs [F]).length) (frs (L.drop k)) (by rw [List.length_drop, z12s_len, lF2]; omega)
  rw [l2] at s2
  have e0 : ((List.replicate (L.length + 1 - k) z12).flatten.drop (frs [F]).length).drop (frs (L.drop k)).length = [] := List.drop_of_length_le (by rw [List.length_drop, z12s_len, lF2]; omega)
  rw [s2, e0, List.append_nil, ← frs_append]
  unfold insF
  simp
theorem shift_cells (L : List Fr) (X : List AV) (k : Nat) (F : Fr) (hk : k < L.length) (hX : 12 ≤ X.length) : setCells (setCells (frs L ++ X) ((k + 1) * 12) (frs (L.drop k))) (k * 12) F.cells = frs (insF L k F) ++ X.drop 12 := by
  have e1 : frs L ++ X = frs (L.take (k + 1)) ++ (frs (L.drop (k + 1)) ++ X) := by rw [← List.append_assoc, ← frs_append, List.take_append_drop]
  have l1 : (L.take (k + 1)).length = k + 1 := by rw [List.length_take]; omega
  have l2 := frs_length (L.drop k)
  have l3 := frs_length (L.drop (k + 1))
  rw [List.length_drop] at l2 l3
  have s1 := set_frs (L.take (k + 1)) (frs (L.drop (k + 1)) ++ X) (frs (L.drop k)) (by rw [List.length_append]; omega)
  rw [l1, ← e1] at s1
  have e2 : (frs (L.drop (k + 1)) ++ X).drop (frs (L.drop k)).length = X.drop 12 := by
    rw [show (frs (L.drop k)).length = (frs (L.drop (k + 1))).length + 12 from by omega, ← List.drop_drop, List.drop_left]
  rw [s1, e2]
  have lF : F.cells.length = 12 := rfl
  have l4 : (L.take k).length = k := by rw [List.length_take]; omega
  have e3 : frs (L.take (k + 1)) = frs (L.take k) ++ frs [L[k]] := by rw [List.take_add_one, List.getElem?_eq_getElem hk, frs_append]; rfl
  have s2 := set_frs (L.take k) (frs [L[k]] ++ (frs (L.drop k) ++ X.drop 12)) F.cells (by rw [List.length_append, frs_length, lF]; simp)
  rw [l4] at s2
  have e4 : (frs [L[k]] ++ (frs (L.drop k) ++ X.drop 12)).drop F.cells.length = frs (L.drop k) ++ X.drop 12 := by
    rw [lF, show 12 = (frs [L[k]]).length from by rw [frs_length]; rfl, List.drop_left]
  rw [e4] at s2
  rw [e3, List.append_assoc, s2]
  unfold insF
  rw [frs_append, show frs (F :: L.drop k) = F.cells ++ frs (L.drop k) from rfl, List.append_assoc, List.append_assoc]
set_option maxHeartbeats 400000 in
theorem finsert_nil (F : Fr) (z : Nat) : ACall Try.prog 65 [.sl none z 0 0, .i .i64 0, .sl (some (0, 0)) 12 1 1] [.c F.cells] fun r H => ∃ d, 1 ≤ d ∧ r = .ret (.sl (some (1, 0)) 12 1 d) ∧ H = [.c F.cells, .c (frs [F])] := by
  refine ACall.gh ?_
  refine ACall.enter tok false Try.func65 rfl rfl rfl (AW_sound (ip := false) tok _ _ _ _ ?_)
  conv => whnf
  refine ⟨⟨by omega, by omega⟩, ?_⟩
  conv => whnf
  refine ⟨by show 12 ≤ (12 : Nat); omega, ?_⟩
  conv => whnf
  refine ⟨rfl, by decide, by decide, fun d hd => ?_⟩
  conv => whnf
  refine GhR.of ⟨d, hd, rfl, ?_⟩
  rw [frs_one]; rfl
set_option maxHeartbeats 400000 in
theorem finsert_spec (L : List Fr) (F : Fr) (k c : Nat) (X : List AV) (hX : Pl X) (hk : k ≤ L.length) (hc : L.length ≤ c) (hXl : X.length = (c - L.length) * 12) (hL : L.length < 1000000) :
    ACall Try.prog 65 [.sl (some (0, 0)) 12 L.length c, .i .i64 k, .sl (some (1, 0)) 12 1 1] [.c (frs L ++ X), .c F.cells] fun r H =>
      (∃ Y, L.length + 1 ≤ c ∧ Pl Y ∧ Y.length = (c - (L.length + 1)) * 12 ∧ r = .ret (.sl (some (0, 0)) 12 (L.length + 1) c) ∧ H = [.c (frs (insF L k F) ++ Y), .c F.cells]) ∨
      (∃ d, L.length + 1 ≤ d ∧ r = .ret (.sl (some (2, 0)) 12 (L.length + 1) d) ∧ H = [.dead, .c F.cells, .c (frs (insF L k F))]) := by
  refine ACall.gh ?_
  refine ACall.enter tok false Try.func65 rfl rfl rfl (AW_sound (ip := false) tok _ _ _ _ ?_)
  have hfl := frs_length L
  have hlX : (frs L ++ X).length = L.length * 12 + X.length := by rw [List.length_append, hfl]
  conv => whnf
  refine ⟨⟨by omega, by omega⟩, ?_⟩
  conv => whnf
  by_cases hkn : k = L.length
  · subst hkn
    refine acond_t (beq_iff_eq.2 rfl) ?_
    conv => whnf
    refine ⟨by dsimp only; omega, ?_⟩
    conv => whnf
    refine ⟨by show 12 ≤ (12 : Nat); omega, ?_⟩
    conv => whnf
    refine ⟨rfl, by (try dsimp only); omega, by omega, fun d hd => ?_⟩
    conv => whnf
    refine GhR.of (.inr ⟨d, hd, rfl, ?_⟩)
    have hN : List.take (L.length * 12) (List.drop 0 (frs L ++ X)) = frs L := by rw [List.drop_zero, ← hfl]; exact List.take_left
    show [Blk.dead, Blk.c F.cells, Blk.c (List.take (L.length * 12) (List.drop 0 (frs L ++ X)) ++ F.cells)] = _
    rw [hN, ← frs_one F, ← frs_append]
    unfold insF
    rw [List.take_length, List.drop_length]
  · refine acond_f (beq_eq_false_iff_ne.2 (by omega)) ?_
    conv => whnf
    by_cases hcap : IntKind.i64.wrap ((L.length : Int) + (1 : Nat)) > c
    · refine acond_t (decide_eq_true hcap) ?_
      conv => whnf
      refine ⟨⟨by omega, by omega⟩, ?_⟩
      conv => whnf
      have hw1 : IntKind.i64.wrap ((L.length : Int) + (1 : Nat)) = (L.length : Int) + 1 := w64 (by omega) (by omega)
      have hw2 : IntKind.i64.wrap (IntKind.i64.wrap ((L.length : Int) + (1 : Nat)) - k) = ((L.length + 1 - k : Nat) : Int) := by rw [hw1, w64 (by omega) (by omega)]; omega
      have hcn : c = L.length := by rw [hw1] at hcap; omega
      subst hcn
      have hX0 : X = [] := List.eq_nil_of_length_eq_zero (by omega)
      subst hX0
      have hw3 : IntKind.i64.wrap ((k : Int) + (1 : Nat)) = ((k + 1 : Nat) : Int) := by rw [w64 (by omega) (by omega)]; omega
      refine ⟨by dsimp only; omega, ?_⟩
      conv => whnf
      refine ⟨⟨by rw [hw2]; omega, by rw [hw2]; dsimp only; omega, by rw [hw2]; omega⟩, ?_⟩
      conv => whnf
      refine .inl ⟨by rw [hw2]; omega, fun d hd => ?_⟩
      rw [hw2] at hd
      conv => whnf
      refine ⟨⟨by omega, by rw [hw2]; omega⟩, ?_⟩
      conv => whnf
      refine ⟨by show 12 ≤ (12 : Nat); omega, ?_⟩
      conv => whnf
      have hA : List.take ((k - 0) * 12) (List.drop (0 + 0 * 12) (frs L ++ [])) = frs (L.take k) := by
        rw [List.append_nil, Nat.sub_zero, show 0 + 0 * 12 = 0 from rfl, List.drop_zero, frs_take]
      have lA := frs_length (L.take k)
      rw [List.length_take] at lA
      have lZ := z12s_len (L.length + 1 - k)
      refine ⟨ones_take _ (show ones (List.take 12 (List.drop 0 F.cells)) = true from rfl), ?_⟩
      conv => whnf
      refine ⟨by
        rw [hw2]
        show 0 + k * 12 + (k - 0 + (L.length + 1 - k) - k) * 12 ≤ (List.take ((k - 0) * 12) (List.drop (0 + 0 * 12) (frs L ++ [])) ++ (List.replicate (L.length + 1 - k) z12).flatten).length
        rw [List.length_append, hA, lA, lZ]; omega, ?_⟩
      conv => whnf
      refine ADraw.of tok mixed false [0, 1, 2, 3, 4, 5, 6, 7] [8] (by kernel_rfl) (fun _ _ _ _ h => h) ?_
      conv => whnf
      refine ⟨⟨by rw [hw3]; omega, by rw [hw3, hw2]; omega⟩, ?_⟩
      conv => whnf
      refine ⟨⟨by omega, by omega⟩, ?_⟩
      conv => whnf
      refine ⟨by rw [List.append_nil]; dsimp only; omega, ?_⟩
      conv => whnf
      have hB : List.take ((L.length - k) * 12) (List.drop (0 + k * 12) (frs L ++ [])) = frs (L.drop k) := by
        rw [Nat.zero_add, frs_cut _ _ _ _ (by omega), List.take_of_length_le (by rw [List.length_drop]; omega)]
      refine ⟨ones_take _ (by show ones (List.take ((L.length - k) * 12) (List.drop (0 + k * 12) (frs L ++ []))) = true; rw [hB]; exact ones_frs _), ?_⟩
      conv => whnf
      refine ⟨by
        rw [hw2, hw3, setCells_length]
        show 0 + (k + 1) * 12 + (k - 0 + (L.length + 1 - k) - (k + 1)) * 12 ≤ (List.take ((k - 0) * 12) (List.drop (0 + 0 * 12) (frs L ++ [])) ++ (List.replicate (L.length + 1 - k) z12).flatten).length
        rw [List.length_append, hA, lA, lZ]; omega, ?_⟩
      conv => whnf
      refine GhR.kill 0 (GhR.of (.inr ⟨d, by omega, ?_, ?_⟩))
      · rw [hw2]
        show ARes.ret (AV.sl (some (2, 0)) 12 (k - 0 + (L.length + 1 - k)) d) = _
        rw [show k - 0 + (L.length + 1 - k) = L.length + 1 from by omega]
      · rw [hw2, hw3]
        show [Blk.dead, Blk.c F.cells, Blk.c (setCells (setCells (List.take ((k - 0) * 12) (List.drop (0 + 0 * 12) (frs L ++ [])) ++ (List.replicate (L.length + 1 - k) z12).flatten) (0 + k * 12) (List.take (min 1 (k - 0 + (L.length + 1 - k) - k) * 12) F.cells)) (0 + (k + 1) * 12) (List.take (min (L.length - k) (k - 0 + (L.length + 1 - k) - (k + 1)) * 12) (List.take ((L.length - k) * 12) (List.drop (0 + k * 12) (frs L ++ [])))))] = _
        rw [hA, hB, show min 1 (k - 0 + (L.length + 1 - k) - k) = 1 from by omega, show min (L.length - k) (k - 0 + (L.length + 1 - k) - (k + 1)) = L.length - k from by omega, Nat.zero_add, Nat.zero_add]
        have lD := frs_length (L.drop k)
        rw [List.length_drop] at lD
        rw [List.take_of_length_le (l := frs (L.drop k)) (by omega), show List.take (1 * 12) F.cells = F.cells from rfl, grow_cells L k F hk]
    · refine acond_f (decide_eq_false hcap) ?_
      conv => whnf
      have hw1 : IntKind.i64.wrap ((L.length : Int) + (1 : Nat)) = (L.length : Int) + 1 := w64 (by omega) (by omega)
      have hw3 : IntKind.i64.wrap ((k : Int) + (1 : Nat)) = ((k + 1 : Nat) : Int) := by rw [w64 (by omega) (by omega)]; omega
      rw [hw1] at hcap
      have hcc : L.length + 1 ≤ c := by omega
      have hw4 : (IntKind.i64.wrap ((L.length : Int) + (1 : Nat))).toNat = L.length + 1 := by rw [hw1]; omega
      have hX12 : 12 ≤ X.length := by omega
      have hklt : k < L.length := by omega
      have hne : frs L ++ X ≠ [] := fun e => by rw [e] at hlX; simp at hlX; omega
      refine ⟨⟨by rw [hw1]; omega, by rw [hw1]; omega⟩, ?_⟩
      conv => whnf
      refine ⟨⟨by rw [hw3]; omega, by rw [hw3, hw4]; omega⟩, ?_⟩
      conv => whnf
      refine ACall.mono (fover_spec hne) ?_
      rintro r H ⟨rfl, rfl⟩
      conv => whnf
      refine ADraw.of tok mixed false [0, 1, 2, 3, 4, 5, 6, 7] [8] (by kernel_rfl) (fun _ _ _ _ h => h) ?_
      conv => whnf
      refine ⟨⟨by rw [hw3]; omega, by rw [hw3, hw4]; omega⟩, ?_⟩
      conv => whnf
      refine ⟨⟨by omega, by rw [hw4]; omega⟩, ?_⟩
      conv => whnf
      refine ⟨by rw [hw4, hlX]; dsimp only; omega, ?_⟩
      conv => whnf
      have hB : List.take ((L.length - k) * 12) (List.take ((L.length + 1 - k) * 12) (List.drop (k * 12) (frs L ++ X))) = frs (L.drop k) := by
        rw [List.take_take, show min ((L.length - k) * 12) ((L.length + 1 - k) * 12) = (L.length - k) * 12 from by omega, frs_cut _ _ _ _ (by omega), List.take_of_length_le (by rw [List.length_drop]; omega)]
      have hM : List.take (min (L.length + 1 - 0 - k) (L.length + 1 - 0 - (k + 1)) * 12) (List.take ((L.length + 1 - 0 - k) * 12) (List.drop (0 + 0 * 12 + k * 12) (frs L ++ X))) = frs (L.drop k) := by
        rw [show min (L.length + 1 - 0 - k) (L.length + 1 - 0 - (k + 1)) = L.length - k from by omega, show 0 + 0 * 12 + k * 12 = k * 12 from by omega, show L.length + 1 - 0 - k = L.length + 1 - k from by omega]
        exact hB
      refine ⟨by
        rw [hw3, hw4]
        show ones (List.take (min (L.length + 1 - 0 - k) (L.length + 1 - 0 - (k + 1)) * 12) (List.take ((L.length + 1 - 0 - k) * 12) (List.drop (0 + 0 * 12 + k * 12) (frs L ++ X)))) = true
        rw [hM]; exact ones_frs _, ?_⟩
      conv => whnf
      refine ⟨by rw [hw3, hw4, hlX]; omega, ?_⟩
      conv => whnf
      refine ⟨⟨by omega, by rw [hw4]; omega⟩, ?_⟩
      conv => whnf
      refine ⟨by show 12 ≤ (12 : Nat); omega, ?_⟩
      conv => whnf
      refine ⟨ones_take _ (show ones (List.take 12 (List.drop 0 F.cells)) = true from rfl), ?_⟩
      conv => whnf
      refine ⟨by rw [hw4, setCells_length, hlX]; omega, ?_⟩
      conv => whnf
      refine GhR.of (.inl ⟨X.drop 12, hcc, hX.drop 12, by rw [List.length_drop]; omega, ?_, ?_⟩)
      · rw [hw4]; rfl
      · rw [hw3, hw4]
        show [Blk.c (setCells (setCells (frs L ++ X) (0 + 0 * 12 + (k + 1) * 12) (List.take (min (L.length + 1 - 0 - k) (L.length + 1 - 0 - (k + 1)) * 12) (List.take ((L.length + 1 - 0 - k) * 12) (List.drop (0 + 0 * 12 + k * 12) (frs L ++ X))))) (0 + 0 * 12 + k * 12) (List.take (min 1 (L.length + 1 - 0 - k) * 12) F.cells)), Blk.c F.cells] = _
        rw [hM, show 0 + 0 * 12 + (k + 1) * 12 = (k + 1) * 12 from by omega, show 0 + 0 * 12 + k * 12 = k * 12 from by omega, show min 1 (L.length + 1 - 0 - k) = 1 from by omega, show List.take (1 * 12) F.cells = F.cells from rfl, shift_cells L X k F hklt hX12]
end Go.AK
namespace Go.AK
open Go Go.RowKit Go.Proofs
set_option linter.unusedVariables false
set_option maxRecDepth 100000
theorem VLe.nilrs {z : Nat} {xs ys : List AV} (h : VLe xs ys) : VLe (.sl none z 0 0 :: xs) (.rs (frs []) 0 12 0 :: ys) := fun E vs ⟨v, vs', h1, h2, h3⟩ => by
  obtain ⟨_, _, rfl⟩ := h2
  exact ⟨_, vs', h1, .inl ⟨rfl, _, _, rfl⟩, h E _ h3⟩
theorem VLe.rsPre {L : List Fr} {X : List AV} {n : Nat} {xs ys : List AV} (h : VLe xs ys) : VLe (.rs (frs L ++ X) 0 12 n :: xs) (.rs (frs L) 0 12 n :: ys) :=
  VLe.rs (by rw [List.drop_zero]; exact List.take_left) (by rw [List.drop_zero, List.length_append]; omega) h
theorem idx_find {L : List Fr} {p : Fr → Bool} {v : Int} (h : IsIdx p L v) : (v < 0 ∧ L.findIdx p = L.length) ∨ (v = L.findIdx p ∧ L.findIdx p < L.length) := by
  rcases h with ⟨k, hk, rfl, h1, h2⟩ | ⟨rfl, h⟩
  · right
    have : L.findIdx p = k := (List.findIdx_eq hk).2 ⟨h1, fun j hj => h2 j (by omega) hj⟩
    exact ⟨by rw [this], by rw [this]; exact hk⟩
  · left
    exact ⟨by omega, List.findIdx_eq_length.2 fun x hx => h x hx⟩
/-- Where a frame comes. -/
def posF (l : List Fr) (F : Fr) : Nat := l.findIdx fun G => F.less G
def putL (l : List Fr) (F : Fr) : List Fr := insF l (posF l F) F
theorem posF_le (l : List Fr) (F : Fr) : posF l F ≤ l.length := List.findIdx_le_length
theorem putL_length (l : List Fr) (F : Fr) : (putL l F).length = l.length + 1 := insF_length _ _ _
theorem putFn_spec (F : Fr) (hF : F.ok) : Tells 63 [.p (some (0, 0))] [.c F.cells] (fun G => F.less G) := fun G hG => by
  refine ACall.gh ?_
  refine ACall.enter tok false Try.func63 rfl rfl rfl (AW_sound (ip := false) tok _ _ _ _ ?_)
  conv => whnf
  refine ACall.frame [] [] rfl (args' := [F.av, G.av]) (Hc := []) rfl rfl (less_spec F G hF hG) ?_
  rintro r H ⟨rfl, rfl⟩
  refine ⟨.inl rfl, ?_⟩
  conv => whnf
  exact GhR.sel [0] rfl (GhR.of ⟨rfl, rfl⟩)
/-- A queue's memory: its row at its place, and moved. -/
def QIn (l : List Fr) (most : Int) (H : Heap) : Prop := ∃ c Y, l.length ≤ c ∧ Pl Y ∧ Y.length = (c - l.length) * 12 ∧ H = [.c [.sl (some (1, 0)) 12 l.length c, .i .i64 most], .c (frs l ++ Y)]
def QMv (l : List Fr) (most : Int) (H : Heap) : Prop := ∃ c Y, l.length ≤ c ∧ Pl Y ∧ Y.length = (c - l.length) * 12 ∧ H = [.c [.sl (some (2, 0)) 12 l.length c, .i .i64 most], .dead, .c (frs l ++ Y)]
def QNil (most : Int) (H : Heap) : Prop := H = [.c [.sl none 0 0 0, .i .i64 most]]
def PutH (l : List Fr) (F : Fr) (most : Int) (c : Nat) (H : Heap) : Prop :=
  (∃ Y, l.length + 1 ≤ c ∧ Pl Y ∧ Y.length = (c - (l.length + 1)) * 12 ∧ H = [.c [.sl (some (1, 0)) 12 (l.length + 1) c, .i .i64 most], .c (frs (putL l F) ++ Y), .c F.cells, .c F.cells]) ∨
  (∃ d, l.length + 1 ≤ d ∧ H = [.c [.sl (some (4, 0)) 12 (l.length + 1) d, .i .i64 most], .dead, .c F.cells, .c F.cells, .c (frs (putL l F))])
set_option maxHeartbeats 400000 in
theorem rput_spec (l : List Fr) (hok : ∀ F ∈ l, F.ok) (F : Fr) (hF : F.ok) (most : Int) (c : Nat) (Y : List AV) (hc : l.length ≤ c) (hY : Pl Y) (hYl : Y.length = (c - l.length) * 12) (hl : l.length < 1000000) :
    ACall Try.prog 46 [.p (some (0, 0)), F.av] [.c [.sl (some (1, 0)) 12 l.length c, .i .i64 most], .c (frs l ++ Y)] fun r H => r = .ret (.tup []) ∧ (QIn (putL l F) most H ∨ QMv (putL l F) most H) := by
  refine ACall.gh ?_
  refine ACall.enter tok false Try.func46 rfl rfl rfl (AW_sound (ip := false) tok _ _ _ _ ?_)
  conv => whnf
  refine ACall.frame [2] [1] rfl (args' := [.rs (frs l ++ Y) 0 12 l.length, .fn (.func 63) [] [.p (some (0, 0))]]) (Hc := [.c F.cells]) (by show [AV.rs (subs _ (frs l ++ Y)) 0 12 l.length, _] = _; rw [(Pl.frs l).app hY]; rfl) rfl
    (ACall.args (indexFunc_spec l (by omega) hok _ _ _ _ (putFn_spec F hF)) (VLe.rsPre (VLe.cons VLe.nil))) ?_
  rintro r H ⟨v, hv, rfl, rfl⟩
  refine ⟨.inr ⟨rfl, rfl⟩, ?_⟩
  have hix := idx_find hv
  conv => whnf
  rcases hix with ⟨h1, h2⟩ | ⟨h1, h2⟩
  · refine acond_t (decide_eq_true h1) ?_
    conv => whnf
    refine ADraw.gh (Gh.regs [0, 3, 5] (Gh.of ?_))
    refine ADraw.to (r' := [(0, .p (some (0, 0))), (3, .p (some (2, 0))), (5, .i .i64 (posF l F))]) (H' := [.c [.sl (some (1, 0)) 12 l.length c, .i .i64 most], .c (frs l ++ Y), .c F.cells]) ?_ ?_ ?_
    · rw [show ((l.length : Nat) : Int) = posF l F from by rw [← h2]; rfl]; rfl
    · exact rfl
    refine ADraw.post (Q' := fun x r H => x = .normal ∧ PutH l F most c H) ?_ ?_ (fun x r H hn h => absurd h.1 hn)
    · refine ADraw.tree tok mixed false [] [0, 1, 2, 3, 5] (.node (.cons 4 (.node (.cons 6 (.node (.cons 7 (.node (.cons 8 (.node (.cons 9 (.node (.cons 10 (.node (.cons 11 (.node .nil) .nil)) .nil)) .nil)) .nil)) .nil)) .nil)) (.cons 6 (.node (.cons 4 (.node (.cons 7 (.node (.cons 8 (.node (.cons 9 (.node (.cons 10 (.node (.cons 11 (.node .nil) .nil)) .nil)) .nil)) .nil)) .nil)) (.cons 7 (.node (.cons 4 (.node (.cons 8 (.node (.cons 9 (.node (.cons 10 (.node (.cons 11 (.node .nil) .nil)) .nil)) .nil)) .nil)) .nil)) .nil))) .nil))) (by kernel_rfl) (fun _ _ _ _ h => (by cases h.1)) ?_
      conv => whnf
      refine And.intro ?_ (And.intro ?_ trivial)
      · conv => whnf
        refine ACall.frame [1, 3] [] rfl (args' := [.sl (some (0, 0)) 12 l.length c, .i .i64 (posF l F), .sl (some (1, 0)) 12 1 1]) (Hc := [.c (frs l ++ Y), .c F.cells]) rfl (by show [Blk.c (subs _ (frs l ++ Y)), Blk.c F.cells] = _; rw [(Pl.frs l).app hY]) (finsert_spec l F (posF l F) c Y hY (posF_le l F) hc hYl hl) ?_
        rintro r H (⟨Y', k1, k2, k3, rfl, rfl⟩ | ⟨d, k1, rfl, rfl⟩)
        · refine ⟨.inl rfl, ?_⟩
          conv => whnf
          refine ⟨(by show 0 + 0 + 1 ≤ 2; omega), ?_⟩
          conv => whnf
          refine ⟨rfl, .inl ⟨Y', k1, k2, k3, ?_⟩⟩
          show [_, Blk.c (subs _ (frs (putL l F) ++ Y')), _, _] = _
          rw [(Pl.frs _).app k2]
          rfl
        · refine ⟨.inl rfl, ?_⟩
          conv => whnf
          refine ⟨(by show 0 + 0 + 1 ≤ 2; omega), ?_⟩
          conv => whnf
          refine ⟨rfl, .inr ⟨d, k1, ?_⟩⟩
          show [_, _, _, _, Blk.c (subs _ (frs (putL l F)))] = _
          rw [subs_frs]
          rfl
      · conv => whnf
        refine And.intro ?_ (And.intro ?_ trivial)
        · conv => whnf
          refine ACall.frame [1, 3] [] rfl (args' := [.sl (some (0, 0)) 12 l.length c, .i .i64 (posF l F), .sl (some (1, 0)) 12 1 1]) (Hc := [.c (frs l ++ Y), .c F.cells]) rfl (by show [Blk.c (subs _ (frs l ++ Y)), Blk.c F.cells] = _; rw [(Pl.frs l).app hY]) (finsert_spec l F (posF l F) c Y hY (posF_le l F) hc hYl hl) ?_
          rintro r H (⟨Y', k1, k2, k3, rfl, rfl⟩ | ⟨d, k1, rfl, rfl⟩)
          · refine ⟨.inl rfl, ?_⟩
            conv => whnf
            refine ⟨(by show 0 + 0 + 1 ≤ 2; omega), ?_⟩
            conv => whnf
            refine ⟨rfl, .inl ⟨Y', k1, k2, k3, ?_⟩⟩
            show [_, Blk.c (subs _ (frs (putL l F) ++ Y')), _, _] = _
            rw [(Pl.frs _).app k2]
            rfl
          · refine ⟨.inl rfl, ?_⟩
            conv => whnf
            refine ⟨(by show 0 + 0 + 1 ≤ 2; omega), ?_⟩
            conv => whnf
            refine ⟨rfl, .inr ⟨d, k1, ?_⟩⟩
            show [_, _, _, _, Blk.c (subs _ (frs (putL l F)))] = _
            rw [subs_frs]
            rfl
        · conv => whnf
          refine ACall.frame [1, 3] [] rfl (args' := [.sl (some (0, 0)) 12 l.length c, .i .i64 (posF l F), .sl (some (1, 0)) 12 1 1]) (Hc := [.c (frs l ++ Y), .c F.cells]) rfl (by show [Blk.c (subs _ (frs l ++ Y)), Blk.c F.cells] = _; rw [(Pl.frs l).app hY]) (finsert_spec l F (posF l F) c Y hY (posF_le l F) hc hYl hl) ?_
          rintro r H (⟨Y', k1, k2, k3, rfl, rfl⟩ | ⟨d, k1, rfl, rfl⟩)
          · refine ⟨.inl rfl, ?_⟩
            conv => whnf
            refine ⟨(by show 0 + 0 + 1 ≤ 2; omega), ?_⟩
            conv => whnf
            refine ⟨rfl, .inl ⟨Y', k1, k2, k3, ?_⟩⟩
            show [_, Blk.c (subs _ (frs (putL l F) ++ Y')), _, _] = _
            rw [(Pl.frs _).app k2]
            rfl
          · refine ⟨.inl rfl, ?_⟩
            conv => whnf
            refine ⟨(by show 0 + 0 + 1 ≤ 2; omega), ?_⟩
            conv => whnf
            refine ⟨rfl, .inr ⟨d, k1, ?_⟩⟩
            show [_, _, _, _, Blk.c (subs _ (frs (putL l F)))] = _
            rw [subs_frs]
            rfl
    · rintro r H ⟨_, ⟨Y', k1, k2, k3, rfl⟩ | ⟨d, k1, rfl⟩⟩
      · refine Gh.regs [] (Gh.of ?_)
        conv => whnf
        refine GhR.sel [0, 1] rfl (GhR.of ⟨rfl, .inl ⟨c, Y', by rw [putL_length]; exact k1, k2, by rw [putL_length]; exact k3, ?_⟩⟩)
        rw [putL_length]
        show [_, Blk.c (subs _ (frs (putL l F) ++ Y'))] = _
        rw [(Pl.frs _).app k2]
        rfl
      · refine Gh.regs [] (Gh.of ?_)
        conv => whnf
        have hpl := frs_length (putL l F)
        rw [putL_length] at hpl
        refine GhR.sel [0, 1, 4] rfl (GhR.pad 0 0 2 rfl rfl rfl (GhR.of ⟨rfl, .inr ⟨d, List.replicate (d * 12 - (l.length + 1) * 12) .un, by rw [putL_length]; exact k1, Pl.un _, by rw [putL_length, List.length_replicate]; omega, ?_⟩⟩))
        rw [putL_length]
        show [_, Blk.dead, Blk.c (subs _ (frs (putL l F)) ++ List.replicate (d * 12 - (subs _ (frs (putL l F))).length) .un)] = _
        rw [subs_frs, hpl]
        rfl
  · refine acond_f (decide_eq_false (by omega)) ?_
    conv => whnf
    refine ADraw.gh (Gh.regs [0, 3, 5] (Gh.of ?_))
    refine ADraw.to (r' := [(0, .p (some (0, 0))), (3, .p (some (2, 0))), (5, .i .i64 (posF l F))]) (H' := [.c [.sl (some (1, 0)) 12 l.length c, .i .i64 most], .c (frs l ++ Y), .c F.cells]) ?_ ?_ ?_
    · rw [h1]; rfl
    · exact rfl
    refine ADraw.post (Q' := fun x r H => x = .normal ∧ PutH l F most c H) ?_ ?_ (fun x r H hn h => absurd h.1 hn)
    · refine ADraw.tree tok mixed false [] [0, 1, 2, 3, 5] (.node (.cons 4 (.node (.cons 6 (.node (.cons 7 (.node (.cons 8 (.node (.cons 9 (.node (.cons 10 (.node (.cons 11 (.node .nil) .nil)) .nil)) .nil)) .nil)) .nil)) .nil)) (.cons 6 (.node (.cons 4 (.node (.cons 7 (.node (.cons 8 (.node (.cons 9 (.node (.cons 10 (.node (.cons 11 (.node .nil) .nil)) .nil)) .nil)) .nil)) .nil)) (.cons 7 (.node (.cons 4 (.node (.cons 8 (.node (.cons 9 (.node (.cons 10 (.node (.cons 11 (.node .nil) .nil)) .nil)) .nil)) .nil)) .nil)) .nil))) .nil))) (by kernel_rfl) (fun _ _ _ _ h => (by cases h.1)) ?_
      conv => whnf
      refine And.intro ?_ (And.intro ?_ trivial)
      · conv => whnf
        refine ACall.frame [1, 3] [] rfl (args' := [.sl (some (0, 0)) 12 l.length c, .i .i64 (posF l F), .sl (some (1, 0)) 12 1 1]) (Hc := [.c (frs l ++ Y), .c F.cells]) rfl (by show [Blk.c (subs _ (frs l ++ Y)), Blk.c F.cells] = _; rw [(Pl.frs l).app hY]) (finsert_spec l F (posF l F) c Y hY (posF_le l F) hc hYl hl) ?_
        rintro r H (⟨Y', k1, k2, k3, rfl, rfl⟩ | ⟨d, k1, rfl, rfl⟩)
        · refine ⟨.inl rfl, ?_⟩
          conv => whnf
          refine ⟨(by show 0 + 0 + 1 ≤ 2; omega), ?_⟩
          conv => whnf
          refine ⟨rfl, .inl ⟨Y', k1, k2, k3, ?_⟩⟩
          show [_, Blk.c (subs _ (frs (putL l F) ++ Y')), _, _] = _
          rw [(Pl.frs _).app k2]
          rfl
        · refine ⟨.inl rfl, ?_⟩
          conv => whnf
          refine ⟨(by show 0 + 0 + 1 ≤ 2; omega), ?_⟩
          conv => whnf
          refine ⟨rfl, .inr ⟨d, k1, ?_⟩⟩
          show [_, _, _, _, Blk.c (subs _ (frs (putL l F)))] = _
          rw [subs_frs]
          rfl
      · conv => whnf
        refine And.intro ?_ (And.intro ?_ trivial)
        · conv => whnf
          refine ACall.frame [1, 3] [] rfl (args' := [.sl (some (0, 0)) 12 l.length c, .i .i64 (posF l F), .sl (some (1, 0)) 12 1 1]) (Hc := [.c (frs l ++ Y), .c F.cells]) rfl (by show [Blk.c (subs _ (frs l ++ Y)), Blk.c F.cells] = _; rw [(Pl.frs l).app hY]) (finsert_spec l F (posF l F) c Y hY (posF_le l F) hc hYl hl) ?_
          rintro r H (⟨Y', k1, k2, k3, rfl, rfl⟩ | ⟨d, k1, rfl, rfl⟩)
          · refine ⟨.inl rfl, ?_⟩
            conv => whnf
            refine ⟨(by show 0 + 0 + 1 ≤ 2; omega), ?_⟩
            conv => whnf
            refine ⟨rfl, .inl ⟨Y', k1, k2, k3, ?_⟩⟩
            show [_, Blk.c (subs _ (frs (putL l F) ++ Y')), _, _] = _
            rw [(Pl.frs _).app k2]
            rfl
          · refine ⟨.inl rfl, ?_⟩
            conv => whnf
            refine ⟨(by show 0 + 0 + 1 ≤ 2; omega), ?_⟩
            conv => whnf
            refine ⟨rfl, .inr ⟨d, k1, ?_⟩⟩
            show [_, _, _, _, Blk.c (subs _ (frs (putL l F)))] = _
            rw [subs_frs]
            rfl
        · conv => whnf
          refine ACall.frame [1, 3] [] rfl (args' := [.sl (some (0, 0)) 12 l.length c, .i .i64 (posF l F), .sl (some (1, 0)) 12 1 1]) (Hc := [.c (frs l ++ Y), .c F.cells]) rfl (by show [Blk.c (subs _ (frs l ++ Y)), Blk.c F.cells] = _; rw [(Pl.frs l).app hY]) (finsert_spec l F (posF l F) c Y hY (posF_le l F) hc hYl hl) ?_
          rintro r H (⟨Y', k1, k2, k3, rfl, rfl⟩ | ⟨d, k1, rfl, rfl⟩)
          · refine ⟨.inl rfl, ?_⟩
            conv => whnf
            refine ⟨(by show 0 + 0 + 1 ≤ 2; omega), ?_⟩
            conv => whnf
            refine ⟨rfl, .inl ⟨Y', k1, k2, k3, ?_⟩⟩
            show [_, Blk.c (subs _ (frs (putL l F) ++ Y')), _, _] = _
            rw [(Pl.frs _).app k2]
            rfl
          · refine ⟨.inl rfl, ?_⟩
            conv => whnf
            refine ⟨(by show 0 + 0 + 1 ≤ 2; omega), ?_⟩
            conv => whnf
            refine ⟨rfl, .inr ⟨d, k1, ?_⟩⟩
            show [_, _, _, _, Blk.c (subs _ (frs (putL l F)))] = _
            rw [subs_frs]
            rfl
    · rintro r H ⟨_, ⟨Y', k1, k2, k3, rfl⟩ | ⟨d, k1, rfl⟩⟩
      · refine Gh.regs [] (Gh.of ?_)
        conv => whnf
        refine GhR.sel [0, 1] rfl (GhR.of ⟨rfl, .inl ⟨c, Y', by rw [putL_length]; exact k1, k2, by rw [putL_length]; exact k3, ?_⟩⟩)
        rw [putL_length]
        show [_, Blk.c (subs _ (frs (putL l F) ++ Y'))] = _
        rw [(Pl.frs _).app k2]
        rfl
      · refine Gh.regs [] (Gh.of ?_)
        conv => whnf
        have hpl := frs_length (putL l F)
        rw [putL_length] at hpl
        refine GhR.sel [0, 1, 4] rfl (GhR.pad 0 0 2 rfl rfl rfl (GhR.of ⟨rfl, .inr ⟨d, List.replicate (d * 12 - (l.length + 1) * 12) .un, by rw [putL_length]; exact k1, Pl.un _, by rw [putL_length, List.length_replicate]; omega, ?_⟩⟩))
        rw [putL_length]
        show [_, Blk.dead, Blk.c (subs _ (frs (putL l F)) ++ List.replicate (d * 12 - (subs _ (frs (putL l F))).length) .un)] = _
        rw [subs_frs, hpl]
        rfl
end Go.AK
namespace Go.AK
open Go Go.RowKit Go.Proofs
set_option linter.unusedVariables false
set_option maxRecDepth 100000
def fndF (l : List Fr) (F : Fr) : Nat := l.findIdx fun G => decide (F = G)
def dropL (l : List Fr) (F : Fr) : List Fr := l.eraseIdx (fndF l F)
set_option maxHeartbeats 400000 in
theorem rput_nil (F : Fr) (hF : F.ok) (most : Int) :
    ACall Try.prog 46 [.p (some (0, 0)), F.av] [.c [.sl none 0 0 0, .i .i64 most]] fun r H => r = .ret (.tup []) ∧ QIn [F] most H := by
  refine ACall.gh ?_
  refine ACall.enter tok false Try.func46 rfl rfl rfl (AW_sound (ip := false) tok _ _ _ _ ?_)
  conv => whnf
  refine ACall.frame [1] [] rfl (args' := [.sl none 0 0 0, .fn (.func 63) [] [.p (some (0, 0))]]) (Hc := [.c F.cells]) rfl rfl
    (ACall.args (indexFunc_spec [] (by simp) (fun _ h => by cases h) _ _ _ _ (putFn_spec F hF)) (VLe.nilrs (VLe.cons VLe.nil))) ?_
  rintro r H ⟨v, hv, rfl, rfl⟩
  refine ⟨.inl rfl, ?_⟩
  have hix := idx_find hv
  obtain ⟨h1, _⟩ | ⟨_, h1⟩ := hix
  · conv => whnf
    refine acond_t (decide_eq_true h1) ?_
    conv => whnf
    refine ADraw.gh (Gh.regs [0, 3, 5] (Gh.of ?_))
    refine ADraw.to (r' := [(0, .p (some (0, 0))), (3, .p (some (1, 0))), (5, .i .i64 0)]) (H' := [.c [.sl none 0 0 0, .i .i64 most], .c F.cells]) rfl rfl ?_
    refine ADraw.post (Q' := fun x r H => x = .normal ∧ ∃ d, 1 ≤ d ∧ H = [.c [.sl (some (3, 0)) 12 1 d, .i .i64 most], .c F.cells, .c F.cells, .c (frs [F])]) ?_ ?_ (fun x r H hn h => absurd h.1 hn)
    · refine ADraw.tree tok mixed false [] [0, 1, 2, 3, 5] (.node (.cons 4 (.node (.cons 6 (.node (.cons 7 (.node (.cons 8 (.node (.cons 9 (.node (.cons 10 (.node (.cons 11 (.node .nil) .nil)) .nil)) .nil)) .nil)) .nil)) .nil)) (.cons 6 (.node (.cons 4 (.node (.cons 7 (.node (.cons 8 (.node (.cons 9 (.node (.cons 10 (.node (.cons 11 (.node .nil) .nil)) .nil)) .nil)) .nil)) .nil)) (.cons 7 (.node (.cons 4 (.node (.cons 8 (.node (.cons 9 (.node (.cons 10 (.node (.cons 11 (.node .nil) .nil)) .nil)) .nil)) .nil)) .nil)) .nil))) .nil))) (by kernel_rfl) (fun _ _ _ _ h => (by cases h.1)) ?_
      conv => whnf
      refine And.intro ?_ (And.intro ?_ trivial)
      · conv => whnf
        refine ACall.frame [2] [] rfl (args' := [.sl none 0 0 0, .i .i64 0, .sl (some (0, 0)) 12 1 1]) (Hc := [.c F.cells]) rfl rfl (finsert_nil F 0) ?_
        rintro r H ⟨d, k1, rfl, rfl⟩
        refine ⟨.inl rfl, ?_⟩
        conv => whnf
        refine ⟨(by show 0 + 0 + 1 ≤ 2; omega), ?_⟩
        conv => whnf
        refine ⟨rfl, d, k1, ?_⟩
        rfl
      · conv => whnf
        refine And.intro ?_ (And.intro ?_ trivial)
        · conv => whnf
          refine ACall.frame [2] [] rfl (args' := [.sl none 0 0 0, .i .i64 0, .sl (some (0, 0)) 12 1 1]) (Hc := [.c F.cells]) rfl rfl (finsert_nil F 0) ?_
          rintro r H ⟨d, k1, rfl, rfl⟩
          refine ⟨.inl rfl, ?_⟩
          conv => whnf
          refine ⟨(by show 0 + 0 + 1 ≤ 2; omega), ?_⟩
          conv => whnf
          refine ⟨rfl, d, k1, ?_⟩
          rfl
        · conv => whnf
          refine ACall.frame [2] [] rfl (args' := [.sl none 0 0 0, .i .i64 0, .sl (some (0, 0)) 12 1 1]) (Hc := [.c F.cells]) rfl rfl (finsert_nil F 0) ?_
          rintro r H ⟨d, k1, rfl, rfl⟩
          refine ⟨.inl rfl, ?_⟩
          conv => whnf
          refine ⟨(by show 0 + 0 + 1 ≤ 2; omega), ?_⟩
          conv => whnf
          refine ⟨rfl, d, k1, ?_⟩
          rfl
    · rintro r H ⟨_, d, k1, rfl⟩
      refine Gh.regs [] (Gh.of ?_)
      conv => whnf
      refine GhR.sel [0, 3] rfl (GhR.pad 0 0 1 rfl rfl rfl (GhR.of ⟨rfl, d, List.replicate (d * 12 - 12) .un, k1, Pl.un _, by rw [List.length_replicate]; simp; omega, ?_⟩))
      rfl
  · simp at h1
set_option maxHeartbeats 400000 in
theorem rdrop_spec (l : List Fr) (F : Fr) (most : Int) (c : Nat) (Y : List AV) (hc : l.length ≤ c) (hY : Pl Y) (hYl : Y.length = (c - l.length) * 12) (hl : l.length < 1000000) :
    ACall Try.prog 44 [.p (some (0, 0)), F.av] [.c [.sl (some (1, 0)) 12 l.length c, .i .i64 most], .c (frs l ++ Y)] fun r H => (F ∈ l ∧ r = .ret (.b true) ∧ QIn (dropL l F) most H) ∨ (¬ F ∈ l ∧ r = .ret (.b false) ∧ QIn l most H) := by
  refine ACall.gh ?_
  refine ACall.enter tok false Try.func44 rfl rfl rfl (AW_sound (ip := false) tok _ _ _ _ ?_)
  conv => whnf
  refine ADraw.of tok mixed false [0, 1, 2, 3, 4] [5, 6] (by kernel_rfl) (fun _ _ _ _ h => h) ?_
  conv => whnf
  refine ACall.frame [] [1] rfl (args' := [.rs (frs l ++ Y) 0 12 l.length, F.av]) (Hc := []) (by show [AV.rs (subs _ (frs l ++ Y)) 0 12 l.length, _] = _; rw [(Pl.frs l).app hY]; rfl) rfl
    (ACall.args (fidx_spec l F (by omega)) (VLe.rsPre (VLe.cons VLe.nil))) ?_
  rintro r H ⟨v, hv, rfl, rfl⟩
  refine ⟨.inr ⟨rfl, rfl⟩, ?_⟩
  have hix := idx_find hv
  conv => whnf
  rcases hix with ⟨h1, h2⟩ | ⟨h1, h2⟩
  · refine acond_t (decide_eq_true h1) ?_
    conv => whnf
    have hn : ¬ F ∈ l := fun h => by
      have := List.findIdx_eq_length.1 h2 F h
      simp at this
    refine GhR.sel [0, 1] rfl (GhR.of (.inr ⟨hn, rfl, c, Y, hc, hY, hYl, ?_⟩))
    show [_, Blk.c (subs _ (frs l ++ Y))] = _
    rw [(Pl.frs _).app hY]
    rfl
  · have hm : F ∈ l := by
      have := List.findIdx_getElem (w := h2)
      simp only [decide_eq_true_eq] at this
      rw [this]; exact List.getElem_mem _
    subst h1
    have hw : IntKind.i64.wrap (((l.findIdx fun G => decide (F = G) : Nat) : Int) + 1) = ((l.findIdx (fun G => decide (F = G)) + 1 : Nat) : Int) := by rw [w64 (by omega) (by omega)]; omega
    conv => whnf
    refine ACall.frame [1] [] rfl (args' := [.sl (some (0, 0)) 12 l.length c, .i .i64 (l.findIdx fun G => decide (F = G) : Nat), .i .i64 ((l.findIdx fun G => decide (F = G)) + 1 : Nat)]) (Hc := [.c (frs l ++ Y)])
      (by show [_, _, AV.i .i64 (IntKind.i64.wrap _)] = _; rw [hw]; rfl) (by show [Blk.c (subs _ (frs l ++ Y))] = _; rw [(Pl.frs l).app hY]) (fdelete_spec l _ c Y hY h2 hc hl) ?_
    rintro r H ⟨rfl, rfl⟩
    refine ⟨.inl rfl, ?_⟩
    conv => whnf
    refine ⟨(by show 0 + 0 + 1 ≤ 2; omega), ?_⟩
    conv => whnf
    have hlen : (dropL l F).length = l.length - 1 := List.length_eraseIdx_of_lt h2
    refine GhR.sel [0, 1] rfl (GhR.of (.inl ⟨hm, rfl, c, z12 ++ Y, by omega, Pl.app (fun φ => rfl) hY, by rw [List.length_append, z12_len, hlen]; omega, ?_⟩))
    rw [hlen]
    show [_, Blk.c (subs _ (subs _ (frs (dropL l F) ++ (z12 ++ Y))))] = _
    have hp : Pl (frs (dropL l F) ++ (z12 ++ Y)) := (Pl.frs _).app (Pl.app (fun φ => rfl) hY)
    rw [hp, hp]
    rfl
theorem rdrop_nil (F : Fr) (most : Int) : ACall Try.prog 44 [.p (some (0, 0)), F.av] [.c [.sl none 0 0 0, .i .i64 most]] fun r H => r = .ret (.b false) ∧ H = [.c [.sl none 0 0 0, .i .i64 most]] := by
  refine ACall.gh ?_
  refine ACall.enter tok false Try.func44 rfl rfl rfl (AW_sound (ip := false) tok _ _ _ _ ?_)
  conv => whnf
  refine ADraw.of tok mixed false [0, 1, 2, 3, 4] [5, 6] (by kernel_rfl) (fun _ _ _ _ h => h) ?_
  conv => whnf
  refine ACall.frame [] [] rfl (args' := [.sl none 0 0 0, F.av]) (Hc := []) rfl rfl (ACall.args (fidx_spec [] F (by simp)) (VLe.nilrs (VLe.cons VLe.nil))) ?_
  rintro r H ⟨v, hv, rfl, rfl⟩
  refine ⟨.inl rfl, ?_⟩
  obtain ⟨h1, _⟩ | ⟨_, h1⟩ := idx_find hv
  · conv => whnf
    refine acond_t (decide_eq_true h1) ?_
    conv => whnf
    exact GhR.sel [0] rfl (GhR.of ⟨rfl, rfl⟩)
  · simp at h1
end Go.AK
namespace Go.AK
open Go Go.RowKit Go.Proofs
set_option linter.unusedVariables false
set_option maxRecDepth 100000
theorem qnew_spec (most : Int) : ACall Try.prog 15 [.i .i64 most] [] fun r H => ((most < 1 ∨ most > 16) ∧ r = .ret (.tup [.p none, .i .i64 10]) ∧ H = []) ∨ (1 ≤ most ∧ most ≤ 16 ∧ r = .ret (.tup [.p (some (0, 0)), .i .i64 0]) ∧ QNil most H) := by
  refine ACall.enter tok false Try.func15 rfl rfl rfl (AW_sound (ip := false) tok _ _ _ _ ?_)
  conv => whnf
  by_cases h1 : most < 1
  · repeat (refine acond_t (decide_eq_true h1) ?_; conv => whnf)
    exact .inl ⟨.inl h1, rfl, rfl⟩
  · by_cases h2 : most > 16
    · repeat (first | (refine acond_f (decide_eq_false h1) ?_; conv => whnf) | (refine acond_t (decide_eq_true h2) ?_; conv => whnf))
      exact .inl ⟨.inr h2, rfl, rfl⟩
    · repeat (first | (refine acond_f (decide_eq_false h1) ?_; conv => whnf) | (refine acond_f (decide_eq_false h2) ?_; conv => whnf))
      exact .inr ⟨by omega, by omega, rfl, rfl⟩
theorem qsize_spec (a : Option (Nat × Nat)) (z n c : Nat) (m : AV) (H : Heap) : ACall Try.prog 45 [.p (some (0, 0))] (.c [.sl a z n c, m] :: H) fun r H' => r = .ret (.i .i64 n) ∧ H' = .c [.sl a z n c, m] :: H := by
  refine ACall.enter tok false Try.func45 rfl rfl rfl (AW_sound (ip := false) tok _ _ _ _ ?_)
  conv => whnf
  cases a
  · conv => whnf
    exact ⟨rfl, rfl⟩
  · conv => whnf
    exact ⟨rfl, rfl⟩
theorem qlen_spec (a : Option (Nat × Nat)) (z n c : Nat) (m : AV) (H : Heap) : ACall Try.prog 25 [.p (some (0, 0))] (.c [.sl a z n c, m] :: H) fun r H' => r = .ret (.i .i64 n) ∧ H' = .c [.sl a z n c, m] :: H := by
  refine ACall.enter tok false Try.func25 rfl rfl rfl (AW_sound (ip := false) tok _ _ _ _ ?_)
  conv => whnf
  refine ACall.mono (qsize_spec a z n c m H) ?_
  rintro r H' ⟨rfl, rfl⟩
  conv => whnf
  exact ⟨rfl, rfl⟩
theorem qall_spec (l : List Fr) (most : Int) (c : Nat) (Y : List AV) (hY : Pl Y) (hl : l.length < 1000000) :
    ACall Try.prog 17 [.p (some (0, 0))] [.c [.sl (some (1, 0)) 12 l.length c, .i .i64 most], .c (frs l ++ Y)] fun r H => ∃ d, l.length ≤ d ∧ r = .ret (.sl (some (2, 0)) 12 l.length d) ∧ H = [.c [.sl (some (1, 0)) 12 l.length c, .i .i64 most], .c (frs l ++ Y), .c (frs l)] := by
  refine ACall.enter tok false Try.func17 rfl rfl rfl (AW_sound (ip := false) tok _ _ _ _ ?_)
  conv => whnf
  refine ACall.frame [1] [] rfl (args' := [.sl (some (0, 0)) 12 l.length c]) (Hc := [.c (frs l ++ Y)]) rfl (by show [Blk.c (subs _ (frs l ++ Y))] = _; rw [(Pl.frs l).app hY]) (fclone_spec l c Y hY hl) ?_
  rintro r H ⟨d, hd, rfl, rfl⟩
  refine ⟨.inl rfl, ?_⟩
  conv => whnf
  refine ⟨d, hd, rfl, ?_⟩
  show [_, Blk.c (subs _ (frs l ++ Y)), Blk.c (subs _ (frs l))] = _
  rw [(Pl.frs l).app hY, subs_frs]
theorem qall_nil (most : Int) : ACall Try.prog 17 [.p (some (0, 0))] [.c [.sl none 0 0 0, .i .i64 most]] fun r H => r = .ret (.sl none 0 0 0) ∧ H = [.c [.sl none 0 0 0, .i .i64 most]] := by
  refine ACall.enter tok false Try.func17 rfl rfl rfl (AW_sound (ip := false) tok _ _ _ _ ?_)
  conv => whnf
  refine ACall.frame [] [] rfl (args' := [.sl none 0 0 0]) (Hc := []) rfl rfl (fclone_nil 0) ?_
  rintro r H ⟨rfl, rfl⟩
  refine ⟨.inl rfl, ?_⟩
  conv => whnf
  exact ⟨rfl, rfl⟩
theorem qfirst_spec (F : Fr) (l : List Fr) (most : Int) (c : Nat) (Y : List AV) (hY : Pl Y) :
    ACall Try.prog 26 [.p (some (0, 0))] [.c [.sl (some (1, 0)) 12 (F :: l).length c, .i .i64 most], .c (frs (F :: l) ++ Y)] fun r H => r = .ret (.tup [F.av, .b true]) ∧ H = [.c [.sl (some (1, 0)) 12 (F :: l).length c, .i .i64 most], .c (frs (F :: l) ++ Y)] := by
  refine ACall.gh ?_
  refine ACall.enter tok false Try.func26 rfl rfl rfl (AW_sound (ip := false) tok _ _ _ _ ?_)
  conv => whnf
  refine ACall.mono (qsize_spec _ _ _ _ _ _) ?_
  rintro r H' ⟨rfl, rfl⟩
  conv => whnf
  repeat (refine acond_f (beq_eq_false_iff_ne.2 (by simp; omega)) ?_; conv => whnf)
  refine ⟨⟨by omega, by simp⟩, ?_⟩
  conv => whnf
  refine ⟨(by show 0 + 12 ≤ 12; omega), ?_⟩
  conv => whnf
  refine GhR.sel [0, 1] rfl (GhR.of ⟨rfl, ?_⟩)
  show [_, Blk.c (subs _ (frs (F :: l) ++ Y))] = _
  rw [(Pl.frs _).app hY]
  rfl
def zav : AV := .agg z12
theorem qfirst_none (most : Int) (c : Nat) (Y : List AV) (hY : Pl Y) :
    ACall Try.prog 26 [.p (some (0, 0))] [.c [.sl (some (1, 0)) 12 0 c, .i .i64 most], .c Y] fun r H => r = .ret (.tup [zav, .b false]) ∧ H = [.c [.sl (some (1, 0)) 12 0 c, .i .i64 most], .c Y] := by
  refine ACall.gh ?_
  refine ACall.enter tok false Try.func26 rfl rfl rfl (AW_sound (ip := false) tok _ _ _ _ ?_)
  conv => whnf
  refine ACall.mono (qsize_spec _ _ _ _ _ _) ?_
  rintro r H' ⟨rfl, rfl⟩
  conv => whnf
  refine ⟨(by show 0 + 12 ≤ 12; omega), ?_⟩
  conv => whnf
  refine GhR.sel [0, 1] rfl (GhR.of ⟨rfl, ?_⟩)
  show [_, Blk.c (subs _ Y)] = _
  rw [hY]
  rfl
theorem qfirst_nil (most : Int) :
    ACall Try.prog 26 [.p (some (0, 0))] [.c [.sl none 0 0 0, .i .i64 most]] fun r H => r = .ret (.tup [zav, .b false]) ∧ H = [.c [.sl none 0 0 0, .i .i64 most]] := by
  refine ACall.gh ?_
  refine ACall.enter tok false Try.func26 rfl rfl rfl (AW_sound (ip := false) tok _ _ _ _ ?_)
  conv => whnf
  refine ACall.mono (qsize_spec _ _ _ _ _ _) ?_
  rintro r H' ⟨rfl, rfl⟩
  conv => whnf
  refine ⟨(by show 0 + 12 ≤ 12; omega), ?_⟩
  conv => whnf
  exact GhR.sel [0] rfl (GhR.of ⟨rfl, rfl⟩)
/-- What putting in tells. -/
def putE (l : List Fr) (F : Fr) (most : Int) : Int := if F.may then (if (l.length : Int) ≥ most then 15 else 0) else 14
set_option maxHeartbeats 400000 in
theorem qput_spec (l : List Fr) (hok : ∀ F ∈ l, F.ok) (F : Fr) (hF : F.ok) (most : Int) (c : Nat) (Y : List AV) (hc : l.length ≤ c) (hY : Pl Y) (hYl : Y.length = (c - l.length) * 12) (hl : l.length < 1000000) :
    ACall Try.prog 21 [.p (some (0, 0)), F.av] [.c [.sl (some (1, 0)) 12 l.length c, .i .i64 most], .c (frs l ++ Y)] fun r H => r = .ret (.i .i64 (putE l F most)) ∧ ((putE l F most = 0 ∧ (QIn (putL l F) most H ∨ QMv (putL l F) most H)) ∨ (putE l F most ≠ 0 ∧ QIn l most H)) := by
  refine ACall.gh ?_
  refine ACall.enter tok false Try.func21 rfl rfl rfl (AW_sound (ip := false) tok _ _ _ _ ?_)
  have hp : Pl (frs l ++ Y) := (Pl.frs l).app hY
  conv => whnf
  refine ACall.frame [] [] rfl (args' := [F.av]) (Hc := []) rfl rfl (check_spec F hF) ?_
  rintro r H ⟨rfl, rfl⟩
  refine ⟨.inl rfl, ?_⟩
  by_cases hm : F.may
  · rw [Fr.good hm]
    conv => whnf
    refine ADraw.post (Q' := fun x r H => x = .normal ∧ keepR [21, 0, 3, 4] r = [(21, .b (decide ((l.length : Int) ≥ most))), (0, .p (some (0, 0))), (3, .p (some (2, 0))), (4, .i .i64 0)] ∧ H = [.c [.sl (some (1, 0)) 12 l.length c, .i .i64 most], .c (frs l ++ Y), .c F.cells]) ?_ ?_ (fun x r H hn h => absurd h.1 hn)
    · refine ADraw.tree tok mixed false [] [0, 1, 2, 4, 5, 6] (.node (.cons 3 (.node (.cons 7 (.node (.cons 8 (.node .nil) .nil)) .nil)) (.cons 7 (.node (.cons 3 (.node (.cons 8 (.node .nil) .nil)) .nil)) .nil))) (by kernel_rfl) (fun _ _ _ _ h => (by cases h.1)) ?_
      conv => whnf
      refine And.intro ?_ (And.intro ?_ trivial)
      · conv => whnf
        refine ACall.mono (qsize_spec _ _ _ _ _ _) ?_
        rintro r H' ⟨rfl, rfl⟩
        conv => whnf
        exact ⟨rfl, rfl, rfl⟩
      · conv => whnf
        refine ACall.mono (qsize_spec _ _ _ _ _ _) ?_
        rintro r H' ⟨rfl, rfl⟩
        conv => whnf
        exact ⟨rfl, rfl, rfl⟩
    · rintro r H ⟨_, hr, rfl⟩
      refine Gh.regs [21, 0, 3, 4] (Gh.of ?_)
      rw [hr]
      conv => whnf
      by_cases hfull : (l.length : Int) ≥ most
      · refine acond_t (decide_eq_true hfull) ?_
        conv => whnf
        have he : putE l F most = 15 := by unfold putE; rw [if_pos hm, if_pos hfull]
        rw [he]
        refine GhR.sel [0, 1] rfl (GhR.of ⟨rfl, .inr ⟨by omega, c, Y, hc, hY, hYl, ?_⟩⟩)
        show [_, Blk.c (subs _ (frs l ++ Y))] = _
        rw [hp]
        rfl
      · refine acond_f (decide_eq_false hfull) ?_
        conv => whnf
        have he : putE l F most = 0 := by unfold putE; rw [if_pos hm, if_neg hfull]
        rw [he]
        refine ADraw.of tok mixed false [0, 1, 2, 3] [4] (by kernel_rfl) (fun _ _ _ _ h => h) ?_
        conv => whnf
        refine ACall.frame [0, 1] [] rfl (args' := [.p (some (0, 0)), F.av]) (Hc := [.c [.sl (some (1, 0)) 12 l.length c, .i .i64 most], .c (frs l ++ Y)]) rfl (by show [_, Blk.c (subs _ (frs l ++ Y))] = _; rw [hp]; rfl) (rput_spec l hok F hF most c Y hc hY hYl hl) ?_
        rintro r H ⟨rfl, ⟨d, Z, k1, k2, k3, rfl⟩ | ⟨d, Z, k1, k2, k3, rfl⟩⟩
        · refine ⟨.inl rfl, ?_⟩
          conv => whnf
          have hz : Pl (frs (putL l F) ++ Z) := (Pl.frs _).app k2
          refine GhR.sel [0, 1] rfl (GhR.of ⟨rfl, .inl ⟨rfl, .inl ⟨d, Z, k1, k2, k3, ?_⟩⟩⟩)
          show [_, Blk.c (subs _ (subs _ (frs (putL l F) ++ Z)))] = _
          rw [hz, hz]
          rfl
        · refine ⟨.inl rfl, ?_⟩
          conv => whnf
          have hz : Pl (frs (putL l F) ++ Z) := (Pl.frs _).app k2
          refine GhR.sel [0, 1, 3] rfl (GhR.of ⟨rfl, .inl ⟨rfl, .inr ⟨d, Z, k1, k2, k3, ?_⟩⟩⟩)
          show [_, _, Blk.c (subs _ (subs _ (frs (putL l F) ++ Z)))] = _
          rw [hz, hz]
          rfl
  · rw [Fr.bad hm]
    conv => whnf
    have he : putE l F most = 14 := by unfold putE; rw [if_neg hm]
    rw [he]
    refine GhR.sel [0, 1] rfl (GhR.of ⟨rfl, .inr ⟨by omega, c, Y, hc, hY, hYl, ?_⟩⟩)
    show [_, Blk.c (subs _ (frs l ++ Y))] = _
    rw [hp]
    rfl
end Go.AK
namespace Go.AK
open Go Go.RowKit Go.Proofs
set_option linter.unusedVariables false
set_option maxRecDepth 100000
set_option maxHeartbeats 400000 in
theorem qput_nil (F : Fr) (hF : F.ok) (most : Int) (hmost : 1 ≤ most) :
    ACall Try.prog 21 [.p (some (0, 0)), F.av] [.c [.sl none 0 0 0, .i .i64 most]] fun r H => r = .ret (.i .i64 F.chk) ∧ ((F.may ∧ QIn [F] most H) ∨ (¬ F.may ∧ QNil most H)) := by
  refine ACall.gh ?_
  refine ACall.enter tok false Try.func21 rfl rfl rfl (AW_sound (ip := false) tok _ _ _ _ ?_)
  conv => whnf
  refine ACall.frame [] [] rfl (args' := [F.av]) (Hc := []) rfl rfl (check_spec F hF) ?_
  rintro r H ⟨rfl, rfl⟩
  refine ⟨.inl rfl, ?_⟩
  by_cases hm : F.may
  · rw [Fr.good hm]
    conv => whnf
    refine ADraw.post (Q' := fun x r H => x = .normal ∧ keepR [21, 0, 3, 4] r = [(21, .b (decide (((0 : Nat) : Int) ≥ most))), (0, .p (some (0, 0))), (3, .p (some (1, 0))), (4, .i .i64 0)] ∧ H = [.c [.sl none 0 0 0, .i .i64 most], .c F.cells]) ?_ ?_ (fun x r H hn h => absurd h.1 hn)
    · refine ADraw.tree tok mixed false [] [0, 1, 2, 4, 5, 6] (.node (.cons 3 (.node (.cons 7 (.node (.cons 8 (.node .nil) .nil)) .nil)) (.cons 7 (.node (.cons 3 (.node (.cons 8 (.node .nil) .nil)) .nil)) .nil))) (by kernel_rfl) (fun _ _ _ _ h => (by cases h.1)) ?_
      conv => whnf
      refine And.intro ?_ (And.intro ?_ trivial)
      · conv => whnf
        refine ACall.mono (qsize_spec _ _ _ _ _ _) ?_
        rintro r H' ⟨rfl, rfl⟩
        conv => whnf
        exact ⟨rfl, rfl, rfl⟩
      · conv => whnf
        refine ACall.mono (qsize_spec _ _ _ _ _ _) ?_
        rintro r H' ⟨rfl, rfl⟩
        conv => whnf
        exact ⟨rfl, rfl, rfl⟩
    · rintro r H ⟨_, hr, rfl⟩
      refine Gh.regs [21, 0, 3, 4] (Gh.of ?_)
      rw [hr]
      conv => whnf
      have hf : decide (((0 : Nat) : Int) ≥ most) = false := decide_eq_false (by omega)
      refine acond_f hf ?_
      conv => whnf
      refine ADraw.of tok mixed false [0, 1, 2, 3] [4] (by kernel_rfl) (fun _ _ _ _ h => h) ?_
      conv => whnf
      refine ACall.frame [0] [] rfl (args' := [.p (some (0, 0)), F.av]) (Hc := [.c [.sl none 0 0 0, .i .i64 most]]) rfl rfl (rput_nil F hF most) ?_
      rintro r H ⟨rfl, d, Z, k1, k2, k3, rfl⟩
      refine ⟨.inl rfl, ?_⟩
      conv => whnf
      have hz : Pl (frs [F] ++ Z) := (Pl.frs _).app k2
      refine GhR.sel [0, 2] rfl (GhR.of ⟨rfl, .inl ⟨hm, d, Z, k1, k2, k3, ?_⟩⟩)
      show [_, Blk.c (subs _ (subs _ (frs [F] ++ Z)))] = _
      rw [hz, hz]
      rfl
  · rw [Fr.bad hm]
    conv => whnf
    exact GhR.sel [0] rfl (GhR.of ⟨rfl, .inr ⟨hm, rfl⟩⟩)
theorem qdrop_spec (l : List Fr) (F : Fr) (most : Int) (c : Nat) (Y : List AV) (hc : l.length ≤ c) (hY : Pl Y) (hYl : Y.length = (c - l.length) * 12) (hl : l.length < 1000000) :
    ACall Try.prog 19 [.p (some (0, 0)), F.av] [.c [.sl (some (1, 0)) 12 l.length c, .i .i64 most], .c (frs l ++ Y)] fun r H => (F ∈ l ∧ r = .ret (.i .i64 0) ∧ QIn (dropL l F) most H) ∨ (¬ F ∈ l ∧ r = .ret (.i .i64 16) ∧ QIn l most H) := by
  refine ACall.gh ?_
  refine ACall.enter tok false Try.func19 rfl rfl rfl (AW_sound (ip := false) tok _ _ _ _ ?_)
  have hp : Pl (frs l ++ Y) := (Pl.frs l).app hY
  conv => whnf
  refine ADraw.of tok mixed false [0, 1, 2, 3] [4, 5, 6] (by kernel_rfl) (fun _ _ _ _ h => h) ?_
  conv => whnf
  refine ACall.frame [0, 1] [] rfl (args' := [.p (some (0, 0)), F.av]) (Hc := [.c [.sl (some (1, 0)) 12 l.length c, .i .i64 most], .c (frs l ++ Y)]) rfl (by show [_, Blk.c (subs _ (frs l ++ Y))] = _; rw [hp]; rfl) (rdrop_spec l F most c Y hc hY hYl hl) ?_
  rintro r H (⟨hm, rfl, d, Z, k1, k2, k3, rfl⟩ | ⟨hm, rfl, d, Z, k1, k2, k3, rfl⟩)
  · refine ⟨.inl rfl, ?_⟩
    conv => whnf
    have hz : Pl (frs (dropL l F) ++ Z) := (Pl.frs _).app k2
    refine GhR.sel [0, 1] rfl (GhR.of (.inl ⟨hm, rfl, d, Z, k1, k2, k3, ?_⟩))
    show [_, Blk.c (subs _ (subs _ (frs (dropL l F) ++ Z)))] = _
    rw [hz, hz]
    rfl
  · refine ⟨.inl rfl, ?_⟩
    conv => whnf
    have hz : Pl (frs l ++ Z) := (Pl.frs _).app k2
    refine GhR.sel [0, 1] rfl (GhR.of (.inr ⟨hm, rfl, d, Z, k1, k2, k3, ?_⟩))
    show [_, Blk.c (subs _ (subs _ (frs l ++ Z)))] = _
    rw [hz, hz]
    rfl
theorem qdrop_nil (F : Fr) (most : Int) : ACall Try.prog 19 [.p (some (0, 0)), F.av] [.c [.sl none 0 0 0, .i .i64 most]] fun r H => r = .ret (.i .i64 16) ∧ H = [.c [.sl none 0 0 0, .i .i64 most]] := by
  refine ACall.gh ?_
  refine ACall.enter tok false Try.func19 rfl rfl rfl (AW_sound (ip := false) tok _ _ _ _ ?_)
  conv => whnf
  refine ADraw.of tok mixed false [0, 1, 2, 3] [4, 5, 6] (by kernel_rfl) (fun _ _ _ _ h => h) ?_
  conv => whnf
  refine ACall.frame [0] [] rfl (args' := [.p (some (0, 0)), F.av]) (Hc := [.c [.sl none 0 0 0, .i .i64 most]]) rfl rfl (rdrop_nil F most) ?_
  rintro r H ⟨rfl, rfl⟩
  refine ⟨.inl rfl, ?_⟩
  conv => whnf
  exact GhR.sel [0] rfl (GhR.of ⟨rfl, rfl⟩)
set_option maxHeartbeats 400000 in
theorem qclone_spec (l : List Fr) (most : Int) (c : Nat) (Y : List AV) (hc : l.length ≤ c) (hY : Pl Y) (hl : l.length < 1000000) :
    ACall Try.prog 18 [.p (some (0, 0))] [.c [.sl (some (1, 0)) 12 l.length c, .i .i64 most], .c (frs l ++ Y)] fun r H => ∃ d Z, l.length ≤ d ∧ Pl Z ∧ Z.length = (d - l.length) * 12 ∧ r = .ret (.p (some (2, 0))) ∧
      H = [.c [.sl (some (1, 0)) 12 l.length c, .i .i64 most], .c (frs l ++ Y), .c [.sl (some (3, 0)) 12 l.length d, .i .i64 most], .c (frs l ++ Z)] := by
  refine ACall.gh ?_
  refine ACall.enter tok false Try.func18 rfl rfl rfl (AW_sound (ip := false) tok _ _ _ _ ?_)
  have hp : Pl (frs l ++ Y) := (Pl.frs l).app hY
  have hcl := fclone_spec l c Y hY hl
  conv => whnf
  refine ADraw.post (Q' := fun x r H => x = .normal ∧ ∃ d, l.length ≤ d ∧ keepR [2] r = [(2, .p (some (3, 0)))] ∧ H = [.c [.sl (some (1, 0)) 12 l.length c, .i .i64 most], .c (frs l ++ Y), .c (frs l), .c [.sl (some (2, 0)) 12 l.length d, .i .i64 most]]) ?_ ?_ (fun x r H hn h => absurd h.1 hn)
  · refine ADraw.tree tok mixed false [] [0, 1, 2, 3, 7, 8, 9] (.node (.cons 4 (.node (.cons 5 (.node (.cons 6 (.node (.cons 10 (.node (.cons 11 (.node (.cons 12 (.node (.cons 13 (.node .nil) .nil)) .nil)) .nil)) .nil)) (.cons 10 (.node (.cons 6 (.node (.cons 11 (.node (.cons 12 (.node (.cons 13 (.node .nil) .nil)) .nil)) .nil)) .nil)) .nil))) (.cons 10 (.node (.cons 5 (.node (.cons 6 (.node (.cons 11 (.node (.cons 12 (.node (.cons 13 (.node .nil) .nil)) .nil)) .nil)) .nil)) .nil)) .nil))) (.cons 10 (.node (.cons 4 (.node (.cons 5 (.node (.cons 6 (.node (.cons 11 (.node (.cons 12 (.node (.cons 13 (.node .nil) .nil)) .nil)) .nil)) .nil)) .nil)) .nil)) .nil))) (by kernel_rfl) (fun _ _ _ _ h => (by cases h.1)) ?_
    conv => whnf
    refine And.intro ?_ (And.intro ?_ trivial)
    · conv => whnf
      refine And.intro ?_ (And.intro ?_ trivial)
      · conv => whnf
        refine ACall.frame [1] [] rfl (args' := [.sl (some (0, 0)) 12 l.length c]) (Hc := [.c (frs l ++ Y)]) rfl (by show [Blk.c (subs _ (frs l ++ Y))] = _; rw [hp]) hcl ?_
        rintro r H ⟨d, hd, rfl, rfl⟩
        refine ⟨.inl rfl, ?_⟩
        conv => whnf
        refine And.intro ?_ (And.intro ?_ trivial)
        · conv => whnf
          refine ⟨rfl, d, hd, rfl, ?_⟩
          show [_, Blk.c (subs _ (frs l ++ Y)), Blk.c (subs _ (frs l)), _] = _
          rw [hp, subs_frs]
          rfl
        · conv => whnf
          refine ⟨rfl, d, hd, rfl, ?_⟩
          show [_, Blk.c (subs _ (frs l ++ Y)), Blk.c (subs _ (frs l)), _] = _
          rw [hp, subs_frs]
          rfl
      · conv => whnf
        refine ACall.frame [1] [] rfl (args' := [.sl (some (0, 0)) 12 l.length c]) (Hc := [.c (frs l ++ Y)]) rfl (by show [Blk.c (subs _ (frs l ++ Y))] = _; rw [hp]) hcl ?_
        rintro r H ⟨d, hd, rfl, rfl⟩
        refine ⟨.inl rfl, ?_⟩
        conv => whnf
        refine ⟨rfl, d, hd, rfl, ?_⟩
        show [_, Blk.c (subs _ (frs l ++ Y)), Blk.c (subs _ (frs l)), _] = _
        rw [hp, subs_frs]
        rfl
    · conv => whnf
      refine ACall.frame [1] [] rfl (args' := [.sl (some (0, 0)) 12 l.length c]) (Hc := [.c (frs l ++ Y)]) rfl (by show [Blk.c (subs _ (frs l ++ Y))] = _; rw [hp]) hcl ?_
      rintro r H ⟨d, hd, rfl, rfl⟩
      refine ⟨.inl rfl, ?_⟩
      conv => whnf
      refine ⟨rfl, d, hd, rfl, ?_⟩
      show [_, Blk.c (subs _ (frs l ++ Y)), Blk.c (subs _ (frs l)), _] = _
      rw [hp, subs_frs]
      rfl
  · rintro r H ⟨_, d, k1, hr, rfl⟩
    refine Gh.regs [2] (Gh.of ?_)
    rw [hr]
    conv => whnf
    have hfl := frs_length l
    refine GhR.sel [0, 1, 3, 2] rfl (GhR.pad 2 0 3 rfl rfl rfl (GhR.of ⟨d, List.replicate (d * 12 - l.length * 12) .un, k1, Pl.un _, by rw [List.length_replicate]; omega, rfl, ?_⟩))
    show [_, Blk.c (subs _ (frs l ++ Y)), _, Blk.c (subs _ (frs l) ++ List.replicate (d * 12 - (subs _ (frs l)).length) .un)] = _
    rw [hp, subs_frs, hfl]
    rfl
theorem qclone_nil (most : Int) : ACall Try.prog 18 [.p (some (0, 0))] [.c [.sl none 0 0 0, .i .i64 most]] fun r H => r = .ret (.p (some (1, 0))) ∧ H = [.c [.sl none 0 0 0, .i .i64 most], .c [.sl none 0 0 0, .i .i64 most]] := by
  refine ACall.gh ?_
  refine ACall.enter tok false Try.func18 rfl rfl rfl (AW_sound (ip := false) tok _ _ _ _ ?_)
  conv => whnf
  refine ADraw.post (Q' := fun x r H => x = .normal ∧ keepR [2] r = [(2, .p (some (1, 0)))] ∧ H = [.c [.sl none 0 0 0, .i .i64 most], .c [.sl none 0 0 0, .i .i64 most]]) ?_ ?_ (fun x r H hn h => absurd h.1 hn)
  · refine ADraw.tree tok mixed false [] [0, 1, 2, 3, 7, 8, 9] (.node (.cons 4 (.node (.cons 5 (.node (.cons 6 (.node (.cons 10 (.node (.cons 11 (.node (.cons 12 (.node (.cons 13 (.node .nil) .nil)) .nil)) .nil)) .nil)) (.cons 10 (.node (.cons 6 (.node (.cons 11 (.node (.cons 12 (.node (.cons 13 (.node .nil) .nil)) .nil)) .nil)) .nil)) .nil))) (.cons 10 (.node (.cons 5 (.node (.cons 6 (.node (.cons 11 (.node (.cons 12 (.node (.cons 13 (.node .nil) .nil)) .nil)) .nil)) .nil)) .nil)) .nil))) (.cons 10 (.node (.cons 4 (.node (.cons 5 (.node (.cons 6 (.node (.cons 11 (.node (.cons 12 (.node (.cons 13 (.node .nil) .nil)) .nil)) .nil)) .nil)) .nil)) .nil)) .nil))) (by kernel_rfl) (fun _ _ _ _ h => (by cases h.1)) ?_
    conv => whnf
    refine And.intro ?_ (And.intro ?_ trivial)
    · conv => whnf
      refine And.intro ?_ (And.intro ?_ trivial)
      · conv => whnf
        refine ACall.frame [] [] rfl (args' := [.sl none 0 0 0]) (Hc := []) rfl rfl (fclone_nil 0) ?_
        rintro r H ⟨rfl, rfl⟩
        refine ⟨.inl rfl, ?_⟩
        conv => whnf
        refine And.intro ?_ (And.intro ?_ trivial)
        · conv => whnf
          exact ⟨rfl, rfl, rfl⟩
        · conv => whnf
          exact ⟨rfl, rfl, rfl⟩
      · conv => whnf
        refine ACall.frame [] [] rfl (args' := [.sl none 0 0 0]) (Hc := []) rfl rfl (fclone_nil 0) ?_
        rintro r H ⟨rfl, rfl⟩
        refine ⟨.inl rfl, ?_⟩
        conv => whnf
        exact ⟨rfl, rfl, rfl⟩
    · conv => whnf
      refine ACall.frame [] [] rfl (args' := [.sl none 0 0 0]) (Hc := []) rfl rfl (fclone_nil 0) ?_
      rintro r H ⟨rfl, rfl⟩
      refine ⟨.inl rfl, ?_⟩
      conv => whnf
      exact ⟨rfl, rfl, rfl⟩
  · rintro r H ⟨_, hr, rfl⟩
    refine Gh.regs [2] (Gh.of ?_)
    rw [hr]
    conv => whnf
    exact GhR.of ⟨rfl, rfl⟩
end Go.AK
namespace Go.AK
open Go Go.RowKit Go.Proofs
set_option linter.unusedVariables false
set_option maxRecDepth 100000
theorem okT_ints : ∀ fuel, okT T fuel 50 = true
  | 0 => rfl
  | 1 => rfl
  | n + 2 => rfl
theorem WT_i64 : ∀ {n : Nat} {ys : List AV}, WT T n 3 ys → ∃ m, ys = [.i .i64 m] ∧ (Lit.int .i64 m).wf = true
  | 0, _, h => h.elim
  | n + 1, ys, h => h
theorem WT_ints : ∀ {fuel : Nat} {xs : List AV}, WT T fuel 50 xs → ∃ L : List Int, xs = [.rs (ints L) 0 1 L.length] ∧ L.length ≤ maxLen ∧ ∀ x ∈ L, (Lit.int .i64 x).wf = true
  | 0, _, h => h.elim
  | n + 1, xs, h => by
    obtain ⟨m, cs, hx, hm, hc⟩ := (show ∃ m cs, xs = [AV.rs cs 0 1 m] ∧ m ≤ maxLen ∧ WTs (WT T n) (List.replicate m 3) cs from h)
    obtain ⟨L, hL, hl, hw⟩ := WTs_ints (fun ys => WT_i64) m cs hc
    subst hL
    exact ⟨L, by rw [hx, hl], by omega, hw⟩
theorem okT_frame : ∀ fuel, okT T fuel 25 = true
  | 0 => rfl
  | 1 => rfl
  | 2 => rfl
  | n + 3 => rfl
theorem okT_frames : ∀ fuel, okT T fuel 34 = true
  | 0 => rfl
  | 1 => rfl
  | 2 => rfl
  | 3 => rfl
  | n + 4 => rfl
theorem i64_in {n : Int} (h : (Lit.int .i64 n).wf = true) : -9223372036854775808 ≤ n ∧ n ≤ 9223372036854775807 := by
  have := Bool.and_eq_true_iff.1 (show (decide (IntKind.min .i64 ≤ n) && decide (n ≤ IntKind.max .i64)) = true from h)
  exact ⟨of_decide_eq_true this.1, of_decide_eq_true this.2⟩
theorem u8_in {n : Int} (h : (Lit.int .u8 n).wf = true) : 0 ≤ n ∧ n < 256 := by
  have := Bool.and_eq_true_iff.1 (show (decide (IntKind.min .u8 ≤ n) && decide (n ≤ IntKind.max .u8)) = true from h)
  have h1 : (0 : Int) ≤ n := of_decide_eq_true this.1
  have h2 : n ≤ (255 : Int) := of_decide_eq_true this.2
  omega
theorem WT_frame : ∀ {fuel : Nat} {xs : List AV}, WT T fuel 25 xs → ∃ F : Fr, xs = F.cells ∧ F.ok
  | 0, _, h => h.elim
  | 1, xs, h => by
    obtain ⟨ys, zs, _, h1, _⟩ := (show WTs (WT T 0) [3, 4, 4, 3, 23] xs from h)
    exact h1.elim
  | 2, xs, h => by
    obtain ⟨y0, z0, rfl, h0, h⟩ := (show WTs (WT T 1) [3, 4, 4, 3, 23] xs from h)
    obtain ⟨y1, z1, rfl, h1, h⟩ := h
    obtain ⟨y2, z2, rfl, h2, h⟩ := h
    obtain ⟨y3, z3, rfl, h3, h⟩ := h
    obtain ⟨y4, z4, rfl, h4, h⟩ := h
    obtain ⟨a, b, _, h5, _⟩ := (show WTs (WT T 0) (List.replicate 8 5) y4 from h4)
    exact h5.elim
  | n + 3, xs, h => by
    obtain ⟨y0, z0, rfl, h0, h⟩ := (show WTs (WT T (n + 2)) [3, 4, 4, 3, 23] xs from h)
    obtain ⟨y1, z1, rfl, h1, h⟩ := h
    obtain ⟨y2, z2, rfl, h2, h⟩ := h
    obtain ⟨y3, z3, rfl, h3, h⟩ := h
    obtain ⟨y4, z4, rfl, h4, h⟩ := h
    obtain rfl := (show z4 = [] from h)
    obtain ⟨id, rfl, w0⟩ := (show ∃ m, y0 = [.i .i64 m] ∧ (Lit.int .i64 m).wf = true from h0)
    obtain ⟨ext, rfl⟩ := (show ∃ b, y1 = [.b b] from h1)
    obtain ⟨rtr, rfl⟩ := (show ∃ b, y2 = [.b b] from h2)
    obtain ⟨len, rfl, w3⟩ := (show ∃ m, y3 = [.i .i64 m] ∧ (Lit.int .i64 m).wf = true from h3)
    obtain ⟨L, hL, hl, hw⟩ := WTs_ints (T := T) (n := n + 1) (e := 5) (k := .u8) (fun ys hy => (show ∃ m, ys = [.i .u8 m] ∧ (Lit.int .u8 m).wf = true from hy)) 8 y4 (show WTs (WT T (n + 1)) (List.replicate 8 5) y4 from h4)
    subst hL
    obtain ⟨b0, b1, b2, b3, b4, b5, b6, b7, rfl⟩ : ∃ b0 b1 b2 b3 b4 b5 b6 b7, L = [b0, b1, b2, b3, b4, b5, b6, b7] := by
      match L, hl with
      | [a, b, c, d, e, f, g, h], _ => exact ⟨a, b, c, d, e, f, g, h, rfl⟩
    exact ⟨⟨id, ext, rtr, len, b0, b1, b2, b3, b4, b5, b6, b7⟩, rfl, i64_in w0, i64_in w3, fun x hx => u8_in (hw x hx)⟩
theorem WTs_frames {n : Nat} : ∀ (m : Nat) (cs : List AV), WTs (WT T n) (List.replicate m 25) cs → ∃ L : List Fr, cs = frs L ∧ L.length = m ∧ ∀ F ∈ L, F.ok
  | 0, cs, hc => ⟨[], (show cs = [] from hc), rfl, fun x hx => by cases hx⟩
  | m + 1, cs, hc => by
    rw [List.replicate_succ] at hc
    obtain ⟨ys, zs, rfl, h1, h2⟩ := hc
    obtain ⟨F, rfl, hF⟩ := WT_frame h1
    obtain ⟨L, rfl, hl, hL⟩ := WTs_frames m zs h2
    refine ⟨F :: L, rfl, by simp [hl], fun y hy => ?_⟩
    rcases List.mem_cons.1 hy with rfl | hy
    · exact hF
    · exact hL y hy
theorem WT_frames : ∀ {fuel : Nat} {xs : List AV}, WT T fuel 34 xs → ∃ l : List Fr, xs = [.rs (frs l) 0 12 l.length] ∧ l.length ≤ maxLen ∧ ∀ F ∈ l, F.ok
  | 0, _, h => h.elim
  | n + 1, xs, h => by
    obtain ⟨m, cs, hx, hm, hc⟩ := (show ∃ m cs, xs = [AV.rs cs 0 12 m] ∧ m ≤ maxLen ∧ WTs (WT T n) (List.replicate m 25) cs from h)
    obtain ⟨L, hL, hl, hw⟩ := WTs_frames m cs hc
    subst hL
    exact ⟨L, by rw [hx, hl], by omega, hw⟩
end Go.AK
