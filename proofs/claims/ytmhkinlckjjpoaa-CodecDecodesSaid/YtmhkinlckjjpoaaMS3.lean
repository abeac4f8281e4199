/- Texts SBase, SBits, SPure, SOf, SConcat, SFrame, SArb, SFrs, SCPl, SCPlC, SCChk, SCRead, SCNext, SCCrc, SCFrm, SCTake, SCDecP: an evaluator of the model's code, proved sound, and what the program's functions do, for all inputs. -/
import Derived.Test.YtmhkinlckjjpoaaMA2
import Derived.Test.YtmhkinlckjjpoaaProg
import Derived.KernelRfl
import Derived.Laws.BitsAllLaws
import Derived.RowKit
namespace Go.AK
open Go Go.RowKit Go.Proofs
set_option linter.unusedVariables false
def T : TT := [
  (1, ⟨.fn, 1, 8, .nilf⟩),
  (2, ⟨.int .i64, 1, 8, .i .i64 0⟩),
  (3, ⟨.int .i64, 1, 8, .i .i64 0⟩),
  (4, ⟨.bool, 1, 1, .b false⟩),
  (5, ⟨.int .u8, 1, 1, .i .u8 0⟩),
  (6, ⟨.int .u8, 1, 1, .i .u8 0⟩),
  (7, ⟨.st [(0, 2), (1, 3), (2, 4), (3, 6)], 4, 24, .agg [.i .i64 0, .i .i64 0, .b false, .i .u8 0]⟩),
  (8, ⟨.st [(0, 2), (1, 3), (2, 4), (3, 6)], 4, 24, .agg [.i .i64 0, .i .i64 0, .b false, .i .u8 0]⟩),
  (9, ⟨.str, 1, 16, .s ⟨#[]⟩⟩),
  (10, ⟨.str, 1, 16, .s ⟨#[]⟩⟩),
  (11, ⟨.str, 1, 16, .s ⟨#[]⟩⟩),
  (12, ⟨.int .u64, 1, 8, .i .u64 0⟩),
  (13, ⟨.st [(0, 9), (1, 12)], 2, 24, .agg [.s ⟨#[]⟩, .i .u64 0]⟩),
  (14, ⟨.st [(0, 9), (1, 12)], 2, 24, .agg [.s ⟨#[]⟩, .i .u64 0]⟩),
  (15, ⟨.ptr 96, 1, 8, .p none⟩),
  (16, ⟨.ptr 99, 1, 8, .p none⟩),
  (17, ⟨.ptr 107, 1, 8, .p none⟩),
  (18, ⟨.st [(0, 17)], 1, 8, .agg [.p none]⟩),
  (19, ⟨.st [(0, 17)], 1, 8, .agg [.p none]⟩),
  (20, ⟨.ifc, 1, 16, .nili⟩),
  (21, ⟨.int .i32, 1, 4, .i .i32 0⟩),
  (22, ⟨.sl 3, 1, 24, .sl none 0 0 0⟩),
  (23, ⟨.fn, 1, 8, .nilf⟩),
  (24, ⟨.arr 8 5, 8, 8, .agg [.i .u8 0, .i .u8 0, .i .u8 0, .i .u8 0, .i .u8 0, .i .u8 0, .i .u8 0, .i .u8 0]⟩),
  (25, ⟨.st [(0, 3), (1, 4), (2, 4), (3, 3), (4, 24)], 12, 32, .agg [.i .i64 0, .b false, .b false, .i .i64 0, .i .u8 0, .i .u8 0, .i .u8 0, .i .u8 0, .i .u8 0, .i .u8 0, .i .u8 0, .i .u8 0]⟩),
  (26, ⟨.st [(0, 3), (1, 4), (2, 4), (3, 3), (4, 24)], 12, 32, .agg [.i .i64 0, .b false, .b false, .i .i64 0, .i .u8 0, .i .u8 0, .i .u8 0, .i .u8 0, .i .u8 0, .i .u8 0, .i .u8 0, .i .u8 0]⟩),
  (27, ⟨.int .i64, 1, 8, .i .i64 0⟩),
  (29, ⟨.fn, 1, 8, .nilf⟩),
  (30, ⟨.fn, 1, 8, .nilf⟩),
  (32, ⟨.fn, 1, 8, .nilf⟩),
  (33, ⟨.fn, 1, 8, .nilf⟩),
  (34, ⟨.fn, 1, 8, .nilf⟩),
  (35, ⟨.fn, 1, 8, .nilf⟩),
  (36, ⟨.sl 26, 1, 24, .sl none 0 0 0⟩),
  (38, ⟨.fn, 1, 8, .nilf⟩),
  (39, ⟨.fn, 1, 8, .nilf⟩),
  (40, ⟨.fn, 1, 8, .nilf⟩),
  (42, ⟨.fn, 1, 8, .nilf⟩),
  (43, ⟨.fn, 1, 8, .nilf⟩),
  (44, ⟨.fn, 1, 8, .nilf⟩),
  (45, ⟨.fn, 1, 8, .nilf⟩),
  (46, ⟨.fn, 1, 8, .nilf⟩),
  (47, ⟨.st [(0, 22), (1, 3), (2, 3)], 3, 40, .agg [.sl none 0 0 0, .i .i64 0, .i .i64 0]⟩),
  (48, ⟨.st [(0, 22), (1, 3), (2, 3)], 3, 40, .agg [.sl none 0 0 0, .i .i64 0, .i .i64 0]⟩),
  (49, ⟨.fn, 1, 8, .nilf⟩),
  (51, ⟨.fn, 1, 8, .nilf⟩),
  (53, ⟨.fn, 1, 8, .nilf⟩),
  (54, ⟨.fn, 1, 8, .nilf⟩),
  (55, ⟨.fn, 1, 8, .nilf⟩),
  (56, ⟨.sl 5, 1, 24, .sl none 0 0 0⟩),
  (57, ⟨.fn, 1, 8, .nilf⟩),
  (58, ⟨.fn, 1, 8, .nilf⟩),
  (59, ⟨.fn, 1, 8, .nilf⟩),
  (60, ⟨.fn, 1, 8, .nilf⟩),
  (61, ⟨.fn, 1, 8, .nilf⟩),
  (62, ⟨.ptr 48, 1, 8, .p none⟩),
  (64, ⟨.fn, 1, 8, .nilf⟩),
  (66, ⟨.fn, 1, 8, .nilf⟩),
  (67, ⟨.fn, 1, 8, .nilf⟩),
  (68, ⟨.fn, 1, 8, .nilf⟩),
  (69, ⟨.st [(0, 4), (1, 4), (2, 3), (3, 3), (4, 3)], 5, 32, .agg [.b false, .b false, .i .i64 0, .i .i64 0, .i .i64 0]⟩),
  (70, ⟨.st [(0, 4), (1, 4), (2, 3), (3, 3), (4, 3)], 5, 32, .agg [.b false, .b false, .i .i64 0, .i .i64 0, .i .i64 0]⟩),
  (72, ⟨.fn, 1, 8, .nilf⟩),
  (73, ⟨.int .u64, 1, 8, .i .u64 0⟩),
  (74, ⟨.fn, 1, 8, .nilf⟩),
  (75, ⟨.int .u64, 1, 8, .i .u64 0⟩),
  (76, ⟨.fn, 1, 8, .nilf⟩),
  (77, ⟨.fn, 1, 8, .nilf⟩),
  (78, ⟨.fn, 1, 8, .nilf⟩),
  (79, ⟨.fn, 1, 8, .nilf⟩),
  (80, ⟨.sl 22, 1, 24, .sl none 0 0 0⟩),
  (82, ⟨.fn, 1, 8, .nilf⟩),
  (83, ⟨.fn, 1, 8, .nilf⟩),
  (84, ⟨.arr 9 3, 9, 72, .agg [.i .i64 0, .i .i64 0, .i .i64 0, .i .i64 0, .i .i64 0, .i .i64 0, .i .i64 0, .i .i64 0, .i .i64 0]⟩),
  (86, ⟨.fn, 1, 8, .nilf⟩),
  (87, ⟨.fn, 1, 8, .nilf⟩),
  (88, ⟨.int .u32, 1, 4, .i .u32 0⟩),
  (90, ⟨.fn, 1, 8, .nilf⟩),
  (92, ⟨.fn, 1, 8, .nilf⟩),
  (93, ⟨.fn, 1, 8, .nilf⟩),
  (94, ⟨.fn, 1, 8, .nilf⟩),
  (95, ⟨.st [(0, 17), (1, 17), (2, 17), (3, 9)], 4, 40, .agg [.p none, .p none, .p none, .s ⟨#[]⟩]⟩),
  (96, ⟨.st [(0, 17), (1, 17), (2, 17), (3, 9)], 4, 40, .agg [.p none, .p none, .p none, .s ⟨#[]⟩]⟩),
  (97, ⟨.arr 0 16, 0, 0, .agg []⟩),
  (98, ⟨.st [(0, 97)], 0, 0, .agg []⟩),
  (99, ⟨.st [(0, 97)], 0, 0, .agg []⟩),
  (100, ⟨.int .u8, 1, 1, .i .u8 0⟩),
  (101, ⟨.int .u8, 1, 1, .i .u8 0⟩),
  (102, ⟨.fn, 1, 8, .nilf⟩),
  (103, ⟨.ptr 5, 1, 8, .p none⟩),
  (104, ⟨.int .i32, 1, 4, .i .i32 0⟩),
  (105, ⟨.int .i32, 1, 4, .i .i32 0⟩),
  (106, ⟨.st [(0, 12), (1, 12), (2, 88), (3, 100), (4, 5), (5, 5), (6, 101), (7, 102), (8, 103), (9, 104), (10, 105)], 11, 48, .agg [.i .u64 0, .i .u64 0, .i .u32 0, .i .u8 0, .i .u8 0, .i .u8 0, .i .u8 0, .nilf, .p none, .i .i32 0, .i .i32 0]⟩),
  (107, ⟨.st [(0, 12), (1, 12), (2, 88), (3, 100), (4, 5), (5, 5), (6, 101), (7, 102), (8, 103), (9, 104), (10, 105)], 11, 48, .agg [.i .u64 0, .i .u64 0, .i .u32 0, .i .u8 0, .i .u8 0, .i .u8 0, .i .u8 0, .nilf, .p none, .i .i32 0, .i .i32 0]⟩)]

theorem tok : TOK Try.prog T := TOK_of (by kernel_rfl)
end Go.AK
namespace Go.AK
open Go Go.RowKit Go.Proofs
set_option linter.unusedVariables false
set_option maxRecDepth 100000
theorem w64 {x : Int} (h1 : -9223372036854775808 ≤ x) (h2 : x ≤ 9223372036854775807) : IntKind.i64.wrap x = x := by rw [IntKind.wrap_i64]; omega
/-- The greatest of numbers. -/
def maxFrom (m : Int) : List Int → Int
  | [] => m
  | x :: xs => maxFrom (if x > m then x else m) xs
theorem maxFrom_pos : ∀ (L : List Int) (m : Int), (0 < maxFrom m L ↔ 0 < m ∨ ∃ x ∈ L, 0 < x)
  | [], m => by simp [maxFrom]
  | x :: xs, m => by
    rw [maxFrom, maxFrom_pos xs]
    simp only [List.mem_cons]
    constructor
    · rintro (h | ⟨y, h1, h2⟩)
      · split at h
        · exact .inr ⟨x, .inl rfl, h⟩
        · exact .inl h
      · exact .inr ⟨y, .inr h1, h2⟩
    · rintro (h | ⟨y, rfl | h1, h2⟩)
      · split <;> exact .inl (by omega)
      · split <;> exact .inl (by omega)
      · exact .inr ⟨y, h1, h2⟩
theorem max_spec (x : Int) (L : List Int) (hL : L.length < 1000) : ACall Try.prog 29 [.rs (nums .u8 (x :: L)) 0 1 (L.length + 1)] [] fun r H => r = .ret (.i .u8 (maxFrom x L)) ∧ H = [] := by
  refine ACall.enter tok false Try.func29 rfl rfl rfl (AW_sound (ip := false) tok _ _ _ _ ?_)
  conv => whnf
  rw [decide_eq_false (by omega : ¬ (((L.length + 1 : Nat) : Int) < 1))]
  conv => whnf
  refine ⟨⟨by omega, by omega⟩, ?_⟩
  conv => whnf
  refine ALoop.ind (ip := false) tok (fun n r H => ∃ (k : Nat) (m : Int), 1 ≤ k ∧ k ≤ L.length + 1 ∧ n = L.length + 1 - k ∧ maxFrom x L = maxFrom m (L.drop (k - 1)) ∧ H = [] ∧ r = [(4, .i .i64 k), (3, .i .u8 m), (0, .rs (nums .u8 (x :: L)) 0 1 (L.length + 1)), (2, .i .u8 0)]) L.length ?_ ?_
  · exact Gh.regs [4, 3, 0, 2] (Gh.of ⟨1, x, by omega, by omega, by omega, rfl, rfl, rfl⟩)
  · rintro n r H ⟨k, m, h1, hk, rfl, hf, rfl, rfl⟩
    conv => whnf
    by_cases h : (k : Int) < (L.length + 1 : Nat)
    · rw [decide_eq_true h]
      conv => whnf
      refine ⟨⟨by omega, h⟩, ?_⟩
      conv => whnf
      rw [show (0 + (k : Int).toNat * 1) = k from by omega]
      obtain ⟨j, rfl⟩ : ∃ j, k = j + 1 := ⟨k - 1, by omega⟩
      refine aget_nums (by simp; omega) ?_
      conv => whnf
      rw [w64 (by omega) (by omega)]
      have hd : L.drop (j + 1 - 1) = L[j]'(by omega) :: L.drop (j + 1) := by rw [Nat.add_sub_cancel]; exact List.drop_eq_getElem_cons (by omega)
      refine Gh.regs [4, 3, 0, 2] (Gh.of ⟨_, ?_, j + 2, _, by omega, by omega, rfl, ?_, rfl, rfl⟩)
      · omega
      · rw [hf, hd]; rfl
    · rw [decide_eq_false h]
      conv => whnf
      refine ⟨?_, rfl⟩
      have : k = L.length + 1 := by omega
      subst this
      rw [hf]; simp [maxFrom]
theorem level_spec (b : Bool) : ACall Try.prog 61 [.b b] [] fun r H => r = .ret (.i .i64 (if b = true then 1 else 0)) ∧ H = [] := by
  refine ACall.enter tok false Try.func61 rfl rfl rfl (AW_sound (ip := false) tok _ _ _ _ ?_)
  cases b
  · conv => whnf
    exact ⟨rfl, rfl⟩
  · conv => whnf
    exact ⟨rfl, rfl⟩
end Go.AK
/- Plain facts on rows of levels and on numbers: no program in sight. -/
namespace Go.AK
open Go.RowKit

/-- All are levels. -/
def isLv (l : List Int) : Prop := ∀ x ∈ l, x = 0 ∨ x = 1
theorem isLv_nil : isLv [] := fun x h => by simp at h
theorem isLv_append {a b : List Int} : isLv (a ++ b) ↔ isLv a ∧ isLv b := by
  constructor
  · intro h
    exact ⟨fun x hx => h x (List.mem_append_left _ hx), fun x hx => h x (List.mem_append_right _ hx)⟩
  · rintro ⟨ha, hb⟩ x hx
    rcases List.mem_append.1 hx with hx | hx
    · exact ha x hx
    · exact hb x hx
theorem isLv_cons {x : Int} {l : List Int} : isLv (x :: l) ↔ (x = 0 ∨ x = 1) ∧ isLv l := by
  constructor
  · intro h
    exact ⟨h x List.mem_cons_self, fun y hy => h y (List.mem_cons_of_mem _ hy)⟩
  · rintro ⟨hx, hl⟩ y hy
    rcases List.mem_cons.1 hy with rfl | hy
    · exact hx
    · exact hl y hy
theorem isLv_take {l : List Int} (h : isLv l) (n : Nat) : isLv (l.take n) := fun x hx => h x (List.mem_of_mem_take hx)
theorem isLv_drop {l : List Int} (h : isLv l) (n : Nat) : isLv (l.drop n) := fun x hx => h x (List.mem_of_mem_drop hx)
theorem isLv_replicate (n : Nat) {x : Int} (h : x = 0 ∨ x = 1) : isLv (List.replicate n x) := fun y hy => by
  rw [(List.mem_replicate.1 hy).2]; exact h
theorem isLv_get {l : List Int} (h : isLv l) (i : Nat) (hi : i < l.length) : l.getD i 0 = 0 ∨ l.getD i 0 = 1 := by
  have : l.getD i 0 = l[i] := by simp [List.getD_eq_getElem?_getD, List.getElem?_eq_getElem hi]
  rw [this]
  exact h _ (List.getElem_mem hi)
instance (l : List Int) : Decidable (isLv l) := inferInstanceAs (Decidable (∀ x ∈ l, x = 0 ∨ x = 1))

/-- The lowest levels of a number, the greatest one first. -/
def ofI : Int → Nat → List Int
  | _, 0 => []
  | n, w + 1 => ofI (n / 2) w ++ [n % 2]
theorem ofI_length (w : Nat) : ∀ n, (ofI n w).length = w := by
  induction w with
  | zero => intro n; rfl
  | succ w ih => intro n; simp [ofI, ih]
theorem ofI_lv (w : Nat) : ∀ n, isLv (ofI n w) := by
  induction w with
  | zero => intro n; exact isLv_nil
  | succ w ih =>
    intro n
    rw [ofI, isLv_append]
    exact ⟨ih _, fun x hx => by simp at hx; omega⟩
/-- The number of levels. -/
def valI (l : List Int) : Int := l.foldl (fun a x => 2 * a + x) 0
theorem valI_from (l : List Int) : ∀ a : Int, l.foldl (fun a x => 2 * a + x) a = a * 2 ^ l.length + valI l := by
  induction l with
  | nil => intro a; simp [valI]
  | cons x t ih =>
    intro a
    simp only [valI, List.foldl_cons, List.length_cons]
    rw [ih, ih (2 * 0 + x)]
    rw [Int.pow_succ]
    have : (2 * a + x) * 2 ^ t.length = a * (2 ^ t.length * 2) + x * 2 ^ t.length := by
      rw [Int.add_mul, Int.mul_comm 2 a, Int.mul_assoc, Int.mul_comm 2 (2 ^ t.length)]
    rw [this]
    have e2 : (2 * 0 + x) = x := by omega
    rw [e2]
    omega
theorem valI_append (a b : List Int) : valI (a ++ b) = valI a * 2 ^ b.length + valI b := by
  unfold valI
  rw [List.foldl_append]
  exact valI_from b _
theorem valI_snoc (l : List Int) (x : Int) : valI (l ++ [x]) = 2 * valI l + x := by
  rw [valI_append]
  simp [valI]
  omega
theorem valI_nil : valI [] = 0 := rfl
theorem valI_single (x : Int) : valI [x] = x := by simp [valI]
theorem snoc_cases (l : List Int) : l = [] ∨ ∃ t x, l = t ++ [x] := by
  rcases List.eq_nil_or_concat l with h | ⟨t, x, h⟩
  · exact .inl h
  · exact .inr ⟨t, x, by simpa using h⟩
theorem snoc_ind {P : List Int → Prop} (h0 : P []) (h1 : ∀ l x, P l → P (l ++ [x])) (l : List Int) : P l := by
  generalize hn : l.length = n
  induction n generalizing l with
  | zero => rw [List.eq_nil_of_length_eq_zero hn]; exact h0
  | succ n ih =>
    rcases snoc_cases l with rfl | ⟨t, x, rfl⟩
    · exact h0
    · exact h1 t x (ih t (by simpa using hn))
theorem valI_bounds {l : List Int} (h : isLv l) : 0 ≤ valI l ∧ valI l < 2 ^ l.length := by
  induction l using snoc_ind with
  | h0 => simp [valI]
  | h1 l x ih =>
    rw [isLv_append] at h
    have := ih h.1
    have hx := h.2 x (by simp)
    rw [valI_snoc, List.length_append, List.length_singleton, Int.pow_succ]
    omega
theorem ofI_valI {l : List Int} (h : isLv l) : ofI (valI l) l.length = l := by
  induction l using snoc_ind with
  | h0 => rfl
  | h1 l x ih =>
    rw [isLv_append] at h
    have hx := h.2 x (by simp)
    rw [valI_snoc, List.length_append, List.length_singleton, ofI]
    have e1 : (2 * valI l + x) / 2 = valI l := by omega
    have e2 : (2 * valI l + x) % 2 = x := by omega
    rw [e1, e2, ih h.1]
theorem ofI_append (b : Nat) : ∀ (n : Int) (a : Nat), ofI n (a + b) = ofI (n / 2 ^ b) a ++ ofI n b := by
  induction b with
  | zero => intro n a; simp [ofI]
  | succ b ih =>
    intro n a
    rw [show a + (b + 1) = (a + b) + 1 from rfl, ofI, ofI, ih]
    rw [Int.ediv_ediv_of_nonneg (by omega), Int.pow_succ, Int.mul_comm (2 ^ b) 2, List.append_assoc]
theorem pow_pos (w : Nat) : (0 : Int) < 2 ^ w := Int.pow_pos (by omega)
theorem valI_ofI (w : Nat) : ∀ n : Int, valI (ofI n w) = n % 2 ^ w := by
  induction w with
  | zero => intro n; simp [ofI, valI]
  | succ w ih =>
    intro n
    rw [ofI, valI_snoc, ih, Int.pow_succ]
    have hp := pow_pos w
    -- n = 2 (n/2) + n%2; n/2 = 2^w q + r
    have h1 := Int.mul_ediv_add_emod (n / 2) (2 ^ w)
    have h2 := Int.emod_nonneg (n / 2) (show (2 : Int) ^ w ≠ 0 by omega)
    have h3 := Int.emod_lt_of_pos (n / 2) hp
    generalize n / 2 / 2 ^ w = q at h1
    generalize hr : n / 2 % 2 ^ w = r at h1 h2 h3
    have hn : n = (2 ^ w * 2) * q + (2 * r + n % 2) := by
      have : n = 2 * (n / 2) + n % 2 := by omega
      rw [← h1] at this
      rw [Int.mul_assoc, Int.mul_comm 2 q, ← Int.mul_assoc, Int.mul_comm (2 ^ w * q) 2]
      omega
    conv => rhs; rw [hn]
    rw [Int.mul_add_emod_self_left]
    exact (Int.emod_eq_of_lt (a := 2 * r + n % 2) (by omega) (by omega)).symm
/-- Which level stands where. -/
theorem ofI_get (w : Nat) : ∀ (n : Int) (j : Nat), j < w → (ofI n w).getD j 0 = n / 2 ^ (w - 1 - j) % 2 := by
  induction w with
  | zero => intro n j h; omega
  | succ w ih =>
    intro n j h
    rw [ofI]
    by_cases hj : j < w
    · rw [List.getD_eq_getElem?_getD, List.getElem?_append_left (by rw [ofI_length]; exact hj), ← List.getD_eq_getElem?_getD, ih _ _ hj]
      rw [Int.ediv_ediv_of_nonneg (by omega), show w + 1 - 1 - j = (w - 1 - j) + 1 by omega, Int.pow_succ, Int.mul_comm (2 ^ _) 2]
    · have : j = w := by omega
      subst this
      rw [List.getD_eq_getElem?_getD, List.getElem?_append_right (by rw [ofI_length]; omega), ofI_length]
      simp
theorem ofI_zero (w : Nat) : ofI 0 w = List.replicate w 0 := by
  induction w with
  | zero => rfl
  | succ w ih => rw [ofI, show (0 : Int) / 2 = 0 from rfl, ih, show (0 : Int) % 2 = 0 from rfl, List.replicate_succ']
theorem ofI_mod (w : Nat) (n : Int) : ofI (n % 2 ^ w) w = ofI n w := by
  rw [← valI_ofI w n]
  have h := ofI_valI (ofI_lv w n)
  rwa [ofI_length] at h
theorem ofI_inj {w : Nat} {a b : Int} (ha : 0 ≤ a) (ha' : a < 2 ^ w) (hb : 0 ≤ b) (hb' : b < 2 ^ w) (h : ofI a w = ofI b w) : a = b := by
  have := congrArg valI h
  rw [valI_ofI, valI_ofI, Int.emod_eq_of_lt ha ha', Int.emod_eq_of_lt hb hb'] at this
  exact this
theorem list_ext {a b : List Int} (h : a.length = b.length) (hg : ∀ i, i < a.length → a.getD i 0 = b.getD i 0) : a = b := by
  refine List.ext_getElem h fun i h1 h2 => ?_
  have := hg i h1
  simpa [List.getD_eq_getElem?_getD, List.getElem?_eq_getElem h1, List.getElem?_eq_getElem h2] using this
theorem getD_set (l : List Int) (i j : Nat) (v : Int) (hi : i < l.length) : (l.set i v).getD j 0 = if i = j then v else l.getD j 0 := by
  rw [List.getD_eq_getElem?_getD, List.getElem?_set]
  by_cases h : i = j
  · subst h; simp [hi]
  · simp [h, List.getD_eq_getElem?_getD]
theorem wrap_in {x : Int} (h1 : -9223372036854775808 ≤ x) (h2 : x ≤ 9223372036854775807) : wrap64 x = x := by unfold wrap64; omega
end Go.AK
namespace Go.AK
open Go Go.RowKit Go.Proofs
set_option linter.unusedVariables false
set_option maxRecDepth 100000
theorem shr_nat (n : Int) (i : Nat) (hi : i ≤ 64) : n.fdiv (2 ^ min (i : Int).toNat IntKind.u64.bits) = n / 2 ^ i := by
  rw [Int.toNat_natCast, Nat.min_eq_left (by simpa [IntKind.bits] using hi)]
  exact Int.fdiv_eq_ediv_of_nonneg _ (Int.le_of_lt (pow_pos i))
theorem bit_nat (n : Int) (i : Nat) (h0 : 0 ≤ n) (h1 : n < 18446744073709551616) : bits .and .u64 (n / 2 ^ i) 1 = n / 2 ^ i % 2 := by
  have hp := pow_pos i
  have hn := Int.ediv_nonneg h0 (Int.le_of_lt hp)
  have hle : n / 2 ^ i ≤ n := Int.ediv_le_self _ h0
  rw [u64_and _ _ hn (by omega) (by omega) (by omega)]
  have : ((n / 2 ^ i).toNat &&& (1 : Int).toNat) = (n / 2 ^ i).toNat % 2 := Nat.and_one_is_mod _
  rw [this]; omega
theorem of_spec (n : Int) (w : Nat) (h0 : 0 ≤ n) (h1 : n < 18446744073709551616) (hw : w ≤ 64) : ACall Try.prog 51 [.i .u64 n, .i .i64 w] [] fun r H => r = .ret (.tup [.sl (some (0, 0)) 1 w w, .i .i64 0]) ∧ H = [.c (ints (ofI n w))] := by
  refine ACall.enter tok false Try.func51 rfl rfl rfl (AW_sound (ip := false) tok _ _ _ _ ?_)
  conv => whnf
  rw [decide_eq_false (by omega : ¬ ((w : Int) < 0))]
  conv => whnf
  rw [decide_eq_false (by omega : ¬ ((w : Int) > 64))]
  conv => whnf
  refine ⟨⟨by omega, by omega, by show (8 : Int) * w ≤ _; omega, by omega⟩, ?_⟩
  conv => whnf
  rw [show (List.replicate (w : Int).toNat (AV.i .i64 0).cells).flatten = ints (List.replicate w 0) from by simp [AV.cells, nums]]
  rw [Int.toNat_natCast]
  refine ALoop.ind (ip := false) tok (fun m r H => ∃ (k : Nat) (L : List Int), k ≤ w ∧ m = w - k ∧ L.length = w ∧ (∀ j, w - k ≤ j → j < w → L.getD j 0 = n / 2 ^ (w - 1 - j) % 2) ∧ H = [.c (ints L)] ∧
      r = [(17, .i .i64 k), (16, .i .i64 w), (6, .sl (some (0, 0)) 1 w w), (1, .i .i64 w), (0, .i .u64 n)]) w ?_ ?_
  · exact Gh.regs [17, 16, 6, 1, 0] (Gh.of ⟨0, _, by omega, by omega, by simp, by intro j h1 h2; omega, rfl, rfl⟩)
  · rintro m r H ⟨k, L, hk, rfl, hl, hL, rfl, rfl⟩
    conv => whnf
    by_cases h : (k : Int) < w
    · rw [decide_eq_true h]
      conv => whnf
      refine ⟨by omega, ?_⟩
      conv => whnf
      rw [shr_nat n k (by omega), bit_nat n k h0 h1, w64 (x := (w : Int) - 1) (by omega) (by omega), w64 (x := (w : Int) - 1 - k) (by omega) (by omega), w64 (x := n / 2 ^ k % 2) (by omega) (by omega)]
      refine ⟨⟨by omega, by omega⟩, ?_⟩
      conv => whnf
      refine ⟨by simp only [nums_length]; omega, ?_⟩
      conv => whnf
      rw [show 0 + ((w : Int) - 1 - k).toNat * 1 = w - 1 - k from by omega]
      rw [show IntKind.i64.wrap ((k : Int) + 1) = ((k + 1 : Nat) : Int) from by rw [w64 (by omega) (by omega)]; omega]
      refine Gh.regs [17, 16, 6, 1, 0] (Gh.of ⟨_, ?_, k + 1, L.set (w - 1 - k) (n / 2 ^ k % 2), by omega, rfl, by simp [hl], ?_, ?_, rfl⟩)
      · omega
      · intro j h2 h3
        rw [getD_set L _ _ _ (by omega)]
        by_cases e : w - 1 - k = j
        · rw [if_pos e]; rw [show w - 1 - j = k from by omega]
        · rw [if_neg e]; exact hL j (by omega) h3
      · exact congrArg (fun c => [Blk.c c]) (setCells_nums _ _ _ _)
    · rw [decide_eq_false h]
      conv => whnf
      refine ⟨rfl, ?_⟩
      have : k = w := by omega
      subst this
      rw [show L = ofI n k from list_ext (by rw [hl, ofI_length]) (fun i hi => by rw [hL i (by omega) (by omega), ofI_get k n i (by omega)])]
theorem grow_spec (n : Nat) (hn : n ≤ 1000000) : ACall Try.prog 55 [.sl none 0 0 0, .i .i64 n] [] fun r H => (n = 0 ∧ r = .ret (.sl none 0 0 0) ∧ H = []) ∨ (n ≠ 0 ∧ ∃ c, n ≤ c ∧ r = .ret (.sl (some (0, 0)) 1 0 c) ∧ H = [.c (ints (List.replicate n 0))]) := by
  refine ACall.enter tok false Try.func55 rfl rfl rfl (AW_sound (ip := false) tok _ _ _ _ ?_)
  conv => whnf
  rw [decide_eq_false (by omega : ¬ ((n : Int) < 0))]
  conv => whnf
  rw [w64 (x := ((0 : Nat) : Int) - ((0 : Nat) : Int)) (by omega) (by omega), w64 (by omega) (by omega)]
  rw [show (n : Int) - (((0 : Nat) : Int) - ((0 : Nat) : Int)) = n from by omega]
  by_cases h : (n : Int) > 0
  · rw [decide_eq_true h]
    conv => whnf
    refine ⟨⟨by omega, by omega⟩, ?_⟩
    conv => whnf
    refine ⟨⟨by omega, by simp [Int.toNat_natCast]; omega, by omega⟩, ?_⟩
    conv => whnf
    refine ⟨fun h0 => by omega, fun _ c hc => ?_⟩
    conv => whnf
    refine ⟨⟨by omega, by simp⟩, ?_⟩
    conv => whnf
    refine .inr ⟨by omega, c, by omega, ?_, ?_⟩
    · simp
    · rw [Int.toNat_natCast]
      rw [show (List.replicate n (AV.i .i64 0).cells).flatten = ints (List.replicate n 0) from by simp [AV.cells, nums]]
      rfl
  · rw [decide_eq_false h]
    conv => whnf
    exact .inl ⟨by omega, rfl, rfl⟩
end Go.AK
namespace Go.AK
open Go Go.RowKit Go.Proofs
set_option linter.unusedVariables false
set_option maxRecDepth 100000
def rowAV (L : List Int) : AV := .rs (ints L) 0 1 L.length
def rowsAV (Ls : List (List Int)) : List AV := Ls.map rowAV
theorem aget_rows {Ls : List (List Int)} {i : Nat} {K : AV → Prop} (h : i < Ls.length) (hk : K (rowAV Ls[i])) : aget (rowsAV Ls) i K := by
  unfold aget
  have : (rowsAV Ls)[i]? = some (rowAV Ls[i]) := by simp [rowsAV, h]
  rw [this]; exact hk
theorem subs_rows (φ : Nat → Sb) : ∀ (Ls : List (List Int)), subs φ (rowsAV Ls) = rowsAV Ls
  | [] => rfl
  | L :: Ls => by
    have := subs_rows φ Ls
    simp only [rowsAV, rowAV, List.map_cons, subs, sub, subs_nums] at this ⊢; rw [this]
theorem sum_take (Ls : List (List Int)) (k : Nat) (h : k < Ls.length) : (Ls.take (k + 1)).flatten = (Ls.take k).flatten ++ Ls[k] := by
  rw [List.take_add_one, List.getElem?_eq_getElem h, List.flatten_append]; simp
theorem flat_le (Ls : List (List Int)) (k : Nat) : (Ls.take k).flatten.length ≤ Ls.flatten.length := by
  have : Ls.flatten = (Ls.take k).flatten ++ (Ls.drop k).flatten := by rw [← List.flatten_append, List.take_append_drop]
  rw [this, List.length_append]; omega
theorem concat_spec (Ls : List (List Int)) (h0 : 0 < Ls.flatten.length) (hm : Ls.flatten.length ≤ 1000000) (hl : Ls.length ≤ 1000000) :
    ACall Try.prog 33 [.rs (rowsAV Ls) 0 1 Ls.length] [] fun r H => ∃ c, Ls.flatten.length ≤ c ∧ r = .ret (.sl (some (0, 0)) 1 Ls.flatten.length c) ∧ H = [.c (ints Ls.flatten)] := by
  refine ACall.enter tok false Try.func33 rfl rfl rfl (AW_sound (ip := false) tok _ _ _ _ ?_)
  conv => whnf
  refine ALoop.ind (ip := false) tok (fun m r H => ∃ (k : Nat), k ≤ Ls.length ∧ m = Ls.length - k ∧ H = [] ∧ r = [(11, .i .i64 k), (10, .i .i64 Ls.length), (3, .i .i64 ((Ls.take k).flatten.length : Nat)), (9, .rs (rowsAV Ls) 0 1 Ls.length), (0, .rs (rowsAV Ls) 0 1 Ls.length)]) Ls.length ?_ ?_
  · exact Gh.regs [11, 10, 3, 9, 0] (Gh.of ⟨0, by omega, by omega, rfl, by simp; rfl⟩)
  · rintro m r H ⟨k, hk, rfl, rfl, rfl⟩
    conv => whnf
    by_cases h : (k : Int) < Ls.length
    · rw [decide_eq_true h]
      conv => whnf
      refine ⟨⟨by omega, h⟩, ?_⟩
      conv => whnf
      have hkl : k < Ls.length := by omega
      have hle := flat_le Ls (k + 1)
      have hst := sum_take Ls k hkl
      rw [hst, List.length_append] at hle
      rw [show (0 + (k : Int).toNat * 1) = k from by omega]
      refine aget_rows hkl ?_
      conv => whnf
      rw [w64 (x := (((Ls.take k).flatten.length : Nat) : Int) + _) (by omega) (by omega)]
      rw [decide_eq_false (by omega : ¬ ((((Ls.take k).flatten.length : Nat) : Int) + (Ls[k].length : Nat) < 0))]
      conv => whnf
      rw [w64 (by omega) (by omega)]
      refine Gh.regs [11, 10, 3, 9, 0] (Gh.of ⟨_, ?_, k + 1, by omega, rfl, rfl, ?_⟩)
      · omega
      · rw [hst, List.length_append]; rfl
    · rw [decide_eq_false h]
      conv => whnf
      have : k = Ls.length := by omega
      subst this
      rw [List.take_length]
      refine ACall.mono (grow_spec Ls.flatten.length hm) ?_
      rintro r H (⟨h1, _⟩ | ⟨_, c, hc, rfl, rfl⟩)
      · omega
      conv => whnf
      refine ALoop.ind (ip := false) tok (fun m r H => ∃ (k c : Nat) (M : List AV), k ≤ Ls.length ∧ m = Ls.length - k ∧ (Ls.take k).flatten.length ≤ c ∧ M.take (Ls.take k).flatten.length = ints (Ls.take k).flatten ∧ (k = Ls.length → M = ints Ls.flatten ∨ k = 0) ∧ H = [.c M] ∧
        r = [(27, .i .i64 k), (26, .i .i64 Ls.length), (6, .sl (some (0, 0)) 1 (Ls.take k).flatten.length c), (25, .rs (rowsAV Ls) 0 1 Ls.length)]) Ls.length ?_ ?_
      · refine Gh.regs [27, 26, 6, 25] (Gh.of ⟨0, c, _, by omega, by omega, by simp, by simp [nums], fun _ => .inr rfl, rfl, by simp; rfl⟩)
      · rintro m r H ⟨k, c, M, hk, rfl, hc1, hM, hM2, rfl, rfl⟩
        conv => whnf
        by_cases h : (k : Int) < Ls.length
        · rw [decide_eq_true h]
          conv => whnf
          refine ⟨⟨by omega, h⟩, ?_⟩
          conv => whnf
          have hkl : k < Ls.length := by omega
          have hle := flat_le Ls (k + 1)
          have hst := sum_take Ls k hkl
          have hMl : (Ls.take k).flatten.length ≤ M.length := by
            have := congrArg List.length hM
            rw [nums_length, List.length_take] at this; omega
          rw [hst, List.length_append] at hle
          rw [show (0 + (k : Int).toNat * 1) = k from by omega]
          refine aget_rows hkl ?_
          conv => whnf
          refine ⟨by dsimp only; omega, ?_⟩
          conv => whnf
          refine ⟨by dsimp only; rw [nums_length]; omega, ?_⟩
          dsimp only
          rw [List.drop_zero, List.drop_zero, Nat.mul_one, Nat.mul_one, List.take_of_length_le (l := ints Ls[k]) (by rw [nums_length]; omega), hM, ← nums_append]
          refine ⟨ones_nums _ _, by omega, by omega, fun c' hc' => ?_⟩
          conv => whnf
          rw [w64 (by omega) (by omega), show (k : Int) + 1 = ((k + 1 : Nat) : Int) from by omega]
          refine Gh.regs [27, 26, 6, 25] (Gh.sel [1] rfl (Gh.of ⟨_, ?_, k + 1, c', _, by omega, rfl, ?_, ?_, ?_, rfl, ?_⟩))
          · omega
          · rw [hst, List.length_append]; exact hc'
          · rw [hst]; exact (by rw [subs_nums, List.take_of_length_le (by rw [nums_length]; exact Nat.le_refl _)])
          · intro h5; left; rw [subs_nums, ← hst, h5, List.take_length]
          · rw [hst, List.length_append]; refine keep_eq (show keepR _ _ = [_, _, _, _] from rfl) ?_; simp [subG, sub, selφ, posOf, subs_rows]
        · rw [decide_eq_false h]
          conv => whnf
          have : k = Ls.length := by omega
          subst this
          rcases hM2 rfl with rfl | h5
          · rw [List.take_length] at hc1 ⊢
            exact ⟨c, hc1, rfl, rfl⟩
          · rw [h5] at hM hc1
            have : Ls = [] := List.eq_nil_of_length_eq_zero h5
            subst this
            simp at h0
end Go.AK
namespace Go.AK
open Go Go.RowKit Go.Proofs
set_option linter.unusedVariables false
set_option maxRecDepth 100000
structure Fr where
  id : Int
  ext : Bool
  rtr : Bool
  len : Int
  b0 : Int
  b1 : Int
  b2 : Int
  b3 : Int
  b4 : Int
  b5 : Int
  b6 : Int
  b7 : Int
  deriving DecidableEq
def Fr.d (F : Fr) : List Int := [F.b0, F.b1, F.b2, F.b3, F.b4, F.b5, F.b6, F.b7]
def Fr.cells (F : Fr) : List AV := [.i .i64 F.id, .b F.ext, .b F.rtr, .i .i64 F.len, .i .u8 F.b0, .i .u8 F.b1, .i .u8 F.b2, .i .u8 F.b3, .i .u8 F.b4, .i .u8 F.b5, .i .u8 F.b6, .i .u8 F.b7]
def Fr.av (F : Fr) : AV := .agg F.cells
/-- Its parts are of their kinds. -/
structure Fr.ok (F : Fr) : Prop where
  id : -9223372036854775808 ≤ F.id ∧ F.id ≤ 9223372036854775807
  len : -9223372036854775808 ≤ F.len ∧ F.len ≤ 9223372036854775807
  d : ∀ x ∈ F.d, 0 ≤ x ∧ x < 256
def Fr.out (F : Fr) : Nat := if F.rtr = true then 0 else F.len.toNat
def Fr.may (F : Fr) : Prop := 0 ≤ F.id ∧ F.id ≤ (if F.ext = true then 536870911 else 2047) ∧ 0 ≤ F.len ∧ F.len ≤ 8 ∧ ∀ x ∈ F.d.drop F.out, x = 0
instance (F : Fr) : Decidable F.may := by unfold Fr.may; infer_instance
def Fr.chk (F : Fr) : Int := if F.may then 0 else 14
theorem Fr.tail0 (F : Fr) (u : Nat) (hu : u ≤ 8) : (F.cells.drop (0 + 4 + u)).take ((8 - u) * 1) = nums .u8 (F.d.drop u) := by
  have h : u = 0 ∨ u = 1 ∨ u = 2 ∨ u = 3 ∨ u = 4 ∨ u = 5 ∨ u = 6 ∨ u = 7 ∨ u = 8 := by omega
  rcases h with rfl | rfl | rfl | rfl | rfl | rfl | rfl | rfl | rfl <;> rfl
theorem Fr.bad {F : Fr} (h : ¬F.may) : F.chk = 14 := if_neg h
theorem Fr.good {F : Fr} (h : F.may) : F.chk = 0 := if_pos h
theorem check_spec (F : Fr) (hF : F.ok) : ACall Try.prog 13 [F.av] [] fun r H => r = .ret (.i .i64 F.chk) ∧ H = [] := by
  refine ACall.gh ?_
  refine ACall.enter tok false Try.func13 rfl rfl rfl (AW_sound (ip := false) tok _ _ _ _ ?_)
  have fin : ∀ v (H : Heap), v = F.chk → GhR 0 (fun r H => r = ARes.ret (.i .i64 F.chk) ∧ H = []) (.ret (.i .i64 v)) H := by
    rintro v H rfl
    exact GhR.sel [] rfl (GhR.of ⟨rfl, rfl⟩)
  have bad : ∀ (H : Heap), ¬F.may → GhR 0 (fun r H => r = ARes.ret (.i .i64 F.chk) ∧ H = []) (.ret (.i .i64 14)) H := fun H h => fin _ _ (Fr.bad h).symm
  conv => whnf
  cases he : F.ext <;> (conv => whnf) <;> cases hr : F.rtr <;> (conv => whnf)
  all_goals
    by_cases h1 : F.id < 0
    · rw [decide_eq_true h1]
      conv => whnf
      exact bad _ fun h => by have := h.1; omega
    rw [decide_eq_false h1]
    conv => whnf
    by_cases h2 : F.id > (if F.ext = true then 536870911 else 2047)
    · have h2' := h2
      simp only [he, if_true, if_false, reduceCtorEq] at h2'
      rw [decide_eq_true h2']
      conv => whnf
      exact bad _ fun h => by have := h.2.1; omega
    have h2' := h2
    simp only [he, if_true, if_false, reduceCtorEq] at h2'
    rw [decide_eq_false h2']
    conv => whnf
    by_cases h3 : F.len < 0
    · rw [decide_eq_true h3]
      conv => whnf
      exact bad _ fun h => by have := h.2.2.1; omega
    rw [decide_eq_false h3]
    conv => whnf
    by_cases h4 : F.len > 8
    · rw [decide_eq_true h4]
      conv => whnf
      exact bad _ fun h => by have := h.2.2.2.1; omega
    rw [decide_eq_false h4]
    conv => whnf
    refine ⟨by show 12 ≤ (12 : Nat); omega, ?_⟩
    conv => whnf
    refine ⟨?_, ?_⟩
    · omega
    conv => whnf
    refine ⟨by show 1 ≤ (1 : Nat); omega, ?_⟩
    conv => whnf
    have e0 : F.out = if F.rtr = true then 0 else F.len.toNat := rfl
    simp only [hr, if_true, if_false, reduceCtorEq] at e0
    have e8 : F.out ≤ 8 := by omega
    have e1 : F.rtr = true → Int.toNat 0 = F.out := fun h => by rw [show F.out = 0 from if_pos h]; rfl
    have e2 : F.rtr = false → F.len.toNat = F.out := fun h => by rw [show F.out = F.len.toNat from if_neg (by rw [h]; exact Bool.false_ne_true)]
    first | rw [e1 hr] | rw [e2 hr]
    refine ⟨by show _ + _ * 1 ≤ (12 : Nat); omega, ?_⟩
    conv => whnf
    first | rw [e1 hr] | rw [e2 hr] | skip
    dsimp only
    rw [show F.av.cells = F.cells from rfl, F.tail0 F.out e8]
    refine ⟨ones_nums _ _, by omega, by omega, fun c hc => ?_⟩
    conv => whnf
    have hdl : (F.d.drop F.out).length = 8 - F.out := by simp [Fr.d]
    refine ACall.frame [] [2] rfl (args' := [.rs (nums .u8 (0 :: F.d.drop F.out)) 0 1 ((F.d.drop F.out).length + 1)]) (Hc := []) ?_ rfl (max_spec 0 (F.d.drop F.out) (by omega)) ?_
    · rw [hdl, Nat.add_comm (8 - F.out) 1]
      show [AV.rs (subs _ (nums .u8 (0 :: F.d.drop F.out))) 0 1 (1 + (8 - F.out))] = _
      rw [subs_nums]
    rintro r H ⟨rfl, rfl⟩
    refine ⟨.inr ⟨rfl, rfl⟩, ?_⟩
    conv => whnf
    have hm := maxFrom_pos (F.d.drop F.out) 0
    by_cases h5 : maxFrom 0 (F.d.drop F.out) > 0
    · rw [decide_eq_true h5]
      conv => whnf
      refine bad _ fun h => ?_
      rcases hm.1 h5 with h6 | ⟨x, h6, h7⟩
      · omega
      · have := h.2.2.2.2 x h6; omega
    · rw [decide_eq_false h5]
      conv => whnf
      refine fin _ _ (Fr.good ⟨by omega, by omega, by omega, by omega, fun x hx => ?_⟩).symm
      have h6 := hF.d x (List.mem_of_mem_drop hx)
      by_cases h7 : 0 < x
      · exact absurd (hm.2 (.inr ⟨x, hx, h7⟩)) h5
      · omega
end Go.AK
namespace Go.AK
open Go Go.RowKit Go.Proofs
set_option linter.unusedVariables false
set_option maxRecDepth 100000
def Fr.rt (F : Fr) : Int := if F.rtr = true then 1 else 0
/-- The levels of arbitration. -/
def Fr.row (F : Fr) : List Int := if F.ext = true then ofI (F.id / 2 ^ 18) 11 ++ [1, 1] ++ ofI F.id 18 ++ [F.rt] else ofI F.id 11 ++ [F.rt, 0]
def ArbK (F : Fr) (r : ARes) (H : Heap) : Prop :=
  (¬F.may ∧ r = .ret (.tup [.sl none 0 0 0, .i .i64 14]) ∧ H = []) ∨ (F.may ∧ ∃ c, F.row.length ≤ c ∧ r = .ret (.tup [.sl (some (0, 0)) 1 F.row.length c, .i .i64 0]) ∧ H = [.c (ints F.row)])
theorem wu64 {x : Int} (h1 : 0 ≤ x) (h2 : x < 18446744073709551616) : IntKind.u64.wrap x = x := by rw [IntKind.wrap_u64]; omega
theorem Fr.av_sub (F : Fr) (φ : Nat → Sb) : sub φ F.av = F.av := rfl
theorem arb_spec (F : Fr) (hF : F.ok) : ACall Try.prog 49 [F.av] [] (ArbK F) := by
  refine ACall.gh ?_
  refine ACall.enter tok false Try.func49 rfl rfl rfl (AW_sound (ip := false) tok _ _ _ _ ?_)
  conv => whnf
  refine ACall.frame [] [] rfl (args' := [F.av]) (Hc := []) rfl rfl (check_spec F hF) ?_
  rintro r H ⟨rfl, rfl⟩
  refine ⟨.inl rfl, ?_⟩
  conv => whnf
  by_cases hm : F.may
  · rw [Fr.good hm]
    conv => whnf
    have hi := hm.1
    have hi2 := hm.2.1
    cases he : F.ext
    · conv => whnf
      rw [he] at hi2
      simp only [Bool.false_eq_true, if_false] at hi2
      rw [wu64 hi (by omega)]
      refine ACall.frame [] [] rfl (args' := [.i .u64 F.id, .i .i64 (11 : Nat)]) (Hc := []) rfl rfl (of_spec F.id 11 hi (by omega) (by omega)) ?_
      rintro r H ⟨rfl, rfl⟩
      refine ⟨.inl rfl, ?_⟩
      conv => whnf
      refine ACall.frame [] [] rfl (args' := [.b F.rtr]) (Hc := []) rfl rfl (level_spec F.rtr) ?_
      rintro r H ⟨rfl, rfl⟩
      refine ⟨.inl rfl, ?_⟩
      conv => whnf
      refine ⟨by dsimp only; rw [subs_nums, nums_length, ofI_length]; omega, ?_⟩
      conv => whnf
      refine ⟨by show 2 ≤ (2 : Nat); omega, ?_⟩
      conv => whnf
      refine ⟨rfl, by (try dsimp only); omega, by (try dsimp only); omega, fun c hc => ?_⟩
      conv => whnf
      have hrow : F.row = ofI F.id 11 ++ [F.rt, 0] := by rw [Fr.row, he]; rfl
      have hl : F.row.length = 13 := by rw [hrow, List.length_append, ofI_length]; rfl
      refine GhR.sel [3] rfl (GhR.of (.inr ⟨hm, c, by omega, ?_, ?_⟩))
      · rw [hl]; rfl
      · show [Blk.c (subs _ (List.take (11 * 1) (List.drop 0 (subs _ (ints (ofI F.id 11)))) ++ ints [F.rt, 0]))] = _
        rw [subs_nums, List.drop_zero, List.take_of_length_le (l := ints _) (by rw [nums_length, ofI_length]; omega), ← nums_append, subs_nums, hrow]
    · conv => whnf
      rw [he] at hi2
      simp only [if_true] at hi2
      rw [wu64 hi (by omega)]
      refine ⟨by omega, ?_⟩
      conv => whnf
      have hsh : F.id.fdiv (2 ^ min (Int.toNat 18) IntKind.u64.bits) = F.id / 2 ^ 18 := shr_nat F.id 18 (by omega)
      rw [hsh]
      have hd : F.id / 2 ^ 18 = F.id / 262144 := rfl
      refine ACall.frame [] [] rfl (args' := [.i .u64 (F.id / 2 ^ 18), .i .i64 (11 : Nat)]) (Hc := []) rfl rfl (of_spec (F.id / 2 ^ 18) 11 (by omega) (by omega) (by omega)) ?_
      rintro r H ⟨rfl, rfl⟩
      refine ⟨.inl rfl, ?_⟩
      conv => whnf
      rw [wu64 hi (by omega)]
      refine ACall.frame [] [] rfl (args' := [.i .u64 F.id, .i .i64 (18 : Nat)]) (Hc := []) rfl rfl (of_spec F.id 18 hi (by omega) (by omega)) ?_
      rintro r H ⟨rfl, rfl⟩
      refine ⟨.inl rfl, ?_⟩
      conv => whnf
      refine ACall.frame [] [] rfl (args' := [.b F.rtr]) (Hc := []) rfl rfl (level_spec F.rtr) ?_
      rintro r H ⟨rfl, rfl⟩
      refine ⟨.inl rfl, ?_⟩
      conv => whnf
      have hl1 := ofI_length 11 (F.id / 2 ^ 18)
      have hl2 := ofI_length 18 F.id
      have hrow : F.row = [ofI (F.id / 2 ^ 18) 11, [1, 1], ofI F.id 18, [F.rt]].flatten := by rw [Fr.row, he]; simp
      have hl : F.row.length = 32 := by rw [hrow]; simp only [List.flatten_cons, List.flatten_nil, List.length_append, hl1, hl2, List.length_cons, List.length_nil]
      refine ACall.frame [] [5, 1, 3, 2, 4] rfl (args' := [.rs (rowsAV [ofI (F.id / 2 ^ 18) 11, [1, 1], ofI F.id 18, [F.rt]]) 0 1 4]) (Hc := []) ?_ rfl
        (concat_spec [ofI (F.id / 2 ^ 18) 11, [1, 1], ofI F.id 18, [F.rt]] (by rw [← hrow, hl]; omega) (by rw [← hrow, hl]; omega) (by show 4 ≤ _; omega)) ?_
      · simp only [rowsAV, rowAV, List.map_cons, List.map_nil, hl1, hl2]
        show [AV.rs [.rs (subs _ (subs _ (ints (ofI (F.id / 2 ^ 18) 11)))) 0 1 11, .rs (ints [1, 1]) 0 1 2, .rs (subs _ (subs _ (ints (ofI F.id 18)))) 0 1 18, .rs (ints [F.rt]) 0 1 1] 0 1 4] = _
        simp only [subs_nums]
        rfl
      rintro r H ⟨c, hc, rfl, rfl⟩
      rw [← hrow] at hc ⊢
      refine ⟨.inr ⟨rfl, by simp [nroH, nroB, nros_nums]⟩, ?_⟩
      conv => whnf
      refine GhR.sel [6] rfl (GhR.of (.inr ⟨hm, c, by omega, rfl, ?_⟩))
      show [Blk.c (subs _ (subs _ (ints F.row)))] = _
      rw [subs_nums, subs_nums]
  · rw [Fr.bad hm]
    conv => whnf
    refine GhR.sel [] rfl (GhR.of (.inl ⟨hm, rfl, rfl⟩))
end Go.AK
namespace Go.AK
open Go Go.RowKit Go.Proofs
set_option linter.unusedVariables false
set_option maxRecDepth 100000
def frs : List Fr → List AV
  | [] => []
  | F :: L => F.cells ++ frs L
theorem frs_length : ∀ (L : List Fr), (frs L).length = L.length * 12
  | [] => rfl
  | F :: L => by rw [frs, List.length_append, frs_length L, List.length_cons]; show 12 + _ = _; omega
theorem frs_append : ∀ (L M : List Fr), frs (L ++ M) = frs L ++ frs M
  | [], M => rfl
  | F :: L, M => by rw [List.cons_append, frs, frs, frs_append L M, List.append_assoc]
theorem frs_drop : ∀ (L : List Fr) (k : Nat), (frs L).drop (k * 12) = frs (L.drop k)
  | L, 0 => by simp
  | [], k + 1 => by simp [frs]
  | F :: L, k + 1 => by
    rw [List.drop_succ_cons, ← frs_drop L k, frs, show (k + 1) * 12 = 12 + k * 12 from by omega, ← List.drop_drop]
    rfl
theorem frs_take (L : List Fr) (k : Nat) : (frs L).take (k * 12) = frs (L.take k) := by
  by_cases h : k ≤ L.length
  · have h1 : (frs (L.take k)).length = k * 12 := by rw [frs_length, List.length_take]; omega
    have h2 := frs_append (L.take k) (L.drop k)
    rw [List.take_append_drop] at h2
    rw [h2, ← h1, List.take_left]
  · rw [List.take_of_length_le (by rw [frs_length]; omega), List.take_of_length_le (by omega)]
theorem subs_frs (φ : Nat → Sb) : ∀ (L : List Fr), subs φ (frs L) = frs L
  | [] => rfl
  | F :: L => by
    have := subs_frs φ L
    show (.i .i64 F.id :: .b F.ext :: .b F.rtr :: .i .i64 F.len :: .i .u8 F.b0 :: .i .u8 F.b1 :: .i .u8 F.b2 :: .i .u8 F.b3 :: .i .u8 F.b4 :: .i .u8 F.b5 :: .i .u8 F.b6 :: .i .u8 F.b7 :: subs φ (frs L)) = _
    rw [this]; rfl
theorem ones_frs : ∀ (L : List Fr), ones (frs L) = true
  | [] => rfl
  | F :: L => ones_frs L
theorem nros_frs : ∀ (L : List Fr), nros (frs L) = true
  | [] => rfl
  | F :: L => nros_frs L
theorem frs_get {L : List Fr} {k : Nat} (hk : k < L.length) {j : Nat} (hj : j < 12) : (frs L)[k * 12 + j]? = L[k].cells[j]? := by
  rw [← List.getElem?_drop, frs_drop, List.drop_eq_getElem_cons hk, frs, List.getElem?_append_left (by exact hj)]
theorem aget_fr {L : List Fr} {k o : Nat} (ho : o = k * 12) (hk : k < L.length) {K : AV → AV → AV → AV → AV → AV → AV → AV → AV → AV → AV → AV → Prop} (h : K (.i .i64 L[k].id) (.b L[k].ext) (.b L[k].rtr) (.i .i64 L[k].len) (.i .u8 L[k].b0) (.i .u8 L[k].b1) (.i .u8 L[k].b2) (.i .u8 L[k].b3) (.i .u8 L[k].b4) (.i .u8 L[k].b5) (.i .u8 L[k].b6) (.i .u8 L[k].b7)) :
    aget (frs L) o fun v0 => aget (frs L) (o + 1) fun v1 => aget (frs L) ((o + 1) + 1) fun v2 => aget (frs L) (((o + 1) + 1) + 1) fun v3 => aget (frs L) ((((o + 1) + 1) + 1) + 1) fun v4 => aget (frs L) (((((o + 1) + 1) + 1) + 1) + 1) fun v5 => aget (frs L) ((((((o + 1) + 1) + 1) + 1) + 1) + 1) fun v6 => aget (frs L) (((((((o + 1) + 1) + 1) + 1) + 1) + 1) + 1) fun v7 => aget (frs L) ((((((((o + 1) + 1) + 1) + 1) + 1) + 1) + 1) + 1) fun v8 => aget (frs L) (((((((((o + 1) + 1) + 1) + 1) + 1) + 1) + 1) + 1) + 1) fun v9 => aget (frs L) ((((((((((o + 1) + 1) + 1) + 1) + 1) + 1) + 1) + 1) + 1) + 1) fun v10 => aget (frs L) (((((((((((o + 1) + 1) + 1) + 1) + 1) + 1) + 1) + 1) + 1) + 1) + 1) fun v11 => K v0 v1 v2 v3 v4 v5 v6 v7 v8 v9 v10 v11 := by
  subst ho
  have g : ∀ j (v : AV), j < 12 → L[k].cells[j]? = some v → (frs L)[k * 12 + j]? = some v := fun j v hj h => by rw [frs_get hk hj, h]
  unfold aget
  rw [show (frs L)[k * 12]? = some (.i .i64 L[k].id) from g 0 _ (by omega) rfl]
  dsimp only
  rw [show (frs L)[(k * 12 + 1)]? = some (.b L[k].ext) from g 1 _ (by omega) rfl]
  dsimp only
  rw [show (frs L)[((k * 12 + 1) + 1)]? = some (.b L[k].rtr) from g 2 _ (by omega) rfl]
  dsimp only
  rw [show (frs L)[(((k * 12 + 1) + 1) + 1)]? = some (.i .i64 L[k].len) from g 3 _ (by omega) rfl]
  dsimp only
  rw [show (frs L)[((((k * 12 + 1) + 1) + 1) + 1)]? = some (.i .u8 L[k].b0) from g 4 _ (by omega) rfl]
  dsimp only
  rw [show (frs L)[(((((k * 12 + 1) + 1) + 1) + 1) + 1)]? = some (.i .u8 L[k].b1) from g 5 _ (by omega) rfl]
  dsimp only
  rw [show (frs L)[((((((k * 12 + 1) + 1) + 1) + 1) + 1) + 1)]? = some (.i .u8 L[k].b2) from g 6 _ (by omega) rfl]
  dsimp only
  rw [show (frs L)[(((((((k * 12 + 1) + 1) + 1) + 1) + 1) + 1) + 1)]? = some (.i .u8 L[k].b3) from g 7 _ (by omega) rfl]
  dsimp only
  rw [show (frs L)[((((((((k * 12 + 1) + 1) + 1) + 1) + 1) + 1) + 1) + 1)]? = some (.i .u8 L[k].b4) from g 8 _ (by omega) rfl]
  dsimp only
  rw [show (frs L)[(((((((((k * 12 + 1) + 1) + 1) + 1) + 1) + 1) + 1) + 1) + 1)]? = some (.i .u8 L[k].b5) from g 9 _ (by omega) rfl]
  dsimp only
  rw [show (frs L)[((((((((((k * 12 + 1) + 1) + 1) + 1) + 1) + 1) + 1) + 1) + 1) + 1)]? = some (.i .u8 L[k].b6) from g 10 _ (by omega) rfl]
  dsimp only
  rw [show (frs L)[(((((((((((k * 12 + 1) + 1) + 1) + 1) + 1) + 1) + 1) + 1) + 1) + 1) + 1)]? = some (.i .u8 L[k].b7) from g 11 _ (by omega) rfl]
  exact h
/-- The place of the first of a row that is such a one; -1: none is. -/
def IsIdx {α : Type} (p : α → Bool) (L : List α) (v : Int) : Prop :=
  (∃ k, ∃ h : k < L.length, v = k ∧ p L[k] = true ∧ ∀ j (h : j < L.length), j < k → p L[j] = false) ∨ (v = -1 ∧ ∀ F ∈ L, p F = false)
theorem idx_none {α : Type} {p : α → Bool} {L : List α} (h : ∀ j (h : j < L.length), j < L.length → p L[j] = false) : IsIdx p L (-1) :=
  .inr ⟨rfl, fun F hF => by
    obtain ⟨j, hj, rfl⟩ := List.mem_iff_getElem.1 hF
    exact h j hj hj⟩
theorem IsIdx.pos {α : Type} {p : α → Bool} {L : List α} {v : Int} (h : IsIdx p L v) : 0 ≤ v ↔ ∃ x ∈ L, p x = true := by
  rcases h with ⟨k, h1, rfl, h2, h3⟩ | ⟨rfl, h1⟩
  · exact ⟨fun _ => ⟨_, List.getElem_mem h1, h2⟩, fun _ => by omega⟩
  · refine ⟨fun h => by omega, fun ⟨x, h2, h3⟩ => ?_⟩
    rw [h1 x h2] at h3; cases h3
end Go.AK
/- Plain facts on rows of levels, fields and frames: no program in sight. -/
namespace Go.AK
open Go Go.RowKit
set_option linter.unusedVariables false
/-- The place of the first that is no level; -1: all are. -/
def IsChk (L : List Int) (v : Int) : Prop := (v = -1 ∧ isLv L) ∨ ∃ k, ∃ h : k < L.length, v = k ∧ isLv (L.take k) ∧ ¬ (L[k] = 0 ∨ L[k] = 1)
theorem IsChk.lv {L : List Int} {v : Int} (h : IsChk L v) (hl : isLv L) : v = -1 := by
  rcases h with ⟨h, _⟩ | ⟨k, h1, _, _, h2⟩
  · exact h
  · exact absurd (hl _ (List.getElem_mem h1)) h2
theorem IsChk.neg {L : List Int} {v : Int} (h : IsChk L v) : 0 ≤ v ↔ ¬ isLv L := by
  rcases h with ⟨rfl, h⟩ | ⟨k, h1, rfl, _, h2⟩
  · exact ⟨fun h1 => by omega, fun h1 => absurd h h1⟩
  · exact ⟨fun _ hl => h2 (hl _ (List.getElem_mem h1)), fun _ => by omega⟩
/-- Those ahead of the first that is no level. -/
def lvP : List Int → List Int
  | [] => []
  | x :: l => if x = 0 ∨ x = 1 then x :: lvP l else []
theorem lvP_lv : ∀ L : List Int, isLv (lvP L)
  | [] => isLv_nil
  | x :: l => by
    unfold lvP
    split
    · exact isLv_cons.2 ⟨by assumption, lvP_lv l⟩
    · exact isLv_nil
theorem lvP_all : ∀ {L : List Int}, isLv L → lvP L = L
  | [], _ => rfl
  | x :: l, h => by
    unfold lvP
    rw [if_pos (isLv_cons.1 h).1, lvP_all (isLv_cons.1 h).2]
theorem lvP_app {x : Int} (hx : ¬ (x = 0 ∨ x = 1)) (m : List Int) : ∀ {L : List Int}, isLv L → lvP (L ++ x :: m) = L
  | [], _ => by show lvP (x :: m) = []; unfold lvP; rw [if_neg hx]
  | y :: l, h => by
    show lvP (y :: (l ++ x :: m)) = _
    unfold lvP
    rw [if_pos (isLv_cons.1 h).1, lvP_app hx m (isLv_cons.1 h).2]
theorem lvP_pre : ∀ L : List Int, lvP L <+: L
  | [] => List.prefix_refl _
  | x :: l => by
    unfold lvP
    split
    · exact List.cons_prefix_cons.2 ⟨rfl, lvP_pre l⟩
    · exact List.nil_prefix
theorem lvP_le (L : List Int) : (lvP L).length ≤ L.length := (lvP_pre L).length_le
theorem lvP_take (L : List Int) : L.take (lvP L).length = lvP L := (List.prefix_iff_eq_take.1 (lvP_pre L)).symm
theorem IsChk.cut {L : List Int} {v : Int} (h : IsChk L v) : (if 0 ≤ v then v else (L.length : Int)) = ((lvP L).length : Nat) := by
  rcases h with ⟨rfl, h⟩ | ⟨k, h1, rfl, h3, h2⟩
  · rw [if_neg (by omega), lvP_all h]
  · rw [if_pos (by omega)]
    have e : lvP L = L.take k := by
      have hs : L = L.take k ++ L[k] :: L.drop (k + 1) := by rw [← List.drop_eq_getElem_cons h1, List.take_append_drop]
      conv => lhs; rw [hs]
      exact lvP_app h2 _ h3
    rw [e, List.length_take]; omega
theorem get_gd {L : List Int} {i : Nat} (h : i < L.length) : L[i]? = some (L.getD i 0) := by
  rw [List.getD_eq_getElem?_getD, List.getElem?_eq_getElem h]; rfl
theorem gd_lv {L : List Int} (hl : isLv L) (i : Nat) : L.getD i 0 = 0 ∨ L.getD i 0 = 1 := by
  by_cases h : i < L.length
  · exact isLv_get hl i h
  · left; rw [List.getD_eq_getElem?_getD, List.getElem?_eq_none (by omega)]; rfl
/-- The levels from one place to another. -/
def cut (l : List Int) (a b : Nat) : List Int := (l.take b).drop a
theorem cut_lv {l : List Int} (h : isLv l) (a b : Nat) : isLv (cut l a b) := isLv_drop (isLv_take h b) a
theorem cut_length (l : List Int) (a b : Nat) (hb : b ≤ l.length) : (cut l a b).length = b - a := by
  unfold cut
  rw [List.length_drop, List.length_take]
  omega
theorem pow_le {a b : Nat} (h : a ≤ b) : (2 : Int) ^ a ≤ 2 ^ b := by
  have h2 : ((2 ^ a : Nat) : Int) ≤ ((2 ^ b : Nat) : Int) := by exact_mod_cast Nat.pow_le_pow_right (n := 2) (by omega) h
  simpa using h2
theorem valI_small {l : List Int} (h : isLv l) {n : Nat} (hn : l.length ≤ n) : 0 ≤ valI l ∧ valI l < 2 ^ n := by
  have := valI_bounds h
  have h2 := pow_le hn
  omega
theorem VLe.cut {L : List Int} {a b o n : Nat} (hab : a ≤ b) (hb : b ≤ L.length) (ho : o = a) (hn : n = b - a) {xs ys : List AV} (h : VLe xs ys) :
    VLe (.rs (ints L) o 1 n :: xs) (.rs (ints (cut L a b)) 0 1 (cut L a b).length :: ys) := by
  subst ho
  rw [cut_length _ _ _ hb, hn]
  have hl : (ints (AK.cut L o b)).length = b - o := by rw [nums_length, cut_length _ _ _ hb]
  refine VLe.rs ?_ ?_ h
  · rw [hl, nums_drop, nums_take]
    unfold AK.cut
    rw [List.drop_take]
  · rw [hl, List.length_drop, nums_length]; omega
theorem VLe.nilsl {cs xs ys : List AV} {o z z' : Nat} (h : VLe xs ys) : VLe (.sl none z' 0 0 :: xs) (.rs cs o z 0 :: ys) := fun E vs ⟨v, vs', h1, h2, h3⟩ => by
  obtain ⟨_, _, rfl⟩ := h2
  exact ⟨_, vs', h1, .inl ⟨rfl, _, _, rfl⟩, h E vs' h3⟩
/-! What the first levels of a frame tell. -/
def extL (l : List Int) : Bool := decide (l.getD 13 0 = 1)
def ctrlAt (l : List Int) : Nat := if extL l = true then 33 else 14
def dataAt (l : List Int) : Nat := if extL l = true then 39 else 19
def whole (l : List Int) : Bool := decide (13 < l.length ∧ dataAt l ≤ l.length)
def rtrL (l : List Int) : Bool := decide (l.getD (if extL l = true then 32 else 12) 0 = 1)
def sizeL (l : List Int) : Nat := min (valI (cut l (dataAt l - 4) (dataAt l))).toNat 8
def aheadN (l : List Int) : Nat := dataAt l + if rtrL l = true then 0 else 8 * sizeL l
theorem sizeL_le (l : List Int) : sizeL l ≤ 8 := Nat.min_le_right _ _
theorem aheadN_le (l : List Int) : 19 ≤ dataAt l ∧ dataAt l ≤ 39 ∧ dataAt l ≤ aheadN l ∧ aheadN l ≤ 103 := by
  have := sizeL_le l
  unfold aheadN dataAt
  split <;> split <;> omega
/-- The field of the level behind others; -1: there is none. -/
def kn (l : List Int) : Int :=
  if l.length = 0 then 0
  else if l.length ≤ 13 ∨ (extL l = true ∧ l.length ≤ 32) then 1
  else if whole l = false then 2
  else if l.length < aheadN l then 3
  else if l.length < aheadN l + 15 then 4
  else if l.length < aheadN l + 16 then 5
  else if l.length < aheadN l + 17 then 6
  else if l.length < aheadN l + 18 then 7
  else if l.length < aheadN l + 25 then 8
  else if l.length = aheadN l + 25 then 9
  else -1
theorem i64_wraps (n : Int) (h0 : 0 ≤ n) (h1 : n < 2 ^ 62) : IntKind.i64.wrap n = n := by rw [IntKind.wrap_i64]; omega
theorem or_split (a b : Int) (ha : 0 ≤ a) (ha' : a < 2048) (hb : 0 ≤ b) (hb' : b < 262144) : bits .or .i64 (a * 262144) b = 262144 * a + b := by
  obtain ⟨m, rfl⟩ := Int.eq_ofNat_of_zero_le ha
  obtain ⟨n, rfl⟩ := Int.eq_ofNat_of_zero_le hb
  have h := (bits_nat .i64 62 (by decide) i64_wraps (m * 262144) n (by omega) (by omega)).2
  have e : ((m * 262144 : Nat) : Int) = (m : Int) * 262144 := by omega
  rw [e] at h
  rw [h]
  have h2 := Nat.two_pow_add_eq_or_of_lt (i := 18) (b := n) (by omega) m
  rw [show (2 : Nat) ^ 18 = 262144 from by decide] at h2
  rw [Nat.mul_comm m, ← h2]
  omega
/-! The frame of levels. -/
def idL (l : List Int) : Int := if extL l = true then 262144 * valI (cut l 1 12) + valI (cut l 14 32) else valI (cut l 1 12)
def nB (l : List Int) : Nat := if rtrL l = true then 0 else sizeL l
theorem nB_le (l : List Int) : nB l ≤ 8 := by
  have := sizeL_le l
  unfold nB; split <;> omega
theorem aheadN_nB (l : List Int) : aheadN l = dataAt l + 8 * nB l := by
  unfold aheadN nB
  split <;> rfl
def byteL (l : List Int) (j : Nat) : Int := valI (cut l (dataAt l + 8 * j) (dataAt l + 8 * j + 8))
def byK (l : List Int) (n j : Nat) : Int := if j < n then byteL l j else 0
def dataK (l : List Int) (n : Nat) : List Int := [byK l n 0, byK l n 1, byK l n 2, byK l n 3, byK l n 4, byK l n 5, byK l n 6, byK l n 7]
theorem dataK_zero (l : List Int) : dataK l 0 = [0, 0, 0, 0, 0, 0, 0, 0] := rfl
theorem dataK_next (l : List Int) {k : Nat} (hk : k < 8) : (dataK l k).set k (byteL l k) = dataK l (k + 1) := by
  have h : k = 0 ∨ k = 1 ∨ k = 2 ∨ k = 3 ∨ k = 4 ∨ k = 5 ∨ k = 6 ∨ k = 7 := by omega
  rcases h with rfl | rfl | rfl | rfl | rfl | rfl | rfl | rfl <;> rfl
def frL (l : List Int) : Fr := ⟨idL l, extL l, rtrL l, sizeL l, byK l (nB l) 0, byK l (nB l) 1, byK l (nB l) 2, byK l (nB l) 3, byK l (nB l) 4, byK l (nB l) 5, byK l (nB l) 6, byK l (nB l) 7⟩
theorem byteL_in {l : List Int} (hl : isLv l) (j : Nat) : 0 ≤ byteL l j ∧ byteL l j < 256 := by
  have h : (cut l (dataAt l + 8 * j) (dataAt l + 8 * j + 8)).length ≤ 8 := by
    unfold cut; rw [List.length_drop, List.length_take]; omega
  have := valI_small (cut_lv hl (dataAt l + 8 * j) (dataAt l + 8 * j + 8)) h
  have h8 : (2 : Int) ^ 8 = 256 := by decide
  unfold byteL; omega
theorem idL_in {l : List Int} (hl : isLv l) : 0 ≤ idL l ∧ idL l ≤ (if extL l = true then 536870911 else 2047) := by
  have h1 : (cut l 1 12).length ≤ 11 := by unfold cut; rw [List.length_drop, List.length_take]; omega
  have h2 : (cut l 14 32).length ≤ 18 := by unfold cut; rw [List.length_drop, List.length_take]; omega
  have k1 := valI_small (cut_lv hl 1 12) h1
  have k2 := valI_small (cut_lv hl 14 32) h2
  have h11 : (2 : Int) ^ 11 = 2048 := by decide
  have h18 : (2 : Int) ^ 18 = 262144 := by decide
  unfold idL
  split <;> omega
theorem frL_d (l : List Int) : (frL l).d = dataK l (nB l) := rfl
theorem frL_ok {l : List Int} (hl : isLv l) : (frL l).ok := by
  have h1 := idL_in hl
  have h2 := sizeL_le l
  refine ⟨?_, ?_, ?_⟩
  · show _ ≤ idL l ∧ idL l ≤ _
    split at h1 <;> omega
  · show _ ≤ ((sizeL l : Nat) : Int) ∧ ((sizeL l : Nat) : Int) ≤ _
    omega
  · intro x hx
    rw [frL_d] at hx
    have hz : ∀ j, 0 ≤ byK l (nB l) j ∧ byK l (nB l) j < 256 := fun j => by
      unfold byK
      split
      · exact byteL_in hl j
      · omega
    simp only [dataK, List.mem_cons, List.not_mem_nil, or_false] at hx
    rcases hx with rfl | rfl | rfl | rfl | rfl | rfl | rfl | rfl <;> exact hz _
/-- The frame of levels may be. -/
theorem frL_may {l : List Int} (hl : isLv l) : (frL l).may := by
  have h1 := idL_in hl
  have h2 := sizeL_le l
  have ho : (frL l).out = nB l := by
    show (if rtrL l = true then 0 else ((sizeL l : Nat) : Int).toNat) = nB l
    unfold nB
    split
    · rfl
    · omega
  refine ⟨h1.1, h1.2, ?_, ?_, ?_⟩
  · show 0 ≤ ((sizeL l : Nat) : Int); omega
  · show ((sizeL l : Nat) : Int) ≤ 8; omega
  · intro x hx
    rw [ho, frL_d] at hx
    have hn := nB_le l
    generalize hN : nB l = n at hx hn
    have h : n = 0 ∨ n = 1 ∨ n = 2 ∨ n = 3 ∨ n = 4 ∨ n = 5 ∨ n = 6 ∨ n = 7 ∨ n = 8 := by omega
    rcases h with rfl | rfl | rfl | rfl | rfl | rfl | rfl | rfl | rfl <;> simp [dataK, byK] at hx <;> exact hx
end Go.AK
/- The sum of levels in plain numbers: no program in sight. -/
namespace Go.AK
open Go Go.RowKit
set_option linter.unusedVariables false
/-- The sum behind a level. -/
def stepN (s x : Nat) : Nat := ((2 * s) % 32768) ^^^ (if (s / 16384 + x) % 2 = 1 then 17817 else 0)
theorem stepN_lt (s x : Nat) : stepN s x < 32768 := by
  unfold stepN
  refine Nat.xor_lt_two_pow (n := 15) (by omega) ?_
  split <;> omega
theorem xor_parity (a b : Nat) : (a ^^^ b) % 2 = (a + b) % 2 := by
  have h := Nat.xor_mod_two_pow (a := a) (b := b) (n := 1)
  rw [show (2 : Nat) ^ 1 = 2 from rfl] at h
  rw [h]
  rcases Nat.mod_two_eq_zero_or_one a with ha | ha <;> rcases Nat.mod_two_eq_zero_or_one b with hb | hb <;> rw [ha, hb] <;> simp <;> omega
theorem xor_cancel {a b c : Nat} (h : a ^^^ c = b ^^^ c) : a = b := by
  have := congrArg (· ^^^ c) h
  simpa [Nat.xor_assoc] using this
theorem stepN_parity (s x : Nat) : stepN s x % 2 = (s / 16384 + x) % 2 := by
  unfold stepN
  rw [xor_parity]
  split <;> omega
/-- The sum of levels, from a sum on. -/
def sumN (s : Nat) (l : List Nat) : Nat := l.foldl stepN s
theorem sumN_append (s : Nat) (a b : List Nat) : sumN s (a ++ b) = sumN (sumN s a) b := List.foldl_append
theorem sumN_snoc (s : Nat) (a : List Nat) (x : Nat) : sumN s (a ++ [x]) = stepN (sumN s a) x := by rw [sumN_append]; rfl
theorem sumN_lt (l : List Nat) : ∀ s, s < 32768 → sumN s l < 32768 := by
  induction l with
  | nil => intro s h; exact h
  | cons x t ih => intro s _; exact ih _ (stepN_lt s x)
theorem i64_and_nat (a b : Nat) (ha : a < 2 ^ 62) (hb : b < 2 ^ 62) : bits .and .i64 (a : Int) (b : Int) = ((a &&& b : Nat) : Int) :=
  (bits_nat .i64 62 (by decide) i64_wraps a b ha hb).1
theorem i64_xor_nat (a b : Nat) (ha : a < 2 ^ 62) (hb : b < 2 ^ 62) : bits .xor .i64 (a : Int) (b : Int) = ((a ^^^ b : Nat) : Int) := by
  have hp : (2 : Nat) ^ 62 ≤ 2 ^ IntKind.i64.bits := by decide
  have ha' : a % 2 ^ IntKind.i64.bits = a := Nat.mod_eq_of_lt (Nat.lt_of_lt_of_le ha hp)
  have hb' : b % 2 ^ IntKind.i64.bits = b := Nat.mod_eq_of_lt (Nat.lt_of_lt_of_le hb hp)
  have hx : a ^^^ b < 2 ^ 62 := Nat.xor_lt_two_pow ha hb
  simp only [bits, BitVec.ofInt_natCast, BitVec.toNat_xor, BitVec.toNat_ofNat, ha', hb']
  exact i64_wraps _ (Int.natCast_nonneg _) (by exact_mod_cast hx)
/-- Levels as natural numbers. -/
def nats (l : List Int) : List Nat := l.map Int.toNat
theorem nats_append (a b : List Int) : nats (a ++ b) = nats a ++ nats b := List.map_append
theorem nats_length (l : List Int) : (nats l).length = l.length := List.length_map _
/-- The sum of levels. -/
def crcN (l : List Int) : Nat := sumN 0 (nats l)
theorem crcN_lt (l : List Int) : crcN l < 32768 := sumN_lt _ 0 (by omega)
theorem crcN_snoc {l : List Int} {x : Int} : crcN (l ++ [x]) = stepN (crcN l) x.toNat := by
  unfold crcN
  rw [nats_append]
  exact sumN_snoc _ _ _
/-- What the code reckons. -/
theorem step_code (s x : Nat) (hs : s < 32768) (hx : x < 2) : bits .and .i64 (IntKind.i64.wrap ((s : Int) * 2 ^ min (Int.toNat 1) IntKind.i64.bits)) 32767 = ((2 * s % 32768 : Nat) : Int) ∧
    ((bits .and .i64 (s : Int) 16384 != 0) != ((x : Int) == 1)) = decide ((s / 16384 + x) % 2 = 1) ∧ bits .xor .i64 ((2 * s % 32768 : Nat) : Int) 17817 = ((2 * s % 32768 ^^^ 17817 : Nat) : Int) := by
  have e0 : bits .and .i64 (s : Int) 16384 = ((s &&& 16384 : Nat) : Int) := i64_and_nat s 16384 (by omega) (by decide)
  have e1 : s &&& 16384 = s / 16384 % 2 * 16384 := nat_bit 14 s
  have e2 : IntKind.i64.wrap ((s : Int) * 2 ^ min (Int.toNat 1) IntKind.i64.bits) = ((2 * s : Nat) : Int) := by rw [show min (Int.toNat 1) IntKind.i64.bits = 1 from rfl, w64 (by omega) (by omega)]; omega
  have e3 : bits .and .i64 ((2 * s : Nat) : Int) 32767 = ((2 * s % 32768 : Nat) : Int) := by
    rw [show (32767 : Int) = ((32767 : Nat) : Int) from rfl, i64_and_nat (2 * s) 32767 (by omega) (by decide), Nat.and_two_pow_sub_one_eq_mod (2 * s) 15]
  refine ⟨by rw [e2, e3], ?_, i64_xor_nat _ 17817 (by omega) (by decide)⟩
  rw [e0, e1]
  have hq : s / 16384 < 2 := by omega
  generalize s / 16384 = q at hq
  match q, x, hq, hx with
  | 0, 0, _, _ => rfl
  | 0, 1, _, _ => rfl
  | 1, 0, _, _ => rfl
  | 1, 1, _, _ => rfl
theorem xor_bit (a b j : Nat) : (a ^^^ b) / 2 ^ j % 2 = (a / 2 ^ j + b / 2 ^ j) % 2 := by
  have h := Nat.shiftRight_xor_distrib (a := a) (b := b) (i := j)
  rw [Nat.shiftRight_eq_div_pow, Nat.shiftRight_eq_div_pow, Nat.shiftRight_eq_div_pow] at h
  rw [h]
  exact xor_parity _ _
def polyL : List Int := [1, 0, 0, 0, 1, 0, 1, 1, 0, 0, 1, 1, 0, 0, 1]
theorem step_bit (n x i : Nat) (hn : n < 32768) (hi : i < 15) :
    ((stepN n x / 2 ^ (14 - i) % 2 : Nat) : Int) = ((if i < 14 then ((n / 2 ^ (13 - i) % 2 : Nat) : Int) else 0) + (((n / 16384 + x) % 2 : Nat) : Int) * polyL.getD i 0) % 2 := by
  unfold stepN
  rw [xor_bit]
  have hc : i = 0 ∨ i = 1 ∨ i = 2 ∨ i = 3 ∨ i = 4 ∨ i = 5 ∨ i = 6 ∨ i = 7 ∨ i = 8 ∨ i = 9 ∨ i = 10 ∨ i = 11 ∨ i = 12 ∨ i = 13 ∨ i = 14 := by omega
  generalize n / 16384 + x = u
  by_cases h : u % 2 = 1
  · rw [if_pos h, h]
    rcases hc with rfl | rfl | rfl | rfl | rfl | rfl | rfl | rfl | rfl | rfl | rfl | rfl | rfl | rfl | rfl <;> (simp [polyL]; try omega)
  · rw [if_neg h, show u % 2 = 0 by omega]
    rcases hc with rfl | rfl | rfl | rfl | rfl | rfl | rfl | rfl | rfl | rfl | rfl | rfl | rfl | rfl | rfl <;> (simp [polyL]; try omega)
/-- Do levels end in their sum? -/
def rightB (l : List Int) : Bool := decide (15 ≤ l.length) && decide (l.drop (l.length - 15) = ofI (crcN (l.take (l.length - 15)) : Nat) 15)
end Go.AK
namespace Go.AK
open Go Go.RowKit Go.Proofs
set_option linter.unusedVariables false
set_option maxRecDepth 100000
theorem mixed : Try.prog.follows .mixedOrders = true := by kernel_rfl
theorem levelB_spec (x : Int) : ACall Try.prog 40 [.i .i64 x] [] fun r H => r = .ret (.b (decide (x = 0 ∨ x = 1))) ∧ H = [] := by
  refine ACall.enter tok false Try.func40 rfl rfl rfl (AW_sound (ip := false) tok _ _ _ _ ?_)
  conv => whnf
  by_cases h : x = 0
  · rw [h]
    conv => whnf
    exact ⟨rfl, rfl⟩
  · rw [show (x == 0) = false from beq_eq_false_iff_ne.2 h]
    conv => whnf
    refine ⟨?_, rfl⟩
    rw [show (x == 1) = decide (x = 0 ∨ x = 1) from by rw [Bool.eq_iff_iff]; simp [h]]
theorem notLevel_spec (x : Int) : ACall Try.prog 39 [.i .i64 x] [] fun r H => r = .ret (.b (!decide (x = 0 ∨ x = 1))) ∧ H = [] := by
  refine ACall.enter tok false Try.func39 rfl rfl rfl (AW_sound (ip := false) tok _ _ _ _ ?_)
  conv => whnf
  refine ACall.mono (levelB_spec x) ?_; rintro r H ⟨rfl, rfl⟩
  conv => whnf
  exact ⟨rfl, rfl⟩
theorem indexLv_spec (L : List Int) (hL : L.length < 1000000000) :
    ACall Try.prog 38 [.rs (ints L) 0 1 L.length, .fn (.func 39) [] []] [] fun r H => ∃ v, IsChk L v ∧ r = .ret (.i .i64 v) ∧ H = [] := by
  refine ACall.enter tok false Try.func38 rfl rfl rfl (AW_sound (ip := false) tok _ _ _ _ ?_)
  conv => whnf
  refine ALoop.ind (ip := false) tok (fun m r H => ∃ (k : Nat), k ≤ L.length ∧ m = L.length - k ∧ isLv (L.take k) ∧ H = [] ∧
    r = [(8, .i .i64 k), (7, .i .i64 L.length), (0, .rs (ints L) 0 1 L.length), (1, .fn (.func 39) [] []), (4, .i .i64 0)]) L.length ?_ ?_
  · exact Gh.regs [8, 7, 0, 1, 4] (Gh.of ⟨0, by omega, by omega, isLv_nil, rfl, rfl⟩)
  · rintro m r H ⟨k, hk, rfl, hn, rfl, rfl⟩
    conv => whnf
    by_cases h : (k : Int) < L.length
    · refine acond_t (decide_eq_true h) ?_
      conv => whnf
      refine ⟨⟨by omega, h⟩, ?_⟩
      conv => whnf
      rw [show (0 + (k : Int).toNat * 1) = k from by omega]
      refine aget_nums (by omega) ?_
      conv => whnf
      refine ACall.mono (notLevel_spec (L[k]'(by omega))) ?_; rintro r H ⟨rfl, rfl⟩
      conv => whnf
      by_cases he : L[k]'(by omega) = 0 ∨ L[k]'(by omega) = 1
      · refine acond_f (by rw [decide_eq_true he]; rfl) ?_
        conv => whnf
        refine Gh.regs [8, 7, 0, 1, 4] (Gh.of ⟨L.length - (k + 1), by omega, k + 1, by omega, rfl, ?_, rfl, by rw [w64 (by omega) (by omega)]; rfl⟩)
        rw [List.take_succ_eq_append_getElem (by omega)]
        exact isLv_append.2 ⟨hn, isLv_cons.2 ⟨he, isLv_nil⟩⟩
      · refine acond_t (by rw [decide_eq_false he]; rfl) ?_
        conv => whnf
        exact ⟨_, .inr ⟨k, by omega, rfl, hn, he⟩, rfl, rfl⟩
    · refine acond_f (decide_eq_false h) ?_
      conv => whnf
      have : k = L.length := by omega
      subst this
      rw [List.take_length] at hn
      exact ⟨_, .inl ⟨rfl, hn⟩, rfl, rfl⟩
theorem chk_spec (L : List Int) (hL : L.length < 1000000000) : ACall Try.prog 21 [.rs (ints L) 0 1 L.length] [] fun r H => ∃ v, IsChk L v ∧ r = .ret (.i .i64 v) ∧ H = [] := by
  refine ACall.enter tok false Try.func21 rfl rfl rfl (AW_sound (ip := false) tok _ _ _ _ ?_)
  conv => whnf
  refine ACall.mono (indexLv_spec L hL) ?_; rintro r H ⟨v, hv, rfl, rfl⟩
  conv => whnf
  exact ⟨v, hv, rfl, rfl⟩
theorem chkLv_spec (L : List Int) (hL : L.length < 1000000000) (hl : isLv L) : ACall Try.prog 21 [.rs (ints L) 0 1 L.length] [] fun r H => r = .ret (.i .i64 (-1)) ∧ H = [] :=
  ACall.mono (chk_spec L hL) fun r H ⟨v, hv, h1, h2⟩ => ⟨by rw [h1, hv.lv hl], h2⟩
theorem u64or (a b : Int) (h0 : 0 ≤ a) (h1 : a < 9223372036854775808) (hb : b = 0 ∨ b = 1) : bits .or .u64 (2 * a) b = 2 * a + b := by
  obtain ⟨n, rfl⟩ : ∃ n : Nat, a = n := ⟨a.toNat, by omega⟩
  rcases hb with rfl | rfl
  · rw [u64_or _ _ (by omega) (by omega) (by omega) (by omega)]
    rw [show (2 * (n : Int)).toNat = 2 * n from by omega]
    show ((2 * n ||| 0 : Nat) : Int) = _
    rw [Nat.or_zero]; omega
  · rw [u64_or _ _ (by omega) (by omega) (by omega) (by omega)]
    rw [show (2 * (n : Int)).toNat = 2 * n from by omega]
    show ((2 * n ||| 1 : Nat) : Int) = _
    have := Nat.shiftLeft_add_eq_or_of_lt (b := 1) (i := 1) (by decide) n
    rw [Nat.shiftLeft_eq, show n * 2 ^ 1 = 2 * n from by omega] at this
    rw [← this]; omega
theorem value_spec (L : List Int) (hL : L.length ≤ 63) (hl : isLv L) : ACall Try.prog 59 [.rs (ints L) 0 1 L.length] [] fun r H => r = .ret (.tup [.i .u64 (valI L), .i .i64 0]) ∧ H = [] := by
  refine ACall.enter tok false Try.func59 rfl rfl rfl (AW_sound (ip := false) tok _ _ _ _ ?_)
  conv => whnf
  refine acond_f (decide_eq_false (by omega)) ?_
  conv => whnf
  refine ACall.mono (chkLv_spec L (by omega) hl) ?_; rintro r H ⟨rfl, rfl⟩
  conv => whnf
  refine ALoop.ind (ip := false) tok (fun m r H => ∃ (k : Nat), k ≤ L.length ∧ m = L.length - k ∧ H = [] ∧
    r = [(17, .i .i64 k), (16, .i .i64 L.length), (15, .rs (ints L) 0 1 L.length), (4, .i .u64 (valI (L.take k)))]) L.length ?_ ?_
  · exact Gh.regs [17, 16, 15, 4] (Gh.of ⟨0, by omega, by omega, rfl, rfl⟩)
  · rintro m r H ⟨k, hk, rfl, rfl, rfl⟩
    conv => whnf
    by_cases h : (k : Int) < L.length
    · refine acond_t (decide_eq_true h) ?_
      conv => whnf
      refine ⟨⟨by omega, h⟩, ?_⟩
      conv => whnf
      rw [show (0 + (k : Int).toNat * 1) = k from by omega]
      refine aget_nums (by omega) ?_
      conv => whnf
      refine ⟨by omega, ?_⟩
      conv => whnf
      have hkl : k < L.length := by omega
      have hb := valI_bounds (isLv_take hl k)
      have hlt : (L.take k).length = k := by rw [List.length_take]; omega
      rw [hlt] at hb
      have hp : (2 : Int) ^ k ≤ 2 ^ 62 := by
        have := Nat.pow_le_pow_right (n := 2) (by omega) (show k ≤ 62 by omega)
        have h2 : ((2 ^ k : Nat) : Int) ≤ ((2 ^ 62 : Nat) : Int) := by exact_mod_cast this
        simpa using h2
      have h62 : (2 : Int) ^ 62 = 4611686018427387904 := by decide
      have hx := hl _ (List.getElem_mem hkl)
      refine Gh.regs [17, 16, 15, 4] (Gh.of ⟨L.length - (k + 1), by omega, k + 1, by omega, rfl, rfl, ?_⟩)
      have e1 : IntKind.u64.wrap (valI (L.take k) * 2 ^ min (Int.toNat 1) IntKind.u64.bits) = 2 * valI (L.take k) := by
        rw [show min (Int.toNat 1) IntKind.u64.bits = 1 from rfl, wu64 (by omega) (by omega)]; omega
      have e2 : IntKind.u64.wrap L[k] = L[k] := wu64 (by omega) (by omega)
      have e3 : valI (L.take (k + 1)) = 2 * valI (L.take k) + L[k] := by rw [List.take_succ_eq_append_getElem hkl, valI_snoc]
      show [_, _, _, (4, AV.i .u64 (bits .or .u64 _ _))] = _
      rw [e1, e2, u64or _ _ (by omega) (by omega) hx, ← e3, w64 (by omega) (by omega)]
      rfl
    · refine acond_f (decide_eq_false h) ?_
      conv => whnf
      have : k = L.length := by omega
      subst this
      rw [List.take_length]
      exact ⟨rfl, rfl⟩
end Go.AK
namespace Go.AK
open Go Go.RowKit Go.Proofs
set_option linter.unusedVariables false
set_option maxRecDepth 100000
def headAV (l : List Int) : AV :=
  if l.length ≤ 13 then .agg [.b false, .b false, .i .i64 0, .i .i64 0, .i .i64 0]
  else if whole l = true then .agg [.b (extL l), .b (rtrL l), .i .i64 (ctrlAt l), .i .i64 (dataAt l), .i .i64 (sizeL l)]
  else .agg [.b (extL l), .b false, .i .i64 (ctrlAt l), .i .i64 (dataAt l), .i .i64 0]
theorem min8 {v : Int} (h : 0 ≤ v) : (if (8 : Int) < v then 8 else v) = ((min v.toNat 8 : Nat) : Int) := by
  split <;> omega
theorem read_spec (L : List Int) (hl : isLv L) (hL : L.length < 1000000000) : ACall Try.prog 42 [.rs (ints L) 0 1 L.length] [] fun r H => r = .ret (.tup [headAV L, .b (whole L)]) ∧ H = [] := by
  refine ACall.gh ?_
  refine ACall.enter tok false Try.func42 rfl rfl rfl (AW_sound (ip := false) tok _ _ _ _ ?_)
  conv => whnf
  by_cases c0 : (L.length : Int) ≤ 13
  · refine acond_t (decide_eq_true c0) ?_
    conv => whnf
    refine ⟨by show 0 + 5 ≤ 5; omega, ?_⟩
    conv => whnf
    have hw : whole L = false := decide_eq_false fun h => by omega
    refine GhR.sel [] rfl (GhR.of ⟨?_, rfl⟩)
    unfold headAV
    rw [if_pos (by omega), hw]; rfl
  refine acond_f (decide_eq_false c0) ?_
  conv => whnf
  refine ⟨⟨by omega, by omega⟩, ?_⟩
  conv => whnf
  refine aget_num (i := 13) rfl (get_gd (by omega)) ?_
  conv => whnf
  by_cases c1 : L.getD 13 0 = 1
  · have hx : extL L = true := decide_eq_true c1
    have hd : dataAt L = 39 := by unfold dataAt; rw [if_pos hx]
    have hc : ctrlAt L = 33 := by unfold ctrlAt; rw [if_pos hx]
    rw [show (L.getD 13 0 == 1) = true from by rw [c1]; rfl]
    refine ⟨by show 0 + 5 ≤ 5; omega, ?_⟩
    conv => whnf
    refine ⟨by show 2 + 1 ≤ 5; omega, ?_⟩
    conv => whnf
    refine ⟨by show 3 + 1 ≤ 5; omega, ?_⟩
    conv => whnf
    by_cases c2 : (L.length : Int) < 39
    · refine acond_t (decide_eq_true c2) ?_
      conv => whnf
      refine ⟨by show 0 + 5 ≤ 5; omega, ?_⟩
      conv => whnf
      have hw : whole L = false := decide_eq_false fun h => by omega
      refine GhR.sel [] rfl (GhR.of ⟨?_, rfl⟩)
      unfold headAV
      rw [if_neg (by omega), if_neg (by rw [hw]; decide), hx, hc, hd, hw]; rfl
    · refine acond_f (decide_eq_false c2) ?_
      have hw : whole L = true := decide_eq_true ⟨by omega, by omega⟩
      have hcl : (cut L 35 39).length = 4 := cut_length L 35 39 (by omega)
      have hv := valI_small (cut_lv hl 35 39) (n := 4) (by omega)
      have h4 : (2 : Int) ^ 4 = 16 := by decide
      conv => whnf
      refine ⟨⟨by omega, by omega⟩, ?_⟩
      conv => whnf
      refine aget_num (i := 32) rfl (get_gd (by omega)) ?_
      conv => whnf
      refine ⟨by show 1 + 1 ≤ 5; omega, ?_⟩
      conv => whnf
      have ks : IntKind.i64.wrap (39 - 4) = 35 := by decide
      refine ⟨⟨by rw [ks]; omega, by rw [ks]; omega, by omega⟩, ?_⟩
      conv => whnf
      refine ACall.frameH [] [] rfl (args' := [.rs (ints L) 35 1 4]) (Hc := []) (by show [AV.rs (subs _ (ints L)) _ _ _] = _; rw [subs_nums]; rfl) rfl (ACall.args (value_spec (cut L 35 39) (by omega) (cut_lv hl _ _)) (VLe.cut (a := 35) (b := 39) (by omega) (by omega) rfl rfl VLe.nil)) ?_
      rintro r H ⟨rfl, rfl⟩
      refine ⟨.inl rfl, _, rfl, ?_⟩
      conv => whnf
      refine ⟨by show 4 + 1 ≤ 5; omega, ?_⟩
      conv => whnf
      refine ⟨by show 0 + 5 ≤ 5; omega, ?_⟩
      conv => whnf
      refine GhR.sel [] rfl (GhR.of ⟨?_, rfl⟩)
      have hr : rtrL L = (L.getD 32 0 == 1) := by unfold rtrL; rw [if_pos hx]; rfl
      have hs : sizeL L = min (valI (cut L 35 39)).toNat 8 := by unfold sizeL; rw [hd]
      have hh : headAV L = .agg [.b true, .b (rtrL L), .i .i64 (33 : Nat), .i .i64 (39 : Nat), .i .i64 (sizeL L)] := by
        unfold headAV
        rw [if_neg (by omega), if_pos hw, hx, hc, hd]
      rw [hh, hw, hr, hs, ← min8 hv.1, w64 (x := valI (cut L 35 39)) (by omega) (by omega)]
      rfl
  · have hx : extL L = false := decide_eq_false c1
    have hd : dataAt L = 19 := by unfold dataAt; rw [hx]; rfl
    have hc : ctrlAt L = 14 := by unfold ctrlAt; rw [hx]; rfl
    rw [show (L.getD 13 0 == 1) = false from beq_eq_false_iff_ne.2 c1]
    refine ⟨by show 0 + 5 ≤ 5; omega, ?_⟩
    conv => whnf
    by_cases c2 : (L.length : Int) < 19
    · refine acond_t (decide_eq_true c2) ?_
      conv => whnf
      refine ⟨by show 0 + 5 ≤ 5; omega, ?_⟩
      conv => whnf
      have hw : whole L = false := decide_eq_false fun h => by omega
      refine GhR.sel [] rfl (GhR.of ⟨?_, rfl⟩)
      unfold headAV
      rw [if_neg (by omega), if_neg (by rw [hw]; decide), hx, hc, hd, hw]; rfl
    · refine acond_f (decide_eq_false c2) ?_
      have hw : whole L = true := decide_eq_true ⟨by omega, by omega⟩
      have hcl : (cut L 15 19).length = 4 := cut_length L 15 19 (by omega)
      have hv := valI_small (cut_lv hl 15 19) (n := 4) (by omega)
      have h4 : (2 : Int) ^ 4 = 16 := by decide
      conv => whnf
      refine ⟨⟨by omega, by omega⟩, ?_⟩
      conv => whnf
      refine aget_num (i := 12) rfl (get_gd (by omega)) ?_
      conv => whnf
      refine ⟨by show 1 + 1 ≤ 5; omega, ?_⟩
      conv => whnf
      have ks : IntKind.i64.wrap (19 - 4) = 15 := by decide
      refine ⟨⟨by rw [ks]; omega, by rw [ks]; omega, by omega⟩, ?_⟩
      conv => whnf
      refine ACall.frameH [] [] rfl (args' := [.rs (ints L) 15 1 4]) (Hc := []) (by show [AV.rs (subs _ (ints L)) _ _ _] = _; rw [subs_nums]; rfl) rfl (ACall.args (value_spec (cut L 15 19) (by omega) (cut_lv hl _ _)) (VLe.cut (a := 15) (b := 19) (by omega) (by omega) rfl rfl VLe.nil)) ?_
      rintro r H ⟨rfl, rfl⟩
      refine ⟨.inl rfl, _, rfl, ?_⟩
      conv => whnf
      refine ⟨by show 4 + 1 ≤ 5; omega, ?_⟩
      conv => whnf
      refine ⟨by show 0 + 5 ≤ 5; omega, ?_⟩
      conv => whnf
      refine GhR.sel [] rfl (GhR.of ⟨?_, rfl⟩)
      have hr : rtrL L = (L.getD 12 0 == 1) := by unfold rtrL; rw [hx]; rfl
      have hs : sizeL L = min (valI (cut L 15 19)).toNat 8 := by unfold sizeL; rw [hd]
      have hh : headAV L = .agg [.b false, .b (rtrL L), .i .i64 (14 : Nat), .i .i64 (19 : Nat), .i .i64 (sizeL L)] := by
        unfold headAV
        rw [if_neg (by omega), if_pos hw, hx, hc, hd]
      rw [hh, hw, hr, hs, ← min8 hv.1, w64 (x := valI (cut L 15 19)) (by omega) (by omega)]
      rfl
end Go.AK
namespace Go.AK
open Go Go.RowKit Go.Proofs
set_option linter.unusedVariables false
set_option maxRecDepth 100000
theorem sum_spec (e rt : Bool) (c d : Int) (s : Nat) (hd : 0 ≤ d ∧ d ≤ 1000) (hs : s ≤ 8) : ACall Try.prog 57 [.agg [.b e, .b rt, .i .i64 c, .i .i64 d, .i .i64 s]] [] fun r H => r = .ret (.i .i64 (d + (if rt = true then 0 else 8 * s : Nat))) ∧ H = [] := by
  refine ACall.gh ?_
  refine ACall.enter tok false Try.func57 rfl rfl rfl (AW_sound (ip := false) tok _ _ _ _ ?_)
  conv => whnf
  cases rt
  · conv => whnf
    refine GhR.sel [] rfl (GhR.of ⟨?_, rfl⟩)
    rw [w64 (x := 8 * _) (by omega) (by omega), w64 (by omega) (by omega)]
    simp only [Bool.false_eq_true, if_false]
    rw [show ((8 * s : Nat) : Int) = 8 * (s : Int) from by omega]
    rfl
  · conv => whnf
    refine GhR.sel [] rfl (GhR.of ⟨?_, rfl⟩)
    simp only [if_true]
    rw [show d + ((0 : Nat) : Int) = d from by omega]
    rfl
theorem headAV_whole {l : List Int} (h : whole l = true) : headAV l = .agg [.b (extL l), .b (rtrL l), .i .i64 (ctrlAt l), .i .i64 (dataAt l), .i .i64 (sizeL l)] := by
  have := of_decide_eq_true h
  unfold headAV
  rw [if_neg (by omega), if_pos h]
theorem sumL_spec (l : List Int) (h : whole l = true) : ACall Try.prog 57 [headAV l] [] fun r H => r = .ret (.i .i64 (aheadN l)) ∧ H = [] := by
  have hd := aheadN_le l
  rw [headAV_whole h]
  refine ACall.mono (sum_spec _ _ _ _ _ (by omega) (sizeL_le l)) ?_
  rintro r H ⟨rfl, rfl⟩
  refine ⟨?_, rfl⟩
  unfold aheadN
  rw [show ((dataAt l : Nat) : Int) + ((if rtrL l = true then 0 else 8 * sizeL l : Nat) : Int) = ((dataAt l + if rtrL l = true then 0 else 8 * sizeL l : Nat) : Int) from by omega]
theorem headAV_sub (l : List Int) (φ : Nat → Sb) : sub φ (headAV l) = headAV l := by
  unfold headAV
  split
  · rfl
  · split <;> rfl
theorem headAV_cells (l : List Int) : ∃ e rt c d s, headAV l = .agg [.b e, .b rt, .i .i64 c, .i .i64 d, .i .i64 s] := by
  unfold headAV
  split
  · exact ⟨_, _, _, _, _, rfl⟩
  · split <;> exact ⟨_, _, _, _, _, rfl⟩
theorem ahead_spec (L : List Int) (hl : isLv L) (hL : L.length < 1000000000) : ACall Try.prog 41 [.rs (ints L) 0 1 L.length] [] fun r H => r = .ret (.tup [.i .i64 (if whole L = true then (aheadN L : Int) else 0), .i .i64 (if whole L = true then 0 else 13)]) ∧ H = [] := by
  refine ACall.gh ?_
  refine ACall.enter tok false Try.func41 rfl rfl rfl (AW_sound (ip := false) tok _ _ _ _ ?_)
  conv => whnf
  refine ACall.mono (chkLv_spec L hL hl) ?_; rintro r H ⟨rfl, rfl⟩
  conv => whnf
  refine ACall.mono (read_spec L hl hL) ?_; rintro r H ⟨rfl, rfl⟩
  by_cases hw : whole L = true
  · rw [headAV_whole hw, hw]
    conv => whnf
    refine ⟨by show 0 + 5 ≤ 5; omega, ?_⟩
    conv => whnf
    refine ACall.frameH [] [] rfl (args' := [headAV L]) (Hc := []) (by rw [headAV_whole hw]; rfl) rfl (sumL_spec L hw) ?_
    rintro r H ⟨rfl, rfl⟩
    refine ⟨.inl rfl, _, rfl, ?_⟩
    conv => whnf
    exact GhR.sel [] rfl (GhR.of ⟨rfl, rfl⟩)
  · have hw' : whole L = false := by simpa using hw
    obtain ⟨e, rt, c, d, s, hh⟩ := headAV_cells L
    rw [hh, hw']
    conv => whnf
    refine ⟨by show 0 + 5 ≤ 5; omega, ?_⟩
    conv => whnf
    exact GhR.sel [] rfl (GhR.of ⟨rfl, rfl⟩)
theorem fvalue_spec (L : List Int) (hL : L.length ≤ 62) (hl : isLv L) : ACall Try.prog 43 [.rs (ints L) 0 1 L.length] [] fun r H => r = .ret (.i .i64 (valI L)) ∧ H = [] := by
  refine ACall.enter tok false Try.func43 rfl rfl rfl (AW_sound (ip := false) tok _ _ _ _ ?_)
  conv => whnf
  refine ACall.mono (value_spec L (by omega) hl) ?_; rintro r H ⟨rfl, rfl⟩
  conv => whnf
  have := valI_small hl hL
  have h62 : (2 : Int) ^ 62 = 4611686018427387904 := by decide
  rw [w64 (by omega) (by omega)]
  exact ⟨rfl, rfl⟩
/-- Widths from the data on. -/
def Wd (l : List Int) : List Int := [0, 0, 0, ((aheadN l - dataAt l : Nat) : Int), 15, 1, 1, 1, 7]
def atW (l : List Int) (k : Nat) : Int := dataAt l + ((Wd l).take k).foldl (· + ·) 0
theorem atW_vals (l : List Int) : atW l 0 = dataAt l ∧ atW l 1 = dataAt l ∧ atW l 2 = dataAt l ∧ atW l 3 = dataAt l ∧ atW l 4 = aheadN l ∧ atW l 5 = aheadN l + 15 ∧ atW l 6 = aheadN l + 16 ∧ atW l 7 = aheadN l + 17 ∧ atW l 8 = aheadN l + 18 ∧ atW l 9 = aheadN l + 25 := by
  have := aheadN_le l
  refine ⟨?_, ?_, ?_, ?_, ?_, ?_, ?_, ?_, ?_, ?_⟩ <;> (simp only [atW, Wd, List.take, List.foldl]; omega)
theorem atW_next (l : List Int) {k : Nat} (hk : k < 9) : atW l (k + 1) = atW l k + (Wd l).getD k 0 ∧ 0 ≤ (Wd l).getD k 0 ∧ (Wd l).getD k 0 ≤ 100 ∧ 0 ≤ atW l k ∧ atW l k ≤ 200 := by
  have h1 := aheadN_le l
  have h2 := atW_vals l
  have h : k = 0 ∨ k = 1 ∨ k = 2 ∨ k = 3 ∨ k = 4 ∨ k = 5 ∨ k = 6 ∨ k = 7 ∨ k = 8 := by omega
  rcases h with rfl | rfl | rfl | rfl | rfl | rfl | rfl | rfl | rfl <;> simp only [Wd, List.getD_cons_zero, List.getD_cons_succ, Nat.reduceAdd] <;> omega
theorem kn_at {l : List Int} {k : Nat} (hk : k < 9) (hw : whole l = true) (h1 : atW l k ≤ l.length) (h2 : (l.length : Int) < atW l (k + 1)) : kn l = k := by
  have hb := aheadN_le l
  have hv := atW_vals l
  have hw2 := of_decide_eq_true hw
  have hd : extL l = true → dataAt l = 39 := fun h => by unfold dataAt; rw [if_pos h]
  have hx : ¬ (l.length ≤ 13 ∨ extL l = true ∧ l.length ≤ 32) := fun h => by
    rcases h with h | ⟨h, h3⟩
    · omega
    · have := hd h; omega
  have h : k = 0 ∨ k = 1 ∨ k = 2 ∨ k = 3 ∨ k = 4 ∨ k = 5 ∨ k = 6 ∨ k = 7 ∨ k = 8 := by omega
  unfold kn
  rw [if_neg (by omega), if_neg hx, if_neg (by rw [hw]; decide)]
  rcases h with rfl | rfl | rfl | rfl | rfl | rfl | rfl | rfl | rfl <;> simp only [Nat.reduceAdd] at h2 <;> (repeat' split) <;> omega
theorem kn_end {l : List Int} (hw : whole l = true) (h1 : atW l 9 ≤ l.length) : ((l.length : Int) > atW l 9 → kn l = -1) ∧ (¬ (l.length : Int) > atW l 9 → kn l = 9) := by
  have hb := aheadN_le l
  have hv := atW_vals l
  have hw2 := of_decide_eq_true hw
  have hd : extL l = true → dataAt l = 39 := fun h => by unfold dataAt; rw [if_pos h]
  have hx : ¬ (l.length ≤ 13 ∨ extL l = true ∧ l.length ≤ 32) := fun h => by
    rcases h with h | ⟨h, h3⟩
    · omega
    · have := hd h; omega
  constructor <;> intro h
  all_goals
    unfold kn
    rw [if_neg (by omega), if_neg hx, if_neg (by rw [hw]; decide), if_neg (by omega), if_neg (by omega), if_neg (by omega), if_neg (by omega), if_neg (by omega), if_neg (by omega)]
  · rw [if_neg (by omega)]
  · rw [if_pos (by omega)]
theorem next_spec (L : List Int) (hl : isLv L) (hL : L.length < 1000000) : ACall Try.prog 36 [.rs (ints L) 0 1 L.length] [] fun r H => (∃ i, r = .ret (.tup [.i .i64 (if kn L < 0 then 0 else kn L), .i .i64 i, .i .i64 (if kn L < 0 then 12 else 0)])) ∧ H = [] := by
  refine ACall.gh ?_
  refine ACall.enter tok false Try.func36 rfl rfl rfl (AW_sound (ip := false) tok _ _ _ _ ?_)
  have fin : ∀ k i e (H : Heap), k = (if kn L < 0 then 0 else kn L) → e = (if kn L < 0 then 12 else 0) → GhR 0 (fun r H => (∃ i, r = ARes.ret (.tup [.i .i64 (if kn L < 0 then 0 else kn L), .i .i64 i, .i .i64 (if kn L < 0 then 12 else 0)])) ∧ H = []) (.ret (.tup [.i .i64 k, .i .i64 i, .i .i64 e])) H := by
    rintro k i e H rfl rfl
    exact GhR.sel [] rfl (GhR.of ⟨⟨i, rfl⟩, rfl⟩)
  have hb := aheadN_le L
  conv => whnf
  refine ACall.mono (chkLv_spec L (by omega) hl) ?_; rintro r H ⟨rfl, rfl⟩
  conv => whnf
  refine ACall.mono (read_spec L hl (by omega)) ?_; rintro r H ⟨rfl, rfl⟩
  by_cases c0 : L.length = 0
  · have hk : kn L = 0 := by unfold kn; rw [if_pos c0]
    obtain ⟨e, rt, c, d, s, hh⟩ := headAV_cells L
    rw [hh]
    conv => whnf
    refine ⟨by show 0 + 5 ≤ 5; omega, ?_⟩
    conv => whnf
    refine acond_t (beq_iff_eq.2 (by omega)) ?_
    conv => whnf
    exact fin _ _ _ _ (by rw [hk]; rfl) (by rw [hk]; rfl)
  by_cases c1 : L.length ≤ 13
  · have hk : kn L = 1 := by unfold kn; rw [if_neg c0, if_pos (.inl c1)]
    obtain ⟨e, rt, c, d, s, hh⟩ := headAV_cells L
    rw [hh]
    conv => whnf
    refine ⟨by show 0 + 5 ≤ 5; omega, ?_⟩
    conv => whnf
    refine acond_f (beq_eq_false_iff_ne.2 (by omega)) ?_
    conv => whnf
    repeat (refine acond_t (decide_eq_true (by omega)) ?_; conv => whnf)
    exact fin _ _ _ _ (by rw [hk]; rfl) (by rw [hk]; rfl)
  by_cases hw : whole L = true
  · have hw2 := of_decide_eq_true hw
    rw [headAV_whole hw, hw]
    have c2 : ¬ (L.length ≤ 13 ∨ (extL L = true ∧ L.length ≤ 32)) := fun h => by
      rcases h with h | ⟨h, h2⟩
      · omega
      · have : dataAt L = 39 := by unfold dataAt; rw [if_pos h]
        omega
    have he : extL L = true → 32 < L.length := fun h => by
      have : dataAt L = 39 := by unfold dataAt; rw [if_pos h]
      omega
    conv => whnf
    refine ⟨by show 0 + 5 ≤ 5; omega, ?_⟩
    conv => whnf
    refine acond_f (beq_eq_false_iff_ne.2 (by omega)) ?_
    conv => whnf
    repeat (refine acond_f (decide_eq_false (by omega)) ?_; conv => whnf)
    cases hx : extL L
    all_goals
      conv => whnf
      repeat (first | (refine acond_f rfl ?_; conv => whnf) | (refine acond_t rfl ?_; conv => whnf) | (refine acond_f (decide_eq_false (by omega)) ?_; conv => whnf) | (refine acond_f (decide_eq_false (by have := he hx; omega)) ?_; conv => whnf))
      refine ADraw.gh ?_
      refine Gh.regs [6, 8, 5, 0] ?_
      refine Gh.frz 0 rfl (Gh.of ?_)
      refine ADraw.ofS tok mixed false [0, 3] [0, 2, 3, 6] [1, 4, 5] (by kernel_rfl) (fun _ _ _ _ h => h) ?_
      conv => whnf
      refine ACall.frameH [] [] rfl (args' := [headAV L]) (Hc := []) (by rw [headAV_whole hw, hx]; rfl) rfl (sumL_spec L hw) ?_
      rintro r H ⟨rfl, rfl⟩
      refine ⟨.inl rfl, [.dead], rfl, ?_⟩
      conv => whnf
      refine ALoop.ind (ip := false) tok (fun m r H => ∃ (k : Nat), k ≤ 9 ∧ m = 9 - k ∧ atW L k ≤ L.length ∧ H = [] ∧ r = [(52, .i .i64 k), (51, .agg (nums .i64 (Wd L))), (5, .i .i64 L.length), (8, .i .i64 (atW L k))]) 9 ?_ ?_
      · refine Gh.regs [52, 51, 5, 8] (Gh.sel [] rfl (Gh.of ⟨0, by omega, rfl, by show (dataAt L : Int) + 0 ≤ _; omega, rfl, ?_⟩))
        rw [w64 (by omega) (by omega), show ((aheadN L : Nat) : Int) - (dataAt L : Nat) = ((aheadN L - dataAt L : Nat) : Int) from by omega, show atW L 0 = dataAt L from by show (dataAt L : Int) + 0 = _; omega]
        rfl
      · rintro m r H ⟨k, hk, rfl, hat, rfl, rfl⟩
        conv => whnf
        by_cases h : (k : Int) < 9
        · have hk9 : k < 9 := by omega
          obtain ⟨a1, a2, a3, a4⟩ := atW_next L hk9
          refine acond_t (decide_eq_true h) ?_
          conv => whnf
          refine ⟨⟨by omega, by omega⟩, ?_⟩
          conv => whnf
          refine aget_num (i := k) (by show (k : Int).toNat * 1 = k; omega) (get_gd (by exact hk9)) ?_
          conv => whnf
          by_cases h2 : (L.length : Int) < atW L (k + 1)
          · refine acond_t (decide_eq_true (by rw [w64 (by omega) (by omega)]; omega)) ?_
            conv => whnf
            have hkn := kn_at hk9 hw hat h2
            exact fin _ _ _ _ (by rw [hkn, if_neg (by omega)]) (by rw [hkn, if_neg (by omega)])
          · refine acond_f (decide_eq_false (by rw [w64 (by omega) (by omega)]; omega)) ?_
            conv => whnf
            refine Gh.regs [52, 51, 5, 8] (Gh.of ⟨9 - (k + 1), by omega, k + 1, by omega, rfl, by omega, rfl, ?_⟩)
            rw [w64 (by omega) (by omega), w64 (by omega) (by omega), ← a1]
            rfl
        · have hk9 : k = 9 := by omega
          refine acond_f (decide_eq_false h) ?_
          conv => whnf
          rw [hk9] at hat ⊢
          obtain ⟨e1, e2⟩ := kn_end hw hat
          by_cases h2 : (L.length : Int) > atW L 9
          · refine acond_t (decide_eq_true h2) ?_
            conv => whnf
            exact fin _ _ _ _ (by rw [e1 h2]; rfl) (by rw [e1 h2]; rfl)
          · refine acond_f (decide_eq_false h2) ?_
            conv => whnf
            exact fin _ _ _ _ (by rw [e2 h2]; rfl) (by rw [e2 h2]; rfl)
  · have hw' : whole L = false := by simpa using hw
    have hw2 : ¬ (13 < L.length ∧ dataAt L ≤ L.length) := of_decide_eq_false hw'
    have hh : headAV L = .agg [.b (extL L), .b false, .i .i64 (ctrlAt L), .i .i64 (dataAt L), .i .i64 0] := by
      unfold headAV
      rw [if_neg c1, if_neg hw]
    rw [hh, hw']
    conv => whnf
    refine ⟨by show 0 + 5 ≤ 5; omega, ?_⟩
    conv => whnf
    refine acond_f (beq_eq_false_iff_ne.2 (by omega)) ?_
    conv => whnf
    repeat (refine acond_f (decide_eq_false (by omega)) ?_; conv => whnf)
    cases hx : extL L
    · have hk : kn L = 2 := by unfold kn; rw [if_neg c0, if_neg (by rw [hx]; intro h; rcases h with h | ⟨h, _⟩; exact c1 h; cases h), if_pos hw']
      conv => whnf
      repeat (first | (refine acond_f rfl ?_; conv => whnf) | (refine acond_f (decide_eq_false (by omega)) ?_; conv => whnf))
      refine ADraw.of tok mixed false [0, 1, 2, 3, 4, 5, 6] [] (by kernel_rfl) (fun _ _ _ _ h => h) ?_
      conv => whnf
      exact fin _ _ _ _ (by rw [hk]; rfl) (by rw [hk]; rfl)
    · by_cases c3 : L.length ≤ 32
      · have hk : kn L = 1 := by unfold kn; rw [if_neg c0, if_pos (.inr ⟨hx, c3⟩)]
        conv => whnf
        repeat (first | (refine acond_t rfl ?_; conv => whnf) | (refine acond_f (decide_eq_false (by omega)) ?_; conv => whnf) | (refine acond_t (decide_eq_true (by omega)) ?_; conv => whnf))
        exact fin _ _ _ _ (by rw [hk]; rfl) (by rw [hk]; rfl)
      · have hk : kn L = 2 := by unfold kn; rw [if_neg c0, if_neg (by intro h; rcases h with h | ⟨_, h⟩; exact c1 h; exact c3 h), if_pos hw']
        conv => whnf
        repeat (first | (refine acond_t rfl ?_; conv => whnf) | (refine acond_f (decide_eq_false (by omega)) ?_; conv => whnf))
        refine ADraw.of tok mixed false [0, 1, 2, 3, 4, 5, 6] [] (by kernel_rfl) (fun _ _ _ _ h => h) ?_
        conv => whnf
        exact fin _ _ _ _ (by rw [hk]; rfl) (by rw [hk]; rfl)
end Go.AK
namespace Go.AK
open Go Go.RowKit Go.Proofs
set_option linter.unusedVariables false
set_option maxRecDepth 100000
theorem cstep_spec (s : Nat) (x : Int) (hs : s < 32768) (hx : x = 0 ∨ x = 1) : ACall Try.prog 53 [.i .i64 s, .i .i64 x] [] fun r H => r = .ret (.i .i64 (stepN s x.toNat : Nat)) ∧ H = [] := by
  refine ACall.enter tok false Try.func53 rfl rfl rfl (AW_sound (ip := false) tok _ _ _ _ ?_)
  obtain ⟨n, rfl⟩ : ∃ n : Nat, x = n := ⟨x.toNat, by omega⟩
  obtain ⟨e1, e2, e3⟩ := step_code s n hs (by omega)
  conv => whnf
  refine ⟨by omega, ?_⟩
  conv => whnf
  rw [Int.toNat_natCast]
  by_cases h : (s / 16384 + n) % 2 = 1
  · refine acond_t (e2.trans (decide_eq_true h)) ?_
    conv => whnf
    refine ⟨?_, rfl⟩
    rw [e1, e3]
    unfold stepN
    rw [if_pos h]
  · refine acond_f (e2.trans (decide_eq_false h)) ?_
    conv => whnf
    refine ⟨?_, rfl⟩
    rw [e1]
    unfold stepN
    rw [if_neg h, Nat.xor_zero]
theorem may_spec (s : Nat) (hs : s < 32768) : ACall Try.prog 54 [.i .i64 s] [] fun r H => r = .ret (.b true) ∧ H = [] := by
  refine ACall.enter tok false Try.func54 rfl rfl rfl (AW_sound (ip := false) tok _ _ _ _ ?_)
  conv => whnf
  repeat (refine acond_t (decide_eq_true (by omega)) ?_; conv => whnf)
  refine ⟨?_, rfl⟩
  rw [decide_eq_true (by omega)]
theorem cbits_spec (s : Nat) (hs : s < 32768) : ACall Try.prog 32 [.i .i64 s] [] fun r H => r = .ret (.tup [.sl (some (0, 0)) 1 15 15, .i .i64 0]) ∧ H = [.c (ints (ofI s 15))] := by
  refine ACall.enter tok false Try.func32 rfl rfl rfl (AW_sound (ip := false) tok _ _ _ _ ?_)
  conv => whnf
  refine ACall.mono (may_spec s hs) ?_; rintro r H ⟨rfl, rfl⟩
  conv => whnf
  rw [wu64 (by omega) (by omega)]
  refine ACall.mono (of_spec s 15 (by omega) (by omega) (by omega)) ?_; rintro r H ⟨rfl, rfl⟩
  conv => whnf
  exact ⟨rfl, rfl⟩
theorem on_spec (s : Nat) (x : Int) (hs : s < 32768) (hx : x = 0 ∨ x = 1) : ACall Try.prog 52 [.i .i64 x, .p (some (0, 0))] [.c [.i .i64 s]] fun r H => r = .ret (.tup []) ∧ H = [.c [.i .i64 (stepN s x.toNat : Nat)]] := by
  refine ACall.enter tok false Try.func52 rfl rfl rfl (AW_sound (ip := false) tok _ _ _ _ ?_)
  conv => whnf
  refine ACall.frameH [] [] rfl (args' := [.i .i64 s, .i .i64 x]) (Hc := []) rfl rfl (cstep_spec s x hs hx) ?_
  rintro r H ⟨rfl, rfl⟩
  refine ⟨.inl rfl, _, rfl, ?_⟩
  conv => whnf
  refine ⟨by show 0 + 1 ≤ 1; omega, ?_⟩
  conv => whnf
  exact ⟨rfl, rfl⟩
theorem csum_spec (L : List Int) (hl : isLv L) (hL : L.length < 1000000000) : ACall Try.prog 31 [.rs (ints L) 0 1 L.length] [] fun r H => r = .ret (.tup [.i .i64 (crcN L : Nat), .i .i64 0]) ∧ H = [] := by
  refine ACall.gh ?_
  refine ACall.enter tok false Try.func31 rfl rfl rfl (AW_sound (ip := false) tok _ _ _ _ ?_)
  conv => whnf
  refine ACall.mono (chkLv_spec L hL hl) ?_; rintro r H ⟨rfl, rfl⟩
  conv => whnf
  refine ⟨by show 0 + 1 ≤ 1; omega, ?_⟩
  conv => whnf
  refine ALoop.ind (ip := false) tok (fun m r H => ∃ (k : Nat), k ≤ L.length ∧ m = L.length - k ∧ H = [.c [.i .i64 (crcN (L.take k) : Nat)]] ∧
    r = [(13, .i .i64 k), (12, .i .i64 L.length), (5, .fn (.func 52) [] [.p (some (0, 0))]), (4, .p (some (0, 0))), (0, .rs (ints L) 0 1 L.length)]) L.length ?_ ?_
  · exact Gh.regs [13, 12, 5, 4, 0] (Gh.of ⟨0, by omega, by omega, rfl, rfl⟩)
  · rintro m r H ⟨k, hk, rfl, rfl, rfl⟩
    conv => whnf
    by_cases h : (k : Int) < L.length
    · have hkl : k < L.length := by omega
      refine acond_t (decide_eq_true h) ?_
      conv => whnf
      refine ⟨⟨by omega, h⟩, ?_⟩
      conv => whnf
      refine aget_num (i := k) (by omega) (List.getElem?_eq_getElem hkl) ?_
      conv => whnf
      refine ACall.mono (on_spec (crcN (L.take k)) L[k] (crcN_lt _) (hl _ (List.getElem_mem hkl))) ?_
      rintro r H ⟨rfl, rfl⟩
      conv => whnf
      refine Gh.regs [13, 12, 5, 4, 0] (Gh.of ⟨L.length - (k + 1), by omega, k + 1, by omega, rfl, ?_, by rw [w64 (by omega) (by omega)]; rfl⟩)
      rw [List.take_succ_eq_append_getElem hkl, crcN_snoc]
    · refine acond_f (decide_eq_false h) ?_
      conv => whnf
      have : k = L.length := by omega
      subst this
      rw [List.take_length]
      exact GhR.sel [] rfl (GhR.of ⟨rfl, rfl⟩)
theorem csumNo_spec (L : List Int) (hl : ¬ isLv L) (hL : L.length < 1000000000) : ACall Try.prog 31 [.rs (ints L) 0 1 L.length] [] fun r H => r = .ret (.tup [.i .i64 0, .i .i64 10]) ∧ H = [] := by
  refine ACall.enter tok false Try.func31 rfl rfl rfl (AW_sound (ip := false) tok _ _ _ _ ?_)
  conv => whnf
  refine ACall.mono (chk_spec L hL) ?_; rintro r H ⟨v, hv, rfl, rfl⟩
  conv => whnf
  refine acond_t (decide_eq_true (hv.neg.2 hl)) ?_
  conv => whnf
  exact ⟨rfl, rfl⟩
theorem equal_spec (L M : List Int) (hL : L.length < 1000000000) : ACall Try.prog 64 [.rs (ints L) 0 1 L.length, .rs (ints M) 0 1 M.length] [] fun r H => r = .ret (.b (decide (L = M))) ∧ H = [] := by
  refine ACall.enter tok false Try.func64 rfl rfl rfl (AW_sound (ip := false) tok _ _ _ _ ?_)
  conv => whnf
  by_cases h0 : L.length = M.length
  · refine acond_f (by rw [h0]; simp) ?_
    conv => whnf
    refine ALoop.ind (ip := false) tok (fun m r H => ∃ (k : Nat), k ≤ L.length ∧ m = L.length - k ∧ L.take k = M.take k ∧ H = [] ∧
      r = [(13, .i .i64 k), (12, .i .i64 L.length), (1, .rs (ints M) 0 1 M.length), (0, .rs (ints L) 0 1 L.length)]) L.length ?_ ?_
    · exact Gh.regs [13, 12, 1, 0] (Gh.of ⟨0, by omega, by omega, rfl, rfl, rfl⟩)
    · rintro m r H ⟨k, hk, rfl, he, rfl, rfl⟩
      conv => whnf
      by_cases h : (k : Int) < L.length
      · have hkl : k < L.length := by omega
        have hkm : k < M.length := by omega
        refine acond_t (decide_eq_true h) ?_
        conv => whnf
        refine ADraw.of tok mixed false [0, 1, 2, 3, 4, 5, 6, 7, 8] [] (by kernel_rfl) (fun _ _ _ _ h => h) ?_
        conv => whnf
        refine ⟨⟨by omega, h⟩, ?_⟩
        conv => whnf
        refine aget_num (i := k) (by omega) (List.getElem?_eq_getElem hkl) ?_
        conv => whnf
        refine ⟨⟨by omega, by omega⟩, ?_⟩
        conv => whnf
        refine aget_num (i := k) (by omega) (List.getElem?_eq_getElem hkm) ?_
        conv => whnf
        by_cases e : L[k] = M[k]
        · refine acond_f (by rw [e]; simp) ?_
          conv => whnf
          refine Gh.regs [13, 12, 1, 0] (Gh.of ⟨L.length - (k + 1), by omega, k + 1, by omega, rfl, ?_, rfl, by rw [w64 (by omega) (by omega)]; rfl⟩)
          rw [List.take_succ_eq_append_getElem hkl, List.take_succ_eq_append_getElem hkm, he, e]
        · refine acond_t (bne_iff_ne.2 e) ?_
          conv => whnf
          refine ⟨?_, rfl⟩
          rw [decide_eq_false]
          intro h2
          subst h2
          exact e rfl
      · refine acond_f (decide_eq_false h) ?_
        conv => whnf
        have hk2 : k = L.length := by omega
        refine ⟨?_, rfl⟩
        rw [decide_eq_true]
        have := he
        rwa [hk2, List.take_length, h0, List.take_length] at this
  · refine acond_t (bne_iff_ne.2 (by omega)) ?_
    conv => whnf
    refine ⟨?_, rfl⟩
    rw [decide_eq_false]
    intro h2
    exact h0 (by rw [h2])
theorem cright_spec (L : List Int) (hl : isLv L) (hL : L.length < 1000000) : ACall Try.prog 58 [.rs (ints L) 0 1 L.length] [] fun r H => r = .ret (.b (rightB L)) ∧ H = [] := by
  refine ACall.gh ?_
  refine ACall.enter tok false Try.func58 rfl rfl rfl (AW_sound (ip := false) tok _ _ _ _ ?_)
  conv => whnf
  by_cases h : L.length < 15
  · repeat (refine acond_t (decide_eq_true (by rw [w64 (by omega) (by omega)]; omega)) ?_; conv => whnf)
    refine GhR.sel [] rfl (GhR.of ⟨?_, rfl⟩)
    unfold rightB
    rw [decide_eq_false (by omega : ¬ 15 ≤ L.length)]; rfl
  · have hw : IntKind.i64.wrap ((L.length : Int) - 15) = ((L.length - 15 : Nat) : Int) := by rw [w64 (by omega) (by omega)]; omega
    repeat (refine acond_f (decide_eq_false (by rw [hw]; omega)) ?_; conv => whnf)
    refine ACall.mono (chkLv_spec L (by omega) hl) ?_; rintro r H ⟨rfl, rfl⟩
    conv => whnf
    repeat (refine acond_f (decide_eq_false (by rw [hw]; omega)) ?_; conv => whnf)
    rw [hw]
    refine ⟨by omega, ?_⟩
    conv => whnf
    have e1 : cut L 0 (L.length - 15) = L.take (L.length - 15) := List.drop_zero
    refine ACall.mono (ACall.args (csum_spec (cut L 0 (L.length - 15)) (cut_lv hl _ _) (by rw [cut_length _ _ _ (by omega)]; omega)) (VLe.cut (a := 0) (b := L.length - 15) (by omega) (by omega) (by omega) (by omega) VLe.nil)) ?_
    rintro r H ⟨rfl, rfl⟩
    conv => whnf
    refine ACall.mono (cbits_spec _ (crcN_lt _)) ?_; rintro r H ⟨rfl, rfl⟩
    conv => whnf
    refine ⟨by omega, ?_⟩
    conv => whnf
    have e2 : cut L (L.length - 15) L.length = L.drop (L.length - 15) := by unfold cut; rw [List.take_length]
    refine ACall.frameH [] [0] rfl (args' := [.rs (ints L) (L.length - 15) 1 15, .rs (ints (ofI (crcN (cut L 0 (L.length - 15)) : Nat) 15)) 0 1 (ofI (crcN (cut L 0 (L.length - 15)) : Nat) 15).length]) (Hc := []) ?_ rfl
      (ACall.args (equal_spec (cut L (L.length - 15) L.length) (ofI (crcN (cut L 0 (L.length - 15)) : Nat) 15) (by rw [cut_length _ _ _ (by omega)]; omega)) (VLe.cut (a := L.length - 15) (b := L.length) (by omega) (by omega) rfl (by omega) (VLe.cons VLe.nil))) ?_
    · show [AV.rs (subs _ (ints L)) _ _ _, AV.rs (subs _ (ints _)) _ _ _] = _
      rw [subs_nums, subs_nums, ofI_length, show 0 + ((L.length - 15 : Nat) : Int).toNat * 1 = L.length - 15 from by omega, show L.length - ((L.length - 15 : Nat) : Int).toNat = 15 from by omega]
    rintro r H ⟨rfl, rfl⟩
    refine ⟨.inr ⟨rfl, rfl⟩, _, rfl, ?_⟩
    conv => whnf
    refine GhR.sel [] rfl (GhR.of ⟨?_, rfl⟩)
    unfold rightB
    rw [decide_eq_true (by omega : 15 ≤ L.length), Bool.true_and, e1, e2]
    rfl
theorem right_spec (L : List Int) (hl : isLv L) (hL : L.length < 1000000) (hw : whole L = true) (hn : aheadN L + 15 ≤ L.length) : ACall Try.prog 37 [.rs (ints L) 0 1 L.length] [] fun r H => r = .ret (.tup [.b (rightB (L.take (aheadN L + 15))), .i .i64 0]) ∧ H = [] := by
  refine ACall.enter tok false Try.func37 rfl rfl rfl (AW_sound (ip := false) tok _ _ _ _ ?_)
  conv => whnf
  refine ACall.mono (ahead_spec L hl (by omega)) ?_
  rw [if_pos hw, if_pos hw]
  rintro r H ⟨rfl, rfl⟩
  conv => whnf
  have hw15 : IntKind.i64.wrap ((aheadN L : Int) + 15) = ((aheadN L + 15 : Nat) : Int) := by rw [w64 (by omega) (by omega)]; omega
  refine acond_f (decide_eq_false (by rw [hw15]; omega)) ?_
  conv => whnf
  rw [hw15]
  refine ⟨by omega, ?_⟩
  conv => whnf
  have e1 : cut L 0 (aheadN L + 15) = L.take (aheadN L + 15) := List.drop_zero
  refine ACall.mono (ACall.args (cright_spec (cut L 0 (aheadN L + 15)) (cut_lv hl _ _) (by rw [cut_length _ _ _ (by omega)]; omega)) (VLe.cut (a := 0) (b := aheadN L + 15) (by omega) (by omega) (by omega) (by omega) VLe.nil)) ?_
  rintro r H ⟨rfl, rfl⟩
  conv => whnf
  rw [e1]
  exact ⟨rfl, rfl⟩
end Go.AK
namespace Go.AK
open Go Go.RowKit Go.Proofs
set_option linter.unusedVariables false
set_option maxRecDepth 100000
theorem idL_ext {l : List Int} (h : extL l = true) (hl : isLv l) : bits .or .i64 (IntKind.i64.wrap (valI (cut l 1 12) * 2 ^ min (Int.toNat 18) IntKind.i64.bits)) (valI (cut l 14 32)) = idL l := by
  have h1 : (cut l 1 12).length ≤ 11 := by unfold cut; rw [List.length_drop, List.length_take]; omega
  have h2 : (cut l 14 32).length ≤ 18 := by unfold cut; rw [List.length_drop, List.length_take]; omega
  have k1 := valI_small (cut_lv hl 1 12) h1
  have k2 := valI_small (cut_lv hl 14 32) h2
  have h11 : (2 : Int) ^ 11 = 2048 := by decide
  have h18 : (2 : Int) ^ 18 = 262144 := by decide
  rw [show min (Int.toNat 18) IntKind.i64.bits = 18 from rfl, h18, w64 (by omega) (by omega), or_split _ _ (by omega) (by omega) (by omega) (by omega)]
  unfold idL; rw [if_pos h]
def Fr0 : Fr := ⟨0, false, false, 0, 0, 0, 0, 0, 0, 0, 0, 0⟩
def frCells (l : List Int) (id : Int) (n : Nat) : List AV := .i .i64 id :: .b (extL l) :: .b (rtrL l) :: .i .i64 (sizeL l) :: nums .u8 (dataK l n)
theorem frCells_set (l : List Int) (id : Int) {k o : Nat} (hk : k < 8) (ho : o = k + 4) : setCells (frCells l id k) o [.i .u8 (byteL l k)] = frCells l id (k + 1) := by
  subst ho
  show (.i .i64 id :: .b (extL l) :: .b (rtrL l) :: .i .i64 (sizeL l) :: (nums .u8 (dataK l k)).set k (.i .u8 (byteL l k))) = _
  rw [nums_set, dataK_next l hk]
  rfl
set_option maxHeartbeats 4000000 in
theorem frame_spec (L : List Int) (hl : isLv L) (hL : L.length < 1000000) (hw : whole L = true) (hn : aheadN L ≤ L.length) (h0 : L.getD 0 0 = 0) : ACall Try.prog 23 [.rs (ints L) 0 1 L.length] [] fun r H => r = .ret (.tup [(frL L).av, .i .i64 0]) ∧ H = [] := by
  refine ACall.gh ?_
  refine ACall.enter tok false Try.func23 rfl rfl rfl (AW_sound (ip := false) tok _ _ _ _ ?_)
  have hb := aheadN_le L
  have hwd := of_decide_eq_true hw
  have hnb := aheadN_nB L
  have hnb8 := nB_le L
  conv => whnf
  refine ACall.frameH [] [] rfl (args' := [.rs (ints L) 0 1 L.length]) (Hc := []) (by show [AV.rs (subs _ (ints L)) _ _ _] = _; rw [subs_nums]) rfl (ahead_spec L hl (by omega)) ?_
  rw [if_pos hw, if_pos hw]
  rintro r H ⟨rfl, rfl⟩
  refine ⟨.inl rfl, _, rfl, ?_⟩
  conv => whnf
  refine acond_f (decide_eq_false (by omega)) ?_
  conv => whnf
  refine ⟨⟨by omega, by omega⟩, ?_⟩
  conv => whnf
  refine aget_num (i := 0) rfl (get_gd (by omega)) ?_
  rw [h0]
  conv => whnf
  refine ACall.frameH [] [] rfl (args' := [.rs (ints L) 0 1 L.length]) (Hc := []) (by show [AV.rs (subs _ (ints L)) _ _ _] = _; rw [subs_nums]) rfl (read_spec L hl (by omega)) ?_
  rw [headAV_whole hw, hw]
  rintro r H ⟨rfl, rfl⟩
  refine ⟨.inl rfl, _, rfl, ?_⟩
  conv => whnf
  refine ⟨by show 0 + 5 ≤ 5; omega, ?_⟩
  conv => whnf
  refine ADraw.gh ?_
  refine Gh.regs [0, 2, 4, 6] ?_
  refine Gh.frz 1 rfl (Gh.of ?_)
  have c1 : (cut L 1 12).length = 11 := cut_length L 1 12 (by omega)
  have hval1 : ACall Try.prog 43 [.rs (ints L) 1 1 11] [] fun r H => r = .ret (.i .i64 (valI (cut L 1 12))) ∧ H = [] :=
    ACall.args (fvalue_spec (cut L 1 12) (by omega) (cut_lv hl _ _)) (VLe.cut (a := 1) (b := 12) (by omega) (by omega) rfl rfl VLe.nil)
  refine ADraw.post (Q' := fun x r H => x = .normal ∧ H = [.c Fr0.cells, .dead, .c (frCells L (valI (cut L 1 12)) 0)] ∧
    keepR [0, 2, 4, 6, 8] r = [(0, .rs (ints L) 0 1 L.length), (2, .p (some (0, 0))), (4, .i .i64 (aheadN L)), (6, .rp [.b (extL L), .b (rtrL L), .i .i64 (ctrlAt L), .i .i64 (dataAt L), .i .i64 (sizeL L)] 0), (8, .p (some (2, 0)))]) ?_ ?_ (fun x r H hn h => absurd h.1 hn)
  · refine ADraw.tree tok mixed false [4, 6, 8] [0, 1, 3, 4, 5, 6, 7, 8] (.node (.cons 2 (.node (.cons 9 (.node (.cons 10 (.node (.cons 11 (.node .nil) .nil)) .nil)) (.cons 10 (.node (.cons 9 (.node (.cons 11 (.node .nil) .nil)) .nil)) .nil))) (.cons 10 (.node (.cons 2 (.node (.cons 9 (.node (.cons 11 (.node .nil) .nil)) .nil)) .nil)) .nil))) (by kernel_rfl) (fun _ _ _ _ h => nomatch h.1) ?_
    conv => whnf
    refine ⟨⟨by omega, by omega, by omega⟩, ?_⟩
    conv => whnf
    have fin : ∀ (x : Int) (H : Heap), setCells Fr0.cells 0 (AV.agg [.i .i64 (valI (cut L 1 12)), .b (extL L), .b (rtrL L), .i .i64 (sizeL L), .i .u8 0, .i .u8 0, .i .u8 0, .i .u8 0, .i .u8 0, .i .u8 0, .i .u8 0, .i .u8 0]).cells = frCells L (valI (cut L 1 12)) 0 := fun _ _ => rfl
    refine And.intro ?_ (And.intro ?_ trivial)
    · conv => whnf
      refine ACall.frameH [] [] rfl (args' := [.rs (ints L) 1 1 11]) (Hc := []) (by show [AV.rs (subs _ (subs _ (ints L))) _ _ _] = _; rw [subs_nums, subs_nums]; rfl) rfl hval1 ?_
      rintro r H ⟨rfl, rfl⟩
      refine ⟨.inl rfl, _, rfl, ?_⟩
      conv => whnf
      refine And.intro ?_ (And.intro ?_ trivial)
      · conv => whnf
        refine ⟨by show 0 + 12 ≤ 12; omega, ?_⟩
        conv => whnf
        refine ⟨rfl, rfl, ?_⟩
        show [_, _, _, _, _] = _
        simp only [sub, subs_nums]
        rfl
      · conv => whnf
        refine ⟨by show 0 + 12 ≤ 12; omega, ?_⟩
        conv => whnf
        refine ⟨rfl, rfl, ?_⟩
        show [_, _, _, _, _] = _
        simp only [sub, subs_nums]
        rfl
    · conv => whnf
      refine ACall.frameH [] [] rfl (args' := [.rs (ints L) 1 1 11]) (Hc := []) (by show [AV.rs (subs _ (subs _ (ints L))) _ _ _] = _; rw [subs_nums, subs_nums]; rfl) rfl hval1 ?_
      rintro r H ⟨rfl, rfl⟩
      refine ⟨.inl rfl, _, rfl, ?_⟩
      conv => whnf
      refine ⟨by show 0 + 12 ≤ 12; omega, ?_⟩
      conv => whnf
      refine ⟨rfl, rfl, ?_⟩
      show [_, _, _, _, _] = _
      simp only [sub, subs_nums]
      rfl
  · rintro r H ⟨_, rfl, hr⟩
    refine Gh.regs [0, 2, 4, 6, 8] ?_
    rw [hr]
    refine Gh.of ?_
    conv => whnf
    cases hx : extL L
    · have hid : valI (cut L 1 12) = idL L := by unfold idL; rw [hx]; rfl
      conv => whnf
      rw [hid]
      refine ⟨by omega, ?_⟩
      conv => whnf
      have hq : IntKind.i64.wrap ((IntKind.i64.wrap ((aheadN L : Int) - dataAt L)).tdiv 8) = ((nB L : Nat) : Int) := by
        rw [w64 (x := (aheadN L : Int) - dataAt L) (by omega) (by omega), show (aheadN L : Int) - dataAt L = 8 * (nB L : Nat) from by omega, Int.mul_comm, Int.mul_tdiv_cancel _ (by omega), w64 (by omega) (by omega)]
      rw [hq]
      refine ALoop.ind (ip := false) tok (fun m r H => ∃ (k : Nat), k ≤ nB L ∧ m = nB L - k ∧ H = [.c Fr0.cells, .c (frCells L (idL L) k)] ∧
        r = [(62, .i .i64 k), (61, .i .i64 (nB L)), (0, .rs (ints L) 0 1 L.length), (2, .p (some (0, 0))), (6, .rp [.b (extL L), .b (rtrL L), .i .i64 (ctrlAt L), .i .i64 (dataAt L), .i .i64 (sizeL L)] 0), (8, .p (some (1, 0)))]) (nB L) ?_ ?_
      · refine Gh.regs [62, 61, 0, 2, 6, 8] (Gh.sel [0, 2] rfl (Gh.of ⟨0, by omega, rfl, rfl, ?_⟩))
        refine keep_eq (show keepR _ _ = [_, _, _, _, _, _] from rfl) ?_
        simp only [subG, sub, subs_nums]
        rw [hx]; rfl
      · rintro m r H ⟨k, hk, rfl, rfl, rfl⟩
        conv => whnf
        by_cases h : (k : Int) < nB L
        · have hkn : k < nB L := by omega
          have hbt := byteL_in hl k
          refine acond_t (decide_eq_true h) ?_
          conv => whnf
          have e1 : IntKind.i64.wrap ((dataAt L : Int) + IntKind.i64.wrap (8 * (k : Int))) = ((dataAt L + 8 * k : Nat) : Int) := by
            rw [w64 (x := 8 * (k : Int)) (by omega) (by omega), w64 (by omega) (by omega)]; omega
          have e2 : IntKind.i64.wrap ((dataAt L : Int) + IntKind.i64.wrap (8 * IntKind.i64.wrap ((k : Int) + 1))) = ((dataAt L + 8 * k + 8 : Nat) : Int) := by
            rw [w64 (x := (k : Int) + 1) (by omega) (by omega), w64 (x := 8 * ((k : Int) + 1)) (by omega) (by omega), w64 (by omega) (by omega)]; omega
          refine ⟨⟨by rw [e1]; omega, by rw [e1, e2]; omega, by rw [e2]; omega⟩, ?_⟩
          conv => whnf
          refine ACall.frameH [] [] rfl (args' := [.rs (ints L) (dataAt L + 8 * k) 1 8]) (Hc := []) ?_ rfl
            (ACall.args (fvalue_spec (cut L (dataAt L + 8 * k) (dataAt L + 8 * k + 8)) (by rw [cut_length _ _ _ (by omega)]; omega) (cut_lv hl _ _)) (VLe.cut (a := dataAt L + 8 * k) (b := dataAt L + 8 * k + 8) (by omega) (by omega) rfl (by omega) VLe.nil)) ?_
          · show [AV.rs (subs _ (ints L)) (0 + Int.toNat (IntKind.i64.wrap ((dataAt L : Int) + IntKind.i64.wrap (8 * (k : Int)))) * 1) 1 (Int.toNat (IntKind.i64.wrap ((dataAt L : Int) + IntKind.i64.wrap (8 * IntKind.i64.wrap ((k : Int) + 1)))) - Int.toNat (IntKind.i64.wrap ((dataAt L : Int) + IntKind.i64.wrap (8 * (k : Int)))))] = _
            rw [subs_nums, e1, e2, Int.toNat_natCast, Int.toNat_natCast, show 0 + (dataAt L + 8 * k) * 1 = dataAt L + 8 * k from by omega, show dataAt L + 8 * k + 8 - (dataAt L + 8 * k) = 8 from by omega]
          rintro r H ⟨rfl, rfl⟩
          refine ⟨.inl rfl, _, rfl, ?_⟩
          conv => whnf
          refine ⟨⟨by omega, by omega⟩, ?_⟩
          conv => whnf
          refine ⟨by show 0 + 4 + (k : Int).toNat * 1 + 1 ≤ 12; omega, ?_⟩
          conv => whnf
          refine Gh.regs [62, 61, 0, 2, 6, 8] (Gh.of ⟨nB L - (k + 1), by omega, k + 1, by omega, rfl, ?_, ?_⟩)
          · show [_, Blk.c (setCells (frCells L (idL L) k) (0 + 4 + (k : Int).toNat * 1) [.i .u8 (IntKind.u8.wrap (byteL L k))])] = _
            rw [show IntKind.u8.wrap (byteL L k) = byteL L k from by rw [IntKind.wrap_u8]; omega, frCells_set L _ (by omega) (by omega)]
          · rw [w64 (by omega) (by omega)]; rfl
        · refine acond_f (decide_eq_false h) ?_
          conv => whnf
          have hk2 : k = nB L := by omega
          subst hk2
          refine ⟨by show 0 + 12 ≤ 12; omega, ?_⟩
          conv => whnf
          exact GhR.sel [] rfl (GhR.of ⟨rfl, rfl⟩)
    · have hid := idL_ext hx hl
      conv => whnf
      refine ADraw.post (Q' := fun x r H => x = .normal ∧ H = [.c Fr0.cells, .dead, .c (frCells L (idL L) 0)] ∧
        keepR [0, 2, 4, 6, 8] r = [(0, .rs (ints L) 0 1 L.length), (2, .p (some (0, 0))), (4, .i .i64 (aheadN L)), (6, .rp [.b (extL L), .b (rtrL L), .i .i64 (ctrlAt L), .i .i64 (dataAt L), .i .i64 (sizeL L)] 0), (8, .p (some (2, 0)))]) ?_ ?_ (fun x r H hn h => absurd h.1 hn)
      · refine ADraw.tree tok mixed false [] [0, 3, 4] (.node (.cons 1 (.node (.cons 2 (.node (.cons 5 (.node (.cons 6 (.node (.cons 7 (.node (.cons 8 (.node .nil) .nil)) .nil)) .nil)) .nil)) (.cons 5 (.node (.cons 2 (.node (.cons 6 (.node (.cons 7 (.node (.cons 8 (.node .nil) .nil)) .nil)) .nil)) .nil)) .nil))) (.cons 5 (.node (.cons 1 (.node (.cons 2 (.node (.cons 6 (.node (.cons 7 (.node (.cons 8 (.node .nil) .nil)) .nil)) .nil)) .nil)) .nil)) .nil))) (by kernel_rfl) (fun _ _ _ _ h => nomatch h.1) ?_
        conv => whnf
        have hd39 : dataAt L = 39 := by unfold dataAt; rw [if_pos hx]
        have c2 : (cut L 14 32).length = 18 := cut_length L 14 32 (by omega)
        have hval2 : ACall Try.prog 43 [.rs (ints L) 14 1 18] [] fun r H => r = .ret (.i .i64 (valI (cut L 14 32))) ∧ H = [] :=
          ACall.args (fvalue_spec (cut L 14 32) (by omega) (cut_lv hl _ _)) (VLe.cut (a := 14) (b := 32) (by omega) (by omega) rfl rfl VLe.nil)
        refine ⟨⟨by omega, by omega, by omega⟩, ?_⟩
        conv => whnf
        refine And.intro ?_ (And.intro ?_ trivial)
        · conv => whnf
          refine And.intro ?_ (And.intro ?_ trivial)
          · conv => whnf
            refine ⟨by omega, ?_⟩
            conv => whnf
            refine ACall.frameH [] [] rfl (args' := [.rs (ints L) 14 1 18]) (Hc := []) (by show [AV.rs (subs _ (ints L)) _ _ _] = _; rw [subs_nums]; rfl) rfl hval2 ?_
            rintro r H ⟨rfl, rfl⟩
            refine ⟨.inl rfl, [.c Fr0.cells, .dead, .c (frCells L (valI (cut L 1 12)) 0)], rfl, ?_⟩
            conv => whnf
            refine ⟨by show 0 + 1 ≤ 12; omega, ?_⟩
            conv => whnf
            refine ⟨rfl, ?_, ?_⟩
            · show [_, _, Blk.c (setCells (frCells L (valI (cut L 1 12)) 0) 0 [.i .i64 (bits .or .i64 (IntKind.i64.wrap (valI (cut L 1 12) * 2 ^ min (Int.toNat 18) IntKind.i64.bits)) (valI (cut L 14 32)))])] = _
              rw [hid]; rfl
            · show [_, _, _, _, _] = _
              rw [hx]
          · conv => whnf
            refine ACall.frameH [] [] rfl (args' := [.rs (ints L) 14 1 18]) (Hc := []) (by show [AV.rs (subs _ (ints L)) _ _ _] = _; rw [subs_nums]; rfl) rfl hval2 ?_
            rintro r H ⟨rfl, rfl⟩
            refine ⟨.inl rfl, [.c Fr0.cells, .dead, .c (frCells L (valI (cut L 1 12)) 0)], rfl, ?_⟩
            conv => whnf
            refine ⟨by omega, ?_⟩
            conv => whnf
            refine ⟨by show 0 + 1 ≤ 12; omega, ?_⟩
            conv => whnf
            refine ⟨rfl, ?_, ?_⟩
            · show [_, _, Blk.c (setCells (frCells L (valI (cut L 1 12)) 0) 0 [.i .i64 (bits .or .i64 (IntKind.i64.wrap (valI (cut L 1 12) * 2 ^ min (Int.toNat 18) IntKind.i64.bits)) (valI (cut L 14 32)))])] = _
              rw [hid]; rfl
            · show [_, _, _, _, _] = _
              rw [hx]
        · conv => whnf
          refine ACall.frameH [] [] rfl (args' := [.rs (ints L) 14 1 18]) (Hc := []) (by show [AV.rs (subs _ (ints L)) _ _ _] = _; rw [subs_nums]; rfl) rfl hval2 ?_
          rintro r H ⟨rfl, rfl⟩
          refine ⟨.inl rfl, [.c Fr0.cells, .dead, .c (frCells L (valI (cut L 1 12)) 0)], rfl, ?_⟩
          conv => whnf
          refine ⟨by omega, ?_⟩
          conv => whnf
          refine ⟨by show 0 + 1 ≤ 12; omega, ?_⟩
          conv => whnf
          refine ⟨rfl, ?_, ?_⟩
          · show [_, _, Blk.c (setCells (frCells L (valI (cut L 1 12)) 0) 0 [.i .i64 (bits .or .i64 (IntKind.i64.wrap (valI (cut L 1 12) * 2 ^ min (Int.toNat 18) IntKind.i64.bits)) (valI (cut L 14 32)))])] = _
            rw [hid]; rfl
          · show [_, _, _, _, _] = _
            rw [hx]
      · rintro r H ⟨_, rfl, hr⟩
        refine Gh.regs [0, 2, 4, 6, 8] ?_
        rw [hr]
        refine Gh.of ?_
        conv => whnf
        refine ⟨by omega, ?_⟩
        conv => whnf
        have hq : IntKind.i64.wrap ((IntKind.i64.wrap ((aheadN L : Int) - dataAt L)).tdiv 8) = ((nB L : Nat) : Int) := by
          rw [w64 (x := (aheadN L : Int) - dataAt L) (by omega) (by omega), show (aheadN L : Int) - dataAt L = 8 * (nB L : Nat) from by omega, Int.mul_comm, Int.mul_tdiv_cancel _ (by omega), w64 (by omega) (by omega)]
        rw [hq]
        refine ALoop.ind (ip := false) tok (fun m r H => ∃ (k : Nat), k ≤ nB L ∧ m = nB L - k ∧ H = [.c Fr0.cells, .c (frCells L (idL L) k)] ∧
          r = [(62, .i .i64 k), (61, .i .i64 (nB L)), (0, .rs (ints L) 0 1 L.length), (2, .p (some (0, 0))), (6, .rp [.b (extL L), .b (rtrL L), .i .i64 (ctrlAt L), .i .i64 (dataAt L), .i .i64 (sizeL L)] 0), (8, .p (some (1, 0)))]) (nB L) ?_ ?_
        · refine Gh.regs [62, 61, 0, 2, 6, 8] (Gh.sel [0, 2] rfl (Gh.of ⟨0, by omega, rfl, rfl, ?_⟩))
          refine keep_eq (show keepR _ _ = [_, _, _, _, _, _] from rfl) ?_
          simp only [subG, sub, subs_nums]
          rw [hx]; rfl
        · rintro m r H ⟨k, hk, rfl, rfl, rfl⟩
          conv => whnf
          by_cases h : (k : Int) < nB L
          · have hkn : k < nB L := by omega
            have hbt := byteL_in hl k
            refine acond_t (decide_eq_true h) ?_
            conv => whnf
            have e1 : IntKind.i64.wrap ((dataAt L : Int) + IntKind.i64.wrap (8 * (k : Int))) = ((dataAt L + 8 * k : Nat) : Int) := by
              rw [w64 (x := 8 * (k : Int)) (by omega) (by omega), w64 (by omega) (by omega)]; omega
            have e2 : IntKind.i64.wrap ((dataAt L : Int) + IntKind.i64.wrap (8 * IntKind.i64.wrap ((k : Int) + 1))) = ((dataAt L + 8 * k + 8 : Nat) : Int) := by
              rw [w64 (x := (k : Int) + 1) (by omega) (by omega), w64 (x := 8 * ((k : Int) + 1)) (by omega) (by omega), w64 (by omega) (by omega)]; omega
            refine ⟨⟨by rw [e1]; omega, by rw [e1, e2]; omega, by rw [e2]; omega⟩, ?_⟩
            conv => whnf
            refine ACall.frameH [] [] rfl (args' := [.rs (ints L) (dataAt L + 8 * k) 1 8]) (Hc := []) ?_ rfl
              (ACall.args (fvalue_spec (cut L (dataAt L + 8 * k) (dataAt L + 8 * k + 8)) (by rw [cut_length _ _ _ (by omega)]; omega) (cut_lv hl _ _)) (VLe.cut (a := dataAt L + 8 * k) (b := dataAt L + 8 * k + 8) (by omega) (by omega) rfl (by omega) VLe.nil)) ?_
            · show [AV.rs (subs _ (ints L)) (0 + Int.toNat (IntKind.i64.wrap ((dataAt L : Int) + IntKind.i64.wrap (8 * (k : Int)))) * 1) 1 (Int.toNat (IntKind.i64.wrap ((dataAt L : Int) + IntKind.i64.wrap (8 * IntKind.i64.wrap ((k : Int) + 1)))) - Int.toNat (IntKind.i64.wrap ((dataAt L : Int) + IntKind.i64.wrap (8 * (k : Int)))))] = _
              rw [subs_nums, e1, e2, Int.toNat_natCast, Int.toNat_natCast, show 0 + (dataAt L + 8 * k) * 1 = dataAt L + 8 * k from by omega, show dataAt L + 8 * k + 8 - (dataAt L + 8 * k) = 8 from by omega]
            rintro r H ⟨rfl, rfl⟩
            refine ⟨.inl rfl, _, rfl, ?_⟩
            conv => whnf
            refine ⟨⟨by omega, by omega⟩, ?_⟩
            conv => whnf
            refine ⟨by show 0 + 4 + (k : Int).toNat * 1 + 1 ≤ 12; omega, ?_⟩
            conv => whnf
            refine Gh.regs [62, 61, 0, 2, 6, 8] (Gh.of ⟨nB L - (k + 1), by omega, k + 1, by omega, rfl, ?_, ?_⟩)
            · show [_, Blk.c (setCells (frCells L (idL L) k) (0 + 4 + (k : Int).toNat * 1) [.i .u8 (IntKind.u8.wrap (byteL L k))])] = _
              rw [show IntKind.u8.wrap (byteL L k) = byteL L k from by rw [IntKind.wrap_u8]; omega, frCells_set L _ (by omega) (by omega)]
            · rw [w64 (by omega) (by omega)]; rfl
          · refine acond_f (decide_eq_false h) ?_
            conv => whnf
            have hk2 : k = nB L := by omega
            subst hk2
            refine ⟨by show 0 + 12 ≤ 12; omega, ?_⟩
            conv => whnf
            exact GhR.sel [] rfl (GhR.of ⟨rfl, rfl⟩)
end Go.AK
namespace Go.AK
open Go Go.RowKit Go.Proofs
set_option linter.unusedVariables false
set_option maxRecDepth 100000
/-- What becomes of a reader by a level: what is wrong, its levels, the last one, and how many alike came last. -/
def stp (raw : List Int) (last run x : Int) : Int × List Int × Int × Int :=
  if run = 5 then (if x = last then (17, raw, last, run) else (0, raw, x, 1))
  else if kn raw = 0 ∧ x = 1 then (11, raw, last, run)
  else if kn raw ≤ 4 then (0, raw ++ [x], x, if run > 0 ∧ x = last then run + 1 else 1)
  else if kn raw = 5 ∧ rightB (raw.take (aheadN raw + 15)) = false then (18, raw, last, 0)
  else if kn raw ≠ 6 ∧ x = 0 then (11, raw, last, 0)
  else (0, raw ++ [x], last, 0)
def rdC (s : AV) (last run : Int) : Blk := .c [s, .i .i64 last, .i .i64 run]
theorem kn_nil : kn [] = 0 := rfl
theorem kn_pos {raw : List Int} (h : raw ≠ []) (h0 : 0 ≤ kn raw) : 1 ≤ kn raw := by
  have : raw.length ≠ 0 := fun e => h (List.eq_nil_of_length_eq_zero e)
  have h2 : kn raw ≠ 0 := by
    unfold kn
    rw [if_neg this]
    repeat' split
    all_goals omega
  omega
theorem kn_five {raw : List Int} (h : kn raw = 5) : whole raw = true ∧ aheadN raw + 15 ≤ raw.length := by
  unfold kn at h
  split at h
  · omega
  split at h
  · omega
  split at h
  · omega
  rename_i hw
  split at h
  · omega
  split at h
  · omega
  exact ⟨by simpa using hw, by omega⟩
theorem kn_done {raw : List Int} (h : kn raw = 9) : whole raw = true ∧ raw.length = aheadN raw + 25 := by
  unfold kn at h
  split at h
  · omega
  split at h
  · omega
  split at h
  · omega
  rename_i hw
  repeat' split at h
  all_goals first | omega | exact ⟨by simpa using hw, by omega⟩
theorem nextK_spec (raw : List Int) (hl : isLv raw) (hL : raw.length < 1000000) (h0 : 0 ≤ kn raw) : ACall Try.prog 36 [.rs (ints raw) 0 1 raw.length] [] fun r H => (∃ i, r = .ret (.tup [.i .i64 (kn raw), .i .i64 i, .i .i64 0])) ∧ H = [] := by
  have h := next_spec raw hl hL
  rwa [if_neg (by omega), if_neg (by omega)] at h
/-- A reader that has no levels yet. -/
theorem take_nil (x : Int) (hx : x = 0 ∨ x = 1) : ACall Try.prog 20 [.p (some (0, 0)), .i .i64 x] [rdC (.sl none 0 0 0) 0 0] fun r H => r = .ret (.i .i64 (stp [] 0 0 x).1) ∧
    ((x = 1 ∧ ∃ l n, H = [rdC (.sl none 0 0 0) l n]) ∨ (x = 0 ∧ ∃ c, 1 ≤ c ∧ H = [rdC (.sl (some (1, 0)) 1 1 c) 0 1, .c (ints [0])])) := by
  have hnext := nextK_spec [] isLv_nil (by simp) (by rw [kn_nil]; omega)
  rw [kn_nil] at hnext
  refine ACall.gh ?_
  refine ACall.enter tok false Try.func20 rfl rfl rfl (AW_sound (ip := false) tok _ _ _ _ ?_)
  conv => whnf
  refine ACall.frameH [] [] rfl (args' := [.sl none 0 0 0]) (Hc := []) rfl rfl (ACall.args hnext (VLe.nilsl VLe.nil)) ?_
  rintro r H ⟨⟨i, rfl⟩, rfl⟩
  refine ⟨.inl rfl, _, rfl, ?_⟩
  conv => whnf
  rcases hx with rfl | rfl
  · conv => whnf
    refine ⟨by show 2 + 1 ≤ 3; omega, ?_⟩
    conv => whnf
    refine ⟨by show 1 + 1 ≤ 3; omega, ?_⟩
    conv => whnf
    refine ⟨by show 1 ≤ (1 : Nat); omega, ?_⟩
    conv => whnf
    refine ⟨rfl, by dsimp only; omega, by omega, fun c hc => ?_⟩
    conv => whnf
    refine ⟨by show 0 + 1 ≤ 3; omega, ?_⟩
    conv => whnf
    exact GhR.sel [0, 2] rfl (GhR.of ⟨rfl, .inr ⟨rfl, c, hc, rfl⟩⟩)
  · conv => whnf
    exact GhR.of ⟨rfl, .inl ⟨rfl, _, _, rfl⟩⟩
/-- One that has some. -/
def RdH (raw : List Int) (last run : Int) (H : Heap) : Prop := ∃ c, raw.length ≤ c ∧ H = [rdC (.sl (some (1, 0)) 1 raw.length c) last run, .c (ints raw)]
def RdM (raw : List Int) (last run : Int) (H : Heap) : Prop := ∃ c, raw.length ≤ c ∧ H = [rdC (.sl (some (2, 0)) 1 raw.length c) last run, .dead, .c (ints raw)]
def TakeK (raw : List Int) (last run x : Int) (r : ARes) (H : Heap) : Prop :=
  r = .ret (.i .i64 (stp raw last run x).1) ∧ (((stp raw last run x).1 ≠ 0 ∧ ∃ l n, RdH raw l n H) ∨ ((stp raw last run x).1 = 0 ∧
    ((run = 5 ∧ RdH (stp raw last run x).2.1 (stp raw last run x).2.2.1 (stp raw last run x).2.2.2 H) ∨ (run ≠ 5 ∧ RdM (stp raw last run x).2.1 (stp raw last run x).2.2.1 (stp raw last run x).2.2.2 H))))
set_option maxHeartbeats 4000000 in
theorem take_some (raw : List Int) (last run x : Int) (c : Nat) (hc : raw.length ≤ c) (hl : isLv raw) (hne : raw ≠ []) (hL : raw.length < 1000000) (h0 : 0 ≤ kn raw) (hx : x = 0 ∨ x = 1) (hr : 0 ≤ run ∧ run ≤ 5) :
    ACall Try.prog 20 [.p (some (0, 0)), .i .i64 x] [rdC (.sl (some (1, 0)) 1 raw.length c) last run, .c (ints raw)] (TakeK raw last run x) := by
  have hk1 := kn_pos hne h0
  have hnext := nextK_spec raw hl hL h0
  refine ACall.gh ?_
  refine ACall.enter tok false Try.func20 rfl rfl rfl (AW_sound (ip := false) tok _ _ _ _ ?_)
  by_cases h5 : run = 5
  · have hs : stp raw last run x = if x = last then (17, raw, last, run) else (0, raw, x, 1) := by unfold stp; rw [if_pos h5]
    conv => whnf
    refine acond_t (beq_iff_eq.2 h5) ?_
    conv => whnf
    by_cases h6 : x = last
    · rw [if_pos h6] at hs
      refine acond_t (beq_iff_eq.2 h6) ?_
      conv => whnf
      refine GhR.of ⟨?_, .inl ⟨?_, last, run, c, hc, rfl⟩⟩
      · rw [hs]
      · rw [hs]; show (17 : Int) ≠ 0; omega
    · rw [if_neg h6] at hs
      refine acond_f (beq_eq_false_iff_ne.2 h6) ?_
      conv => whnf
      refine ⟨by show 1 + 1 ≤ 3; omega, ?_⟩
      conv => whnf
      refine ⟨by show 2 + 1 ≤ 3; omega, ?_⟩
      conv => whnf
      refine GhR.of ⟨?_, .inr ⟨?_, .inl ⟨h5, ?_⟩⟩⟩
      · rw [hs]
      · rw [hs]
      · rw [hs]; exact ⟨c, hc, rfl⟩
  have hsl : nums .i64 raw ++ ints [x] = ints (raw ++ [x]) := (nums_append _ _ _).symm
  have fin : ∀ (l n : Int) (g : Nat) (Z : List AV), (stp raw last run x) = (0, raw ++ [x], l, n) → raw.length + 1 ≤ g → Z = ints (raw ++ [x]) →
      GhR 2 (TakeK raw last run x) (.ret (.i .i64 0)) [rdC (.sl (some (3, 0)) 1 (raw.length + 1) g) l n, .dead, .c [.i .i64 x], .c Z] := by
    rintro l n g Z hs hg rfl
    refine GhR.sel [0, 1, 3] rfl (GhR.of ⟨?_, .inr ⟨?_, .inr ⟨h5, ?_⟩⟩⟩)
    · rw [hs]; rfl
    · rw [hs]
    · rw [hs]
      refine ⟨g, by rw [List.length_append]; exact hg, ?_⟩
      show [_, _, Blk.c (subs _ (ints (raw ++ [x])))] = _
      rw [subs_nums, List.length_append]; rfl
  have bad : ∀ (e l n : Int), e ≠ 0 → (stp raw last run x).1 = e → GhR 2 (TakeK raw last run x) (.ret (.i .i64 e)) [rdC (.sl (some (1, 0)) 1 raw.length c) l n, .c (ints raw)] := by
    rintro e l n he hs
    exact GhR.of ⟨by rw [hs], .inl ⟨by rw [hs]; exact he, l, n, c, hc, rfl⟩⟩
  have hs0 : ¬ (kn raw = 0 ∧ x = 1) := fun h => by omega
  conv => whnf
  refine acond_f (beq_eq_false_iff_ne.2 h5) ?_
  conv => whnf
  refine ACall.frameH [] [1] rfl (args' := [.rs (ints raw) 0 1 raw.length]) (Hc := []) (by show [AV.rs (subs _ (ints raw)) _ _ _] = _; rw [subs_nums]) rfl hnext ?_
  rintro r H ⟨⟨i, rfl⟩, rfl⟩
  refine ⟨.inr ⟨rfl, rfl⟩, _, rfl, ?_⟩
  conv => whnf
  repeat (refine acond_f (beq_eq_false_iff_ne.2 (by omega)) ?_; conv => whnf)
  by_cases hk4 : kn raw ≤ 4
  · have hs : stp raw last run x = (0, raw ++ [x], x, if run > 0 ∧ x = last then run + 1 else 1) := by unfold stp; rw [if_neg h5, if_neg hs0, if_pos hk4]
    refine acond_t (decide_eq_true hk4) ?_
    conv => whnf
    by_cases hr0 : run > 0
    · repeat (refine acond_t (decide_eq_true hr0) ?_; conv => whnf)
      by_cases hxl : x = last
      · rw [if_pos ⟨hr0, hxl⟩] at hs
        refine acond_t (beq_iff_eq.2 hxl) ?_
        conv => whnf
        have hw : IntKind.i64.wrap (run + 1) = run + 1 := w64 (by omega) (by omega)
        rw [hw]
        refine ⟨by show 2 + 1 ≤ 3; omega, ?_⟩
        conv => whnf
        refine ⟨by show 1 + 1 ≤ 3; omega, ?_⟩
        conv => whnf
        refine acond_f (beq_eq_false_iff_ne.2 (by omega)) ?_
        conv => whnf
        repeat (refine acond_f (decide_eq_false (by omega)) ?_; conv => whnf)
        refine ⟨by show 0 + raw.length * 1 ≤ (ints raw).length; rw [nums_length]; omega, ?_⟩
        conv => whnf
        refine ⟨by show 1 ≤ (1 : Nat); omega, ?_⟩
        conv => whnf
        refine ⟨rfl, by (try dsimp only); omega, by omega, fun g hg => ?_⟩
        conv => whnf
        refine ⟨by show 0 + 1 ≤ 3; omega, ?_⟩
        conv => whnf
        exact fin x (run + 1) g _ hs hg (by show List.take (raw.length * 1) (List.drop 0 (ints raw)) ++ ints [x] = _; rw [List.drop_zero, Nat.mul_one, List.take_of_length_le (by rw [nums_length]; omega)]; exact hsl)
      · rw [if_neg (fun h => hxl h.2)] at hs
        refine acond_f (beq_eq_false_iff_ne.2 hxl) ?_
        conv => whnf
        refine ⟨by show 2 + 1 ≤ 3; omega, ?_⟩
        conv => whnf
        refine ⟨by show 1 + 1 ≤ 3; omega, ?_⟩
        conv => whnf
        refine acond_f (beq_eq_false_iff_ne.2 (by omega)) ?_
        conv => whnf
        repeat (refine acond_f (decide_eq_false (by omega)) ?_; conv => whnf)
        refine ⟨by show 0 + raw.length * 1 ≤ (ints raw).length; rw [nums_length]; omega, ?_⟩
        conv => whnf
        refine ⟨by show 1 ≤ (1 : Nat); omega, ?_⟩
        conv => whnf
        refine ⟨rfl, by (try dsimp only); omega, by omega, fun g hg => ?_⟩
        conv => whnf
        refine ⟨by show 0 + 1 ≤ 3; omega, ?_⟩
        conv => whnf
        exact fin x 1 g _ hs hg (by show List.take (raw.length * 1) (List.drop 0 (ints raw)) ++ ints [x] = _; rw [List.drop_zero, Nat.mul_one, List.take_of_length_le (by rw [nums_length]; omega)]; exact hsl)
    · rw [if_neg (fun h => hr0 h.1)] at hs
      repeat (refine acond_f (decide_eq_false hr0) ?_; conv => whnf)
      refine ⟨by show 2 + 1 ≤ 3; omega, ?_⟩
      conv => whnf
      refine ⟨by show 1 + 1 ≤ 3; omega, ?_⟩
      conv => whnf
      refine acond_f (beq_eq_false_iff_ne.2 (by omega)) ?_
      conv => whnf
      repeat (refine acond_f (decide_eq_false (by omega)) ?_; conv => whnf)
      refine ⟨by show 0 + raw.length * 1 ≤ (ints raw).length; rw [nums_length]; omega, ?_⟩
      conv => whnf
      refine ⟨by show 1 ≤ (1 : Nat); omega, ?_⟩
      conv => whnf
      refine ⟨rfl, by (try dsimp only); omega, by omega, fun g hg => ?_⟩
      conv => whnf
      refine ⟨by show 0 + 1 ≤ 3; omega, ?_⟩
      conv => whnf
      exact fin x 1 g _ hs hg (by show List.take (raw.length * 1) (List.drop 0 (ints raw)) ++ ints [x] = _; rw [List.drop_zero, Nat.mul_one, List.take_of_length_le (by rw [nums_length]; omega)]; exact hsl)
  have h4 : kn raw > 4 := by omega
  refine acond_f (decide_eq_false hk4) ?_
  conv => whnf
  refine ⟨by show 2 + 1 ≤ 3; omega, ?_⟩
  conv => whnf
  by_cases hk5 : kn raw = 5
  · obtain ⟨hw, hlen⟩ := kn_five hk5
    refine acond_t (beq_iff_eq.2 hk5) ?_
    conv => whnf
    refine ACall.frameH [] [1] rfl (args' := [.rs (ints raw) 0 1 raw.length]) (Hc := []) (by show [AV.rs (subs _ (ints raw)) _ _ _] = _; rw [subs_nums]) rfl (right_spec raw hl hL hw hlen) ?_
    rintro r H ⟨rfl, rfl⟩
    refine ⟨.inr ⟨rfl, rfl⟩, _, rfl, ?_⟩
    conv => whnf
    cases hrb : rightB (raw.take (aheadN raw + 15))
    · conv => whnf
      have hs : stp raw last run x = (18, raw, last, 0) := by unfold stp; rw [if_neg h5, if_neg hs0, if_neg hk4, if_pos ⟨hk5, hrb⟩]
      exact bad 18 last 0 (by omega) (by rw [hs])
    · conv => whnf
      repeat (refine acond_t (decide_eq_true h4) ?_; conv => whnf)
      have h6 : (kn raw != 6) = true := bne_iff_ne.2 (by omega)
      repeat (refine acond_t h6 ?_; conv => whnf)
      by_cases hx0 : x = 0
      · refine acond_t (beq_iff_eq.2 hx0) ?_
        conv => whnf
        have hs : stp raw last run x = (11, raw, last, 0) := by unfold stp; rw [if_neg h5, if_neg hs0, if_neg hk4, if_neg (by rw [hrb]; intro h; cases h.2), if_pos ⟨by omega, hx0⟩]
        exact bad 11 last 0 (by omega) (by rw [hs])
      · refine acond_f (beq_eq_false_iff_ne.2 hx0) ?_
        conv => whnf
        have hs : stp raw last run x = (0, raw ++ [x], last, 0) := by unfold stp; rw [if_neg h5, if_neg hs0, if_neg hk4, if_neg (by rw [hrb]; intro h; cases h.2), if_neg (fun h => hx0 h.2)]
        refine ⟨by show 0 + raw.length * 1 ≤ (ints raw).length; rw [nums_length]; omega, ?_⟩
        conv => whnf
        refine ⟨by show 1 ≤ (1 : Nat); omega, ?_⟩
        conv => whnf
        refine ⟨rfl, by (try dsimp only); omega, by omega, fun g hg => ?_⟩
        conv => whnf
        refine ⟨by show 0 + 1 ≤ 3; omega, ?_⟩
        conv => whnf
        exact fin last 0 g _ hs hg (by show List.take (raw.length * 1) (List.drop 0 (ints raw)) ++ ints [x] = _; rw [List.drop_zero, Nat.mul_one, List.take_of_length_le (by rw [nums_length]; omega)]; exact hsl)
  · refine acond_f (beq_eq_false_iff_ne.2 hk5) ?_
    conv => whnf
    repeat (refine acond_t (decide_eq_true h4) ?_; conv => whnf)
    by_cases hk6 : kn raw = 6
    · have h6 : (kn raw != 6) = false := by rw [hk6]; rfl
      repeat (refine acond_f h6 ?_; conv => whnf)
      have hs : stp raw last run x = (0, raw ++ [x], last, 0) := by unfold stp; rw [if_neg h5, if_neg hs0, if_neg hk4, if_neg (fun h => hk5 h.1), if_neg (fun h => h.1 hk6)]
      refine ⟨by show 0 + raw.length * 1 ≤ (ints raw).length; rw [nums_length]; omega, ?_⟩
      conv => whnf
      refine ⟨by show 1 ≤ (1 : Nat); omega, ?_⟩
      conv => whnf
      refine ⟨rfl, by (try dsimp only); omega, by omega, fun g hg => ?_⟩
      conv => whnf
      refine ⟨by show 0 + 1 ≤ 3; omega, ?_⟩
      conv => whnf
      exact fin last 0 g _ hs hg (by show List.take (raw.length * 1) (List.drop 0 (ints raw)) ++ ints [x] = _; rw [List.drop_zero, Nat.mul_one, List.take_of_length_le (by rw [nums_length]; omega)]; exact hsl)
    · have h6 : (kn raw != 6) = true := bne_iff_ne.2 hk6
      repeat (refine acond_t h6 ?_; conv => whnf)
      by_cases hx0 : x = 0
      · refine acond_t (beq_iff_eq.2 hx0) ?_
        conv => whnf
        have hs : stp raw last run x = (11, raw, last, 0) := by unfold stp; rw [if_neg h5, if_neg hs0, if_neg hk4, if_neg (fun h => hk5 h.1), if_pos ⟨hk6, hx0⟩]
        exact bad 11 last 0 (by omega) (by rw [hs])
      · refine acond_f (beq_eq_false_iff_ne.2 hx0) ?_
        conv => whnf
        have hs : stp raw last run x = (0, raw ++ [x], last, 0) := by unfold stp; rw [if_neg h5, if_neg hs0, if_neg hk4, if_neg (fun h => hk5 h.1), if_neg (fun h => hx0 h.2)]
        refine ⟨by show 0 + raw.length * 1 ≤ (ints raw).length; rw [nums_length]; omega, ?_⟩
        conv => whnf
        refine ⟨by show 1 ≤ (1 : Nat); omega, ?_⟩
        conv => whnf
        refine ⟨rfl, by (try dsimp only); omega, by omega, fun g hg => ?_⟩
        conv => whnf
        refine ⟨by show 0 + 1 ≤ 3; omega, ?_⟩
        conv => whnf
        exact fin last 0 g _ hs hg (by show List.take (raw.length * 1) (List.drop 0 (ints raw)) ++ ints [x] = _; rw [List.drop_zero, Nat.mul_one, List.take_of_length_le (by rw [nums_length]; omega)]; exact hsl)
end Go.AK
/- The decoder in plain Lean, level by level. -/
namespace Go.AK
open Go Go.RowKit
set_option linter.unusedVariables false
theorem gd_app {l t : List Int} {i : Nat} (h : i < l.length) : (l ++ t).getD i 0 = l.getD i 0 := by
  rw [List.getD_eq_getElem?_getD, List.getD_eq_getElem?_getD, List.getElem?_append_left h]
theorem cut_app {l t : List Int} {a b : Nat} (h : b ≤ l.length) : cut (l ++ t) a b = cut l a b := by
  unfold cut; rw [List.take_append_of_le_length h]
theorem ext_app {l t : List Int} (h : 13 < l.length) : extL (l ++ t) = extL l := by unfold extL; rw [gd_app h]
theorem data_app {l t : List Int} (h : 13 < l.length) : dataAt (l ++ t) = dataAt l := by unfold dataAt; rw [ext_app h]
theorem whole_app {l : List Int} (t : List Int) (h : whole l = true) : whole (l ++ t) = true := by
  have := of_decide_eq_true h
  refine decide_eq_true ?_
  rw [data_app this.1, List.length_append]
  omega
theorem size_app {l : List Int} (t : List Int) (h : whole l = true) : sizeL (l ++ t) = sizeL l := by
  have := of_decide_eq_true h
  unfold sizeL
  rw [data_app this.1, cut_app this.2]
theorem rtr_app {l : List Int} (t : List Int) (h : whole l = true) : rtrL (l ++ t) = rtrL l := by
  have h2 := of_decide_eq_true h
  unfold rtrL
  rw [ext_app h2.1]
  congr 2
  refine gd_app ?_
  have := h2.2
  unfold dataAt at this
  split <;> split at this <;> first | omega | (rename_i e f; exact absurd f e) | (rename_i e f; exact absurd e f)
theorem ahead_app {l : List Int} (t : List Int) (h : whole l = true) : aheadN (l ++ t) = aheadN l := by
  unfold aheadN
  rw [data_app (of_decide_eq_true h).1, rtr_app t h, size_app t h]
/-- There is no field beyond the last. -/
theorem kn_neg {l : List Int} : kn l < 0 ↔ whole l = true ∧ aheadN l + 25 < l.length := by
  constructor
  · intro h
    unfold kn at h
    repeat' split at h
    all_goals first | omega | skip
    rename_i hw _ _ _ _ _ _ _
    exact ⟨by simpa using hw, by omega⟩
  · rintro ⟨hw, h⟩
    have hb := aheadN_le l
    have h2 := of_decide_eq_true hw
    have he : extL l = true → dataAt l = 39 := fun e => by unfold dataAt; rw [if_pos e]
    unfold kn
    rw [if_neg (by omega), if_neg (fun e => by rcases e with e | ⟨e, e2⟩
                                               · omega
                                               · have := he e; omega), if_neg (by rw [hw]; decide)]
    repeat' split
    all_goals omega
theorem kn_next {l : List Int} (x : Int) (h0 : 0 ≤ kn l) (h9 : kn l ≠ 9) : 0 ≤ kn (l ++ [x]) := by
  have key : ¬ kn (l ++ [x]) < 0 := by
    rw [kn_neg]
    rintro ⟨hw, hl⟩
    rw [List.length_append, List.length_singleton] at hl
    have hb := aheadN_le (l ++ [x])
    have h2 := of_decide_eq_true hw
    by_cases c : whole l = true
    · rw [ahead_app _ c] at hl
      have h3 : ¬ kn l < 0 := by omega
      rw [kn_neg] at h3
      have : l.length = aheadN l + 25 := by
        by_cases e : aheadN l + 25 < l.length
        · exact absurd ⟨c, e⟩ h3
        · omega
      apply h9
      have he : extL l = true → dataAt l = 39 := fun e => by unfold dataAt; rw [if_pos e]
      have hb2 := aheadN_le l
      have hw2 := of_decide_eq_true c
      unfold kn
      rw [if_neg (by omega), if_neg (fun e => by rcases e with e | ⟨e, e2⟩
                                                 · omega
                                                 · have := he e; omega), if_neg (by rw [c]; decide)]
      repeat' split
      all_goals omega
    · have c2 : ¬ (13 < l.length ∧ dataAt l ≤ l.length) := fun e => c (decide_eq_true e)
      by_cases e : 13 < l.length
      · rw [data_app e] at hb h2
        omega
      · omega
  omega
/-- What holds of a reader on its way. -/
structure RdOk (raw : List Int) (run : Int) : Prop where
  lv : isLv raw
  kn0 : 0 ≤ kn raw
  kn9 : kn raw ≠ 9
  rn : 0 ≤ run ∧ run ≤ 5
  first : raw.getD 0 0 = 0
  nil : raw = [] → run = 0
theorem stp_ok {raw : List Int} {last run x : Int} (h : RdOk raw run) (hx : x = 0 ∨ x = 1) (he : (stp raw last run x).1 = 0) :
    isLv (stp raw last run x).2.1 ∧ 0 ≤ kn (stp raw last run x).2.1 ∧ (0 ≤ (stp raw last run x).2.2.2 ∧ (stp raw last run x).2.2.2 ≤ 5) ∧ (stp raw last run x).2.1.getD 0 0 = 0 ∧ (stp raw last run x).2.1.length ≤ raw.length + 1 ∧ (stp raw last run x).2.1 ≠ [] := by
  have hr := h.rn
  have happ : (kn raw = 0 → x = 0) → isLv (raw ++ [x]) ∧ 0 ≤ kn (raw ++ [x]) ∧ (raw ++ [x]).getD 0 0 = 0 ∧ (raw ++ [x]).length ≤ raw.length + 1 ∧ raw ++ [x] ≠ [] := fun h0 => by
    refine ⟨isLv_append.2 ⟨h.lv, isLv_cons.2 ⟨hx, isLv_nil⟩⟩, kn_next x h.kn0 h.kn9, ?_, by rw [List.length_append]; exact Nat.le_refl _, by simp⟩
    cases raw with
    | nil => exact h0 kn_nil
    | cons y l => exact h.first
  unfold stp at he ⊢
  by_cases h5 : run = 5
  · rw [if_pos h5] at he ⊢
    by_cases h6 : x = last
    · rw [if_pos h6] at he
      exact absurd he (by show (17 : Int) ≠ 0; omega)
    · rw [if_neg h6]
      refine ⟨h.lv, h.kn0, ⟨by show (0 : Int) ≤ 1; omega, by show (1 : Int) ≤ 5; omega⟩, h.first, Nat.le_succ _, ?_⟩
      exact fun e => by have := h.nil e; omega
  · rw [if_neg h5] at he ⊢
    by_cases h0 : kn raw = 0 ∧ x = 1
    · rw [if_pos h0] at he
      exact absurd he (by show (11 : Int) ≠ 0; omega)
    · have h0' : kn raw = 0 → x = 0 := fun e => by rcases hx with hx | hx; exact hx; exact absurd ⟨e, hx⟩ h0
      have ha := happ h0'
      rw [if_neg h0] at he ⊢
      by_cases h4 : kn raw ≤ 4
      · rw [if_pos h4]
        refine ⟨ha.1, ha.2.1, ?_, ha.2.2.1, ha.2.2.2.1, ha.2.2.2.2⟩
        show 0 ≤ (if run > 0 ∧ x = last then run + 1 else 1) ∧ (if run > 0 ∧ x = last then run + 1 else 1) ≤ 5
        split <;> omega
      · rw [if_neg h4] at he ⊢
        by_cases h7 : kn raw = 5 ∧ rightB (raw.take (aheadN raw + 15)) = false
        · rw [if_pos h7] at he
          exact absurd he (by show (18 : Int) ≠ 0; omega)
        · rw [if_neg h7] at he ⊢
          by_cases h8 : kn raw ≠ 6 ∧ x = 0
          · rw [if_pos h8] at he
            exact absurd he (by show (11 : Int) ≠ 0; omega)
          · rw [if_neg h8]
            exact ⟨ha.1, ha.2.1, ⟨by show (0 : Int) ≤ 0; omega, by show (0 : Int) ≤ 5; omega⟩, ha.2.2.1, ha.2.2.2.1, ha.2.2.2.2⟩
def decG (e : Int) : List Int → Int → List Int → Int → Int → Fr × Int × Int
  | [], i, _, _, _ => (Fr0, i, e)
  | x :: t, i, raw, last, run =>
    if (stp raw last run x).1 ≠ 0 then (Fr0, i, (stp raw last run x).1)
    else if kn (stp raw last run x).2.1 = 9 then (frL (stp raw last run x).2.1, i + 1, 0)
    else decG e t (i + 1) (stp raw last run x).2.1 (stp raw last run x).2.2.1 (stp raw last run x).2.2.2
/-- The frame of levels; how many it has, or where it is wrong; and how. -/
def dec (L : List Int) : Fr × Int × Int := decG (if (lvP L).length < L.length then 10 else 13) (lvP L) 0 [] 0 0
end Go.AK
