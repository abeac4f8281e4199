/- Texts SEToks, SEPlC, SEPlD, SEPlE, SEFew, SETree, SETreeQ, SETop, SEFull, SEAwake, SEEqual: an evaluator of the model's code, proved sound, and what the program's functions do, for all inputs. -/
import Derived.Test.YtgedgleipefinaaDoorMS4
set_option linter.unusedVariables false
set_option linter.unusedSimpArgs false
set_option linter.unusedSectionVars false
namespace Go.AK
open Go Go.RowKit Go.Proofs
set_option linter.unusedVariables false
set_option maxRecDepth 100000
/-- A row of tokens, as cells. -/
def toks (T : List Tok) : List AV := T.flatMap fun t => [.s (sb t.1), .i .i64 t.2]
theorem toks_length : ∀ T : List Tok, (toks T).length = T.length * 2
  | [] => rfl
  | t :: T => by
    have := toks_length T
    simp only [toks, List.flatMap_cons, List.length_append, List.length_cons] at this ⊢
    rw [this]; simp only [List.length_nil]; omega
theorem toks_append (A B : List Tok) : toks (A ++ B) = toks A ++ toks B := by simp [toks]
theorem toks_get : ∀ (T : List Tok) (i j : Nat) (h : i < T.length), j < 2 → (toks T)[i * 2 + j]? = [AV.s (sb T[i].1), .i .i64 T[i].2][j]?
  | t :: T, 0, j, h, hj => by
    simp only [toks, List.flatMap_cons, Nat.zero_mul, Nat.zero_add, List.getElem_cons_zero]
    rw [List.getElem?_append_left (by simpa using hj)]
  | t :: T, i + 1, j, h, hj => by
    have := toks_get T i j (by simpa using h) hj
    simp only [toks, List.flatMap_cons, List.getElem_cons_succ] at this ⊢
    rw [List.getElem?_append_right (by simp only [List.length_cons, List.length_nil]; omega), ← this]
    congr 1
    simp only [List.length_cons, List.length_nil]; omega
theorem aget_tok0 {T : List Tok} {i o : Nat} (ho : o = i * 2) (h : i < T.length) {K : AV → Prop} (hk : K (.s (sb T[i].1))) : aget (toks T) o K := by
  subst ho
  unfold aget
  rw [show i * 2 = i * 2 + 0 from rfl, toks_get T i 0 h (by omega)]
  exact hk
theorem aget_tok1 {T : List Tok} {i o : Nat} (ho : o = i * 2 + 1) (h : i < T.length) {K : AV → Prop} (hk : K (.i .i64 T[i].2)) : aget (toks T) o K := by
  subst ho
  unfold aget
  rw [toks_get T i 1 h (by omega)]
  exact hk
theorem subs_toks (φ : Nat → Sb) : ∀ T : List Tok, subs φ (toks T) = toks T
  | [] => rfl
  | t :: T => by
    have := subs_toks φ T
    simp only [toks, List.flatMap_cons, List.cons_append, List.nil_append, subs, sub] at this ⊢
    rw [this]
theorem ones_toks : ∀ T : List Tok, ones (toks T) = true
  | [] => rfl
  | t :: T => by
    have := ones_toks T
    simp only [toks, List.flatMap_cons, List.cons_append, List.nil_append, ones, AV.one, Bool.true_and] at this ⊢
    exact this
def par4 : List Str := [[60], [62], [40], [41]]
theorem opLen2 (c d : UInt8) (r : Str) : opLen (c :: d :: r) = if opsL.contains [c, d] = true then 2 else if par4.contains [c] = true then 1 else 0 := by
  have hp : ∀ a b : UInt8, ([a, b] : Str).isPrefixOf (c :: d :: r) = ((a == c) && (b == d)) := fun a b => by simp [List.isPrefixOf]
  have hp1 : ∀ a : UInt8, ([a] : Str).isPrefixOf (c :: d :: r) = (a == c) := fun a => by simp [List.isPrefixOf]
  have hq : ∀ a b : UInt8, (([c, d] : Str) == [a, b]) = ((a == c) && (b == d)) := fun a b => by
    rw [Bool.eq_iff_iff, beq_iff_eq, Bool.and_eq_true, beq_iff_eq, beq_iff_eq]
    constructor
    · intro h; cases h; exact ⟨rfl, rfl⟩
    · rintro ⟨rfl, rfl⟩; rfl
  have hq1 : ∀ a : UInt8, (([c, d] : Str) == [a]) = false := fun a => beq_eq_false_iff_ne.2 (by intro h; cases h)
  have hq2 : ∀ a : UInt8, (([c] : Str) == [a]) = (a == c) := fun a => by
    rw [Bool.eq_iff_iff, beq_iff_eq, beq_iff_eq]
    constructor
    · intro h; cases h; rfl
    · rintro rfl; rfl
  unfold opLen opsP opsL par4
  simp only [List.cons_append, List.nil_append, List.foldl_cons, List.foldl_nil, opStep, hp, hp1, List.length_cons, List.length_nil, List.contains_cons, List.contains_nil, hq, hq1, hq2, Bool.or_false]
  obtain ⟨b1, eb1⟩ : ∃ b, ((61 : UInt8) == c) = b := ⟨_, rfl⟩
  obtain ⟨b2, eb2⟩ : ∃ b, ((33 : UInt8) == c) = b := ⟨_, rfl⟩
  obtain ⟨b3, eb3⟩ : ∃ b, ((60 : UInt8) == c) = b := ⟨_, rfl⟩
  obtain ⟨b4, eb4⟩ : ∃ b, ((62 : UInt8) == c) = b := ⟨_, rfl⟩
  obtain ⟨b5, eb5⟩ : ∃ b, ((40 : UInt8) == c) = b := ⟨_, rfl⟩
  obtain ⟨b6, eb6⟩ : ∃ b, ((41 : UInt8) == c) = b := ⟨_, rfl⟩
  obtain ⟨b7, eb7⟩ : ∃ b, ((61 : UInt8) == d) = b := ⟨_, rfl⟩
  simp only [eb1, eb2, eb3, eb4, eb5, eb6, eb7]
  clear eb1 eb2 eb3 eb4 eb5 eb6 eb7 hp hp1 hq2 hq hq1
  revert b1 b2 b3 b4 b5 b6 b7
  decide
theorem opLen1 (c : UInt8) : opLen [c] = if par4.contains [c] = true then 1 else 0 := by
  have hp : ∀ a b : UInt8, ([a, b] : Str).isPrefixOf [c] = false := fun a b => by simp [List.isPrefixOf]
  have hp1 : ∀ a : UInt8, ([a] : Str).isPrefixOf [c] = (a == c) := fun a => by simp [List.isPrefixOf]
  have hq2 : ∀ a : UInt8, (([c] : Str) == [a]) = (a == c) := fun a => by
    rw [Bool.eq_iff_iff, beq_iff_eq, beq_iff_eq]
    constructor
    · intro h; cases h; rfl
    · rintro rfl; rfl
  unfold opLen opsP opsL par4
  simp only [List.cons_append, List.nil_append, List.foldl_cons, List.foldl_nil, opStep, hp, hp1, List.length_cons, List.length_nil, List.contains_cons, List.contains_nil, hq2, Bool.or_false]
  obtain ⟨b3, eb3⟩ : ∃ b, ((60 : UInt8) == c) = b := ⟨_, rfl⟩
  obtain ⟨b4, eb4⟩ : ∃ b, ((62 : UInt8) == c) = b := ⟨_, rfl⟩
  obtain ⟨b5, eb5⟩ : ∃ b, ((40 : UInt8) == c) = b := ⟨_, rfl⟩
  obtain ⟨b6, eb6⟩ : ∃ b, ((41 : UInt8) == c) = b := ⟨_, rfl⟩
  simp only [eb3, eb4, eb5, eb6]
  clear eb3 eb4 eb5 eb6 hp hp1 hq2
  revert b3 b4 b5 b6
  decide
theorem opLen_eq (r : Str) (h : r ≠ []) : opLen r = if 1 < r.length ∧ opsL.contains (r.take 2) = true then 2 else if par4.contains (r.take 1) = true then 1 else 0 := by
  match r, h with
  | [c], _ =>
    rw [opLen1]
    have : ¬ (1 < ([c] : Str).length ∧ opsL.contains (([c] : Str).take 2) = true) := fun e => absurd e.1 (by simp)
    rw [if_neg this]; rfl
  | c :: d :: r, _ =>
    rw [opLen2]
    show _ = if 1 < (c :: d :: r).length ∧ opsL.contains [c, d] = true then 2 else if par4.contains [c] = true then 1 else 0
    by_cases h2 : opsL.contains [c, d] = true
    · rw [if_pos h2, if_pos ⟨by simp, h2⟩]
    · rw [if_neg h2, if_neg (show ¬ (1 < (c :: d :: r).length ∧ opsL.contains [c, d] = true) from fun e => h2 e.2)]
theorem toks_push (out : List Tok) (t : Str) (p : Nat) : ((toks out).drop 0).take (out.length * 2) ++ [.s (sb t), .i .i64 p] = toks (out ++ [(t, p)]) := by
  rw [List.drop_zero, List.take_of_length_le (by rw [toks_length]; omega), toks_append]; rfl
theorem loop1 {lo hi i j : Nat} {s : Str} (hs : s.length ≤ 10000) (hi' : i < s.length) (hj : j ≤ runB lo hi (s.drop i)) :
    (i + j < s.length ∧ (lo : Int) ≤ ((s.getD (i + j) 0).toNat : Int) ∧ ((s.getD (i + j) 0).toNat : Int) ≤ (hi : Int) ∧ j + 1 ≤ runB lo hi (s.drop i)) ∨
    (j = runB lo hi (s.drop i) ∧ ¬ (i + j < s.length ∧ (lo : Int) ≤ ((s.getD (i + j) 0).toNat : Int) ∧ ((s.getD (i + j) 0).toNat : Int) ≤ (hi : Int))) := by
  have h := runB_step lo hi (s.drop i) j hj
  have hgd : (s.drop i).getD j 0 = s.getD (i + j) 0 := by simp [List.getD_eq_getElem?_getD]
  rw [hgd, List.length_drop] at h
  omega
theorem tokens_spec (s : Str) (hs : s.length ≤ 10000) :
    ACall Tryd.prog 28 [.s (sb s)] [] fun R H => R = .ret (.rs (toks (lexS s 0)) 0 2 (lexS s 0).length) ∧ H = [] := by
  refine ACall.gh ?_
  refine ACall.enter tok false Tryd.func28 rfl rfl rfl (AW_sound (ip := false) tok _ _ _ _ ?_)
  conv => whnf
  refine ALoop.ind (ip := false) tok (fun m r H => ∃ (i : Nat) (out : List Tok) (c : Nat), i ≤ s.length ∧ m = s.length - i ∧ out ++ lexS (s.drop i) i = lexS s 0 ∧ out.length ≤ c ∧ out.length ≤ i ∧ H = [.c (toks out)] ∧
    r = [(0, .s (sb s)), (2, .sl none 0 0 0), (3, .sl (some (0, 0)) 2 out.length c), (4, .i .i64 i)]) s.length ?_ ?_
  · exact Gh.regs [0, 2, 3, 4] (Gh.of ⟨0, [], 0, by omega, rfl, rfl, Nat.le_refl _, Nat.le_refl _, rfl, rfl⟩)
  · rintro m r H ⟨i, out, c, hi, rfl, hout, hc, hoi, rfl, rfl⟩
    conv => whnf
    by_cases h : (i : Int) < ((sb s).size : Nat)
    · have hil : i < s.length := by rw [sb_size] at h; omega
      repeat (first | (refine acond_t (decide_eq_true h) ?_; conv => whnf))
      refine ⟨⟨by omega, h⟩, ?_⟩
      conv => whnf
      have hne : s.drop i ≠ [] := fun e => by have := congrArg List.length e; rw [List.length_drop] at this; simp at this; omega
      have hhd : (s.drop i).head? = some (s.getD i 0) := by rw [List.head?_drop, List.getD_eq_getElem?_getD, List.getElem?_eq_getElem hil]; rfl
      have hrb := runB_le 97 122 (s.drop i)
      have hrd := runB_le 48 57 (s.drop i)
      rw [List.length_drop] at hrb hrd
      by_cases hb : (((s.getD i 0).toNat : Nat) : Int) = 32
      · have b1 : (((((sb s).data.toList.getD ((i : Nat) : Int).toNat 0).toNat : Nat) : Int) == 32) = true := by rw [beq_iff_eq]; exact hb
        repeat (first | (refine acond_t (b1) ?_; conv => whnf))
        have hb' : s.getD i 0 = 32 := UInt8.toNat_inj.1 (by show _ = 32; omega)
        refine Gh.regs [0, 2, 3, 4] (Gh.of ⟨s.length - (i + 1), by omega, i + 1, out, c, by omega, rfl, ?_, hc, by omega, rfl, ?_⟩)
        · rw [← hout, List.drop_eq_getElem_cons hil]
          rw [show s[i] = 32 from by rw [← hb', List.getD_eq_getElem?_getD, List.getElem?_eq_getElem hil]; rfl, lexS_blank]
        · refine congrArg (fun z => [_, _, _, (4, AV.i IntKind.i64 z)]) ?_
          rw [IntKind.wrap_i64]; omega
      have b1 : (((((sb s).data.toList.getD ((i : Nat) : Int).toNat 0).toNat : Nat) : Int) == 32) = false := by rw [beq_eq_false_iff_ne]; exact hb
      have hhd0 : (s.drop i).head? ≠ some 32 := by
        rw [hhd]; intro e; apply hb; rw [Option.some.inj e]; rfl
      repeat (first | (refine acond_f (b1) ?_; conv => whnf))
      refine ALoop.post (i := 2) (fun r H => H = [.c (toks out)] ∧ keepR [0, 2, 3, 4, 5] r = [(0, .s (sb s)), (2, .sl none 0 0 0), (3, .sl (some (0, 0)) 2 out.length c), (4, .i .i64 i), (5, .i .i64 ((i + runB 97 122 (s.drop i) : Nat) : Int))]) ?_ ?_
      · refine ALoop.ind (ip := false) tok (fun m r H => ∃ (j : Nat), j ≤ runB 97 122 (s.drop i) ∧ m = runB 97 122 (s.drop i) - j ∧ H = [.c (toks out)] ∧
          r = [(0, .s (sb s)), (2, .sl none 0 0 0), (3, .sl (some (0, 0)) 2 out.length c), (4, .i .i64 i), (5, .i .i64 ((i + j : Nat) : Int))]) (runB 97 122 (s.drop i)) ?_ ?_
        · exact Gh.regs [0, 2, 3, 4, 5] (Gh.of ⟨0, by omega, by omega, rfl, rfl⟩)
        rintro m r H ⟨j, hj, rfl, rfl, rfl⟩
        have hw : IntKind.i64.wrap (((i + j : Nat) : Int) + 1) = ((i + (j + 1) : Nat) : Int) := by rw [IntKind.wrap_i64]; omega
        rcases loop1 hs hil hj with ⟨l1, l2, l3, l4⟩ | ⟨l1, l2⟩
        · conv => whnf
          have d1 : ((i + j : Nat) : Int) < ((sb s).size : Nat) := by rw [sb_size]; omega
          repeat (first | (refine acond_t (decide_eq_true d1) ?_; conv => whnf))
          refine ⟨⟨by omega, d1⟩, ?_⟩
          conv => whnf
          repeat (first | (refine acond_t (decide_eq_true d1) ?_; conv => whnf) | (refine acond_t (decide_eq_true l2) ?_; conv => whnf))
          refine ⟨⟨by omega, d1⟩, ?_⟩
          conv => whnf
          repeat (first | (refine acond_t (decide_eq_true d1) ?_; conv => whnf) | (refine acond_t (decide_eq_true l2) ?_; conv => whnf) | (refine acond_t (decide_eq_true l3) ?_; conv => whnf))
          refine Gh.regs [0, 2, 3, 4, 5] (Gh.of ⟨runB 97 122 (s.drop i) - (j + 1), by omega, j + 1, l4, rfl, rfl, ?_⟩)
          exact congrArg (fun z => [_, _, _, _, (5, AV.i IntKind.i64 z)]) hw
        · conv => whnf
          subst l1
          by_cases d1 : ((i + runB 97 122 (s.drop i) : Nat) : Int) < ((sb s).size : Nat)
          · repeat (first | (refine acond_t (decide_eq_true d1) ?_; conv => whnf))
            refine ⟨⟨by omega, d1⟩, ?_⟩
            conv => whnf
            by_cases d2 : (97 : Int) ≤ ((s.getD (i + runB 97 122 (s.drop i)) 0).toNat : Int)
            · repeat (first | (refine acond_t (decide_eq_true d1) ?_; conv => whnf) | (refine acond_t (decide_eq_true d2) ?_; conv => whnf))
              refine ⟨⟨by omega, d1⟩, ?_⟩
              conv => whnf
              have d3 : ¬ ((s.getD (i + runB 97 122 (s.drop i)) 0).toNat : Int) ≤ (122 : Int) := by
                rw [sb_size] at d1; omega
              repeat (first | (refine acond_t (decide_eq_true d1) ?_; conv => whnf) | (refine acond_t (decide_eq_true d2) ?_; conv => whnf) | (refine acond_f (decide_eq_false d3) ?_; conv => whnf))
              exact ⟨rfl, rfl, rfl⟩
            · repeat (first | (refine acond_t (decide_eq_true d1) ?_; conv => whnf) | (refine acond_f (decide_eq_false d2) ?_; conv => whnf))
              exact ⟨rfl, rfl, rfl⟩
          · repeat (first | (refine acond_f (decide_eq_false d1) ?_; conv => whnf))
            exact ⟨rfl, rfl, rfl⟩
      rintro r H ⟨rfl, hr⟩
      refine Gh.regs [0, 2, 3, 4, 5] (Gh.of ?_)
      rw [hr]
      conv => whnf
      by_cases hA : 0 < runB 97 122 (s.drop i)
      · have htk : tokLen (s.drop i) = i + runB 97 122 (s.drop i) - i := by unfold tokLen; rw [if_pos hA]; omega
        have hk : ((((i + runB 97 122 (s.drop i) : Nat)) : Int) == (i : Int)) = false := by rw [beq_eq_false_iff_ne]; omega
        repeat (first | (refine acond_f (hk) ?_; conv => whnf))
        refine ADraw.of tok mixed false [0, 1, 2, 3, 4, 5, 6, 7, 8, 9, 10, 12, 13, 14, 15, 16] [11, 17, 18] (by kernel_rfl) (fun _ _ _ _ h => h) ?_
        conv => whnf
        repeat (first | (refine acond_f (hk) ?_; conv => whnf))
        refine ⟨⟨by omega, by omega, by rw [sb_size]; omega⟩, ?_⟩
        conv => whnf
        refine ⟨by show 0 + out.length * 2 ≤ _; rw [toks_length]; omega, ?_⟩
        conv => whnf
        refine ⟨Nat.le_of_ble_eq_true rfl, ?_⟩
        conv => whnf
        refine ⟨rfl, ?_, ?_, ?_⟩
        · show (out.length + 1) * 2 * 24 ≤ _; omega
        · show (out.length + 1) * 2 ≤ _; omega
        intro c' hc'
        conv => whnf
        refine Gh.regs [0, 2, 3, 4] (Gh.sel [2] rfl (Gh.of ⟨s.length - (i + runB 97 122 (s.drop i)), by omega, i + runB 97 122 (s.drop i), out ++ [((s.drop i).take (tokLen (s.drop i)), i)], c', by omega, rfl, ?_, ?_, ?_, ?_, ?_⟩))
        · rw [← hout, List.append_assoc, lexS_tok hne hhd0 (by omega), List.drop_drop, htk, show i + (i + runB 97 122 (s.drop i) - i) = i + runB 97 122 (s.drop i) from by omega]; rfl
        · rw [List.length_append]; exact hc'
        · rw [List.length_append, List.length_singleton]; omega
        · show [Blk.c (subs _ (((toks out).drop 0).take (out.length * 2) ++ [.s ((sb s).extract i (i + runB 97 122 (s.drop i))), .i .i64 i]))] = _
          rw [sb_extract, ← htk, toks_push, subs_toks]
        · show [(0, _), (2, _), (3, AV.sl (some (0, 0)) 2 (out.length + 1) c'), (4, _)] = _
          rw [List.length_append]; rfl
      have hA0 : runB 97 122 (s.drop i) = 0 := by omega
      have hk : ((((i + runB 97 122 (s.drop i) : Nat)) : Int) == (i : Int)) = true := by rw [hA0]; simp
      repeat (first | (refine acond_t (hk) ?_; conv => whnf))
      refine ALoop.post (i := 4) (fun r H => H = [.c (toks out)] ∧ keepR [0, 2, 3, 4, 5] r = [(0, .s (sb s)), (2, .sl none 0 0 0), (3, .sl (some (0, 0)) 2 out.length c), (4, .i .i64 i), (5, .i .i64 ((i + runB 48 57 (s.drop i) : Nat) : Int))]) ?_ ?_
      · refine ALoop.ind (ip := false) tok (fun m r H => ∃ (j : Nat), j ≤ runB 48 57 (s.drop i) ∧ m = runB 48 57 (s.drop i) - j ∧ H = [.c (toks out)] ∧
          r = [(0, .s (sb s)), (2, .sl none 0 0 0), (3, .sl (some (0, 0)) 2 out.length c), (4, .i .i64 i), (5, .i .i64 ((i + j : Nat) : Int))]) (runB 48 57 (s.drop i)) ?_ ?_
        · exact Gh.regs [0, 2, 3, 4, 5] (Gh.of ⟨0, by omega, by omega, rfl, (by show [_, _, _, _, (5, AV.i IntKind.i64 _)] = _; rw [hA0])⟩)
        rintro m r H ⟨j, hj, rfl, rfl, rfl⟩
        have hw : IntKind.i64.wrap (((i + j : Nat) : Int) + 1) = ((i + (j + 1) : Nat) : Int) := by rw [IntKind.wrap_i64]; omega
        rcases loop1 hs hil hj with ⟨l1, l2, l3, l4⟩ | ⟨l1, l2⟩
        · conv => whnf
          have d1 : ((i + j : Nat) : Int) < ((sb s).size : Nat) := by rw [sb_size]; omega
          repeat (first | (refine acond_t (decide_eq_true d1) ?_; conv => whnf))
          refine ⟨⟨by omega, d1⟩, ?_⟩
          conv => whnf
          repeat (first | (refine acond_t (decide_eq_true d1) ?_; conv => whnf) | (refine acond_t (decide_eq_true l2) ?_; conv => whnf))
          refine ⟨⟨by omega, d1⟩, ?_⟩
          conv => whnf
          repeat (first | (refine acond_t (decide_eq_true d1) ?_; conv => whnf) | (refine acond_t (decide_eq_true l2) ?_; conv => whnf) | (refine acond_t (decide_eq_true l3) ?_; conv => whnf))
          refine Gh.regs [0, 2, 3, 4, 5] (Gh.of ⟨runB 48 57 (s.drop i) - (j + 1), by omega, j + 1, l4, rfl, rfl, ?_⟩)
          exact congrArg (fun z => [_, _, _, _, (5, AV.i IntKind.i64 z)]) hw
        · conv => whnf
          subst l1
          by_cases d1 : ((i + runB 48 57 (s.drop i) : Nat) : Int) < ((sb s).size : Nat)
          · repeat (first | (refine acond_t (decide_eq_true d1) ?_; conv => whnf))
            refine ⟨⟨by omega, d1⟩, ?_⟩
            conv => whnf
            by_cases d2 : (48 : Int) ≤ ((s.getD (i + runB 48 57 (s.drop i)) 0).toNat : Int)
            · repeat (first | (refine acond_t (decide_eq_true d1) ?_; conv => whnf) | (refine acond_t (decide_eq_true d2) ?_; conv => whnf))
              refine ⟨⟨by omega, d1⟩, ?_⟩
              conv => whnf
              have d3 : ¬ ((s.getD (i + runB 48 57 (s.drop i)) 0).toNat : Int) ≤ (57 : Int) := by
                rw [sb_size] at d1; omega
              repeat (first | (refine acond_t (decide_eq_true d1) ?_; conv => whnf) | (refine acond_t (decide_eq_true d2) ?_; conv => whnf) | (refine acond_f (decide_eq_false d3) ?_; conv => whnf))
              exact ⟨rfl, rfl, rfl⟩
            · repeat (first | (refine acond_t (decide_eq_true d1) ?_; conv => whnf) | (refine acond_f (decide_eq_false d2) ?_; conv => whnf))
              exact ⟨rfl, rfl, rfl⟩
          · repeat (first | (refine acond_f (decide_eq_false d1) ?_; conv => whnf))
            exact ⟨rfl, rfl, rfl⟩
      rintro r H ⟨rfl, hr⟩
      refine Gh.regs [0, 2, 3, 4, 5] (Gh.of ?_)
      rw [hr]
      conv => whnf
      by_cases hB : 0 < runB 48 57 (s.drop i)
      · have htk : tokLen (s.drop i) = i + runB 48 57 (s.drop i) - i := by rw [tok_dig hB]; omega
        have hk : ((((i + runB 48 57 (s.drop i) : Nat)) : Int) == (i : Int)) = false := by rw [beq_eq_false_iff_ne]; omega
        refine ADraw.of tok mixed false [0, 1, 2, 3, 4, 5, 6, 7, 8, 9, 10, 12, 13, 14, 15, 16] [11, 17, 18] (by kernel_rfl) (fun _ _ _ _ h => h) ?_
        conv => whnf
        repeat (first | (refine acond_f (hk) ?_; conv => whnf))
        refine ⟨⟨by omega, by omega, by rw [sb_size]; omega⟩, ?_⟩
        conv => whnf
        refine ⟨by show 0 + out.length * 2 ≤ _; rw [toks_length]; omega, ?_⟩
        conv => whnf
        refine ⟨Nat.le_of_ble_eq_true rfl, ?_⟩
        conv => whnf
        refine ⟨rfl, ?_, ?_, ?_⟩
        · show (out.length + 1) * 2 * 24 ≤ _; omega
        · show (out.length + 1) * 2 ≤ _; omega
        intro c' hc'
        conv => whnf
        refine Gh.regs [0, 2, 3, 4] (Gh.sel [2] rfl (Gh.of ⟨s.length - (i + runB 48 57 (s.drop i)), by omega, i + runB 48 57 (s.drop i), out ++ [((s.drop i).take (tokLen (s.drop i)), i)], c', by omega, rfl, ?_, ?_, ?_, ?_, ?_⟩))
        · rw [← hout, List.append_assoc, lexS_tok hne hhd0 (by omega), List.drop_drop, htk, show i + (i + runB 48 57 (s.drop i) - i) = i + runB 48 57 (s.drop i) from by omega]; rfl
        · rw [List.length_append]; exact hc'
        · rw [List.length_append, List.length_singleton]; omega
        · show [Blk.c (subs _ (((toks out).drop 0).take (out.length * 2) ++ [.s ((sb s).extract i (i + runB 48 57 (s.drop i))), .i .i64 i]))] = _
          rw [sb_extract, ← htk, toks_push, subs_toks]
        · show [(0, _), (2, _), (3, AV.sl (some (0, 0)) 2 (out.length + 1) c'), (4, _)] = _
          rw [List.length_append]; rfl
      have hB0 : runB 48 57 (s.drop i) = 0 := by omega
      have hk : ((((i + runB 48 57 (s.drop i) : Nat)) : Int) == (i : Int)) = true := by rw [hB0]; simp
      refine ADraw.of tok mixed false [0, 1, 2, 3, 4, 5, 6, 7, 8, 9, 10, 12, 13, 14, 15, 16] [11, 17, 18] (by kernel_rfl) (fun _ _ _ _ h => h) ?_
      conv => whnf
      repeat (first | (refine acond_t (hk) ?_; conv => whnf))
      have hw1 : IntKind.i64.wrap ((i : Int) + 1) = ((i + 1 : Nat) : Int) := by rw [IntKind.wrap_i64]; omega
      have hw2 : IntKind.i64.wrap ((i : Int) + 2) = ((i + 2 : Nat) : Int) := by rw [IntKind.wrap_i64]; omega
      have hlen : (s.drop i).length = s.length - i := List.length_drop
      have htl : tokLen (s.drop i) = if 1 < (s.drop i).length ∧ opsL.contains ((s.drop i).take 2) = true then 2 else if par4.contains ((s.drop i).take 1) = true then 1 else 0 := by
        rw [← opLen_eq _ hne]; unfold tokLen; rw [hA0, hB0, if_neg (by omega), if_neg (by omega)]
      have hx1 : (sb s).extract ((i : Nat) : Int).toNat (IntKind.i64.wrap ((i : Int) + 1)).toNat = sb ((s.drop i).take 1) := by
        rw [hw1, Int.toNat_natCast, Int.toNat_natCast, sb_extract, show i + 1 - i = 1 from by omega]
      by_cases h2l : IntKind.i64.wrap ((i : Int) + 1) < ((sb s).size : Nat)
      · repeat (first | (refine acond_t (hk) ?_; conv => whnf) | (refine acond_t (decide_eq_true h2l) ?_; conv => whnf))
        have hx2 : (sb s).extract ((i : Nat) : Int).toNat (IntKind.i64.wrap ((i : Int) + 2)).toNat = sb ((s.drop i).take 2) := by
          rw [hw2, Int.toNat_natCast, Int.toNat_natCast, sb_extract, show i + 2 - i = 2 from by omega]
        have h2i : i + 1 < s.length := by have := h2l; rw [hw1, sb_size] at this; omega
        refine ⟨⟨by omega, by rw [hw2]; omega, by rw [hw2, sb_size]; omega⟩, ?_⟩
        conv => whnf
        repeat (first | (refine acond_t (hk) ?_; conv => whnf) | (refine acond_t (decide_eq_true h2l) ?_; conv => whnf))
        refine ACall.frameH [] [] rfl (args' := []) (Hc := []) rfl rfl opsR_spec ?_
        rintro r0 H0 ⟨rfl, rfl⟩
        refine ⟨.inl rfl, [.c (toks out)], rfl, ?_⟩
        conv => whnf
        repeat (first | (refine acond_t (hk) ?_; conv => whnf) | (refine acond_t (decide_eq_true h2l) ?_; conv => whnf))
        refine ACall.frameH [] [] rfl (args' := [.rs (strs opsR) 0 1 opsR.length, .s (sb ((s.drop i).take 2))]) (Hc := []) (by show [_, AV.s ((sb s).extract ((i : Nat) : Int).toNat (IntKind.i64.wrap _).toNat)] = _; rw [hx2]; rfl) rfl (in_spec opsR ((s.drop i).take 2) (by decide)) ?_
        rintro r0 H0 ⟨rfl, rfl⟩
        refine ⟨.inl rfl, [.c (toks out)], rfl, ?_⟩
        conv => whnf
        by_cases h2c : opsR.contains ((s.drop i).take 2) = true
        · have htk : tokLen (s.drop i) = i + 2 - i := by rw [htl, if_pos ⟨by omega, by rw [← opsR_contains]; exact h2c⟩]; omega
          have hk1 : (IntKind.i64.wrap ((i : Int) + 2) == (i : Int)) = false := by rw [hw2, beq_eq_false_iff_ne]; omega
          repeat (first | (refine acond_t (hk) ?_; conv => whnf) | (refine acond_t (decide_eq_true h2l) ?_; conv => whnf) | (refine acond_t (h2c) ?_; conv => whnf) | (refine acond_f (hk1) ?_; conv => whnf))
          refine ⟨⟨by omega, by rw [hw2]; omega, by rw [hw2, sb_size]; omega⟩, ?_⟩
          conv => whnf
          refine ⟨by show 0 + out.length * 2 ≤ _; rw [toks_length]; omega, ?_⟩
          conv => whnf
          refine ⟨Nat.le_of_ble_eq_true rfl, ?_⟩
          conv => whnf
          refine ⟨rfl, ?_, ?_, ?_⟩
          · show (out.length + 1) * 2 * 24 ≤ _; omega
          · show (out.length + 1) * 2 ≤ _; omega
          intro c' hc'
          conv => whnf
          refine Gh.regs [0, 2, 3, 4] (Gh.sel [2] rfl (Gh.of ⟨s.length - (i + 2), by omega, i + 2, out ++ [((s.drop i).take (tokLen (s.drop i)), i)], c', by omega, rfl, ?_, ?_, ?_, ?_, ?_⟩))
          · rw [← hout, List.append_assoc, lexS_tok hne hhd0 (by omega), List.drop_drop, htk, show i + (i + 2 - i) = i + 2 from by omega]; rfl
          · rw [List.length_append]; exact hc'
          · rw [List.length_append, List.length_singleton]; omega
          · show [Blk.c (subs _ (((toks out).drop 0).take (out.length * 2) ++ [.s ((sb s).extract i (IntKind.i64.wrap _).toNat), .i .i64 i]))] = _
            rw [hw2, Int.toNat_natCast, sb_extract, ← htk, toks_push, subs_toks]
          · show [(0, _), (2, _), (3, AV.sl (some (0, 0)) 2 (out.length + 1) c'), (4, AV.i IntKind.i64 (IntKind.i64.wrap _))] = _
            rw [List.length_append, hw2]; rfl
        · have h2c' := Bool.eq_false_iff.2 h2c
          repeat (first | (refine acond_t (hk) ?_; conv => whnf) | (refine acond_t (decide_eq_true h2l) ?_; conv => whnf) | (refine acond_f (h2c') ?_; conv => whnf))
          refine ⟨⟨by omega, by rw [hw1]; omega, by rw [hw1, sb_size]; omega⟩, ?_⟩
          conv => whnf
          repeat (first | (refine acond_t (hk) ?_; conv => whnf) | (refine acond_t (decide_eq_true h2l) ?_; conv => whnf) | (refine acond_f (h2c') ?_; conv => whnf))
          refine ACall.frameH [] [1] rfl (args' := [.rs (strs par4) 0 1 par4.length, .s (sb ((s.drop i).take 1))]) (Hc := []) (by show [_, AV.s ((sb s).extract ((i : Nat) : Int).toNat (IntKind.i64.wrap _).toNat)] = _; rw [hx1]; rfl) rfl (in_spec par4 ((s.drop i).take 1) (by decide)) ?_
          rintro r0 H0 ⟨rfl, rfl⟩
          refine ⟨.inr ⟨rfl, rfl⟩, [.c (toks out), .c (strs par4)], rfl, ?_⟩
          conv => whnf
          by_cases h1 : par4.contains ((s.drop i).take 1) = true
          · have htk : tokLen (s.drop i) = i + 1 - i := by rw [htl, if_neg (fun e => h2c (by rw [opsR_contains]; exact e.2)), if_pos h1]; omega
            have hk1 : (IntKind.i64.wrap ((i : Int) + 1) == (i : Int)) = false := by rw [hw1, beq_eq_false_iff_ne]; omega
            repeat (first | (refine acond_t (hk) ?_; conv => whnf) | (refine acond_t (decide_eq_true h2l) ?_; conv => whnf) | (refine acond_f (h2c') ?_; conv => whnf) | (refine acond_t (h1) ?_; conv => whnf) | (refine acond_f (hk1) ?_; conv => whnf))
            refine ⟨⟨by omega, by rw [hw1]; omega, by rw [hw1, sb_size]; omega⟩, ?_⟩
            conv => whnf
            refine ⟨by show 0 + out.length * 2 ≤ _; rw [toks_length]; omega, ?_⟩
            conv => whnf
            refine ⟨Nat.le_of_ble_eq_true rfl, ?_⟩
            conv => whnf
            refine ⟨rfl, ?_, ?_, ?_⟩
            · show (out.length + 1) * 2 * 24 ≤ _; omega
            · show (out.length + 1) * 2 ≤ _; omega
            intro c' hc'
            conv => whnf
            refine Gh.regs [0, 2, 3, 4] (Gh.sel [3] rfl (Gh.of ⟨s.length - (i + 1), by omega, i + 1, out ++ [((s.drop i).take (tokLen (s.drop i)), i)], c', by omega, rfl, ?_, ?_, ?_, ?_, ?_⟩))
            · rw [← hout, List.append_assoc, lexS_tok hne hhd0 (by omega), List.drop_drop, htk, show i + (i + 1 - i) = i + 1 from by omega]; rfl
            · rw [List.length_append]; exact hc'
            · rw [List.length_append, List.length_singleton]; omega
            · show [Blk.c (subs _ (((toks out).drop 0).take (out.length * 2) ++ [.s ((sb s).extract i (IntKind.i64.wrap _).toNat), .i .i64 i]))] = _
              rw [hw1, Int.toNat_natCast, sb_extract, ← htk, toks_push, subs_toks]
            · show [(0, _), (2, _), (3, AV.sl (some (0, 0)) 2 (out.length + 1) c'), (4, AV.i IntKind.i64 (IntKind.i64.wrap _))] = _
              rw [List.length_append, hw1]; rfl

          · have h1' := Bool.eq_false_iff.2 h1
            have htk : tokLen (s.drop i) = 0 := by rw [htl, if_neg (fun e => h2c (by rw [opsR_contains]; exact e.2)), if_neg h1]
            repeat (first | (refine acond_t (hk) ?_; conv => whnf) | (refine acond_t (decide_eq_true h2l) ?_; conv => whnf) | (refine acond_f (h2c') ?_; conv => whnf) | (refine acond_f (h1') ?_; conv => whnf))
            refine ⟨by show 0 + out.length * 2 ≤ _; rw [toks_length]; omega, ?_⟩
            conv => whnf
            refine ⟨Nat.le_of_ble_eq_true rfl, ?_⟩
            conv => whnf
            refine ⟨rfl, ?_, ?_, ?_⟩
            · show (out.length + 1) * 2 * 24 ≤ _; omega
            · show (out.length + 1) * 2 ≤ _; omega
            intro c' hc'
            conv => whnf
            have hfin : out ++ [([63], i)] = lexS s 0 := by rw [← hout, lexS_bad hne hhd0 htk]
            refine GhR.frz 3 rfl (GhR.sel [] rfl (GhR.of ⟨?_, rfl⟩))
            show ARes.ret (AV.rs (subs _ (((toks out).drop 0).take (out.length * 2) ++ [.s (sb [63]), .i .i64 i])) 0 2 (out.length + 1)) = _
            rw [toks_push, subs_toks, hfin, ← hfin, List.length_append]; rfl
      · repeat (first | (refine acond_t (hk) ?_; conv => whnf) | (refine acond_f (decide_eq_false h2l) ?_; conv => whnf))
        have h2i : ¬ i + 1 < s.length := fun e => h2l (by rw [hw1, sb_size]; omega)
        refine ⟨⟨by omega, by rw [hw1]; omega, by rw [hw1, sb_size]; omega⟩, ?_⟩
        conv => whnf
        repeat (first | (refine acond_t (hk) ?_; conv => whnf) | (refine acond_f (decide_eq_false h2l) ?_; conv => whnf))
        refine ACall.frameH [] [1] rfl (args' := [.rs (strs par4) 0 1 par4.length, .s (sb ((s.drop i).take 1))]) (Hc := []) (by show [_, AV.s ((sb s).extract ((i : Nat) : Int).toNat (IntKind.i64.wrap _).toNat)] = _; rw [hx1]; rfl) rfl (in_spec par4 ((s.drop i).take 1) (by decide)) ?_
        rintro r0 H0 ⟨rfl, rfl⟩
        refine ⟨.inr ⟨rfl, rfl⟩, [.c (toks out), .c (strs par4)], rfl, ?_⟩
        conv => whnf
        by_cases h1 : par4.contains ((s.drop i).take 1) = true
        · have htk : tokLen (s.drop i) = i + 1 - i := by rw [htl, if_neg (fun e => by have := e.1; omega), if_pos h1]; omega
          have hk1 : (IntKind.i64.wrap ((i : Int) + 1) == (i : Int)) = false := by rw [hw1, beq_eq_false_iff_ne]; omega
          repeat (first | (refine acond_t (hk) ?_; conv => whnf) | (refine acond_f (decide_eq_false h2l) ?_; conv => whnf) | (refine acond_t (h1) ?_; conv => whnf) | (refine acond_f (hk1) ?_; conv => whnf))
          refine ⟨⟨by omega, by rw [hw1]; omega, by rw [hw1, sb_size]; omega⟩, ?_⟩
          conv => whnf
          refine ⟨by show 0 + out.length * 2 ≤ _; rw [toks_length]; omega, ?_⟩
          conv => whnf
          refine ⟨Nat.le_of_ble_eq_true rfl, ?_⟩
          conv => whnf
          refine ⟨rfl, ?_, ?_, ?_⟩
          · show (out.length + 1) * 2 * 24 ≤ _; omega
          · show (out.length + 1) * 2 ≤ _; omega
          intro c' hc'
          conv => whnf
          refine Gh.regs [0, 2, 3, 4] (Gh.sel [3] rfl (Gh.of ⟨s.length - (i + 1), by omega, i + 1, out ++ [((s.drop i).take (tokLen (s.drop i)), i)], c', by omega, rfl, ?_, ?_, ?_, ?_, ?_⟩))
          · rw [← hout, List.append_assoc, lexS_tok hne hhd0 (by omega), List.drop_drop, htk, show i + (i + 1 - i) = i + 1 from by omega]; rfl
          · rw [List.length_append]; exact hc'
          · rw [List.length_append, List.length_singleton]; omega
          · show [Blk.c (subs _ (((toks out).drop 0).take (out.length * 2) ++ [.s ((sb s).extract i (IntKind.i64.wrap _).toNat), .i .i64 i]))] = _
            rw [hw1, Int.toNat_natCast, sb_extract, ← htk, toks_push, subs_toks]
          · show [(0, _), (2, _), (3, AV.sl (some (0, 0)) 2 (out.length + 1) c'), (4, AV.i IntKind.i64 (IntKind.i64.wrap _))] = _
            rw [List.length_append, hw1]; rfl

        · have h1' := Bool.eq_false_iff.2 h1
          have htk : tokLen (s.drop i) = 0 := by rw [htl, if_neg (fun e => by have := e.1; omega), if_neg h1]
          repeat (first | (refine acond_t (hk) ?_; conv => whnf) | (refine acond_f (decide_eq_false h2l) ?_; conv => whnf) | (refine acond_f (h1') ?_; conv => whnf))
          refine ⟨by show 0 + out.length * 2 ≤ _; rw [toks_length]; omega, ?_⟩
          conv => whnf
          refine ⟨Nat.le_of_ble_eq_true rfl, ?_⟩
          conv => whnf
          refine ⟨rfl, ?_, ?_, ?_⟩
          · show (out.length + 1) * 2 * 24 ≤ _; omega
          · show (out.length + 1) * 2 ≤ _; omega
          intro c' hc'
          conv => whnf
          have hfin : out ++ [([63], i)] = lexS s 0 := by rw [← hout, lexS_bad hne hhd0 htk]
          refine GhR.frz 3 rfl (GhR.sel [] rfl (GhR.of ⟨?_, rfl⟩))
          show ARes.ret (AV.rs (subs _ (((toks out).drop 0).take (out.length * 2) ++ [.s (sb [63]), .i .i64 i])) 0 2 (out.length + 1)) = _
          rw [toks_push, subs_toks, hfin, ← hfin, List.length_append]; rfl
    · have hil : i = s.length := by rw [sb_size] at h; omega
      repeat (first | (refine acond_f (decide_eq_false h) ?_; conv => whnf))
      refine ⟨by show 0 + out.length * 2 ≤ _; rw [toks_length]; omega, ?_⟩
      conv => whnf
      refine ⟨Nat.le_of_ble_eq_true rfl, ?_⟩
      conv => whnf
      refine ⟨rfl, ?_, ?_, ?_⟩
      · show (out.length + 1) * 2 * 24 ≤ _; omega
      · show (out.length + 1) * 2 ≤ _; omega
      intro c' hc'
      conv => whnf
      have hfin : out ++ [([], i)] = lexS s 0 := by rw [← hout, hil, List.drop_length]; rfl
      refine GhR.frz 2 rfl (GhR.sel [] rfl (GhR.of ⟨?_, rfl⟩))
      show ARes.ret (AV.rs (subs _ (((toks out).drop 0).take (out.length * 2) ++ [.s (sb []), .i .i64 ((sb s).size : Nat)])) 0 2 (out.length + 1)) = _
      rw [sb_size, ← hil, toks_push, subs_toks, hfin, ← hfin, List.length_append]; rfl
end Go.AK
namespace Go.AK
open Go Go.RowKit Go.Proofs
set_option linter.unusedVariables false
set_option maxRecDepth 100000
/-! The tokens of a text, of which each blank stands so many times. -/
def exb (k : Nat) (t : Str) : Str := t.flatMap fun c => if c = 32 then List.replicate k 32 else [c]
theorem exb_append (k : Nat) (a b : Str) : exb k (a ++ b) = exb k a ++ exb k b := by simp [exb]
theorem exb_cons (k : Nat) (c : UInt8) (b : Str) : exb k (c :: b) = (if c = 32 then List.replicate k 32 else [c]) ++ exb k b := by simp [exb]
theorem exb_nil (k : Nat) : exb k [] = [] := rfl
theorem exb_plain (k : Nat) : ∀ t : Str, (∀ c ∈ t, c ≠ 32) → exb k t = t
  | [], _ => rfl
  | c :: t, h => by
    rw [exb_cons, if_neg (h c (by simp)), exb_plain k t (fun x hx => h x (by simp [hx]))]; rfl
theorem exb_one : ∀ t : Str, exb 1 t = t
  | [] => rfl
  | c :: t => by
    rw [exb_cons, exb_one t]
    split
    · rename_i h; rw [h]; rfl
    · rfl
def Safe (rest : Str) : Prop := rest = [] ∨ rest.head? = some 32 ∨ rest.head? = some 41
/-- A text's tokens, whatever stands behind. -/
def LexAny (t : Str) (ws : List Str) : Prop := ∀ (rest : Str) (p : Nat), ∃ A : List Tok, A.map Prod.fst = ws ∧ lexS (t ++ rest) p = A ++ lexS rest (p + t.length)
/-- .. behind which it is safe. -/
def LexTo (t : Str) (ws : List Str) : Prop := ∀ (rest : Str) (p : Nat), Safe rest → ∃ A : List Tok, A.map Prod.fst = ws ∧ lexS (t ++ rest) p = A ++ lexS rest (p + t.length)
theorem LexAny.to {t : Str} {ws : List Str} (h : LexAny t ws) : LexTo t ws := fun rest p _ => h rest p
theorem LexAny.append {t u : Str} {ws vs : List Str} (h : LexAny t ws) (k : LexAny u vs) : LexAny (t ++ u) (ws ++ vs) := by
  intro rest p
  obtain ⟨A, a1, a2⟩ := h (u ++ rest) p
  obtain ⟨B, b1, b2⟩ := k rest (p + t.length)
  refine ⟨A ++ B, by rw [List.map_append, a1, b1], ?_⟩
  rw [List.append_assoc, a2, b2, List.append_assoc, List.length_append, Nat.add_assoc]
theorem LexAny.app_to {t u : Str} {ws vs : List Str} (h : LexAny t ws) (k : LexTo u vs) : LexTo (t ++ u) (ws ++ vs) := by
  intro rest p hs
  obtain ⟨A, a1, a2⟩ := h (u ++ rest) p
  obtain ⟨B, b1, b2⟩ := k rest (p + t.length) hs
  refine ⟨A ++ B, by rw [List.map_append, a1, b1], ?_⟩
  rw [List.append_assoc, a2, b2, List.append_assoc, List.length_append, Nat.add_assoc]
theorem LexTo.append {t u : Str} {ws vs : List Str} (h : LexTo t ws) (hu : u.head? = some 32 ∨ u.head? = some 41) (k : LexTo u vs) : LexTo (t ++ u) (ws ++ vs) := by
  intro rest p hs
  have hus : Safe (u ++ rest) := by
    cases u with
    | nil => rcases hu with h | h <;> cases h
    | cons c u => exact .inr hu
  obtain ⟨A, a1, a2⟩ := h (u ++ rest) p hus
  obtain ⟨B, b1, b2⟩ := k rest (p + t.length) hs
  refine ⟨A ++ B, by rw [List.map_append, a1, b1], ?_⟩
  rw [List.append_assoc, a2, b2, List.append_assoc, List.length_append, Nat.add_assoc]
theorem LexTo.app_any {t u : Str} {ws vs : List Str} (h : LexTo t ws) (hu : u.head? = some 32 ∨ u.head? = some 41) (k : LexAny u vs) : LexAny (t ++ u) (ws ++ vs) := by
  intro rest p
  have hus : Safe (u ++ rest) := by
    cases u with
    | nil => rcases hu with h | h <;> cases h
    | cons c u => exact .inr hu
  obtain ⟨A, a1, a2⟩ := h (u ++ rest) p hus
  obtain ⟨B, b1, b2⟩ := k rest (p + t.length)
  refine ⟨A ++ B, by rw [List.map_append, a1, b1], ?_⟩
  rw [List.append_assoc, a2, b2, List.append_assoc, List.length_append, Nat.add_assoc]
theorem lexAny_blanks : ∀ k : Nat, LexAny (List.replicate k 32) []
  | 0 => fun rest p => ⟨[], rfl, rfl⟩
  | k + 1 => fun rest p => by
    obtain ⟨A, a1, a2⟩ := lexAny_blanks k rest (p + 1)
    refine ⟨A, a1, ?_⟩
    rw [List.replicate_succ, List.cons_append, lexS_blank, a2, List.length_cons, List.length_replicate]
    congr 2; omega
/-- One token. -/
theorem lex_tok {t rest : Str} (p : Nat) (ht : t ≠ []) (hh : t.head? ≠ some 32) (hl : tokLen (t ++ rest) = t.length) : lexS (t ++ rest) p = (t, p) :: lexS rest (p + t.length) := by
  have hlen := List.length_pos_iff.2 ht
  rw [lexS_tok (by intro e; rw [List.append_eq_nil_iff] at e; exact ht e.1) (by
    cases t with
    | nil => exact absurd rfl ht
    | cons c t => exact hh) (by omega), hl, List.take_left, List.drop_left]
theorem runB_app (lo hi : Nat) : ∀ (t rest : Str), (∀ c ∈ t, lo ≤ c.toNat ∧ c.toNat ≤ hi) → (rest = [] ∨ ∃ c r, rest = c :: r ∧ ¬ (lo ≤ c.toNat ∧ c.toNat ≤ hi)) → runB lo hi (t ++ rest) = t.length
  | [], rest, _, h => by
    rcases h with rfl | ⟨c, r, rfl, hc⟩
    · rfl
    · show (if lo ≤ c.toNat ∧ c.toNat ≤ hi then _ else 0) = 0
      rw [if_neg hc]
  | a :: t, rest, ha, h => by
    show (if lo ≤ a.toNat ∧ a.toNat ≤ hi then runB lo hi (t ++ rest) + 1 else 0) = _
    rw [if_pos (ha a (by simp)), runB_app lo hi t rest (fun c hc => ha c (by simp [hc])) h]; rfl
theorem safe_not {lo hi : Nat} {rest : Str} (h : Safe rest) (h1 : ¬ (lo ≤ 32 ∧ 32 ≤ hi)) (h2 : ¬ (lo ≤ 41 ∧ 41 ≤ hi)) : rest = [] ∨ ∃ c r, rest = c :: r ∧ ¬ (lo ≤ c.toNat ∧ c.toNat ≤ hi) := by
  cases rest with
  | nil => exact .inl rfl
  | cons c r =>
    refine .inr ⟨c, r, rfl, ?_⟩
    rcases h with h | h | h
    · cases h
    · cases h; exact h1
    · cases h; exact h2
theorem lexTo_word {w : Str} (hne : w ≠ []) (hw : ∀ c ∈ w, 97 ≤ c.toNat ∧ c.toNat ≤ 122) : LexTo w [w] := by
  intro rest p hs
  have hlen := List.length_pos_iff.2 hne
  have hr := runB_app 97 122 w rest hw (safe_not hs (by decide) (by decide))
  refine ⟨[(w, p)], rfl, lex_tok p hne ?_ ?_⟩
  · cases w with
    | nil => exact absurd rfl hne
    | cons c w =>
      intro e; cases e
      have := hw 32 (by simp); exact absurd this (by decide)
  · unfold tokLen; rw [hr, if_pos hlen]
theorem lexTo_dig {w : Str} (hne : w ≠ []) (hw : ∀ c ∈ w, 48 ≤ c.toNat ∧ c.toNat ≤ 57) : LexTo w [w] := by
  intro rest p hs
  have hlen := List.length_pos_iff.2 hne
  have hr := runB_app 48 57 w rest hw (safe_not hs (by decide) (by decide))
  refine ⟨[(w, p)], rfl, lex_tok p hne ?_ ?_⟩
  · cases w with
    | nil => exact absurd rfl hne
    | cons c w =>
      intro e; cases e
      have := hw 32 (by simp); exact absurd this (by decide)
  · rw [tok_dig (by omega), hr]
theorem par_len (c : UInt8) (h : c = 40 ∨ c = 41) (r : Str) : tokLen (c :: r) = 1 := by
  have h1 : runB 97 122 (c :: r) = 0 := by rcases h with rfl | rfl <;> rfl
  have h2 : runB 48 57 (c :: r) = 0 := by rcases h with rfl | rfl <;> rfl
  unfold tokLen
  rw [h1, h2, if_neg (by omega), if_neg (by omega)]
  cases r with
  | nil => rcases h with rfl | rfl <;> rfl
  | cons d r =>
    rw [opLen2]
    have h3 : opsL.contains [c, d] = false := by
      cases hc : opsL.contains [c, d] with
      | false => rfl
      | true =>
        exfalso
        have : [c, d] ∈ opsL := by simpa using hc
        simp only [opsL, List.mem_cons, List.not_mem_nil, or_false, List.cons.injEq, and_true, and_false, reduceCtorEq] at this
        rcases h with rfl | rfl <;> (rcases this with h | h | h | h | h | h <;> first | exact absurd h.1 (by decide) | exact h.elim)
    rw [h3, if_neg (by decide)]
    rcases h with rfl | rfl <;> rfl
theorem lexAny_open : LexAny [40] [[40]] := fun rest p => ⟨[([40], p)], rfl, lex_tok p (by simp) (by decide) (par_len 40 (.inl rfl) rest)⟩
theorem lexAny_close : LexAny [41] [[41]] := fun rest p => ⟨[([41], p)], rfl, lex_tok p (by simp) (by decide) (par_len 41 (.inr rfl) rest)⟩
theorem op_len {o : Str} (h : o ∈ opsL) (r : Str) : tokLen (o ++ 32 :: r) = o.length := by
  simp only [opsL, List.mem_cons, List.not_mem_nil, or_false] at h
  have key : ∀ (c d : UInt8) (r : Str), runB 97 122 (c :: d :: r) = 0 → runB 48 57 (c :: d :: r) = 0 → tokLen (c :: d :: r) = if opsL.contains [c, d] = true then 2 else if par4.contains [c] = true then 1 else 0 := by
    intro c d r h1 h2
    unfold tokLen
    rw [h1, h2, if_neg (by omega), if_neg (by omega), opLen2]
  rcases h with rfl | rfl | rfl | rfl | rfl | rfl
  · exact key 61 61 (32 :: r) rfl rfl
  · exact key 33 61 (32 :: r) rfl rfl
  · exact key 60 61 (32 :: r) rfl rfl
  · exact key 62 61 (32 :: r) rfl rfl
  · exact key 60 32 r rfl rfl
  · exact key 62 32 r rfl rfl
/-- A comparison with blanks behind it. -/
theorem lexAny_op {o : Str} (h : o ∈ opsL) {k : Nat} (hk : 1 ≤ k) : LexAny (o ++ List.replicate k 32) [o] := by
  intro rest p
  obtain ⟨j, rfl⟩ : ∃ j, k = j + 1 := ⟨k - 1, by omega⟩
  have hh : o ≠ [] ∧ o.head? ≠ some 32 := by
    have : ∀ o ∈ opsL, o ≠ [] ∧ o.head? ≠ some 32 := by decide
    exact this o h
  obtain ⟨A, a1, a2⟩ := lexAny_blanks (j + 1) rest (p + o.length)
  have hA : A = [] := by simpa using a1
  subst hA
  refine ⟨[(o, p)], rfl, ?_⟩
  rw [List.append_assoc, lex_tok p hh.1 hh.2 (by rw [List.replicate_succ, List.cons_append]; exact op_len h _), a2, List.length_append, Nat.add_assoc]; rfl
/-- A word with blanks behind it. -/
theorem lexAny_word {w : Str} (hne : w ≠ []) (hw : ∀ c ∈ w, 97 ≤ c.toNat ∧ c.toNat ≤ 122) {k : Nat} (hk : 1 ≤ k) : LexAny (w ++ List.replicate k 32) [w] := by
  obtain ⟨j, rfl⟩ : ∃ j, k = j + 1 := ⟨k - 1, by omega⟩
  have := LexTo.app_any (lexTo_word hne hw) (u := List.replicate (j + 1) 32) (.inl rfl) (lexAny_blanks (j + 1))
  simpa using this
theorem num_letters {w : Str} (h : numbersL.contains w = true) : w ≠ [] ∧ ∀ c ∈ w, 97 ≤ c.toNat ∧ c.toNat ≤ 122 := by
  have hm : ∀ w ∈ numbersL, w ≠ [] ∧ ∀ c ∈ w, 97 ≤ c.toNat ∧ c.toNat ≤ 122 := by decide
  exact hm w (by simpa using h)
theorem flag_letters {w : Str} (h : flagsL.contains w = true) : w ≠ [] ∧ ∀ c ∈ w, 97 ≤ c.toNat ∧ c.toNat ≤ 122 := by
  have hm : ∀ w ∈ flagsL, w ≠ [] ∧ ∀ c ∈ w, 97 ≤ c.toNat ∧ c.toNat ≤ 122 := by decide
  exact hm w (by simpa using h)
theorem noBlank_letters {w : Str} (h : ∀ c ∈ w, 97 ≤ c.toNat ∧ c.toNat ≤ 122) : ∀ c ∈ w, c ≠ 32 := fun c hc e => by
  subst e; exact absurd (h 32 hc) (by decide)
theorem noBlank_dig {w : Str} (h : ∀ c ∈ w, 48 ≤ c.toNat ∧ c.toNat ≤ 57) : ∀ c ∈ w, c ≠ 32 := fun c hc e => by
  subst e; exact absurd (h 32 hc) (by decide)
/-- In parentheses, or not. -/
theorem lexTo_par {t : Str} {ws : List Str} (h : LexTo t ws) (b : Bool) (k : Nat) (he : ∃ u, t = exb k u) : LexTo (if b = true then [40] ++ t ++ [41] else t) (par ws b) := by
  cases b with
  | false => exact h
  | true =>
    show LexTo ([40] ++ t ++ [41]) ([[40]] ++ ws ++ [[41]])
    exact LexTo.append (LexAny.app_to lexAny_open h) (.inr rfl) lexAny_close.to
theorem exb_around (k : Nat) (t : Str) (b : Bool) : exb k (around t b) = if b = true then [40] ++ exb k t ++ [41] else exb k t := by
  cases b with
  | false => rfl
  | true =>
    show exb k (40 :: (t ++ [41])) = _
    rw [exb_cons, exb_append]; rfl
theorem sep_lex {w : Str} (hne : w ≠ []) (hw : ∀ c ∈ w, 97 ≤ c.toNat ∧ c.toNat ≤ 122) {k : Nat} (hk : 1 ≤ k) : LexAny (exb k (32 :: (w ++ [32]))) [w] ∧ (exb k (32 :: (w ++ [32]))).head? = some 32 := by
  have e : exb k (32 :: (w ++ [32])) = List.replicate k 32 ++ (w ++ List.replicate k 32) := by
    rw [exb_cons, exb_append, exb_plain k w (noBlank_letters hw), exb_cons, exb_nil, if_pos rfl, List.append_nil]
  rw [e]
  refine ⟨?_, ?_⟩
  · have := LexAny.append (lexAny_blanks k) (lexAny_word hne hw hk)
    simpa using this
  · obtain ⟨j, rfl⟩ : ∃ j, k = j + 1 := ⟨k - 1, by omega⟩
    rfl
theorem lexTo_txt {x : Ex} (h : GT x) (hn : x.okN) {k : Nat} (hk : 1 ≤ k) : ∀ c : Int, LexTo (exb k (x.txt c)) (x.tk c) := by
  have hand := sep_lex (w := wAnd) (by decide) (by decide) hk
  have hor := sep_lex (w := wOr) (by decide) (by decide) hk
  induction h with
  | and l r hl hr il ir =>
    intro c
    have e1 : (Ex.nd 2 [] [] 0 l r).txt c = around (l.txt 2 ++ (wAndS ++ r.txt 3)) (decide (bindsI 2 < c)) := rfl
    have e2 : (Ex.nd 2 [] [] 0 l r).tk c = par (l.tk 2 ++ wAnd :: r.tk 3) (decide (bindsI 2 < c)) := rfl
    rw [e1, e2, exb_around, exb_append, exb_append]
    refine lexTo_par ?_ _ k ⟨l.txt 2 ++ (wAndS ++ r.txt 3), by rw [exb_append, exb_append]⟩
    refine LexTo.append (il hn.2.1 2) (.inl ?_) (LexAny.app_to hand.1 (ir hn.2.2 3))
    have := hand.2
    revert this
    show (exb k wAndS).head? = some 32 → _
    intro h2
    cases he : exb k wAndS with
    | nil => rw [he] at h2; cases h2
    | cons a b => rw [he] at h2; exact h2
  | or l r hl hr il ir =>
    intro c
    have e1 : (Ex.nd 3 [] [] 0 l r).txt c = around (l.txt 1 ++ (wOrS ++ r.txt 2)) (decide (bindsI 3 < c)) := rfl
    have e2 : (Ex.nd 3 [] [] 0 l r).tk c = par (l.tk 1 ++ wOr :: r.tk 2) (decide (bindsI 3 < c)) := rfl
    rw [e1, e2, exb_around, exb_append, exb_append]
    refine lexTo_par ?_ _ k ⟨l.txt 1 ++ (wOrS ++ r.txt 2), by rw [exb_append, exb_append]⟩
    refine LexTo.append (il hn.2.1 1) (.inl ?_) (LexAny.app_to hor.1 (ir hn.2.2 2))
    have := hor.2
    revert this
    show (exb k wOrS).head? = some 32 → _
    intro h2
    cases he : exb k wOrS with
    | nil => rw [he] at h2; cases h2
    | cons a b => rw [he] at h2; exact h2
  | not l hl ih =>
    intro c
    have e1 : (Ex.nd 1 [] [] 0 l .nil).txt c = around (wNotS ++ l.txt 3) (decide (bindsI 1 < c)) := rfl
    have e2 : (Ex.nd 1 [] [] 0 l .nil).tk c = par (wNot :: l.tk 3) (decide (bindsI 1 < c)) := rfl
    rw [e1, e2, exb_around, exb_append]
    refine lexTo_par ?_ _ k ⟨wNotS ++ l.txt 3, by rw [exb_append]⟩
    have hw : exb k wNotS = wNot ++ List.replicate k 32 := by
      show exb k (wNot ++ [32]) = _
      rw [exb_append, exb_plain k wNot (by decide), exb_cons, exb_nil, if_pos rfl, List.append_nil]
    rw [hw]
    exact LexAny.app_to (lexAny_word (w := wNot) (by decide) (by decide) hk) (ih hn.2.1 3)
  | cmp w o n hw ho h0 =>
    intro c
    have e1 : (Ex.nd 4 w o n .nil .nil).txt c = around (w ++ ([32] ++ (o ++ ([32] ++ Lib.itoa n)))) (decide (bindsI 4 < c)) := rfl
    have e2 : (Ex.nd 4 w o n .nil .nil).tk c = par [w, o, Lib.itoa n] (decide (bindsI 4 < c)) := rfl
    obtain ⟨m, rfl⟩ : ∃ m : Nat, n = (m : Int) := ⟨n.toNat, by omega⟩
    obtain ⟨n1, n2⟩ := num_letters hw
    have hom : o ∈ opsL := by simpa using ho
    have ob : ∀ c ∈ o, c ≠ 32 := by
      have : ∀ o ∈ opsL, ∀ c ∈ o, c ≠ 32 := by decide
      exact this o hom
    have hd := decDigits_dig m
    have hb : exb k [32] = List.replicate k 32 := by rw [exb_cons, exb_nil, if_pos rfl, List.append_nil]
    rw [e1, e2, exb_around, exb_append, exb_append, exb_append, exb_append, hb, exb_plain k w (noBlank_letters n2), exb_plain k o ob, Lib.itoa_nonneg, exb_plain k _ (noBlank_dig hd)]
    refine lexTo_par ?_ _ k ⟨w ++ ([32] ++ (o ++ ([32] ++ Lib.decDigits m))), by rw [exb_append, exb_append, exb_append, exb_append, hb, exb_plain k w (noBlank_letters n2), exb_plain k o ob, exb_plain k _ (noBlank_dig hd)]⟩
    have h1 := LexAny.app_to (lexAny_op hom hk) (lexTo_dig (decDigits_ne m) hd)
    have h2 := LexAny.app_to (lexAny_word n1 n2 hk) h1
    simpa only [List.append_assoc, List.cons_append, List.nil_append] using h2
  | flag w hw =>
    intro c
    have e1 : (Ex.nd 5 w [] 0 .nil .nil).txt c = around w (decide (bindsI 5 < c)) := rfl
    have e2 : (Ex.nd 5 w [] 0 .nil .nil).tk c = par [w] (decide (bindsI 5 < c)) := rfl
    obtain ⟨n1, n2⟩ := flag_letters hw
    rw [e1, e2, exb_around, exb_plain k w (noBlank_letters n2)]
    exact lexTo_par (lexTo_word n1 n2) _ k ⟨w, (exb_plain k w (noBlank_letters n2)).symm⟩
  | tru =>
    intro c
    have e1 : (Ex.nd 6 [] [] 0 .nil .nil).txt c = around wTrue (decide (bindsI 6 < c)) := rfl
    have e2 : (Ex.nd 6 [] [] 0 .nil .nil).tk c = par [wTrue] (decide (bindsI 6 < c)) := rfl
    rw [e1, e2, exb_around, exb_plain k wTrue (by decide)]
    exact lexTo_par (lexTo_word (by decide) (by decide)) _ k ⟨wTrue, (exb_plain k wTrue (by decide)).symm⟩
  | fls =>
    intro c
    have e1 : (Ex.nd 7 [] [] 0 .nil .nil).txt c = around wFalse (decide (bindsI 7 < c)) := rfl
    have e2 : (Ex.nd 7 [] [] 0 .nil .nil).tk c = par [wFalse] (decide (bindsI 7 < c)) := rfl
    rw [e1, e2, exb_around, exb_plain k wFalse (by decide)]
    exact lexTo_par (lexTo_word (by decide) (by decide)) _ k ⟨wFalse, (exb_plain k wFalse (by decide)).symm⟩
/-- An expression's text is parsed as it. -/
theorem parse_txt {x : Ex} (h : GT x) (hn : x.okN) (hd : x.depth ≤ 64) : PP .or 0 (lexS (x.txt 0) 0) (.ok x [([], (x.txt 0).length)]) := by
  obtain ⟨A, a1, a2⟩ := lexTo_txt h hn (Nat.le_refl 1) 0 [] 0 (.inl rfl)
  rw [exb_one, List.append_nil, lexS_nil, Nat.zero_add] at a2
  rw [a2]
  have e : x.tk 0 = x.tk 1 := by
    cases x with
    | nil => rfl
    | nd k w o n l r =>
      have h0 : decide (bindsI k < 0) = false := by
        unfold bindsI; split
        · rfl
        split
        · rfl
        split <;> rfl
      simp only [Ex.tk, h0, show decide (bindsI k < 1) = false from by unfold bindsI; split <;> (try split) <;> (try split) <;> rfl]
  exact (round h hn 0 (by omega)).O A _ _ (by rw [a1, e]) (show ([] : Str) ≠ wAnd by decide) (PP.orL_end (show ([] : Str) ≠ wOr by decide))
end Go.AK
namespace Go.AK
open Go Go.RowKit Go.Proofs
set_option linter.unusedVariables false
set_option maxRecDepth 100000
/-! What a parser has read of a text. -/
def tlen (T : List Str) : Nat := (T.map List.length).sum
def wsum (L : List Tok) : Nat := tlen (L.map Prod.fst)
def Ex.ful (x : Ex) (c : Int) : Nat := tlen (x.tk c)
theorem tlen_nil : tlen [] = 0 := rfl
theorem tlen_cons (t : Str) (T : List Str) : tlen (t :: T) = t.length + tlen T := by simp [tlen]
theorem tlen_append (S T : List Str) : tlen (S ++ T) = tlen S + tlen T := by simp [tlen]
theorem wsum_hd (L : List Tok) : wsum L = (hdT L).1.length + wsum L.tail := by
  cases L with
  | nil => rfl
  | cons t L => simp only [wsum, List.map_cons, tlen_cons, hdT_cons, List.tail_cons]
theorem tlen_par (A : List Str) (b : Bool) : tlen (par A b) = tlen A + if b = true then 2 else 0 := by
  cases b with
  | false => rfl
  | true => simp only [par, if_true, tlen_cons, tlen_append, tlen_nil, List.length_cons, List.length_nil]; omega
theorem ful_nd (k : Int) (w o : Str) (n : Int) (l r : Ex) : ∃ m, ∀ c, (Ex.nd k w o n l r).ful c = m + if bindsI k < c then 2 else 0 := by
  refine ⟨tlen (if k = 3 then l.tk 1 ++ wOr :: r.tk 2 else if k = 2 then l.tk 2 ++ wAnd :: r.tk 3 else if k = 1 then wNot :: l.tk 3
      else if k = 4 then [w, o, Lib.itoa n] else if k = 5 then [w] else if k = 6 then [wTrue] else [wFalse]), fun c => ?_⟩
  unfold Ex.ful
  rw [Ex.tk, tlen_par]
  simp only [decide_eq_true_eq]
theorem ful_mono (x : Ex) {c d : Int} (h : c ≤ d) : x.ful c ≤ x.ful d := by
  cases x with
  | nil => exact Nat.le_refl _
  | nd k w o n l r =>
    obtain ⟨m, hm⟩ := ful_nd k w o n l r
    rw [hm, hm]
    split
    · rw [if_pos (by omega)]; omega
    · omega
theorem ful_two (x : Ex) (c d : Int) : x.ful d ≤ x.ful c + 2 := by
  cases x with
  | nil => exact Nat.le_add_right _ _
  | nd k w o n l r =>
    obtain ⟨m, hm⟩ := ful_nd k w o n l r
    rw [hm, hm]
    split <;> split <;> omega
theorem ful_or (l r : Ex) : (Ex.nd 3 [] [] 0 l r).ful 1 = l.ful 1 + 2 + r.ful 2 := by
  have : (Ex.nd 3 [] [] 0 l r).tk 1 = l.tk 1 ++ wOr :: r.tk 2 := rfl
  unfold Ex.ful; rw [this, tlen_append, tlen_cons]; show _ + (2 + _) = _; omega
theorem ful_and (l r : Ex) : (Ex.nd 2 [] [] 0 l r).ful 2 = l.ful 2 + 3 + r.ful 3 := by
  have : (Ex.nd 2 [] [] 0 l r).tk 2 = l.tk 2 ++ wAnd :: r.tk 3 := rfl
  unfold Ex.ful; rw [this, tlen_append, tlen_cons]; show _ + (3 + _) = _; omega
theorem ful_not (l : Ex) : (Ex.nd 1 [] [] 0 l .nil).ful 3 = 3 + l.ful 3 := by
  have : (Ex.nd 1 [] [] 0 l .nil).tk 3 = wNot :: l.tk 3 := rfl
  unfold Ex.ful; rw [this, tlen_cons]; rfl
theorem ful_cmp (w o : Str) (n : Int) : (Ex.nd 4 w o n .nil .nil).ful 3 = w.length + (o.length + (Lib.itoa n).length) := by
  have : (Ex.nd 4 w o n .nil .nil).tk 3 = [w, o, Lib.itoa n] := rfl
  unfold Ex.ful; rw [this, tlen_cons, tlen_cons, tlen_cons, tlen_nil]; rfl
theorem ful_flag (w : Str) : (Ex.nd 5 w [] 0 .nil .nil).ful 3 = w.length := by
  have : (Ex.nd 5 w [] 0 .nil .nil).tk 3 = [w] := rfl
  unfold Ex.ful; rw [this, tlen_cons, tlen_nil]; rfl
/-- Digits. -/
theorem dec_len : ∀ (k : Nat) (d : Str), d.length = k → d ≠ [] → (∀ c ∈ d, isDig c = true) → (Lib.decDigits (valD d)).length ≤ d.length := by
  intro k
  induction k with
  | zero => intro d h h2; exact absurd (List.length_eq_zero_iff.1 h) h2
  | succ k ih =>
    intro d hk hne hd
    obtain ⟨a, c, rfl⟩ : ∃ a c, d = a ++ [c] := ⟨d.dropLast, d.getLast hne, (List.dropLast_concat_getLast hne).symm⟩
    rw [List.length_append] at hk
    simp only [List.length_cons, List.length_nil] at hk
    have hc := hd c (by simp)
    have hc2 : c.toNat - 48 ≤ 9 := by
      unfold isDig at hc
      simp only [Bool.and_eq_true, decide_eq_true_eq] at hc
      omega
    rw [valD_append, Lib.decDigits]
    split
    · simp
    · rename_i h
      have ha : a ≠ [] := by
        intro e; subst e
        have : valD [] = 0 := rfl
        omega
      have := ih a (by omega) ha fun x hx => hd x (by simp [hx])
      rw [show (10 * valD a + (c.toNat - 48)) / 10 = valD a from by omega, List.length_append, List.length_append]
      simp only [List.length_cons, List.length_nil]; omega
/-- A token that begins as a number is one. -/
def DOK (t : Str) : Prop := isDig (t.headD 0) = true → ∀ c ∈ t, isDig c = true
theorem num_len {t : Str} (h : DOK t) (hb : badNum t = false) : (Lib.itoa (valD t : Nat)).length ≤ t.length := by
  rw [Lib.itoa_nonneg]
  cases t with
  | nil => cases hb
  | cons c r =>
    refine dec_len _ _ rfl (by simp) (h ?_)
    show isDig c = true
    cases hc : isDig c with
    | true => rfl
    | false => rw [badNum, hc] at hb; cases hb
/-- What is read. -/
structure Use (L : List Tok) (n : Nat) (c : Int) (r : PR) : Prop where
  ok : ∀ x L', r = .ok x L' → GT x ∧ x.okN ∧ x.ful c + wsum L' ≤ n + wsum L ∧ ∃ k, L' = L.drop k
  err : ∀ p e, r = .err p e → e ≠ 0 ∧ ∃ k, p = (hdT (L.drop k)).2
theorem Use.mono {L L' : List Tok} {n n' : Nat} {c : Int} {r : PR} (h : Use L' n' c r) (hk : ∃ k, L' = L.drop k) (hn : n' + wsum L' ≤ n + wsum L) : Use L n c r := by
  obtain ⟨k, rfl⟩ := hk
  refine ⟨fun x L1 e => ?_, fun p e he => ?_⟩
  · obtain ⟨h1, h2, h3, j, h4⟩ := h.ok x L1 e
    exact ⟨h1, h2, by omega, k + j, by rw [h4, List.drop_drop]⟩
  · obtain ⟨h0, j, h1⟩ := h.err p e he
    exact ⟨h0, k + j, by rw [h1, List.drop_drop]⟩
theorem Use.bind {L : List Tok} {n n1 : Nat} {c c1 : Int} {r : PR} {k : Ex → List Tok → PR} (h : Use L n1 c1 r) (hk : ∀ x L', GT x → x.okN → x.ful c1 + wsum L' ≤ n1 + wsum L → (∃ k, L' = L.drop k) → Use L n c (k x L')) : Use L n c (r.bind k) := by
  cases r with
  | out => exact ⟨nofun, nofun⟩
  | err p e => exact ⟨nofun, fun p' e' he => by cases he; exact h.err _ _ rfl⟩
  | ok x L' =>
    obtain ⟨h1, h2, h3, h4⟩ := h.ok x L' rfl
    exact hk x L' h1 h2 h3 h4
theorem Use.here {L : List Tok} {n : Nat} {c : Int} {e : Int} (h : e ≠ 0) : Use L n c (.err (hdT L).2 e) := ⟨nofun, fun p e' he => by cases he; exact ⟨h, 0, rfl⟩⟩
theorem Use.okk {L L' : List Tok} {n : Nat} {c : Int} {x : Ex} (h1 : GT x) (h2 : x.okN) (h3 : x.ful c + wsum L' ≤ n + wsum L) (h4 : ∃ k, L' = L.drop k) : Use L n c (.ok x L') := ⟨fun y L1 e => by cases e; exact ⟨h1, h2, h3, h4⟩, nofun⟩
theorem tail_drop (L : List Tok) : ∃ k, L.tail = L.drop k := ⟨1, by simp⟩
theorem drop_tail {L L' : List Tok} (h : ∃ k, L' = L.drop k) : ∃ k, L'.tail = L.drop k := by
  obtain ⟨k, rfl⟩ := h
  exact ⟨k + 1, by simp⟩
theorem drop_trans {L L' L2 : List Tok} (h : ∃ k, L' = L.drop k) (h2 : ∃ k, L2 = L'.drop k) : ∃ k, L2 = L.drop k := by
  obtain ⟨k, rfl⟩ := h
  obtain ⟨j, rfl⟩ := h2
  exact ⟨k + j, by rw [List.drop_drop]⟩
theorem dok_drop {L L' : List Tok} (h : ∀ t ∈ L, DOK t.1) (hk : ∃ k, L' = L.drop k) : ∀ t ∈ L', DOK t.1 := by
  obtain ⟨k, rfl⟩ := hk
  exact fun t ht => h t (List.mem_of_mem_drop ht)
theorem dok_hd {L : List Tok} (h : ∀ t ∈ L, DOK t.1) : DOK (hdT L).1 := by
  cases L with
  | nil => intro _ c hc; cases hc
  | cons t L => exact h t (by simp)
def Md.lv : Md → Int
  | .or => 1
  | .orL _ => 1
  | .and => 2
  | .andL _ => 2
  | .not => 3
  | .opd => 3
def Md.st : Md → Nat
  | .orL x => x.ful 1
  | .andL x => x.ful 2
  | _ => 0
def Md.gd : Md → Prop
  | .orL x => GT x ∧ x.okN
  | .andL x => GT x ∧ x.okN
  | _ => True
theorem zero_ok : (-9223372036854775808 : Int) ≤ 0 ∧ (0 : Int) ≤ 9223372036854775807 := by decide
theorem pp_use : ∀ (f : Nat) (m : Md) (o : Nat) (L : List Tok), (∀ t ∈ L, DOK t.1) → m.gd → Use L m.st m.lv (pp false f m o L)
  | 0, _, _, _, _, _ => ⟨nofun, nofun⟩
  | f + 1, .or, o, L, hL, _ => by
    unfold pp
    refine (pp_use f .and o L hL trivial).bind fun x L' h1 h2 h3 h4 => ?_
    refine (pp_use f (.orL x) o L' (dok_drop hL h4) ⟨h1, h2⟩).mono h4 ?_
    have := ful_mono x (show (1 : Int) ≤ 2 by decide)
    simp only [Md.st, Md.lv] at h3 ⊢; omega
  | f + 1, .orL x, o, L, hL, hg => by
    unfold pp
    by_cases hw : (hdT L).1 = wOr
    · rw [if_pos hw, nxt_false]
      have hs := wsum_hd L
      rw [hw] at hs
      have hs : wsum L = 2 + wsum L.tail := hs
      have h0 := (pp_use f .and o L.tail (dok_drop hL (tail_drop L)) trivial).mono (L := L) (n := 0) (tail_drop L) (by simp only [Md.st]; omega)
      have h9 := pp_use f .and o L.tail (dok_drop hL (tail_drop L)) trivial
      cases hr : pp false f .and o L.tail with
      | out => exact ⟨nofun, nofun⟩
      | err p e => rw [hr] at h0; exact ⟨nofun, fun p' e' he => by cases he; exact h0.err _ _ rfl⟩
      | ok y L' =>
        rw [hr] at h9
        obtain ⟨h1, h2, h3, h4⟩ := h9.ok y L' rfl
        have h5 := drop_trans (tail_drop L) h4
        refine (pp_use f (.orL (.nd 3 [] [] 0 x y)) o L' (dok_drop hL h5) ⟨.or x y hg.1 h1, zero_ok, hg.2, h2⟩).mono h5 ?_
        simp only [Md.st, Md.lv, ful_or] at h3 ⊢; omega
    · rw [if_neg hw]
      exact Use.okk hg.1 hg.2 (Nat.le_refl _) ⟨0, rfl⟩
  | f + 1, .and, o, L, hL, _ => by
    unfold pp
    refine (pp_use f .not o L hL trivial).bind fun x L' h1 h2 h3 h4 => ?_
    refine (pp_use f (.andL x) o L' (dok_drop hL h4) ⟨h1, h2⟩).mono h4 ?_
    have := ful_mono x (show (2 : Int) ≤ 3 by decide)
    simp only [Md.st, Md.lv] at h3 ⊢; omega
  | f + 1, .andL x, o, L, hL, hg => by
    unfold pp
    by_cases hw : (hdT L).1 = wAnd
    · rw [if_pos hw, nxt_false]
      have hs := wsum_hd L
      rw [hw] at hs
      have hs : wsum L = 3 + wsum L.tail := hs
      have h9 := pp_use f .not o L.tail (dok_drop hL (tail_drop L)) trivial
      cases hr : pp false f .not o L.tail with
      | out => exact ⟨nofun, nofun⟩
      | err p e =>
        rw [hr] at h9
        obtain ⟨h0, k, hk⟩ := h9.err _ _ rfl
        exact ⟨nofun, fun p' e' he => by cases he; exact ⟨h0, k + 1, by rw [hk]; simp⟩⟩
      | ok y L' =>
        rw [hr] at h9
        obtain ⟨h1, h2, h3, h4⟩ := h9.ok y L' rfl
        have h5 := drop_trans (tail_drop L) h4
        refine (pp_use f (.andL (.nd 2 [] [] 0 x y)) o L' (dok_drop hL h5) ⟨.and x y hg.1 h1, zero_ok, hg.2, h2⟩).mono h5 ?_
        simp only [Md.st, Md.lv, ful_and] at h3 ⊢; omega
    · rw [if_neg hw]
      exact Use.okk hg.1 hg.2 (Nat.le_refl _) ⟨0, rfl⟩
  | f + 1, .not, o, L, hL, _ => by
    unfold pp
    by_cases hw : (hdT L).1 = wNot
    · rw [if_pos hw, nxt_false]
      have hs := wsum_hd L
      rw [hw] at hs
      have hs : wsum L = 3 + wsum L.tail := hs
      have h9 := pp_use f .not o L.tail (dok_drop hL (tail_drop L)) trivial
      cases hr : pp false f .not o L.tail with
      | out => exact ⟨nofun, nofun⟩
      | err p e =>
        rw [hr] at h9
        obtain ⟨h0, k, hk⟩ := h9.err _ _ rfl
        exact ⟨nofun, fun p' e' he => by cases he; exact ⟨h0, k + 1, by rw [hk]; simp⟩⟩
      | ok y L' =>
        rw [hr] at h9
        obtain ⟨h1, h2, h3, h4⟩ := h9.ok y L' rfl
        refine Use.okk (.not y h1) ⟨zero_ok, h2, trivial⟩ ?_ (drop_trans (tail_drop L) h4)
        simp only [Md.st, Md.lv, ful_not] at h3 ⊢; omega
    · rw [if_neg hw]
      exact pp_use f .opd o L hL trivial
  | f + 1, .opd, o, L, hL, _ => by
    unfold pp
    have hs := wsum_hd L
    by_cases hw : (hdT L).1 = [40]
    · rw [if_pos hw]
      by_cases ho : o = 64
      · rw [if_pos ho]; exact Use.here (by decide)
      rw [if_neg ho, nxt_false]
      rw [hw] at hs
      have hs : wsum L = 1 + wsum L.tail := hs
      have h9 := pp_use f .or (o + 1) L.tail (dok_drop hL (tail_drop L)) trivial
      cases hr : pp false f .or (o + 1) L.tail with
      | out => exact ⟨nofun, nofun⟩
      | err p e =>
        rw [hr] at h9
        obtain ⟨h0, k, hk⟩ := h9.err _ _ rfl
        exact ⟨nofun, fun p' e' he => by cases he; exact ⟨h0, k + 1, by rw [hk]; simp⟩⟩
      | ok y L' =>
        rw [hr] at h9
        obtain ⟨h1, h2, h3, h4⟩ := h9.ok y L' rfl
        have h5 := drop_trans (tail_drop L) h4
        show Use L 0 3 (if (hdT L').1 = [41] then _ else _)
        by_cases hc : (hdT L').1 = [41]
        · rw [if_pos hc, nxt_false]
          have hs2 := wsum_hd L'
          rw [hc] at hs2
          have hs2 : wsum L' = 1 + wsum L'.tail := hs2
          refine Use.okk h1 h2 ?_ (drop_tail h5)
          have := ful_two y 1 3
          simp only [Md.st, Md.lv] at h3 ⊢; omega
        · rw [if_neg hc]
          exact (Use.here (by decide)).mono (n' := 0) h5 (by simp only [Md.st, Md.lv] at h3 ⊢; omega)
    · rw [if_neg hw]
      by_cases hb : (hdT L).1 = wTrue ∨ (hdT L).1 = wFalse
      · rw [if_pos hb, nxt_false]
        by_cases ht : (hdT L).1 = wTrue
        · rw [if_pos ht]
          rw [ht] at hs
          have hs : wsum L = 4 + wsum L.tail := hs
          refine Use.okk .tru ⟨zero_ok, trivial, trivial⟩ ?_ (tail_drop L)
          show 4 + _ ≤ 0 + _; omega
        · rw [if_neg ht]
          rcases hb with hb | hb
          · exact absurd hb ht
          rw [hb] at hs
          have hs : wsum L = 5 + wsum L.tail := hs
          refine Use.okk .fls ⟨zero_ok, trivial, trivial⟩ ?_ (tail_drop L)
          show 5 + _ ≤ 0 + _; omega
      rw [if_neg hb]
      by_cases hf : flagsL.contains (hdT L).1 = true
      · rw [if_pos hf, nxt_false]
        refine Use.okk (.flag _ hf) ⟨zero_ok, trivial, trivial⟩ ?_ (tail_drop L)
        simp only [Md.st, Md.lv, ful_flag]; omega
      rw [if_neg hf]
      by_cases hn : numbersL.contains (hdT L).1 = true
      · rw [if_pos hn, nxt_false]
        have d1 := tail_drop L
        by_cases hop : opsL.contains (hdT L.tail).1 = true
        · rw [if_pos hop, nxt_false, pnum]
          have d2 := drop_tail d1
          have hs1 := wsum_hd L.tail
          have hs2 := wsum_hd L.tail.tail
          by_cases hbn : badNum (hdT L.tail.tail).1 = true
          · rw [if_pos hbn]
            exact (Use.here (by decide)).mono (n' := 0) d2 (by omega)
          rw [if_neg hbn]
          by_cases hv : 9223372036854775807 < valD (hdT L.tail.tail).1
          · rw [if_pos hv]
            exact (Use.here (by decide)).mono (n' := 0) d2 (by omega)
          rw [if_neg hv, nxt_false]
          have hnl := num_len (dok_hd (dok_drop hL d2)) (by simpa using hbn)
          refine Use.okk (.cmp _ _ _ hn hop (by omega)) ⟨⟨by omega, by omega⟩, trivial, trivial⟩ ?_ (drop_tail d2)
          simp only [Md.st, Md.lv, ful_cmp]; omega
        · rw [if_neg hop]
          exact (Use.here (by decide)).mono (n' := 0) d1 (by omega)
      rw [if_neg hn]
      split <;> exact Use.here (by decide)
end Go.AK
namespace Go.AK
open Go Go.RowKit Go.Proofs
set_option linter.unusedVariables false
set_option maxRecDepth 100000
/-! How much of a text is no blank. -/
def fullS : Str → Nat
  | [] => 0
  | c :: r => (if c = 32 then 0 else 1) + fullS r
theorem fullS_append : ∀ a b : Str, fullS (a ++ b) = fullS a + fullS b
  | [], b => by simp [fullS]
  | c :: a, b => by rw [List.cons_append, fullS, fullS, fullS_append a b]; omega
theorem fullS_plain : ∀ t : Str, (∀ c ∈ t, c ≠ 32) → fullS t = t.length
  | [], _ => rfl
  | c :: t, h => by
    rw [fullS, if_neg (h c (by simp)), fullS_plain t fun x hx => h x (by simp [hx]), List.length_cons]; omega
theorem fullS_le : ∀ t : Str, fullS t ≤ t.length
  | [] => Nat.le_refl _
  | c :: t => by
    have := fullS_le t
    rw [fullS, List.length_cons]
    split <;> omega
theorem runB_take (lo hi : Nat) : ∀ r : Str, ∀ c ∈ r.take (runB lo hi r), lo ≤ c.toNat ∧ c.toNat ≤ hi
  | [], c, h => by cases h
  | a :: r, c, h => by
    unfold runB at h
    by_cases ha : lo ≤ a.toNat ∧ a.toNat ≤ hi
    · rw [if_pos ha, List.take_succ_cons, List.mem_cons] at h
      rcases h with rfl | h
      · exact ha
      · exact runB_take lo hi r c h
    · rw [if_neg ha] at h; cases h
theorem opLen_of (r : Str) : opLen r = 0 ∨ ∃ t ∈ opsP, t.isPrefixOf r = true ∧ opLen r = t.length := by
  unfold opLen
  have : ∀ (l : List Str) (n : Nat), (∀ t ∈ l, t ∈ opsP) → (n = 0 ∨ ∃ t ∈ opsP, t.isPrefixOf r = true ∧ n = t.length) → (l.foldl (opStep r) n = 0 ∨ ∃ t ∈ opsP, t.isPrefixOf r = true ∧ l.foldl (opStep r) n = t.length) := by
    intro l
    induction l with
    | nil => intro n _ h; exact h
    | cons t l ih =>
      intro n hl h
      refine ih _ (fun u hu => hl u (by simp [hu])) ?_
      unfold opStep
      split
      · rename_i h2; exact .inr ⟨t, hl t (by simp), h2.2, rfl⟩
      · exact h
  exact this _ 0 (fun t ht => ht) (.inl rfl)
/-- What a token is made of. -/
theorem tok_take (r : Str) : (∀ c ∈ r.take (tokLen r), 97 ≤ c.toNat ∧ c.toNat ≤ 122) ∨ (∀ c ∈ r.take (tokLen r), 48 ≤ c.toNat ∧ c.toNat ≤ 57) ∨ r.take (tokLen r) = [] ∨ r.take (tokLen r) ∈ opsP := by
  unfold tokLen
  split
  · exact .inl (runB_take _ _ r)
  split
  · exact .inr (.inl (runB_take _ _ r))
  · rcases opLen_of r with h | ⟨t, ht, hp, h⟩
    · right; right; left; rw [h]; rfl
    · right; right; right
      have := List.prefix_iff_eq_take.1 (List.isPrefixOf_iff_prefix.1 hp)
      rw [h, ← this]; exact ht
theorem tok_dok (r : Str) : DOK (r.take (tokLen r)) ∧ ∀ c ∈ r.take (tokLen r), c ≠ 32 := by
  have h := tok_take r
  generalize r.take (tokLen r) = t at h ⊢
  rcases h with h | h | rfl | h
  · refine ⟨?_, noBlank_letters h⟩
    cases t with
    | nil => intro _ c hc; cases hc
    | cons a t =>
      intro ha
      have h1 := h a (by simp)
      have ha : isDig a = true := ha
      unfold isDig at ha
      simp only [Bool.and_eq_true, decide_eq_true_eq] at ha
      omega
  · refine ⟨fun _ c hc => ?_, noBlank_dig h⟩
    have := h c hc
    unfold isDig; rw [decide_eq_true this.1, decide_eq_true this.2]; rfl
  · exact ⟨fun _ c hc => (nomatch hc), fun c hc => (nomatch hc)⟩
  · have hn : ∀ t ∈ opsP, isDig (t.headD 0) = false ∧ ∀ c ∈ t, c ≠ 32 := by decide
    have := hn t h
    exact ⟨fun e => (by rw [this.1] at e; cases e), this.2⟩
theorem lex_facts : ∀ (f : Nat) (r : Str) (p : Nat), r.length < f → (∀ t ∈ lex f r p, DOK t.1 ∧ t.2 ≤ p + r.length) ∧ wsum (lex f r p) ≤ fullS r
  | 0, _, _, h => by omega
  | f + 1, r, p, h => by
    unfold lex
    split
    · refine ⟨fun t ht => ?_, ?_⟩
      · rw [List.mem_singleton] at ht; subst ht
        exact ⟨fun _ c hc => (nomatch hc), Nat.le_add_right _ _⟩
      · show 0 ≤ _; omega
    rename_i h0
    have hl : 0 < r.length := List.length_pos_iff.2 h0
    split
    · have ⟨h1, h2⟩ := lex_facts f r.tail (p + 1) (by rw [List.length_tail]; omega)
      rw [List.length_tail] at h1
      refine ⟨fun t ht => ⟨(h1 t ht).1, by have := (h1 t ht).2; omega⟩, ?_⟩
      cases r with
      | nil => exact absurd rfl h0
      | cons c r => rw [fullS]; exact Nat.le_trans h2 (Nat.le_add_left _ _)
    rename_i hb
    split
    · refine ⟨fun t ht => ?_, ?_⟩
      · rw [List.mem_singleton] at ht; subst ht
        exact ⟨fun e => absurd (show isDig 63 = true from e) (by decide), Nat.le_add_right _ _⟩
      · cases r with
        | nil => exact absurd rfl h0
        | cons c r =>
          have hc : c ≠ 32 := by intro e; subst e; exact hb rfl
          rw [fullS, if_neg hc]
          show 1 ≤ _; omega
    · have hd : (r.drop (tokLen r)).length = r.length - tokLen r := List.length_drop
      have hle := tokLen_le r
      have ⟨h1, h2⟩ := lex_facts f (r.drop (tokLen r)) (p + tokLen r) (by omega)
      rw [hd] at h1
      have ⟨k1, k2⟩ := tok_dok r
      refine ⟨fun t ht => ?_, ?_⟩
      · rw [List.mem_cons] at ht
        rcases ht with rfl | ht
        · exact ⟨k1, Nat.le_add_right _ _⟩
        · exact ⟨(h1 t ht).1, by have := (h1 t ht).2; omega⟩
      · have e : fullS r = fullS (r.take (tokLen r)) + fullS (r.drop (tokLen r)) := by rw [← fullS_append, List.take_append_drop]
        rw [e, fullS_plain _ k2]
        show tlen ((r.take (tokLen r)) :: _) ≤ _
        rw [tlen_cons]
        exact Nat.add_le_add_left h2 _
theorem lexS_facts (r : Str) (p : Nat) : (∀ t ∈ lexS r p, DOK t.1 ∧ t.2 ≤ p + r.length) ∧ wsum (lexS r p) ≤ fullS r := lex_facts _ r p (Nat.lt_succ_self _)
/-- What a text is parsed as, or where it is wrong. -/
theorem parse_use (s : Str) : (∀ x, parseE s = (x, 0, 0) → GT x ∧ x.okN ∧ x.depth ≤ 64 ∧ x.ful 0 ≤ fullS s) ∧ (∀ x p e, parseE s = (x, p, e) → e ≠ 0 → x = .nil ∧ p ≤ s.length) ∧ ∀ x p, parseE s = (x, p, 0) → p = 0 := by
  by_cases hs : s.length ≤ 8192
  · obtain ⟨r, hr, he⟩ := parseE_pp hs
    have hL := lexS_facts s 0
    have hu : Use (lexS s 0) 0 1 r := by
      obtain ⟨_, f, hf⟩ := hr
      rw [← hf]; exact pp_use f .or 0 _ (fun t ht => (hL.1 t ht).1) trivial
    have hpos : ∀ k, (hdT ((lexS s 0).drop k)).2 ≤ s.length := by
      intro k
      cases hd : (lexS s 0).drop k with
      | nil => exact Nat.zero_le _
      | cons t L =>
        have := (hL.1 t (List.mem_of_mem_drop (hd ▸ List.mem_cons_self))).2
        show t.2 ≤ _; omega
    rw [he]
    cases r with
    | out => exact absurd rfl hr.1
    | err p e =>
      obtain ⟨h0, k, hk⟩ := hu.err p e rfl
      have hp : p ≤ s.length := by rw [hk]; exact hpos k
      refine ⟨fun x h => ?_, fun x p' e' h hn => ?_, fun x p' h => ?_⟩
      · exfalso
        have h3 : e = 0 := by cases h; rfl
        exact h0 h3
      · cases h; exact ⟨rfl, hp⟩
      · exfalso
        have h3 : e = 0 := by cases h; rfl
        exact h0 h3
    | ok x L' =>
      obtain ⟨h1, h2, h3, k, h4⟩ := hu.ok x L' rfl
      have hp : (hdT L').2 ≤ s.length := by rw [h4]; exact hpos k
      have h5 : x.ful 0 ≤ fullS s := by
        have := ful_mono x (show (0 : Int) ≤ 1 by decide)
        have := hL.2
        omega
      show _ ∧ _ ∧ _
      unfold topE
      simp only
      by_cases hw : (hdT L').1 ≠ []
      · rw [if_pos hw]
        refine ⟨fun y h => ?_, fun y p e h hn => ?_, fun y p h => ?_⟩
        · simp only [Prod.mk.injEq] at h; exact absurd h.2.2 (by decide)
        · cases h; exact ⟨rfl, hp⟩
        · simp only [Prod.mk.injEq] at h; exact absurd h.2.2 (by decide)
      rw [if_neg hw]
      by_cases hd : 64 < x.depth
      · rw [if_pos hd]
        refine ⟨fun y h => ?_, fun y p e h hn => ?_, fun y p h => ?_⟩
        · simp only [Prod.mk.injEq] at h; exact absurd h.2.2 (by decide)
        · cases h; exact ⟨rfl, Nat.zero_le _⟩
        · simp only [Prod.mk.injEq] at h; exact absurd h.2.2 (by decide)
      rw [if_neg hd]
      refine ⟨fun y h => ?_, fun y p e h hn => ?_, fun y p h => ?_⟩
      · cases h; exact ⟨h1, h2, by omega, h5⟩
      · cases h; exact absurd rfl hn
      · cases h; rfl
  · have : parseE s = (.nil, 0, 12) := by unfold parseE; rw [if_pos (by omega)]
    rw [this]
    refine ⟨fun y h => ?_, fun y p e h hn => ?_, fun y p h => ?_⟩
    · simp only [Prod.mk.injEq] at h; exact absurd h.2.2 (by decide)
    · cases h; exact ⟨rfl, Nat.zero_le _⟩
    · cases h
/-- The text of an expression. -/
theorem fullS_around (t : Str) (b : Bool) : fullS (around t b) = fullS t + if b = true then 2 else 0 := by
  cases b with
  | false => rfl
  | true => simp only [around, if_true, fullS, fullS_append]; show 1 + (fullS t + (1 + 0)) = _; omega
theorem txt_ful {x : Ex} (h : GT x) : ∀ c : Int, fullS (x.txt c) = x.ful c ∧ (x.txt c).length ≤ 3 * x.ful c := by
  have ar : ∀ (t : Str) (A : List Str) (b : Bool), fullS t = tlen A → t.length ≤ 3 * tlen A → fullS (around t b) = tlen (par A b) ∧ (around t b).length ≤ 3 * tlen (par A b) := by
    intro t A b h1 h2
    rw [fullS_around, tlen_par, h1]
    refine ⟨rfl, ?_⟩
    cases b with
    | false => exact h2
    | true => simp only [around, if_true, List.length_cons, List.length_append, List.length_nil]; omega
  induction h with
  | and l r hl hr il ir =>
    intro c
    have e1 : (Ex.nd 2 [] [] 0 l r).txt c = around (l.txt 2 ++ (wAndS ++ r.txt 3)) (decide (bindsI 2 < c)) := rfl
    have e2 : (Ex.nd 2 [] [] 0 l r).ful c = tlen (par (l.tk 2 ++ wAnd :: r.tk 3) (decide (bindsI 2 < c))) := rfl
    rw [e1, e2]
    have ⟨a1, a2⟩ := il 2
    have ⟨b1, b2⟩ := ir 3
    simp only [Ex.ful] at a1 a2 b1 b2
    refine ar _ _ _ ?_ ?_
    · rw [fullS_append, fullS_append, tlen_append, tlen_cons, a1, b1]; rfl
    · rw [tlen_append, tlen_cons]; simp only [List.length_append, wAndS, wAnd, List.length_cons, List.length_nil]; omega
  | or l r hl hr il ir =>
    intro c
    have e1 : (Ex.nd 3 [] [] 0 l r).txt c = around (l.txt 1 ++ (wOrS ++ r.txt 2)) (decide (bindsI 3 < c)) := rfl
    have e2 : (Ex.nd 3 [] [] 0 l r).ful c = tlen (par (l.tk 1 ++ wOr :: r.tk 2) (decide (bindsI 3 < c))) := rfl
    rw [e1, e2]
    have ⟨a1, a2⟩ := il 1
    have ⟨b1, b2⟩ := ir 2
    simp only [Ex.ful] at a1 a2 b1 b2
    refine ar _ _ _ ?_ ?_
    · rw [fullS_append, fullS_append, tlen_append, tlen_cons, a1, b1]; rfl
    · rw [tlen_append, tlen_cons]; simp only [List.length_append, wOrS, wOr, List.length_cons, List.length_nil]; omega
  | not l hl ih =>
    intro c
    have e1 : (Ex.nd 1 [] [] 0 l .nil).txt c = around (wNotS ++ l.txt 3) (decide (bindsI 1 < c)) := rfl
    have e2 : (Ex.nd 1 [] [] 0 l .nil).ful c = tlen (par (wNot :: l.tk 3) (decide (bindsI 1 < c))) := rfl
    rw [e1, e2]
    have ⟨a1, a2⟩ := ih 3
    simp only [Ex.ful] at a1 a2
    refine ar _ _ _ ?_ ?_
    · rw [fullS_append, tlen_cons, a1]; rfl
    · rw [tlen_cons]; simp only [List.length_append, wNotS, wNot, List.length_cons, List.length_nil]; omega
  | cmp w o n hw ho h0 =>
    intro c
    have e1 : (Ex.nd 4 w o n .nil .nil).txt c = around (w ++ ([32] ++ (o ++ ([32] ++ Lib.itoa n)))) (decide (bindsI 4 < c)) := rfl
    have e2 : (Ex.nd 4 w o n .nil .nil).ful c = tlen (par [w, o, Lib.itoa n] (decide (bindsI 4 < c))) := rfl
    obtain ⟨m, rfl⟩ : ∃ m : Nat, n = (m : Int) := ⟨n.toNat, by omega⟩
    obtain ⟨n1, n2⟩ := num_letters hw
    have hom : o ∈ opsL := by simpa using ho
    have ob : ∀ o ∈ opsL, ∀ c ∈ o, c ≠ 32 := by decide
    have hd := noBlank_dig (decDigits_dig m)
    have hw1 := List.length_pos_iff.2 n1
    rw [e1, e2, Lib.itoa_nonneg]
    refine ar _ _ _ ?_ ?_
    · rw [fullS_append, fullS_append, fullS_append, fullS_append, fullS_plain w (noBlank_letters n2), fullS_plain o (ob o hom), fullS_plain _ hd, tlen_cons, tlen_cons, tlen_cons, tlen_nil]
      show _ + (0 + (_ + (0 + _))) = _; omega
    · rw [tlen_cons, tlen_cons, tlen_cons, tlen_nil]; simp only [List.length_append, List.length_cons, List.length_nil]; omega
  | flag w hw =>
    intro c
    have e1 : (Ex.nd 5 w [] 0 .nil .nil).txt c = around w (decide (bindsI 5 < c)) := rfl
    have e2 : (Ex.nd 5 w [] 0 .nil .nil).ful c = tlen (par [w] (decide (bindsI 5 < c))) := rfl
    obtain ⟨n1, n2⟩ := flag_letters hw
    rw [e1, e2]
    refine ar _ _ _ ?_ ?_
    · rw [fullS_plain w (noBlank_letters n2), tlen_cons, tlen_nil]; rfl
    · rw [tlen_cons, tlen_nil]; omega
  | tru =>
    intro c
    have e1 : (Ex.nd 6 [] [] 0 .nil .nil).txt c = around wTrue (decide (bindsI 6 < c)) := rfl
    have e2 : (Ex.nd 6 [] [] 0 .nil .nil).ful c = tlen (par [wTrue] (decide (bindsI 6 < c))) := rfl
    rw [e1, e2]
    exact ar _ _ _ rfl (by decide)
  | fls =>
    intro c
    have e1 : (Ex.nd 7 [] [] 0 .nil .nil).txt c = around wFalse (decide (bindsI 7 < c)) := rfl
    have e2 : (Ex.nd 7 [] [] 0 .nil .nil).ful c = tlen (par [wFalse] (decide (bindsI 7 < c))) := rfl
    rw [e1, e2]
    exact ar _ _ _ rfl (by decide)
end Go.AK
namespace Go.AK
open Go Go.RowKit Go.Proofs
set_option linter.unusedVariables false
set_option maxRecDepth 100000
/-- A node of a row of nodes. -/
structure Nod where
  k : Int
  w : Str
  o : Str
  n : Int
  l : Int
  r : Int
  deriving Inhabited
def Nod.cells (a : Nod) : List AV := [.i .i64 a.k, .s (sb a.w), .s (sb a.o), .i .i64 a.n, .i .i64 a.l, .i .i64 a.r]
def nods (l : List Nod) : List AV := l.flatMap Nod.cells
theorem nods_length : ∀ l : List Nod, (nods l).length = l.length * 6
  | [] => rfl
  | a :: l => by
    have := nods_length l
    simp only [nods, List.flatMap_cons, List.length_append, List.length_cons] at this ⊢
    rw [this]; simp only [Nod.cells, List.length_cons, List.length_nil]; omega
theorem nods_get : ∀ (l : List Nod) (i j : Nat) (h : i < l.length), j < 6 → (nods l)[i * 6 + j]? = (l[i]).cells[j]?
  | a :: l, 0, j, h, hj => by
    simp only [nods, List.flatMap_cons, Nat.zero_mul, Nat.zero_add, List.getElem_cons_zero]
    rw [List.getElem?_append_left (by simp [Nod.cells]; omega)]
  | a :: l, i + 1, j, h, hj => by
    have := nods_get l i j (by simpa using h) hj
    simp only [nods, List.flatMap_cons, List.getElem_cons_succ] at this ⊢
    rw [List.getElem?_append_right (by simp [Nod.cells]; omega), ← this]
    congr 1
    simp [Nod.cells]; omega
theorem aget_nod {l : List Nod} {i j o : Nat} (ho : o = i * 6 + j) (h : i < l.length) (hj : j < 6) {K : AV → Prop} (hk : aget (l[i]).cells j K) : aget (nods l) o K := by
  subst ho
  unfold aget at hk ⊢
  rw [nods_get l i j h hj]
  exact hk
/-- Are there up to 200, with words of up to 20 bytes? -/
def fewB (l : List Nod) : Bool := (l.take 201).all (fun a => decide (a.w.length ≤ 20) && decide (a.o.length ≤ 20)) && decide (l.length ≤ 200)
theorem few_spec (l : List Nod) (hl : l.length ≤ 9223372036854775807) :
    ACall Tryd.prog 14 [.rs (nods l) 0 6 l.length] [] fun r H => r = .ret (.b (fewB l)) ∧ H = [] := by
  refine ACall.enter tok false Tryd.func14 rfl rfl rfl (AW_sound (ip := false) tok _ _ _ _ ?_)
  conv => whnf
  refine ALoop.ind (ip := false) tok (fun m r H => ∃ (k : Nat), k ≤ l.length ∧ k ≤ 201 ∧ m = 201 - k ∧ (∀ i (h : i < l.length), i < k → (l[i]).w.length ≤ 20 ∧ (l[i]).o.length ≤ 20) ∧ H = [] ∧
    r = [(3, .i .i64 k), (0, .rs (nods l) 0 6 l.length), (2, .b false)]) 201 ?_ ?_
  · exact Gh.regs [3, 0, 2] (Gh.of ⟨0, by omega, by omega, rfl, fun i hi h => by omega, rfl, rfl⟩)
  · rintro m r H ⟨k, hk, hk2, rfl, hall, rfl, rfl⟩
    conv => whnf
    have stop : ¬ (k < l.length ∧ k < 201) → fewB l = decide ((l.length : Int) ≤ 200) := by
      intro hn
      unfold fewB
      by_cases hle : l.length ≤ 200
      · rw [decide_eq_true hle, decide_eq_true (by omega), Bool.and_true, List.take_of_length_le (by omega)]
        rw [List.all_eq_true]
        intro a ha
        obtain ⟨i, hi, rfl⟩ := List.getElem_of_mem ha
        have := hall i hi (by omega)
        simp [this]
      · rw [decide_eq_false hle, decide_eq_false (by omega), Bool.and_false]
    have bad : ∀ h : k < l.length, k < 201 → ¬ ((l[k]).w.length ≤ 20 ∧ (l[k]).o.length ≤ 20) → fewB l = false := by
      intro h h2 hn
      unfold fewB
      by_cases hle : l.length ≤ 200
      · rw [List.take_of_length_le (by omega)]
        have : l.all (fun a => decide (a.w.length ≤ 20) && decide (a.o.length ≤ 20)) = false := by
          rw [List.all_eq_false]
          refine ⟨l[k], List.getElem_mem h, ?_⟩
          simpa using fun h1 => by have := not_and.1 hn h1; omega
        rw [this]; rfl
      · rw [decide_eq_false hle, Bool.and_false]
    by_cases h : (k : Int) < l.length
    · repeat (refine acond_t (decide_eq_true h) ?_; conv => whnf)
      by_cases h2 : (k : Int) < 201
      · repeat (refine acond_t (decide_eq_true h2) ?_; conv => whnf)
        have hkl : k < l.length := by omega
        refine ⟨⟨by omega, h⟩, ?_⟩
        conv => whnf
        refine aget_nod (i := k) (j := 1) (by omega) hkl (by omega) ?_
        conv => whnf
        rw [sb_size]
        by_cases hw : ((l[k]).w.length : Int) > 20
        · repeat (refine acond_t (decide_eq_true hw) ?_; conv => whnf)
          exact ⟨congrArg (fun b => ARes.ret (AV.b b)) (bad hkl (by omega) (by omega)).symm, rfl⟩
        · repeat (refine acond_f (decide_eq_false hw) ?_; conv => whnf)
          refine ⟨⟨by omega, h⟩, ?_⟩
          conv => whnf
          repeat (refine acond_f (decide_eq_false hw) ?_; conv => whnf)
          refine aget_nod (i := k) (j := 2) (by omega) hkl (by omega) ?_
          conv => whnf
          repeat (refine acond_f (decide_eq_false hw) ?_; conv => whnf)
          rw [sb_size]
          by_cases ho : ((l[k]).o.length : Int) > 20
          · repeat (refine acond_t (decide_eq_true ho) ?_; conv => whnf)
            exact ⟨congrArg (fun b => ARes.ret (AV.b b)) (bad hkl (by omega) (by omega)).symm, rfl⟩
          · repeat (refine acond_f (decide_eq_false ho) ?_; conv => whnf)
            refine Gh.regs [3, 0, 2] (Gh.of ⟨201 - (k + 1), by omega, k + 1, by omega, by omega, rfl, fun i hi hi2 => ?_, rfl, ?_⟩)
            · by_cases e : i = k
              · subst e; omega
              · exact hall i hi (by omega)
            · refine congrArg (fun z => (3, AV.i IntKind.i64 z) :: _) ?_
              rw [IntKind.wrap_i64]; omega
      · repeat (refine acond_f (decide_eq_false h2) ?_; conv => whnf)
        exact ⟨congrArg (fun b => ARes.ret (AV.b b)) (stop (by omega)).symm, rfl⟩
    · repeat (refine acond_f (decide_eq_false h) ?_; conv => whnf)
      exact ⟨congrArg (fun b => ARes.ret (AV.b b)) (stop (by omega)).symm, rfl⟩
end Go.AK
namespace Go.AK
open Go Go.RowKit Go.Proofs
set_option linter.unusedVariables false
set_option maxRecDepth 100000
/-! Trees of rows of nodes. -/
theorem subs_nods (l : List Nod) (φ : Nat → Sb) : subs φ (nods l) = nods l := by
  induction l with
  | nil => rfl
  | cons a l ih =>
    simp only [nods, List.flatMap_cons, Nod.cells, List.cons_append, List.nil_append, subs, sub] at ih ⊢
    rw [ih]
def bools (u : List Bool) : List AV := u.map .b
theorem bools_length (u : List Bool) : (bools u).length = u.length := by simp [bools]
theorem bools_set (u : List Bool) (i : Nat) (b : Bool) : (bools u).set i (.b b) = bools (u.set i b) := by simp [bools, List.map_set]
theorem aget_bool {u : List Bool} {i o : Nat} (ho : o = i) (h : i < u.length) {K : AV → Prop} (hk : K (.b (u.getD i false))) : aget (bools u) o K := by
  subst ho
  unfold aget
  rw [show (bools u)[o]? = some (.b (u.getD o false)) from by simp [bools, h, List.getD_eq_getElem?_getD]]
  exact hk
theorem subs_bools (φ : Nat → Sb) : ∀ u : List Bool, subs φ (bools u) = bools u
  | [] => rfl
  | b :: u => by
    have := subs_bools φ u
    simp only [bools, List.map_cons, subs, sub] at this ⊢; rw [this]
/-- May a place be a part's? -/
def freeB (n : Nat) (u : List Bool) (i : Nat) (j : Int) : Bool := decide ((i : Int) < j) && (decide (j < n) && !(u.getD j.toNat false))
def partF (l : List Nod) : Nat → List Bool → Nat → Ex × List Bool
  | 0, u, _ => (.nil, u)
  | f + 1, u, i =>
    if h : i < l.length then
      let a := l[i]
      let p := if freeB l.length u i a.l = true then partF l f (u.set a.l.toNat true) a.l.toNat else (.nil, u)
      let q := if freeB l.length p.2 i a.r = true then partF l f (p.2.set a.r.toNat true) a.r.toNat else (.nil, p.2)
      (.nd a.k a.w a.o a.n p.1 q.1, q.2)
    else (.nil, u)
theorem partF_len (l : List Nod) : ∀ (f : Nat) (u : List Bool) (i : Nat), (partF l f u i).2.length = u.length
  | 0, u, i => rfl
  | f + 1, u, i => by
    unfold partF
    by_cases h : i < l.length
    · rw [dif_pos h]
      have hp : ∀ (v : List Bool) (j : Int), (if freeB l.length v i j = true then partF l f (v.set j.toNat true) j.toNat else (.nil, v)).2.length = v.length := by
        intro v j
        split
        · rw [partF_len l f]; simp
        · rfl
      show (if freeB l.length _ i (l[i]).r = true then _ else _ : Ex × List Bool).2.length = _
      rw [hp, hp]
    · rw [dif_neg h]
theorem partF_nd {l : List Nod} {f i : Nat} {u : List Bool} (h : i < l.length) {p q : Ex × List Bool}
    (hp : p = if freeB l.length u i (l[i]).l = true then partF l f (u.set (l[i]).l.toNat true) (l[i]).l.toNat else (.nil, u))
    (hq : q = if freeB l.length p.2 i (l[i]).r = true then partF l f (p.2.set (l[i]).r.toNat true) (l[i]).r.toNat else (.nil, p.2)) :
    partF l (f + 1) u i = (.nd (l[i]).k (l[i]).w (l[i]).o (l[i]).n p.1 q.1, q.2) := by
  subst hq; subst hp
  rw [partF, dif_pos h]
theorem part_spec (l : List Nod) (hl : l.length < 1000000) : ∀ (f : Nat) (u : List Bool) (i : Nat), u.length = l.length → l.length < i + f →
    ACall Tryd.prog 31 [.rs (nods l) 0 6 l.length, .sl (some (0, 0)) 1 l.length l.length, .i .i64 i] [.c (bools u)] fun R H => R = .ret (partF l f u i).1.av ∧ H = [.c (bools (partF l f u i).2)]
  | 0, u, i, hu, hf => by
    refine ACall.enter tok false Tryd.func31 rfl rfl rfl (AW_sound (ip := false) tok _ _ _ _ ?_)
    conv => whnf
    repeat (first | (refine acond_t (decide_eq_true (show ((i : Nat) : Int) ≥ (l.length : Int) by omega)) ?_; conv => whnf))
    exact ⟨rfl, rfl⟩
  | f + 1, u, i, hu, hf => by
    by_cases hil : i < l.length
    · have hii : ¬ ((i : Nat) : Int) ≥ (l.length : Int) := by omega
      have ih := part_spec l hl f
      obtain ⟨p, hp⟩ : ∃ p, p = if freeB l.length u i (l[i]).l = true then partF l f (u.set (l[i]).l.toNat true) (l[i]).l.toNat else (.nil, u) := ⟨_, rfl⟩
      obtain ⟨q, hq⟩ : ∃ q, q = if freeB l.length p.2 i (l[i]).r = true then partF l f (p.2.set (l[i]).r.toNat true) (l[i]).r.toNat else (.nil, p.2) := ⟨_, rfl⟩
      have hP := partF_nd hil hp hq
      have hpl : p.2.length = l.length := by
        rw [hp]; split
        · rw [partF_len]; simp [hu]
        · exact hu
      have hsn : ∀ (φ : Nat → Sb), subs φ (nods l) = nods l := subs_nods l
      -- the calls of its parts, and what lies beside them
      have callL : ∀ (v : List Bool) (j : Int) (C : List AV) (x : Ex) (w2 : List Bool), v.length = l.length → (i : Int) < j → (x, w2) = partF l f v j.toNat → (∀ φ, subs φ C = C) →
          ACall Tryd.prog 31 [.rs (nods l) 0 6 l.length, .sl (some (0, 0)) 1 l.length l.length, .i .i64 j] [.c (bools v), .c C] fun R H => R = .ret x.av ∧ H = [.c (bools w2), .c C] := by
        intro v j C x w2 hv hj hx hC
        obtain ⟨J, rfl⟩ : ∃ J : Nat, j = (J : Int) := ⟨j.toNat, by omega⟩
        rw [Int.toNat_natCast] at hx
        refine ACall.frameH [0] [] rfl (args' := [.rs (nods l) 0 6 l.length, .sl (some (0, 0)) 1 l.length l.length, .i .i64 J]) (Hc := [.c (bools v)]) (by show [AV.rs (subs _ (nods l)) 0 6 l.length, _, _] = _; rw [hsn]; rfl) (by show [Blk.c (subs _ (bools v))] = _; rw [subs_bools]) (ih v J hv (by omega)) ?_
        rintro R H ⟨rfl, rfl⟩
        refine ⟨.inl rfl, [.c (bools w2), .c C], ?_, ?_, rfl⟩
        · show [Blk.c (subs _ (bools _)), Blk.c C] = _
          rw [subs_bools, ← hx]
        · rw [← hx]; exact congrArg ARes.ret (sub_av _ _)
      obtain ⟨x1, u1⟩ := p
      obtain ⟨x2, u2⟩ := q
      replace hq : (x2, u2) = if freeB l.length u1 i (l[i]).r = true then partF l f (u1.set (l[i]).r.toNat true) (l[i]).r.toNat else (.nil, u1) := hq
      replace hpl : u1.length = l.length := hpl
      have hset : ∀ (v : List Bool) (j : Int) (C : List AV), [Blk.c (setCells (bools v) (0 + j.toNat * 1) (AV.b true).cells), Blk.c C] = [.c (bools (v.set j.toNat true)), .c C] := by
        intro v j C
        show [Blk.c ((bools v).set (0 + j.toNat * 1) (.b true)), _] = _
        rw [Nat.zero_add, Nat.mul_one, bools_set]
      have hav : ∀ (x : Ex) (φ : Nat → Sb), sub φ x.av = x.av := fun x φ => sub_av φ x
      rw [hP]
      refine ACall.gh ?_
      refine ACall.enter tok false Tryd.func31 rfl rfl rfl (AW_sound (ip := false) tok _ _ _ _ ?_)
      conv => whnf
      repeat (first | (refine acond_f (decide_eq_false hii) ?_; conv => whnf))
      refine ADraw.of tok mixed false [0, 1, 2, 3, 4, 5, 6, 7, 8, 9, 10, 11, 12, 13, 14, 15, 16, 17, 18, 19, 20] [21, 22] (by kernel_rfl) (fun _ _ _ _ h => h) ?_
      conv => whnf
      refine ⟨⟨by omega, by omega⟩, ?_⟩
      conv => whnf
      refine aget_nod (i := i) (j := 0) (by omega) hil (by omega) ?_
      conv => whnf
      refine ⟨⟨by omega, by omega⟩, ?_⟩
      conv => whnf
      refine aget_nod (i := i) (j := 1) (by omega) hil (by omega) ?_
      conv => whnf
      refine ⟨⟨by omega, by omega⟩, ?_⟩
      conv => whnf
      refine aget_nod (i := i) (j := 2) (by omega) hil (by omega) ?_
      conv => whnf
      refine ⟨⟨by omega, by omega⟩, ?_⟩
      conv => whnf
      refine aget_nod (i := i) (j := 3) (by omega) hil (by omega) ?_
      conv => whnf
      refine ⟨⟨by omega, by omega⟩, ?_⟩
      conv => whnf
      refine aget_nod (i := i) (j := 4) (by omega) hil (by omega) ?_
      conv => whnf
      by_cases d41 : (l[i]).l > (i : Int)
      · repeat (first | (refine acond_t (decide_eq_true d41) ?_; conv => whnf))
        refine ⟨⟨by omega, by omega⟩, ?_⟩
        conv => whnf
        repeat (first | (refine acond_t (decide_eq_true d41) ?_; conv => whnf))
        refine aget_nod (i := i) (j := 4) (by omega) hil (by omega) ?_
        conv => whnf
        repeat (first | (refine acond_t (decide_eq_true d41) ?_; conv => whnf))
        by_cases d42 : (l[i]).l < (l.length : Int)
        · repeat (first | (refine acond_t (decide_eq_true d41) ?_; conv => whnf) | (refine acond_t (decide_eq_true d42) ?_; conv => whnf))
          refine ⟨⟨by omega, by omega⟩, ?_⟩
          conv => whnf
          repeat (first | (refine acond_t (decide_eq_true d41) ?_; conv => whnf) | (refine acond_t (decide_eq_true d42) ?_; conv => whnf))
          refine aget_nod (i := i) (j := 4) (by omega) hil (by omega) ?_
          conv => whnf
          repeat (first | (refine acond_t (decide_eq_true d41) ?_; conv => whnf) | (refine acond_t (decide_eq_true d42) ?_; conv => whnf))
          refine ⟨⟨by omega, by omega⟩, ?_⟩
          conv => whnf
          repeat (first | (refine acond_t (decide_eq_true d41) ?_; conv => whnf) | (refine acond_t (decide_eq_true d42) ?_; conv => whnf))
          refine aget_bool (i := (l[i]).l.toNat) (by omega) (by omega) ?_
          conv => whnf
          cases e4 : u.getD (l[i]).l.toNat false with
          | false =>
            repeat (first | (refine acond_t (decide_eq_true d41) ?_; conv => whnf) | (refine acond_t (decide_eq_true d42) ?_; conv => whnf) | (refine acond_t ((show (!false) = true from rfl)) ?_; conv => whnf))
            have hf4 : freeB l.length u i (l[i]).l = true := by unfold freeB; rw [decide_eq_true d41, decide_eq_true d42, e4]; rfl
            rw [if_pos hf4] at hp
            refine ⟨⟨by omega, by omega⟩, ?_⟩
            conv => whnf
            refine aget_nod (i := i) (j := 4) (by omega) hil (by omega) ?_
            conv => whnf
            refine ⟨⟨by omega, by omega⟩, ?_⟩
            conv => whnf
            refine ⟨by show 0 + (l[i]).l.toNat * 1 + 1 ≤ _; rw [bools_length]; omega, ?_⟩
            conv => whnf
            refine ⟨⟨by omega, by omega⟩, ?_⟩
            conv => whnf
            refine aget_nod (i := i) (j := 4) (by omega) hil (by omega) ?_
            conv => whnf
            refine ACall.heq (hset u (l[i]).l [.i .i64 (l[i]).k, .s (sb (l[i]).w), .s (sb (l[i]).o), .i .i64 (l[i]).n, .p none, .p none]) ?_
            refine ACall.mono (callL _ (l[i]).l [.i .i64 (l[i]).k, .s (sb (l[i]).w), .s (sb (l[i]).o), .i .i64 (l[i]).n, .p none, .p none] x1 u1 (by rw [List.length_set]; exact hu) d41 hp (fun φ => rfl)) ?_
            rintro R H ⟨rfl, rfl⟩
            cases x1 <;> (
              conv => whnf
              refine ⟨Nat.le_of_ble_eq_true rfl, ?_⟩
              conv => whnf
              refine ⟨⟨by omega, by omega⟩, ?_⟩
              conv => whnf
              refine aget_nod (i := i) (j := 5) (by omega) hil (by omega) ?_
              conv => whnf
              by_cases d51 : (l[i]).r > (i : Int)
              · repeat (first | (refine acond_t (decide_eq_true d51) ?_; conv => whnf))
                refine ⟨⟨by omega, by omega⟩, ?_⟩
                conv => whnf
                repeat (first | (refine acond_t (decide_eq_true d51) ?_; conv => whnf))
                refine aget_nod (i := i) (j := 5) (by omega) hil (by omega) ?_
                conv => whnf
                repeat (first | (refine acond_t (decide_eq_true d51) ?_; conv => whnf))
                by_cases d52 : (l[i]).r < (l.length : Int)
                · repeat (first | (refine acond_t (decide_eq_true d51) ?_; conv => whnf) | (refine acond_t (decide_eq_true d52) ?_; conv => whnf))
                  refine ⟨⟨by omega, by omega⟩, ?_⟩
                  conv => whnf
                  repeat (first | (refine acond_t (decide_eq_true d51) ?_; conv => whnf) | (refine acond_t (decide_eq_true d52) ?_; conv => whnf))
                  refine aget_nod (i := i) (j := 5) (by omega) hil (by omega) ?_
                  conv => whnf
                  repeat (first | (refine acond_t (decide_eq_true d51) ?_; conv => whnf) | (refine acond_t (decide_eq_true d52) ?_; conv => whnf))
                  refine ⟨⟨by omega, by omega⟩, ?_⟩
                  conv => whnf
                  repeat (first | (refine acond_t (decide_eq_true d51) ?_; conv => whnf) | (refine acond_t (decide_eq_true d52) ?_; conv => whnf))
                  refine aget_bool (i := (l[i]).r.toNat) (by omega) (by omega) ?_
                  conv => whnf
                  cases e5 : u1.getD (l[i]).r.toNat false with
                  | false =>
                    repeat (first | (refine acond_t (decide_eq_true d51) ?_; conv => whnf) | (refine acond_t (decide_eq_true d52) ?_; conv => whnf) | (refine acond_t ((show (!false) = true from rfl)) ?_; conv => whnf))
                    have hf5 : freeB l.length u1 i (l[i]).r = true := by unfold freeB; rw [decide_eq_true d51, decide_eq_true d52, e5]; rfl
                    rw [if_pos hf5] at hq
                    refine ⟨⟨by omega, by omega⟩, ?_⟩
                    conv => whnf
                    refine aget_nod (i := i) (j := 5) (by omega) hil (by omega) ?_
                    conv => whnf
                    refine ⟨⟨by omega, by omega⟩, ?_⟩
                    conv => whnf
                    refine ⟨by show 0 + (l[i]).r.toNat * 1 + 1 ≤ _; rw [bools_length]; omega, ?_⟩
                    conv => whnf
                    refine ⟨⟨by omega, by omega⟩, ?_⟩
                    conv => whnf
                    refine aget_nod (i := i) (j := 5) (by omega) hil (by omega) ?_
                    conv => whnf
                    refine ACall.heq (hset u1 (l[i]).r [.i .i64 (l[i]).k, .s (sb (l[i]).w), .s (sb (l[i]).o), .i .i64 (l[i]).n, Ex.av _, .p none]) ?_
                    refine ACall.mono (callL _ (l[i]).r [.i .i64 (l[i]).k, .s (sb (l[i]).w), .s (sb (l[i]).o), .i .i64 (l[i]).n, Ex.av _, .p none] x2 u2 (by rw [List.length_set]; exact hpl) d51 hq (fun φ => by show [_, _, _, _, sub φ (Ex.av _), _] = _; rw [hav]; rfl)) ?_
                    rintro R H ⟨rfl, rfl⟩
                    cases x2 <;> (
                      conv => whnf
                      refine ⟨Nat.le_of_ble_eq_true rfl, ?_⟩
                      conv => whnf
                      refine GhR.frz 1 rfl (GhR.sel [0] rfl (GhR.of ⟨?_, ?_⟩))
                      · refine Eq.trans ?_ (congrArg ARes.ret (sub_av (selφ [0]) _))
                        rfl
                      · show [Blk.c (subs _ (subs _ (bools _)))] = _
                        rw [subs_bools, subs_bools])
                  | true =>
                    repeat (first | (refine acond_t (decide_eq_true d51) ?_; conv => whnf) | (refine acond_t (decide_eq_true d52) ?_; conv => whnf) | (refine acond_f ((show (!true) = false from rfl)) ?_; conv => whnf))
                    have hf5 : freeB l.length u1 i (l[i]).r = false := by unfold freeB; rw [e5]; simp
                    rw [if_neg (by rw [hf5]; decide)] at hq
                    obtain ⟨rfl, rfl⟩ := Prod.mk.inj hq
                    refine GhR.frz 1 rfl (GhR.sel [0] rfl (GhR.of ⟨?_, ?_⟩))
                    · refine Eq.trans ?_ (congrArg ARes.ret (sub_av (selφ [0]) _))
                      rfl
                    · show [Blk.c (subs _ (subs _ (bools _)))] = _
                      rw [subs_bools, subs_bools]

                · repeat (first | (refine acond_t (decide_eq_true d51) ?_; conv => whnf) | (refine acond_f (decide_eq_false d52) ?_; conv => whnf))
                  have hf5 : freeB l.length u1 i (l[i]).r = false := by unfold freeB; rw [decide_eq_false d52, Bool.false_and, Bool.and_false]
                  rw [if_neg (by rw [hf5]; decide)] at hq
                  obtain ⟨rfl, rfl⟩ := Prod.mk.inj hq
                  refine GhR.frz 1 rfl (GhR.sel [0] rfl (GhR.of ⟨?_, ?_⟩))
                  · refine Eq.trans ?_ (congrArg ARes.ret (sub_av (selφ [0]) _))
                    rfl
                  · show [Blk.c (subs _ (subs _ (bools _)))] = _
                    rw [subs_bools, subs_bools]

              · repeat (first | (refine acond_f (decide_eq_false d51) ?_; conv => whnf))
                have hf5 : freeB l.length u1 i (l[i]).r = false := by unfold freeB; rw [decide_eq_false d51, Bool.false_and]
                rw [if_neg (by rw [hf5]; decide)] at hq
                obtain ⟨rfl, rfl⟩ := Prod.mk.inj hq
                refine GhR.frz 1 rfl (GhR.sel [0] rfl (GhR.of ⟨?_, ?_⟩))
                · refine Eq.trans ?_ (congrArg ARes.ret (sub_av (selφ [0]) _))
                  rfl
                · show [Blk.c (subs _ (subs _ (bools _)))] = _
                  rw [subs_bools, subs_bools])
          | true =>
            repeat (first | (refine acond_t (decide_eq_true d41) ?_; conv => whnf) | (refine acond_t (decide_eq_true d42) ?_; conv => whnf) | (refine acond_f ((show (!true) = false from rfl)) ?_; conv => whnf))
            have hf4 : freeB l.length u i (l[i]).l = false := by unfold freeB; rw [e4]; simp
            rw [if_neg (by rw [hf4]; decide)] at hp
            obtain ⟨rfl, rfl⟩ := Prod.mk.inj hp
            refine ⟨⟨by omega, by omega⟩, ?_⟩
            conv => whnf
            refine aget_nod (i := i) (j := 5) (by omega) hil (by omega) ?_
            conv => whnf
            by_cases d51 : (l[i]).r > (i : Int)
            · repeat (first | (refine acond_t (decide_eq_true d51) ?_; conv => whnf))
              refine ⟨⟨by omega, by omega⟩, ?_⟩
              conv => whnf
              repeat (first | (refine acond_t (decide_eq_true d51) ?_; conv => whnf))
              refine aget_nod (i := i) (j := 5) (by omega) hil (by omega) ?_
              conv => whnf
              repeat (first | (refine acond_t (decide_eq_true d51) ?_; conv => whnf))
              by_cases d52 : (l[i]).r < (l.length : Int)
              · repeat (first | (refine acond_t (decide_eq_true d51) ?_; conv => whnf) | (refine acond_t (decide_eq_true d52) ?_; conv => whnf))
                refine ⟨⟨by omega, by omega⟩, ?_⟩
                conv => whnf
                repeat (first | (refine acond_t (decide_eq_true d51) ?_; conv => whnf) | (refine acond_t (decide_eq_true d52) ?_; conv => whnf))
                refine aget_nod (i := i) (j := 5) (by omega) hil (by omega) ?_
                conv => whnf
                repeat (first | (refine acond_t (decide_eq_true d51) ?_; conv => whnf) | (refine acond_t (decide_eq_true d52) ?_; conv => whnf))
                refine ⟨⟨by omega, by omega⟩, ?_⟩
                conv => whnf
                repeat (first | (refine acond_t (decide_eq_true d51) ?_; conv => whnf) | (refine acond_t (decide_eq_true d52) ?_; conv => whnf))
                refine aget_bool (i := (l[i]).r.toNat) (by omega) (by omega) ?_
                conv => whnf
                cases e5 : u1.getD (l[i]).r.toNat false with
                | false =>
                  repeat (first | (refine acond_t (decide_eq_true d51) ?_; conv => whnf) | (refine acond_t (decide_eq_true d52) ?_; conv => whnf) | (refine acond_t ((show (!false) = true from rfl)) ?_; conv => whnf))
                  have hf5 : freeB l.length u1 i (l[i]).r = true := by unfold freeB; rw [decide_eq_true d51, decide_eq_true d52, e5]; rfl
                  rw [if_pos hf5] at hq
                  refine ⟨⟨by omega, by omega⟩, ?_⟩
                  conv => whnf
                  refine aget_nod (i := i) (j := 5) (by omega) hil (by omega) ?_
                  conv => whnf
                  refine ⟨⟨by omega, by omega⟩, ?_⟩
                  conv => whnf
                  refine ⟨by show 0 + (l[i]).r.toNat * 1 + 1 ≤ _; rw [bools_length]; omega, ?_⟩
                  conv => whnf
                  refine ⟨⟨by omega, by omega⟩, ?_⟩
                  conv => whnf
                  refine aget_nod (i := i) (j := 5) (by omega) hil (by omega) ?_
                  conv => whnf
                  refine ACall.heq (hset u1 (l[i]).r [.i .i64 (l[i]).k, .s (sb (l[i]).w), .s (sb (l[i]).o), .i .i64 (l[i]).n, Ex.av .nil, .p none]) ?_
                  refine ACall.mono (callL _ (l[i]).r [.i .i64 (l[i]).k, .s (sb (l[i]).w), .s (sb (l[i]).o), .i .i64 (l[i]).n, Ex.av .nil, .p none] x2 u2 (by rw [List.length_set]; exact hpl) d51 hq (fun φ => by show [_, _, _, _, sub φ (Ex.av .nil), _] = _; rw [hav]; rfl)) ?_
                  rintro R H ⟨rfl, rfl⟩
                  cases x2 <;> (
                    conv => whnf
                    refine ⟨Nat.le_of_ble_eq_true rfl, ?_⟩
                    conv => whnf
                    refine GhR.frz 1 rfl (GhR.sel [0] rfl (GhR.of ⟨?_, ?_⟩))
                    · refine Eq.trans ?_ (congrArg ARes.ret (sub_av (selφ [0]) _))
                      rfl
                    · show [Blk.c (subs _ (subs _ (bools _)))] = _
                      rw [subs_bools, subs_bools])
                | true =>
                  repeat (first | (refine acond_t (decide_eq_true d51) ?_; conv => whnf) | (refine acond_t (decide_eq_true d52) ?_; conv => whnf) | (refine acond_f ((show (!true) = false from rfl)) ?_; conv => whnf))
                  have hf5 : freeB l.length u1 i (l[i]).r = false := by unfold freeB; rw [e5]; simp
                  rw [if_neg (by rw [hf5]; decide)] at hq
                  obtain ⟨rfl, rfl⟩ := Prod.mk.inj hq
                  refine GhR.frz 1 rfl (GhR.sel [0] rfl (GhR.of ⟨?_, ?_⟩))
                  · refine Eq.trans ?_ (congrArg ARes.ret (sub_av (selφ [0]) _))
                    rfl
                  · show [Blk.c (subs _ (subs _ (bools _)))] = _
                    rw [subs_bools, subs_bools]

              · repeat (first | (refine acond_t (decide_eq_true d51) ?_; conv => whnf) | (refine acond_f (decide_eq_false d52) ?_; conv => whnf))
                have hf5 : freeB l.length u1 i (l[i]).r = false := by unfold freeB; rw [decide_eq_false d52, Bool.false_and, Bool.and_false]
                rw [if_neg (by rw [hf5]; decide)] at hq
                obtain ⟨rfl, rfl⟩ := Prod.mk.inj hq
                refine GhR.frz 1 rfl (GhR.sel [0] rfl (GhR.of ⟨?_, ?_⟩))
                · refine Eq.trans ?_ (congrArg ARes.ret (sub_av (selφ [0]) _))
                  rfl
                · show [Blk.c (subs _ (subs _ (bools _)))] = _
                  rw [subs_bools, subs_bools]

            · repeat (first | (refine acond_f (decide_eq_false d51) ?_; conv => whnf))
              have hf5 : freeB l.length u1 i (l[i]).r = false := by unfold freeB; rw [decide_eq_false d51, Bool.false_and]
              rw [if_neg (by rw [hf5]; decide)] at hq
              obtain ⟨rfl, rfl⟩ := Prod.mk.inj hq
              refine GhR.frz 1 rfl (GhR.sel [0] rfl (GhR.of ⟨?_, ?_⟩))
              · refine Eq.trans ?_ (congrArg ARes.ret (sub_av (selφ [0]) _))
                rfl
              · show [Blk.c (subs _ (subs _ (bools _)))] = _
                rw [subs_bools, subs_bools]

        · repeat (first | (refine acond_t (decide_eq_true d41) ?_; conv => whnf) | (refine acond_f (decide_eq_false d42) ?_; conv => whnf))
          have hf4 : freeB l.length u i (l[i]).l = false := by unfold freeB; rw [decide_eq_false d42, Bool.false_and, Bool.and_false]
          rw [if_neg (by rw [hf4]; decide)] at hp
          obtain ⟨rfl, rfl⟩ := Prod.mk.inj hp
          refine ⟨⟨by omega, by omega⟩, ?_⟩
          conv => whnf
          refine aget_nod (i := i) (j := 5) (by omega) hil (by omega) ?_
          conv => whnf
          by_cases d51 : (l[i]).r > (i : Int)
          · repeat (first | (refine acond_t (decide_eq_true d51) ?_; conv => whnf))
            refine ⟨⟨by omega, by omega⟩, ?_⟩
            conv => whnf
            repeat (first | (refine acond_t (decide_eq_true d51) ?_; conv => whnf))
            refine aget_nod (i := i) (j := 5) (by omega) hil (by omega) ?_
            conv => whnf
            repeat (first | (refine acond_t (decide_eq_true d51) ?_; conv => whnf))
            by_cases d52 : (l[i]).r < (l.length : Int)
            · repeat (first | (refine acond_t (decide_eq_true d51) ?_; conv => whnf) | (refine acond_t (decide_eq_true d52) ?_; conv => whnf))
              refine ⟨⟨by omega, by omega⟩, ?_⟩
              conv => whnf
              repeat (first | (refine acond_t (decide_eq_true d51) ?_; conv => whnf) | (refine acond_t (decide_eq_true d52) ?_; conv => whnf))
              refine aget_nod (i := i) (j := 5) (by omega) hil (by omega) ?_
              conv => whnf
              repeat (first | (refine acond_t (decide_eq_true d51) ?_; conv => whnf) | (refine acond_t (decide_eq_true d52) ?_; conv => whnf))
              refine ⟨⟨by omega, by omega⟩, ?_⟩
              conv => whnf
              repeat (first | (refine acond_t (decide_eq_true d51) ?_; conv => whnf) | (refine acond_t (decide_eq_true d52) ?_; conv => whnf))
              refine aget_bool (i := (l[i]).r.toNat) (by omega) (by omega) ?_
              conv => whnf
              cases e5 : u1.getD (l[i]).r.toNat false with
              | false =>
                repeat (first | (refine acond_t (decide_eq_true d51) ?_; conv => whnf) | (refine acond_t (decide_eq_true d52) ?_; conv => whnf) | (refine acond_t ((show (!false) = true from rfl)) ?_; conv => whnf))
                have hf5 : freeB l.length u1 i (l[i]).r = true := by unfold freeB; rw [decide_eq_true d51, decide_eq_true d52, e5]; rfl
                rw [if_pos hf5] at hq
                refine ⟨⟨by omega, by omega⟩, ?_⟩
                conv => whnf
                refine aget_nod (i := i) (j := 5) (by omega) hil (by omega) ?_
                conv => whnf
                refine ⟨⟨by omega, by omega⟩, ?_⟩
                conv => whnf
                refine ⟨by show 0 + (l[i]).r.toNat * 1 + 1 ≤ _; rw [bools_length]; omega, ?_⟩
                conv => whnf
                refine ⟨⟨by omega, by omega⟩, ?_⟩
                conv => whnf
                refine aget_nod (i := i) (j := 5) (by omega) hil (by omega) ?_
                conv => whnf
                refine ACall.heq (hset u1 (l[i]).r [.i .i64 (l[i]).k, .s (sb (l[i]).w), .s (sb (l[i]).o), .i .i64 (l[i]).n, Ex.av .nil, .p none]) ?_
                refine ACall.mono (callL _ (l[i]).r [.i .i64 (l[i]).k, .s (sb (l[i]).w), .s (sb (l[i]).o), .i .i64 (l[i]).n, Ex.av .nil, .p none] x2 u2 (by rw [List.length_set]; exact hpl) d51 hq (fun φ => by show [_, _, _, _, sub φ (Ex.av .nil), _] = _; rw [hav]; rfl)) ?_
                rintro R H ⟨rfl, rfl⟩
                cases x2 <;> (
                  conv => whnf
                  refine ⟨Nat.le_of_ble_eq_true rfl, ?_⟩
                  conv => whnf
                  refine GhR.frz 1 rfl (GhR.sel [0] rfl (GhR.of ⟨?_, ?_⟩))
                  · refine Eq.trans ?_ (congrArg ARes.ret (sub_av (selφ [0]) _))
                    rfl
                  · show [Blk.c (subs _ (subs _ (bools _)))] = _
                    rw [subs_bools, subs_bools])
              | true =>
                repeat (first | (refine acond_t (decide_eq_true d51) ?_; conv => whnf) | (refine acond_t (decide_eq_true d52) ?_; conv => whnf) | (refine acond_f ((show (!true) = false from rfl)) ?_; conv => whnf))
                have hf5 : freeB l.length u1 i (l[i]).r = false := by unfold freeB; rw [e5]; simp
                rw [if_neg (by rw [hf5]; decide)] at hq
                obtain ⟨rfl, rfl⟩ := Prod.mk.inj hq
                refine GhR.frz 1 rfl (GhR.sel [0] rfl (GhR.of ⟨?_, ?_⟩))
                · refine Eq.trans ?_ (congrArg ARes.ret (sub_av (selφ [0]) _))
                  rfl
                · show [Blk.c (subs _ (subs _ (bools _)))] = _
                  rw [subs_bools, subs_bools]

            · repeat (first | (refine acond_t (decide_eq_true d51) ?_; conv => whnf) | (refine acond_f (decide_eq_false d52) ?_; conv => whnf))
              have hf5 : freeB l.length u1 i (l[i]).r = false := by unfold freeB; rw [decide_eq_false d52, Bool.false_and, Bool.and_false]
              rw [if_neg (by rw [hf5]; decide)] at hq
              obtain ⟨rfl, rfl⟩ := Prod.mk.inj hq
              refine GhR.frz 1 rfl (GhR.sel [0] rfl (GhR.of ⟨?_, ?_⟩))
              · refine Eq.trans ?_ (congrArg ARes.ret (sub_av (selφ [0]) _))
                rfl
              · show [Blk.c (subs _ (subs _ (bools _)))] = _
                rw [subs_bools, subs_bools]

          · repeat (first | (refine acond_f (decide_eq_false d51) ?_; conv => whnf))
            have hf5 : freeB l.length u1 i (l[i]).r = false := by unfold freeB; rw [decide_eq_false d51, Bool.false_and]
            rw [if_neg (by rw [hf5]; decide)] at hq
            obtain ⟨rfl, rfl⟩ := Prod.mk.inj hq
            refine GhR.frz 1 rfl (GhR.sel [0] rfl (GhR.of ⟨?_, ?_⟩))
            · refine Eq.trans ?_ (congrArg ARes.ret (sub_av (selφ [0]) _))
              rfl
            · show [Blk.c (subs _ (subs _ (bools _)))] = _
              rw [subs_bools, subs_bools]

      · repeat (first | (refine acond_f (decide_eq_false d41) ?_; conv => whnf))
        have hf4 : freeB l.length u i (l[i]).l = false := by unfold freeB; rw [decide_eq_false d41, Bool.false_and]
        rw [if_neg (by rw [hf4]; decide)] at hp
        obtain ⟨rfl, rfl⟩ := Prod.mk.inj hp
        refine ⟨⟨by omega, by omega⟩, ?_⟩
        conv => whnf
        refine aget_nod (i := i) (j := 5) (by omega) hil (by omega) ?_
        conv => whnf
        by_cases d51 : (l[i]).r > (i : Int)
        · repeat (first | (refine acond_t (decide_eq_true d51) ?_; conv => whnf))
          refine ⟨⟨by omega, by omega⟩, ?_⟩
          conv => whnf
          repeat (first | (refine acond_t (decide_eq_true d51) ?_; conv => whnf))
          refine aget_nod (i := i) (j := 5) (by omega) hil (by omega) ?_
          conv => whnf
          repeat (first | (refine acond_t (decide_eq_true d51) ?_; conv => whnf))
          by_cases d52 : (l[i]).r < (l.length : Int)
          · repeat (first | (refine acond_t (decide_eq_true d51) ?_; conv => whnf) | (refine acond_t (decide_eq_true d52) ?_; conv => whnf))
            refine ⟨⟨by omega, by omega⟩, ?_⟩
            conv => whnf
            repeat (first | (refine acond_t (decide_eq_true d51) ?_; conv => whnf) | (refine acond_t (decide_eq_true d52) ?_; conv => whnf))
            refine aget_nod (i := i) (j := 5) (by omega) hil (by omega) ?_
            conv => whnf
            repeat (first | (refine acond_t (decide_eq_true d51) ?_; conv => whnf) | (refine acond_t (decide_eq_true d52) ?_; conv => whnf))
            refine ⟨⟨by omega, by omega⟩, ?_⟩
            conv => whnf
            repeat (first | (refine acond_t (decide_eq_true d51) ?_; conv => whnf) | (refine acond_t (decide_eq_true d52) ?_; conv => whnf))
            refine aget_bool (i := (l[i]).r.toNat) (by omega) (by omega) ?_
            conv => whnf
            cases e5 : u1.getD (l[i]).r.toNat false with
            | false =>
              repeat (first | (refine acond_t (decide_eq_true d51) ?_; conv => whnf) | (refine acond_t (decide_eq_true d52) ?_; conv => whnf) | (refine acond_t ((show (!false) = true from rfl)) ?_; conv => whnf))
              have hf5 : freeB l.length u1 i (l[i]).r = true := by unfold freeB; rw [decide_eq_true d51, decide_eq_true d52, e5]; rfl
              rw [if_pos hf5] at hq
              refine ⟨⟨by omega, by omega⟩, ?_⟩
              conv => whnf
              refine aget_nod (i := i) (j := 5) (by omega) hil (by omega) ?_
              conv => whnf
              refine ⟨⟨by omega, by omega⟩, ?_⟩
              conv => whnf
              refine ⟨by show 0 + (l[i]).r.toNat * 1 + 1 ≤ _; rw [bools_length]; omega, ?_⟩
              conv => whnf
              refine ⟨⟨by omega, by omega⟩, ?_⟩
              conv => whnf
              refine aget_nod (i := i) (j := 5) (by omega) hil (by omega) ?_
              conv => whnf
              refine ACall.heq (hset u1 (l[i]).r [.i .i64 (l[i]).k, .s (sb (l[i]).w), .s (sb (l[i]).o), .i .i64 (l[i]).n, Ex.av .nil, .p none]) ?_
              refine ACall.mono (callL _ (l[i]).r [.i .i64 (l[i]).k, .s (sb (l[i]).w), .s (sb (l[i]).o), .i .i64 (l[i]).n, Ex.av .nil, .p none] x2 u2 (by rw [List.length_set]; exact hpl) d51 hq (fun φ => by show [_, _, _, _, sub φ (Ex.av .nil), _] = _; rw [hav]; rfl)) ?_
              rintro R H ⟨rfl, rfl⟩
              cases x2 <;> (
                conv => whnf
                refine ⟨Nat.le_of_ble_eq_true rfl, ?_⟩
                conv => whnf
                refine GhR.frz 1 rfl (GhR.sel [0] rfl (GhR.of ⟨?_, ?_⟩))
                · refine Eq.trans ?_ (congrArg ARes.ret (sub_av (selφ [0]) _))
                  rfl
                · show [Blk.c (subs _ (subs _ (bools _)))] = _
                  rw [subs_bools, subs_bools])
            | true =>
              repeat (first | (refine acond_t (decide_eq_true d51) ?_; conv => whnf) | (refine acond_t (decide_eq_true d52) ?_; conv => whnf) | (refine acond_f ((show (!true) = false from rfl)) ?_; conv => whnf))
              have hf5 : freeB l.length u1 i (l[i]).r = false := by unfold freeB; rw [e5]; simp
              rw [if_neg (by rw [hf5]; decide)] at hq
              obtain ⟨rfl, rfl⟩ := Prod.mk.inj hq
              refine GhR.frz 1 rfl (GhR.sel [0] rfl (GhR.of ⟨?_, ?_⟩))
              · refine Eq.trans ?_ (congrArg ARes.ret (sub_av (selφ [0]) _))
                rfl
              · show [Blk.c (subs _ (subs _ (bools _)))] = _
                rw [subs_bools, subs_bools]

          · repeat (first | (refine acond_t (decide_eq_true d51) ?_; conv => whnf) | (refine acond_f (decide_eq_false d52) ?_; conv => whnf))
            have hf5 : freeB l.length u1 i (l[i]).r = false := by unfold freeB; rw [decide_eq_false d52, Bool.false_and, Bool.and_false]
            rw [if_neg (by rw [hf5]; decide)] at hq
            obtain ⟨rfl, rfl⟩ := Prod.mk.inj hq
            refine GhR.frz 1 rfl (GhR.sel [0] rfl (GhR.of ⟨?_, ?_⟩))
            · refine Eq.trans ?_ (congrArg ARes.ret (sub_av (selφ [0]) _))
              rfl
            · show [Blk.c (subs _ (subs _ (bools _)))] = _
              rw [subs_bools, subs_bools]

        · repeat (first | (refine acond_f (decide_eq_false d51) ?_; conv => whnf))
          have hf5 : freeB l.length u1 i (l[i]).r = false := by unfold freeB; rw [decide_eq_false d51, Bool.false_and]
          rw [if_neg (by rw [hf5]; decide)] at hq
          obtain ⟨rfl, rfl⟩ := Prod.mk.inj hq
          refine GhR.frz 1 rfl (GhR.sel [0] rfl (GhR.of ⟨?_, ?_⟩))
          · refine Eq.trans ?_ (congrArg ARes.ret (sub_av (selφ [0]) _))
            rfl
          · show [Blk.c (subs _ (subs _ (bools _)))] = _
            rw [subs_bools, subs_bools]
    · have hii : ((i : Nat) : Int) ≥ (l.length : Int) := by omega
      rw [partF, dif_neg hil]
      refine ACall.enter tok false Tryd.func31 rfl rfl rfl (AW_sound (ip := false) tok _ _ _ _ ?_)
      conv => whnf
      repeat (first | (refine acond_t (decide_eq_true hii) ?_; conv => whnf))
      exact ⟨rfl, rfl⟩
end Go.AK
namespace Go.AK
open Go Go.RowKit Go.Proofs
set_option linter.unusedVariables false
set_option maxRecDepth 100000
def tc : List Bool → Nat
  | [] => 0
  | b :: u => (if b = true then 1 else 0) + tc u
theorem tc_le : ∀ u : List Bool, tc u ≤ u.length
  | [] => Nat.le_refl _
  | b :: u => by
    have := tc_le u
    simp only [tc, List.length_cons]
    split <;> omega
theorem tc_set : ∀ (u : List Bool) (j : Nat), j < u.length → u.getD j false = false → tc (u.set j true) = tc u + 1
  | [], j, h, _ => by simp at h
  | b :: u, 0, _, h => by
    have hb : b = false := h
    subst hb
    simp only [List.set_cons_zero, tc]
    simp; omega
  | b :: u, j + 1, h, h2 => by
    have := tc_set u j (by simpa using h) (by simpa using h2)
    simp only [List.set_cons_succ, tc, this]; omega
def Ex.sz : Ex → Nat
  | .nil => 0
  | .nd _ _ _ _ l r => 1 + l.sz + r.sz
theorem Ex.depth_sz : ∀ x : Ex, x.depth ≤ x.sz
  | .nil => Nat.le_refl _
  | .nd _ _ _ _ l r => by
    have := Ex.depth_sz l; have := Ex.depth_sz r
    simp only [Ex.depth, Ex.sz]; omega
/-- Words, and numbers, as nodes of a row have them. -/
def Ex.words : Ex → Prop
  | .nil => True
  | .nd _ w o _ l r => (w.length ≤ 20 ∧ o.length ≤ 20) ∧ l.words ∧ r.words
theorem Ex.wt_sz : ∀ x : Ex, x.words → x.wt ≤ 80 * x.sz
  | .nil, _ => Nat.le_refl _
  | .nd k w o n l r, ⟨⟨h1, h2⟩, h3, h4⟩ => by
    have := Ex.wt_sz l h3; have := Ex.wt_sz r h4
    simp only [Ex.wt, Ex.sz]; omega
def Nod.ok (a : Nod) : Prop := -9223372036854775808 ≤ a.n ∧ a.n ≤ 9223372036854775807
theorem freeB_of {n : Nat} {u : List Bool} {i : Nat} {j : Int} (h : freeB n u i j = true) : i < j.toNat ∧ j.toNat < n ∧ u.getD j.toNat false = false := by
  unfold freeB at h
  simp only [Bool.and_eq_true, decide_eq_true_eq, Bool.not_eq_true'] at h
  exact ⟨by omega, by omega, h.2.2⟩
theorem partF_sz (l : List Nod) : ∀ (f : Nat) (u : List Bool) (i : Nat), u.length = l.length → (partF l f u i).1.sz + tc u ≤ 1 + tc (partF l f u i).2
  | 0, u, i, _ => by show 0 + tc u ≤ 1 + tc u; omega
  | f + 1, u, i, hu => by
    by_cases h : i < l.length
    · rw [partF_nd h rfl rfl]
      have side : ∀ (v : List Bool) (j : Int), v.length = l.length → ((if freeB l.length v i j = true then partF l f (v.set j.toNat true) j.toNat else (.nil, v)).1.sz + tc v ≤ tc (if freeB l.length v i j = true then partF l f (v.set j.toNat true) j.toNat else (.nil, v)).2 ∧
          (if freeB l.length v i j = true then partF l f (v.set j.toNat true) j.toNat else (.nil, v)).2.length = l.length) := by
        intro v j hv
        split
        · rename_i hf
          obtain ⟨h1, h2, h3⟩ := freeB_of hf
          have := partF_sz l f (v.set j.toNat true) j.toNat (by simp [hv])
          rw [tc_set v _ (by omega) h3] at this
          exact ⟨by omega, by rw [partF_len]; simp [hv]⟩
        · exact ⟨by show 0 + tc v ≤ tc v; omega, hv⟩
      obtain ⟨a1, a2⟩ := side u (l[i]).l hu
      generalize (if freeB l.length u i (l[i]).l = true then partF l f (u.set (l[i]).l.toNat true) (l[i]).l.toNat else (.nil, u)) = p at a1 a2 ⊢
      obtain ⟨b1, b2⟩ := side p.2 (l[i]).r a2
      generalize (if freeB l.length p.2 i (l[i]).r = true then partF l f (p.2.set (l[i]).r.toNat true) (l[i]).r.toNat else (.nil, p.2)) = q at b1 b2 ⊢
      show 1 + p.1.sz + q.1.sz + tc u ≤ 1 + tc q.2
      omega
    · rw [partF, dif_neg h]; show 0 + tc u ≤ 1 + tc u; omega
theorem partF_all (l : List Nod) (hok : ∀ a ∈ l, a.ok ∧ a.w.length ≤ 20 ∧ a.o.length ≤ 20) : ∀ (f : Nat) (u : List Bool) (i : Nat), (partF l f u i).1.okN ∧ (partF l f u i).1.words
  | 0, u, i => ⟨trivial, trivial⟩
  | f + 1, u, i => by
    by_cases h : i < l.length
    · rw [partF_nd h rfl rfl]
      have side : ∀ (v : List Bool) (j : Int), (if freeB l.length v i j = true then partF l f (v.set j.toNat true) j.toNat else (.nil, v)).1.okN ∧ (if freeB l.length v i j = true then partF l f (v.set j.toNat true) j.toNat else (.nil, v)).1.words := by
        intro v j
        split
        · exact partF_all l hok f _ _
        · exact ⟨trivial, trivial⟩
      have ha := hok _ (List.getElem_mem h)
      exact ⟨⟨ha.1, (side _ _).1, (side _ _).1⟩, ⟨ha.2, (side _ _).2, (side _ _).2⟩⟩
    · rw [partF, dif_neg h]; exact ⟨trivial, trivial⟩
/-- The tree of a row of nodes. -/
def treeOf (l : List Nod) : Ex := (partF l (l.length + 1) (List.replicate l.length false) 0).1
theorem tc_false : ∀ n : Nat, tc (List.replicate n false) = 0
  | 0 => rfl
  | n + 1 => by rw [List.replicate_succ, tc, tc_false n]; rfl
theorem treeOf_sz (l : List Nod) : (treeOf l).sz ≤ l.length + 1 := by
  have h := partF_sz l (l.length + 1) (List.replicate l.length false) 0 (by simp)
  have h2 := tc_le (partF l (l.length + 1) (List.replicate l.length false) 0).2
  rw [partF_len, List.length_replicate] at h2
  rw [tc_false] at h
  unfold treeOf; omega
theorem fewB_of {l : List Nod} (h : fewB l = true) : l.length ≤ 200 ∧ ∀ a ∈ l, a.w.length ≤ 20 ∧ a.o.length ≤ 20 := by
  unfold fewB at h
  simp only [Bool.and_eq_true, decide_eq_true_eq] at h
  obtain ⟨h1, h2⟩ := h
  rw [List.take_of_length_le (by omega), List.all_eq_true] at h1
  refine ⟨h2, fun a ha => ?_⟩
  have := h1 a ha
  simpa using this
structure TreeOK (x : Ex) : Prop where
  dep : x.depth ≤ 201
  num : x.okN
  wt : x.wt ≤ 20000
  words : x.words
theorem treeOf_ok {l : List Nod} (h : fewB l = true) (hok : ∀ a ∈ l, a.ok) : TreeOK (treeOf l) := by
  obtain ⟨h1, h2⟩ := fewB_of h
  have hs := treeOf_sz l
  have hd := Ex.depth_sz (treeOf l)
  obtain ⟨a1, a2⟩ := partF_all l (fun a ha => ⟨hok a ha, h2 a ha⟩) (l.length + 1) (List.replicate l.length false) 0
  have hw := Ex.wt_sz (treeOf l) a2
  exact ⟨by omega, a1, by omega, a2⟩
theorem flat_bools : ∀ n : Nat, (List.replicate n [AV.b false]).flatten = bools (List.replicate n false)
  | 0 => rfl
  | n + 1 => by
    have := flat_bools n
    simp only [List.replicate_succ, List.flatten_cons, this, bools, List.map_cons]; rfl
theorem tree_mk_spec (l : List Nod) (hl : l.length < 1000000) :
    ACall Tryd.prog 15 [.rs (nods l) 0 6 l.length] [] fun R H => R = .ret (treeOf l).av ∧ H = [] := by
  refine ACall.gh ?_
  refine ACall.enter tok false Tryd.func15 rfl rfl rfl (AW_sound (ip := false) tok _ _ _ _ ?_)
  have hp := part_spec l hl (l.length + 1) (List.replicate l.length false) 0 (by simp) (by omega)
  conv => whnf
  refine ⟨⟨by omega, by omega, by show (1 : Int) * _ ≤ _; omega, by omega⟩, ?_⟩
  conv => whnf
  refine ACall.heq (H' := [.c (bools (List.replicate l.length false))]) (by show [Blk.c (List.replicate ((l.length : Nat) : Int).toNat [AV.b false]).flatten] = _; rw [Int.toNat_natCast, flat_bools]) ?_
  refine ACall.mono hp ?_
  rintro R H ⟨rfl, rfl⟩
  conv => whnf
  refine GhR.sel [] rfl (GhR.of ⟨?_, rfl⟩)
  exact congrArg ARes.ret (sub_av _ _)
end Go.AK
namespace Go.AK
open Go Go.RowKit Go.Proofs
set_option linter.unusedVariables false
set_option maxRecDepth 100000
theorem i64_in {n : Int} (h : (Lit.int .i64 n).wf = true) : -9223372036854775808 ≤ n ∧ n ≤ 9223372036854775807 := by
  have := Bool.and_eq_true_iff.1 (show (decide (IntKind.min .i64 ≤ n) && decide (n ≤ IntKind.max .i64)) = true from h)
  exact ⟨of_decide_eq_true this.1, of_decide_eq_true this.2⟩
theorem okT_nods : ∀ fuel, okT T fuel 33 = true
  | 0 => rfl
  | 1 => rfl
  | 2 => rfl
  | n + 3 => rfl
theorem WT_nod : ∀ {fuel : Nat} {xs : List AV}, WT T fuel 78 xs → ∃ a : Nod, xs = a.cells ∧ a.ok
  | 0, _, h => h.elim
  | 1, xs, h => by
    obtain ⟨ys, zs, _, h1, _⟩ := (show WTs (WT T 0) [3, 9, 9, 3, 3, 3] xs from h)
    exact h1.elim
  | n + 2, xs, h => by
    obtain ⟨y0, z0, rfl, h0, h⟩ := (show WTs (WT T (n + 1)) [3, 9, 9, 3, 3, 3] xs from h)
    obtain ⟨y1, z1, rfl, h1, h⟩ := h
    obtain ⟨y2, z2, rfl, h2, h⟩ := h
    obtain ⟨y3, z3, rfl, h3, h⟩ := h
    obtain ⟨y4, z4, rfl, h4, h⟩ := h
    obtain ⟨y5, z5, rfl, h5, h⟩ := h
    obtain rfl := (show z5 = [] from h)
    obtain ⟨k, rfl, w0⟩ := (show ∃ m, y0 = [.i .i64 m] ∧ (Lit.int .i64 m).wf = true from h0)
    obtain ⟨w, rfl, w1⟩ := (show ∃ s, y1 = [.s s] ∧ s.size ≤ maxLen from h1)
    obtain ⟨o, rfl, w2⟩ := (show ∃ s, y2 = [.s s] ∧ s.size ≤ maxLen from h2)
    obtain ⟨m, rfl, w3⟩ := (show ∃ m, y3 = [.i .i64 m] ∧ (Lit.int .i64 m).wf = true from h3)
    obtain ⟨l, rfl, w4⟩ := (show ∃ m, y4 = [.i .i64 m] ∧ (Lit.int .i64 m).wf = true from h4)
    obtain ⟨r, rfl, w5⟩ := (show ∃ m, y5 = [.i .i64 m] ∧ (Lit.int .i64 m).wf = true from h5)
    exact ⟨⟨k, w.data.toList, o.data.toList, m, l, r⟩, rfl, i64_in w3⟩
theorem WTs_nods {n : Nat} : ∀ (m : Nat) (cs : List AV), WTs (WT T n) (List.replicate m 78) cs → ∃ L : List Nod, cs = nods L ∧ L.length = m ∧ ∀ a ∈ L, a.ok
  | 0, cs, hc => ⟨[], (show cs = [] from hc), rfl, fun x hx => by cases hx⟩
  | m + 1, cs, hc => by
    rw [List.replicate_succ] at hc
    obtain ⟨ys, zs, rfl, h1, h2⟩ := hc
    obtain ⟨a, rfl, ha⟩ := WT_nod h1
    obtain ⟨L, rfl, hl, hL⟩ := WTs_nods m zs h2
    refine ⟨a :: L, rfl, by simp [hl], fun y hy => ?_⟩
    rcases List.mem_cons.1 hy with rfl | hy
    · exact ha
    · exact hL y hy
theorem WT_nods : ∀ {fuel : Nat} {xs : List AV}, WT T fuel 33 xs → ∃ l : List Nod, xs = [.rs (nods l) 0 6 l.length] ∧ l.length ≤ maxLen ∧ ∀ a ∈ l, a.ok
  | 0, _, h => h.elim
  | n + 1, xs, h => by
    obtain ⟨m, cs, hx, hm, hc⟩ := (show ∃ m cs, xs = [AV.rs cs 0 6 m] ∧ m ≤ maxLen ∧ WTs (WT T n) (List.replicate m 78) cs from h)
    obtain ⟨L, hL, hl, hw⟩ := WTs_nods m cs hc
    subst hL
    exact ⟨L, by rw [hx, hl], by omega, hw⟩
theorem maxLen_lt {n : Nat} (h : n ≤ maxLen) : n ≤ 9223372036854775807 := Nat.le_trans h (by decide)
end Go.AK
namespace Go.AK
open Go Go.RowKit Go.Proofs
set_option linter.unusedVariables false
set_option maxRecDepth 100000
theorem fullS_take (s : Str) (k : Nat) (h : k < s.length) : fullS (s.take (k + 1)) = fullS (s.take k) + if s.getD k 0 = 32 then 0 else 1 := by
  rw [List.take_add_one, fullS_append, List.getElem?_eq_getElem h, List.getD_eq_getElem?_getD, List.getElem?_eq_getElem h]
  simp [fullS]
/-- How many bytes are no blanks. -/
theorem full_spec (s : Str) (hs : s.length ≤ 1000000) :
    ACall Tryd.prog 23 [.s (sb s)] [] fun R H => R = .ret (.i .i64 (fullS s)) ∧ H = [] := by
  refine ACall.enter tok false Tryd.func23 rfl rfl rfl (AW_sound (ip := false) tok _ _ _ _ ?_)
  conv => whnf
  refine ALoop.ind (ip := false) tok (fun m r H => ∃ (k : Nat), k ≤ s.length ∧ m = s.length - k ∧ H = [] ∧
    r = [(4, .i .i64 k), (0, .s (sb s)), (3, .i .i64 (fullS (s.take k))), (2, .i .i64 0)]) s.length ?_ ?_
  · exact Gh.regs [4, 0, 3, 2] (Gh.of ⟨0, by omega, by omega, rfl, rfl⟩)
  · rintro m r H ⟨k, hk, rfl, rfl, rfl⟩
    have hw : IntKind.i64.wrap ((k : Int) + 1) = ((k + 1 : Nat) : Int) := wrap_small (by omega) (by omega)
    have hf := fullS_le (s.take k)
    rw [List.length_take] at hf
    by_cases h : k < s.length
    · have h' : ((k : Nat) : Int) < ((sb s).size : Nat) := by rw [sb_size]; omega
      have ht := fullS_take s k h
      conv => whnf
      repeat (first | (refine acond_t (decide_eq_true h') ?_; conv => whnf))
      refine ⟨⟨by omega, h'⟩, ?_⟩
      conv => whnf
      repeat (first | (refine acond_t (decide_eq_true h') ?_; conv => whnf))
      by_cases hc : s.getD k 0 = 32
      · have b1 : ((((s.getD k 0).toNat : Nat) : Int) != 32) = false := by rw [hc]; rfl
        repeat (first | (refine acond_f (b1) ?_; conv => whnf))
        refine Gh.regs [4, 0, 3, 2] (Gh.of ⟨s.length - (k + 1), by omega, k + 1, by omega, rfl, rfl, ?_⟩)
        rw [if_pos hc] at ht
        rw [ht]
        exact congrArg (fun z => (4, AV.i IntKind.i64 z) :: _) hw
      · have b1 : ((((s.getD k 0).toNat : Nat) : Int) != 32) = true := by
          have : (s.getD k 0).toNat ≠ 32 := fun e => hc (UInt8.toNat_inj.1 e)
          simp only [bne_iff_ne, ne_eq]; omega
        repeat (first | (refine acond_t (b1) ?_; conv => whnf))
        refine Gh.regs [4, 0, 3, 2] (Gh.of ⟨s.length - (k + 1), by omega, k + 1, by omega, rfl, rfl, ?_⟩)
        rw [if_neg hc] at ht
        have hw2 : IntKind.i64.wrap ((fullS (s.take k) : Int) + 1) = ((fullS (s.take k) + 1 : Nat) : Int) := wrap_small (by omega) (by omega)
        rw [ht]
        show [(4, AV.i IntKind.i64 (IntKind.i64.wrap _)), _, (3, AV.i IntKind.i64 (IntKind.i64.wrap _)), _] = _
        rw [hw, hw2]
    · have h' : ¬ ((k : Nat) : Int) < ((sb s).size : Nat) := by rw [sb_size]; omega
      have : k = s.length := by omega
      subst this
      conv => whnf
      repeat (first | (refine acond_f (decide_eq_false h') ?_; conv => whnf))
      refine ⟨?_, rfl⟩
      rw [List.take_length]
end Go.AK
namespace Go.AK
open Go Go.RowKit Go.Proofs
set_option linter.unusedVariables false
set_option maxRecDepth 100000
def awA : Str := [105, 100, 61, 61, 53, 32, 97, 110, 100, 32, 110, 111, 116, 40, 101, 120, 116, 32, 111, 114, 32, 108, 101, 110, 60, 50, 41]
def awB : Str := [97, 32, 97, 110, 100, 32, 98]
def awC : Str := [101, 120, 116, 32, 101, 120, 116]
def awD : Str := [105, 100, 32, 61, 61, 32]
def awT : Str := [105, 100, 32, 61, 61, 32, 53, 32, 97, 110, 100, 32, 110, 111, 116, 32, 40, 101, 120, 116, 32, 111, 114, 32, 108, 101, 110, 32, 60, 32, 50, 41]
def awX : Ex := .nd 2 [] [] 0 (.nd 4 [105, 100] [61, 61] 5 .nil .nil) (.nd 1 [] [] 0 (.nd 3 [] [] 0 (.nd 5 [101, 120, 116] [] 0 .nil .nil) (.nd 4 [108, 101, 110] [60] 2 .nil .nil)) .nil)
theorem awA_eq : parseE awA = (awX, 0, 0) := by kernel_rfl
theorem awB_eq : parseE awB = (.nil, 0, 21) := by kernel_rfl
theorem awC_eq : parseE awC = (.nil, 4, 11) := by kernel_rfl
theorem awD_eq : parseE awD = (.nil, 6, 11) := by kernel_rfl
theorem awX_text : awX.textE = awT ∧ awX.checkE = 0 := ⟨by kernel_rfl, by kernel_rfl⟩
theorem awake_spec : ACall Tryd.prog 9 [] [] fun R H => R = .ret (.b true) ∧ H = [] := by
  have pA := parse_spec awA (by decide)
  have pB := parse_spec awB (by decide)
  have pC := parse_spec awC (by decide)
  have pD := parse_spec awD (by decide)
  have pT := Text_spec awX (by decide) (by simp only [Ex.okN, awX]; decide) (by decide)
  rw [awA_eq] at pA
  rw [awB_eq] at pB
  rw [awC_eq] at pC
  rw [awD_eq] at pD
  rw [awX_text.1, awX_text.2] at pT
  refine ACall.enter tok false Tryd.func9 rfl rfl rfl (AW_sound (ip := false) tok _ _ _ _ ?_)
  conv => whnf
  refine ACall.mono pA ?_; rintro r0 H ⟨rfl, rfl⟩
  conv => whnf
  refine ACall.mono pT ?_; rintro r0 H ⟨rfl, rfl⟩
  conv => whnf
  refine ACall.mono pB ?_; rintro r0 H ⟨rfl, rfl⟩
  conv => whnf
  refine ACall.mono pC ?_; rintro r0 H ⟨rfl, rfl⟩
  conv => whnf
  refine ACall.mono pD ?_; rintro r0 H ⟨rfl, rfl⟩
  conv => whnf
  exact ⟨rfl, rfl⟩
end Go.AK
namespace Go.AK
open Go Go.RowKit Go.Proofs
set_option linter.unusedVariables false
set_option maxRecDepth 100000
theorem equal_spec (x : Ex) : ∀ y : Ex, ACall Tryd.prog 21 [x.av, y.av] [] fun r H => r = .ret (.b (x.same y)) ∧ H = [] := by
  induction x with
  | nil =>
    intro y
    cases y with
    | nil =>
      refine ACall.enter tok false Tryd.func21 rfl rfl rfl (AW_sound (ip := false) tok _ _ _ _ ?_)
      conv => whnf
      exact ⟨rfl, rfl⟩
    | nd k w o n l r =>
      refine ACall.enter tok false Tryd.func21 rfl rfl rfl (AW_sound (ip := false) tok _ _ _ _ ?_)
      conv => whnf
      exact ⟨rfl, rfl⟩
  | nd k w o n l r ihl ihr =>
    intro y
    cases y with
    | nil =>
      refine ACall.enter tok false Tryd.func21 rfl rfl rfl (AW_sound (ip := false) tok _ _ _ _ ?_)
      conv => whnf
      exact ⟨rfl, rfl⟩
    | nd k' w' o' n' l' r' =>
      refine ACall.enter tok false Tryd.func21 rfl rfl rfl (AW_sound (ip := false) tok _ _ _ _ ?_)
      conv => whnf
      refine ADraw.ph tok mixed false [([0, 1, 2, 3, 4, 5, 6, 7, 8, 9, 10, 11, 12, 13, 14, 15, 16, 17, 18, 19, 20, 21, 22, 23, 24, 25, 26, 27, 28, 29, 30, 31, 32, 33, 34, 35, 36, 37, 38, 39, 40, 41, 42, 43, 44, 45, 46, 47, 48, 49, 50], 51), ([52, 53, 54, 55, 56, 57, 58, 59, 60, 61], 62)] [63, 64] (by kernel_rfl) (fun _ _ _ _ h => h) ?_
      conv => whnf
      generalize hk : (k == k') = bhk
      cases bhk with
      | false =>
        conv => whnf
        exact ⟨congrArg (fun b => ARes.ret (AV.b b)) (by rw [Ex.same, hk]; rfl), rfl⟩
      | true =>
        conv => whnf
        generalize hw : ((sb w).data.toList == (sb w').data.toList) = bhw
        cases bhw with
        | false =>
          conv => whnf
          exact ⟨congrArg (fun b => ARes.ret (AV.b b)) (by rw [Ex.same, hk, show (w == w') = false from hw]; rfl), rfl⟩
        | true =>
          conv => whnf
          generalize ho : ((sb o).data.toList == (sb o').data.toList) = bho
          cases bho with
          | false =>
            conv => whnf
            exact ⟨congrArg (fun b => ARes.ret (AV.b b)) (by rw [Ex.same, hk, show (w == w') = true from hw, show (o == o') = false from ho]; rfl), rfl⟩
          | true =>
            conv => whnf
            generalize hn : (n == n') = bhn
            cases bhn with
            | false =>
              conv => whnf
              exact ⟨congrArg (fun b => ARes.ret (AV.b b)) (by rw [Ex.same, hk, show (w == w') = true from hw, show (o == o') = true from ho, hn]; rfl), rfl⟩
            | true =>
              conv => whnf
              refine ACall.mono (ihl l') ?_; rintro r0 H ⟨rfl, rfl⟩
              conv => whnf
              generalize hl : (l.same l') = bhl
              cases bhl with
              | false =>
                conv => whnf
                exact ⟨congrArg (fun b => ARes.ret (AV.b b)) (by rw [Ex.same, hk, show (w == w') = true from hw, show (o == o') = true from ho, hn, hl]; rfl), rfl⟩
              | true =>
                conv => whnf
                refine ACall.mono (ihr r') ?_; rintro r0 H ⟨rfl, rfl⟩
                conv => whnf
                exact ⟨congrArg (fun b => ARes.ret (AV.b b)) (by rw [Ex.same, hk, show (w == w') = true from hw, show (o == o') = true from ho, hn, hl]; rfl), rfl⟩
theorem sameR_spec (x : Ex) : ∀ y : Ex, ACall Tryd.prog 12 [x.av, y.av] [] fun r H => r = .ret (.b (x.same y)) ∧ H = [] := by
  induction x with
  | nil =>
    intro y
    cases y with
    | nil =>
      refine ACall.enter tok false Tryd.func12 rfl rfl rfl (AW_sound (ip := false) tok _ _ _ _ ?_)
      conv => whnf
      exact ⟨rfl, rfl⟩
    | nd k w o n l r =>
      refine ACall.enter tok false Tryd.func12 rfl rfl rfl (AW_sound (ip := false) tok _ _ _ _ ?_)
      conv => whnf
      exact ⟨rfl, rfl⟩
  | nd k w o n l r ihl ihr =>
    intro y
    cases y with
    | nil =>
      refine ACall.enter tok false Tryd.func12 rfl rfl rfl (AW_sound (ip := false) tok _ _ _ _ ?_)
      conv => whnf
      exact ⟨rfl, rfl⟩
    | nd k' w' o' n' l' r' =>
      refine ACall.enter tok false Tryd.func12 rfl rfl rfl (AW_sound (ip := false) tok _ _ _ _ ?_)
      conv => whnf
      refine ADraw.ph tok mixed false [([0, 1, 2, 3, 4, 5, 6, 7, 8, 9, 10, 11, 12, 13, 14, 15, 16, 17, 18, 19, 20, 21, 22, 23, 24, 25, 26, 27, 28, 29, 30, 31, 32, 33, 34, 35, 36, 37, 38, 39, 40, 41, 42, 43, 44, 45, 46, 47, 48, 49, 50], 51), ([52, 53, 54, 55, 56, 57, 58, 59, 60, 61], 62)] [63, 64] (by kernel_rfl) (fun _ _ _ _ h => h) ?_
      conv => whnf
      generalize hk : (k == k') = bhk
      cases bhk with
      | false =>
        conv => whnf
        exact ⟨congrArg (fun b => ARes.ret (AV.b b)) (by rw [Ex.same, hk]; rfl), rfl⟩
      | true =>
        conv => whnf
        generalize hw : ((sb w).data.toList == (sb w').data.toList) = bhw
        cases bhw with
        | false =>
          conv => whnf
          exact ⟨congrArg (fun b => ARes.ret (AV.b b)) (by rw [Ex.same, hk, show (w == w') = false from hw]; rfl), rfl⟩
        | true =>
          conv => whnf
          generalize ho : ((sb o).data.toList == (sb o').data.toList) = bho
          cases bho with
          | false =>
            conv => whnf
            exact ⟨congrArg (fun b => ARes.ret (AV.b b)) (by rw [Ex.same, hk, show (w == w') = true from hw, show (o == o') = false from ho]; rfl), rfl⟩
          | true =>
            conv => whnf
            generalize hn : (n == n') = bhn
            cases bhn with
            | false =>
              conv => whnf
              exact ⟨congrArg (fun b => ARes.ret (AV.b b)) (by rw [Ex.same, hk, show (w == w') = true from hw, show (o == o') = true from ho, hn]; rfl), rfl⟩
            | true =>
              conv => whnf
              refine ACall.mono (ihl l') ?_; rintro r0 H ⟨rfl, rfl⟩
              conv => whnf
              generalize hl : (l.same l') = bhl
              cases bhl with
              | false =>
                conv => whnf
                exact ⟨congrArg (fun b => ARes.ret (AV.b b)) (by rw [Ex.same, hk, show (w == w') = true from hw, show (o == o') = true from ho, hn, hl]; rfl), rfl⟩
              | true =>
                conv => whnf
                refine ACall.mono (ihr r') ?_; rintro r0 H ⟨rfl, rfl⟩
                conv => whnf
                exact ⟨congrArg (fun b => ARes.ret (AV.b b)) (by rw [Ex.same, hk, show (w == w') = true from hw, show (o == o') = true from ho, hn, hl]; rfl), rfl⟩
end Go.AK
