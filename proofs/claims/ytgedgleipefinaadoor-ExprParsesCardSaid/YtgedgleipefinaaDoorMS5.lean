/- Texts SERd3, SELazy, SERdAll, SEText, SETextQ, SEAwake, SEEqual, SEParses: an evaluator of the model's code, proved sound, and what the program's functions do, for all inputs. -/
import Derived.Test.YtgedgleipefinaaDoorMS4
set_option linter.unusedVariables false
set_option linter.unusedSimpArgs false
set_option linter.unusedSectionVars false
namespace Go.AK
open Go Go.RowKit Go.Proofs
set_option linter.unusedVariables false
set_option maxRecDepth 100000
theorem ropd_step {T : List Tok} {f : Nat} (hX : Lexed T) (hT : T.length < 100000) (hTl : ∀ I, I < T.length → (hdT (T.drop I)).1.length < 1000000) (iho : RSpec T 29 f .or fun _ => True) :
    RSpec T 61 (f + 1) .opd (· ≠ wNot) := by
  intro o I ho hI hnn hout
  have he : pp false (f + 1) .opd o (T.drop I) = (
    if (hdT (T.drop I)).1 = [40] then
      if o = 64 then .err (hdT (T.drop I)).2 12
      else nxt false (T.drop I) fun L => (pp false f .or (o + 1) L).bind fun x L => if (hdT L).1 = [41] then nxt false L fun L => .ok x L else .err (hdT L).2 11
    else if (hdT (T.drop I)).1 = wTrue ∨ (hdT (T.drop I)).1 = wFalse then nxt false (T.drop I) fun L' => .ok (.nd (if (hdT (T.drop I)).1 = wTrue then 6 else 7) [] [] 0 .nil .nil) L'
    else if flagsL.contains (hdT (T.drop I)).1 = true then nxt false (T.drop I) fun L' => .ok (.nd 5 (hdT (T.drop I)).1 [] 0 .nil .nil) L'
    else if numbersL.contains (hdT (T.drop I)).1 = true then
      nxt false (T.drop I) fun L1 => if opsL.contains (hdT L1).1 = true then nxt false L1 fun L2 => pnum false L2 fun n L3 => .ok (.nd 4 (hdT (T.drop I)).1 (hdT L1).1 n .nil .nil) L3 else .err (hdT L1).2 11
    else if isWord (hdT (T.drop I)).1 = true ∧ (hdT (T.drop I)).1 ≠ wAnd ∧ (hdT (T.drop I)).1 ≠ wOr then .err (hdT (T.drop I)).2 21 else .err (hdT (T.drop I)).2 11) := rfl
  generalize pp false (f + 1) .opd o (T.drop I) = r at he hout ⊢
  have hw : IntKind.i64.wrap ((I : Int) + 1) = ((I + 1 : Nat) : Int) := wrap_small (by omega) (by omega)
  refine ACall.gh ?_
  refine ACall.enter tok false Tryd.func61 rfl rfl rfl (AW_sound (ip := false) tok _ _ _ _ ?_)
  conv => whnf
  refine ADraw.of tok mixed false [0, 1, 2, 3, 4, 5, 6, 7, 8, 9, 10, 11] [] (by kernel_rfl) (fun _ _ _ _ h => h) ?_
  conv => whnf
  refine ⟨⟨by omega, by omega⟩, ?_⟩
  conv => whnf
  refine aget_hd0 (i := I) (by show 0 + ((I : Nat) : Int).toNat * 2 + 0 = _; omega) hI ?_
  conv => whnf
  by_cases c1 : (hdT (T.drop I)).1 = [40]
  · have b1 : ((hdT (T.drop I)).1 == [40]) = true := by rw [c1]; rfl
    rw [if_pos c1] at he
    have hI1 := hX.ends I hI (by rw [c1]; decide) (by rw [c1]; decide)
    repeat (first | (refine acond_t (b1) ?_; conv => whnf))
    by_cases c2 : o = 64
    · have b2 : (((o : Nat) : Int) == 64) = true := by rw [c2]; rfl
      rw [if_pos c2] at he
      repeat (first | (refine acond_t (b2) ?_; conv => whnf))
      subst he
      refine ACall.mono (fail_spec T (I) o 0 12 hI (by omega) (.inl (by rw [c1]; decide))) ?_
      rintro r0 H0 ⟨rfl, rfl⟩
      conv => whnf
      exact GhR.of ⟨by decide, .nil, _, _, rfl, rfl⟩
    · have b2 : (((o : Nat) : Int) == 64) = false := by rw [beq_eq_false_iff_ne]; omega
      rw [if_neg c2, nxt_lazy, tail_drop] at he
      have hw1 : IntKind.i64.wrap ((o : Int) + 1) = ((o + 1 : Nat) : Int) := wrap_small (by omega) (by omega)
      have hw2 : IntKind.i64.wrap (((o + 1 : Nat) : Int) - 1) = (o : Int) := by rw [wrap_small (by omega) (by omega)]; omega
      repeat (first | (refine acond_f (b2) ?_; conv => whnf))
      refine ⟨Nat.le_of_ble_eq_true rfl, ?_⟩
      conv => whnf
      refine ⟨Nat.le_of_ble_eq_true rfl, ?_⟩
      conv => whnf
      refine ACall.heq (H' := [.c (rcl T (I + 1 : Nat) ((o + 1 : Nat) : Int) 0 0)]) (by show [Blk.c [_, .i .i64 (IntKind.i64.wrap _), .i .i64 (IntKind.i64.wrap _), _, _]] = _; rw [hw, hw1]; rfl) ?_
      refine ACall.mono (iho (o + 1) (I + 1) (by omega) hI1 trivial (fun e => hout (by rw [he, e]; rfl))) ?_
      intro R H hP
      rcases hP.cases with ⟨p, e, hr, hne, y, I', o', rfl, rfl⟩ | ⟨x, I2, hr, hI2, rfl, rfl⟩
      · rw [hr] at he; subst he
        have b0 : (e == 0) = false := by simpa using hne
        conv => whnf
        refine ADraw.of tok mixed false [0, 1, 2, 3, 4, 5, 6, 7, 8, 9, 10, 11, 12, 13, 14, 15, 16, 17, 18] [] (by kernel_rfl) (fun _ _ _ _ h => h) ?_
        conv => whnf
        repeat (first | (refine acond_f (b0) ?_; conv => whnf))
        refine ⟨Nat.le_of_ble_eq_true rfl, ?_⟩
        conv => whnf
        repeat (first | (refine acond_f (b0) ?_; conv => whnf))
        exact GhR.of ⟨hne, y, I', IntKind.i64.wrap (o' - 1), rfl, rfl⟩
      · rw [hr] at he
        replace he : r = if (hdT (T.drop I2)).1 = [41] then nxt false (T.drop I2) fun L => .ok x L else .err (hdT (T.drop I2)).2 11 := he
        have hwi : IntKind.i64.wrap ((I2 : Int) + 1) = ((I2 + 1 : Nat) : Int) := wrap_small (by omega) (by omega)
        conv => whnf
        refine ADraw.of tok mixed false [0, 1, 2, 3, 4, 5, 6, 7, 8, 9, 10, 11, 12, 13, 14, 15, 16, 17, 18] [] (by kernel_rfl) (fun _ _ _ _ h => h) ?_
        conv => whnf
        refine ⟨⟨by omega, by omega⟩, ?_⟩
        conv => whnf
        refine aget_hd0 (i := I2) (by show 0 + ((I2 : Nat) : Int).toNat * 2 + 0 = _; omega) hI2 ?_
        conv => whnf
        by_cases c3 : (hdT (T.drop I2)).1 = [41]
        · have b3 : (!((hdT (T.drop I2)).1 == [41])) = false := by rw [c3]; rfl
          rw [if_pos c3, nxt_lazy, tail_drop] at he
          have hI3 := hX.ends I2 hI2 (by rw [c3]; decide) (by rw [c3]; decide)
          subst he
          repeat (first | (refine acond_f (b3) ?_; conv => whnf))
          refine ⟨Nat.le_of_ble_eq_true rfl, ?_⟩
          conv => whnf
          refine ⟨Nat.le_of_ble_eq_true rfl, ?_⟩
          conv => whnf
          refine GhR.of ⟨I2 + 1, hI3, rfl, rfl, ?_⟩
          show [Blk.c [_, .i .i64 (IntKind.i64.wrap _), .i .i64 (IntKind.i64.wrap _), _, _]] = _
          rw [hwi, hw2]; rfl
        · have b3 : (!((hdT (T.drop I2)).1 == [41])) = true := by simpa using c3
          rw [if_neg c3] at he
          repeat (first | (refine acond_t (b3) ?_; conv => whnf))
          subst he
          refine ACall.mono (fail_spec T (I2) _ 0 11 hI2 (by omega) (.inr rfl)) ?_
          rintro r0 H0 ⟨rfl, rfl⟩
          conv => whnf
          exact GhR.of ⟨by decide, .nil, _, _, rfl, rfl⟩
  rw [if_neg c1] at he
  have b1 : ((hdT (T.drop I)).1 == [40]) = false := by simpa using c1
  repeat (first | (refine acond_f (b1) ?_; conv => whnf))
  by_cases c2 : (hdT (T.drop I)).1 = wTrue ∨ (hdT (T.drop I)).1 = wFalse
  · rw [if_pos c2, nxt_lazy, tail_drop] at he
    have hI1 := hX.ends I hI (by rcases c2 with e | e <;> rw [e] <;> decide) (by rcases c2 with e | e <;> rw [e] <;> decide)
    by_cases c3 : (hdT (T.drop I)).1 = wTrue
    · have b3 : ((hdT (T.drop I)).1 == wTrue) = true := by rw [c3]; rfl
      rw [if_pos c3] at he
      repeat (first | (refine acond_t (b3) ?_; conv => whnf))
      refine ⟨Nat.le_of_ble_eq_true rfl, ?_⟩
      conv => whnf
      repeat (first | (refine acond_t (b3) ?_; conv => whnf))
      subst he
      refine GhR.frz 1 rfl (GhR.sel [0] rfl (GhR.of ⟨I + 1, hI1, rfl, rfl, ?_⟩))
      show [Blk.c [AV.rs (subs _ (subs _ (toks T))) 0 2 T.length, .i .i64 (IntKind.i64.wrap _), _, _, _]] = _
      rw [subs_toks, subs_toks, hw]; rfl
    · have b3 : ((hdT (T.drop I)).1 == wTrue) = false := by simpa using c3
      have b4 : ((hdT (T.drop I)).1 == wFalse) = true := by rw [c2.resolve_left c3]; rfl
      rw [if_neg c3] at he
      repeat (first | (refine acond_f (b3) ?_; conv => whnf) | (refine acond_t (b4) ?_; conv => whnf))
      refine ⟨Nat.le_of_ble_eq_true rfl, ?_⟩
      conv => whnf
      repeat (first | (refine acond_f (b3) ?_; conv => whnf) | (refine acond_t (b4) ?_; conv => whnf))
      subst he
      refine GhR.frz 1 rfl (GhR.sel [0] rfl (GhR.of ⟨I + 1, hI1, rfl, rfl, ?_⟩))
      show [Blk.c [AV.rs (subs _ (subs _ (toks T))) 0 2 T.length, .i .i64 (IntKind.i64.wrap _), _, _, _]] = _
      rw [subs_toks, subs_toks, hw]; rfl
  rw [if_neg c2] at he
  have b2 : ((hdT (T.drop I)).1 == wTrue) = false := by simpa using fun e => c2 (.inl e)
  have b3 : ((hdT (T.drop I)).1 == wFalse) = false := by simpa using fun e => c2 (.inr e)
  repeat (first | (refine acond_f (b2) ?_; conv => whnf) | (refine acond_f (b3) ?_; conv => whnf))
  refine ACall.frameH [] [] rfl (args' := []) (Hc := []) rfl rfl flagsR_spec ?_
  rintro r0 H0 ⟨rfl, rfl⟩
  refine ⟨.inl rfl, [.c (rcl T I o 0 0)], rfl, ?_⟩
  conv => whnf
  refine ACall.frameH [] [] rfl (args' := [.rs (strs flagsL) 0 1 flagsL.length, .s (sb (hdT (T.drop I)).1)]) (Hc := []) rfl rfl (in_spec flagsL (hdT (T.drop I)).1 (by decide)) ?_
  rintro r0 H0 ⟨rfl, rfl⟩
  refine ⟨.inl rfl, [.c (rcl T I o 0 0)], rfl, ?_⟩
  conv => whnf
  by_cases c3 : flagsL.contains (hdT (T.drop I)).1 = true
  · rw [if_pos c3, nxt_lazy, tail_drop] at he
    have hI1 := hX.ends I hI (fun e => by rw [e] at c3; exact absurd c3 (by decide)) (fun e => by rw [e] at c3; exact absurd c3 (by decide))
    repeat (first | (refine acond_t (c3) ?_; conv => whnf))
    refine ⟨Nat.le_of_ble_eq_true rfl, ?_⟩
    conv => whnf
    subst he
    refine GhR.frz 1 rfl (GhR.sel [0] rfl (GhR.of ⟨I + 1, hI1, rfl, rfl, ?_⟩))
    show [Blk.c [AV.rs (subs _ (subs _ (toks T))) 0 2 T.length, .i .i64 (IntKind.i64.wrap _), _, _, _]] = _
    rw [subs_toks, subs_toks, hw]; rfl
  rw [if_neg c3] at he
  repeat (first | (refine acond_f (Bool.eq_false_iff.2 c3) ?_; conv => whnf))
  refine ACall.frameH [] [] rfl (args' := []) (Hc := []) rfl rfl numbersR_spec ?_
  rintro r0 H0 ⟨rfl, rfl⟩
  refine ⟨.inl rfl, [.c (rcl T I o 0 0)], rfl, ?_⟩
  conv => whnf
  refine ACall.frameH [] [] rfl (args' := [.rs (strs numbersL) 0 1 numbersL.length, .s (sb (hdT (T.drop I)).1)]) (Hc := []) rfl rfl (in_spec numbersL (hdT (T.drop I)).1 (by decide)) ?_
  rintro r0 H0 ⟨rfl, rfl⟩
  refine ⟨.inl rfl, [.c (rcl T I o 0 0)], rfl, ?_⟩
  conv => whnf
  by_cases c4 : numbersL.contains (hdT (T.drop I)).1 = true
  · rw [if_pos c4, nxt_lazy, tail_drop] at he
    have hI1 := hX.ends I hI (fun e => by rw [e] at c4; exact absurd c4 (by decide)) (fun e => by rw [e] at c4; exact absurd c4 (by decide))
    repeat (first | (refine acond_t (c4) ?_; conv => whnf))
    refine ⟨Nat.le_of_ble_eq_true rfl, ?_⟩
    conv => whnf
    refine ACall.heq (H' := [.c (rcl T (I + 1 : Nat) o 0 0)]) (by show [Blk.c [_, .i .i64 (IntKind.i64.wrap _), _, _, _]] = _; rw [hw]; rfl) ?_
    refine ACall.mono (compared_spec hX hT hTl (hdT (T.drop I)).1 o (I + 1) hI1 he) ?_
    intro R H hP
    rcases hP.cases with ⟨p, e, hr, hne, y, I', o', rfl, rfl⟩ | ⟨x, I2, hr, hI2, rfl, rfl⟩
    · conv => whnf
      exact GhR.of hP
    · conv => whnf
      exact GhR.of hP
  rw [if_neg c4] at he
  repeat (first | (refine acond_f (Bool.eq_false_iff.2 c4) ?_; conv => whnf))
  have hl := hTl I hI
  have hp63 : isWord (hdT (T.drop I)).1 = true → (hdT (T.drop I)).1 ≠ [63] := fun h e => by rw [e] at h; exact absurd h (by decide)
  have hf21 := fail_spec T I o 0 21 hI (by omega)
  have hf11 := fail_spec T I o 0 11 hI (by omega) (.inr rfl)
  generalize (hdT (T.drop I)).2 = p at he hf21 hf11
  generalize (hdT (T.drop I)).1 = t at *
  cases t with
  | nil =>
    rw [if_neg (by intro e; exact absurd e.1 (by decide))] at he
    subst he
    repeat (first | (refine acond_f ((show (!(([] : Str) == ([] : Str))) = false from rfl)) ?_; conv => whnf))
    refine ACall.mono hf11 ?_
    rintro r0 H0 ⟨rfl, rfl⟩
    conv => whnf
    exact GhR.of ⟨by decide, .nil, _, _, rfl, rfl⟩
  | cons c d =>
    have b5 : (!((c :: d : Str) == ([] : Str))) = true := rfl
    repeat (first | (refine acond_t (b5) ?_; conv => whnf))
    refine ⟨⟨by decide, by rw [sb_size, List.length_cons]; omega⟩, ?_⟩
    conv => whnf
    by_cases d1 : ((c.toNat : Nat) : Int) ≥ 97
    · repeat (first | (refine acond_t (b5) ?_; conv => whnf) | (refine acond_t (decide_eq_true d1) ?_; conv => whnf))
      refine ⟨⟨by decide, by rw [sb_size, List.length_cons]; omega⟩, ?_⟩
      conv => whnf
      by_cases d2 : ((c.toNat : Nat) : Int) ≤ 122
      · have hwd : isWord (c :: d) = true := by
          simp only [isWord, isLet]; rw [decide_eq_true (by omega), decide_eq_true (by omega)]; rfl
        have b8 : (!((c :: d : Str) == wNot)) = true := by simpa using hnn
        by_cases c6 : (c :: d : Str) = wAnd
        · have b6 : (!((c :: d : Str) == wAnd)) = false := by rw [c6]; rfl
          rw [if_neg (fun e => e.2.1 c6)] at he
          repeat (first | (refine acond_t (b5) ?_; conv => whnf) | (refine acond_t (decide_eq_true d1) ?_; conv => whnf) | (refine acond_t (decide_eq_true d2) ?_; conv => whnf) | (refine acond_f (b6) ?_; conv => whnf))
          subst he
          refine ACall.mono hf11 ?_
          rintro r0 H0 ⟨rfl, rfl⟩
          conv => whnf
          exact GhR.of ⟨by decide, .nil, _, _, rfl, rfl⟩
        · have b6 : (!((c :: d : Str) == wAnd)) = true := by simpa using c6
          by_cases c7 : (c :: d : Str) = wOr
          · have b7 : (!((c :: d : Str) == wOr)) = false := by rw [c7]; rfl
            rw [if_neg (fun e => e.2.2 c7)] at he
            repeat (first | (refine acond_t (b5) ?_; conv => whnf) | (refine acond_t (decide_eq_true d1) ?_; conv => whnf) | (refine acond_t (decide_eq_true d2) ?_; conv => whnf) | (refine acond_t (b6) ?_; conv => whnf) | (refine acond_f (b7) ?_; conv => whnf))
            subst he
            refine ACall.mono hf11 ?_
            rintro r0 H0 ⟨rfl, rfl⟩
            conv => whnf
            exact GhR.of ⟨by decide, .nil, _, _, rfl, rfl⟩
          · have b7 : (!((c :: d : Str) == wOr)) = true := by simpa using c7
            rw [if_pos ⟨hwd, c6, c7⟩] at he
            repeat (first | (refine acond_t (b5) ?_; conv => whnf) | (refine acond_t (decide_eq_true d1) ?_; conv => whnf) | (refine acond_t (decide_eq_true d2) ?_; conv => whnf) | (refine acond_t (b6) ?_; conv => whnf) | (refine acond_t (b7) ?_; conv => whnf) | (refine acond_t (b8) ?_; conv => whnf))
            subst he
            refine ACall.mono (hf21 (.inl (hp63 hwd))) ?_
            rintro r0 H0 ⟨rfl, rfl⟩
            conv => whnf
            exact GhR.of ⟨by decide, .nil, _, _, rfl, rfl⟩
      · have hwd : isWord (c :: d) = false := by
          simp only [isWord, isLet]; rw [decide_eq_false (show ¬ c.toNat ≤ 122 by omega), Bool.and_false]
        rw [if_neg (fun e => by rw [hwd] at e; exact absurd e.1 (by decide))] at he
        repeat (first | (refine acond_t (b5) ?_; conv => whnf) | (refine acond_t (decide_eq_true d1) ?_; conv => whnf) | (refine acond_f (decide_eq_false d2) ?_; conv => whnf))
        subst he
        refine ACall.mono hf11 ?_
        rintro r0 H0 ⟨rfl, rfl⟩
        conv => whnf
        exact GhR.of ⟨by decide, .nil, _, _, rfl, rfl⟩
    · have hwd : isWord (c :: d) = false := by
        simp only [isWord, isLet]; rw [decide_eq_false (show ¬ 97 ≤ c.toNat by omega)]; rfl
      rw [if_neg (fun e => by rw [hwd] at e; exact absurd e.1 (by decide))] at he
      repeat (first | (refine acond_t (b5) ?_; conv => whnf) | (refine acond_f (decide_eq_false d1) ?_; conv => whnf))
      subst he
      refine ACall.mono hf11 ?_
      rintro r0 H0 ⟨rfl, rfl⟩
      conv => whnf
      exact GhR.of ⟨by decide, .nil, _, _, rfl, rfl⟩
end Go.AK
namespace Go.AK
open Go Go.RowKit Go.Proofs
set_option linter.unusedVariables false
set_option maxRecDepth 100000
/-! A parser that is eager, and one that is not. -/
def eager : PR → PR
  | .ok x L => if (hdT L).1 = [63] then .err (hdT L).2 11 else .ok x L
  | r => r
theorem pp_bad (g : Bool) : ∀ (f : Nat) (m : Md) (o : Nat) (L : List Tok), (hdT L).1 = [63] → m.need L.length ≤ f →
    pp g f m o L = match m with
      | .orL x => .ok x L
      | .andL x => .ok x L
      | _ => .err (hdT L).2 11
  | 0, m, o, L, _, h => by cases m <;> simp only [Md.need] at h <;> omega
  | f + 1, .or, o, L, hq, h => by
    simp only [Md.need] at h
    unfold pp
    rw [pp_bad g f .and o L hq (by simp only [Md.need]; omega)]; rfl
  | f + 1, .orL x, o, L, hq, h => by
    unfold pp
    rw [hq, if_neg (by decide)]
  | f + 1, .and, o, L, hq, h => by
    simp only [Md.need] at h
    unfold pp
    rw [pp_bad g f .not o L hq (by simp only [Md.need]; omega)]; rfl
  | f + 1, .andL x, o, L, hq, h => by
    unfold pp
    rw [hq, if_neg (by decide)]
  | f + 1, .not, o, L, hq, h => by
    simp only [Md.need] at h
    unfold pp
    rw [hq, if_neg (by decide), pp_bad g f .opd o L hq (by simp only [Md.need]; omega)]
  | f + 1, .opd, o, L, hq, h => by
    unfold pp
    rw [hq, if_neg (by decide), if_neg (by decide), if_neg (by decide), if_neg (by decide), if_neg (by decide)]
theorem nxt_true (L : List Tok) (k : List Tok → PR) : nxt true L k = if (hdT L.tail).1 = [63] then .err (hdT L.tail).2 11 else k L.tail := by
  unfold nxt
  by_cases h : (hdT L.tail).1 = [63]
  · rw [if_pos ⟨rfl, h⟩, if_pos h]
  · rw [if_neg (fun e => h e.2), if_neg h]
theorem nxt_false (L : List Tok) (k : List Tok → PR) : nxt false L k = k L.tail := by
  unfold nxt; rw [if_neg (fun e => nomatch e.1)]
theorem eager_nxt_ok (L : List Tok) (x : Ex) : nxt true L (fun L => .ok x L) = eager (nxt false L fun L => .ok x L) := by
  rw [nxt_true, nxt_false]; rfl
theorem eager_bind {r : PR} {k k' : Ex → List Tok → PR} (h : ∀ x L, r = .ok x L → (hdT L).1 ≠ [63] → k' x L = eager (k x L)) (hq : ∀ x L, r = .ok x L → (hdT L).1 = [63] → eager (k x L) = .err (hdT L).2 11) :
    (eager r).bind k' = eager (r.bind k) := by
  cases r with
  | out => rfl
  | err p e => rfl
  | ok x L =>
    by_cases hh : (hdT L).1 = [63]
    · show (if (hdT L).1 = [63] then PR.err (hdT L).2 11 else .ok x L).bind k' = eager (k x L)
      rw [if_pos hh, hq x L rfl hh]; rfl
    · show (if (hdT L).1 = [63] then PR.err (hdT L).2 11 else .ok x L).bind k' = eager (k x L)
      rw [if_neg hh]
      exact h x L rfl hh
theorem pp_eager : ∀ (f : Nat) (m : Md) (o : Nat) (L : List Tok), (hdT L).1 ≠ [63] → m.need L.length ≤ f → pp true f m o L = eager (pp false f m o L)
  | 0, m, o, L, _, h => by cases m <;> simp only [Md.need] at h <;> omega
  | f + 1, .or, o, L, hq, h => by
    simp only [Md.need] at h
    have hf := pp_fine false f .and o L (by simp only [Md.need]; omega)
    unfold pp
    rw [pp_eager f .and o L hq (by simp only [Md.need]; omega)]
    refine eager_bind (fun x L' e hh => ?_) (fun x L' e hh => ?_)
    · have := hf.2 x L' e; simp only [Md.dep] at this
      exact pp_eager f (.orL x) o L' hh (by simp only [Md.need]; omega)
    · have := hf.2 x L' e; simp only [Md.dep] at this
      rw [pp_bad false f (.orL x) o L' hh (by simp only [Md.need]; omega)]
      show (if (hdT L').1 = [63] then PR.err (hdT L').2 11 else .ok x L') = _
      rw [if_pos hh]
  | f + 1, .orL x, o, L, hq, h => by
    simp only [Md.need] at h
    unfold pp
    by_cases hw : (hdT L).1 = wOr
    · rw [if_pos hw, if_pos hw, nxt_true, nxt_false]
      have ht := tok_tail (L := L) (by rw [hw]; decide)
      by_cases h2 : (hdT L.tail).1 = [63]
      · rw [if_pos h2, pp_bad false f .and o L.tail h2 (by simp only [Md.need]; omega)]; rfl
      · rw [if_neg h2, pp_eager f .and o L.tail h2 (by simp only [Md.need]; omega)]
        have hf := pp_fine false f .and o L.tail (by simp only [Md.need]; omega)
        refine eager_bind (fun y L' e hh => ?_) (fun y L' e hh => ?_)
        · have := hf.2 y L' e; simp only [Md.dep] at this
          exact pp_eager f (.orL _) o L' hh (by simp only [Md.need]; omega)
        · have := hf.2 y L' e; simp only [Md.dep] at this
          rw [pp_bad false f (.orL _) o L' hh (by simp only [Md.need]; omega)]
          show (if (hdT L').1 = [63] then PR.err (hdT L').2 11 else .ok _ L') = _
          rw [if_pos hh]
    · rw [if_neg hw, if_neg hw]
      show _ = (if (hdT L).1 = [63] then PR.err (hdT L).2 11 else .ok x L)
      rw [if_neg hq]
  | f + 1, .and, o, L, hq, h => by
    simp only [Md.need] at h
    have hf := pp_fine false f .not o L (by simp only [Md.need]; omega)
    unfold pp
    rw [pp_eager f .not o L hq (by simp only [Md.need]; omega)]
    refine eager_bind (fun x L' e hh => ?_) (fun x L' e hh => ?_)
    · have := hf.2 x L' e; simp only [Md.dep] at this
      exact pp_eager f (.andL x) o L' hh (by simp only [Md.need]; omega)
    · have := hf.2 x L' e; simp only [Md.dep] at this
      rw [pp_bad false f (.andL x) o L' hh (by simp only [Md.need]; omega)]
      show (if (hdT L').1 = [63] then PR.err (hdT L').2 11 else .ok x L') = _
      rw [if_pos hh]
  | f + 1, .andL x, o, L, hq, h => by
    simp only [Md.need] at h
    unfold pp
    by_cases hw : (hdT L).1 = wAnd
    · rw [if_pos hw, if_pos hw, nxt_true, nxt_false]
      have ht := tok_tail (L := L) (by rw [hw]; decide)
      by_cases h2 : (hdT L.tail).1 = [63]
      · rw [if_pos h2, pp_bad false f .not o L.tail h2 (by simp only [Md.need]; omega)]; rfl
      · rw [if_neg h2, pp_eager f .not o L.tail h2 (by simp only [Md.need]; omega)]
        have hf := pp_fine false f .not o L.tail (by simp only [Md.need]; omega)
        refine eager_bind (fun y L' e hh => ?_) (fun y L' e hh => ?_)
        · have := hf.2 y L' e; simp only [Md.dep] at this
          exact pp_eager f (.andL _) o L' hh (by simp only [Md.need]; omega)
        · have := hf.2 y L' e; simp only [Md.dep] at this
          rw [pp_bad false f (.andL _) o L' hh (by simp only [Md.need]; omega)]
          show (if (hdT L').1 = [63] then PR.err (hdT L').2 11 else .ok _ L') = _
          rw [if_pos hh]
    · rw [if_neg hw, if_neg hw]
      show _ = (if (hdT L).1 = [63] then PR.err (hdT L).2 11 else .ok x L)
      rw [if_neg hq]
  | f + 1, .not, o, L, hq, h => by
    simp only [Md.need] at h
    unfold pp
    by_cases hw : (hdT L).1 = wNot
    · rw [if_pos hw, if_pos hw, nxt_true, nxt_false]
      have ht := tok_tail (L := L) (by rw [hw]; decide)
      by_cases h2 : (hdT L.tail).1 = [63]
      · rw [if_pos h2, pp_bad false f .not o L.tail h2 (by simp only [Md.need]; omega)]; rfl
      · rw [if_neg h2, pp_eager f .not o L.tail h2 (by simp only [Md.need]; omega)]
        refine eager_bind (fun y L' e hh => ?_) (fun y L' e hh => ?_)
        · show _ = (if (hdT L').1 = [63] then PR.err (hdT L').2 11 else .ok _ L')
          rw [if_neg hh]
        · show (if (hdT L').1 = [63] then PR.err (hdT L').2 11 else .ok _ L') = _
          rw [if_pos hh]
    · rw [if_neg hw, if_neg hw]
      exact pp_eager f .opd o L hq (by simp only [Md.need]; omega)
  | f + 1, .opd, o, L, hq, h => by
    simp only [Md.need] at h
    unfold pp
    by_cases c1 : (hdT L).1 = [40]
    · rw [if_pos c1, if_pos c1]
      have ht := tok_tail (L := L) (by rw [c1]; decide)
      by_cases c2 : o = 64
      · rw [if_pos c2, if_pos c2]; rfl
      rw [if_neg c2, if_neg c2, nxt_true, nxt_false]
      by_cases h2 : (hdT L.tail).1 = [63]
      · rw [if_pos h2, pp_bad false f .or (o + 1) L.tail h2 (by simp only [Md.need]; omega)]; rfl
      · rw [if_neg h2, pp_eager f .or (o + 1) L.tail h2 (by simp only [Md.need]; omega)]
        refine eager_bind (fun y L' e hh => ?_) (fun y L' e hh => ?_)
        · by_cases c3 : (hdT L').1 = [41]
          · rw [if_pos c3, if_pos c3]; exact eager_nxt_ok L' y
          · rw [if_neg c3, if_neg c3]; rfl
        · rw [if_neg (by rw [hh]; decide)]; rfl
    rw [if_neg c1, if_neg c1]
    by_cases c2 : (hdT L).1 = wTrue ∨ (hdT L).1 = wFalse
    · rw [if_pos c2, if_pos c2]; exact eager_nxt_ok L _
    rw [if_neg c2, if_neg c2]
    by_cases c3 : flagsL.contains (hdT L).1 = true
    · rw [if_pos c3, if_pos c3]; exact eager_nxt_ok L _
    rw [if_neg c3, if_neg c3]
    by_cases c4 : numbersL.contains (hdT L).1 = true
    · rw [if_pos c4, if_pos c4, nxt_true, nxt_false]
      by_cases h2 : (hdT L.tail).1 = [63]
      · rw [if_pos h2, if_neg (by rw [h2]; decide)]; rfl
      rw [if_neg h2]
      by_cases c5 : opsL.contains (hdT L.tail).1 = true
      · rw [if_pos c5, if_pos c5, nxt_true, nxt_false]
        by_cases h3 : (hdT L.tail.tail).1 = [63]
        · rw [if_pos h3, pnum, if_pos (by rw [h3]; rfl)]; rfl
        rw [if_neg h3, pnum, pnum]
        by_cases c6 : badNum (hdT L.tail.tail).1 = true
        · rw [if_pos c6, if_pos c6]; rfl
        rw [if_neg c6, if_neg c6]
        by_cases c7 : 9223372036854775807 < valD (hdT L.tail.tail).1
        · rw [if_pos c7, if_pos c7]; rfl
        rw [if_neg c7, if_neg c7]
        exact eager_nxt_ok L.tail.tail _
      · rw [if_neg c5, if_neg c5]; rfl
    rw [if_neg c4, if_neg c4]
    by_cases c5 : isWord (hdT L).1 = true ∧ (hdT L).1 ≠ wAnd ∧ (hdT L).1 ≠ wOr
    · rw [if_pos c5]; rfl
    · rw [if_neg c5]; rfl
theorem topE_eager (g : Bool) (r : PR) : topE g (eager r) = topE g r := by
  cases r with
  | out => rfl
  | err p e => rfl
  | ok x L =>
    show topE g (if (hdT L).1 = [63] then PR.err (hdT L).2 11 else .ok x L) = _
    by_cases h : (hdT L).1 = [63]
    · rw [if_pos h]
      show _ = if (hdT L).1 ≠ [] then _ else _
      rw [if_pos (by rw [h]; decide)]; rfl
    · rw [if_neg h]
/-- The document's reading is the program's. -/
theorem parseE_lazy (s : Str) : parseE s = if 8192 < s.length then (.nil, 0, 12) else topE false (pp false (8 * s.length + 64) .or 0 (lexS s 0)) := by
  unfold parseE
  by_cases h : 8192 < s.length
  · rw [if_pos h, if_pos h]
  rw [if_neg h, if_neg h]
  have hl := lexS_len s 0
  have hn : Md.or.need (lexS s 0).length ≤ 8 * s.length + 64 := by simp only [Md.need]; omega
  by_cases hq : (hdT (lexS s 0)).1 = [63]
  · rw [nxt_true, List.tail_cons, if_pos hq, pp_bad false _ .or 0 _ hq hn]; rfl
  · rw [nxt_true, List.tail_cons, if_neg hq, pp_eager _ .or 0 _ hq hn, topE_eager]; rfl
end Go.AK
namespace Go.AK
open Go Go.RowKit Go.Proofs
set_option linter.unusedVariables false
set_option maxRecDepth 100000
theorem lex_tok_len : ∀ (f : Nat) (r : Str) (p : Nat), r.length < f → ∀ t ∈ lex f r p, t.1.length ≤ r.length + 1
  | 0, _, _, h => by omega
  | f + 1, r, p, h => by
    unfold lex
    split
    · intro t ht; rw [List.mem_singleton] at ht; subst ht; exact Nat.zero_le _
    rename_i h0
    have hl : 0 < r.length := List.length_pos_iff.2 h0
    split
    · intro t ht
      have := lex_tok_len f r.tail (p + 1) (by rw [List.length_tail]; omega) t ht
      rw [List.length_tail] at this; omega
    split
    · intro t ht; rw [List.mem_singleton] at ht; subst ht; exact Nat.succ_le_succ (Nat.zero_le _)
    · intro t ht
      rcases List.mem_cons.1 ht with rfl | ht
      · show (r.take (tokLen r)).length ≤ _
        rw [List.length_take]; omega
      · have hd : (r.drop (tokLen r)).length = r.length - tokLen r := List.length_drop
        have := lex_tok_len f (r.drop (tokLen r)) (p + tokLen r) (by omega) t ht
        omega
theorem rpp_all {T : List Tok} (hX : Lexed T) (hT : T.length < 100000) (hTl : ∀ I, I < T.length → (hdT (T.drop I)).1.length < 1000000) : ∀ f : Nat,
    (∀ g, g ≤ f → RSpec T 29 g .or fun _ => True) ∧ (∀ g, g ≤ f → RSpec T 44 g .and fun _ => True) ∧
    (∀ g, g ≤ f → RSpec T 52 g .not fun _ => True) ∧ (∀ g, g ≤ f → RSpec T 61 g .opd (· ≠ wNot))
  | 0 => by
    refine ⟨?_, ?_, ?_, ?_⟩ <;> (intro g hg; cases Nat.le_zero.1 hg; intro o I _ _ _ h; exact absurd rfl h)
  | f + 1 => by
    obtain ⟨h1, h2, h3, h4⟩ := rpp_all hX hT hTl f
    have k1 := ror_step hX hT h2
    have k2 := rand_step hX hT h3
    have k3 := rnot_step hX hT (h3 f (Nat.le_refl _)) (h4 f (Nat.le_refl _))
    have k4 := ropd_step hX hT hTl (h1 f (Nat.le_refl _))
    refine ⟨?_, ?_, ?_, ?_⟩ <;> intro g hg
    · by_cases e : g = f + 1
      · subst e; exact k1
      · exact h1 g (by omega)
    · by_cases e : g = f + 1
      · subst e; exact k2
      · exact h2 g (by omega)
    · by_cases e : g = f + 1
      · subst e; exact k3
      · exact h3 g (by omega)
    · by_cases e : g = f + 1
      · subst e; exact k4
      · exact h4 g (by omega)
theorem parseR_spec (s : Str) (hs : s.length ≤ 10000) : ACall Tryd.prog 11 [.s (sb s)] [] fun R H => R = .ret (.tup [(parseE s).1.av, .i .i64 (parseE s).2.1, .i .i64 (parseE s).2.2]) ∧ H = [] := by
  refine ACall.gh ?_
  refine ACall.enter tok false Tryd.func11 rfl rfl rfl (AW_sound (ip := false) tok _ _ _ _ ?_)
  have hpl := parseE_lazy s
  generalize hr : parseE s = r at hpl
  conv => whnf
  by_cases hl : ((sb s).size : Int) > 8192
  · repeat (first | (refine acond_t (decide_eq_true hl) ?_; conv => whnf))
    rw [sb_size] at hl
    rw [if_pos (by omega)] at hpl
    subst hpl
    exact GhR.of ⟨rfl, rfl⟩
  · repeat (first | (refine acond_f (decide_eq_false hl) ?_; conv => whnf))
    rw [sb_size] at hl
    rw [if_neg (by omega)] at hpl
    have hl2 := lexS_len s 0
    have hne := List.length_pos_iff.2 (lexS_ne s 0)
    have hX := lexS_lexed s 0
    have hf := parse_fine false s 0 (lexS s 0) hl2
    have hTl : ∀ I, I < (lexS s 0).length → (hdT ((lexS s 0).drop I)).1.length < 1000000 := fun I hI => by
      have := lex_tok_len _ s 0 (Nat.lt_succ_self _) (hdT ((lexS s 0).drop I)) (by rw [hdT_drop hI]; exact List.getElem_mem hI)
      omega
    have hor := (rpp_all hX (by omega) hTl (8 * s.length + 64)).1 _ (Nat.le_refl _) 0 0 (by omega) hne trivial hf.1
    have htk := tokens_spec s hs
    have hfl : ∀ I, I < (lexS s 0).length → ∀ a : Int, _ := fun I hI a => fail_spec (lexS s 0) I ((0 : Nat) : Int) a 11 hI (by omega) (.inr rfl)
    rw [List.drop_zero] at hor
    generalize lexS s 0 = T at *
    refine ACall.mono htk ?_; rintro r0 H0 ⟨rfl, rfl⟩
    conv => whnf
    refine ACall.mono hor ?_
    intro R H hP
    rcases hP.cases with ⟨p, e, hq, hne0, y, I', o', rfl, rfl⟩ | ⟨x, I, hq, hI, rfl, rfl⟩
    · rw [hq] at hpl
      have b0 : (e == 0) = false := by simpa using hne0
      have b1 : (e != 0) = true := by simpa using hne0
      subst hpl
      conv => whnf
      refine ADraw.of tok mixed false [0, 1, 2, 3, 4, 5, 6, 7, 8, 9, 10, 11, 12, 13, 14, 15, 16, 17, 18] [] (by kernel_rfl) (fun _ _ _ _ h => h) ?_
      conv => whnf
      repeat (first | (refine acond_f (b0) ?_; conv => whnf) | (refine acond_t (b1) ?_; conv => whnf))
      refine ADraw.of tok mixed false [0, 1, 2, 3, 4, 5, 6, 7, 8, 9, 10] [] (by kernel_rfl) (fun _ _ _ _ h => h) ?_
      conv => whnf
      exact GhR.sel [] rfl (GhR.of ⟨rfl, rfl⟩)
    · rw [hq] at hpl
      replace hpl : r = (if (hdT (T.drop I)).1 ≠ [] then (Ex.nil, (hdT (T.drop I)).2, (11 : Int)) else if 64 < x.depth then (.nil, 0, 12) else (x, 0, 0)) := hpl
      have hdx := hf.2 x _ hq
      conv => whnf
      refine ADraw.of tok mixed false [0, 1, 2, 3, 4, 5, 6, 7, 8, 9, 10, 11, 12, 13, 14, 15, 16, 17, 18] [] (by kernel_rfl) (fun _ _ _ _ h => h) ?_
      conv => whnf
      refine ⟨⟨by omega, by omega⟩, ?_⟩
      conv => whnf
      refine aget_hd0 (i := I) (by show 0 + ((I : Nat) : Int).toNat * 2 + 0 = _; omega) hI ?_
      conv => whnf
      by_cases ht : (hdT (T.drop I)).1 = []
      · have b1 : (!((hdT (T.drop I)).1 == ([] : Str))) = false := by rw [ht]; rfl
        rw [if_neg (fun h => h ht)] at hpl
        repeat (first | (refine acond_f (b1) ?_; conv => whnf))
        have hav : ∀ φ, subs φ [x.av] = [x.av] := fun φ => by show [sub φ x.av] = _; rw [sub_av]
        refine ACall.frameH [] [] rfl (args' := [x.av]) (Hc := []) (hav _) rfl (depthR_spec x (by omega)) ?_
        rintro r0 H0 ⟨rfl, rfl⟩
        refine ⟨.inl rfl, _, rfl, ?_⟩
        conv => whnf
        by_cases hd : ((x.depth : Nat) : Int) > 64
        · repeat (first | (refine acond_t (decide_eq_true hd) ?_; conv => whnf))
          rw [if_pos (by omega)] at hpl
          subst hpl
          exact GhR.sel [] rfl (GhR.of ⟨rfl, rfl⟩)
        · repeat (first | (refine acond_f (decide_eq_false hd) ?_; conv => whnf))
          rw [if_neg (by omega)] at hpl
          subst hpl
          refine GhR.sel [] rfl (GhR.of ⟨?_, rfl⟩)
          show ARes.ret (.tup [sub _ (Ex.av _), .i .i64 0, .i .i64 0]) = _
          rw [sub_av]; rfl
      · have b1 : (!((hdT (T.drop I)).1 == ([] : Str))) = true := by simpa using ht
        rw [if_pos ht] at hpl
        subst hpl
        repeat (first | (refine acond_t (b1) ?_; conv => whnf))
        refine ACall.mono (hfl I hI 0) ?_
        rintro r0 H0 ⟨rfl, rfl⟩
        conv => whnf
        refine ADraw.of tok mixed false [0, 1, 2, 3, 4, 5, 6, 7, 8, 9, 10] [] (by kernel_rfl) (fun _ _ _ _ h => h) ?_
        conv => whnf
        exact GhR.sel [] rfl (GhR.of ⟨rfl, rfl⟩)
end Go.AK
namespace Go.AK
open Go Go.RowKit Go.Proofs
set_option linter.unusedVariables false
set_option maxRecDepth 100000
def textOK (x : Ex) : Prop := ∀ c : Int, ACall Tryd.prog 33 [x.av, .i .i64 c] [] fun r0 H => r0 = .ret (.s (sb (x.txt c))) ∧ H = []
theorem text_3 (w o : Str) (n : Int) (l r : Ex) (hl : ∀ c, (l.txt c).length ≤ 1000000000000) (hr : ∀ c, (r.txt c).length ≤ 1000000000000) (ihl : textOK l) (ihr : textOK r) (hln : l.isNil = false) (hrn : r.isNil = false) : textOK (.nd 3 w o n l r) := by
  intro c
  have h1 := hl 1
  have h2 := hr 2
  refine ACall.enter tok false Tryd.func33 rfl rfl rfl (AW_sound (ip := false) tok _ _ _ _ ?_)
  conv => whnf
  refine ACall.mono (binds_spec 3) ?_; rintro r0 H ⟨rfl, rfl⟩
  conv => whnf
  refine ADraw.tree tok mixed false [3, 10] [0, 1, 2, 3, 4, 7, 8, 9, 10, 11, 12] (.node (.cons 5 (.node (.cons 6 (.node (.cons 13 (.node (.cons 14 (.node (.cons 15 (.node .nil) .nil)) .nil)) .nil)) (.cons 13 (.node (.cons 6 (.node (.cons 14 (.node (.cons 15 (.node .nil) .nil)) .nil)) .nil)) .nil))) .nil)) (by kernel_rfl) (fun _ _ _ _ h => h) ?_
  conv => whnf
  refine ACall.mono (ihl 1) ?_; rintro r0 H ⟨rfl, rfl⟩
  conv => whnf
  refine And.intro ?_ (And.intro ?_ trivial)
  · conv => whnf
    refine ⟨by rw [sb_size]; show _ + 4 ≤ _; omega, ?_⟩
    conv => whnf
    refine ACall.mono (ihr 2) ?_; rintro r0 H ⟨rfl, rfl⟩
    conv => whnf
    refine ⟨by simp only [ByteArray.size_append, sb_size]; show _ + 4 + _ ≤ _; omega, ?_⟩
    conv => whnf
    (
    by_cases hc : bindsI 3 < c
    · (refine acond_t (decide_eq_true hc) ?_; conv => whnf)
      refine ⟨?_, ?_⟩
      · simp only [ByteArray.size_append, sb_size]; show 1 + (_ + 4 + _) ≤ _; omega
      conv => whnf
      refine ⟨?_, ?_⟩
      · simp only [ByteArray.size_append, sb_size]; show 1 + (_ + 4 + _) + 1 ≤ _; omega
      conv => whnf
      refine ⟨congrArg (fun z => ARes.ret (AV.s z)) ?_, rfl⟩
      show sb [40] ++ (sb (l.txt 1) ++ sb wOrS ++ sb (r.txt 2)) ++ sb [41] = _
      simp only [sb_append, Ex.txt, hc, decide_true, around, if_true, List.append_assoc]
      rfl
    · (refine acond_f (decide_eq_false hc) ?_; conv => whnf)
      refine ⟨congrArg (fun z => ARes.ret (AV.s z)) ?_, rfl⟩
      show sb (l.txt 1) ++ sb wOrS ++ sb (r.txt 2) = _
      simp only [sb_append, Ex.txt, hc, decide_false, around, if_true, List.append_assoc]
      rfl)
  · conv => whnf
    refine ACall.mono (ihr 2) ?_; rintro r0 H ⟨rfl, rfl⟩
    conv => whnf
    refine ⟨by rw [sb_size]; show _ + 4 ≤ _; omega, ?_⟩
    conv => whnf
    refine ⟨by simp only [ByteArray.size_append, sb_size]; show _ + 4 + _ ≤ _; omega, ?_⟩
    conv => whnf
    (
    by_cases hc : bindsI 3 < c
    · (refine acond_t (decide_eq_true hc) ?_; conv => whnf)
      refine ⟨?_, ?_⟩
      · simp only [ByteArray.size_append, sb_size]; show 1 + (_ + 4 + _) ≤ _; omega
      conv => whnf
      refine ⟨?_, ?_⟩
      · simp only [ByteArray.size_append, sb_size]; show 1 + (_ + 4 + _) + 1 ≤ _; omega
      conv => whnf
      refine ⟨congrArg (fun z => ARes.ret (AV.s z)) ?_, rfl⟩
      show sb [40] ++ (sb (l.txt 1) ++ sb wOrS ++ sb (r.txt 2)) ++ sb [41] = _
      simp only [sb_append, Ex.txt, hc, decide_true, around, if_true, List.append_assoc]
      rfl
    · (refine acond_f (decide_eq_false hc) ?_; conv => whnf)
      refine ⟨congrArg (fun z => ARes.ret (AV.s z)) ?_, rfl⟩
      show sb (l.txt 1) ++ sb wOrS ++ sb (r.txt 2) = _
      simp only [sb_append, Ex.txt, hc, decide_false, around, if_true, List.append_assoc]
      rfl)
theorem text_2 (w o : Str) (n : Int) (l r : Ex) (hl : ∀ c, (l.txt c).length ≤ 1000000000000) (hr : ∀ c, (r.txt c).length ≤ 1000000000000) (ihl : textOK l) (ihr : textOK r) (hln : l.isNil = false) (hrn : r.isNil = false) : textOK (.nd 2 w o n l r) := by
  intro c
  have h1 := hl 2
  have h2 := hr 3
  refine ACall.enter tok false Tryd.func33 rfl rfl rfl (AW_sound (ip := false) tok _ _ _ _ ?_)
  conv => whnf
  refine ACall.mono (binds_spec 2) ?_; rintro r0 H ⟨rfl, rfl⟩
  conv => whnf
  refine ADraw.tree tok mixed false [3, 10] [0, 1, 2, 3, 4, 7, 8, 9, 10, 11, 12] (.node (.cons 5 (.node (.cons 6 (.node (.cons 13 (.node (.cons 14 (.node (.cons 15 (.node .nil) .nil)) .nil)) .nil)) (.cons 13 (.node (.cons 6 (.node (.cons 14 (.node (.cons 15 (.node .nil) .nil)) .nil)) .nil)) .nil))) .nil)) (by kernel_rfl) (fun _ _ _ _ h => h) ?_
  conv => whnf
  refine ACall.mono (ihl 2) ?_; rintro r0 H ⟨rfl, rfl⟩
  conv => whnf
  refine And.intro ?_ (And.intro ?_ trivial)
  · conv => whnf
    refine ⟨by rw [sb_size]; show _ + 5 ≤ _; omega, ?_⟩
    conv => whnf
    refine ACall.mono (ihr 3) ?_; rintro r0 H ⟨rfl, rfl⟩
    conv => whnf
    refine ⟨by simp only [ByteArray.size_append, sb_size]; show _ + 5 + _ ≤ _; omega, ?_⟩
    conv => whnf
    (
    by_cases hc : bindsI 2 < c
    · (refine acond_t (decide_eq_true hc) ?_; conv => whnf)
      refine ⟨?_, ?_⟩
      · simp only [ByteArray.size_append, sb_size]; show 1 + (_ + 5 + _) ≤ _; omega
      conv => whnf
      refine ⟨?_, ?_⟩
      · simp only [ByteArray.size_append, sb_size]; show 1 + (_ + 5 + _) + 1 ≤ _; omega
      conv => whnf
      refine ⟨congrArg (fun z => ARes.ret (AV.s z)) ?_, rfl⟩
      show sb [40] ++ (sb (l.txt 2) ++ sb wAndS ++ sb (r.txt 3)) ++ sb [41] = _
      simp only [sb_append, Ex.txt, hc, decide_true, around, if_true, if_neg (show ¬ (2 : Int) = 3 by decide), List.append_assoc]
      rfl
    · (refine acond_f (decide_eq_false hc) ?_; conv => whnf)
      refine ⟨congrArg (fun z => ARes.ret (AV.s z)) ?_, rfl⟩
      show sb (l.txt 2) ++ sb wAndS ++ sb (r.txt 3) = _
      simp only [sb_append, Ex.txt, hc, decide_false, around, if_true, if_neg (show ¬ (2 : Int) = 3 by decide), List.append_assoc]
      rfl)
  · conv => whnf
    refine ACall.mono (ihr 3) ?_; rintro r0 H ⟨rfl, rfl⟩
    conv => whnf
    refine ⟨by rw [sb_size]; show _ + 5 ≤ _; omega, ?_⟩
    conv => whnf
    refine ⟨by simp only [ByteArray.size_append, sb_size]; show _ + 5 + _ ≤ _; omega, ?_⟩
    conv => whnf
    (
    by_cases hc : bindsI 2 < c
    · (refine acond_t (decide_eq_true hc) ?_; conv => whnf)
      refine ⟨?_, ?_⟩
      · simp only [ByteArray.size_append, sb_size]; show 1 + (_ + 5 + _) ≤ _; omega
      conv => whnf
      refine ⟨?_, ?_⟩
      · simp only [ByteArray.size_append, sb_size]; show 1 + (_ + 5 + _) + 1 ≤ _; omega
      conv => whnf
      refine ⟨congrArg (fun z => ARes.ret (AV.s z)) ?_, rfl⟩
      show sb [40] ++ (sb (l.txt 2) ++ sb wAndS ++ sb (r.txt 3)) ++ sb [41] = _
      simp only [sb_append, Ex.txt, hc, decide_true, around, if_true, if_neg (show ¬ (2 : Int) = 3 by decide), List.append_assoc]
      rfl
    · (refine acond_f (decide_eq_false hc) ?_; conv => whnf)
      refine ⟨congrArg (fun z => ARes.ret (AV.s z)) ?_, rfl⟩
      show sb (l.txt 2) ++ sb wAndS ++ sb (r.txt 3) = _
      simp only [sb_append, Ex.txt, hc, decide_false, around, if_true, if_neg (show ¬ (2 : Int) = 3 by decide), List.append_assoc]
      rfl)
theorem text_1 (w o : Str) (n : Int) (l r : Ex) (hl : ∀ c, (l.txt c).length ≤ 1000000000000) (ihl : textOK l) : textOK (.nd 1 w o n l r) := by
  intro c
  have h1 := hl 3
  refine ACall.enter tok false Tryd.func33 rfl rfl rfl (AW_sound (ip := false) tok _ _ _ _ ?_)
  conv => whnf
  refine ACall.mono (binds_spec 1) ?_; rintro r0 H ⟨rfl, rfl⟩
  conv => whnf
  refine ACall.mono (ihl 3) ?_; rintro r0 H ⟨rfl, rfl⟩
  conv => whnf
  refine ⟨by rw [sb_size]; show 4 + _ ≤ _; omega, ?_⟩
  conv => whnf
  by_cases hc : bindsI 1 < c
  · (refine acond_t (decide_eq_true hc) ?_; conv => whnf)
    refine ⟨?_, ?_⟩
    · simp only [ByteArray.size_append, sb_size]; show 1 + (4 + _) ≤ _; omega
    conv => whnf
    refine ⟨?_, ?_⟩
    · simp only [ByteArray.size_append, sb_size]; show 1 + (4 + _) + 1 ≤ _; omega
    conv => whnf
    refine ⟨congrArg (fun z => ARes.ret (AV.s z)) ?_, rfl⟩
    show sb [40] ++ (sb wNotS ++ sb (l.txt 3)) ++ sb [41] = _
    simp only [sb_append, Ex.txt, hc, decide_true, around, if_true, if_neg (show ¬ (1 : Int) = 3 by decide), if_neg (show ¬ (1 : Int) = 2 by decide), List.append_assoc]
    rfl
  · (refine acond_f (decide_eq_false hc) ?_; conv => whnf)
    refine ⟨congrArg (fun z => ARes.ret (AV.s z)) ?_, rfl⟩
    show sb wNotS ++ sb (l.txt 3) = _
    simp only [sb_append, Ex.txt, hc, decide_false, around, if_true, if_neg (show ¬ (1 : Int) = 3 by decide), if_neg (show ¬ (1 : Int) = 2 by decide), List.append_assoc]
    rfl
theorem text_4 (w o : Str) (n : Int) (l r : Ex) (hw : w.length ≤ 1000000000000) (ho : o.length ≤ 1000000000000) (hn : -9223372036854775808 ≤ n ∧ n ≤ 9223372036854775807) : textOK (.nd 4 w o n l r) := by
  intro c
  have hi := itoa_len n hn.1 hn.2
  refine ACall.enter tok false Tryd.func33 rfl rfl rfl (AW_sound (ip := false) tok _ _ _ _ ?_)
  conv => whnf
  refine ACall.mono (binds_spec 4) ?_; rintro r0 H ⟨rfl, rfl⟩
  conv => whnf
  refine ADraw.ofS tok mixed false [3, 8, 14] [0, 1, 2, 3, 4, 5, 6, 7, 8, 9, 10, 11, 12, 13, 14] [15, 16, 17] (by kernel_rfl) (fun _ _ _ _ h => h) ?_
  conv => whnf
  refine ⟨by rw [sb_size]; show _ + 1 ≤ _; omega, ?_⟩
  conv => whnf
  refine ⟨by simp only [ByteArray.size_append, sb_size]; show _ + 1 + _ ≤ _; omega, ?_⟩
  conv => whnf
  refine ⟨by simp only [ByteArray.size_append, sb_size]; show _ + 1 + _ + 1 ≤ _; omega, ?_⟩
  conv => whnf
  refine ACall.mono (itoa_spec n hn.1 hn.2 []) ?_; rintro r0 H ⟨rfl, rfl⟩
  conv => whnf
  refine ⟨by simp only [ByteArray.size_append, sb_size]; show _ + 1 + _ + 1 + (sb (Lib.itoa n)).size ≤ _; rw [sb_size]; omega, ?_⟩
  conv => whnf
  by_cases hc : bindsI 4 < c
  · (refine acond_t (decide_eq_true hc) ?_; conv => whnf)
    refine ⟨by simp only [ByteArray.size_append, sb_size]; show 1 + (_ + 1 + _ + 1 + (sb (Lib.itoa n)).size) ≤ _; rw [sb_size]; omega, ?_⟩
    conv => whnf
    refine ⟨by simp only [ByteArray.size_append, sb_size]; show 1 + (_ + 1 + _ + 1 + (sb (Lib.itoa n)).size) + 1 ≤ _; rw [sb_size]; omega, ?_⟩
    conv => whnf
    refine ⟨congrArg (fun z => ARes.ret (AV.s z)) ?_, rfl⟩
    show sb [40] ++ (sb w ++ sb [32] ++ sb o ++ sb [32] ++ sb (Lib.itoa n)) ++ sb [41] = _
    simp only [sb_append, Ex.txt, hc, decide_true, around, if_true, if_neg (show ¬ (4 : Int) = 3 by decide), if_neg (show ¬ (4 : Int) = 2 by decide), if_neg (show ¬ (4 : Int) = 1 by decide), List.append_assoc]
    rfl
  · (refine acond_f (decide_eq_false hc) ?_; conv => whnf)
    refine ⟨congrArg (fun z => ARes.ret (AV.s z)) ?_, rfl⟩
    show sb w ++ sb [32] ++ sb o ++ sb [32] ++ sb (Lib.itoa n) = _
    simp only [sb_append, Ex.txt, hc, decide_false, around, if_true, if_neg (show ¬ (4 : Int) = 3 by decide), if_neg (show ¬ (4 : Int) = 2 by decide), if_neg (show ¬ (4 : Int) = 1 by decide), List.append_assoc]
    rfl
theorem text_5 (w o : Str) (n : Int) (l r : Ex) (hw : w.length ≤ 1000000000000) : textOK (.nd 5 w o n l r) := by
  intro c
  refine ACall.enter tok false Tryd.func33 rfl rfl rfl (AW_sound (ip := false) tok _ _ _ _ ?_)
  conv => whnf
  refine ACall.mono (binds_spec 5) ?_; rintro r0 H ⟨rfl, rfl⟩
  conv => whnf
  by_cases hc : bindsI 5 < c
  · (refine acond_t (decide_eq_true hc) ?_; conv => whnf)
    refine ⟨by simp only [ByteArray.size_append, sb_size]; show 1 + _ ≤ _; omega, ?_⟩
    conv => whnf
    refine ⟨by simp only [ByteArray.size_append, sb_size]; show 1 + _ + 1 ≤ _; omega, ?_⟩
    conv => whnf
    refine ⟨congrArg (fun z => ARes.ret (AV.s z)) ?_, rfl⟩
    show sb [40] ++ (sb w) ++ sb [41] = _
    simp only [sb_append, Ex.txt, hc, decide_true, around, if_true, if_neg (show ¬ (5 : Int) = 3 by decide), if_neg (show ¬ (5 : Int) = 2 by decide), if_neg (show ¬ (5 : Int) = 1 by decide), if_neg (show ¬ (5 : Int) = 4 by decide), List.append_assoc]
    rfl
  · (refine acond_f (decide_eq_false hc) ?_; conv => whnf)
    refine ⟨congrArg (fun z => ARes.ret (AV.s z)) ?_, rfl⟩
    show sb w = _
    simp only [sb_append, Ex.txt, hc, decide_false, around, if_true, if_neg (show ¬ (5 : Int) = 3 by decide), if_neg (show ¬ (5 : Int) = 2 by decide), if_neg (show ¬ (5 : Int) = 1 by decide), if_neg (show ¬ (5 : Int) = 4 by decide), List.append_assoc]
    rfl
theorem text_6 (w o : Str) (n : Int) (l r : Ex) : textOK (.nd 6 w o n l r) := by
  intro c
  refine ACall.enter tok false Tryd.func33 rfl rfl rfl (AW_sound (ip := false) tok _ _ _ _ ?_)
  conv => whnf
  refine ACall.mono (binds_spec 6) ?_; rintro r0 H ⟨rfl, rfl⟩
  conv => whnf
  refine ACall.mono (formatBool_spec true []) ?_; rintro r0 H ⟨rfl, rfl⟩
  conv => whnf
  by_cases hc : bindsI 6 < c
  · (refine acond_t (decide_eq_true hc) ?_; conv => whnf)
    refine ⟨by decide, ?_⟩
    conv => whnf
    refine ⟨by decide, ?_⟩
    conv => whnf
    refine ⟨congrArg (fun z => ARes.ret (AV.s z)) ?_, rfl⟩
    simp only [Ex.txt, hc, decide_true, around, if_true, if_neg (show ¬ (6 : Int) = 3 by decide), if_neg (show ¬ (6 : Int) = 2 by decide), if_neg (show ¬ (6 : Int) = 1 by decide), if_neg (show ¬ (6 : Int) = 4 by decide), if_neg (show ¬ (6 : Int) = 5 by decide)]
    rfl
  · (refine acond_f (decide_eq_false hc) ?_; conv => whnf)
    refine ⟨congrArg (fun z => ARes.ret (AV.s z)) ?_, rfl⟩
    simp only [Ex.txt, hc, decide_false, around, if_neg (show ¬ (6 : Int) = 3 by decide), if_neg (show ¬ (6 : Int) = 2 by decide), if_neg (show ¬ (6 : Int) = 1 by decide), if_neg (show ¬ (6 : Int) = 4 by decide), if_neg (show ¬ (6 : Int) = 5 by decide)]
    rfl
theorem text_7 (w o : Str) (n : Int) (l r : Ex) : textOK (.nd 7 w o n l r) := by
  intro c
  refine ACall.enter tok false Tryd.func33 rfl rfl rfl (AW_sound (ip := false) tok _ _ _ _ ?_)
  conv => whnf
  refine ACall.mono (binds_spec 7) ?_; rintro r0 H ⟨rfl, rfl⟩
  conv => whnf
  refine ACall.mono (formatBool_spec false []) ?_; rintro r0 H ⟨rfl, rfl⟩
  conv => whnf
  by_cases hc : bindsI 7 < c
  · (refine acond_t (decide_eq_true hc) ?_; conv => whnf)
    refine ⟨by decide, ?_⟩
    conv => whnf
    refine ⟨by decide, ?_⟩
    conv => whnf
    refine ⟨congrArg (fun z => ARes.ret (AV.s z)) ?_, rfl⟩
    simp only [Ex.txt, hc, decide_true, around, if_true, if_neg (show ¬ (7 : Int) = 3 by decide), if_neg (show ¬ (7 : Int) = 2 by decide), if_neg (show ¬ (7 : Int) = 1 by decide), if_neg (show ¬ (7 : Int) = 4 by decide), if_neg (show ¬ (7 : Int) = 5 by decide), if_neg (show ¬ (7 : Int) = 6 by decide)]
    rfl
  · (refine acond_f (decide_eq_false hc) ?_; conv => whnf)
    refine ⟨congrArg (fun z => ARes.ret (AV.s z)) ?_, rfl⟩
    simp only [Ex.txt, hc, decide_false, around, if_neg (show ¬ (7 : Int) = 3 by decide), if_neg (show ¬ (7 : Int) = 2 by decide), if_neg (show ¬ (7 : Int) = 1 by decide), if_neg (show ¬ (7 : Int) = 4 by decide), if_neg (show ¬ (7 : Int) = 5 by decide), if_neg (show ¬ (7 : Int) = 6 by decide)]
    rfl
end Go.AK
namespace Go.AK
open Go Go.RowKit Go.Proofs
set_option linter.unusedVariables false
set_option maxRecDepth 100000
/-- A right expression. -/
inductive GT : Ex → Prop where
  | not (l : Ex) : GT l → GT (.nd 1 [] [] 0 l .nil)
  | and (l r : Ex) : GT l → GT r → GT (.nd 2 [] [] 0 l r)
  | or (l r : Ex) : GT l → GT r → GT (.nd 3 [] [] 0 l r)
  | cmp (w o : Str) (n : Int) : numbersL.contains w = true → opsL.contains o = true → 0 ≤ n → GT (.nd 4 w o n .nil .nil)
  | flag (w : Str) : flagsL.contains w = true → GT (.nd 5 w [] 0 .nil .nil)
  | tru : GT (.nd 6 [] [] 0 .nil .nil)
  | fls : GT (.nd 7 [] [] 0 .nil .nil)
theorem nil_of {x : Ex} (h : x.isNil = true) : x = .nil := by cases x <;> first | rfl | exact nomatch h
theorem GT.ne {x : Ex} (h : GT x) : x.isNil = false := by cases h <;> rfl
theorem GT_of : ∀ (x : Ex), x.treeE = 0 → x.isNil = false → GT x
  | .nil, _, h => nomatch h
  | .nd k w o n l r, h, _ => by
    rw [Ex.treeE] at h
    have hn : nodeE k w o n (!l.isNil) (!r.isNil) = 0 := by
      split at h
      · assumption
      · exact h
    rw [if_pos hn] at h
    have hl : l.treeE = 0 := by
      split at h
      · assumption
      · exact h
    rw [if_pos hl] at h
    have il := GT_of l hl
    have ir := GT_of r h
    unfold nodeE at hn
    split at hn
    · rename_i hk
      split at hn
      · rename_i hc
        obtain ⟨rfl, rfl, rfl, h1, h2⟩ := hc
        have h1 : l.isNil = false := by simpa using h1
        have h2 : r.isNil = false := by simpa using h2
        rcases hk with rfl | rfl
        · exact .and l r (il h1) (ir h2)
        · exact .or l r (il h1) (ir h2)
      · exact absurd hn (by decide)
    split at hn
    · rename_i hk
      split at hn
      · rename_i hc
        obtain ⟨rfl, rfl, rfl, h1, h2⟩ := hc
        have h1 : l.isNil = false := by simpa using h1
        have h2 : r = .nil := nil_of (by simpa using h2)
        subst hk; subst h2
        exact .not l (il h1)
      · exact absurd hn (by decide)
    split at hn
    · rename_i hk
      split at hn
      · rename_i hc
        obtain ⟨rfl, rfl, rfl, h1, h2⟩ := hc
        have h1 : l = .nil := nil_of (by simpa using h1)
        have h2 : r = .nil := nil_of (by simpa using h2)
        subst h1; subst h2
        rcases hk with rfl | rfl
        · exact .tru
        · exact .fls
      · exact absurd hn (by decide)
    split at hn
    · rename_i hk
      split at hn
      · rename_i hc
        obtain ⟨rfl, rfl, h1, h2⟩ := hc
        have h1 : l = .nil := nil_of (by simpa using h1)
        have h2 : r = .nil := nil_of (by simpa using h2)
        subst h1; subst h2; subst hk
        split at hn
        · rename_i hw; exact .flag w hw
        · exact absurd hn (by decide)
      · exact absurd hn (by decide)
    split at hn
    · rename_i hk
      split at hn
      · rename_i hc
        obtain ⟨h1, h2⟩ := hc
        have h1 : l = .nil := nil_of (by simpa using h1)
        have h2 : r = .nil := nil_of (by simpa using h2)
        subst h1; subst h2; subst hk
        split at hn
        · rename_i hw
          split at hn
          · rename_i ho
            split at hn
            · exact absurd hn (by decide)
            · exact .cmp w o n hw ho (by omega)
          · exact absurd hn (by decide)
        · exact absurd hn (by decide)
      · exact absurd hn (by decide)
    · exact absurd hn (by decide)
theorem GT.treeE {x : Ex} (h : GT x) : x.treeE = 0 := by
  induction h with
  | not l hl ih =>
    have e : nodeE 1 [] [] 0 (!l.isNil) (!Ex.nil.isNil) = 0 := by rw [hl.ne]; rfl
    rw [Ex.treeE, if_pos e, if_pos ih]; rfl
  | and l r hl hr il ir => simp [Ex.treeE, nodeE, il, ir, hl.ne, hr.ne]
  | or l r hl hr il ir => simp [Ex.treeE, nodeE, il, ir, hl.ne, hr.ne]
  | cmp w o n hw ho hn =>
    have e : nodeE 4 w o n (!Ex.nil.isNil) (!Ex.nil.isNil) = 0 := by
      show (if (4 : Int) = 2 ∨ (4 : Int) = 3 then _ else _) = _
      rw [if_neg (by decide), if_neg (by decide), if_neg (by decide), if_neg (by decide), if_pos rfl, if_pos ⟨rfl, rfl⟩, if_pos hw, if_pos ho, if_neg (by omega)]
    rw [Ex.treeE, if_pos e]; rfl
  | flag w hw =>
    have e : nodeE 5 w [] 0 (!Ex.nil.isNil) (!Ex.nil.isNil) = 0 := by
      show (if (5 : Int) = 2 ∨ (5 : Int) = 3 then _ else _) = _
      rw [if_neg (by decide), if_neg (by decide), if_neg (by decide), if_pos rfl, if_pos ⟨rfl, rfl, rfl, rfl⟩, if_pos hw]
    rw [Ex.treeE, if_pos e]; rfl
  | tru => rfl
  | fls => rfl
theorem textOK_of {x : Ex} (h : GT x) (hn : x.okN) (hw : x.wt ≤ 100000000000) : textOK x := by
  induction h with
  | not l hl ih =>
    simp only [Ex.wt] at hw
    exact text_1 _ _ _ l _ (fun c => Nat.le_trans (Ex.txt_le l c hn.2.1) (by omega)) (ih hn.2.1 (by omega))
  | and l r hl hr il ir =>
    simp only [Ex.wt] at hw
    exact text_2 _ _ _ l r (fun c => Nat.le_trans (Ex.txt_le l c hn.2.1) (by omega)) (fun c => Nat.le_trans (Ex.txt_le r c hn.2.2) (by omega)) (il hn.2.1 (by omega)) (ir hn.2.2 (by omega)) hl.ne hr.ne
  | or l r hl hr il ir =>
    simp only [Ex.wt] at hw
    exact text_3 _ _ _ l r (fun c => Nat.le_trans (Ex.txt_le l c hn.2.1) (by omega)) (fun c => Nat.le_trans (Ex.txt_le r c hn.2.2) (by omega)) (il hn.2.1 (by omega)) (ir hn.2.2 (by omega)) hl.ne hr.ne
  | cmp w o n hw' ho hn' =>
    simp only [Ex.wt] at hw
    exact text_4 w o n _ _ (by omega) (by omega) hn.1
  | flag w hw' =>
    simp only [Ex.wt] at hw
    exact text_5 w _ _ _ _ (by omega)
  | tru => exact text_6 _ _ _ _ _
  | fls => exact text_7 _ _ _ _ _
/-- What Text answers. -/
def Ex.textE (x : Ex) : Str := if x.checkE = 0 then x.txt 0 else []
theorem check_ok {x : Ex} (h : x.checkE = 0) : x.isNil = false ∧ x.depth ≤ 64 ∧ x.treeE = 0 := by
  unfold Ex.checkE at h
  split at h
  · exact absurd h (by decide)
  split at h
  · exact absurd h (by decide)
  · rename_i h1 h2
    exact ⟨Bool.eq_false_iff.2 h1, by omega, h⟩
theorem Text_spec (x : Ex) (hd : x.depth < 1000000) (hn : x.okN) (hw : x.wt ≤ 100000000000) :
    ACall Tryd.prog 17 [x.av] [] fun R H => R = .ret (.tup [.s (sb x.textE), .i .i64 x.checkE]) ∧ H = [] := by
  refine ACall.enter tok false Tryd.func17 rfl rfl rfl (AW_sound (ip := false) tok _ _ _ _ ?_)
  conv => whnf
  refine ACall.mono (check_spec x hd) ?_; rintro r0 H ⟨rfl, rfl⟩
  conv => whnf
  have he : x.textE = if x.checkE = 0 then x.txt 0 else [] := rfl
  have hok := check_ok (x := x)
  generalize x.textE = t at he ⊢
  generalize x.checkE = e at he hok ⊢
  by_cases h : e = 0
  · have b1 : (e != 0) = false := by rw [h]; rfl
    repeat (first | (refine acond_f (b1) ?_; conv => whnf))
    obtain ⟨h1, h2, h3⟩ := hok h
    rw [if_pos h] at he
    refine ACall.mono (textOK_of (GT_of x h3 h1) hn hw 0) ?_; rintro r0 H ⟨rfl, rfl⟩
    conv => whnf
    subst h; subst he
    exact ⟨rfl, rfl⟩
  · have b1 : (e != 0) = true := by simpa using h
    repeat (first | (refine acond_t (b1) ?_; conv => whnf))
    rw [if_neg h] at he
    subst he
    exact ⟨rfl, rfl⟩
end Go.AK
namespace Go.AK
open Go Go.RowKit Go.Proofs
set_option linter.unusedVariables false
set_option maxRecDepth 100000
def awA : Str := [105, 100, 61, 61, 53, 32, 97, 110, 100, 32, 110, 111, 116, 40, 101, 120, 116, 32, 111, 114, 32, 108, 101, 110, 60, 50, 41]
def awB : Str := [97, 32, 97, 110, 100, 32, 98]
def awC : Str := [101, 120, 116, 32, 101, 120, 116]
def awD : Str := [105, 100, 32, 61, 61, 32]
def awT : Str := [105, 100, 32, 61, 61, 32, 53, 32, 97, 110, 100, 32, 110, 111, 116, 32, 40, 101, 120, 116, 32, 111, 114, 32, 108, 101, 110, 32, 60, 32, 50, 41]
def awX : Ex := .nd 2 [] [] 0 (.nd 4 [105, 100] [61, 61] 5 .nil .nil) (.nd 1 [] [] 0 (.nd 3 [] [] 0 (.nd 5 [101, 120, 116] [] 0 .nil .nil) (.nd 4 [108, 101, 110] [60] 2 .nil .nil)) .nil)
theorem awA_eq : parseE awA = (awX, 0, 0) := by kernel_rfl
theorem awB_eq : parseE awB = (.nil, 0, 21) := by kernel_rfl
theorem awC_eq : parseE awC = (.nil, 4, 11) := by kernel_rfl
theorem awD_eq : parseE awD = (.nil, 6, 11) := by kernel_rfl
theorem awX_text : awX.textE = awT ∧ awX.checkE = 0 := ⟨by kernel_rfl, by kernel_rfl⟩
theorem awake_spec : ACall Tryd.prog 9 [] [] fun R H => R = .ret (.b true) ∧ H = [] := by
  have pA := parse_spec awA (by decide)
  have pB := parse_spec awB (by decide)
  have pC := parse_spec awC (by decide)
  have pD := parse_spec awD (by decide)
  have pT := Text_spec awX (by decide) (by simp only [Ex.okN, awX]; decide) (by decide)
  rw [awA_eq] at pA
  rw [awB_eq] at pB
  rw [awC_eq] at pC
  rw [awD_eq] at pD
  rw [awX_text.1, awX_text.2] at pT
  refine ACall.enter tok false Tryd.func9 rfl rfl rfl (AW_sound (ip := false) tok _ _ _ _ ?_)
  conv => whnf
  refine ACall.mono pA ?_; rintro r0 H ⟨rfl, rfl⟩
  conv => whnf
  refine ACall.mono pT ?_; rintro r0 H ⟨rfl, rfl⟩
  conv => whnf
  refine ACall.mono pB ?_; rintro r0 H ⟨rfl, rfl⟩
  conv => whnf
  refine ACall.mono pC ?_; rintro r0 H ⟨rfl, rfl⟩
  conv => whnf
  refine ACall.mono pD ?_; rintro r0 H ⟨rfl, rfl⟩
  conv => whnf
  exact ⟨rfl, rfl⟩
end Go.AK
namespace Go.AK
open Go Go.RowKit Go.Proofs
set_option linter.unusedVariables false
set_option maxRecDepth 100000
theorem equal_spec (x : Ex) : ∀ y : Ex, ACall Tryd.prog 21 [x.av, y.av] [] fun r H => r = .ret (.b (x.same y)) ∧ H = [] := by
  induction x with
  | nil =>
    intro y
    cases y with
    | nil =>
      refine ACall.enter tok false Tryd.func21 rfl rfl rfl (AW_sound (ip := false) tok _ _ _ _ ?_)
      conv => whnf
      exact ⟨rfl, rfl⟩
    | nd k w o n l r =>
      refine ACall.enter tok false Tryd.func21 rfl rfl rfl (AW_sound (ip := false) tok _ _ _ _ ?_)
      conv => whnf
      exact ⟨rfl, rfl⟩
  | nd k w o n l r ihl ihr =>
    intro y
    cases y with
    | nil =>
      refine ACall.enter tok false Tryd.func21 rfl rfl rfl (AW_sound (ip := false) tok _ _ _ _ ?_)
      conv => whnf
      exact ⟨rfl, rfl⟩
    | nd k' w' o' n' l' r' =>
      refine ACall.enter tok false Tryd.func21 rfl rfl rfl (AW_sound (ip := false) tok _ _ _ _ ?_)
      conv => whnf
      refine ADraw.ph tok mixed false [([0, 1, 2, 3, 4, 5, 6, 7, 8, 9, 10, 11, 12, 13, 14, 15, 16, 17, 18, 19, 20, 21, 22, 23, 24, 25, 26, 27, 28, 29, 30, 31, 32, 33, 34, 35, 36, 37, 38, 39, 40, 41, 42, 43, 44, 45, 46, 47, 48, 49, 50], 51), ([52, 53, 54, 55, 56, 57, 58, 59, 60, 61], 62)] [63, 64] (by kernel_rfl) (fun _ _ _ _ h => h) ?_
      conv => whnf
      generalize hk : (k == k') = bhk
      cases bhk with
      | false =>
        conv => whnf
        exact ⟨congrArg (fun b => ARes.ret (AV.b b)) (by rw [Ex.same, hk]; rfl), rfl⟩
      | true =>
        conv => whnf
        generalize hw : ((sb w).data.toList == (sb w').data.toList) = bhw
        cases bhw with
        | false =>
          conv => whnf
          exact ⟨congrArg (fun b => ARes.ret (AV.b b)) (by rw [Ex.same, hk, show (w == w') = false from hw]; rfl), rfl⟩
        | true =>
          conv => whnf
          generalize ho : ((sb o).data.toList == (sb o').data.toList) = bho
          cases bho with
          | false =>
            conv => whnf
            exact ⟨congrArg (fun b => ARes.ret (AV.b b)) (by rw [Ex.same, hk, show (w == w') = true from hw, show (o == o') = false from ho]; rfl), rfl⟩
          | true =>
            conv => whnf
            generalize hn : (n == n') = bhn
            cases bhn with
            | false =>
              conv => whnf
              exact ⟨congrArg (fun b => ARes.ret (AV.b b)) (by rw [Ex.same, hk, show (w == w') = true from hw, show (o == o') = true from ho, hn]; rfl), rfl⟩
            | true =>
              conv => whnf
              refine ACall.mono (ihl l') ?_; rintro r0 H ⟨rfl, rfl⟩
              conv => whnf
              generalize hl : (l.same l') = bhl
              cases bhl with
              | false =>
                conv => whnf
                exact ⟨congrArg (fun b => ARes.ret (AV.b b)) (by rw [Ex.same, hk, show (w == w') = true from hw, show (o == o') = true from ho, hn, hl]; rfl), rfl⟩
              | true =>
                conv => whnf
                refine ACall.mono (ihr r') ?_; rintro r0 H ⟨rfl, rfl⟩
                conv => whnf
                exact ⟨congrArg (fun b => ARes.ret (AV.b b)) (by rw [Ex.same, hk, show (w == w') = true from hw, show (o == o') = true from ho, hn, hl]; rfl), rfl⟩
theorem sameR_spec (x : Ex) : ∀ y : Ex, ACall Tryd.prog 12 [x.av, y.av] [] fun r H => r = .ret (.b (x.same y)) ∧ H = [] := by
  induction x with
  | nil =>
    intro y
    cases y with
    | nil =>
      refine ACall.enter tok false Tryd.func12 rfl rfl rfl (AW_sound (ip := false) tok _ _ _ _ ?_)
      conv => whnf
      exact ⟨rfl, rfl⟩
    | nd k w o n l r =>
      refine ACall.enter tok false Tryd.func12 rfl rfl rfl (AW_sound (ip := false) tok _ _ _ _ ?_)
      conv => whnf
      exact ⟨rfl, rfl⟩
  | nd k w o n l r ihl ihr =>
    intro y
    cases y with
    | nil =>
      refine ACall.enter tok false Tryd.func12 rfl rfl rfl (AW_sound (ip := false) tok _ _ _ _ ?_)
      conv => whnf
      exact ⟨rfl, rfl⟩
    | nd k' w' o' n' l' r' =>
      refine ACall.enter tok false Tryd.func12 rfl rfl rfl (AW_sound (ip := false) tok _ _ _ _ ?_)
      conv => whnf
      refine ADraw.ph tok mixed false [([0, 1, 2, 3, 4, 5, 6, 7, 8, 9, 10, 11, 12, 13, 14, 15, 16, 17, 18, 19, 20, 21, 22, 23, 24, 25, 26, 27, 28, 29, 30, 31, 32, 33, 34, 35, 36, 37, 38, 39, 40, 41, 42, 43, 44, 45, 46, 47, 48, 49, 50], 51), ([52, 53, 54, 55, 56, 57, 58, 59, 60, 61], 62)] [63, 64] (by kernel_rfl) (fun _ _ _ _ h => h) ?_
      conv => whnf
      generalize hk : (k == k') = bhk
      cases bhk with
      | false =>
        conv => whnf
        exact ⟨congrArg (fun b => ARes.ret (AV.b b)) (by rw [Ex.same, hk]; rfl), rfl⟩
      | true =>
        conv => whnf
        generalize hw : ((sb w).data.toList == (sb w').data.toList) = bhw
        cases bhw with
        | false =>
          conv => whnf
          exact ⟨congrArg (fun b => ARes.ret (AV.b b)) (by rw [Ex.same, hk, show (w == w') = false from hw]; rfl), rfl⟩
        | true =>
          conv => whnf
          generalize ho : ((sb o).data.toList == (sb o').data.toList) = bho
          cases bho with
          | false =>
            conv => whnf
            exact ⟨congrArg (fun b => ARes.ret (AV.b b)) (by rw [Ex.same, hk, show (w == w') = true from hw, show (o == o') = false from ho]; rfl), rfl⟩
          | true =>
            conv => whnf
            generalize hn : (n == n') = bhn
            cases bhn with
            | false =>
              conv => whnf
              exact ⟨congrArg (fun b => ARes.ret (AV.b b)) (by rw [Ex.same, hk, show (w == w') = true from hw, show (o == o') = true from ho, hn]; rfl), rfl⟩
            | true =>
              conv => whnf
              refine ACall.mono (ihl l') ?_; rintro r0 H ⟨rfl, rfl⟩
              conv => whnf
              generalize hl : (l.same l') = bhl
              cases bhl with
              | false =>
                conv => whnf
                exact ⟨congrArg (fun b => ARes.ret (AV.b b)) (by rw [Ex.same, hk, show (w == w') = true from hw, show (o == o') = true from ho, hn, hl]; rfl), rfl⟩
              | true =>
                conv => whnf
                refine ACall.mono (ihr r') ?_; rintro r0 H ⟨rfl, rfl⟩
                conv => whnf
                exact ⟨congrArg (fun b => ARes.ret (AV.b b)) (by rw [Ex.same, hk, show (w == w') = true from hw, show (o == o') = true from ho, hn, hl]; rfl), rfl⟩
end Go.AK
namespace Go.AK
open Go Go.RowKit Go.Proofs
set_option linter.unusedVariables false
set_option maxRecDepth 100000
theorem same_self (x : Ex) : x.same x = true := Ex.same_iff.2 rfl
theorem exprParses_spec0 (s : Str) : ACall Tryd.prog 3 [.s (sb s)] [] fun R H => R = .ret (.b true) ∧ H = [] := by
  refine ACall.enter tok false Tryd.func3 rfl rfl rfl (AW_sound (ip := false) tok _ _ _ _ ?_)
  have aw := awake_spec
  by_cases h : s.length ≤ 1000 ∨ (8192 < s.length ∧ s.length ≤ 9000)
  · have hp := parse_spec s (by omega)
    have hr := parseR_spec s (by omega)
    obtain ⟨x, at_, e, hx⟩ : ∃ x at_ e, parseE s = (x, at_, e) := ⟨_, _, _, rfl⟩
    rw [hx] at hp hr
    have hs := sameR_spec x x
    rw [same_self] at hs
    have hpl := plain_spec x
    conv => whnf
    have go : (¬ ((sb s).size : Int) > 1000) ∨ (((sb s).size : Int) > 1000 ∧ ¬ ((sb s).size : Int) ≤ 8192) := by rw [sb_size]; omega
    have go2 : ¬ ((sb s).size : Int) > 9000 := by rw [sb_size]; omega
    have b0 : (((at_ : Nat) : Int) == (at_ : Int)) = true := by simp
    have b1 : (e == e) = true := by simp
    rcases go with g1 | ⟨g1, g2⟩
    · repeat (first | (refine acond_f (decide_eq_false g1) ?_; conv => whnf) | (refine acond_f (decide_eq_false go2) ?_; conv => whnf))
      refine ACall.mono hp ?_; rintro r0 H ⟨rfl, rfl⟩
      conv => whnf
      refine ACall.mono hr ?_; rintro r0 H ⟨rfl, rfl⟩
      conv => whnf
      refine ACall.mono hpl ?_; rintro r0 H ⟨rfl, rfl⟩
      conv => whnf
      refine ACall.mono hs ?_; rintro r0 H ⟨rfl, rfl⟩
      conv => whnf
      repeat (first | (refine acond_t (b0) ?_; conv => whnf) | (refine acond_t (b1) ?_; conv => whnf))
      refine ACall.mono aw ?_; rintro r0 H ⟨rfl, rfl⟩
      conv => whnf
      repeat (first | (refine acond_t (b0) ?_; conv => whnf) | (refine acond_t (b1) ?_; conv => whnf))
      exact ⟨rfl, rfl⟩
    · repeat (first | (refine acond_t (decide_eq_true g1) ?_; conv => whnf) | (refine acond_f (decide_eq_false g2) ?_; conv => whnf) | (refine acond_f (decide_eq_false go2) ?_; conv => whnf))
      refine ACall.mono hp ?_; rintro r0 H ⟨rfl, rfl⟩
      conv => whnf
      refine ACall.mono hr ?_; rintro r0 H ⟨rfl, rfl⟩
      conv => whnf
      refine ACall.mono hpl ?_; rintro r0 H ⟨rfl, rfl⟩
      conv => whnf
      refine ACall.mono hs ?_; rintro r0 H ⟨rfl, rfl⟩
      conv => whnf
      repeat (first | (refine acond_t (b0) ?_; conv => whnf) | (refine acond_t (b1) ?_; conv => whnf))
      refine ACall.mono aw ?_; rintro r0 H ⟨rfl, rfl⟩
      conv => whnf
      repeat (first | (refine acond_t (b0) ?_; conv => whnf) | (refine acond_t (b1) ?_; conv => whnf))
      exact ⟨rfl, rfl⟩
  · conv => whnf
    by_cases g1 : ((sb s).size : Int) > 1000
    · by_cases g2 : ((sb s).size : Int) ≤ 8192
      · repeat (first | (refine acond_t (decide_eq_true g1) ?_; conv => whnf) | (refine acond_t (decide_eq_true g2) ?_; conv => whnf))
        refine ACall.mono aw ?_; rintro r0 H ⟨rfl, rfl⟩
        conv => whnf
        exact ⟨rfl, rfl⟩
      · have g3 : ((sb s).size : Int) > 9000 := by rw [sb_size] at g1 g2 ⊢; omega
        repeat (first | (refine acond_t (decide_eq_true g1) ?_; conv => whnf) | (refine acond_f (decide_eq_false g2) ?_; conv => whnf) | (refine acond_t (decide_eq_true g3) ?_; conv => whnf))
        refine ACall.mono aw ?_; rintro r0 H ⟨rfl, rfl⟩
        conv => whnf
        exact ⟨rfl, rfl⟩
    · rw [sb_size] at g1; omega
theorem exprParses_spec (x : ByteArray) : ACall Tryd.prog 3 [.s x] [] fun R H => R = .ret (.b true) ∧ H = [] := exprParses_spec0 x.data.toList
end Go.AK
