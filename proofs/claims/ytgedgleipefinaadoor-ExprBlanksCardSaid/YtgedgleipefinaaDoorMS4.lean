/- Texts SENext, SENum, SEPlain, SEPp, SEOpd, SEPpAll, SELazy, SEPlA, SEText, SETextQ, SEPlB, SEParse: an evaluator of the model's code, proved sound, and what the program's functions do, for all inputs. -/
import Derived.Test.YtgedgleipefinaaDoorMS3
import Derived.Lib.AtoiAllCases
set_option linter.unusedVariables false
set_option linter.unusedSimpArgs false
set_option linter.unusedSectionVars false
namespace Go.AK
open Go Go.RowKit Go.Proofs
set_option linter.unusedVariables false
set_option maxRecDepth 100000
/-- The parser stands at these tokens. -/
def St (s : Str) (L : List Tok) : Prop := ∃ p, p ≤ s.length ∧ (s.drop p).head? ≠ some 32 ∧ L = lexS (s.drop p) p ∧ (hdT L).1 ≠ [63]
/-- What 'next' comes to. -/
def NextR (s : Str) (L : List Tok) (o : Int) (R : ARes) (H : Heap) : Prop :=
  ((hdT L).1 = [63] ∧ R = .pan (wrAV (hdT L).2 11) ∧ ∃ cs, H = [.c cs]) ∨ ((hdT L).1 ≠ [63] ∧ R = .ret (.tup []) ∧ H = [.c (pcl s (hdT L).2 (hdT L).1 o)] ∧ St s L)
theorem opFold_pos (r : Str) : ∀ (l : List Str) (n : Nat), n ≠ 0 → l.foldl (opStep r) n = n
  | [], n, _ => rfl
  | t :: l, n, h => by
    rw [List.foldl_cons, show opStep r n t = n from by unfold opStep; rw [if_neg (fun e => h e.1)], opFold_pos r l n h]
theorem run_one (r : Str) (h : 0 < runB 97 122 r) : runB 48 57 r = 0 := by
  cases r with
  | nil => rfl
  | cons c r =>
    unfold runB at h ⊢
    split at h
    · rename_i h2; rw [if_neg (by omega)]
    · omega
theorem tokLen_fold (r : Str) (n : Nat) (h : (n : Int) = if ((runB 48 57 r : Nat) : Int) > ((runB 97 122 r : Nat) : Int) then ((runB 48 57 r : Nat) : Int) else ((runB 97 122 r : Nat) : Int)) : opsP.foldl (opStep r) n = tokLen r := by
  have h1 := run_one r
  unfold tokLen
  by_cases a : 0 < runB 97 122 r
  · have := h1 a
    rw [if_pos a, opFold_pos]
    · rw [if_neg (by omega)] at h; omega
    · rw [if_neg (by omega)] at h; omega
  · rw [if_neg a]
    by_cases b : 0 < runB 48 57 r
    · rw [if_pos b, opFold_pos]
      · rw [if_pos (by omega)] at h; omega
      · rw [if_pos (by omega)] at h; omega
    · rw [if_neg b]
      have : n = 0 := by split at h <;> omega
      subst this; rfl
theorem opFold_le (r : Str) (n : Nat) (h : n ≤ r.length) : ∀ (l : List Str), l.foldl (opStep r) n ≤ r.length := by
  intro l
  induction l generalizing n with
  | nil => exact h
  | cons t l ih =>
    refine ih _ ?_
    unfold opStep
    split
    · rename_i h2; exact prefix_len h2.2
    · exact h
theorem opsP_len (k : Nat) (h : k < opsP.length) : (opsP[k]).length ≤ 2 ∧ 0 < (opsP[k]).length := by
  have : ∀ t ∈ opsP, t.length ≤ 2 ∧ 0 < t.length := by decide
  exact this _ (List.getElem_mem h)
theorem next_spec (s tk : Str) (a : Nat) (o : Int) (h : a + tk.length ≤ s.length) (hs : s.length ≤ 100000) :
    ACall Tryd.prog 25 [pAV] [.c (pcl s a tk o)] (NextR s (lexS (s.drop (a + tk.length)) (a + tk.length)) o) := by
  refine ACall.gh ?_
  refine ACall.enter tok false Tryd.func25 rfl rfl rfl (AW_sound (ip := false) tok _ _ _ _ ?_)
  have hb0 : IntKind.i64.wrap ((a : Int) + ((sb tk).size : Nat)) = ((a + tk.length : Nat) : Int) := by rw [IntKind.wrap_i64, sb_size]; omega
  generalize hp : a + tk.length = p at *
  have hb1 : IntKind.i64.wrap ((p : Int) + (runB 32 32 (s.drop p) : Nat)) = ((p + runB 32 32 (s.drop p) : Nat) : Int) := by
    have := runB_le 32 32 (s.drop p); rw [List.length_drop] at this; rw [IntKind.wrap_i64]; omega
  have hq : p + runB 32 32 (s.drop p) ≤ s.length := by have := runB_le 32 32 (s.drop p); rw [List.length_drop] at this; omega
  conv => whnf
  refine ADraw.of tok mixed false [0, 1, 2, 3, 4, 5, 6, 7, 8, 9, 10, 11] [12] (by kernel_rfl) (fun _ _ _ _ h => h) ?_
  conv => whnf
  refine ⟨Nat.le_of_ble_eq_true rfl, ?_⟩
  refine ADraw.gh (Gh.regs [0] (Gh.of ?_))
  refine ADraw.to (r' := [(0, pAV)]) (H' := [.c (pcl s p tk o)]) rfl (by show [Blk.c [_, .i .i64 (IntKind.i64.wrap _), _, _]] = _; rw [hb0]; rfl) ?_
  generalize hqe : p + runB 32 32 (s.drop p) = q at *
  refine ADraw.post (Q' := fun x r H => x = .normal ∧ H = [.c (pcl s q tk o)] ∧ keepR [0] r = [(0, pAV)]) ?_ ?_ (fun x r H hn h => absurd h.1 hn)
  · refine ADraw.tree tok mixed false [] [0, 1, 2, 4, 5, 6, 7] (.node (.cons 3 (.node (.cons 8 (.node (.cons 9 (.node (.cons 10 (.node (.cons 11 (.node (.cons 12 (.node (.cons 13 (.node .nil) .nil)) .nil)) .nil)) .nil)) .nil)) .nil)) (.cons 8 (.node (.cons 3 (.node (.cons 9 (.node (.cons 10 (.node (.cons 11 (.node (.cons 12 (.node (.cons 13 (.node .nil) .nil)) .nil)) .nil)) .nil)) .nil)) (.cons 9 (.node (.cons 3 (.node (.cons 10 (.node (.cons 11 (.node (.cons 12 (.node (.cons 13 (.node .nil) .nil)) .nil)) .nil)) .nil)) .nil)) .nil))) .nil))) (by kernel_rfl) (fun _ _ _ _ h => nomatch h.1) ?_
    have fin : ∀ z : Int, z = q → [Blk.c [AV.s (sb s), .i .i64 z, .s (sb tk), .i .i64 o]] = [.c (pcl s q tk o)] := fun z hz => by rw [hz]; rfl
    conv => whnf
    refine And.intro ?_ (And.intro ?_ trivial)
    · conv => whnf
      refine ACall.mono (run_spec s tk p o p 32 32 (by omega) h) ?_; rintro r0 H0 ⟨rfl, rfl⟩
      conv => whnf
      refine ⟨Nat.le_of_ble_eq_true rfl, ?_⟩
      exact ⟨rfl, fin _ hb1, rfl⟩
    · conv => whnf
      refine And.intro ?_ (And.intro ?_ trivial)
      · conv => whnf
        refine ACall.mono (run_spec s tk p o p 32 32 (by omega) h) ?_; rintro r0 H0 ⟨rfl, rfl⟩
        conv => whnf
        refine ⟨Nat.le_of_ble_eq_true rfl, ?_⟩
        exact ⟨rfl, fin _ hb1, rfl⟩
      · conv => whnf
        refine ACall.mono (run_spec s tk p o p 32 32 (by omega) h) ?_; rintro r0 H0 ⟨rfl, rfl⟩
        conv => whnf
        refine ⟨Nat.le_of_ble_eq_true rfl, ?_⟩
        exact ⟨rfl, fin _ hb1, rfl⟩
  rintro r H ⟨_, rfl, hr⟩
  refine Gh.regs [0] (Gh.of ?_)
  rw [hr]
  conv => whnf
  refine ADraw.of tok mixed false [0, 1, 2, 3, 4, 5, 6, 7, 8, 9] [] (by kernel_rfl) (fun _ _ _ _ h => h) ?_
  conv => whnf
  refine ⟨⟨by omega, by rw [sb_size]; omega⟩, ?_⟩
  conv => whnf
  have hrs : (sb s).extract ((q : Nat) : Int).toNat (sb s).size = sb (s.drop q) := by
    rw [sb_size, sb_extract, Int.toNat_natCast, List.take_of_length_le (by rw [List.length_drop]; omega)]
  refine ADraw.gh (Gh.regs [0, 2] (Gh.of ?_))
  refine ADraw.to (r' := [(0, pAV), (2, .s (sb (s.drop q)))]) (H' := [.c (pcl s q tk o)]) (by show [_, (2, AV.s _)] = _; rw [hrs]) rfl ?_
  refine ADraw.post (Q' := fun x r H => x = .normal ∧ H = [.c (pcl s q tk o)] ∧ keepR [0, 2, 3] r = [(0, pAV), (2, .s (sb (s.drop q))), (3, .i .i64 (if ((runB 48 57 (s.drop q) : Nat) : Int) > ((runB 97 122 (s.drop q) : Nat) : Int) then ((runB 48 57 (s.drop q) : Nat) : Int) else ((runB 97 122 (s.drop q) : Nat) : Int)))]) ?_ ?_ (fun x r H hn h => absurd h.1 hn)
  · refine ADraw.tree tok mixed false [] [0, 1, 2, 3, 6, 7, 8, 9] (.node (.cons 4 (.node (.cons 5 (.node (.cons 10 (.node (.cons 11 (.node (.cons 12 (.node (.cons 13 (.node .nil) .nil)) .nil)) .nil)) .nil)) (.cons 10 (.node (.cons 5 (.node (.cons 11 (.node (.cons 12 (.node (.cons 13 (.node .nil) .nil)) .nil)) .nil)) .nil)) .nil))) (.cons 10 (.node (.cons 4 (.node (.cons 5 (.node (.cons 11 (.node (.cons 12 (.node (.cons 13 (.node .nil) .nil)) .nil)) .nil)) .nil)) .nil)) .nil))) (by kernel_rfl) (fun _ _ _ _ h => nomatch h.1) ?_
    conv => whnf
    refine (And.intro ?_ (And.intro ?_ trivial))
    · conv => whnf
      refine (And.intro ?_ (And.intro ?_ trivial))
      · conv => whnf
        refine ACall.mono (run_spec s tk q o q 97 122 (by omega) hq) ?_; rintro r0 H0 ⟨rfl, rfl⟩
        conv => whnf
        refine ACall.mono (run_spec s tk q o q 48 57 (by omega) hq) ?_; rintro r0 H0 ⟨rfl, rfl⟩
        conv => whnf
        exact ⟨rfl, rfl, rfl⟩
      · conv => whnf
        refine ACall.mono (run_spec s tk q o q 97 122 (by omega) hq) ?_; rintro r0 H0 ⟨rfl, rfl⟩
        conv => whnf
        refine ACall.mono (run_spec s tk q o q 48 57 (by omega) hq) ?_; rintro r0 H0 ⟨rfl, rfl⟩
        conv => whnf
        exact ⟨rfl, rfl, rfl⟩
    · conv => whnf
      refine ACall.mono (run_spec s tk q o q 97 122 (by omega) hq) ?_; rintro r0 H0 ⟨rfl, rfl⟩
      conv => whnf
      refine ACall.mono (run_spec s tk q o q 48 57 (by omega) hq) ?_; rintro r0 H0 ⟨rfl, rfl⟩
      conv => whnf
      exact ⟨rfl, rfl, rfl⟩
  rintro r H ⟨_, rfl, hr⟩
  refine Gh.regs [0, 2, 3] (Gh.of ?_)
  rw [hr]
  obtain ⟨n0, hn0⟩ : ∃ n0 : Nat, (n0 : Int) = if ((runB 48 57 (s.drop q) : Nat) : Int) > ((runB 97 122 (s.drop q) : Nat) : Int) then ((runB 48 57 (s.drop q) : Nat) : Int) else ((runB 97 122 (s.drop q) : Nat) : Int) := by
    split
    · exact ⟨_, rfl⟩
    · exact ⟨_, rfl⟩
  have hfold := tokLen_fold _ n0 hn0
  have hn0l : n0 ≤ (s.drop q).length := by
    have := runB_le 97 122 (s.drop q); have := runB_le 48 57 (s.drop q); split at hn0 <;> omega
  rw [← hn0]
  conv => whnf
  refine ACall.frameH [] [] rfl (args' := []) (Hc := []) rfl rfl ops_own ?_
  rintro r0 H0 ⟨rfl, rfl⟩
  refine ⟨.inl rfl, [.c (pcl s q tk o), .c (strs opsL)], rfl, ?_⟩
  conv => whnf
  refine ⟨by rw [strs_length]; decide, ?_⟩
  conv => whnf
  refine ⟨by decide, ?_⟩
  conv => whnf
  refine ⟨rfl, by decide, by decide, ?_⟩
  intro c hc
  conv => whnf
  refine ALoop.ind (ip := false) tok (fun m r H => ∃ (k n : Nat), k ≤ 8 ∧ m = 8 - k ∧ n = (opsP.take k).foldl (opStep (s.drop q)) n0 ∧ H = [.c (pcl s q tk o), .c (strs opsP)] ∧
    r = [(57, .i .i64 k), (56, .i .i64 8), (55, .sl (some (1, 0)) 1 8 c), (0, pAV), (2, .s (sb (s.drop q))), (3, .i .i64 n)]) 8 ?_ ?_
  · exact Gh.regs [57, 56, 55, 0, 2, 3] (Gh.sel [0, 3] rfl (Gh.of ⟨0, n0, by omega, by omega, rfl, rfl, rfl⟩))
  · rintro m r H ⟨k, n, hk, rfl, hn, rfl, rfl⟩
    conv => whnf
    by_cases h8 : (k : Int) < 8
    · (refine acond_t (decide_eq_true h8) ?_; conv => whnf)
      refine ⟨⟨by omega, h8⟩, ?_⟩
      conv => whnf
      have hkl : k < opsP.length := by show k < 8; omega
      refine aget_strs (i := k) (by omega) hkl ?_
      conv => whnf
      have hw : IntKind.i64.wrap ((k : Int) + 1) = ((k + 1 : Nat) : Int) := by rw [IntKind.wrap_i64]; omega
      have hstep : (opsP.take (k + 1)).foldl (opStep (s.drop q)) n0 = opStep (s.drop q) n opsP[k] := by
        rw [List.take_succ_eq_append_getElem hkl, List.foldl_append, ← hn]; rfl
      have hl2 := opsP_len k hkl
      by_cases hz : n = 0
      · have hz' : ((n : Int) == 0) = true := by subst hz; rfl
        repeat (refine acond_t (hz') ?_; conv => whnf)
        refine ACall.frameH [] [] rfl (args' := [.s (sb (s.drop q)), .s (sb opsP[k])]) (Hc := []) rfl rfl (hasPrefix_spec (s.drop q) opsP[k] (by rw [List.length_drop]; omega) (by omega)) ?_
        rintro r0 H0 ⟨rfl, rfl⟩
        refine ⟨.inl rfl, [.c (pcl s q tk o), .c (strs opsP)], rfl, ?_⟩
        conv => whnf
        repeat (refine acond_t (hz') ?_; conv => whnf)
        by_cases hx : opsP[k].isPrefixOf (s.drop q) = true
        · repeat (refine acond_t (hx) ?_; conv => whnf)
          refine Gh.regs [57, 56, 55, 0, 2, 3] (Gh.of ⟨8 - (k + 1), by omega, k + 1, opsP[k].length, by omega, rfl, ?_, rfl, ?_⟩)
          · rw [hstep]; unfold opStep; rw [if_pos ⟨hz, hx⟩]
          · show [(57, AV.i IntKind.i64 (IntKind.i64.wrap ((k : Int) + 1))), _, _, _, _, (3, AV.i IntKind.i64 (((sb opsP[k]).size : Nat) : Int))] = _
            rw [hw, sb_size]
        · have hx' := Bool.eq_false_iff.2 hx
          repeat (refine acond_f (hx') ?_; conv => whnf)
          refine Gh.regs [57, 56, 55, 0, 2, 3] (Gh.of ⟨8 - (k + 1), by omega, k + 1, n, by omega, rfl, ?_, rfl, ?_⟩)
          · rw [hstep]; unfold opStep; rw [if_neg (fun e => hx e.2)]
          · exact congrArg (fun z => (57, AV.i IntKind.i64 z) :: _) hw
      · have hz' : ((n : Int) == 0) = false := by rw [beq_eq_false_iff_ne]; omega
        repeat (refine acond_f (hz') ?_; conv => whnf)
        refine Gh.regs [57, 56, 55, 0, 2, 3] (Gh.of ⟨8 - (k + 1), by omega, k + 1, n, by omega, rfl, ?_, rfl, ?_⟩)
        · rw [hstep]; unfold opStep; rw [if_neg (fun e => hz e.1)]
        · exact congrArg (fun z => (57, AV.i IntKind.i64 z) :: _) hw
    · (refine acond_f (decide_eq_false h8) ?_; conv => whnf)
      have : k = 8 := by omega
      subst this
      rw [show opsP.take 8 = opsP from rfl, hfold] at hn
      subst hn
      have hL : lexS (s.drop p) p = lexS (s.drop q) q := by rw [lexS_blanks, List.drop_drop, hqe]
      have hhd : (s.drop q).head? ≠ some 32 := by have := blanks_head (s.drop p); rw [List.drop_drop, hqe] at this; exact this
      have hle := tokLen_le (s.drop q)
      rw [List.length_drop] at hle
      rw [hL]
      by_cases hz : tokLen (s.drop q) = 0
      · have hz' : (((tokLen (s.drop q) : Nat) : Int) == 0) = true := by rw [hz]; rfl
        repeat (refine acond_t (hz') ?_; conv => whnf)
        by_cases he : s.drop q = []
        · have he' : (!((s.drop q) == ([] : Str))) = false := by rw [he]; rfl
          repeat (refine acond_f (he') ?_; conv => whnf)
          refine ⟨⟨by omega, by rw [sb_size, List.length_drop]; omega⟩, ?_⟩
          conv => whnf
          refine ⟨Nat.le_of_ble_eq_true rfl, ?_⟩
          have h1 : lexS (s.drop q) q = [([], q)] := by rw [he]; rfl
          refine GhR.sel [0] rfl (GhR.of (.inr ⟨by rw [h1]; exact (by decide : ([] : Str) ≠ [63]), rfl, ?_, q, hq, hhd, rfl, by rw [h1]; exact (by decide : ([] : Str) ≠ [63])⟩))
          show [Blk.c [_, _, .s ((sb (s.drop q)).extract 0 _), _]] = _
          rw [h1, sb_extract, he]; simp only [List.drop_nil, List.take_nil]; rfl
        · have he' : (!((s.drop q) == ([] : Str))) = true := by rw [Bool.not_eq_true', beq_eq_false_iff_ne]; exact he
          repeat (refine acond_t (he') ?_; conv => whnf)
          refine ACall.frameH [0] [] rfl (args' := [pAV, .i .i64 11]) (Hc := [.c (pcl s q tk o)]) rfl rfl (stop_spec s tk q o 11) ?_
          rintro r0 H0 ⟨rfl, rfl⟩
          refine ⟨.inl rfl, [.c (pcl s q tk o), .c (strs opsP)], rfl, ?_⟩
          conv => whnf
          have h1 := lexS_bad (p := q) he hhd hz
          exact GhR.sel [0] rfl (GhR.of (.inl ⟨by rw [h1]; rfl, by rw [h1]; rfl, _, rfl⟩))
      · have hz' : (((tokLen (s.drop q) : Nat) : Int) == 0) = false := by rw [beq_eq_false_iff_ne]; omega
        have he : s.drop q ≠ [] := fun e => hz (by rw [e]; rfl)
        repeat (refine acond_f (hz') ?_; conv => whnf)
        refine ⟨⟨by omega, by rw [sb_size, List.length_drop]; omega⟩, ?_⟩
        conv => whnf
        refine ⟨Nat.le_of_ble_eq_true rfl, ?_⟩
        have h1 := lexS_tok (p := q) he hhd hz
        have hne : (s.drop q).take (tokLen (s.drop q)) ≠ [63] := by
          intro e
          cases hr2 : s.drop q with
          | nil => exact he hr2
          | cons c r2 =>
            rw [hr2] at e hz
            cases hm : tokLen (c :: r2) with
            | zero => exact hz hm
            | succ m =>
              rw [hm, List.take_succ_cons, List.cons.injEq] at e
              rw [e.1] at hz
              exact hz rfl
        refine GhR.sel [0] rfl (GhR.of (.inr ⟨by rw [h1]; exact hne, rfl, ?_, q, hq, hhd, rfl, by rw [h1]; exact hne⟩))
        show [Blk.c [_, _, .s ((sb (s.drop q)).extract 0 _), _]] = _
        rw [h1, sb_extract, List.drop_zero, Nat.sub_zero, Int.toNat_natCast]; rfl
end Go.AK
namespace Go.AK
open Go Go.RowKit Go.Proofs
set_option linter.unusedVariables false
set_option maxRecDepth 100000
theorem St.hd {s : Str} {L : List Tok} (h : St s L) : (hdT L).2 ≤ s.length ∧ (hdT L).1 = (s.drop (hdT L).2).take (tokLen (s.drop (hdT L).2)) ∧ (s.drop (hdT L).2 ≠ [] → tokLen (s.drop (hdT L).2) ≠ 0) ∧ (s.drop (hdT L).2).head? ≠ some 32 ∧ L = lexS (s.drop (hdT L).2) (hdT L).2 := by
  obtain ⟨p, hp, hh, hL, hq⟩ := h
  have key : (hdT L).2 = p ∧ (hdT L).1 = (s.drop p).take (tokLen (s.drop p)) ∧ (s.drop p ≠ [] → tokLen (s.drop p) ≠ 0) := by
    by_cases h0 : s.drop p = []
    · rw [h0] at hL ⊢
      rw [hL, lexS_nil]
      exact ⟨rfl, rfl, fun h => absurd rfl h⟩
    · by_cases h2 : tokLen (s.drop p) = 0
      · rw [hL, lexS_bad h0 hh h2] at hq; exact absurd rfl hq
      · rw [hL, lexS_tok h0 hh h2]
        exact ⟨rfl, rfl, fun _ => h2⟩
  rw [key.1]
  exact ⟨hp, key.2.1, key.2.2, hh, hL⟩
theorem St.tail {s : Str} {L : List Tok} (h : St s L) (hne : (hdT L).1 ≠ []) :
    (hdT L).2 + (hdT L).1.length ≤ s.length ∧ L.tail = lexS (s.drop ((hdT L).2 + (hdT L).1.length)) ((hdT L).2 + (hdT L).1.length) ∧ L ≠ [] := by
  obtain ⟨h1, h2, h3, h4, h5⟩ := h.hd
  generalize (hdT L).2 = p at *
  have h0 : s.drop p ≠ [] := fun e => hne (by rw [h2, e]; rfl)
  have hl := tokLen_le (s.drop p)
  rw [List.length_drop] at hl
  have hlen : (hdT L).1.length = tokLen (s.drop p) := by rw [h2, List.length_take, List.length_drop]; omega
  rw [hlen]
  rw [lexS_tok h0 h4 (h3 h0)] at h5
  refine ⟨by omega, ?_, by rw [h5]; simp⟩
  rw [h5, List.tail_cons, List.drop_drop]
theorem next_at {s : Str} {L : List Tok} {o : Int} (h : St s L) (hne : (hdT L).1 ≠ []) (hs : s.length ≤ 100000) :
    ACall Tryd.prog 25 [pAV] [.c (pcl s (hdT L).2 (hdT L).1 o)] (NextR s L.tail o) := by
  obtain ⟨h1, h2, _⟩ := h.tail hne
  rw [h2]
  exact next_spec s _ _ o h1 hs
def TakeR (s : Str) (L : List Tok) (o : Int) (t : Str) (R : ARes) (H : Heap) : Prop :=
  ((hdT L).1 ≠ t ∧ R = .ret (.b false) ∧ H = [.c (pcl s (hdT L).2 (hdT L).1 o)]) ∨
  ((hdT L).1 = t ∧ (hdT L.tail).1 = [63] ∧ R = .pan (wrAV (hdT L.tail).2 11) ∧ ∃ cs, H = [.c cs]) ∨
  ((hdT L).1 = t ∧ (hdT L.tail).1 ≠ [63] ∧ R = .ret (.b true) ∧ H = [.c (pcl s (hdT L.tail).2 (hdT L.tail).1 o)] ∧ St s L.tail)
theorem take_spec {s : Str} {L : List Tok} {o : Int} (t : Str) (h : St s L) (ht : t ≠ []) (hs : s.length ≤ 100000) :
    ACall Tryd.prog 41 [pAV, .s (sb t)] [.c (pcl s (hdT L).2 (hdT L).1 o)] (TakeR s L o t) := by
  refine ACall.enter tok false Tryd.func41 rfl rfl rfl (AW_sound (ip := false) tok _ _ _ _ ?_)
  conv => whnf
  by_cases he : (hdT L).1 = t
  · have h1 : (!((hdT L).1 == t)) = false := by rw [he]; simp
    repeat (refine acond_f (h1) ?_; conv => whnf)
    refine ACall.mono (next_at h (by rw [he]; exact ht) hs) ?_
    rintro r0 H0 (⟨k1, rfl, cs, rfl⟩ | ⟨k1, rfl, rfl, k2⟩)
    · conv => whnf
      exact .inr (.inl ⟨he, k1, rfl, cs, rfl⟩)
    · conv => whnf
      exact .inr (.inr ⟨he, k1, rfl, rfl, k2⟩)
  · have h1 : (!((hdT L).1 == t)) = true := by simpa using he
    repeat (refine acond_t (h1) ?_; conv => whnf)
    exact .inl ⟨he, rfl, rfl⟩
/-! Numbers. -/
theorem runB_all (lo hi : Nat) : ∀ (r : Str), ∀ c ∈ r.take (runB lo hi r), lo ≤ c.toNat ∧ c.toNat ≤ hi
  | [], c, h => by simp at h
  | a :: r, c, h => by
    unfold runB at h
    split at h
    · rename_i ha
      rw [List.take_succ_cons, List.mem_cons] at h
      rcases h with rfl | h
      · exact ha
      · exact runB_all lo hi r c h
    · simp at h
theorem dig_let {r : Str} (h : 0 < runB 48 57 r) : runB 97 122 r = 0 := by
  have := run_one r
  omega
/-- The digits of a token. -/
theorem tok_dig {r : Str} (h : 0 < runB 48 57 r) : tokLen r = runB 48 57 r := by
  unfold tokLen
  rw [dig_let h, if_neg (by omega), if_pos h]
theorem badNum_iff {s : Str} {L : List Tok} (h : St s L) :
    badNum (hdT L).1 = (decide (runB 48 57 (s.drop (hdT L).2) = 0) || (((hdT L).1.getD 0 0 == 48) && decide (1 < (hdT L).1.length))) := by
  obtain ⟨h1, h2, h3, h4, h5⟩ := h.hd
  generalize (hdT L).2 = p at *
  generalize (hdT L).1 = tk at *
  subst h2
  generalize s.drop p = r at *
  cases r with
  | nil => rfl
  | cons c r =>
    have h6 := h3 (by simp)
    cases hm : tokLen (c :: r) with
    | zero => exact absurd hm h6
    | succ m =>
      rw [List.take_succ_cons]
      have e1 : runB 48 57 (c :: r) = (if 48 ≤ c.toNat ∧ c.toNat ≤ 57 then runB 48 57 r + 1 else 0) := rfl
      by_cases hd : 48 ≤ c.toNat ∧ c.toNat ≤ 57
      · rw [show decide (runB 48 57 (c :: r) = 0) = false from decide_eq_false (by rw [e1, if_pos hd]; omega)]
        simp only [badNum, isDig]
        rw [decide_eq_true hd.1, decide_eq_true hd.2]
        simp only [Bool.and_self, Bool.not_true, Bool.false_or, List.getD_cons_zero]
        congr 1
        cases r.take m <;> simp
      · rw [show decide (runB 48 57 (c :: r) = 0) = true from decide_eq_true (by rw [e1, if_neg hd])]
        simp only [badNum, isDig]
        have : (decide (48 ≤ c.toNat) && decide (c.toNat ≤ 57)) = false := by
          rw [Bool.and_eq_false_iff, decide_eq_false_iff_not, decide_eq_false_iff_not]; omega
        rw [this]; rfl
theorem valD_ge : ∀ (l : Str) (a : Nat), a ≤ l.foldl (fun n c => 10 * n + (c.toNat - 48)) a
  | [], a => Nat.le_refl _
  | c :: l, a => by
    rw [List.foldl_cons]
    exact Nat.le_trans (by omega) (valD_ge l _)
theorem parse10_dig : ∀ (l : Str) (a : Nat), (∀ c ∈ l, 48 ≤ c.toNat ∧ c.toNat ≤ 57) → a < 18446744073709551616 →
    Lib.parseUint10 a l = if l.foldl (fun n c => 10 * n + (c.toNat - 48)) a < 18446744073709551616 then .ok (l.foldl (fun n c => 10 * n + (c.toNat - 48)) a) else .range
  | [], a, _, ha => by rw [Lib.parseUint10, List.foldl_nil, if_pos ha]
  | c :: l, a, h, ha => by
    have hc := h c (by simp)
    have hg := valD_ge l (10 * a + (c.toNat - 48))
    rw [Lib.parseUint10, if_pos hc, List.foldl_cons]
    by_cases h1 : 1844674407370955162 ≤ a
    · rw [if_pos h1, if_neg (by omega)]
    · rw [if_neg h1]
      by_cases h2 : 18446744073709551616 ≤ a * 10 + (c.toNat - 48)
      · rw [if_pos h2, if_neg (by omega)]
      · rw [if_neg h2, Nat.mul_comm a 10]
        exact parse10_dig l _ (fun x hx => h x (by simp [hx])) (by omega)
theorem atoi_dig {l : Str} (h : ∀ c ∈ l, 48 ≤ c.toNat ∧ c.toNat ≤ 57) (h0 : l ≠ []) :
    Lib.atoiAll l = if 9223372036854775807 < valD l then .range else .ok ((valD l : Nat) : Int) := by
  cases l with
  | nil => exact absurd rfl h0
  | cons c l =>
    have hc := h c (by simp)
    have hp := parse10_dig (c :: l) 0 h (by omega)
    rw [Lib.atoiAll_plain c l (by omega) (by omega)]
    unfold Lib.parseMag
    rw [if_neg (by simp), hp]
    show Lib.signless (if valD (c :: l) < 18446744073709551616 then Lib.NumEnd.ok (valD (c :: l)) else Lib.NumEnd.range) = _
    by_cases h1 : valD (c :: l) < 18446744073709551616
    · rw [if_pos h1]
      show (if 9223372036854775808 ≤ valD (c :: l) then Lib.NumEnd.range else Lib.NumEnd.ok ((valD (c :: l) : Nat) : Int)) = _
      by_cases h2 : 9223372036854775807 < valD (c :: l)
      · rw [if_pos h2, if_pos (by omega)]
      · rw [if_neg h2, if_neg (by omega)]
    · rw [if_neg h1, if_pos (by omega)]; rfl
def NumR (s : Str) (L : List Tok) (o : Int) (R : ARes) (H : Heap) : Prop :=
  (badNum (hdT L).1 = true ∧ R = .pan (wrAV (hdT L).2 11) ∧ ∃ cs, H = [.c cs]) ∨
  (badNum (hdT L).1 = false ∧ 9223372036854775807 < valD (hdT L).1 ∧ R = .pan (wrAV (hdT L).2 10) ∧ ∃ cs, H = [.c cs]) ∨
  (badNum (hdT L).1 = false ∧ ¬ 9223372036854775807 < valD (hdT L).1 ∧ (hdT L.tail).1 = [63] ∧ R = .pan (wrAV (hdT L.tail).2 11) ∧ ∃ cs, H = [.c cs]) ∨
  (badNum (hdT L).1 = false ∧ ¬ 9223372036854775807 < valD (hdT L).1 ∧ (hdT L.tail).1 ≠ [63] ∧ R = .ret (.i .i64 (valD (hdT L).1)) ∧ H = [.c (pcl s (hdT L.tail).2 (hdT L.tail).1 o)] ∧ St s L.tail)
theorem number_spec {s : Str} {L : List Tok} {o : Int} (h : St s L) (hs : s.length ≤ 100000) :
    ACall Tryd.prog 64 [pAV] [.c (pcl s (hdT L).2 (hdT L).1 o)] (NumR s L o) := by
  have hb := badNum_iff h
  obtain ⟨h1, h2, h3, h4, h5⟩ := h.hd
  refine ACall.enter tok false Tryd.func64 rfl rfl rfl (AW_sound (ip := false) tok _ _ _ _ ?_)
  conv => whnf
  refine ACall.mono (run_spec s (hdT L).1 (hdT L).2 o (hdT L).2 48 57 (by omega) h1) ?_; rintro r0 H0 ⟨rfl, rfl⟩
  conv => whnf
  have hlenr : (s.drop (hdT L).2).length = s.length - (hdT L).2 := List.length_drop
  by_cases hr : runB 48 57 (s.drop (hdT L).2) = 0
  · have c1 : (((runB 48 57 (s.drop (hdT L).2) : Nat) : Int) == 0) = true := by rw [hr]; rfl
    repeat (refine acond_t (c1) ?_; conv => whnf)
    refine ACall.mono (stop_spec s (hdT L).1 (hdT L).2 o 11) ?_; rintro r0 H0 ⟨rfl, rfl⟩
    conv => whnf
    exact .inl ⟨by rw [hb, hr]; rfl, rfl, _, rfl⟩
  · have c1 : (((runB 48 57 (s.drop (hdT L).2) : Nat) : Int) == 0) = false := by rw [beq_eq_false_iff_ne]; omega
    have hlr := runB_le 48 57 (s.drop (hdT L).2)
    have htl : (hdT L).1.length = runB 48 57 (s.drop (hdT L).2) := by rw [h2, List.length_take, tok_dig (by omega)]; omega
    have hdig : ∀ c ∈ (hdT L).1, 48 ≤ c.toNat ∧ c.toNat ≤ 57 := by
      rw [h2, tok_dig (by omega)]; exact runB_all 48 57 _
    have hne : (hdT L).1 ≠ [] := fun e => by rw [e] at htl; exact hr htl.symm
    repeat (refine acond_f (c1) ?_; conv => whnf)
    refine ⟨⟨by decide, by rw [sb_size]; omega⟩, ?_⟩
    conv => whnf
    repeat (refine acond_f (c1) ?_; conv => whnf)
    rw [decide_eq_false hr, Bool.false_or] at hb
    have fin : badNum (hdT L).1 = false → ACall Tryd.prog 70 [.s (sb (hdT L).1)] [] fun R H => (9223372036854775807 < valD (hdT L).1 ∧ R = .ret (.tup [.i .i64 (Lib.atoiSat (hdT L).1), .ifc 121 .un]) ∧ H = []) ∨ (¬ 9223372036854775807 < valD (hdT L).1 ∧ R = .ret (.tup [.i .i64 (valD (hdT L).1), .nili]) ∧ H = []) := by
      intro _
      have ha := atoi_dig hdig hne
      by_cases hv : 9223372036854775807 < valD (hdT L).1
      · rw [if_pos hv] at ha
        exact ACall.mono (atoi_range_spec (sb (hdT L).1) (by rw [sb_size]; omega) ha []) fun R H ⟨a, b⟩ => .inl ⟨hv, a, b⟩
      · rw [if_neg hv] at ha
        exact ACall.mono (atoi_ok_spec (sb (hdT L).1) (by rw [sb_size]; omega) _ ha []) fun R H ⟨a, b⟩ => .inr ⟨hv, a, b⟩
    have h48b : ((hdT L).1.getD 0 0 == 48) = decide ((((hdT L).1.getD 0 0).toNat : Int) = 48) := by
      rw [Bool.eq_iff_iff, beq_iff_eq, decide_eq_true_iff, ← UInt8.toNat_inj]
      show _ = 48 ↔ _
      omega
    by_cases h48 : (((hdT L).1.getD 0 0).toNat : Int) = 48
    · have c2 : (((((sb (hdT L).1).data.toList.getD (0 : Int).toNat 0).toNat : Nat) : Int) == 48) = true := by
        rw [beq_iff_eq]; exact h48
      repeat (first | (refine acond_f (c1) ?_; conv => whnf) | (refine acond_t (c2) ?_; conv => whnf))
      rw [h48b, decide_eq_true h48, Bool.true_and] at hb
      by_cases h1l : (((sb (hdT L).1).size : Nat) : Int) > 1
      · repeat (first | (refine acond_f (c1) ?_; conv => whnf) | (refine acond_t (c2) ?_; conv => whnf) | (refine acond_t (decide_eq_true h1l) ?_; conv => whnf))
        refine ACall.mono (stop_spec s (hdT L).1 (hdT L).2 o 11) ?_; rintro r0 H0 ⟨rfl, rfl⟩
        conv => whnf
        rw [sb_size] at h1l
        exact .inl ⟨by rw [hb, decide_eq_true (by omega)], rfl, _, rfl⟩
      · repeat (first | (refine acond_f (c1) ?_; conv => whnf) | (refine acond_t (c2) ?_; conv => whnf) | (refine acond_f (decide_eq_false h1l) ?_; conv => whnf))
        rw [sb_size] at h1l
        have hbf : badNum (hdT L).1 = false := by rw [hb, decide_eq_false (by omega)]
        refine ACall.frameH [] [] rfl (args' := [.s (sb (hdT L).1)]) (Hc := []) rfl rfl (fin hbf) ?_
        rintro r0 H0 (⟨hv, rfl, rfl⟩ | ⟨hv, rfl, rfl⟩)
        · refine ⟨.inl rfl, [.c (pcl s (hdT L).2 (hdT L).1 o)], rfl, ?_⟩
          conv => whnf
          refine ACall.mono (stop_spec s (hdT L).1 (hdT L).2 o 10) ?_; rintro r0 H0 ⟨rfl, rfl⟩
          conv => whnf
          exact .inr (.inl ⟨hbf, hv, rfl, _, rfl⟩)
        · refine ⟨.inl rfl, [.c (pcl s (hdT L).2 (hdT L).1 o)], rfl, ?_⟩
          conv => whnf
          refine ACall.mono (next_at h hne hs) ?_
          rintro r0 H0 (⟨k1, rfl, cs, rfl⟩ | ⟨k1, rfl, rfl, k2⟩)
          · conv => whnf
            exact .inr (.inr (.inl ⟨hbf, hv, k1, rfl, cs, rfl⟩))
          · conv => whnf
            exact .inr (.inr (.inr ⟨hbf, hv, k1, rfl, rfl, k2⟩))
    · have c2 : (((((sb (hdT L).1).data.toList.getD (0 : Int).toNat 0).toNat : Nat) : Int) == 48) = false := by
        rw [beq_eq_false_iff_ne]; exact h48
      repeat (first | (refine acond_f (c1) ?_; conv => whnf) | (refine acond_f (c2) ?_; conv => whnf))
      have hbf : badNum (hdT L).1 = false := by rw [hb, h48b, decide_eq_false h48]; rfl
      refine ACall.frameH [] [] rfl (args' := [.s (sb (hdT L).1)]) (Hc := []) rfl rfl (fin hbf) ?_
      rintro r0 H0 (⟨hv, rfl, rfl⟩ | ⟨hv, rfl, rfl⟩)
      · refine ⟨.inl rfl, [.c (pcl s (hdT L).2 (hdT L).1 o)], rfl, ?_⟩
        conv => whnf
        refine ACall.mono (stop_spec s (hdT L).1 (hdT L).2 o 10) ?_; rintro r0 H0 ⟨rfl, rfl⟩
        conv => whnf
        exact .inr (.inl ⟨hbf, hv, rfl, _, rfl⟩)
      · refine ⟨.inl rfl, [.c (pcl s (hdT L).2 (hdT L).1 o)], rfl, ?_⟩
        conv => whnf
        refine ACall.mono (next_at h hne hs) ?_
        rintro r0 H0 (⟨k1, rfl, cs, rfl⟩ | ⟨k1, rfl, rfl, k2⟩)
        · conv => whnf
          exact .inr (.inr (.inl ⟨hbf, hv, k1, rfl, cs, rfl⟩))
        · conv => whnf
          exact .inr (.inr (.inr ⟨hbf, hv, k1, rfl, rfl, k2⟩))
end Go.AK
namespace Go.AK
open Go Go.RowKit Go.Proofs
set_option linter.unusedVariables false
set_option maxRecDepth 100000
theorem sub_av (φ : Nat → Sb) : ∀ x : Ex, sub φ x.av = x.av
  | .nil => by simp only [Ex.av, sub]
  | .nd k w o n l r => by simp only [Ex.av, sub, subs, sub_av φ l, sub_av φ r]
theorem av_one (x : Ex) : x.av.one = true := by cases x <;> rfl
theorem plain_spec (x : Ex) : ACall Tryd.prog 13 [x.av] [] fun r H => r = .ret x.av ∧ H = [] := by
  induction x with
  | nil =>
    refine ACall.enter tok false Tryd.func13 rfl rfl rfl (AW_sound (ip := false) tok _ _ _ _ ?_)
    conv => whnf
    exact ⟨rfl, rfl⟩
  | nd k w o n l r ihl ihr =>
    refine ACall.gh ?_
    refine ACall.enter tok false Tryd.func13 rfl rfl rfl (AW_sound (ip := false) tok _ _ _ _ ?_)
    conv => whnf
    refine ADraw.ofS tok mixed false [3, 7, 11, 15, 19, 24] [0, 1, 2, 3, 4, 5, 6, 7, 8, 9, 10, 11, 12, 13, 14, 15, 16, 17, 18, 19, 21, 22, 23, 24] [20, 25, 26, 27, 28] (by kernel_rfl) (fun _ _ _ _ h => h) ?_
    conv => whnf
    refine ACall.mono ihl ?_; rintro r0 H ⟨rfl, rfl⟩
    conv => whnf
    refine ACall.mono ihr ?_; rintro r0 H ⟨rfl, rfl⟩
    have hl := sub_av
    cases l <;> cases r <;> (
      conv => whnf
      refine GhR.frz 0 rfl (GhR.sel [] rfl (GhR.of ⟨?_, rfl⟩))
      show ARes.ret (.rp [.i .i64 k, .s (sb w), .s (sb o), .i .i64 n, sub _ (Ex.av _), sub _ (Ex.av _)] 0) = _
      simp only [sub_av]; rfl)
end Go.AK
namespace Go.AK
open Go Go.RowKit Go.Proofs
set_option linter.unusedVariables false
set_option maxRecDepth 100000
/-- What a parser's call comes to. -/
def PK (s : Str) (o : Int) (r : PR) (R : ARes) (H : Heap) : Prop := match r with
  | .out => False
  | .err p e => R = .pan (wrAV p e) ∧ ∃ cs, H = [.c cs]
  | .ok x L => R = .ret x.av ∧ H = [.c (pcl s (hdT L).2 (hdT L).1 o)] ∧ St s L
theorem PK.cases {s : Str} {o : Int} {r : PR} {R : ARes} {H : Heap} (h : PK s o r R H) :
    (∃ p e, r = .err p e ∧ R = .pan (wrAV p e) ∧ ∃ cs, H = [.c cs]) ∨ (∃ x L, r = .ok x L ∧ R = .ret x.av ∧ H = [.c (pcl s (hdT L).2 (hdT L).1 o)] ∧ St s L) := by
  cases r with
  | out => exact h.elim
  | err p e => exact .inl ⟨p, e, rfl, h⟩
  | ok x L => exact .inr ⟨x, L, rfl, h⟩
def Spec (s : Str) (fn f : Nat) (m : Md) : Prop := ∀ (o : Nat) (L : List Tok), o ≤ 64 → St s L → pp true f m o L ≠ .out →
  ACall Tryd.prog fn [pAV] [.c (pcl s (hdT L).2 (hdT L).1 o)] (PK s o (pp true f m o L))
theorem nxt_bad {L : List Tok} {k : List Tok → PR} (h : (hdT L.tail).1 = [63]) : nxt true L k = .err (hdT L.tail).2 11 := by
  unfold nxt; rw [if_pos ⟨rfl, h⟩]
theorem nxt_ok {L : List Tok} {k : List Tok → PR} (h : (hdT L.tail).1 ≠ [63]) : nxt true L k = k L.tail := by
  unfold nxt; rw [if_neg (fun e => h e.2)]
theorem not_step {s : Str} {f : Nat} (hs : s.length ≤ 100000) (ihn : Spec s 51 f .not) (iho : Spec s 60 f .opd) :
    Spec s 51 (f + 1) .not := by
  intro o L ho hS hout
  have he : pp true (f + 1) .not o L = if (hdT L).1 = wNot then nxt true L fun L => (pp true f .not o L).bind fun x L => .ok (.nd 1 [] [] 0 x .nil) L else pp true f .opd o L := rfl
  generalize pp true (f + 1) .not o L = r at he hout ⊢
  refine ACall.gh ?_
  refine ACall.enter tok false Tryd.func51 rfl rfl rfl (AW_sound (ip := false) tok _ _ _ _ ?_)
  conv => whnf
  refine ACall.mono (take_spec wNot hS (by decide) hs) ?_
  rintro R H (⟨k1, rfl, rfl⟩ | ⟨k1, k2, rfl, cs, rfl⟩ | ⟨k1, k2, rfl, rfl, k3⟩)
  · rw [if_neg k1] at he
    conv => whnf
    refine ACall.mono (iho o L ho hS (he ▸ hout)) ?_
    intro R H hP
    rcases hP.cases with ⟨p, e, hr, rfl, cs, rfl⟩ | ⟨x, L', hr, rfl, rfl, hS'⟩
    · rw [hr] at he; subst he
      conv => whnf
      exact GhR.of ⟨rfl, cs, rfl⟩
    · rw [hr] at he; subst he
      conv => whnf
      exact GhR.of ⟨rfl, rfl, hS'⟩
  · rw [if_pos k1, nxt_bad k2] at he
    subst he
    conv => whnf
    exact GhR.of ⟨rfl, cs, rfl⟩
  · rw [if_pos k1, nxt_ok k2] at he
    conv => whnf
    refine ACall.mono (ihn o L.tail ho k3 (fun e => hout (by rw [he, e]; rfl))) ?_
    intro R H hP
    rcases hP.cases with ⟨p, e, hr, rfl, cs, rfl⟩ | ⟨x, L', hr, rfl, rfl, hS'⟩
    · rw [hr] at he; subst he
      conv => whnf
      exact GhR.of ⟨rfl, cs, rfl⟩
    · rw [hr] at he
      subst he
      have hx := sub_av
      cases x <;> (
        conv => whnf
        refine GhR.frz 1 rfl (GhR.sel [0] rfl (GhR.of ⟨?_, rfl, hS'⟩))
        show ARes.ret (.rp [.i .i64 1, .s (sb []), .s (sb []), .i .i64 0, sub _ (Ex.av _), .p none] 0) = _
        simp only [sub_av]; rfl)
theorem and_step {s : Str} {f : Nat} (hs : s.length ≤ 100000) (ih : ∀ g, g ≤ f → Spec s 51 g .not) :
    Spec s 40 (f + 1) .and := by
  intro o L ho hS hout
  have he : pp true (f + 1) .and o L = (pp true f .not o L).bind fun x L => pp true f (.andL x) o L := rfl
  generalize pp true (f + 1) .and o L = r at he hout ⊢
  refine ACall.gh ?_
  refine ACall.enter tok false Tryd.func40 rfl rfl rfl (AW_sound (ip := false) tok _ _ _ _ ?_)
  conv => whnf
  refine ACall.mono (ih f (Nat.le_refl _) o L ho hS (fun e => hout (by rw [he, e]; rfl))) ?_
  intro R H hP
  rcases hP.cases with ⟨p, e, hr, rfl, cs, rfl⟩ | ⟨x0, L0, hr, rfl, rfl, hS0⟩
  · rw [hr] at he; subst he
    conv => whnf
    exact GhR.of ⟨rfl, cs, rfl⟩
  rw [hr] at he
  replace he : r = pp true f (.andL x0) o L0 := he
  conv => whnf
  refine ALoop.ind (ip := false) tok (fun m r1 H => ∃ (g : Nat) (x : Ex) (L : List Tok), m = g ∧ g ≤ f ∧ r = pp true g (.andL x) o L ∧ St s L ∧ H = [.c (pcl s (hdT L).2 (hdT L).1 o)] ∧
    r1 = [(3, x.av), (0, pAV), (2, .p none)]) f ?_ ?_
  · exact Gh.regs [3, 0, 2] (Gh.of ⟨f, x0, L0, rfl, Nat.le_refl _, he, hS0, rfl, rfl⟩)
  · rintro m r1 H ⟨g, x, L, rfl, hg, he, hS, rfl, rfl⟩
    conv => whnf
    refine ACall.mono (take_spec wAnd hS (by decide) hs) ?_
    cases m with
    | zero => exact absurd he hout
    | succ g =>
    replace he : r = if (hdT L).1 = wAnd then nxt true L fun L => (pp true g .not o L).bind fun y L => pp true g (.andL (.nd 2 [] [] 0 x y)) o L else .ok x L := he
    rintro R H (⟨k1, rfl, rfl⟩ | ⟨k1, k2, rfl, cs, rfl⟩ | ⟨k1, k2, rfl, rfl, k3⟩)
    · rw [if_neg k1] at he
      subst he
      conv => whnf
      exact GhR.of ⟨rfl, rfl, hS⟩
    · rw [if_pos k1, nxt_bad k2] at he
      subst he
      conv => whnf
      exact GhR.of ⟨rfl, cs, rfl⟩
    · rw [if_pos k1, nxt_ok k2] at he
      conv => whnf
      refine ACall.mono (ih g (by omega) o L.tail ho k3 (fun e => hout (by rw [he, e]; rfl))) ?_
      intro R H hP
      rcases hP.cases with ⟨p, e, hr, rfl, cs, rfl⟩ | ⟨y, L', hr, rfl, rfl, hS'⟩
      · rw [hr] at he
        subst he
        conv => whnf
        exact GhR.of ⟨rfl, cs, rfl⟩
      · rw [hr] at he
        replace he : r = pp true g (.andL (.nd 2 [] [] 0 x y)) o L' := he
        cases x <;> cases y <;> (
          conv => whnf
          refine Gh.regs [3, 0, 2] (Gh.frz 1 rfl (Gh.sel [0] rfl (Gh.of ⟨g, by omega, g, _, L', rfl, by omega, he, hS', rfl, ?_⟩)))
          show [(3, AV.rp [.i .i64 2, .s (sb []), .s (sb []), .i .i64 0, sub _ (Ex.av _), sub _ (Ex.av _)] 0), (0, pAV), (2, AV.p none)] = _
          simp only [sub_av]; rfl)
theorem or_step {s : Str} {f : Nat} (hs : s.length ≤ 100000) (ih : ∀ g, g ≤ f → Spec s 40 g .and) :
    Spec s 26 (f + 1) .or := by
  intro o L ho hS hout
  have he : pp true (f + 1) .or o L = (pp true f .and o L).bind fun x L => pp true f (.orL x) o L := rfl
  generalize pp true (f + 1) .or o L = r at he hout ⊢
  refine ACall.gh ?_
  refine ACall.enter tok false Tryd.func26 rfl rfl rfl (AW_sound (ip := false) tok _ _ _ _ ?_)
  conv => whnf
  refine ACall.mono (ih f (Nat.le_refl _) o L ho hS (fun e => hout (by rw [he, e]; rfl))) ?_
  intro R H hP
  rcases hP.cases with ⟨p, e, hr, rfl, cs, rfl⟩ | ⟨x0, L0, hr, rfl, rfl, hS0⟩
  · rw [hr] at he; subst he
    conv => whnf
    exact GhR.of ⟨rfl, cs, rfl⟩
  rw [hr] at he
  replace he : r = pp true f (.orL x0) o L0 := he
  conv => whnf
  refine ALoop.ind (ip := false) tok (fun m r1 H => ∃ (g : Nat) (x : Ex) (L : List Tok), m = g ∧ g ≤ f ∧ r = pp true g (.orL x) o L ∧ St s L ∧ H = [.c (pcl s (hdT L).2 (hdT L).1 o)] ∧
    r1 = [(3, x.av), (0, pAV), (2, .p none)]) f ?_ ?_
  · exact Gh.regs [3, 0, 2] (Gh.of ⟨f, x0, L0, rfl, Nat.le_refl _, he, hS0, rfl, rfl⟩)
  · rintro m r1 H ⟨g, x, L, rfl, hg, he, hS, rfl, rfl⟩
    conv => whnf
    refine ACall.mono (take_spec wOr hS (by decide) hs) ?_
    cases m with
    | zero => exact absurd he hout
    | succ g =>
    replace he : r = if (hdT L).1 = wOr then nxt true L fun L => (pp true g .and o L).bind fun y L => pp true g (.orL (.nd 3 [] [] 0 x y)) o L else .ok x L := he
    rintro R H (⟨k1, rfl, rfl⟩ | ⟨k1, k2, rfl, cs, rfl⟩ | ⟨k1, k2, rfl, rfl, k3⟩)
    · rw [if_neg k1] at he
      subst he
      conv => whnf
      exact GhR.of ⟨rfl, rfl, hS⟩
    · rw [if_pos k1, nxt_bad k2] at he
      subst he
      conv => whnf
      exact GhR.of ⟨rfl, cs, rfl⟩
    · rw [if_pos k1, nxt_ok k2] at he
      conv => whnf
      refine ACall.mono (ih g (by omega) o L.tail ho k3 (fun e => hout (by rw [he, e]; rfl))) ?_
      intro R H hP
      rcases hP.cases with ⟨p, e, hr, rfl, cs, rfl⟩ | ⟨y, L', hr, rfl, rfl, hS'⟩
      · rw [hr] at he
        subst he
        conv => whnf
        exact GhR.of ⟨rfl, cs, rfl⟩
      · rw [hr] at he
        replace he : r = pp true g (.orL (.nd 3 [] [] 0 x y)) o L' := he
        cases x <;> cases y <;> (
          conv => whnf
          refine Gh.regs [3, 0, 2] (Gh.frz 1 rfl (Gh.sel [0] rfl (Gh.of ⟨g, by omega, g, _, L', rfl, by omega, he, hS', rfl, ?_⟩)))
          show [(3, AV.rp [.i .i64 3, .s (sb []), .s (sb []), .i .i64 0, sub _ (Ex.av _), sub _ (Ex.av _)] 0), (0, pAV), (2, AV.p none)] = _
          simp only [sub_av]; rfl)
end Go.AK
namespace Go.AK
open Go Go.RowKit Go.Proofs
set_option linter.unusedVariables false
set_option maxRecDepth 100000
theorem ACall.heq {P : Program} {f : Nat} {args : List AV} {H H' : Heap} {K : ARes → Heap → Prop} (e : H = H') (h : ACall P f args H' K) : ACall P f args H K := by
  subst e; exact h
theorem isWord_iff {s : Str} {L : List Tok} (h : St s L) : decide (((runB 97 122 (s.drop (hdT L).2) : Nat) : Int) > 0) = isWord (hdT L).1 := by
  obtain ⟨h1, h2, h3, h4, h5⟩ := h.hd
  generalize (hdT L).2 = p at *
  generalize (hdT L).1 = tk at *
  subst h2
  generalize s.drop p = r at *
  cases r with
  | nil => rfl
  | cons c r =>
    have h6 := h3 (by simp)
    cases hm : tokLen (c :: r) with
    | zero => exact absurd hm h6
    | succ m =>
      rw [List.take_succ_cons]
      have e1 : runB 97 122 (c :: r) = (if 97 ≤ c.toNat ∧ c.toNat ≤ 122 then runB 97 122 r + 1 else 0) := rfl
      simp only [isWord, isLet]
      by_cases hd : 97 ≤ c.toNat ∧ c.toNat ≤ 122
      · rw [decide_eq_true (by rw [e1, if_pos hd]; omega), decide_eq_true hd.1, decide_eq_true hd.2]; rfl
      · rw [decide_eq_false (by rw [e1, if_neg hd]; omega)]
        symm
        rw [Bool.and_eq_false_iff, decide_eq_false_iff_not, decide_eq_false_iff_not]; omega
theorem opd_step {s : Str} {f : Nat} (hs : s.length ≤ 100000) (iho : Spec s 26 f .or) :
    Spec s 60 (f + 1) .opd := by
  intro o L ho hS hout
  have he : pp true (f + 1) .opd o L = (
    if (hdT L).1 = [40] then
      if o = 64 then .err (hdT L).2 12
      else nxt true L fun L => (pp true f .or (o + 1) L).bind fun x L => if (hdT L).1 = [41] then nxt true L fun L => .ok x L else .err (hdT L).2 11
    else if (hdT L).1 = wTrue ∨ (hdT L).1 = wFalse then nxt true L fun L' => .ok (.nd (if (hdT L).1 = wTrue then 6 else 7) [] [] 0 .nil .nil) L'
    else if flagsL.contains (hdT L).1 = true then nxt true L fun L' => .ok (.nd 5 (hdT L).1 [] 0 .nil .nil) L'
    else if numbersL.contains (hdT L).1 = true then
      nxt true L fun L1 => if opsL.contains (hdT L1).1 = true then nxt true L1 fun L2 => pnum true L2 fun n L3 => .ok (.nd 4 (hdT L).1 (hdT L1).1 n .nil .nil) L3 else .err (hdT L1).2 11
    else if isWord (hdT L).1 = true ∧ (hdT L).1 ≠ wAnd ∧ (hdT L).1 ≠ wOr then .err (hdT L).2 21 else .err (hdT L).2 11) := rfl
  generalize pp true (f + 1) .opd o L = r at he hout ⊢
  refine ACall.gh ?_
  refine ACall.enter tok false Tryd.func60 rfl rfl rfl (AW_sound (ip := false) tok _ _ _ _ ?_)
  conv => whnf
  by_cases c1 : (hdT L).1 = [40]
  · have b1 : ((hdT L).1 == [40]) = true := by rw [c1]; rfl
    rw [if_pos c1] at he
    repeat (first | (refine acond_t (b1) ?_; conv => whnf))
    by_cases c2 : o = 64
    · have b2 : (((o : Nat) : Int) == 64) = true := by rw [c2]; rfl
      rw [if_pos c2] at he
      subst he
      repeat (first | (refine acond_t (b2) ?_; conv => whnf))
      refine ACall.mono (stop_spec s (hdT L).1 (hdT L).2 o 12) ?_; rintro r0 H0 ⟨rfl, rfl⟩
      conv => whnf
      exact GhR.of ⟨rfl, _, rfl⟩
    · have b2 : (((o : Nat) : Int) == 64) = false := by rw [beq_eq_false_iff_ne]; omega
      rw [if_neg c2] at he
      have hw1 : IntKind.i64.wrap ((o : Int) + 1) = ((o + 1 : Nat) : Int) := by rw [IntKind.wrap_i64]; omega
      have hw2 : IntKind.i64.wrap (((o + 1 : Nat) : Int) - 1) = (o : Int) := by rw [IntKind.wrap_i64]; omega
      repeat (first | (refine acond_f (b2) ?_; conv => whnf))
      refine ⟨Nat.le_of_ble_eq_true rfl, ?_⟩
      conv => whnf
      refine ACall.heq (H' := [.c (pcl s (hdT L).2 (hdT L).1 ((o + 1 : Nat) : Int))]) (by show [Blk.c [_, _, _, .i .i64 (IntKind.i64.wrap _)]] = _; rw [hw1]; rfl) ?_
      refine ACall.mono (next_at hS (by rw [c1]; decide) hs) ?_
      rintro R H (⟨k1, rfl, cs, rfl⟩ | ⟨k1, rfl, rfl, hS1⟩)
      · rw [nxt_bad k1] at he; subst he
        conv => whnf
        exact GhR.of ⟨rfl, cs, rfl⟩
      rw [nxt_ok k1] at he
      conv => whnf
      refine ACall.mono (iho (o + 1) L.tail (by omega) hS1 (fun e => hout (by rw [he, e]; rfl))) ?_
      intro R H hP
      rcases hP.cases with ⟨p, e, hr, rfl, cs, rfl⟩ | ⟨x, L2, hr, rfl, rfl, hS2⟩
      · rw [hr] at he; subst he
        conv => whnf
        exact GhR.of ⟨rfl, cs, rfl⟩
      rw [hr] at he
      replace he : r = if (hdT L2).1 = [41] then nxt true L2 fun L => .ok x L else .err (hdT L2).2 11 := he
      conv => whnf
      by_cases c3 : (hdT L2).1 = [41]
      · have b3 : (!((hdT L2).1 == [41])) = false := by rw [c3]; rfl
        rw [if_pos c3] at he
        repeat (first | (refine acond_f (b3) ?_; conv => whnf))
        refine ⟨Nat.le_of_ble_eq_true rfl, ?_⟩
        conv => whnf
        refine ACall.heq (H' := [.c (pcl s (hdT L2).2 (hdT L2).1 o)]) (by show [Blk.c [_, _, _, .i .i64 (IntKind.i64.wrap _)]] = _; rw [hw2]; rfl) ?_
        refine ACall.mono (next_at hS2 (by rw [c3]; decide) hs) ?_
        rintro R H (⟨k1, rfl, cs, rfl⟩ | ⟨k1, rfl, rfl, hS3⟩)
        · rw [nxt_bad k1] at he; subst he
          conv => whnf
          exact GhR.of ⟨rfl, cs, rfl⟩
        · rw [nxt_ok k1] at he; subst he
          conv => whnf
          exact GhR.of ⟨rfl, rfl, hS3⟩
      · have b3 : (!((hdT L2).1 == [41])) = true := by simpa using c3
        rw [if_neg c3] at he
        subst he
        repeat (first | (refine acond_t (b3) ?_; conv => whnf))
        refine ACall.mono (stop_spec s (hdT L2).1 (hdT L2).2 _ 11) ?_; rintro r0 H0 ⟨rfl, rfl⟩
        conv => whnf
        exact GhR.of ⟨rfl, _, rfl⟩
  have b1 : ((hdT L).1 == [40]) = false := by simpa using c1
  rw [if_neg c1] at he
  repeat (first | (refine acond_f (b1) ?_; conv => whnf))
  by_cases c2 : (hdT L).1 = wTrue ∨ (hdT L).1 = wFalse
  · rw [if_pos c2] at he
    have hne : (hdT L).1 ≠ [] := by rcases c2 with e | e <;> rw [e] <;> decide
    by_cases c3 : (hdT L).1 = wTrue
    · have b3 : ((hdT L).1 == wTrue) = true := by rw [c3]; rfl
      repeat (first | (refine acond_t (b3) ?_; conv => whnf))
      refine ACall.mono (next_at hS hne hs) ?_
      rintro R H (⟨k1, rfl, cs, rfl⟩ | ⟨k1, rfl, rfl, hS1⟩)
      · rw [nxt_bad k1] at he; subst he
        conv => whnf
        exact GhR.of ⟨rfl, cs, rfl⟩
      · rw [nxt_ok k1, if_pos c3] at he; subst he
        conv => whnf
        repeat (first | (refine acond_t (b3) ?_; conv => whnf))
        exact GhR.frz 2 rfl (GhR.sel [0] rfl (GhR.of ⟨rfl, rfl, hS1⟩))
    · have c4 : (hdT L).1 = wFalse := c2.resolve_left c3
      have b3 : ((hdT L).1 == wTrue) = false := by simpa using c3
      have b4 : ((hdT L).1 == wFalse) = true := by rw [c4]; rfl
      repeat (first | (refine acond_f (b3) ?_; conv => whnf) | (refine acond_t (b4) ?_; conv => whnf))
      refine ACall.mono (next_at hS hne hs) ?_
      rintro R H (⟨k1, rfl, cs, rfl⟩ | ⟨k1, rfl, rfl, hS1⟩)
      · rw [nxt_bad k1] at he; subst he
        conv => whnf
        exact GhR.of ⟨rfl, cs, rfl⟩
      · rw [nxt_ok k1, if_neg c3] at he; subst he
        conv => whnf
        repeat (first | (refine acond_f (b3) ?_; conv => whnf) | (refine acond_t (b4) ?_; conv => whnf))
        exact GhR.frz 2 rfl (GhR.sel [0] rfl (GhR.of ⟨rfl, rfl, hS1⟩))
  rw [if_neg c2] at he
  have b2 : ((hdT L).1 == wTrue) = false := by simpa using fun e => c2 (.inl e)
  have b3 : ((hdT L).1 == wFalse) = false := by simpa using fun e => c2 (.inr e)
  repeat (first | (refine acond_f (b2) ?_; conv => whnf) | (refine acond_f (b3) ?_; conv => whnf))
  refine ACall.frameH [] [] rfl (args' := []) (Hc := []) rfl rfl flags_spec ?_
  rintro r0 H0 ⟨rfl, rfl⟩
  refine ⟨.inl rfl, [.c (pcl s (hdT L).2 (hdT L).1 o)], rfl, ?_⟩
  conv => whnf
  refine ACall.frameH [] [] rfl (args' := [.rs (strs flagsL) 0 1 flagsL.length, .s (sb (hdT L).1)]) (Hc := []) rfl rfl (contains_spec flagsL (hdT L).1 (by decide)) ?_
  rintro r0 H0 ⟨rfl, rfl⟩
  refine ⟨.inl rfl, [.c (pcl s (hdT L).2 (hdT L).1 o)], rfl, ?_⟩
  conv => whnf
  by_cases c3 : flagsL.contains (hdT L).1 = true
  · rw [if_pos c3] at he
    repeat (first | (refine acond_t (c3) ?_; conv => whnf))
    have hne : (hdT L).1 ≠ [] := fun e => by rw [e] at c3; exact absurd c3 (by decide)
    refine ACall.mono (next_at hS hne hs) ?_
    rintro R H (⟨k1, rfl, cs, rfl⟩ | ⟨k1, rfl, rfl, hS1⟩)
    · rw [nxt_bad k1] at he; subst he
      conv => whnf
      exact GhR.of ⟨rfl, cs, rfl⟩
    rw [nxt_ok k1] at he
    conv => whnf
    subst he
    exact GhR.frz 1 rfl (GhR.sel [0] rfl (GhR.of ⟨rfl, rfl, hS1⟩))
  rw [if_neg c3] at he
  repeat (first | (refine acond_f (Bool.eq_false_iff.2 c3) ?_; conv => whnf))
  refine ACall.frameH [] [] rfl (args' := []) (Hc := []) rfl rfl numbers_spec ?_
  rintro r0 H0 ⟨rfl, rfl⟩
  refine ⟨.inl rfl, [.c (pcl s (hdT L).2 (hdT L).1 o)], rfl, ?_⟩
  conv => whnf
  refine ACall.frameH [] [] rfl (args' := [.rs (strs numbersL) 0 1 numbersL.length, .s (sb (hdT L).1)]) (Hc := []) rfl rfl (contains_spec numbersL (hdT L).1 (by decide)) ?_
  rintro r0 H0 ⟨rfl, rfl⟩
  refine ⟨.inl rfl, [.c (pcl s (hdT L).2 (hdT L).1 o)], rfl, ?_⟩
  conv => whnf
  by_cases c4 : numbersL.contains (hdT L).1 = true
  · rw [if_pos c4] at he
    repeat (first | (refine acond_t (c4) ?_; conv => whnf))
    have hne : (hdT L).1 ≠ [] := fun e => by rw [e] at c4; exact absurd c4 (by decide)
    refine ACall.mono (next_at hS hne hs) ?_
    rintro R H (⟨k1, rfl, cs, rfl⟩ | ⟨k1, rfl, rfl, hS1⟩)
    · rw [nxt_bad k1] at he; subst he
      conv => whnf
      exact GhR.of ⟨rfl, cs, rfl⟩
    rw [nxt_ok k1] at he
    conv => whnf
    refine ACall.frameH [] [] rfl (args' := []) (Hc := []) rfl rfl ops_spec ?_
    rintro r0 H0 ⟨rfl, rfl⟩
    refine ⟨.inl rfl, [.c (pcl s (hdT L.tail).2 (hdT L.tail).1 o)], rfl, ?_⟩
    conv => whnf
    refine ACall.frameH [] [] rfl (args' := [.rs (strs opsL) 0 1 opsL.length, .s (sb (hdT L.tail).1)]) (Hc := []) rfl rfl (contains_spec opsL (hdT L.tail).1 (by decide)) ?_
    rintro r0 H0 ⟨rfl, rfl⟩
    refine ⟨.inl rfl, [.c (pcl s (hdT L.tail).2 (hdT L.tail).1 o)], rfl, ?_⟩
    conv => whnf
    by_cases c5 : opsL.contains (hdT L.tail).1 = true
    · rw [if_pos c5] at he
      have b5 : (!(opsL.contains (hdT L.tail).1)) = false := by rw [c5]; rfl
      repeat (first | (refine acond_f (b5) ?_; conv => whnf))
      have hne1 : (hdT L.tail).1 ≠ [] := fun e => by rw [e] at c5; exact absurd c5 (by decide)
      refine ACall.mono (next_at hS1 hne1 hs) ?_
      rintro R H (⟨k1, rfl, cs, rfl⟩ | ⟨k1, rfl, rfl, hS2⟩)
      · rw [nxt_bad k1] at he; subst he
        conv => whnf
        exact GhR.of ⟨rfl, cs, rfl⟩
      rw [nxt_ok k1] at he
      conv => whnf
      refine ACall.mono (number_spec hS2 hs) ?_
      rintro R H (⟨d1, rfl, cs, rfl⟩ | ⟨d1, d2, rfl, cs, rfl⟩ | ⟨d1, d2, d3, rfl, cs, rfl⟩ | ⟨d1, d2, d3, rfl, rfl, hS3⟩)
      · rw [pnum, if_pos d1] at he; subst he
        conv => whnf
        exact GhR.of ⟨rfl, cs, rfl⟩
      · rw [pnum, if_neg (by rw [d1]; decide), if_pos d2] at he; subst he
        conv => whnf
        exact GhR.of ⟨rfl, cs, rfl⟩
      · rw [pnum, if_neg (by rw [d1]; decide), if_neg d2, nxt_bad d3] at he; subst he
        conv => whnf
        exact GhR.of ⟨rfl, cs, rfl⟩
      · rw [pnum, if_neg (by rw [d1]; decide), if_neg d2, nxt_ok d3] at he; subst he
        conv => whnf
        exact GhR.frz 1 rfl (GhR.sel [0] rfl (GhR.of ⟨rfl, rfl, hS3⟩))
    · rw [if_neg c5] at he
      have b5 : (!(opsL.contains (hdT L.tail).1)) = true := by rw [Bool.eq_false_iff.2 c5]; rfl
      repeat (first | (refine acond_t (b5) ?_; conv => whnf))
      subst he
      refine ACall.mono (stop_spec s (hdT L.tail).1 (hdT L.tail).2 o 11) ?_; rintro r0 H0 ⟨rfl, rfl⟩
      conv => whnf
      exact GhR.of ⟨rfl, _, rfl⟩
  rw [if_neg c4] at he
  repeat (first | (refine acond_f (Bool.eq_false_iff.2 c4) ?_; conv => whnf))
  refine ACall.mono (run_spec s (hdT L).1 (hdT L).2 o (hdT L).2 97 122 (by omega) hS.hd.1) ?_; rintro r0 H0 ⟨rfl, rfl⟩
  conv => whnf
  have hwd := isWord_iff hS
  by_cases c5 : isWord (hdT L).1 = true
  · rw [c5] at hwd
    by_cases c6 : (hdT L).1 = wAnd
    · have b6 : (!((hdT L).1 == wAnd)) = false := by rw [c6]; rfl
      rw [if_neg (fun e => e.2.1 c6)] at he
      repeat (first | (refine acond_t (hwd) ?_; conv => whnf) | (refine acond_f (b6) ?_; conv => whnf))
      subst he
      refine ACall.mono (stop_spec s (hdT L).1 (hdT L).2 o 11) ?_; rintro r0 H0 ⟨rfl, rfl⟩
      conv => whnf
      exact GhR.of ⟨rfl, _, rfl⟩
    · have b6 : (!((hdT L).1 == wAnd)) = true := by simpa using c6
      by_cases c7 : (hdT L).1 = wOr
      · have b7 : (!((hdT L).1 == wOr)) = false := by rw [c7]; rfl
        rw [if_neg (fun e => e.2.2 c7)] at he
        repeat (first | (refine acond_t (hwd) ?_; conv => whnf) | (refine acond_t (b6) ?_; conv => whnf) | (refine acond_f (b7) ?_; conv => whnf))
        subst he
        refine ACall.mono (stop_spec s (hdT L).1 (hdT L).2 o 11) ?_; rintro r0 H0 ⟨rfl, rfl⟩
        conv => whnf
        exact GhR.of ⟨rfl, _, rfl⟩
      · have b7 : (!((hdT L).1 == wOr)) = true := by simpa using c7
        rw [if_pos ⟨c5, c6, c7⟩] at he
        repeat (first | (refine acond_t (hwd) ?_; conv => whnf) | (refine acond_t (b6) ?_; conv => whnf) | (refine acond_t (b7) ?_; conv => whnf))
        subst he
        refine ACall.mono (stop_spec s (hdT L).1 (hdT L).2 o 21) ?_; rintro r0 H0 ⟨rfl, rfl⟩
        conv => whnf
        exact GhR.of ⟨rfl, _, rfl⟩
  · rw [Bool.eq_false_iff.2 c5] at hwd
    rw [if_neg (fun e => c5 e.1)] at he
    repeat (first | (refine acond_f (hwd) ?_; conv => whnf))
    subst he
    refine ACall.mono (stop_spec s (hdT L).1 (hdT L).2 o 11) ?_; rintro r0 H0 ⟨rfl, rfl⟩
    conv => whnf
    exact GhR.of ⟨rfl, _, rfl⟩
end Go.AK
namespace Go.AK
open Go Go.RowKit Go.Proofs
set_option linter.unusedVariables false
set_option maxRecDepth 100000
theorem pp_all {s : Str} (hs : s.length ≤ 100000) : ∀ f : Nat, (∀ g, g ≤ f → Spec s 26 g .or) ∧ (∀ g, g ≤ f → Spec s 40 g .and) ∧
    (∀ g, g ≤ f → Spec s 51 g .not) ∧ (∀ g, g ≤ f → Spec s 60 g .opd)
  | 0 => by
    refine ⟨?_, ?_, ?_, ?_⟩ <;> (intro g hg; cases Nat.le_zero.1 hg; intro o L _ _ h; exact absurd rfl h)
  | f + 1 => by
    obtain ⟨h1, h2, h3, h4⟩ := pp_all hs f
    have k1 := or_step hs h2
    have k2 := and_step hs h3
    have k3 := not_step hs (h3 f (Nat.le_refl _)) (h4 f (Nat.le_refl _))
    have k4 := opd_step hs (h1 f (Nat.le_refl _))
    refine ⟨?_, ?_, ?_, ?_⟩ <;> intro g hg
    · by_cases e : g = f + 1
      · subst e; exact k1
      · exact h1 g (by omega)
    · by_cases e : g = f + 1
      · subst e; exact k2
      · exact h2 g (by omega)
    · by_cases e : g = f + 1
      · subst e; exact k3
      · exact h3 g (by omega)
    · by_cases e : g = f + 1
      · subst e; exact k4
      · exact h4 g (by omega)
/-! There is fuel enough. -/
def Md.need : Md → Nat → Nat
  | .opd, n => 6 * n + 1
  | .not, n => 6 * n + 2
  | .andL _, n => 6 * n + 2
  | .and, n => 6 * n + 3
  | .orL _, n => 6 * n + 3
  | .or, n => 6 * n + 4
/-- No longer row of tokens is left, and each node took one. -/
def Fine (n : Nat) (r : PR) : Prop := r ≠ .out ∧ ∀ x L, r = .ok x L → L.length + x.depth ≤ n
theorem Fine.err {n p : Nat} {e : Int} : Fine n (.err p e) := ⟨nofun, nofun⟩
theorem Fine.ok {n : Nat} {x : Ex} {L : List Tok} (h : L.length + x.depth ≤ n) : Fine n (.ok x L) := ⟨nofun, fun _ _ e => by cases e; exact h⟩
theorem Fine.bind {n n1 : Nat} {r : PR} {k : Ex → List Tok → PR} (h : Fine n1 r) (hk : ∀ x L, L.length + x.depth ≤ n1 → Fine n (k x L)) : Fine n (r.bind k) := by
  cases r with
  | out => exact absurd rfl h.1
  | err p e => exact Fine.err
  | ok x L => exact hk x L (h.2 x L rfl)
theorem Fine.nxt {n : Nat} {g : Bool} {L : List Tok} {k : List Tok → PR} (hk : Fine n (k L.tail)) : Fine n (nxt g L k) := by
  unfold AK.nxt
  split
  · exact Fine.err
  · exact hk
theorem Fine.mono {n m : Nat} {r : PR} (h : Fine n r) (hm : n ≤ m) : Fine m r := ⟨h.1, fun x L e => Nat.le_trans (h.2 x L e) hm⟩
theorem tok_tail {L : List Tok} (h : (hdT L).1 ≠ []) : L.tail.length + 1 = L.length := by
  cases L with
  | nil => exact absurd rfl h
  | cons t L => rfl
def Md.dep : Md → Nat
  | .orL x => x.depth
  | .andL x => x.depth
  | _ => 0
theorem depth_nd (k : Int) (w o : Str) (n : Int) (x y : Ex) : (Ex.nd k w o n x y).depth ≤ 1 + x.depth + y.depth := by
  simp only [Ex.depth]; omega
theorem pp_fine (g : Bool) : ∀ (f : Nat) (m : Md) (o : Nat) (L : List Tok), m.need L.length ≤ f → Fine (L.length + m.dep) (pp g f m o L)
  | 0, m, o, L, h => by cases m <;> simp only [Md.need] at h <;> omega
  | f + 1, .or, o, L, h => by
    simp only [Md.need] at h
    unfold pp
    refine Fine.bind (pp_fine g f .and o L (by simp only [Md.need]; omega)) fun x L' hl => ?_
    simp only [Md.dep] at hl ⊢
    exact (pp_fine g f (.orL x) o L' (by simp only [Md.need]; omega)).mono (by simp only [Md.dep]; omega)
  | f + 1, .orL x, o, L, h => by
    simp only [Md.need] at h
    unfold pp
    split
    · rename_i hw
      have ht := tok_tail (L := L) (by rw [hw]; decide)
      refine Fine.nxt ?_
      refine Fine.bind (pp_fine g f .and o _ (by simp only [Md.need]; omega)) fun y L' hl => ?_
      have := depth_nd 3 [] [] 0 x y
      simp only [Md.dep] at hl ⊢
      exact (pp_fine g f (.orL _) o L' (by simp only [Md.need]; omega)).mono (by simp only [Md.dep]; omega)
    · exact Fine.ok (Nat.le_refl _)
  | f + 1, .and, o, L, h => by
    simp only [Md.need] at h
    unfold pp
    refine Fine.bind (pp_fine g f .not o L (by simp only [Md.need]; omega)) fun x L' hl => ?_
    simp only [Md.dep] at hl ⊢
    exact (pp_fine g f (.andL x) o L' (by simp only [Md.need]; omega)).mono (by simp only [Md.dep]; omega)
  | f + 1, .andL x, o, L, h => by
    simp only [Md.need] at h
    unfold pp
    split
    · rename_i hw
      have ht := tok_tail (L := L) (by rw [hw]; decide)
      refine Fine.nxt ?_
      refine Fine.bind (pp_fine g f .not o _ (by simp only [Md.need]; omega)) fun y L' hl => ?_
      have := depth_nd 2 [] [] 0 x y
      simp only [Md.dep] at hl ⊢
      exact (pp_fine g f (.andL _) o L' (by simp only [Md.need]; omega)).mono (by simp only [Md.dep]; omega)
    · exact Fine.ok (Nat.le_refl _)
  | f + 1, .not, o, L, h => by
    simp only [Md.need] at h
    unfold pp
    split
    · rename_i hw
      have ht := tok_tail (L := L) (by rw [hw]; decide)
      refine Fine.nxt ?_
      refine Fine.bind (pp_fine g f .not o _ (by simp only [Md.need]; omega)) fun y L' hl => Fine.ok ?_
      have := depth_nd 1 [] [] 0 y .nil
      simp only [Md.dep, Ex.depth] at hl this ⊢
      omega
    · exact pp_fine g f .opd o L (by simp only [Md.need]; omega)
  | f + 1, .opd, o, L, h => by
    simp only [Md.need] at h
    unfold pp
    split
    · rename_i hw
      have ht := tok_tail (L := L) (by rw [hw]; decide)
      split
      · exact Fine.err
      refine Fine.nxt ?_
      refine Fine.bind (pp_fine g f .or (o + 1) _ (by simp only [Md.need]; omega)) fun y L' hl => ?_
      simp only [Md.dep] at hl ⊢
      split
      · rename_i hw'
        have ht' := tok_tail (L := L') (by rw [hw']; decide)
        exact Fine.nxt (Fine.ok (by omega))
      · exact Fine.err
    split
    · rename_i hw
      have ht := tok_tail (L := L) (by rcases hw with e | e <;> rw [e] <;> decide)
      exact Fine.nxt (Fine.ok (by simp only [Md.dep, Ex.depth]; omega))
    split
    · rename_i hw
      have ht := tok_tail (L := L) (fun e => by rw [e] at hw; exact absurd hw (by decide))
      exact Fine.nxt (Fine.ok (by simp only [Md.dep, Ex.depth]; omega))
    split
    · rename_i hw
      have ht := tok_tail (L := L) (fun e => by rw [e] at hw; exact absurd hw (by decide))
      refine Fine.nxt ?_
      split
      · refine Fine.nxt ?_
        unfold pnum
        split
        · exact Fine.err
        split
        · exact Fine.err
        exact Fine.nxt (Fine.ok (by simp only [List.length_tail, Md.dep, Ex.depth] at ht ⊢; omega))
      · exact Fine.err
    split
    · exact Fine.err
    · exact Fine.err
theorem lex_len : ∀ (f : Nat) (r : Str) (p : Nat), r.length < f → (lex f r p).length ≤ r.length + 1
  | 0, _, _, h => by omega
  | f + 1, r, p, h => by
    unfold lex
    split
    · simp
    rename_i h0
    have hl : 0 < r.length := List.length_pos_iff.2 h0
    split
    · have := lex_len f r.tail (p + 1) (by rw [List.length_tail]; omega)
      rw [List.length_tail] at this
      omega
    split
    · simp
    · have hd : (r.drop (tokLen r)).length = r.length - tokLen r := List.length_drop
      have := lex_len f (r.drop (tokLen r)) (p + tokLen r) (by omega)
      rw [List.length_cons]; omega
theorem lexS_len (r : Str) (p : Nat) : (lexS r p).length ≤ r.length + 1 := lex_len _ _ _ (Nat.lt_succ_self _)
theorem parse_fine (g : Bool) (s : Str) (o : Nat) (L : List Tok) (h : L.length ≤ s.length + 1) : Fine (s.length + 1) (pp g (8 * s.length + 64) .or o L) :=
  (pp_fine g _ .or o L (by simp only [Md.need]; omega)).mono (by simp only [Md.dep]; omega)
end Go.AK
namespace Go.AK
open Go Go.RowKit Go.Proofs
set_option linter.unusedVariables false
set_option maxRecDepth 100000
/-! A parser that is eager, and one that is not. -/
def eager : PR → PR
  | .ok x L => if (hdT L).1 = [63] then .err (hdT L).2 11 else .ok x L
  | r => r
theorem pp_bad (g : Bool) : ∀ (f : Nat) (m : Md) (o : Nat) (L : List Tok), (hdT L).1 = [63] → m.need L.length ≤ f →
    pp g f m o L = match m with
      | .orL x => .ok x L
      | .andL x => .ok x L
      | _ => .err (hdT L).2 11
  | 0, m, o, L, _, h => by cases m <;> simp only [Md.need] at h <;> omega
  | f + 1, .or, o, L, hq, h => by
    simp only [Md.need] at h
    unfold pp
    rw [pp_bad g f .and o L hq (by simp only [Md.need]; omega)]; rfl
  | f + 1, .orL x, o, L, hq, h => by
    unfold pp
    rw [hq, if_neg (by decide)]
  | f + 1, .and, o, L, hq, h => by
    simp only [Md.need] at h
    unfold pp
    rw [pp_bad g f .not o L hq (by simp only [Md.need]; omega)]; rfl
  | f + 1, .andL x, o, L, hq, h => by
    unfold pp
    rw [hq, if_neg (by decide)]
  | f + 1, .not, o, L, hq, h => by
    simp only [Md.need] at h
    unfold pp
    rw [hq, if_neg (by decide), pp_bad g f .opd o L hq (by simp only [Md.need]; omega)]
  | f + 1, .opd, o, L, hq, h => by
    unfold pp
    rw [hq, if_neg (by decide), if_neg (by decide), if_neg (by decide), if_neg (by decide), if_neg (by decide)]
theorem nxt_true (L : List Tok) (k : List Tok → PR) : nxt true L k = if (hdT L.tail).1 = [63] then .err (hdT L.tail).2 11 else k L.tail := by
  unfold nxt
  by_cases h : (hdT L.tail).1 = [63]
  · rw [if_pos ⟨rfl, h⟩, if_pos h]
  · rw [if_neg (fun e => h e.2), if_neg h]
theorem nxt_false (L : List Tok) (k : List Tok → PR) : nxt false L k = k L.tail := by
  unfold nxt; rw [if_neg (fun e => nomatch e.1)]
theorem eager_nxt_ok (L : List Tok) (x : Ex) : nxt true L (fun L => .ok x L) = eager (nxt false L fun L => .ok x L) := by
  rw [nxt_true, nxt_false]; rfl
theorem eager_bind {r : PR} {k k' : Ex → List Tok → PR} (h : ∀ x L, r = .ok x L → (hdT L).1 ≠ [63] → k' x L = eager (k x L)) (hq : ∀ x L, r = .ok x L → (hdT L).1 = [63] → eager (k x L) = .err (hdT L).2 11) :
    (eager r).bind k' = eager (r.bind k) := by
  cases r with
  | out => rfl
  | err p e => rfl
  | ok x L =>
    by_cases hh : (hdT L).1 = [63]
    · show (if (hdT L).1 = [63] then PR.err (hdT L).2 11 else .ok x L).bind k' = eager (k x L)
      rw [if_pos hh, hq x L rfl hh]; rfl
    · show (if (hdT L).1 = [63] then PR.err (hdT L).2 11 else .ok x L).bind k' = eager (k x L)
      rw [if_neg hh]
      exact h x L rfl hh
theorem pp_eager : ∀ (f : Nat) (m : Md) (o : Nat) (L : List Tok), (hdT L).1 ≠ [63] → m.need L.length ≤ f → pp true f m o L = eager (pp false f m o L)
  | 0, m, o, L, _, h => by cases m <;> simp only [Md.need] at h <;> omega
  | f + 1, .or, o, L, hq, h => by
    simp only [Md.need] at h
    have hf := pp_fine false f .and o L (by simp only [Md.need]; omega)
    unfold pp
    rw [pp_eager f .and o L hq (by simp only [Md.need]; omega)]
    refine eager_bind (fun x L' e hh => ?_) (fun x L' e hh => ?_)
    · have := hf.2 x L' e; simp only [Md.dep] at this
      exact pp_eager f (.orL x) o L' hh (by simp only [Md.need]; omega)
    · have := hf.2 x L' e; simp only [Md.dep] at this
      rw [pp_bad false f (.orL x) o L' hh (by simp only [Md.need]; omega)]
      show (if (hdT L').1 = [63] then PR.err (hdT L').2 11 else .ok x L') = _
      rw [if_pos hh]
  | f + 1, .orL x, o, L, hq, h => by
    simp only [Md.need] at h
    unfold pp
    by_cases hw : (hdT L).1 = wOr
    · rw [if_pos hw, if_pos hw, nxt_true, nxt_false]
      have ht := tok_tail (L := L) (by rw [hw]; decide)
      by_cases h2 : (hdT L.tail).1 = [63]
      · rw [if_pos h2, pp_bad false f .and o L.tail h2 (by simp only [Md.need]; omega)]; rfl
      · rw [if_neg h2, pp_eager f .and o L.tail h2 (by simp only [Md.need]; omega)]
        have hf := pp_fine false f .and o L.tail (by simp only [Md.need]; omega)
        refine eager_bind (fun y L' e hh => ?_) (fun y L' e hh => ?_)
        · have := hf.2 y L' e; simp only [Md.dep] at this
          exact pp_eager f (.orL _) o L' hh (by simp only [Md.need]; omega)
        · have := hf.2 y L' e; simp only [Md.dep] at this
          rw [pp_bad false f (.orL _) o L' hh (by simp only [Md.need]; omega)]
          show (if (hdT L').1 = [63] then PR.err (hdT L').2 11 else .ok _ L') = _
          rw [if_pos hh]
    · rw [if_neg hw, if_neg hw]
      show _ = (if (hdT L).1 = [63] then PR.err (hdT L).2 11 else .ok x L)
      rw [if_neg hq]
  | f + 1, .and, o, L, hq, h => by
    simp only [Md.need] at h
    have hf := pp_fine false f .not o L (by simp only [Md.need]; omega)
    unfold pp
    rw [pp_eager f .not o L hq (by simp only [Md.need]; omega)]
    refine eager_bind (fun x L' e hh => ?_) (fun x L' e hh => ?_)
    · have := hf.2 x L' e; simp only [Md.dep] at this
      exact pp_eager f (.andL x) o L' hh (by simp only [Md.need]; omega)
    · have := hf.2 x L' e; simp only [Md.dep] at this
      rw [pp_bad false f (.andL x) o L' hh (by simp only [Md.need]; omega)]
      show (if (hdT L').1 = [63] then PR.err (hdT L').2 11 else .ok x L') = _
      rw [if_pos hh]
  | f + 1, .andL x, o, L, hq, h => by
    simp only [Md.need] at h
    unfold pp
    by_cases hw : (hdT L).1 = wAnd
    · rw [if_pos hw, if_pos hw, nxt_true, nxt_false]
      have ht := tok_tail (L := L) (by rw [hw]; decide)
      by_cases h2 : (hdT L.tail).1 = [63]
      · rw [if_pos h2, pp_bad false f .not o L.tail h2 (by simp only [Md.need]; omega)]; rfl
      · rw [if_neg h2, pp_eager f .not o L.tail h2 (by simp only [Md.need]; omega)]
        have hf := pp_fine false f .not o L.tail (by simp only [Md.need]; omega)
        refine eager_bind (fun y L' e hh => ?_) (fun y L' e hh => ?_)
        · have := hf.2 y L' e; simp only [Md.dep] at this
          exact pp_eager f (.andL _) o L' hh (by simp only [Md.need]; omega)
        · have := hf.2 y L' e; simp only [Md.dep] at this
          rw [pp_bad false f (.andL _) o L' hh (by simp only [Md.need]; omega)]
          show (if (hdT L').1 = [63] then PR.err (hdT L').2 11 else .ok _ L') = _
          rw [if_pos hh]
    · rw [if_neg hw, if_neg hw]
      show _ = (if (hdT L).1 = [63] then PR.err (hdT L).2 11 else .ok x L)
      rw [if_neg hq]
  | f + 1, .not, o, L, hq, h => by
    simp only [Md.need] at h
    unfold pp
    by_cases hw : (hdT L).1 = wNot
    · rw [if_pos hw, if_pos hw, nxt_true, nxt_false]
      have ht := tok_tail (L := L) (by rw [hw]; decide)
      by_cases h2 : (hdT L.tail).1 = [63]
      · rw [if_pos h2, pp_bad false f .not o L.tail h2 (by simp only [Md.need]; omega)]; rfl
      · rw [if_neg h2, pp_eager f .not o L.tail h2 (by simp only [Md.need]; omega)]
        refine eager_bind (fun y L' e hh => ?_) (fun y L' e hh => ?_)
        · show _ = (if (hdT L').1 = [63] then PR.err (hdT L').2 11 else .ok _ L')
          rw [if_neg hh]
        · show (if (hdT L').1 = [63] then PR.err (hdT L').2 11 else .ok _ L') = _
          rw [if_pos hh]
    · rw [if_neg hw, if_neg hw]
      exact pp_eager f .opd o L hq (by simp only [Md.need]; omega)
  | f + 1, .opd, o, L, hq, h => by
    simp only [Md.need] at h
    unfold pp
    by_cases c1 : (hdT L).1 = [40]
    · rw [if_pos c1, if_pos c1]
      have ht := tok_tail (L := L) (by rw [c1]; decide)
      by_cases c2 : o = 64
      · rw [if_pos c2, if_pos c2]; rfl
      rw [if_neg c2, if_neg c2, nxt_true, nxt_false]
      by_cases h2 : (hdT L.tail).1 = [63]
      · rw [if_pos h2, pp_bad false f .or (o + 1) L.tail h2 (by simp only [Md.need]; omega)]; rfl
      · rw [if_neg h2, pp_eager f .or (o + 1) L.tail h2 (by simp only [Md.need]; omega)]
        refine eager_bind (fun y L' e hh => ?_) (fun y L' e hh => ?_)
        · by_cases c3 : (hdT L').1 = [41]
          · rw [if_pos c3, if_pos c3]; exact eager_nxt_ok L' y
          · rw [if_neg c3, if_neg c3]; rfl
        · rw [if_neg (by rw [hh]; decide)]; rfl
    rw [if_neg c1, if_neg c1]
    by_cases c2 : (hdT L).1 = wTrue ∨ (hdT L).1 = wFalse
    · rw [if_pos c2, if_pos c2]; exact eager_nxt_ok L _
    rw [if_neg c2, if_neg c2]
    by_cases c3 : flagsL.contains (hdT L).1 = true
    · rw [if_pos c3, if_pos c3]; exact eager_nxt_ok L _
    rw [if_neg c3, if_neg c3]
    by_cases c4 : numbersL.contains (hdT L).1 = true
    · rw [if_pos c4, if_pos c4, nxt_true, nxt_false]
      by_cases h2 : (hdT L.tail).1 = [63]
      · rw [if_pos h2, if_neg (by rw [h2]; decide)]; rfl
      rw [if_neg h2]
      by_cases c5 : opsL.contains (hdT L.tail).1 = true
      · rw [if_pos c5, if_pos c5, nxt_true, nxt_false]
        by_cases h3 : (hdT L.tail.tail).1 = [63]
        · rw [if_pos h3, pnum, if_pos (by rw [h3]; rfl)]; rfl
        rw [if_neg h3, pnum, pnum]
        by_cases c6 : badNum (hdT L.tail.tail).1 = true
        · rw [if_pos c6, if_pos c6]; rfl
        rw [if_neg c6, if_neg c6]
        by_cases c7 : 9223372036854775807 < valD (hdT L.tail.tail).1
        · rw [if_pos c7, if_pos c7]; rfl
        rw [if_neg c7, if_neg c7]
        exact eager_nxt_ok L.tail.tail _
      · rw [if_neg c5, if_neg c5]; rfl
    rw [if_neg c4, if_neg c4]
    by_cases c5 : isWord (hdT L).1 = true ∧ (hdT L).1 ≠ wAnd ∧ (hdT L).1 ≠ wOr
    · rw [if_pos c5]; rfl
    · rw [if_neg c5]; rfl
theorem topE_eager (g : Bool) (r : PR) : topE g (eager r) = topE g r := by
  cases r with
  | out => rfl
  | err p e => rfl
  | ok x L =>
    show topE g (if (hdT L).1 = [63] then PR.err (hdT L).2 11 else .ok x L) = _
    by_cases h : (hdT L).1 = [63]
    · rw [if_pos h]
      show _ = if (hdT L).1 ≠ [] then _ else _
      rw [if_pos (by rw [h]; decide)]; rfl
    · rw [if_neg h]
/-- The document's reading is the program's. -/
theorem parseE_lazy (s : Str) : parseE s = if 8192 < s.length then (.nil, 0, 12) else topE false (pp false (8 * s.length + 64) .or 0 (lexS s 0)) := by
  unfold parseE
  by_cases h : 8192 < s.length
  · rw [if_pos h, if_pos h]
  rw [if_neg h, if_neg h]
  have hl := lexS_len s 0
  have hn : Md.or.need (lexS s 0).length ≤ 8 * s.length + 64 := by simp only [Md.need]; omega
  by_cases hq : (hdT (lexS s 0)).1 = [63]
  · rw [nxt_true, List.tail_cons, if_pos hq, pp_bad false _ .or 0 _ hq hn]; rfl
  · rw [nxt_true, List.tail_cons, if_neg hq, pp_eager _ .or 0 _ hq hn, topE_eager]; rfl
end Go.AK
namespace Go.AK
open Go Go.RowKit Go.Proofs
set_option linter.unusedVariables false
set_option maxRecDepth 100000
/-! The parser without fuel. -/
theorem bind_succ {r r' : PR} {k k' : Ex → List Tok → PR} (h : r.bind k ≠ .out) (hr : r ≠ .out → r' = r) (hk : ∀ x L, r = .ok x L → k x L ≠ .out → k' x L = k x L) : r'.bind k' = r.bind k := by
  cases r with
  | out => exact absurd rfl h
  | err p e => rw [hr (by simp)]; rfl
  | ok x L => rw [hr (by simp)]; exact hk x L rfl h
theorem pp_succ : ∀ (f : Nat) (m : Md) (o : Nat) (L : List Tok), pp false f m o L ≠ .out → pp false (f + 1) m o L = pp false f m o L
  | 0, _, _, _, h => absurd rfl h
  | f + 1, .or, o, L, h => by
    unfold pp at h ⊢
    exact bind_succ h (pp_succ f _ _ _) fun x L' _ hk => pp_succ f _ _ _ hk
  | f + 1, .orL x, o, L, h => by
    unfold pp at h ⊢
    by_cases hw : (hdT L).1 = wOr
    · rw [if_pos hw, nxt_false] at h ⊢
      rw [if_pos hw, nxt_false]
      exact bind_succ h (pp_succ f _ _ _) fun x L' _ hk => pp_succ f _ _ _ hk
    · rw [if_neg hw, if_neg hw]
  | f + 1, .and, o, L, h => by
    unfold pp at h ⊢
    exact bind_succ h (pp_succ f _ _ _) fun x L' _ hk => pp_succ f _ _ _ hk
  | f + 1, .andL x, o, L, h => by
    unfold pp at h ⊢
    by_cases hw : (hdT L).1 = wAnd
    · rw [if_pos hw, nxt_false] at h ⊢
      rw [if_pos hw, nxt_false]
      exact bind_succ h (pp_succ f _ _ _) fun x L' _ hk => pp_succ f _ _ _ hk
    · rw [if_neg hw, if_neg hw]
  | f + 1, .not, o, L, h => by
    unfold pp at h ⊢
    by_cases hw : (hdT L).1 = wNot
    · rw [if_pos hw, nxt_false] at h ⊢
      rw [if_pos hw, nxt_false]
      exact bind_succ h (pp_succ f _ _ _) fun x L' _ _ => rfl
    · rw [if_neg hw] at h ⊢
      rw [if_neg hw]
      exact pp_succ f _ _ _ h
  | f + 1, .opd, o, L, h => by
    unfold pp at h ⊢
    by_cases hw : (hdT L).1 = [40]
    · rw [if_pos hw] at h ⊢
      rw [if_pos hw]
      by_cases ho : o = 64
      · rw [if_pos ho, if_pos ho]
      rw [if_neg ho, nxt_false] at h ⊢
      rw [if_neg ho, nxt_false]
      exact bind_succ h (pp_succ f _ _ _) fun x L' _ _ => rfl
    · rw [if_neg hw, if_neg hw]
theorem pp_more {f : Nat} {m : Md} {o : Nat} {L : List Tok} {r : PR} (h : pp false f m o L = r) (hr : r ≠ .out) : ∀ k : Nat, pp false (f + k) m o L = r
  | 0 => h
  | k + 1 => by
    have := pp_more h hr k
    rw [show f + (k + 1) = (f + k) + 1 from rfl, pp_succ (f + k) m o L (by rw [this]; exact hr), this]
def PP (m : Md) (o : Nat) (L : List Tok) (r : PR) : Prop := r ≠ .out ∧ ∃ f, pp false f m o L = r
theorem PP.at {m : Md} {o : Nat} {L : List Tok} {r : PR} (h : PP m o L r) {f : Nat} (hf : pp false f m o L ≠ .out) : pp false f m o L = r := by
  obtain ⟨hr, g, hg⟩ := h
  rcases Nat.le_total g f with hle | hle
  · have := pp_more hg hr (f - g)
    rwa [show g + (f - g) = f from by omega] at this
  · have := pp_more (f := f) rfl hf (g - f)
    rw [show f + (g - f) = g from by omega, hg] at this
    exact this.symm
theorem PP.two {m m' : Md} {o o' : Nat} {L L' : List Tok} {r r' : PR} (h : PP m o L r) (h' : PP m' o' L' r') : ∃ f, pp false f m o L = r ∧ pp false f m' o' L' = r' := by
  obtain ⟨hr, f, hf⟩ := h
  obtain ⟨hr', g, hg⟩ := h'
  refine ⟨f + g, pp_more hf hr g, ?_⟩
  rw [Nat.add_comm]; exact pp_more hg hr' f
theorem PP.or {o : Nat} {L L1 : List Tok} {x : Ex} {r : PR} (h : PP .and o L (.ok x L1)) (k : PP (.orL x) o L1 r) : PP .or o L r := by
  obtain ⟨f, h1, h2⟩ := h.two k
  exact ⟨k.1, f + 1, by unfold pp; rw [h1]; exact h2⟩
theorem PP.or_err {o p : Nat} {e : Int} {L : List Tok} (h : PP .and o L (.err p e)) : PP .or o L (.err p e) := by
  obtain ⟨_, f, h1⟩ := h
  exact ⟨nofun, f + 1, by unfold pp; rw [h1]; rfl⟩
theorem PP.orL {o : Nat} {L L1 : List Tok} {x y : Ex} {r : PR} (hw : (hdT L).1 = wOr) (h : PP .and o L.tail (.ok y L1)) (k : PP (.orL (.nd 3 [] [] 0 x y)) o L1 r) : PP (.orL x) o L r := by
  obtain ⟨f, h1, h2⟩ := h.two k
  exact ⟨k.1, f + 1, by unfold pp; rw [if_pos hw, nxt_false, h1]; exact h2⟩
theorem PP.orL_end {o : Nat} {L : List Tok} {x : Ex} (hw : (hdT L).1 ≠ wOr) : PP (.orL x) o L (.ok x L) := ⟨nofun, 1, by unfold pp; rw [if_neg hw]⟩
theorem PP.and {o : Nat} {L L1 : List Tok} {x : Ex} {r : PR} (h : PP .not o L (.ok x L1)) (k : PP (.andL x) o L1 r) : PP .and o L r := by
  obtain ⟨f, h1, h2⟩ := h.two k
  exact ⟨k.1, f + 1, by unfold pp; rw [h1]; exact h2⟩
theorem PP.and_err {o p : Nat} {e : Int} {L : List Tok} (h : PP .not o L (.err p e)) : PP .and o L (.err p e) := by
  obtain ⟨_, f, h1⟩ := h
  exact ⟨nofun, f + 1, by unfold pp; rw [h1]; rfl⟩
theorem PP.andL {o : Nat} {L L1 : List Tok} {x y : Ex} {r : PR} (hw : (hdT L).1 = wAnd) (h : PP .not o L.tail (.ok y L1)) (k : PP (.andL (.nd 2 [] [] 0 x y)) o L1 r) : PP (.andL x) o L r := by
  obtain ⟨f, h1, h2⟩ := h.two k
  exact ⟨k.1, f + 1, by unfold pp; rw [if_pos hw, nxt_false, h1]; exact h2⟩
theorem PP.andL_end {o : Nat} {L : List Tok} {x : Ex} (hw : (hdT L).1 ≠ wAnd) : PP (.andL x) o L (.ok x L) := ⟨nofun, 1, by unfold pp; rw [if_neg hw]⟩
theorem PP.not {o : Nat} {L L1 : List Tok} {x : Ex} (hw : (hdT L).1 = wNot) (h : PP .not o L.tail (.ok x L1)) : PP .not o L (.ok (.nd 1 [] [] 0 x .nil) L1) := by
  obtain ⟨_, f, h1⟩ := h
  exact ⟨nofun, f + 1, by unfold pp; rw [if_pos hw, nxt_false, h1]; rfl⟩
theorem PP.not_opd {o : Nat} {L : List Tok} {r : PR} (hw : (hdT L).1 ≠ wNot) (h : PP .opd o L r) : PP .not o L r := by
  obtain ⟨hr, f, h1⟩ := h
  exact ⟨hr, f + 1, by unfold pp; rw [if_neg hw]; exact h1⟩
theorem PP.paren {o : Nat} {L L1 : List Tok} {x : Ex} (hw : (hdT L).1 = [40]) (ho : o ≠ 64) (h : PP .or (o + 1) L.tail (.ok x L1)) (hc : (hdT L1).1 = [41]) : PP .opd o L (.ok x L1.tail) := by
  obtain ⟨_, f, h1⟩ := h
  refine ⟨nofun, f + 1, ?_⟩
  unfold pp
  rw [if_pos hw, if_neg ho, nxt_false, h1]
  show (if (hdT L1).1 = [41] then _ else _) = _
  rw [if_pos hc, nxt_false]
theorem PP.paren_err {o p : Nat} {e : Int} {L : List Tok} (hw : (hdT L).1 = [40]) (ho : o ≠ 64) (h : PP .or (o + 1) L.tail (.err p e)) : PP .opd o L (.err p e) := by
  obtain ⟨_, f, h1⟩ := h
  refine ⟨nofun, f + 1, ?_⟩
  unfold pp
  rw [if_pos hw, if_neg ho, nxt_false, h1]; rfl
theorem PP.long {L : List Tok} (hw : (hdT L).1 = [40]) : PP .opd 64 L (.err (hdT L).2 12) := ⟨nofun, 1, by unfold pp; rw [if_pos hw, if_pos rfl]⟩
theorem PP.bool {o : Nat} {L : List Tok} (k : Int) (hw : (hdT L).1 = wTrue ∧ k = 6 ∨ (hdT L).1 = wFalse ∧ k = 7) : PP .opd o L (.ok (.nd k [] [] 0 .nil .nil) L.tail) := by
  refine ⟨nofun, 1, ?_⟩
  unfold pp
  rcases hw with ⟨h, rfl⟩ | ⟨h, rfl⟩
  · rw [if_neg (by rw [h]; decide), if_pos (.inl h), nxt_false, if_pos h]
  · rw [if_neg (by rw [h]; decide), if_pos (.inr h), nxt_false, if_neg (by rw [h]; decide)]
theorem flag_ne {t : Str} (h : flagsL.contains t = true) : t ≠ [40] ∧ ¬ (t = wTrue ∨ t = wFalse) ∧ t ≠ wNot := by
  refine ⟨fun e => ?_, fun e => ?_, fun e => ?_⟩
  · rw [e] at h; exact absurd h (by decide)
  · rcases e with e | e <;> (rw [e] at h; exact absurd h (by decide))
  · rw [e] at h; exact absurd h (by decide)
theorem num_ne {t : Str} (h : numbersL.contains t = true) : t ≠ [40] ∧ ¬ (t = wTrue ∨ t = wFalse) ∧ t ≠ wNot ∧ ¬ flagsL.contains t = true := by
  refine ⟨fun e => ?_, fun e => ?_, fun e => ?_, fun e => ?_⟩
  · rw [e] at h; exact absurd h (by decide)
  · rcases e with e | e <;> (rw [e] at h; exact absurd h (by decide))
  · rw [e] at h; exact absurd h (by decide)
  · have hm : ∀ t ∈ numbersL, ¬ flagsL.contains t = true := by decide
    exact hm t (by simpa using h) e
theorem PP.flag {o : Nat} {L : List Tok} (hw : flagsL.contains (hdT L).1 = true) : PP .opd o L (.ok (.nd 5 (hdT L).1 [] 0 .nil .nil) L.tail) := by
  refine ⟨nofun, 1, ?_⟩
  unfold pp
  rw [if_neg (flag_ne hw).1, if_neg (flag_ne hw).2.1, if_pos hw, nxt_false]
theorem PP.cmp {o : Nat} {L : List Tok} (hw : numbersL.contains (hdT L).1 = true) (ho : opsL.contains (hdT L.tail).1 = true) (hb : badNum (hdT L.tail.tail).1 = false) (hv : ¬ 9223372036854775807 < valD (hdT L.tail.tail).1) :
    PP .opd o L (.ok (.nd 4 (hdT L).1 (hdT L.tail).1 (valD (hdT L.tail.tail).1) .nil .nil) L.tail.tail.tail) := by
  refine ⟨nofun, 1, ?_⟩
  unfold pp
  rw [if_neg (num_ne hw).1, if_neg (num_ne hw).2.1, if_neg (num_ne hw).2.2.2, if_pos hw, nxt_false, if_pos ho, nxt_false, pnum, if_neg (by rw [hb]; decide), if_neg hv, nxt_false]
theorem PP.wrong {o : Nat} {L : List Tok} (h1 : (hdT L).1 = []) : PP .opd o L (.err (hdT L).2 11) := by
  refine ⟨nofun, 1, ?_⟩
  unfold pp
  rw [h1, if_neg (by decide), if_neg (by decide), if_neg (by decide), if_neg (by decide), if_neg (by decide)]
/-- What a text is parsed as. -/
theorem parseE_of {s : Str} {r : PR} (hs : s.length ≤ 8192) (h : PP .or 0 (lexS s 0) r) : parseE s = topE false r := by
  rw [parseE_lazy, if_neg (by omega), h.at (parse_fine false s 0 _ (lexS_len s 0)).1]
theorem parseE_pp {s : Str} (hs : s.length ≤ 8192) : ∃ r, PP .or 0 (lexS s 0) r ∧ parseE s = topE false r := by
  have hf := (parse_fine false s 0 _ (lexS_len s 0)).1
  exact ⟨_, ⟨hf, _, rfl⟩, by rw [parseE_lazy, if_neg (by omega)]⟩
end Go.AK
namespace Go.AK
open Go Go.RowKit Go.Proofs
set_option linter.unusedVariables false
set_option maxRecDepth 100000
def textOK (x : Ex) : Prop := ∀ c : Int, ACall Tryd.prog 33 [x.av, .i .i64 c] [] fun r0 H => r0 = .ret (.s (sb (x.txt c))) ∧ H = []
theorem text_3 (w o : Str) (n : Int) (l r : Ex) (hl : ∀ c, (l.txt c).length ≤ 1000000000000) (hr : ∀ c, (r.txt c).length ≤ 1000000000000) (ihl : textOK l) (ihr : textOK r) (hln : l.isNil = false) (hrn : r.isNil = false) : textOK (.nd 3 w o n l r) := by
  intro c
  have h1 := hl 1
  have h2 := hr 2
  refine ACall.enter tok false Tryd.func33 rfl rfl rfl (AW_sound (ip := false) tok _ _ _ _ ?_)
  conv => whnf
  refine ACall.mono (binds_spec 3) ?_; rintro r0 H ⟨rfl, rfl⟩
  conv => whnf
  refine ADraw.tree tok mixed false [3, 10] [0, 1, 2, 3, 4, 7, 8, 9, 10, 11, 12] (.node (.cons 5 (.node (.cons 6 (.node (.cons 13 (.node (.cons 14 (.node (.cons 15 (.node .nil) .nil)) .nil)) .nil)) (.cons 13 (.node (.cons 6 (.node (.cons 14 (.node (.cons 15 (.node .nil) .nil)) .nil)) .nil)) .nil))) .nil)) (by kernel_rfl) (fun _ _ _ _ h => h) ?_
  conv => whnf
  refine ACall.mono (ihl 1) ?_; rintro r0 H ⟨rfl, rfl⟩
  conv => whnf
  refine And.intro ?_ (And.intro ?_ trivial)
  · conv => whnf
    refine ⟨by rw [sb_size]; show _ + 4 ≤ _; omega, ?_⟩
    conv => whnf
    refine ACall.mono (ihr 2) ?_; rintro r0 H ⟨rfl, rfl⟩
    conv => whnf
    refine ⟨by simp only [ByteArray.size_append, sb_size]; show _ + 4 + _ ≤ _; omega, ?_⟩
    conv => whnf
    (
    by_cases hc : bindsI 3 < c
    · (refine acond_t (decide_eq_true hc) ?_; conv => whnf)
      refine ⟨?_, ?_⟩
      · simp only [ByteArray.size_append, sb_size]; show 1 + (_ + 4 + _) ≤ _; omega
      conv => whnf
      refine ⟨?_, ?_⟩
      · simp only [ByteArray.size_append, sb_size]; show 1 + (_ + 4 + _) + 1 ≤ _; omega
      conv => whnf
      refine ⟨congrArg (fun z => ARes.ret (AV.s z)) ?_, rfl⟩
      show sb [40] ++ (sb (l.txt 1) ++ sb wOrS ++ sb (r.txt 2)) ++ sb [41] = _
      simp only [sb_append, Ex.txt, hc, decide_true, around, if_true, List.append_assoc]
      rfl
    · (refine acond_f (decide_eq_false hc) ?_; conv => whnf)
      refine ⟨congrArg (fun z => ARes.ret (AV.s z)) ?_, rfl⟩
      show sb (l.txt 1) ++ sb wOrS ++ sb (r.txt 2) = _
      simp only [sb_append, Ex.txt, hc, decide_false, around, if_true, List.append_assoc]
      rfl)
  · conv => whnf
    refine ACall.mono (ihr 2) ?_; rintro r0 H ⟨rfl, rfl⟩
    conv => whnf
    refine ⟨by rw [sb_size]; show _ + 4 ≤ _; omega, ?_⟩
    conv => whnf
    refine ⟨by simp only [ByteArray.size_append, sb_size]; show _ + 4 + _ ≤ _; omega, ?_⟩
    conv => whnf
    (
    by_cases hc : bindsI 3 < c
    · (refine acond_t (decide_eq_true hc) ?_; conv => whnf)
      refine ⟨?_, ?_⟩
      · simp only [ByteArray.size_append, sb_size]; show 1 + (_ + 4 + _) ≤ _; omega
      conv => whnf
      refine ⟨?_, ?_⟩
      · simp only [ByteArray.size_append, sb_size]; show 1 + (_ + 4 + _) + 1 ≤ _; omega
      conv => whnf
      refine ⟨congrArg (fun z => ARes.ret (AV.s z)) ?_, rfl⟩
      show sb [40] ++ (sb (l.txt 1) ++ sb wOrS ++ sb (r.txt 2)) ++ sb [41] = _
      simp only [sb_append, Ex.txt, hc, decide_true, around, if_true, List.append_assoc]
      rfl
    · (refine acond_f (decide_eq_false hc) ?_; conv => whnf)
      refine ⟨congrArg (fun z => ARes.ret (AV.s z)) ?_, rfl⟩
      show sb (l.txt 1) ++ sb wOrS ++ sb (r.txt 2) = _
      simp only [sb_append, Ex.txt, hc, decide_false, around, if_true, List.append_assoc]
      rfl)
theorem text_2 (w o : Str) (n : Int) (l r : Ex) (hl : ∀ c, (l.txt c).length ≤ 1000000000000) (hr : ∀ c, (r.txt c).length ≤ 1000000000000) (ihl : textOK l) (ihr : textOK r) (hln : l.isNil = false) (hrn : r.isNil = false) : textOK (.nd 2 w o n l r) := by
  intro c
  have h1 := hl 2
  have h2 := hr 3
  refine ACall.enter tok false Tryd.func33 rfl rfl rfl (AW_sound (ip := false) tok _ _ _ _ ?_)
  conv => whnf
  refine ACall.mono (binds_spec 2) ?_; rintro r0 H ⟨rfl, rfl⟩
  conv => whnf
  refine ADraw.tree tok mixed false [3, 10] [0, 1, 2, 3, 4, 7, 8, 9, 10, 11, 12] (.node (.cons 5 (.node (.cons 6 (.node (.cons 13 (.node (.cons 14 (.node (.cons 15 (.node .nil) .nil)) .nil)) .nil)) (.cons 13 (.node (.cons 6 (.node (.cons 14 (.node (.cons 15 (.node .nil) .nil)) .nil)) .nil)) .nil))) .nil)) (by kernel_rfl) (fun _ _ _ _ h => h) ?_
  conv => whnf
  refine ACall.mono (ihl 2) ?_; rintro r0 H ⟨rfl, rfl⟩
  conv => whnf
  refine And.intro ?_ (And.intro ?_ trivial)
  · conv => whnf
    refine ⟨by rw [sb_size]; show _ + 5 ≤ _; omega, ?_⟩
    conv => whnf
    refine ACall.mono (ihr 3) ?_; rintro r0 H ⟨rfl, rfl⟩
    conv => whnf
    refine ⟨by simp only [ByteArray.size_append, sb_size]; show _ + 5 + _ ≤ _; omega, ?_⟩
    conv => whnf
    (
    by_cases hc : bindsI 2 < c
    · (refine acond_t (decide_eq_true hc) ?_; conv => whnf)
      refine ⟨?_, ?_⟩
      · simp only [ByteArray.size_append, sb_size]; show 1 + (_ + 5 + _) ≤ _; omega
      conv => whnf
      refine ⟨?_, ?_⟩
      · simp only [ByteArray.size_append, sb_size]; show 1 + (_ + 5 + _) + 1 ≤ _; omega
      conv => whnf
      refine ⟨congrArg (fun z => ARes.ret (AV.s z)) ?_, rfl⟩
      show sb [40] ++ (sb (l.txt 2) ++ sb wAndS ++ sb (r.txt 3)) ++ sb [41] = _
      simp only [sb_append, Ex.txt, hc, decide_true, around, if_true, if_neg (show ¬ (2 : Int) = 3 by decide), List.append_assoc]
      rfl
    · (refine acond_f (decide_eq_false hc) ?_; conv => whnf)
      refine ⟨congrArg (fun z => ARes.ret (AV.s z)) ?_, rfl⟩
      show sb (l.txt 2) ++ sb wAndS ++ sb (r.txt 3) = _
      simp only [sb_append, Ex.txt, hc, decide_false, around, if_true, if_neg (show ¬ (2 : Int) = 3 by decide), List.append_assoc]
      rfl)
  · conv => whnf
    refine ACall.mono (ihr 3) ?_; rintro r0 H ⟨rfl, rfl⟩
    conv => whnf
    refine ⟨by rw [sb_size]; show _ + 5 ≤ _; omega, ?_⟩
    conv => whnf
    refine ⟨by simp only [ByteArray.size_append, sb_size]; show _ + 5 + _ ≤ _; omega, ?_⟩
    conv => whnf
    (
    by_cases hc : bindsI 2 < c
    · (refine acond_t (decide_eq_true hc) ?_; conv => whnf)
      refine ⟨?_, ?_⟩
      · simp only [ByteArray.size_append, sb_size]; show 1 + (_ + 5 + _) ≤ _; omega
      conv => whnf
      refine ⟨?_, ?_⟩
      · simp only [ByteArray.size_append, sb_size]; show 1 + (_ + 5 + _) + 1 ≤ _; omega
      conv => whnf
      refine ⟨congrArg (fun z => ARes.ret (AV.s z)) ?_, rfl⟩
      show sb [40] ++ (sb (l.txt 2) ++ sb wAndS ++ sb (r.txt 3)) ++ sb [41] = _
      simp only [sb_append, Ex.txt, hc, decide_true, around, if_true, if_neg (show ¬ (2 : Int) = 3 by decide), List.append_assoc]
      rfl
    · (refine acond_f (decide_eq_false hc) ?_; conv => whnf)
      refine ⟨congrArg (fun z => ARes.ret (AV.s z)) ?_, rfl⟩
      show sb (l.txt 2) ++ sb wAndS ++ sb (r.txt 3) = _
      simp only [sb_append, Ex.txt, hc, decide_false, around, if_true, if_neg (show ¬ (2 : Int) = 3 by decide), List.append_assoc]
      rfl)
theorem text_1 (w o : Str) (n : Int) (l r : Ex) (hl : ∀ c, (l.txt c).length ≤ 1000000000000) (ihl : textOK l) : textOK (.nd 1 w o n l r) := by
  intro c
  have h1 := hl 3
  refine ACall.enter tok false Tryd.func33 rfl rfl rfl (AW_sound (ip := false) tok _ _ _ _ ?_)
  conv => whnf
  refine ACall.mono (binds_spec 1) ?_; rintro r0 H ⟨rfl, rfl⟩
  conv => whnf
  refine ACall.mono (ihl 3) ?_; rintro r0 H ⟨rfl, rfl⟩
  conv => whnf
  refine ⟨by rw [sb_size]; show 4 + _ ≤ _; omega, ?_⟩
  conv => whnf
  by_cases hc : bindsI 1 < c
  · (refine acond_t (decide_eq_true hc) ?_; conv => whnf)
    refine ⟨?_, ?_⟩
    · simp only [ByteArray.size_append, sb_size]; show 1 + (4 + _) ≤ _; omega
    conv => whnf
    refine ⟨?_, ?_⟩
    · simp only [ByteArray.size_append, sb_size]; show 1 + (4 + _) + 1 ≤ _; omega
    conv => whnf
    refine ⟨congrArg (fun z => ARes.ret (AV.s z)) ?_, rfl⟩
    show sb [40] ++ (sb wNotS ++ sb (l.txt 3)) ++ sb [41] = _
    simp only [sb_append, Ex.txt, hc, decide_true, around, if_true, if_neg (show ¬ (1 : Int) = 3 by decide), if_neg (show ¬ (1 : Int) = 2 by decide), List.append_assoc]
    rfl
  · (refine acond_f (decide_eq_false hc) ?_; conv => whnf)
    refine ⟨congrArg (fun z => ARes.ret (AV.s z)) ?_, rfl⟩
    show sb wNotS ++ sb (l.txt 3) = _
    simp only [sb_append, Ex.txt, hc, decide_false, around, if_true, if_neg (show ¬ (1 : Int) = 3 by decide), if_neg (show ¬ (1 : Int) = 2 by decide), List.append_assoc]
    rfl
theorem text_4 (w o : Str) (n : Int) (l r : Ex) (hw : w.length ≤ 1000000000000) (ho : o.length ≤ 1000000000000) (hn : -9223372036854775808 ≤ n ∧ n ≤ 9223372036854775807) : textOK (.nd 4 w o n l r) := by
  intro c
  have hi := itoa_len n hn.1 hn.2
  refine ACall.enter tok false Tryd.func33 rfl rfl rfl (AW_sound (ip := false) tok _ _ _ _ ?_)
  conv => whnf
  refine ACall.mono (binds_spec 4) ?_; rintro r0 H ⟨rfl, rfl⟩
  conv => whnf
  refine ADraw.ofS tok mixed false [3, 8, 14] [0, 1, 2, 3, 4, 5, 6, 7, 8, 9, 10, 11, 12, 13, 14] [15, 16, 17] (by kernel_rfl) (fun _ _ _ _ h => h) ?_
  conv => whnf
  refine ⟨by rw [sb_size]; show _ + 1 ≤ _; omega, ?_⟩
  conv => whnf
  refine ⟨by simp only [ByteArray.size_append, sb_size]; show _ + 1 + _ ≤ _; omega, ?_⟩
  conv => whnf
  refine ⟨by simp only [ByteArray.size_append, sb_size]; show _ + 1 + _ + 1 ≤ _; omega, ?_⟩
  conv => whnf
  refine ACall.mono (itoa_spec n hn.1 hn.2 []) ?_; rintro r0 H ⟨rfl, rfl⟩
  conv => whnf
  refine ⟨by simp only [ByteArray.size_append, sb_size]; show _ + 1 + _ + 1 + (sb (Lib.itoa n)).size ≤ _; rw [sb_size]; omega, ?_⟩
  conv => whnf
  by_cases hc : bindsI 4 < c
  · (refine acond_t (decide_eq_true hc) ?_; conv => whnf)
    refine ⟨by simp only [ByteArray.size_append, sb_size]; show 1 + (_ + 1 + _ + 1 + (sb (Lib.itoa n)).size) ≤ _; rw [sb_size]; omega, ?_⟩
    conv => whnf
    refine ⟨by simp only [ByteArray.size_append, sb_size]; show 1 + (_ + 1 + _ + 1 + (sb (Lib.itoa n)).size) + 1 ≤ _; rw [sb_size]; omega, ?_⟩
    conv => whnf
    refine ⟨congrArg (fun z => ARes.ret (AV.s z)) ?_, rfl⟩
    show sb [40] ++ (sb w ++ sb [32] ++ sb o ++ sb [32] ++ sb (Lib.itoa n)) ++ sb [41] = _
    simp only [sb_append, Ex.txt, hc, decide_true, around, if_true, if_neg (show ¬ (4 : Int) = 3 by decide), if_neg (show ¬ (4 : Int) = 2 by decide), if_neg (show ¬ (4 : Int) = 1 by decide), List.append_assoc]
    rfl
  · (refine acond_f (decide_eq_false hc) ?_; conv => whnf)
    refine ⟨congrArg (fun z => ARes.ret (AV.s z)) ?_, rfl⟩
    show sb w ++ sb [32] ++ sb o ++ sb [32] ++ sb (Lib.itoa n) = _
    simp only [sb_append, Ex.txt, hc, decide_false, around, if_true, if_neg (show ¬ (4 : Int) = 3 by decide), if_neg (show ¬ (4 : Int) = 2 by decide), if_neg (show ¬ (4 : Int) = 1 by decide), List.append_assoc]
    rfl
theorem text_5 (w o : Str) (n : Int) (l r : Ex) (hw : w.length ≤ 1000000000000) : textOK (.nd 5 w o n l r) := by
  intro c
  refine ACall.enter tok false Tryd.func33 rfl rfl rfl (AW_sound (ip := false) tok _ _ _ _ ?_)
  conv => whnf
  refine ACall.mono (binds_spec 5) ?_; rintro r0 H ⟨rfl, rfl⟩
  conv => whnf
  by_cases hc : bindsI 5 < c
  · (refine acond_t (decide_eq_true hc) ?_; conv => whnf)
    refine ⟨by simp only [ByteArray.size_append, sb_size]; show 1 + _ ≤ _; omega, ?_⟩
    conv => whnf
    refine ⟨by simp only [ByteArray.size_append, sb_size]; show 1 + _ + 1 ≤ _; omega, ?_⟩
    conv => whnf
    refine ⟨congrArg (fun z => ARes.ret (AV.s z)) ?_, rfl⟩
    show sb [40] ++ (sb w) ++ sb [41] = _
    simp only [sb_append, Ex.txt, hc, decide_true, around, if_true, if_neg (show ¬ (5 : Int) = 3 by decide), if_neg (show ¬ (5 : Int) = 2 by decide), if_neg (show ¬ (5 : Int) = 1 by decide), if_neg (show ¬ (5 : Int) = 4 by decide), List.append_assoc]
    rfl
  · (refine acond_f (decide_eq_false hc) ?_; conv => whnf)
    refine ⟨congrArg (fun z => ARes.ret (AV.s z)) ?_, rfl⟩
    show sb w = _
    simp only [sb_append, Ex.txt, hc, decide_false, around, if_true, if_neg (show ¬ (5 : Int) = 3 by decide), if_neg (show ¬ (5 : Int) = 2 by decide), if_neg (show ¬ (5 : Int) = 1 by decide), if_neg (show ¬ (5 : Int) = 4 by decide), List.append_assoc]
    rfl
theorem text_6 (w o : Str) (n : Int) (l r : Ex) : textOK (.nd 6 w o n l r) := by
  intro c
  refine ACall.enter tok false Tryd.func33 rfl rfl rfl (AW_sound (ip := false) tok _ _ _ _ ?_)
  conv => whnf
  refine ACall.mono (binds_spec 6) ?_; rintro r0 H ⟨rfl, rfl⟩
  conv => whnf
  refine ACall.mono (formatBool_spec true []) ?_; rintro r0 H ⟨rfl, rfl⟩
  conv => whnf
  by_cases hc : bindsI 6 < c
  · (refine acond_t (decide_eq_true hc) ?_; conv => whnf)
    refine ⟨by decide, ?_⟩
    conv => whnf
    refine ⟨by decide, ?_⟩
    conv => whnf
    refine ⟨congrArg (fun z => ARes.ret (AV.s z)) ?_, rfl⟩
    simp only [Ex.txt, hc, decide_true, around, if_true, if_neg (show ¬ (6 : Int) = 3 by decide), if_neg (show ¬ (6 : Int) = 2 by decide), if_neg (show ¬ (6 : Int) = 1 by decide), if_neg (show ¬ (6 : Int) = 4 by decide), if_neg (show ¬ (6 : Int) = 5 by decide)]
    rfl
  · (refine acond_f (decide_eq_false hc) ?_; conv => whnf)
    refine ⟨congrArg (fun z => ARes.ret (AV.s z)) ?_, rfl⟩
    simp only [Ex.txt, hc, decide_false, around, if_neg (show ¬ (6 : Int) = 3 by decide), if_neg (show ¬ (6 : Int) = 2 by decide), if_neg (show ¬ (6 : Int) = 1 by decide), if_neg (show ¬ (6 : Int) = 4 by decide), if_neg (show ¬ (6 : Int) = 5 by decide)]
    rfl
theorem text_7 (w o : Str) (n : Int) (l r : Ex) : textOK (.nd 7 w o n l r) := by
  intro c
  refine ACall.enter tok false Tryd.func33 rfl rfl rfl (AW_sound (ip := false) tok _ _ _ _ ?_)
  conv => whnf
  refine ACall.mono (binds_spec 7) ?_; rintro r0 H ⟨rfl, rfl⟩
  conv => whnf
  refine ACall.mono (formatBool_spec false []) ?_; rintro r0 H ⟨rfl, rfl⟩
  conv => whnf
  by_cases hc : bindsI 7 < c
  · (refine acond_t (decide_eq_true hc) ?_; conv => whnf)
    refine ⟨by decide, ?_⟩
    conv => whnf
    refine ⟨by decide, ?_⟩
    conv => whnf
    refine ⟨congrArg (fun z => ARes.ret (AV.s z)) ?_, rfl⟩
    simp only [Ex.txt, hc, decide_true, around, if_true, if_neg (show ¬ (7 : Int) = 3 by decide), if_neg (show ¬ (7 : Int) = 2 by decide), if_neg (show ¬ (7 : Int) = 1 by decide), if_neg (show ¬ (7 : Int) = 4 by decide), if_neg (show ¬ (7 : Int) = 5 by decide), if_neg (show ¬ (7 : Int) = 6 by decide)]
    rfl
  · (refine acond_f (decide_eq_false hc) ?_; conv => whnf)
    refine ⟨congrArg (fun z => ARes.ret (AV.s z)) ?_, rfl⟩
    simp only [Ex.txt, hc, decide_false, around, if_neg (show ¬ (7 : Int) = 3 by decide), if_neg (show ¬ (7 : Int) = 2 by decide), if_neg (show ¬ (7 : Int) = 1 by decide), if_neg (show ¬ (7 : Int) = 4 by decide), if_neg (show ¬ (7 : Int) = 5 by decide), if_neg (show ¬ (7 : Int) = 6 by decide)]
    rfl
end Go.AK
namespace Go.AK
open Go Go.RowKit Go.Proofs
set_option linter.unusedVariables false
set_option maxRecDepth 100000
/-- A right expression. -/
inductive GT : Ex → Prop where
  | not (l : Ex) : GT l → GT (.nd 1 [] [] 0 l .nil)
  | and (l r : Ex) : GT l → GT r → GT (.nd 2 [] [] 0 l r)
  | or (l r : Ex) : GT l → GT r → GT (.nd 3 [] [] 0 l r)
  | cmp (w o : Str) (n : Int) : numbersL.contains w = true → opsL.contains o = true → 0 ≤ n → GT (.nd 4 w o n .nil .nil)
  | flag (w : Str) : flagsL.contains w = true → GT (.nd 5 w [] 0 .nil .nil)
  | tru : GT (.nd 6 [] [] 0 .nil .nil)
  | fls : GT (.nd 7 [] [] 0 .nil .nil)
theorem nil_of {x : Ex} (h : x.isNil = true) : x = .nil := by cases x <;> first | rfl | exact nomatch h
theorem GT.ne {x : Ex} (h : GT x) : x.isNil = false := by cases h <;> rfl
theorem GT_of : ∀ (x : Ex), x.treeE = 0 → x.isNil = false → GT x
  | .nil, _, h => nomatch h
  | .nd k w o n l r, h, _ => by
    rw [Ex.treeE] at h
    have hn : nodeE k w o n (!l.isNil) (!r.isNil) = 0 := by
      split at h
      · assumption
      · exact h
    rw [if_pos hn] at h
    have hl : l.treeE = 0 := by
      split at h
      · assumption
      · exact h
    rw [if_pos hl] at h
    have il := GT_of l hl
    have ir := GT_of r h
    unfold nodeE at hn
    split at hn
    · rename_i hk
      split at hn
      · rename_i hc
        obtain ⟨rfl, rfl, rfl, h1, h2⟩ := hc
        have h1 : l.isNil = false := by simpa using h1
        have h2 : r.isNil = false := by simpa using h2
        rcases hk with rfl | rfl
        · exact .and l r (il h1) (ir h2)
        · exact .or l r (il h1) (ir h2)
      · exact absurd hn (by decide)
    split at hn
    · rename_i hk
      split at hn
      · rename_i hc
        obtain ⟨rfl, rfl, rfl, h1, h2⟩ := hc
        have h1 : l.isNil = false := by simpa using h1
        have h2 : r = .nil := nil_of (by simpa using h2)
        subst hk; subst h2
        exact .not l (il h1)
      · exact absurd hn (by decide)
    split at hn
    · rename_i hk
      split at hn
      · rename_i hc
        obtain ⟨rfl, rfl, rfl, h1, h2⟩ := hc
        have h1 : l = .nil := nil_of (by simpa using h1)
        have h2 : r = .nil := nil_of (by simpa using h2)
        subst h1; subst h2
        rcases hk with rfl | rfl
        · exact .tru
        · exact .fls
      · exact absurd hn (by decide)
    split at hn
    · rename_i hk
      split at hn
      · rename_i hc
        obtain ⟨rfl, rfl, h1, h2⟩ := hc
        have h1 : l = .nil := nil_of (by simpa using h1)
        have h2 : r = .nil := nil_of (by simpa using h2)
        subst h1; subst h2; subst hk
        split at hn
        · rename_i hw; exact .flag w hw
        · exact absurd hn (by decide)
      · exact absurd hn (by decide)
    split at hn
    · rename_i hk
      split at hn
      · rename_i hc
        obtain ⟨h1, h2⟩ := hc
        have h1 : l = .nil := nil_of (by simpa using h1)
        have h2 : r = .nil := nil_of (by simpa using h2)
        subst h1; subst h2; subst hk
        split at hn
        · rename_i hw
          split at hn
          · rename_i ho
            split at hn
            · exact absurd hn (by decide)
            · exact .cmp w o n hw ho (by omega)
          · exact absurd hn (by decide)
        · exact absurd hn (by decide)
      · exact absurd hn (by decide)
    · exact absurd hn (by decide)
theorem GT.treeE {x : Ex} (h : GT x) : x.treeE = 0 := by
  induction h with
  | not l hl ih =>
    have e : nodeE 1 [] [] 0 (!l.isNil) (!Ex.nil.isNil) = 0 := by rw [hl.ne]; rfl
    rw [Ex.treeE, if_pos e, if_pos ih]; rfl
  | and l r hl hr il ir => simp [Ex.treeE, nodeE, il, ir, hl.ne, hr.ne]
  | or l r hl hr il ir => simp [Ex.treeE, nodeE, il, ir, hl.ne, hr.ne]
  | cmp w o n hw ho hn =>
    have e : nodeE 4 w o n (!Ex.nil.isNil) (!Ex.nil.isNil) = 0 := by
      show (if (4 : Int) = 2 ∨ (4 : Int) = 3 then _ else _) = _
      rw [if_neg (by decide), if_neg (by decide), if_neg (by decide), if_neg (by decide), if_pos rfl, if_pos ⟨rfl, rfl⟩, if_pos hw, if_pos ho, if_neg (by omega)]
    rw [Ex.treeE, if_pos e]; rfl
  | flag w hw =>
    have e : nodeE 5 w [] 0 (!Ex.nil.isNil) (!Ex.nil.isNil) = 0 := by
      show (if (5 : Int) = 2 ∨ (5 : Int) = 3 then _ else _) = _
      rw [if_neg (by decide), if_neg (by decide), if_neg (by decide), if_pos rfl, if_pos ⟨rfl, rfl, rfl, rfl⟩, if_pos hw]
    rw [Ex.treeE, if_pos e]; rfl
  | tru => rfl
  | fls => rfl
theorem textOK_of {x : Ex} (h : GT x) (hn : x.okN) (hw : x.wt ≤ 100000000000) : textOK x := by
  induction h with
  | not l hl ih =>
    simp only [Ex.wt] at hw
    exact text_1 _ _ _ l _ (fun c => Nat.le_trans (Ex.txt_le l c hn.2.1) (by omega)) (ih hn.2.1 (by omega))
  | and l r hl hr il ir =>
    simp only [Ex.wt] at hw
    exact text_2 _ _ _ l r (fun c => Nat.le_trans (Ex.txt_le l c hn.2.1) (by omega)) (fun c => Nat.le_trans (Ex.txt_le r c hn.2.2) (by omega)) (il hn.2.1 (by omega)) (ir hn.2.2 (by omega)) hl.ne hr.ne
  | or l r hl hr il ir =>
    simp only [Ex.wt] at hw
    exact text_3 _ _ _ l r (fun c => Nat.le_trans (Ex.txt_le l c hn.2.1) (by omega)) (fun c => Nat.le_trans (Ex.txt_le r c hn.2.2) (by omega)) (il hn.2.1 (by omega)) (ir hn.2.2 (by omega)) hl.ne hr.ne
  | cmp w o n hw' ho hn' =>
    simp only [Ex.wt] at hw
    exact text_4 w o n _ _ (by omega) (by omega) hn.1
  | flag w hw' =>
    simp only [Ex.wt] at hw
    exact text_5 w _ _ _ _ (by omega)
  | tru => exact text_6 _ _ _ _ _
  | fls => exact text_7 _ _ _ _ _
/-- What Text answers. -/
def Ex.textE (x : Ex) : Str := if x.checkE = 0 then x.txt 0 else []
theorem check_ok {x : Ex} (h : x.checkE = 0) : x.isNil = false ∧ x.depth ≤ 64 ∧ x.treeE = 0 := by
  unfold Ex.checkE at h
  split at h
  · exact absurd h (by decide)
  split at h
  · exact absurd h (by decide)
  · rename_i h1 h2
    exact ⟨Bool.eq_false_iff.2 h1, by omega, h⟩
theorem Text_spec (x : Ex) (hd : x.depth < 1000000) (hn : x.okN) (hw : x.wt ≤ 100000000000) :
    ACall Tryd.prog 17 [x.av] [] fun R H => R = .ret (.tup [.s (sb x.textE), .i .i64 x.checkE]) ∧ H = [] := by
  refine ACall.enter tok false Tryd.func17 rfl rfl rfl (AW_sound (ip := false) tok _ _ _ _ ?_)
  conv => whnf
  refine ACall.mono (check_spec x hd) ?_; rintro r0 H ⟨rfl, rfl⟩
  conv => whnf
  have he : x.textE = if x.checkE = 0 then x.txt 0 else [] := rfl
  have hok := check_ok (x := x)
  generalize x.textE = t at he ⊢
  generalize x.checkE = e at he hok ⊢
  by_cases h : e = 0
  · have b1 : (e != 0) = false := by rw [h]; rfl
    repeat (first | (refine acond_f (b1) ?_; conv => whnf))
    obtain ⟨h1, h2, h3⟩ := hok h
    rw [if_pos h] at he
    refine ACall.mono (textOK_of (GT_of x h3 h1) hn hw 0) ?_; rintro r0 H ⟨rfl, rfl⟩
    conv => whnf
    subst h; subst he
    exact ⟨rfl, rfl⟩
  · have b1 : (e != 0) = true := by simpa using h
    repeat (first | (refine acond_t (b1) ?_; conv => whnf))
    rw [if_neg h] at he
    subst he
    exact ⟨rfl, rfl⟩
end Go.AK
namespace Go.AK
open Go Go.RowKit Go.Proofs
set_option linter.unusedVariables false
set_option maxRecDepth 100000
/-! The tokens of an expression, and what they are parsed as. -/
def par (A : List Str) (b : Bool) : List Str := if b = true then [40] :: (A ++ [[41]]) else A
def Ex.tk : Ex → Int → List Str
  | .nil, _ => []
  | .nd k w o n l r, c =>
    par (if k = 3 then l.tk 1 ++ wOr :: r.tk 2 else if k = 2 then l.tk 2 ++ wAnd :: r.tk 3 else if k = 1 then wNot :: l.tk 3
      else if k = 4 then [w, o, Lib.itoa n] else if k = 5 then [w] else if k = 6 then [wTrue] else [wFalse]) (decide (bindsI k < c))
theorem hdT_cons (t : Tok) (L : List Tok) : hdT (t :: L) = t := rfl
/-- Digits of a number. -/
theorem decDigits_dig (u : Nat) : ∀ c ∈ Lib.decDigits u, 48 ≤ c.toNat ∧ c.toNat ≤ 57 := by
  induction u using Nat.strongRecOn with
  | ind u ih =>
    intro c hc
    rw [Lib.decDigits] at hc
    have one : ∀ k : Nat, k < 10 → 48 ≤ (UInt8.ofNat (48 + k)).toNat ∧ (UInt8.ofNat (48 + k)).toNat ≤ 57 := by
      intro k hk
      rw [UInt8.toNat_ofNat']
      omega
    split at hc
    · rename_i h
      rw [List.mem_singleton] at hc; subst hc; exact one u h
    · rw [List.mem_append] at hc
      rcases hc with hc | hc
      · exact ih (u / 10) (by omega) c hc
      · rw [List.mem_singleton] at hc; subst hc; exact one (u % 10) (by omega)
theorem valD_append (a : Str) (c : UInt8) : valD (a ++ [c]) = 10 * valD a + (c.toNat - 48) := by
  unfold valD; rw [List.foldl_append]; rfl
theorem valD_dec (u : Nat) : valD (Lib.decDigits u) = u := by
  induction u using Nat.strongRecOn with
  | ind u ih =>
    have one : ∀ k : Nat, k < 10 → (UInt8.ofNat (48 + k)).toNat - 48 = k := by
      intro k hk
      rw [UInt8.toNat_ofNat']
      omega
    rw [Lib.decDigits]
    split
    · rename_i h
      show 10 * 0 + ((UInt8.ofNat (48 + u)).toNat - 48) = u
      rw [one u h]; omega
    · rw [valD_append, ih (u / 10) (by omega), one (u % 10) (by omega)]; omega
theorem decDigits_ne (u : Nat) : Lib.decDigits u ≠ [] := by
  rw [Lib.decDigits]
  split <;> simp
theorem decDigits_bad (u : Nat) : badNum (Lib.decDigits u) = false := by
  induction u using Nat.strongRecOn with
  | ind u ih =>
    have hd := decDigits_dig u
    cases hl : Lib.decDigits u with
    | nil => exact absurd hl (decDigits_ne u)
    | cons c r =>
      rw [hl] at hd
      have hc := hd c (by simp)
      have hdig : isDig c = true := by unfold isDig; rw [decide_eq_true hc.1, decide_eq_true hc.2]; rfl
      simp only [badNum, hdig, Bool.not_true, Bool.false_or, Bool.and_eq_false_iff]
      by_cases hu : u < 10
      · rw [Lib.decDigits, dif_pos hu] at hl
        right; cases hl; rfl
      · left
        rw [Lib.decDigits, dif_neg hu] at hl
        have ihu := ih (u / 10) (by omega)
        cases hq : Lib.decDigits (u / 10) with
        | nil => exact absurd hq (decDigits_ne _)
        | cons a q =>
          rw [hq] at hl ihu
          simp only [List.cons_append, List.cons.injEq] at hl
          rw [hl.1] at ihu
          simp only [badNum, hdig, Bool.not_true, Bool.false_or, Bool.and_eq_false_iff] at ihu
          rcases ihu with h | h
          · exact h
          · have hq2 : q = [] := by simpa using h
            subst hq2
            by_cases he : c = 48
            · exfalso
              have hv := valD_dec (u / 10)
              rw [hq, hl.1, he] at hv
              have : valD [48] = 0 := rfl
              omega
            · simpa using he
/-- What is parsed of an expression's tokens. -/
structure Round (x : Ex) (o : Nat) : Prop where
  N : ∀ A B : List Tok, A.map Prod.fst = x.tk 3 → PP .not o (A ++ B) (.ok x B)
  A : ∀ (A B : List Tok) (r : PR), A.map Prod.fst = x.tk 2 → PP (.andL x) o B r → PP .and o (A ++ B) r
  O : ∀ (A B : List Tok) (r : PR), A.map Prod.fst = x.tk 1 → (hdT B).1 ≠ wAnd → PP (.orL x) o B r → PP .or o (A ++ B) r
theorem A_of {x : Ex} {o : Nat} (h : x.tk 2 = x.tk 3) (N : ∀ A B : List Tok, A.map Prod.fst = x.tk 3 → PP .not o (A ++ B) (.ok x B)) :
    ∀ (A B : List Tok) (r : PR), A.map Prod.fst = x.tk 2 → PP (.andL x) o B r → PP .and o (A ++ B) r := fun A B r hA k => PP.and (N A B (by rw [hA, h])) k
theorem O_of {x : Ex} {o : Nat} (h : x.tk 1 = x.tk 2) (HA : ∀ (A B : List Tok) (r : PR), A.map Prod.fst = x.tk 2 → PP (.andL x) o B r → PP .and o (A ++ B) r) :
    ∀ (A B : List Tok) (r : PR), A.map Prod.fst = x.tk 1 → (hdT B).1 ≠ wAnd → PP (.orL x) o B r → PP .or o (A ++ B) r := fun A B r hA hB k =>
  PP.or (HA A B _ (by rw [hA, h]) (PP.andL_end hB)) k
theorem Round.of_N {x : Ex} {o : Nat} (h2 : x.tk 2 = x.tk 3) (h1 : x.tk 1 = x.tk 2) (N : ∀ A B : List Tok, A.map Prod.fst = x.tk 3 → PP .not o (A ++ B) (.ok x B)) : Round x o :=
  ⟨N, A_of h2 N, O_of h1 (A_of h2 N)⟩
theorem map_cons {A : List Tok} {t : Str} {T : List Str} (h : A.map Prod.fst = t :: T) : ∃ a A', A = a :: A' ∧ a.1 = t ∧ A'.map Prod.fst = T := by
  cases A with
  | nil => cases h
  | cons a A' =>
    simp only [List.map_cons, List.cons.injEq] at h
    exact ⟨a, A', rfl, h.1, h.2⟩
theorem map_app {A : List Tok} {S T : List Str} (h : A.map Prod.fst = S ++ T) : ∃ A1 A2, A = A1 ++ A2 ∧ A1.map Prod.fst = S ∧ A2.map Prod.fst = T := by
  obtain ⟨A1, A2, h1, h2, h3⟩ := List.map_eq_append_iff.1 h
  exact ⟨A1, A2, h1, h2, h3⟩
theorem paren_N {x : Ex} {o : Nat} (core : List Str) (ho : o ≠ 64) (hnn : True) (H : ∀ (A B : List Tok), A.map Prod.fst = core → (hdT B).1 ≠ wAnd → (hdT B).1 ≠ wOr → PP .or (o + 1) (A ++ B) (.ok x B)) :
    ∀ A B : List Tok, A.map Prod.fst = [40] :: (core ++ [[41]]) → PP .not o (A ++ B) (.ok x B) := by
  intro A B hA
  obtain ⟨a, A', rfl, ha, hA'⟩ := map_cons hA
  obtain ⟨A1, A2, rfl, h1, h2⟩ := map_app hA'
  obtain ⟨b, A3, rfl, hb, h3⟩ := map_cons h2
  have : A3 = [] := by simpa using h3
  subst this
  refine PP.not_opd (by show a.1 ≠ _; rw [ha]; decide) ?_
  have hp := H A1 (b :: B) h1 (by show b.1 ≠ _; rw [hb]; decide) (by show b.1 ≠ _; rw [hb]; decide)
  have := PP.paren (L := a :: (A1 ++ [b] ++ B)) (L1 := b :: B) (x := x) ha ho (by rw [List.tail_cons, List.append_assoc]; exact hp) hb
  exact this
theorem round {x : Ex} (h : GT x) (hn : x.okN) : ∀ o : Nat, o + x.depth ≤ 65 → Round x o := by
  induction h with
  | cmp w op n hw ho h0 =>
    intro o hod
    obtain ⟨m, rfl⟩ : ∃ m : Nat, n = (m : Int) := ⟨n.toNat, by omega⟩
    have hm := hn.1.2
    have e : ∀ c : Int, c ≤ 3 → (Ex.nd 4 w op (m : Int) .nil .nil).tk c = [w, op, Lib.decDigits m] := by
      intro c hc
      simp only [Ex.tk, par, Lib.itoa_nonneg]
      rw [if_neg (show ¬ (decide (bindsI 4 < c) = true) by simp only [decide_eq_true_eq]; show ¬ (4 : Int) < c; omega)]
      rfl
    refine Round.of_N (by rw [e 2 (by omega), e 3 (by omega)]) (by rw [e 1 (by omega), e 2 (by omega)]) fun A B hA => ?_
    rw [e 3 (by omega)] at hA
    obtain ⟨a, A1, rfl, ha, hA⟩ := map_cons hA
    obtain ⟨b, A2, rfl, hb, hA⟩ := map_cons hA
    obtain ⟨d, A3, rfl, hd, hA⟩ := map_cons hA
    have : A3 = [] := by simpa using hA
    subst this
    have hv := valD_dec m
    refine PP.not_opd (by show a.1 ≠ _; rw [ha]; exact (num_ne hw).2.2.1) ?_
    have := PP.cmp (o := o) (L := a :: b :: d :: B) (by rw [hdT_cons, ha]; exact hw) (by rw [List.tail_cons, hdT_cons, hb]; exact ho) (by rw [List.tail_cons, List.tail_cons, hdT_cons, hd]; exact decDigits_bad m)
      (by rw [List.tail_cons, List.tail_cons, hdT_cons, hd, hv]; omega)
    simp only [List.tail_cons, hdT_cons, ha, hb, hd, hv] at this
    exact this
  | flag w hw =>
    intro o hod
    have e : ∀ c : Int, c ≤ 3 → (Ex.nd 5 w [] 0 .nil .nil).tk c = [w] := by
      intro c hc
      simp only [Ex.tk, par]
      rw [if_neg (show ¬ (decide (bindsI 5 < c) = true) by simp only [decide_eq_true_eq]; show ¬ (4 : Int) < c; omega)]
      rfl
    refine Round.of_N (by rw [e 2 (by omega), e 3 (by omega)]) (by rw [e 1 (by omega), e 2 (by omega)]) fun A B hA => ?_
    rw [e 3 (by omega)] at hA
    obtain ⟨a, A1, rfl, ha, hA⟩ := map_cons hA
    have : A1 = [] := by simpa using hA
    subst this
    refine PP.not_opd (by show a.1 ≠ _; rw [ha]; exact (flag_ne hw).2.2) ?_
    have := PP.flag (o := o) (L := a :: B) (by rw [hdT_cons, ha]; exact hw)
    simp only [List.tail_cons, hdT_cons, ha] at this
    exact this
  | tru =>
    intro o hod
    have e : ∀ c : Int, c ≤ 3 → (Ex.nd 6 [] [] 0 .nil .nil).tk c = [wTrue] := by
      intro c hc
      simp only [Ex.tk, par]
      rw [if_neg (show ¬ (decide (bindsI 6 < c) = true) by simp only [decide_eq_true_eq]; show ¬ (4 : Int) < c; omega)]
      rfl
    refine Round.of_N (by rw [e 2 (by omega), e 3 (by omega)]) (by rw [e 1 (by omega), e 2 (by omega)]) fun A B hA => ?_
    rw [e 3 (by omega)] at hA
    obtain ⟨a, A1, rfl, ha, hA⟩ := map_cons hA
    have : A1 = [] := by simpa using hA
    subst this
    exact PP.not_opd (by show a.1 ≠ _; rw [ha]; decide) (PP.bool 6 (.inl ⟨ha, rfl⟩))
  | fls =>
    intro o hod
    have e : ∀ c : Int, c ≤ 3 → (Ex.nd 7 [] [] 0 .nil .nil).tk c = [wFalse] := by
      intro c hc
      simp only [Ex.tk, par]
      rw [if_neg (show ¬ (decide (bindsI 7 < c) = true) by simp only [decide_eq_true_eq]; show ¬ (4 : Int) < c; omega)]
      rfl
    refine Round.of_N (by rw [e 2 (by omega), e 3 (by omega)]) (by rw [e 1 (by omega), e 2 (by omega)]) fun A B hA => ?_
    rw [e 3 (by omega)] at hA
    obtain ⟨a, A1, rfl, ha, hA⟩ := map_cons hA
    have : A1 = [] := by simpa using hA
    subst this
    exact PP.not_opd (by show a.1 ≠ _; rw [ha]; decide) (PP.bool 7 (.inr ⟨ha, rfl⟩))
  | not l hl ih =>
    intro o hod
    simp only [Ex.depth] at hod
    have il := ih hn.2.1 o (by omega)
    have e : ∀ c : Int, c ≤ 3 → (Ex.nd 1 [] [] 0 l .nil).tk c = wNot :: l.tk 3 := by
      intro c hc
      simp only [Ex.tk, par]
      rw [if_neg (show ¬ (decide (bindsI 1 < c) = true) by simp only [decide_eq_true_eq]; show ¬ (3 : Int) < c; omega)]
      rfl
    refine Round.of_N (by rw [e 2 (by omega), e 3 (by omega)]) (by rw [e 1 (by omega), e 2 (by omega)]) fun A B hA => ?_
    rw [e 3 (by omega)] at hA
    obtain ⟨a, A1, rfl, ha, hA⟩ := map_cons hA
    exact PP.not ha (il.N A1 B hA)
  | and l r hl hr il ir =>
    intro o hod
    simp only [Ex.depth] at hod
    have core : ∀ o : Nat, o + l.depth ≤ 65 → o + r.depth ≤ 65 → ∀ (A B : List Tok) (q : PR), A.map Prod.fst = l.tk 2 ++ wAnd :: r.tk 3 → PP (.andL (.nd 2 [] [] 0 l r)) o B q → PP .and o (A ++ B) q := by
      intro o h1 h2 A B q hA k
      obtain ⟨A1, A2, rfl, hA1, hA2⟩ := map_app hA
      obtain ⟨a, A3, rfl, ha, hA3⟩ := map_cons hA2
      rw [List.append_assoc]
      refine (il hn.2.1 o h1).A A1 _ q hA1 ?_
      exact PP.andL ha ((ir hn.2.2 o h2).N A3 B hA3) k
    have e2 : (Ex.nd 2 [] [] 0 l r).tk 2 = l.tk 2 ++ wAnd :: r.tk 3 := rfl
    have e1 : (Ex.nd 2 [] [] 0 l r).tk 1 = l.tk 2 ++ wAnd :: r.tk 3 := rfl
    have e3 : (Ex.nd 2 [] [] 0 l r).tk 3 = [40] :: ((l.tk 2 ++ wAnd :: r.tk 3) ++ [[41]]) := rfl
    have dl : 1 ≤ l.depth := by cases hl <;> simp only [Ex.depth] <;> omega
    refine ⟨?_, fun A B q hA k => core o (by omega) (by omega) A B q hA k, O_of (by rw [e1, e2]) (fun A B q hA k => core o (by omega) (by omega) A B q hA k)⟩
    rw [e3]
    refine paren_N _ (by omega) trivial fun A B hA hB hB2 => ?_
    exact PP.or (core (o + 1) (by omega) (by omega) A B _ hA (PP.andL_end hB)) (PP.orL_end hB2)
  | or l r hl hr il ir =>
    intro o hod
    simp only [Ex.depth] at hod
    have core : ∀ o : Nat, o + l.depth ≤ 65 → o + r.depth ≤ 65 → ∀ (A B : List Tok) (q : PR), A.map Prod.fst = l.tk 1 ++ wOr :: r.tk 2 → (hdT B).1 ≠ wAnd → PP (.orL (.nd 3 [] [] 0 l r)) o B q → PP .or o (A ++ B) q := by
      intro o h1 h2 A B q hA hB k
      obtain ⟨A1, A2, rfl, hA1, hA2⟩ := map_app hA
      obtain ⟨a, A3, rfl, ha, hA3⟩ := map_cons hA2
      rw [List.append_assoc]
      refine (il hn.2.1 o h1).O A1 _ q hA1 (by show a.1 ≠ _; rw [ha]; decide) ?_
      exact PP.orL ha ((ir hn.2.2 o h2).A A3 B _ hA3 (PP.andL_end hB)) k
    have e1 : (Ex.nd 3 [] [] 0 l r).tk 1 = l.tk 1 ++ wOr :: r.tk 2 := rfl
    have e2 : (Ex.nd 3 [] [] 0 l r).tk 2 = [40] :: ((l.tk 1 ++ wOr :: r.tk 2) ++ [[41]]) := rfl
    have e3 : (Ex.nd 3 [] [] 0 l r).tk 3 = [40] :: ((l.tk 1 ++ wOr :: r.tk 2) ++ [[41]]) := rfl
    have dl : 1 ≤ l.depth := by cases hl <;> simp only [Ex.depth] <;> omega
    have N : ∀ A B : List Tok, A.map Prod.fst = (Ex.nd 3 [] [] 0 l r).tk 3 → PP .not o (A ++ B) (.ok (Ex.nd 3 [] [] 0 l r) B) := by
      rw [e3]
      refine paren_N _ (by omega) trivial fun A B hA hB hB2 => ?_
      exact core (o + 1) (by omega) (by omega) A B _ hA hB (PP.orL_end hB2)
    exact ⟨N, A_of (by rw [e2, e3]) N, fun A B q hA hB k => core o (by omega) (by omega) A B q hA hB k⟩
end Go.AK
namespace Go.AK
open Go Go.RowKit Go.Proofs
set_option linter.unusedVariables false
set_option maxRecDepth 100000
abbrev capsP : List AV := [.p (some (0, 0)), .p (some (1, 0)), .p (some (2, 0))]
theorem catch_none (H : Heap) : ADefer Tryd.prog 24 capsP none H fun H' => H' = H := by
  refine ADefer.enter tok Tryd.func24 rfl rfl rfl rfl rfl ?_
  conv => whnf
theorem catch_some (a b c : AV) (cs : List AV) (p : Nat) (e : Int) : ADefer Tryd.prog 24 capsP (some (wrAV p e)) [.c [a], .c [b], .c [c], .c cs]
    fun H' => ∃ Y Z, H' = [.c [.p none], .c [.i .i64 p], .c [.i .i64 e], Z, Y] := by
  refine ADefer.enter tok Tryd.func24 rfl rfl rfl rfl rfl ?_
  conv => whnf
  refine ⟨Nat.le_of_ble_eq_true rfl, ?_⟩
  conv => whnf
  refine ADraw.gh (Gh.regs [4, 0, 1, 2] (Gh.frz 4 rfl (Gh.of ?_)))
  refine ADraw.ofS tok mixed false [1, 3] [0, 1, 2, 3] [4, 5, 6] (by kernel_rfl) (fun _ _ _ _ h => h) ?_
  conv => whnf
  refine ⟨Nat.le_of_ble_eq_true rfl, ?_⟩
  conv => whnf
  refine ⟨Nat.le_of_ble_eq_true rfl, ?_⟩
  conv => whnf
  refine ⟨Nat.le_of_ble_eq_true rfl, ?_⟩
  conv => whnf
  exact ⟨_, _, rfl⟩
theorem ADefer.mono {P : Program} {f : Nat} {caps : List AV} {pv : Option AV} {H : Heap} {K K' : Heap → Prop} (h : ADefer P f caps pv H K) (hk : ∀ H, K H → K' H) : ADefer P f caps pv H K' :=
  ⟨h.there, fun E w vs u hR hv hu => (h.run E w vs u hR hv hu).mono fun e u' w' ⟨k1, k2, E', H', k3, k4, k5⟩ => ⟨k1, k2, E', H', k3, k4, hk _ k5⟩⟩
theorem parse_spec (s : Str) (hs : s.length ≤ 10000) : ACall Tryd.prog 10 [.s (sb s)] [] fun R H => R = .ret (.tup [(parseE s).1.av, .i .i64 (parseE s).2.1, .i .i64 (parseE s).2.2]) ∧ H = [] := by
  refine ACall.gh ?_
  refine ACall.enterD tok Tryd.func10 rfl rfl rfl rfl ?_
  generalize hr : parseE s = r
  conv => whnf
  by_cases hl : ((sb s).size : Int) > 8192
  · repeat (first | (refine acond_t (decide_eq_true hl) ?_; conv => whnf))
    refine ⟨Nat.le_of_ble_eq_true rfl, ?_⟩
    conv => whnf
    refine ⟨Nat.le_of_ble_eq_true rfl, ?_⟩
    conv => whnf
    refine ⟨Nat.le_of_ble_eq_true rfl, ?_⟩
    conv => whnf
    rw [sb_size] at hl
    have : r = (.nil, 0, 12) := by rw [← hr, parseE, if_pos (by omega)]
    subst this
    exact GhR.sel [] rfl (GhR.of ⟨rfl, rfl⟩)
  · repeat (first | (refine acond_f (decide_eq_false hl) ?_; conv => whnf))
    rw [sb_size] at hl
    rw [parseE, if_neg (by omega)] at hr
    intro ds
    conv => whnf
    have hl2 := lexS_len s 0
    refine ACall.frameH [3] [] rfl (args' := [pAV]) (Hc := [.c (pcl s ((0 : Nat) : Int) [] ((0 : Nat) : Int))]) rfl rfl (next_spec s [] 0 ((0 : Nat) : Int) (by simp) (by omega)) ?_
    rintro R H (⟨k1, rfl, cs, rfl⟩ | ⟨k1, rfl, rfl, hS⟩)
    · refine ⟨.inl rfl, _, rfl, ?_⟩
      conv => whnf
      have : r = (.nil, (hdT (lexS s 0)).2, 11) := by rw [← hr, nxt_bad (L := ([], 0) :: lexS s 0) k1]; rfl
      subst this
      refine ADefer.mono (catch_some (.p none) (.i .i64 0) (.i .i64 0) _ _ _) ?_
      rintro H' ⟨Y, Z, rfl⟩
      conv => whnf
      exact GhR.sel [] rfl (GhR.of ⟨rfl, rfl⟩)
    replace hS : St s (lexS s 0) := hS
    rw [nxt_ok (L := ([], 0) :: lexS s 0) k1, List.tail_cons] at hr
    refine ⟨.inl rfl, [.c [.p none], .c [.i .i64 0], .c [.i .i64 0], .c (pcl s (hdT (lexS s 0)).2 (hdT (lexS s 0)).1 ((0 : Nat) : Int))], rfl, ?_⟩
    conv => whnf
    have hf := parse_fine true s 0 (lexS s 0) hl2
    have hor : ACall Tryd.prog 26 [.p (some (3, 0))] [.c [.p none], .c [.i .i64 0], .c [.i .i64 0], .c (pcl s (hdT (lexS s 0)).2 (hdT (lexS s 0)).1 ((0 : Nat) : Int))]
        fun R H => (∃ p e cs, pp true (8 * s.length + 64) .or 0 (lexS s 0) = .err p e ∧ R = .pan (wrAV p e) ∧ H = [.c [.p none], .c [.i .i64 0], .c [.i .i64 0], .c cs]) ∨
          (∃ x L', pp true (8 * s.length + 64) .or 0 (lexS s 0) = .ok x L' ∧ R = .ret x.av ∧ H = [.c [.p none], .c [.i .i64 0], .c [.i .i64 0], .c (pcl s (hdT L').2 (hdT L').1 ((0 : Nat) : Int))] ∧ St s L') := by
      refine ACall.frameH [3] [] rfl (args' := [pAV]) (Hc := [.c (pcl s (hdT (lexS s 0)).2 (hdT (lexS s 0)).1 ((0 : Nat) : Int))]) rfl rfl (((pp_all (by omega) _).1 _ (Nat.le_refl _)) 0 (lexS s 0) (by omega) hS hf.1) ?_
      intro R H hP
      rcases hP.cases with ⟨p, e, hq, rfl, cs, rfl⟩ | ⟨x, L', hq, rfl, rfl, hS'⟩
      · exact ⟨.inl rfl, _, rfl, .inl ⟨p, e, _, hq, rfl, rfl⟩⟩
      · exact ⟨.inl rfl, _, rfl, .inr ⟨x, L', hq, congrArg ARes.ret (sub_av _ x), rfl, hS'⟩⟩
    refine ACall.mono hor ?_
    rintro R H (⟨p, e, cs, hq, rfl, rfl⟩ | ⟨x, L', hq, rfl, rfl, hS'⟩)
    · conv => whnf
      have : r = (.nil, p, e) := by rw [← hr, hq]; rfl
      subst this
      refine ADefer.mono (catch_some (.p none) (.i .i64 0) (.i .i64 0) _ _ _) ?_
      rintro H' ⟨Y, Z, rfl⟩
      conv => whnf
      exact GhR.sel [] rfl (GhR.of ⟨rfl, rfl⟩)
    have hdx := hf.2 x L' hq
    replace hr : (if (hdT L').1 ≠ [] then (Ex.nil, (hdT L').2, (11 : Int)) else if 64 < x.depth then (.nil, 0, 12) else (x, 0, 0)) = r := by rw [← hr, hq]; rfl
    cases x with
    | nil =>
      conv => whnf
      refine ⟨Nat.le_of_ble_eq_true rfl, ?_⟩
      conv => whnf
      by_cases ht : (hdT L').1 = []
      · have b1 : (!((hdT L').1 == ([] : Str))) = false := by rw [ht]; rfl
        rw [if_neg (fun h => h ht)] at hr
        repeat (first | (refine acond_f (b1) ?_; conv => whnf))
        refine ACall.frameH [] [] rfl (args' := [Ex.av (.nil)]) (Hc := []) rfl rfl (depth_spec (.nil) (by omega)) ?_
        rintro r0 H0 ⟨rfl, rfl⟩
        refine ⟨.inl rfl, _, rfl, ?_⟩
        conv => whnf
        by_cases hd : ((Ex.depth (.nil) : Nat) : Int) > 64
        · exact absurd hd (by decide)
        · repeat (first | (refine acond_f (decide_eq_false hd) ?_; conv => whnf))
          refine ⟨Nat.le_of_ble_eq_true rfl, ?_⟩
          conv => whnf
          refine ⟨Nat.le_of_ble_eq_true rfl, ?_⟩
          conv => whnf
          refine ⟨Nat.le_of_ble_eq_true rfl, ?_⟩
          conv => whnf
          refine ADefer.mono (catch_none _) ?_
          rintro H' rfl
          conv => whnf
          rw [if_neg (by omega)] at hr
          subst hr
          refine GhR.sel [] rfl (GhR.of ⟨?_, rfl⟩)
          show ARes.ret (.tup [sub _ (Ex.av _), .i .i64 0, .i .i64 0]) = _
          rw [sub_av]; rfl
      · have b1 : (!((hdT L').1 == ([] : Str))) = true := by simpa using ht
        rw [if_pos ht] at hr
        subst hr
        repeat (first | (refine acond_t (b1) ?_; conv => whnf))
        refine ACall.frameH [3] [] rfl (args' := [pAV, .i .i64 11]) (Hc := [.c (pcl s (hdT L').2 (hdT L').1 ((0 : Nat) : Int))]) rfl rfl (stop_spec s (hdT L').1 (hdT L').2 ((0 : Nat) : Int) 11) ?_
        rintro r0 H0 ⟨rfl, rfl⟩
        refine ⟨.inl rfl, _, rfl, ?_⟩
        conv => whnf
        refine ADefer.mono (catch_some (.p none) (.i .i64 0) (.i .i64 0) _ (hdT L').2 11) ?_
        rintro H' ⟨Y, Z, rfl⟩
        conv => whnf
        exact GhR.sel [] rfl (GhR.of ⟨rfl, rfl⟩)
      
    | nd k w o n xl xr =>
      conv => whnf
      refine ⟨Nat.le_of_ble_eq_true rfl, ?_⟩
      conv => whnf
      by_cases ht : (hdT L').1 = []
      · have b1 : (!((hdT L').1 == ([] : Str))) = false := by rw [ht]; rfl
        rw [if_neg (fun h => h ht)] at hr
        repeat (first | (refine acond_f (b1) ?_; conv => whnf))
        refine ACall.frameH [] [] rfl (args' := [Ex.av (.nd k w o n xl xr)]) (Hc := []) (by show [sub _ (Ex.av (.nd k w o n xl xr))] = _; rw [sub_av]) rfl (depth_spec (.nd k w o n xl xr) (by omega)) ?_
        rintro r0 H0 ⟨rfl, rfl⟩
        refine ⟨.inl rfl, _, rfl, ?_⟩
        conv => whnf
        by_cases hd : ((Ex.depth (.nd k w o n xl xr) : Nat) : Int) > 64
        · repeat (first | (refine acond_t (decide_eq_true hd) ?_; conv => whnf))
          refine ⟨Nat.le_of_ble_eq_true rfl, ?_⟩
          conv => whnf
          refine ⟨Nat.le_of_ble_eq_true rfl, ?_⟩
          conv => whnf
          refine ⟨Nat.le_of_ble_eq_true rfl, ?_⟩
          conv => whnf
          refine ADefer.mono (catch_none _) ?_
          rintro H' rfl
          conv => whnf
          rw [if_pos (by omega)] at hr
          subst hr
          exact GhR.sel [] rfl (GhR.of ⟨rfl, rfl⟩)
        · repeat (first | (refine acond_f (decide_eq_false hd) ?_; conv => whnf))
          refine ⟨Nat.le_of_ble_eq_true rfl, ?_⟩
          conv => whnf
          refine ⟨Nat.le_of_ble_eq_true rfl, ?_⟩
          conv => whnf
          refine ⟨Nat.le_of_ble_eq_true rfl, ?_⟩
          conv => whnf
          refine ADefer.mono (catch_none _) ?_
          rintro H' rfl
          conv => whnf
          rw [if_neg (by omega)] at hr
          subst hr
          refine GhR.sel [] rfl (GhR.of ⟨?_, rfl⟩)
          show ARes.ret (.tup [sub _ (Ex.av _), .i .i64 0, .i .i64 0]) = _
          rw [sub_av]; rfl
      · have b1 : (!((hdT L').1 == ([] : Str))) = true := by simpa using ht
        rw [if_pos ht] at hr
        subst hr
        repeat (first | (refine acond_t (b1) ?_; conv => whnf))
        refine ACall.frameH [3] [] rfl (args' := [pAV, .i .i64 11]) (Hc := [.c (pcl s (hdT L').2 (hdT L').1 ((0 : Nat) : Int))]) rfl rfl (stop_spec s (hdT L').1 (hdT L').2 ((0 : Nat) : Int) 11) ?_
        rintro r0 H0 ⟨rfl, rfl⟩
        refine ⟨.inl rfl, _, rfl, ?_⟩
        conv => whnf
        refine ADefer.mono (catch_some _ (.i .i64 0) (.i .i64 0) _ (hdT L').2 11) ?_
        rintro H' ⟨Y, Z, rfl⟩
        conv => whnf
        exact GhR.sel [] rfl (GhR.of ⟨rfl, rfl⟩)
      
end Go.AK
